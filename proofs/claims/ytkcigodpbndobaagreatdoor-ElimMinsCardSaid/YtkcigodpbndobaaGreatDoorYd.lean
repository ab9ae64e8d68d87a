/- own texts, made small by a tool (wip/ holds them as they were written): no statement of the seat. -/
import Derived.Test.YtkcigodpbndobaaGreatDoorYc
set_option linter.unusedVariables false
set_option linter.unusedSimpArgs false
set_option linter.unnecessarySimpa false
open Array renaming getElem?_eq_some_iff→Z9
open BitVec renaming ofInt→U2
open Bool renaming false→sp,true→rs,not_true→Y2,not_false→X1,true_and→W7,and_eq_true→V8,eq_iff_iff→U5
open Decidable renaming not_not→Z2
open Go renaming Value→x1,World→x3,TypeId→r8,IntKind→o4,Program→X2
open Go.Builtin renaming append_→j4,len_→X7
open Go.Instr renaming loadAt→u4,fieldAt→u6,storeAt→o6,indexAt→j0,extract→c7,buildSlice→Z3,sliceAt→V6,alloc→S5
open Go.IntKind renaming i64→Y6
open Go.Proofs.Tryz renaming prog→x7
open Int renaming toNat_natCast→u7,mul_le_mul_of_nonneg_right→W6
open List renaming getElem?_eq_some_iff→x4,mem_of_getElem?→x5,getElem?_eq_getElem→x6,getElem?_map→x8,getD_eq_getElem?_getD→v8,take_add_one→u5,replicate→u9,length_map→r9,take_length→p8,length_append→p9,take_of_length_le→o7,mem_map→o8,mem_append→o9,map_append→n9,length_take→j6,ext_getElem?→j9,mem_iff_getElem?→c8,eq_nil_of_length_eq_zero→c9,mem_singleton→b8,range→Z4,getElem?_set_self→Z5,getElem?_eq_none→Y0,getElem?_take_of_lt→Y3,length_cons→Y4,getElem?_append_right→Y5,getElem?_set→Y8,drop_eq_getElem_cons→X0,length_eq_one_iff→X3,getElem?_set_ne→W5,getElem?_append_left→W8,append_nil→V2,map_congr_left→V3,mem_of_mem_take→V4,map_set→V5,flatMap_cons→U3,map_cons→U4,length_set→U7,getElem?_zip_eq_some→U9,getElem_mem→T0,mem_range→T1,mem_filter→T2,mem_or_eq_of_mem_set→T4,map_map→T8,map_take→S0,set_append_right→S7,length_filter_le→S8
open Nat renaming le_refl→o5,le_trans→Y1,zero_le→X8,zero_add→V0,mul_one→V1,mul_le_mul_right→V7,sub_self→U1,pow_le_pow_right→T3,add_mul→T7
open Option renaming toList_some→l7,isNone_some→l9,some→b9,map_some→Z0,map_eq_some_iff→Z6,map→W3,isSome_some→S2,isSome_none→S3,getD_some→R3
open Option.some renaming inj→Z7,injEq→X6
set_option maxHeartbeats 16000000
open Option renaming some→σ,none→ν
variable{a cs l co szs t tl:Λ}{I w:x3}{aO sv d9 v z:x1}{K:x1->Prop}{S:Nat->Prop}{c k n y:Int}{e:r8}{B N ac ad gs gz j pos:Nat}{L:List (Λ)}
namespace Go.Proofs.YtkcigodpbndobaaGreatDoor
open Go Go.Vc Go.RowKit Go.Proofs Go.Proofs.Tryz
set_option maxRecDepth 100000
theorem Qs(M:Bytes l)(al:l.length<=100000):ak x7 Jw [cb l] w λv I=>v=lR l/\Ext w I:=by
 refine ay func127 ?_;refine jb (λW X J=>Ext w J/\∃(m:Λ)(s:Int),W=cb m/\X=Δ s/\Bytes m/\m.length<=100000/\q4 l m s) ?_ ?_
 .rintro _ _ J ⟨B,m,s,rfl,rfl,r,am,N⟩;rw[pF da.u,bi,aj];refine⟨λO=>?_,λO=>?_⟩
  .have P:m=[]:=c9 Ω;exact⟨by rw[uM N (by rw[P];rfl)],B⟩
  have P:m≠[]:=by grind
  refine qB.range m.length (λi _ _ C E e=>Ext J e/\∃(n:Int)(a:Bool),C= .int .u64 n/\E= .bool a/\oA n a ((m.take i).foldl fC 0)/\(m.take i).all gG=rs) Ω (by grind [Ext.refl,LL]) ?_ ?_
  .rintro i Y t3 _ _ e Z hi ⟨G,n,a,rfl,rfl,j,z⟩ an;obtain⟨b,p⟩:=aC (l:=m) hi;have ap:=r b (x5 p);rw[pF da.u];refine bt Ω ?_;refine xC (λ_ _ C E f=>Ext J f/\∃(n:Int)(a:Bool),C= .int .u64 n/\E= .bool a/\oA n a ((m.take (i+1)).foldl fC 0)/\(m.take (i+1)).all gG=rs) ?_ ?_
   .rintro aq au a3 a4 f av;rw[aL]
    grind
   intro az H;refine aV (λv f=>e=f/\v= .bool (!gG b)) ?_ ?_
   rotate_left
   .intro K A;rw[sk rfl da.u r p,aP,aj];refine⟨by grind [gG],λh=>?_⟩;rw[sk rfl da.u r p,bG]
    grind [gG]
   rintro _ _ ⟨rfl,rfl⟩;cases Q:gG b with
   |false=>
    rw[X1,bZ];exact⟨by grind [uM,Dh],B.F G⟩
   |true=>
    rw[Y2,aW];have aa:=ro Q;have R:=LK j aa;rw[Df p,De p,z,Q]at H;have ac:=j.1;have ad:=j.2.1;refine aV (λv f=>e=f/\v= .bool (a||decide (461168601842738790<n))) ?_ ?_
    rotate_left
    .intro K A;rw[bG,aj]
     grind
    rintro _ _ ⟨rfl,rfl⟩;by_cases S:a=rs\/461168601842738790<n
    .have q:(a||decide (461168601842738790<n))=rs:=by grind
     rw[m5 S,q]at R;rw[q,bA,Y2,aW]
     grind
    .have q:(a||decide (461168601842738790<n))=sp:=by
      grind
     rw[m6 S,q]at R;have aw:¬461168601842738790<n:=Ω
     rw[q,bA,X1,bZ,fO,sk rfl da.u r p,dN,wrap_u8 Ω Ω,e9 cP.u fL.u,lw Ω Ω,lw Ω Ω,aL,lw Ω Ω]
     grind
  .rintro Y t3 _ _ e Z ⟨G,n,a,rfl,rfl,j,z⟩;rw[p8]at z j;rw[pF da.u];refine b6 Ω ?_;have ax:=LM j;have ac:=j.1;have ad:=j.2.1;have ae:∀{x:Int},x=m.foldl fC 0->0<=x->x<=4611686018427387904->(ab x7 (convert fL ao (.int .u64 x)) e λaf=>
     ab x7 (aQ .mul ao sp sp (Δ s) af) e λag=>(λv I=>v=lR l/\Ext w I) (.tuple #[ag,(Δ 0)]) e):=by
    intro x aA O h1;rw[e9 fL.u ao.u,lm Ω Ω,fO];have hw:Y6.wrap (s*x)=s*x:=by
     rcases N.1 with rfl|rfl<;>exact(by grind [lm])
    rw[hw];refine⟨?_,B.F G⟩
    grind [Dk,Dg]
   refine aV (λv f=>e=f/\v= .int .u64 (m.foldl fC 0)) ?_ ?_
   .rintro _ _ ⟨rfl,rfl⟩;have U:=xz z ⟨Int.le_refl _,Φ⟩;exact ae rfl U.1 U.2
   intro K A;refine aV (λv f=>e=f/\v= .bool (a||decide (4611686018427387904<n))) ?_ ?_
   .rintro _ _ ⟨rfl,rfl⟩;rw[bM]
    grind
   .intro aB aD;cases a with
    |true=>rw[bZ];grind
    |false=>rw[aW,bG];grind
 .intro az H;refine aV (λv V=>w=V/\∃c:Bool,v= .bool c/\(c=rs↔l[0]?=σ 45)) ?_ ?_
  .rintro _ _ ⟨rfl,c,rfl,ah⟩;rw[bM];refine⟨λai=>?_,λq=>?_⟩
   .obtain⟨m,rfl⟩:∃m,l=45::m:=by
     have:=ah.1 ai;cases l<;>grind
    rw[Cz (y:=1) (i:=1) rfl da.u Ξ];exact H _ _ _ ⟨Ext.refl _,m,-1,rfl,rfl,λb L=>M b (.tail _ L),by grind,Di⟩
   grind [Ext.refl,Dj]
  .intro K A;rw[pF da.u,bG,aj];refine⟨λh=>?_,λh=>A _ _ ⟨rfl,sp,rfl,?_⟩⟩
   .obtain⟨b,L⟩:=aC (l:=l) (i:=0) Ω;rw[sk (y:=0) rfl da.u M L,bi]
    grind
   grind
theorem Qt{s:Go.Sem x1}(h:ab x7 s w λu=>u=v)(hk:K v):ab x7 s w K:=by
 obtain⟨u,h1,rfl⟩:=h;exact⟨u,h1,hk⟩
abbrev iX:Type:=Λ×Int
def iB(x:iX):List x1:=[cb x.1,Δ x.2]
theorem yU(x:iX):∀u∈iB x,u.oneCell'=rs:=by
 intro u a;simp[iB]at a;rcases a with rfl|rfl<;>rfl
def ke(w:x3)(v:x1)(L:List iX):Prop:=b5 w 2 v L.length (L.flatMap iB)
theorem yV{g:Nat}{L:List iX}(h:bm iB 2 cu w g v L):ke w v L:=h.sl
theorem Fp{L:List iX}{a:r8}(h:ke w v L):ab x7 (X7 #[fy] a #[v]) w K=K (Δ (L.length:Int)):=by
 obtain⟨_,_,_,_,_,rfl,_⟩:=h;exact iu fy.u
theorem Qu{k n:Nat}{cs:List x1}(h:b5 w k v n cs)(f:af S w I)(p:∀r,lc v r->¬S r):b5 I k v n cs:=by
 obtain⟨h1,b,o,base,cap,rfl,q,s,a,x⟩:=h;refine⟨h1,b,o,base,cap,rfl,q,s,a,?_⟩;rcases Nat.eq_zero_or_pos n with e|e
 .have:cs=[]:=c9 (by grind);subst this;intro j v y;simp at y
 .have z:=a e;exact gW f (p b ⟨⟨b,o,ν⟩,n,cap,by rw[z],rfl⟩) x
theorem ke.aa{L:List iX}(h:ke w v L)(a:af S w I)(e:∀r,lc v r->¬S r):ke I v L:=Qu h a e
theorem Fq{x:iX}{L:List iX}(h:ke w v (x::L))(a:∀b o,w.rangeAt b o (iB x)->K (.pointer (σ ⟨b,o,ν⟩))):ab x7 (j0 fy v (Δ 0)) w K:=by
 obtain⟨_,b,o,base,cap,rfl,_,_,e,f⟩:=h;have:=fs (P:=x7) (w:=w) (K:=K) (k:=.i64) (c:=cap) fy.u cu.i (show 0<(x::L).length by simp) e;rw[show((0:Nat):Int)=0 from rfl]at this;rw[this];refine a _ _ λj u p=>?_;have q:=(x4.1 p).1;rw[Nat.zero_mul,Nat.add_zero];exact f j u (by grind)
theorem Qv{x:iX}{L:List iX}(h:ke w v (x::L))(s:∀j,(∀I,ke I v (x::L)->ke I j L)->(∀r,lc j r->lc v r)->K j):ab x7 (V6 fy v (σ (Δ 1)) ν ν) w K:=by
 have A:=h;obtain⟨_,b,o,base,cap,rfl,B,_⟩:=h;rw[eB fy.u cu.i (mA 1 1 rfl) gX dU Ξ Ω (o5 _)];refine s _ (λI y=>?_) λr z=>?_
 .have:=b5.part (l:=1) (h:=(x::L).length) (m:=cap) y Ξ (o5 _) Ω (o5 _);have e:(((x::L).flatMap iB).drop (1*2)).take (((x::L).length-1)*2)=L.flatMap iB:=by
   grind [iB,o7]
  rw[e]at this;exact this
 .obtain⟨a,n,c,f,p⟩:=z;split at f
  .cases f;exact⟨_,_,_,rfl,p⟩
  .cases base with
   |none=>cases f
   |some q=>cases f;exact⟨_,_,_,rfl,p⟩
theorem Qw{g n:Nat}{L:List iX}(x:y=(n:Int))(h:bm iB 2 cu w g v L)(z:n<=L.length)(A:∀p,ke w p (L.take n)->(∀r,lc p r->lc v r)->K p):ab x7 (V6 fy v ν (σ (Δ y)) ν) w K:=by
 have B:=yV h;obtain⟨_,b,o,base,cap,rfl,E,_⟩:=h.sl;rw[eB fy.u cu.i iN (nF n y x) dU (X8 _) Ω (o5 _)];refine A _ ?_ λr C=>?_
 .have:=b5.part (l:=0) (h:=n) (m:=cap) B (X8 _) z Ω (o5 _);have e:((L.flatMap iB).drop (0*2)).take ((n-0)*2)=(L.take n).flatMap iB:=by
   rw[Nat.zero_mul,List.drop_zero,Nat.sub_zero,sI (f:=iB) n λ_ _=>rfl]
  grind [ke]
 .obtain⟨a,n,c,j,s⟩:=C;split at j
  .cases j;exact⟨_,_,_,rfl,s⟩
  .cases base with
   |none=>cases j
   |some q=>cases j;exact⟨_,_,_,rfl,s⟩
def Qx(w:x3)(e:Λ)(v:x1)(I:x3):Prop:=Ext w I/\∃a L,∃bad:Int,v= .tuple #[a,Δ bad]/\ke I a L/\L.map (·.1)=(lex e).1/\(0<=bad↔(lex e).2=sp)/\(∀r,lc a r->w.heap.size<=r)/\∀r,lc a r->∃c,ag I r cu c
theorem Qy{p:x1}{q:Λ}(O:aF .u8 w p q)(am:Bytes q)(aO:q.length<=65536):ak x7 IG [p] w (Qx w q):=by
 refine ay func57 ?_;rw[aS cS.u O];refine qB.range q.length (λi _ _ s G J=>Ext w J/\∃g L,∃(j:List (Λ))(y:Λ)(op:Bool),G= .bool op/\bm iB 2 cu J g s L/\L.map (·.1)=(if op then j++[y]else j)/\(op=rs->y.length<=i)/\L.length<=i/\j1 (q.drop i) j y op=lex q/\∀r,lc s r->w.heap.size<=r) O.le
  ⟨Ext.refl _,0,[],[],[],sp,rfl,bm.nil _ _ _ _ _,rfl,by grind,o5 _,Mb q,by grind [gl]⟩ ?_ ?_
 rotate_left
 .rintro an t3 s G J ao ⟨E,g,L,j,y,op,rfl,B,z,_,_,A,S⟩;refine b6 Ω ?_;rw[List.drop_length]at A;have A:(if op then j++[y]else j,rs)=lex q:=A;exact⟨E,s,L,-1,rfl,yV B,by grind,by grind,S,λr Q=>by obtain⟨rfl,c,ap⟩:=dJ B Q;grind⟩
 rintro i an t3 s G J ao hi ⟨E,g,L,j,y,op,rfl,B,z,aQ,aR,A,S⟩ aU;obtain⟨b,ae⟩:=aC (l:=q) hi;have aX:=am b (x5 ae);have af:q.drop i=b::q.drop (i+1):=by grind [X0]
 rw[af]at A;unfold j1 at A;refine bt Ω ?_;refine xC (λ_ _ s G V=>Ext w V/\∃g L,∃(j:List (Λ))(y:Λ)(op:Bool),G= .bool op/\bm iB 2 cu V g s L/\L.map (·.1)=(if op then j++[y]else j)/\(op=rs->y.length<=i+1)/\L.length<=i+1/\j1 (q.drop (i+1)) j y op=lex q/\∀r,lc s r->w.heap.size<=r) ?_ ?_
 .rintro aY aZ a3 a4 V a1;rw[aL]
  grind
 intro az aq;rw[ba cS.u cP.i Ψ (O.W E) ae];refine aV (λv H=>J=H/\v= .bool (cY b)) ?_ ?_
 rotate_left
 .intro W C;unfold cY at C;rw[bi,aj];refine⟨by grind,λh1=>?_⟩;rw[bi,aj];refine⟨by grind,λa2=>?_⟩;rw[bi,aj];refine⟨by grind,λa6=>?_⟩;rw[bi]
  grind
 rintro _ _ ⟨rfl,rfl⟩;cases U:cY b with
 |true=>
  rw[bZ]
  grind
 |false=>
  rw[aW];rw[m6 (by grind)]at A;refine aV (λv H=>J=H/\v= .bool (!b7 b)) ?_ ?_
  rotate_left
  .intro W C;unfold b7 at C;rw[aP,aj];refine⟨by grind,λh=>?_⟩;rw[bG]
   grind [pl]
  rintro _ _ ⟨rfl,rfl⟩;cases hw:b7 b with
  |false=>
   rw[X1,bZ];rw[m6 (by grind)]at A;refine aV (λv H=>J=H/\∃R,ke J v R/\R.map (·.1)=j/\(∀r,lc v r->w.heap.size<=r)/\∀r,lc v r->lc s r) ?_ ?_
   .rintro v _ ⟨rfl,R,X,a7,Y,au⟩;exact⟨E,v,R,(i:Int),rfl,X,by grind,by grind,Y,λr Q=>by obtain⟨rfl,c,ap⟩:=dJ B (au r Q);grind⟩
   .intro W C;cases op with
    |false=>
     rw[aW];rw[m6 Ξ]at z;exact C _ _ ⟨rfl,L,yV B,z,S,λ_ h=>h⟩
    |true=>
     rw[bZ];rw[m5 rfl]at z;have aw:L.length=j.length+1:=by have:=congrArg List.length z;grind
     rw[eI fy.u B,dN,lm Ω Ω];refine Qw (n:=j.length) Ω B Ω λI X Y=>C _ _ ⟨rfl,_,X,?_,by grind,Y⟩
     grind [S0]
  |true=>
   rw[Y2,aW];rw[m5 hw]at A;refine aV (λs Z=>Ext w Z/\∃g M,∃x:iX,bm iB 2 cu Z g s (M++[x])/\M.map (·.1)=j/\x.1=(if op then y else[])/\(M++[x]).length<=i+1/\∀r,lc s r->w.heap.size<=r) ?_ ?_
   .rintro a8 Z ⟨ag,ax,M,x,aA,bb,bc,bd,aB⟩;intro aa ac _ _;have N:=aA.W ac;have ah:(M++[x])[M.length]?=σ x:=Ξ
    have be:(M++[x]).length=M.length+1:=Ξ
    rw[eI fy.u N,dN,lm Ω Ω,c5 (i:=M.length) Ω fy.u cu.i N Ω,aT cu.p rfl,av (o:=M.length*2+0) Ψ (N.range ah 0 _ rfl),aL,lm Ω Ω];obtain⟨bf,ai⟩:∃I,aF .u8 aa I [b]/\ab x7 (V6 cS p (σ (Δ (i:Int))) (σ (Δ ((i:Int)+1))) ν) aa (λv=>v=I):=by
     have aD:=O.W (ag.F ac);have:=uE (P:=x7) (low:=σ (Δ (i:Int))) (high:=σ (Δ ((i:Int)+1))) (K:=λv=>aF .u8 aa v [b]) cS.u cP.i aD (mA i _ rfl) (nF (i+1) ((i:Int)+1) Ω) Ω Ω λI bg=>by
      have e:((ints .u8 q).drop (i*1)).take ((i+1-i)*1)=ints .u8 [b]:=by
       simp only[V1,show i+1-i=1 by omega];rw[ints,<-List.map_drop,<-S0,af];rfl
      grind [aF.of]
     obtain⟨v,aE,aG⟩:=this;exact⟨v,aG,v,aE,rfl⟩
    refine Qt ai.2 ?_;have bh:x.1.length<=65536:=by
     grind
    rw[xE cS.u cP.u da.u ai.1,xD Θ,c5 (i:=M.length) Ω fy.u cu.i N Ω,aT cu.p rfl];refine re (a':=(x.1++[b],x.2)) da.i rfl rfl N ah rfl Ω λbj aH bk al=>?_;have e:(M++[x]).set M.length (x.1++[b],x.2)=M++[(x.1++[b],x.2)]:=by
     grind
    rw[e]at al;refine aq _ _ _ _ _ ⟨(ag.F ac).then aH (by grind),ax,_,j,x.1++[b],rs,rfl,al,by grind,λ_=>?_,by grind,?_,aB⟩
    all_goals grind
   .intro W C;cases op with
    |true=>
     rw[bA,Y2,aW];rw[m5 rfl]at z;have aw:L.length=j.length+1:=by have:=congrArg List.length z;grind
     obtain⟨M,x,rfl⟩:∃M x,L=M++[x]:=by
      have:L≠[]:=by grind
      exact⟨L.dropLast,L.getLast this,(List.dropLast_concat_getLast this).symm⟩
     grind [List.append_inj']
    |false=>
     rw[bA,X1,bZ];rw[m6 Ξ]at z;rw[dq (cs:=#[cb [],Δ (i:Int)]) Ψ];refine iS (f:=iB) (a:=(([],(i:Int)):iX)) fy.u cu.i Ω rfl rfl λv9 bl bn bo ad aI=>?_;have aJ:=B.W ad;refine jk fy.u cu.i rfl aJ (by simpa using aI.sl) (yU _) Ω Ω λI aK bp aM bq aN=>?_;have br:=E.size;have z9:=ad.size;refine C _ _ ⟨(E.F ad).then aN (by grind),aK,L,_,aM,z,rfl,Θ,λr Q=>?_⟩
     grind
structure yW where
 v:x1
 t:Λ
 c:Int
def p1(y:yW):List x1:=[y.v,Δ y.c]
def lY(w:x3)(g:Nat)(v:x1)(l:List (Λ×Int)):Prop:=∃L:List yW,bm p1 2 ck w g v L/\(∀y∈L,∃gy,an .i64 ao w gy y.v y.t)/\L.map (λy=>(y.t,y.c))=l
structure kf where
 aI:x1
 d9:x1
 o:Int
 cm:x1
def fE(h:kf):List x1:=[h.aI,h.d9,Δ h.o,h.cm]
def im(w:x3)(h:kf)(x:cv):Prop:=(∃g,an .i64 ao w g h.aI x.scope)/\(∃g,an .i64 ao w g h.d9 x.co)/\h.o=x.other/\∃g,lY w g h.cm x.lines
def iC(w:x3)(r:Nat):Prop:=∃e c,ag w r e c/\e≠ao/\e≠ck
theorem eV{g:Nat}(h:an .i64 ao w g v l)(f:af S w I)(j:∀r,S r->iC w r\/w.heap.size<=r):an .i64 ao I g v l:=bl h f λr a U=>by
 rcases j r U with⟨e,c,p,q,_⟩|s
 .exact ch h p (λhe=>q he.symm) a rfl
 .obtain⟨x,y⟩:=bD h a;omega
theorem yX{α:Type}{f:α->List x1}{k:Nat}{g:Nat}{L:List α}(h:bm f k e w g v L)(p:af S w I)(q:∀r,S r->(∃a c,ag w r a c/\a≠e)\/w.heap.size<=r):bm f k e I g v L:=h.aa p λr j U=>by
 rcases q r U with⟨a,c,s,x⟩|y
 .exact cO h s (λhe=>x he.symm) j
 .obtain⟨z,A⟩:=h.li j;omega
theorem lY.dO{g:Nat}{l:List (Λ×Int)}(h:lY w g v l)(a:af S w I)(f:∀r,S r->iC w r\/w.heap.size<=r):lY I g v l:=by
 obtain⟨L,h1,j,p⟩:=h;refine⟨L,yX h1 a λr q=>(f r q).imp (λ⟨e,c,s,_,x⟩=>⟨e,c,s,x⟩) id,λy z=>?_,p⟩;obtain⟨gy,hm⟩:=j y z;exact⟨gy,eV hm a f⟩
theorem im.dO{h:kf}{x:cv}(ap:im w h x)(a:af S w I)(e:∀r,S r->iC w r\/w.heap.size<=r):im I h x:=by
 obtain⟨⟨g1,h1⟩,⟨f,j⟩,p,q,s⟩:=ap;exact⟨⟨g1,eV h1 a e⟩,⟨f,eV j a e⟩,p,q,s.dO a e⟩
theorem im.W{h:kf}{x:cv}(ap:im w h x)(a:Ext w I):im I h x:=ap.dO (a.aa λ_=>False) λ_ h=>h.elim
theorem im.one{h:kf}{x:cv}(ap:im w h x):∀u∈fE h,u.oneCell'=rs:=by
 obtain⟨⟨g1,h1⟩,⟨j,e⟩,p,q,L,f,_⟩:=ap;intro u a;simp[fE]at a;rcases a with rfl|rfl|rfl|rfl
 .exact h1.ls.cells.2
 .exact e.ls.cells.2
 .rfl
 .exact (eK f.sl).2
def oP(w:x3)(a:x1)(f:List iX)(gs:Nat)(sv:x1)(L:List kf)(e:List cv):Prop:=(ke w a f/\∀r,lc a r->∃c,ag w r cu c)/\bm fE 4 bb w gs sv L/\e.length=L.length/\∀(i:Nat)h x,L[i]?=σ h->e[i]?=σ x->im w h x
theorem oP.dO{p:x1}{y:List iX}{L:List kf}{z:List cv}(h:oP w p y gs sv L z)(j:af S w I)(q:∀r,S r->(∃e c,ag w r e c/\e≠ao/\e≠ck/\e≠cu/\¬lc sv r)\/w.heap.size<=r):oP I p y gs sv L z:=by
 obtain⟨⟨h1,A⟩,B,E,F⟩:=h;have hw:∀r,lc p r->¬S r:=λr a U=>by
  obtain⟨c,f⟩:=A r a;rcases q r U with⟨e,G,C,_,_,s,_⟩|H
  .exact s (eJ C f)
  .have:=f.lt;omega
 refine⟨⟨h1.aa j hw,λr a=>?_⟩,B.aa j λr a U=>?_,E,λi ap x hi J=>(F i ap x hi J).dO j λr a=>(q r a).imp (λ⟨e,c,f,K,M,_⟩=>⟨e,c,f,K,M⟩) id⟩
 .obtain⟨c,f⟩:=A r a;exact⟨c,f.aa j (hw r a)⟩
 .rcases q r U with⟨e,G,C,_,_,_,s⟩|H
  .exact s a
  .obtain⟨N,O⟩:=B.li a;omega
def iY(a:x1)(e f bad h big j m1:Int)(sv:x1):List x1:=[a,Δ e,Δ f,Δ bad,Δ h,Δ big,Δ j,Δ m1,sv]
def Qz(N:Nat)(so:Option aH)(a:List iX)(e bad big m1:Int)(L:List kf)(f:List cv):Prop:=match so with
 |some s=>bad=0/\e≠0/\(big≠0↔s.big=rs)/\(s.big=sp->m1=s.m1)/\True/\a.map (·.1)=s.d8/\(∀t∈s.d8,Bytes t/\t.length<=65536)/\f.map (λx=>(x.co,x.lines))=s.m2/\L.length+a.length<=100000
 |none=>bad≠0/\L.length<=N
def bQ(w:x3)(g B:Nat)(H:ah)(N:Nat)(so:Option aH):Prop:=100000<=N/\∃w0 a e gs sv L f,∃(j h bad p big q m1:Int),w0.heap.size=B/\af (λr=>r=g) w0 w/\(∃c,ag w0 g bE c)/\ag w g bE (iY a j h bad p big q m1 sv)/\oP w0 a e gs sv L f/\(∀r,lc sv r->H r)/\Qz N so e h bad big m1 L f
theorem oP.g{g:Nat}{e:x1}{f:List iX}{L:List kf}{j:List cv}(h:oP w e f gs sv L j)(q:af (λr=>r=g) w I)(s:∃c,ag w g bE c):oP I e f gs sv L j:=
 h.dO q λr a=>.inl (by
  have a:r=g:=a;subst a;obtain⟨c,p⟩:=s;exact⟨_,c,p,Φ,Φ,Φ,λx=>cO h.2.1 p Φ x⟩)
theorem bQ.new{g:Nat}{H:ah}{so:Option aH}(h:bQ w g B H N so)(a:af S w I)(e:∀r,S r->B<=r):bQ I g B H N so:=by
 obtain⟨s,w0,x,y,gs,sv,L,z,A,C,bad,E,big,F,m1,h1,f,j,G,J,K,M⟩:=h;have p:g<w0.heap.size:=by obtain⟨c,O⟩:=j;exact O.lt
 exact⟨s,w0,x,y,gs,sv,L,z,A,C,bad,E,big,F,m1,h1,⟨Y1 f.size a.size,λr o q U p=>a.a8 r o (f.a8 r o q U p) U λP=>by
  have:=e r P;have:=(Z9.1 q).1;omega⟩,j,G.aa a λU=>by have:=e g U;omega,J,K,M⟩
theorem bQ.W{g:Nat}{H:ah}{so:Option aH}(h:bQ w g B H N so)(a:Ext w I):bQ I g B H N so:=h.new (a.aa λ_=>False) λ_ h=>h.elim
theorem bQ.base{g:Nat}{H:ah}{so:Option aH}(h:bQ w g B H N so):bQ w g w.heap.size H N so:=by
 obtain⟨e,w0,f,j,gs,sv,L,p,q,r,bad,s,big,x,m1,h1,y,z,a,A,C,E⟩:=h;exact⟨e,w,f,j,gs,sv,L,p,q,r,bad,s,big,x,m1,rfl,af.refl _ _,⟨_,a⟩,a,A.g y z,C,E⟩
theorem bQ.dO{g:Nat}{H:ah}{so:Option aH}(h:bQ w g B H N so)(j:af S w I)(p:∀r,S r->(∃e c,ag w r e c/\e≠ao/\e≠ck/\e≠cu/\e≠bE/\¬H r)\/w.heap.size<=r):bQ I g I.heap.size H N so:=by
 obtain⟨s,w0,x,y,gs,sv,L,z,A,C,bad,E,big,F,m1,h1,G,J,f,K,q,M⟩:=h.base;have O:=K.g G J;have a:=f.aa j λU=>by
  rcases p g U with⟨e,c,a,_,_,_,P,_⟩|Z
  .exact P (eJ a f)
  .have:=f.lt;omega
 refine⟨s,I,x,y,gs,sv,L,z,A,C,bad,E,big,F,m1,rfl,af.refl _ _,⟨_,a⟩,a,O.dO j λr Q=>(p r Q).imp (λ⟨e,c,a,R,V,W,_,X⟩=>⟨e,c,a,R,V,W,λY=>X (q r Y)⟩) id,q,M⟩
theorem bQ.lt{g:Nat}{H:ah}{so:Option aH}(h:bQ w g B H N so):g<B/\B<=w.heap.size:=by
 obtain⟨f,w0,j,p,gs,sv,L,q,r,s,bad,x,big,y,m1,h1,a,⟨c,e⟩,_⟩:=h;have:=e.lt;have:=a.size;omega
theorem jn{g:Nat}{H:ah}{so:Option aH}(h:bQ w g B H N so):∃a,∃(e f bad j big p m1:Int),∃sv,ag w g bE (iY a e f bad j big p m1 sv)/\(so.isSome=rs↔bad=0):=by
 obtain⟨x,w0,a,y,gs,sv,L,z,e,f,bad,j,big,p,m1,h1,A,C,r,E,F,q⟩:=h;refine⟨a,e,f,bad,j,big,p,m1,sv,r,?_⟩;cases so with
 |none=>exact⟨(λh=>by cases h),λh=>m7 h q.1⟩
 |some s=>exact⟨λ_=>q.1,λ_=>rfl⟩
theorem m4{g:Nat}{H:ah}{so:Option aH}(h:bQ w g B H N so):ab x7 (bR (Γ g)) w (λa=>ab x7 (u6 bE a 3) w λt45=>ab x7 (u4 ae t45) w λt46=>ab x7 (aQ .eql ae sp rs t46 (Δ 0)) w K)=K (.bool so.isSome):=by
 obtain⟨f,j,q,bad,r,big,s,m1,sv,e,hi⟩:=jn h;rw[aN bE.p 3 e rfl,bi];congr 2;rw[U5,rc];exact hi.symm
theorem s9{g:Nat}{H:ah}{so:Option aH}(h:bQ w g B H N so):ab x7 (bR (Γ g)) w (λf=>ab x7 (u6 bE f 3) w λt45=>ab x7 (u4 ae t45) w λt46=>ab x7 (aQ .neq ae sp rs t46 (Δ 0)) w K)=K (.bool (!so.isSome)):=by
 obtain⟨q,r,s,bad,x,big,y,m1,sv,j,hi⟩:=jn h;rw[aN bE.p 3 j rfl,bz];congr 2;cases e:so.isSome with
 |true=>have a:=hi.1 e;simp[a]
 |false=>
  have a:bad≠0:=λa=>by rw[hi.2 a]at e;cases e
  simp[a]
def rt(w:x3)(g B:Nat)(H:ah)(N:Nat)(so:Option aH)(I:x3):Prop:=af (λr=>r=g) w I/\bQ I g B H N so
theorem p2{g:Nat}{H:ah}{so:Option aH}{e at_:Int}(h:bQ w g B H N so)(he:e≠0):ak x7 pr [Γ g,Δ e,Δ at_] w λ_ I=>rt w g B H N ν I:=by
 refine ay func62 ?_;rw[m4 h];cases so with
 |none=>rw[S3,aW];exact⟨af.refl _ _,h⟩
 |some s=>
  rw[S2,bZ];obtain⟨j,w0,q,r,gs,sv,L,x,y,z,bad,S,big,A,m1,h1,C,E,G,K,M,O⟩:=h;rw[bS,aT bE.p rfl];refine bw (g:=g) (o:=3) ae.i rfl rfl G (by simp[iY]) λJ P U Q=>?_;rw[bS,aT bE.p rfl];refine bw (g:=g) (o:=4) ae.i rfl rfl Q (by simp[iY]) λV R W a=>?_;have a:=a;have f:=P.F R;obtain⟨_,_,_,_,_,_,_,_,X⟩:=O;exact⟨f,j,w0,q,r,gs,sv,L,x,y,z,e,at_,big,A,m1,h1,C.F f,E,a,K,M,he,Ω⟩
theorem oQ{g:Nat}{H:ah}{so:Option aH}{b:Bool}{at_:Int}(h:bQ w g B H N so):ak x7 ui [Γ g,.bool b,Δ at_] w λ_ I=>rt w g B H N (so.map (bg b)) I:=by
 refine ay func59 ?_;obtain⟨A,w0,C,E,gs,sv,L,G,K,M,bad,O,big,Y,m1,h1,P,Q,e,R,S,f⟩:=id h;refine aV (λv J=>w=J/\v= .bool (b&&decide (big=0)&&so.isSome)) ?_ ?_
 .rintro _ _ ⟨rfl,rfl⟩;rw[bM];refine⟨λU=>?_,λZ=>⟨af.refl _ _,A,w0,C,E,gs,sv,L,G,K,M,bad,O,big,Y,m1,h1,P,Q,e,R,S,?_⟩⟩
  .rw[V8,V8]at U;obtain⟨⟨aa,ai⟩,ab⟩:=U;rw[bS,aT bE.p rfl];refine bw (g:=g) (o:=5) ae.i rfl rfl e (by simp[iY]) λJ ac al ad=>?_;rw[bS,aT bE.p rfl];refine bw (g:=g) (o:=6) ae.i rfl rfl ad (by simp[iY]) λV ag am j=>?_;have j:=j;have W:=ac.F ag;refine⟨W,A,w0,C,E,gs,sv,L,G,K,M,bad,O,5,at_,m1,h1,P.F W,Q,j,R,S,?_⟩;cases so with
   |none=>cases ab
   |some s=>
    obtain⟨q,r,X,x,y⟩:=f;exact⟨q,r,⟨λ_=>by show(s.big||b)=rs;rw[aa,Bool.or_true],λ_=>Ω⟩,λap=>x (Bool.or_eq_false_iff.1 ap).1,y⟩
  .cases so with
   |none=>exact f
   |some s=>
    obtain⟨q,r,X,x,y⟩:=f;refine⟨q,r,?_,λap=>x (Bool.or_eq_false_iff.1 ap).1,y⟩;show big≠0↔(s.big||b)=rs;cases b with
    |false=>rw[Bool.or_false];exact X
    |true=>
     have a:big≠0:=by simpa using Z
     simp[a]
 .intro az z;cases b with
  |false=>rw[aW];exact z _ _ ⟨rfl,Ξ⟩
  |true=>
   rw[bZ,aN bE.p 5 e rfl,bi,aj];refine⟨λa=>?_,λa=>z _ _ ⟨rfl,by rw[pl a];simp⟩⟩;rw[m4 h];exact z _ _ ⟨rfl,by rw[ms a];simp⟩
def kL(so:Option aH):Option (Λ×aH):=so.bind dW
theorem Fr{g:Nat}{H:ah}{so:Option aH}(h:bQ w g B H N so):ak x7 IH [Γ g] w λv I=>rt w g B H N ((kL so).map (·.2)) I/\∃(t:Λ)(n:Int),v= .agg #[cb t,Δ n]/\Bytes t/\t.length<=65536/\∀q,kL so=σ q->t=q.1:=by
 have aA:=h.lt;refine ay func58 ?_;refine bu cu.i λe J bk y z=>?_;have h1:=h.W y;have zero:∀{f:x3},rt J g B H N ν f->ag f e cu [.string ⟨#[]⟩,Δ 0]->kL so=ν->(ab x7 (Instr.build cu #[]) f λt9=>
   aD x7 (o6 cu (Γ e) t9) f λ(_:Unit)V=>
   ab x7 (do loadVar cu (<-asAddr (Γ e))) V λaB=>(λv I=>rt w g B H N ((kL so).map (·.2)) I/\∃(t:Λ)(n:Int),v= .agg #[cb t,Δ n]/\Bytes t/\t.length<=65536/\∀q,kL so=σ q->t=q.1) aB V):=by
  intro f j G Q;rw[dq (cs:=#[.string ⟨#[]⟩,Δ 0]) Ψ];refine b4 (vs:=[.string ⟨#[]⟩,Δ 0]) cu.i rfl rfl (by intro v X;simp at X;rcases X with rfl|rfl<;>rfl) G λaC Y bl aE=>?_;rw[fA cu.p cu.i rfl aE.range,Q];have aF:=y.size;have bm:=aA;refine⟨⟨iP ((y.aa _).F j.1) Y λr a he=>?_,j.2.new Y λr a=>?_⟩,[],0,rfl,(λb aG=>by cases aG),Ξ,λq R=>by cases R⟩
  .have he:r=e:=he;omega
  .have a:r=e:=a;omega
 rw[s9 h1];cases so with
 |none=>
  rw[S3,X1,bZ];exact zero ⟨af.refl _ _,h1⟩ z rfl
 |some s=>
 rw[S2,Y2,aW];obtain⟨aI,w0,bn,S,gs,sv,L,Z,aJ,aK,bad,aL,big,aM,m1,aO,ac,ad,A,K,aP,aQ⟩:=id h1;have aR:=K.g ac ad;obtain⟨⟨M,bo⟩,_⟩:=id aR;obtain⟨aS,ae,aU,aV,aX,ai,al,aY,aZ⟩:=id aQ;rw[aN bE.p 0 A rfl,Fp M,bi,aj];refine⟨λam=>?_,λam=>?_⟩
 .have a1:S=[]:=c9 Ω;have C:s.d8=[]:=by rw[<-ai,a1];rfl
  have Q:kL (σ s)=ν:=by show dW s=ν;unfold dW;rw[C]
  intro f O _ _;have G:=A.W O;rw[aN bE.p 2 G rfl,aN bE.p 1 G rfl];refine(p2 (h1.W O) ae).X ?_;rintro _ aC _ j;have a2:=z.lt;exact zero ⟨(O.aa _).F j.1,j.2⟩ ((z.W O).aa j.1 λhe=>by have he:=he;omega) Q
 .obtain⟨x,E,rfl⟩:∃x l,S=x::l:=by
   cases S with
   |nil=>exact m7 rfl am
   |cons x l=>exact⟨x,l,rfl⟩
  have C:s.d8=x.1::E.map (·.1):=by rw[<-ai];rfl
  have a6:kL (σ s)=σ (x.1,{s with d8:=E.map (·.1)}):=by show dW s=_;unfold dW;rw[C]
  have an:=al x.1 (by rw[C];exact .head _);rw[aN bE.p 0 A rfl];refine Fq M λb o a7=>?_;rw[bC cu.p cu.i rfl a7];refine bu cu.i λbp bq br a8 ba=>?_;refine b4 (vs:=iB x) cu.i rfl rfl (yU x) ba λbs bb bt ao=>?_;have P:=a8.put bb Ω;have ap:=A.W P;rw[aN bE.p 0 ap rfl];refine Qv (M.aa (P.aa λ_=>False) λ_ _ h=>h) λaq au bc=>?_;have av:=au J M;rw[bS,aT bE.p rfl];refine bw (g:=g) (o:=0) fy.i (eK av).1 (eK av).2 ap (by simp[iY]) λaw U bx W=>?_;have W:=W;have a2:=A.lt;have bz:=ao.lt;have bA:=z.lt;have aF:=y.size;have bd:=ao.aa U λhe=>by have he:=he;omega
  rw[bC cu.p cu.i rfl bd.range];have be:ag aw e cu [.string ⟨#[]⟩,Δ 0]:=(ag.W z P).aa U λhe=>by have he:=he;omega
  refine b4 (vs:=iB x) cu.i rfl rfl (yU x) be λbB ax bD bf=>?_;rw[fA cu.p cu.i rfl bf.range];have az:=(P.aa _).F U;rw[a6];refine⟨⟨iP ((y.aa _).F az) ax λr a he=>?_,?_⟩,x.1,x.2,rfl,an.1,an.2,λq R=>by cases R;rfl⟩
  .have he:r=e:=he;omega
  .have bg:oP w0 aq E gs sv L Z:=⟨⟨au w0 K.1.1,λr a=>K.1.2 r (bc r a)⟩,K.2⟩;have bh:bQ aw g B H N (σ {s with d8:=E.map (·.1)}):=⟨aI,w0,aq,E,gs,sv,L,Z,aJ,aK,bad,aL,big,aM,m1,aO,ac.F az,ad,W,bg,aP,aS,ae,aU,aV,aX,rfl,λt bj=>al t (by rw[C];exact .tail _ bj),aY,by simp at aZ;omega⟩;refine bh.new ax λr a=>?_;have a:r=e:=a;omega
theorem QA{lo hi:Int}{so:Option aH}:bc lo hi so=match kL so with
  |none=>ν
  |some (w,s)=>match ic w with
   |none=>ν
   |some n=>if lo<=n/\n<=hi then σ (n,s)else ν:=by
 cases so with
 |none=>rfl
 |some s=>rfl
theorem lZ{g:Nat}{H:ah}{so:Option aH}{lo hi:Int}(h:bQ w g B H N so):ak x7 nv [Γ g,Δ lo,Δ hi] w λv I=>rt w g B H N ((bc lo hi so).map (·.2)) I/\∃n at_:Int,v= .tuple #[Δ n,Δ at_]/\(∀q,bc lo hi so=σ q->n=q.1)/\(bc lo hi so=ν->n=0):=by
 have ax:=h.lt;refine ay func60 ?_;refine(Fr h).X ?_;rintro _ J _ ⟨⟨O,h1⟩,t,at_,rfl,Y,aA,P⟩;have aB:=h1.lt;refine bu cu.i λaC V aD Z ab=>?_;refine b4 (vs:=[cb t,Δ at_]) cu.i rfl rfl (by intro v Q;simp at Q;rcases Q with rfl|rfl<;>rfl) ab λac ad aE R=>?_;have S:Ext J ac:=Z.put ad Ω;have ae:=h1.W S;rw[aK cu.p 0 R rfl];refine(Qs Y Ω).X ?_;rintro _ C _ ⟨rfl,E⟩;have G:=ae.W E;have U:=R.W E;have ag:=S.F E;have aF:=O.size;obtain⟨n,e,ai,K,al⟩:∃n e:Int,lR t= .tuple #[Δ n,Δ e]/\(∀m,ic t=σ m->n=m/\e=0)/\(ic t=ν->e≠0):=by
  unfold lR;cases ic t with
  |none=>exact⟨0,4,rfl,(λm hm=>by cases hm),λ_=>Ω⟩
  |some m=>exact⟨m,0,rfl,(λm hm=>by cases hm;exact⟨rfl,rfl⟩),λh=>by cases h⟩
 rw[ai,bn,bo];have a:=QA (lo:=lo) (hi:=hi) (so:=so);have W:af (λr=>r=g) w C:=O.F (ag.aa _);refine dh (λx=>af (λr=>r=g) C x/\bQ x g B H N ((bc lo hi so).map (·.2))) ?_ ?_
 .rintro x ⟨y,s⟩;rw[s9 s];cases z:bc lo hi so with
  |none=>
   rw[z]at s;rw[Option.map_none,S3,X1,bZ];exact⟨⟨W.F y,s⟩,0,0,rfl,(λq z=>by cases z),λ_=>rfl⟩
  |some q=>
   rw[z]at s a;rw[Z0,S2,Y2,aW];intro aG L _ _;have am:=(U.aa y λhe=>by have he:=he;omega).W L;rw[aK cu.p 1 am rfl];refine⟨⟨(W.F y).F (L.aa _),s.W L⟩,n,at_,rfl,λaI an=>?_,λh=>by cases h⟩;cases an;cases j:kL so with
   |none=>rw[j]at a;cases a
   |some p=>
    obtain⟨t',s1⟩:=p;have M:=P (t',s1) j;subst M;rw[j]at a;simp only at a;cases f:ic t with
    |none=>rw[f]at a;cases a
    |some m=>
     rw[f]at a;simp only at a;split at a
     .cases a;exact(K m f).1
     .cases a
 .intro az X;refine aV (λv x=>C=x/\∃c:Bool,v= .bool c/\(c=rs->bc lo hi so=ν)/\(c=sp->(bc lo hi so).map (·.2)=(kL so).map (·.2))) ?_ ?_
  .rintro _ _ ⟨rfl,c,rfl,ao,aq⟩;rw[bM];refine⟨λh=>?_,λh=>X _ ⟨af.refl _ _,by rw[aq h];exact G⟩⟩;rw[aK cu.p 1 U rfl];refine(p2 G Ω).X ?_;rintro _ x _ ⟨y,s⟩;exact X _ ⟨y,by rw[ao h];exact s⟩
  .intro aJ A;rw[m4 G];cases j:kL so with
   |none=>
    rw[j]at a;simp only at a;rw[Option.map_none,S3,aW];exact A _ _ ⟨rfl,sp,rfl,(λh=>by cases h),λ_=>by rw[a,j];rfl⟩
   |some p=>
    obtain⟨t',s1⟩:=p;have M:=P (t',s1) j;subst M;rw[j]at a;simp only at a;rw[Z0,S2,bZ,bz,aj];refine⟨λhe=>?_,λhe=>?_⟩
    .refine A _ _ ⟨rfl,rs,rfl,λ_=>?_,λh=>by cases h⟩;cases f:ic t with
     |none=>rw[a,f]
     |some m=>exact m7 (K m f).2 he
    .have au:=Z2.1 he;cases f:ic t with
     |none=>exact m7 au (al f)
     |some m=>
      rw[f]at a;simp only at a;have av:=(K m f).1;subst av;rw[aP,aj];refine⟨λaw=>A _ _ ⟨rfl,rs,rfl,λ_=>by rw[a,m6 Ω],λh=>by cases h⟩,λaw=>?_⟩;rw[bG];refine A _ _ ⟨rfl,_,rfl,λap=>?_,λap=>?_⟩
      .rw[a,m6 (by have:=ro ap;omega)]
      .rw[a,m5 (by have:=of_decide_eq_false ap;omega),j];rfl
theorem yY{bp bv:x1}{b:Λ}(e:aF .i64 w bp a)(s:aF .i64 w bv b):ak x7 uj [bp,bv] w λv I=>v= .bool (decide (a=b))/\Ext w I:=by
 refine ay func128 ?_;rw[aS au.u e,aS au.u s,bz,aj];refine⟨λh=>⟨by rw[pl];intro he;rw[he]at h;exact h rfl,Ext.refl _⟩,λh=>?_⟩;have z:a.length=b.length:=by have:=Z2.1 h;omega
 rw[aS au.u e];refine bT.range a.length (λi _ J=>Ext w J/\a.take i=b.take i) e.le ⟨Ext.refl _,rfl⟩ ?_ ?_
 .rintro i _ J k hi ⟨q,f⟩ hk;obtain⟨x,j⟩:=aC (l:=a) hi;obtain⟨y,r⟩:=aC (l:=b) (i:=i) Ω;refine bt Ω ?_;intro V A _ _;have p:=q.F A;rw[ba au.u ao.i Ψ (e.W p) j,ba au.u ao.i Ψ (s.W p) r,bz,aj];refine⟨λB=>⟨by rw[pl];intro he;rw[he,r]at j;exact B (Z7 j).symm,p⟩,λhe=>?_⟩;rw[aL];refine hk _ _ ⟨p,?_⟩;rw[u5,u5,f,j,r,Z2.1 he]
 .rintro _ J k ⟨q,f⟩;rw[aP,aj];refine⟨λh=>Ω,λ_=>⟨?_,q⟩⟩;rw[p8,z,p8]at f;rw[ms f]
def iD(w:x3)(B a:Nat)(x:cv):Prop:=∃aI d9 cm g1 e f,ag w a bb [aI,d9,Δ x.other,cm]/\an .i64 ao w g1 aI x.scope/\an .i64 ao w e d9 x.co/\lY w f cm x.lines/\(∀r,li aI r\/li d9 r->B<=r)/\(∀r,li aI r->¬li d9 r)/\B<=a
def Fs(w:x3)(r:Nat):Prop:=(∃e c,ag w r e c/\e≠ao/\e≠ck/\e≠bb)\/w.heap.size<=r
theorem iD.dO{f:Nat}{x:cv}(h:iD w B f x)(a:af S w I)(q:∀r,S r->Fs w r):iD I B f x:=by
 obtain⟨aI,d9,cm,g1,s,y,h1,z,A,C,E,F,G⟩:=h;have j:∀r,S r->iC w r\/w.heap.size<=r:=λr H=>(q r H).imp (λ⟨e,c,p,J,K,_⟩=>⟨e,c,p,J,K⟩) id;refine⟨aI,d9,cm,g1,s,y,h1.aa a λU=>?_,eV z a j,eV A a j,C.dO a j,E,F,G⟩;rcases q f U with⟨e,c,p,_,_,L⟩|M
 .exact L (eJ p h1)
 .have:=h1.lt;omega
theorem iD.W{a:Nat}{x:cv}(h:iD w B a x)(e:Ext w I):iD I B a x:=h.dO (e.aa λ_=>False) λ_ h=>h.elim
theorem l0{g:Nat}{H:ah}{so:Option aH}(h:bQ w g B H N so):∀r,r=g->Fs w r:=λr a=>by
 subst a;obtain⟨f,j,p,bad,q,big,s,m1,sv,e,_⟩:=jn h;exact .inl ⟨_,_,e,Φ,Φ,Φ⟩
def iE(g B:Nat):ah:=λr=>r=g\/B<=r
theorem QB{k:Nat}{acc:Λ}{s:aH}:dc (λacc s=>match bh 0 (n-1) s with
 |none=>ν
 |some (v,s)=>if v∈acc then ν else σ (v,s)) (k+1) acc s=match bh 0 (n-1) s with
  |none=>ν
  |some (v,s')=>if v∈acc then ν else dc (λacc s=>match bh 0 (n-1) s with
 |none=>ν
 |some (v,s)=>if v∈acc then ν else σ (v,s)) k (acc++[v]) s':=by
 rw[dc];cases bh 0 (n-1) s with
 |none=>rfl
 |some q=>
  obtain⟨v,s'⟩:=q;simp only;by_cases a:v∈acc
  .rw[m5 a,m5 a]
  .rw[m6 a,m6 a]
def Ft(n:Int)(k:Nat)(acc:Λ)(s:aH):Option (Λ×aH):=dc (λacc s=>match bh 0 (n-1) s with
 |none=>ν
 |some (v,s)=>if v∈acc then ν else σ (v,s)) k acc s
theorem Fu{g f ar:Nat}{H:ah}{s:aH}{so:Option aH}{Y:x1}{all:Λ}{aO aR:x3->Prop}(ap:bQ w g B H N so)(b3:so=σ s\/(so=ν/\ar=0))(b4:iD w B f ⟨[],[],0,[]⟩)(b5:∀c,ag w f bb c->c[3]?=σ (.slice ν 0 0))(bF:an .i64 ao w gz Y all)(b6:∀r,li Y r->r<B)(dm:all.length<=100001)(dn:ar<=4611686018427387904)(aU:so=σ s->s.d8.length<=100000)(av:so=σ s->∀I x,af (iE g B) w I->fg all.length ar s=ν->bQ I g B H N ν->iD I B f x->aO I)(b7:so=ν->aR w)(aX:so=σ s->∀I scope s',af (iE g B) w I->fg all.length ar s=σ (scope,s')->bQ I g B H N (σ s')->iD I B f ⟨scope,scope.map λv=>all.getD v.toNat 0,0,[]⟩->(∀c,ag I f bb c->c[3]?=σ (.slice ν 0 0))->aR I):
  ce (Δ 0) w λi z k=>
   ct (α:=x1->x3->Prop) (λ(b8:x1)(O:x3)=>
    Split b8 (ab x7 (X7 #[au] ae #[Y]) O λt53=>
   ab x7 (aQ .sub ao sp rs t53 (Δ 1)) O λca=>
   ak x7 nv [Γ g,(Δ 0),ca] O λt55 A=>
   ab x7 (c7 t55 0) A λaY=>
   ab x7 (c7 t55 1) A λcb=>
   ab x7 (bR (Γ g)) A λcc=>
   ab x7 (u6 bE cc 3) A λcd=>
   ab x7 (u4 ae cd) A λcf=>
   ab x7 (aQ .neq ae sp rs cf (Δ 0)) A λcg=>
   Split cg (aO A)
    (ab x7 (u6 bb (Γ f) 0) A λci=>
   ab x7 (u4 au ci) A λbG=>
   ab x7 (X7 #[au] ae #[bG]) A λt66=>
   ce (Δ 0) A λaZ E cj=>
    ab x7 (aQ .lss ae sp sp aZ t66) E λck=>
    Split ck (ab x7 (j0 au bG aZ) E λcl=>
    ab x7 (u4 ao cl) E λt70=>
    ab x7 (aQ .eql ao sp sp t70 aY) E λcn=>
    Split cn (ak x7 pr [Γ g,(Δ 4),cb] E λt76 a1=>aO a1)
     (ab x7 (aQ .add ae sp rs aZ (Δ 1)) E λcp=>
    cj cp E))
     (ab x7 (u6 bb (Γ f) 0) E λcq=>
   ab x7 (u4 au cq) E λcr=>
   aD x7 (Z3 au 1 #[(0,aY)]) E λcu Z=>
   aD x7 (j4 #[au,au] au #[cr,cu]) Z λcw a2=>
   ab x7 (u6 bb (Γ f) 0) a2 λcz=>
   aD x7 (o6 au cz cw) a2 λ(_:Unit)aw=>
   eu aw λS=>
   ab x7 (u6 bb (Γ f) 1) S λa6=>
   ab x7 (u4 au a6) S λbH=>
   ab x7 (j0 au Y aY) S λcA=>
   ab x7 (u4 ao cA) S λcB=>
   aD x7 (Z3 au 1 #[(0,cB)]) S λcD X=>
    (Ext S X\/cC x7 (u4 au a6) bH X/\cC x7 (u6 bb (Γ f) 1) a6 X/\True)/\
   aD x7 (j4 #[au,au] au #[bH,cD]) X λcE a7=>
    ab x7 (u6 bb (Γ f) 1) a7 λcF=>
    aD x7 (o6 au cF cE) a7 λ(_:Unit)ac=>
     ab x7 (aQ .add ao sp rs i (Δ 1)) ac λcG=>
   k cG ac)))
     (aR O)) λbI=>
   ab x7 (aQ .lss ao sp sp i (Δ (ar:Int))) z λcH=>
   Split cH (ab x7 (bR (Γ g)) z λcI=>
   ab x7 (u6 bE cI 3) z λcJ=>
   ab x7 (u4 ae cJ) z λt45=>
   ab x7 (aQ .eql ae sp rs t45 (Δ 0)) z λt46=>
   bI t46 z)
    (bI (.bool sp) z):=by
 have dp:=ap.lt;rcases b3 with rfl|⟨rfl,rfl⟩
 rotate_left
 .refine ce.range 0 (λ_ J=>w=J) Ω rfl (λi J k hi=>Ω) ?_;rintro _ k rfl;refine aV (λv O=>w=O/\v= .bool sp) ?_ ?_
  .rintro _ _ ⟨rfl,rfl⟩;rw[aW];exact b7 rfl
  .intro az ad;rw[aP,aj];exact⟨λh=>Ω,λ_=>ad _ _ ⟨rfl,rfl⟩⟩
 have h:=ap;have aU:=aU rfl;have av:=av rfl;have aX:=aX rfl;refine ce.range ar (λi z=>∃scope P,af (iE g B) w z/\bQ z g B H N (σ P)/\iD z B f ⟨scope,scope.map λv=>all.getD v.toNat 0,0,[]⟩/\scope.length=i/\scope.length+P.d8.length<=100000/\fg all.length ar s=Ft all.length (ar-i) scope P/\∀c,ag z f bb c->c[3]?=σ (.slice ν 0 0)) Ω ⟨[],s,af.refl _ _,h,b4,rfl,by simpa using aU,rfl,b5⟩ ?_ ?_
 rotate_left
 .rintro z k ⟨scope,P,ax,R,ay,bJ,cK,C,a8⟩;refine aV (λv O=>z=O/\v= .bool sp) ?_ ?_
  .rintro _ _ ⟨rfl,rfl⟩;rw[aW];rw[U1]at C;exact aX z scope P ax C R ay a8
  .intro az ad;rw[aP,aj];exact⟨λh=>Ω,λ_=>ad _ _ ⟨rfl,rfl⟩⟩
 rintro i z k hi ⟨scope,P,ax,R,ay,bJ,cK,C,a8⟩ hk;refine aV (λv O=>z=O/\v= .bool rs) ?_ ?_
 rotate_left
 .intro az ad;refine bt Ω ?_;rw[m4 R];exact ad _ _ ⟨rfl,rfl⟩
 rintro _ _ ⟨rfl,rfl⟩;rw[bZ];have bK:∀{I:x3},af (iE g B) w I->an .i64 ao I gz Y all:=λcL=>bl bF cL λr e U=>by
  rcases U with rfl|U
  .obtain⟨cM,G,ai,bad,cN,big,cP,m1,sv,K,_⟩:=jn h;exact ch bF K Φ e rfl
  .have:=b6 r e;omega
 rw[aS au.u (bK ax).ls,dN,lm Ω Ω];refine(lZ R).X ?_;rintro _ A _ ⟨⟨bd,M⟩,n,at_,rfl,be,cQ⟩;rw[bn,bo,s9 M];have bf:=ay.dO bd (l0 R);have bg:af (iE g B) w A:=ax.F (bd.X λr _ h=>.inl h);have cR:=QB (n:=(all.length:Int)) (k:=ar-(i+1)) (acc:=scope) (s:=P);have cS:ar-i=(ar-(i+1))+1:=Ω
 rw[cS]at C;unfold Ft at C;rw[cR]at C;have cT:bc 0 ((all.length:Int)-1) (σ P)=bh 0 ((all.length:Int)-1) P:=rfl;rw[cT]at M be cQ ⊢;cases aA:bh 0 ((all.length:Int)-1) P with
 |none=>
  rw[aA]at M C;rw[Option.map_none,S3,X1,bZ];exact av A _ bg C M bf
 |some q=>
  obtain⟨v,bL⟩:=q;rw[aA]at M C be;have cU:=be _ rfl;subst cU;have dq:=(jh aA).1;have dr:=(dI aA).1;simp only at C;rw[Z0,S2,Y2,aW];have M:bQ A g B H N (σ bL):=M;obtain⟨aI,d9,cm,g1,ds,bj,f1,f2,f3,f4,f5,f6,f7⟩:=id bf;rw[aK bb.p 0 f1 rfl,aS au.u f2.ls];have dt:scope.length<=100000:=Ω
  refine ce.range scope.length (λj E=>A=E/\n∉scope.take j) Ω ⟨rfl,Ξ⟩ ?_ ?_
  .rintro j _ cV cW ⟨rfl,aB⟩ cX;obtain⟨u,bk⟩:=aC (l:=scope) cW;rw[aP,aj];refine⟨λ_=>?_,λh=>by simp only at h;omega⟩;rw[ba au.u ao.i Ψ f2.ls bk,bi,aj];refine⟨λhe=>?_,λcY=>?_⟩
   .refine (p2 M Ω).X ?_;rintro _ a1 _ ⟨bM,cZ⟩;rw[m5 (by rw[<-he];exact x5 bk)]at C;exact av a1 _ (bg.F (bM.X λr _ h=>.inl h)) C cZ (bf.dO bM (l0 M))
   .rw[aL];refine cX _ ⟨rfl,?_⟩;rw[u5,bk];intro hm;rcases o9.1 hm with hm|hm
    .exact aB hm
    .simp at hm;exact cY hm.symm
  .rintro _ cV ⟨rfl,aB⟩;rw[p8]at aB;rw[aP,aj];refine⟨λh=>by simp only at h;omega,λ_=>?_⟩;rw[m6 aB]at C;rw[aK bb.p 0 f1 rfl];refine dl au.u ao.i rfl λdu dv Z dw Q c0=>?_;have dx:=M.lt;refine gx au.u ao.i rfl (f2.W Q) c0.ls Θ Θ λbm c1 a2 aE c2 bN=>?_;have aF:=f1.W Q;have f113:=aF.aa bN λhe=>ch (f2.W Q) aF Φ he rfl;rw[aT bb.p rfl];refine bw (g:=f) (o:=0) au.i aE.ls.cells.1 aE.ls.cells.2 f113 Ξ λaw bO dy aG=>?_;have aG:=aG;intro S bp _ _;have al:af (λr=>li aI r\/r=f) Z aw:=(bN.X λr _ h=>.inl h).F (bO.X λr _ h=>.inr h);have bP:∀r,(li aI r\/r=f)->iE g B r:=λr e=>.inr (e.elim (λe=>f5 r (.inl e)) λe=>e▸f7);have bS:=(bg.F (Q.aa _)).F (al.X λr _ e=>bP r e);have c3:af (iE g B) w S:=bS.F (bp.aa _);have c4:=bl (f3.W Q) al λr e U=>by
    rcases U with U|rfl
    .exact f6 r U e
    .exact ch (f3.W Q) aF Φ e rfl
   have c5:=bl aE bO λr e he=>by
    have he:r=f:=he;subst he;exact ch aE f113 Φ e rfl
   have c6:∀r,(li aI r\/r=f)->(∃c,ag Z r ao c)\/∃c,ag Z r bb c:=λr e=>by
    rcases e with e|rfl
    .obtain⟨G,_⟩:=bD f2 e;obtain⟨_,⟨am,_⟩|⟨_,cs,am,K,_⟩⟩:=f2.W Q
     .rw[am]at e;obtain⟨a,c8,c,G,ai⟩:=e;cases G
     .exact .inl ⟨cs,G▸K⟩
    .exact .inr ⟨_,aF⟩
   have c9:lY aw bj cm []:=by
    obtain⟨L,V,da,bq⟩:=f4.dO (Q.aa λ_=>False) λ_ h=>h.elim;have br:=List.map_eq_nil_iff.1 bq;subst br;refine⟨[],V.aa al λr e U=>?_,λy bs=>(by cases bs),rfl⟩;rcases c6 r U with⟨c,K⟩|⟨c,K⟩
    .exact cO V K Φ e
    .exact cO V K Φ e
   have db:=(M.W Q).new al λr e=>by
    rcases bP r e with rfl|h
    .rcases e with e|e
     .exact f5 _ (.inl e)
     .exact e▸f7
    .exact h
   rw[aK bb.p 1 (aG.W bp) rfl];have dc:all[n.toNat]?=σ (all.getD n.toNat 0):=by rw[v8,x6 Ω];rfl
   rw[ew (y:=n) (i:=n.toNat) Ω au.u ao.i Ψ (bK c3).ls dc];refine dl au.u ao.i rfl λdz dA X dC bT dd=>?_;refine⟨.inl bT,?_⟩;have W:=bp.F bT;have f316:=c4.W W;have bU:(scope.map λv=>all.getD v.toNat 0).length=scope.length:=r9 _;refine gx au.u ao.i rfl f316 dd.ls (by simp at bU ⊢;omega) (by simp at bU ⊢;omega) λbV de a7 aJ bW bX=>?_;have aM:=aG.W W;have bY:=aM.aa bX λhe=>ch f316 aM Φ he rfl;rw[aT bb.p rfl];refine bw (g:=f) (o:=1) au.i aJ.ls.cells.1 aJ.ls.cells.2 bY Ξ λac b0 dD aq=>?_;have aq:=aq;rw[aL];have aN:af (λr=>li d9 r\/r=f) X ac:=(bX.X λr _ h=>.inl h).F (b0.X λr _ h=>.inr h);have b1:∀r,(li d9 r\/r=f)->B<=r:=λr e=>e.elim (λe=>f5 r (.inr e)) λe=>e▸f7;have bu:=c5.W W;have dE:=Q.size;have dF:=al.size;have bx:∀r,li bm r->B<=r/\¬li d9 r:=λr e=>by
    rcases c2 r e with h|h
    .exact⟨f5 r (.inl h),f6 r h⟩
    .exact⟨Ω,λbz=>by obtain⟨G,ai⟩:=bD f3 bz;omega⟩
   have df:=bl bu aN λr e U=>by
    rcases U with U|rfl
    .exact (bx r e).2 U
    .exact ch bu aM Φ e rfl
   have dg:=bl aJ b0 λr e he=>by
    have he:r=f:=he;subst he;exact ch aJ bY Φ e rfl
   have dh:lY ac bj cm []:=by
    obtain⟨L,V,da,bq⟩:=c9.dO (W.aa λ_=>False) λ_ h=>h.elim;have br:=List.map_eq_nil_iff.1 bq;subst br;refine⟨[],V.aa aN λr e U=>?_,λy bs=>(by cases bs),rfl⟩;rcases U with U|rfl
    .obtain⟨G,_⟩:=bD f316 U;obtain⟨_,⟨am,_⟩|⟨_,cs,am,K,_⟩⟩:=f316
     .rw[am]at U;obtain⟨a,c8,c,G,ai⟩:=U;cases G
     .exact cO V (G▸K) Φ e
    .exact cO V aM Φ e
   refine hk _ ⟨scope++[n],bL,((bS.F (W.aa _)).F (aN.X λr _ e=>.inr (b1 r e))),(db.W W).new aN b1,⟨bm,bV,cm,c1,de,bj,aq,df,by rw[n9];exact dg,dh,λr e=>?_,λr e bz=>?_,f7⟩,by rw[p9,bJ];rfl,by rw[p9];simp;omega,C,λc bA=>?_⟩
   .rcases e with e|e
    .exact (bx r e).1
    .rcases bW r e with h|h
     .exact f5 r (.inr h)
     .have:=W.size;omega
   .rcases bW r bz with h|h
    .exact (bx r e).2 h
    .obtain⟨G,ai⟩:=bD bu e;omega
   .have di:c=[bm,bV,Δ 0,cm]:=by
     unfold ag at bA aq;rw[aq]at bA;have:=(Obj.cells.inj (Z7 bA)).1;exact(Array.toList_inj.2 this).symm
    have dj:cm= .slice ν 0 0:=by
     obtain⟨dG,dH,dJ,_,_,_,bB,_⟩:=ay;have b2:=a8 _ bB;have bC:=bB.aa bd λhe=>by
      have he:=he;obtain⟨cM,G,ai,bad,cN,big,cP,m1,sv,K,_⟩:=jn R;subst he;exact m7 (eJ K bB) Φ
     unfold ag at bC f1;rw[f1]at bC;have dk:=Array.toList_inj.2 (Obj.cells.inj (Z7 bC)).1;have R:=congrArg (λl=>l[3]?) dk;simp at R;simp at b2;rw[R,b2]
    rw[di,dj];rfl
theorem QC{x:x1->x3->Prop}(h:aF .i64 w sv l)(h1:∀z∈l,1<=z)(H:∀c:Int,(4096<c↔dH l=rs)->x (Δ c) w):
  bT (Δ 1) (Δ 0) w λcount q a I=>
   ab x7 (aQ .lss ae sp sp q (Δ (l.length:Int))) a λK=>
   Split K (ct (α:=x1->x3->Prop) (λ(L:x1)(y:x3)=>
    ab x7 (aQ .add ae sp rs q (Δ 1)) y λM=>
    I L M y) λA=>
   ab x7 (j0 au sv q) a λN=>
   ab x7 (u4 ao N) a λB=>
   ct (α:=x1->x3->Prop) (λ(O:x1)(f:x3)=>
    ab x7 (aQ .mul ao sp sp count O) f λC=>
    ab x7 (aQ .gtr ao sp rs C (Δ 4096)) f λP=>
    Split P (A (Δ 4097) f)
     (A C f)) λE=>
   ab x7 (aQ .gtr ao sp rs B (Δ 4096)) a λQ=>
   Split Q (E (Δ 4097) a)
    (E B a))
    (x count a):=by
 refine bT.range l.length (λi c J=>w=J/\∃p:Int,p=aB ((l.take i).map λk=>min k 4097)/\1<=p/\c=Δ (if 4096<p then 4097 else p)) h.le ⟨rfl,1,by simp[aB],Ω,by rw[m6 Ω]⟩ ?_ ?_
 .rintro i _ _ R hi ⟨rfl,p,j,S,rfl⟩ U;obtain⟨z,r⟩:=aC (l:=l) hi;have X:=h1 z (x5 r);have e:aB ((l.take (i+1)).map λk=>min k 4097)=p*min z 4097:=by
   rw[j,u5,r,l7,n9,U4,List.map_nil,x2]
  have Y:p*1<=p*min z 4097:=Int.mul_le_mul_of_nonneg_left Ω Ω;refine bt Ω ?_;refine aV (λv V=>w=V/\v=Δ (if 4096<p*min z 4097 then 4097 else p*min z 4097)) ?_ ?_
  .rintro _ _ ⟨rfl,rfl⟩;rw[aL];exact U _ _ ⟨rfl,_,e.symm,Ω,rfl⟩
  intro az s;rw[ba au.u ao.i Ψ h r];refine aV (λv V=>w=V/\v=Δ (min z 4097)) ?_ ?_
  .rintro _ _ ⟨rfl,rfl⟩;rw[fO];by_cases F:4096<p
   .rw[m5 F];have W:(4097:Int)*1<=4097*min z 4097:=Int.mul_le_mul_of_nonneg_left Ω Ω;rw[lm Ω Ω,bG,aj];refine⟨λ_=>s _ _ ⟨rfl,by rw[m5 Ω]⟩,λZ=>Ω⟩
   .rw[m6 F];have W:p*min z 4097<=4096*4097:=by
     have aa:=W6 (show p<=4096 by omega) (show 0<=min z 4097 by omega);have ac:=Int.mul_le_mul_of_nonneg_left (show min z 4097<=4097 by omega) (show(0:Int)<=4096 by omega);omega
    rw[lm Ω Ω,bG,aj];exact⟨λap=>s _ _ ⟨rfl,by rw[m5 ap]⟩,λap=>s _ _ ⟨rfl,by rw[m6 ap]⟩⟩
  .intro ad G;rw[bG,aj];exact⟨λap=>G _ _ ⟨rfl,by congr 1;omega⟩,λap=>G _ _ ⟨rfl,by congr 1;omega⟩⟩
 .rintro _ _ R ⟨rfl,p,j,S,rfl⟩;rw[p8]at j;rw[aP,aj];refine⟨λh=>Ω,λ_=>H _ ?_⟩;unfold dH;rw[<-j,rc];split
  .exact⟨λ_=>Ω,λ_=>Ω⟩
  .exact Iff.rfl
theorem QD{g am:Nat}{H:ah}{so:Option aH}{ac:x3->Prop}(h:bQ w g B H N so)(C:an .i64 ao w gz d9 co)(aE:∀z∈co,1<=z/\z<=ax)(bm:co.length<=100001)(S:ag w am ck [.slice ν 0 0,Δ 0])(aF:B<=am)(ad:∀t I aO gt,t.length=co.length->af (λr=>r=g\/r=am\/w.heap.size<=r) w I->ag I am ck [aO,Δ 0]->an .i64 ao I gt aO t->(∀r,li aO r->w.heap.size<=r)->bQ I g B H N ((gm co [] so).map (·.2))->(∀q,gm co [] so=σ q->t=q.1)->ac I):
  ce (Δ 0) w λW s aG=>
      ab x7 (aQ .lss ae sp sp W (Δ (co.length:Int))) s λaI=>
      Split aI (ab x7 (j0 au d9 W) s λaJ=>
      ab x7 (u4 ao aJ) s λt218=>
      ab x7 (aQ .sub ao sp rs t218 (Δ 1)) s λt222=>
      ak x7 nv [Γ g,(Δ 0),t222] s λai E=>
      ab x7 (c7 ai 0) E λaM=>
      ab x7 (c7 ai 1) E λbp=>
      ab x7 (u6 ck (Γ am) 0) E λaN=>
      ab x7 (u4 au aN) E λaP=>
      aD x7 (Z3 au 1 #[(0,aM)]) E λt229 aR=>
      aD x7 (j4 #[au,au] au #[aP,t229]) aR λaS aj=>
      ab x7 (u6 ck (Γ am) 0) aj λaU=>
      aD x7 (o6 au aU aS) aj λ(_:Unit)al=>
      ab x7 (aQ .add ae sp rs W (Δ 1)) al λaV=>
      aG aV al)
       (ac s):=by
 have bq:=S.lt;have br:=h.lt;refine ce.range co.length (λj J=>∃t aO gt s1,t.length=j/\af (λr=>r=g\/r=am\/w.heap.size<=r) w J/\ag J am ck [aO,Δ 0]/\an .i64 ao J gt aO t/\(∀r,li aO r->w.heap.size<=r)/\bQ J g B H N s1/\gm co [] so=gm (co.drop j) t s1) C.ls.le
  ⟨[],_,0,so,rfl,af.refl _ _,S,an.nil _ _ _ _,(λr e=>by obtain⟨a,n,c,M,X⟩:=e;cases M),h,rfl⟩ ?_ ?_
 rotate_left
 .rintro J aW ⟨t,aO,gt,s1,O,x,P,G,y,K,he⟩;refine b6 Ω ?_;rw[List.drop_length]at he;cases s1 with
  |none=>
   have he:=he;exact ad t J aO gt O x P G y (by rw[he];exact K) (λq f=>by rw[he]at f;cases f)
  |some s1=>
   have he:=he;exact ad t J aO gt O x P G y (by rw[he];exact K) (λq f=>by rw[he]at f;cases f;rfl)
 rintro j J aW ap ⟨t,aO,gt,s1,O,x,P,G,y,K,he⟩ aX;obtain⟨z,Y⟩:=aC (l:=co) ap;have aY:=aE z (x5 Y);have bs:z<=4611686018427387904:=aY.2;have aZ:=bl C x λr e U=>by
  rcases U with rfl|rfl|U
  .obtain⟨a1,M,X,bad,a2,big,a6,m1,sv,L,_⟩:=jn h;exact ch C L Φ e rfl
  .exact ch C S Φ e rfl
  .obtain⟨M,X⟩:=bD C e;omega
 refine bt Ω ?_;rw[ba au.u ao.i Ψ aZ.ls Y,dN,lm Ω Ω];refine(lZ K).X ?_;rintro _ V _ ⟨⟨Q,a7⟩,n,at_,rfl,a8,bu⟩;rw[bn,bo];have bb:am≠g:=Ω
 have aq:=P.aa Q λhe=>bb he;have bd:∃c,ag J g bE c:=by obtain⟨a1,M,X,bad,a2,big,a6,m1,sv,L,_⟩:=jn K;exact⟨_,L⟩
 have av:=bl G Q λr e he=>by
  have he:r=g:=he;obtain⟨c,L⟩:=bd;exact ch G L Φ e he
 rw[aK ck.p 0 aq rfl];refine dl au.u ao.i rfl λa3 bx be bz A bf=>?_;refine gx au.u ao.i rfl (av.W A) bf.ls Θ Θ λbg bh bA R bi aw=>?_;have ay:=aq.W A;have az:=ay.aa aw λhe=>ch (av.W A) ay Φ he rfl;rw[aT ck.p rfl];refine bw (g:=am) (o:=0) au.i R.ls.cells.1 R.ls.cells.2 az Ξ λbj aA bB Z=>?_;have Z:=Z;rw[aL];have aB:af (λr=>li aO r\/r=am) be bj:=(aw.X λr _ h=>.inl h).F (aA.X λr _ h=>.inr h);have bC:=x.size;have bF:=Q.size;have z3:=A.size;refine aX _ ⟨t++[n],bg,bh,(bc 0 (z-1) s1).map (·.2),by simp[O],?_,Z,bl R aA λr e he=>?_,λr e=>?_,?_,?_⟩
 .refine (x.F (Q.X λr _ h=>.inl h)).F ((A.aa _).F (aB.X λr _ h=>?_));exact h.elim (λh=>.inr (.inr (y r h))) λh=>.inr (.inl h)
 .have he:r=am:=he;subst he;exact ch R az Φ e rfl
 .rcases bi r e with h|h
  .exact y r h
  .omega
 .refine (a7.W A).new aB λr e=>?_;rcases e with e|rfl
  .have:=y r e;omega
  .exact aF
 .rw[he];have bk:co.drop j=z::co.drop (j+1):=by rw[X0 ap,(x4.1 Y).2]
  rw[bk,DZ];cases f:bc 0 (z-1) s1 with
  |none=>rfl
  |some q=>
   obtain⟨v,s2⟩:=q;have:=a8 _ f;subst this;rfl
theorem yZ{g:Nat}(h:an .i64 ao w g v t):∀u∈p1 ⟨v,t,c⟩,u.oneCell'=rs:=by
 intro u a;simp[p1]at a;rcases a with rfl|rfl
 .exact h.ls.cells.2
 .rfl
def QE(co:Λ)(cnt i:Nat)(s0:aH)(A:List (Λ×Int))(so:Option aH):Prop:=(∃s,so=σ s/\dc (eR co) cnt [] s0=dc (eR co) (cnt-i) A s/\A.length+s.d8.length<=100000)\/(so=ν/\dc (eR co) cnt [] s0=ν)
theorem QF{g K g1 a8 Y:Nat}{H:ah}{s0:aH}{aI cm:x1}{scope:Λ}{o:Int}{aF:List (Λ×Int)}{bW:x3->Prop}(h:bQ w g B H N (σ s0))(f1:ag w K bb [aI,d9,Δ o,cm])(f2:an .i64 ao w g1 aI scope)(f3:an .i64 ao w a8 d9 co)(f4:lY w Y cm aF)(f5:∀r,li aI r\/li d9 r->B<=r)(f6:∀r,li aI r->¬li d9 r)(f7:B<=K)(cT:∀z∈co,1<=z/\z<=ax)(cU:co.length<=100001)(eO:n<=4611686018427387904)(bs:0<n->aF=[]/\∀r,¬lc cm r)(cV:s0.d8.length<=100000)(bX:∀I A bx,af (iE g B) w I->iD I B K ⟨scope,co,o,A⟩->bQ I g B H N bx->(n<=0->A=aF/\bx=σ s0)->(0<n->bx=(dc (eR co) n.toNat [] s0).map (·.2)/\∀q,dc (eR co) n.toNat [] s0=σ q->A=q.1)->bW I):
  ce (Δ 0) w λbY ac cW=>
     ct (α:=x1->x3->Prop) (λ(cX:x1)(b0:x3)=>
      Split cX (aD x7 (S5 ck rs (.tuple #[])) b0 λx Z=>
     ab x7 (u6 bb (Γ K) 1) Z λcY=>
     ab x7 (u4 au cY) Z λb1=>
     ab x7 (X7 #[au] ae #[b1]) Z λcZ=>
     ce (Δ 0) Z λbz ad c0=>
      ab x7 (aQ .lss ae sp sp bz cZ) ad λc1=>
      Split c1 (ab x7 (j0 au b1 bz) ad λc2=>
      ab x7 (u4 ao c2) ad λt218=>
      ab x7 (aQ .sub ao sp rs t218 (Δ 1)) ad λt222=>
      ak x7 nv [Γ g,(Δ 0),t222] ad λb2 aG=>
      ab x7 (c7 b2 0) aG λc3=>
      ab x7 (c7 b2 1) aG λeP=>
      ab x7 (u6 ck x 0) aG λc4=>
      ab x7 (u4 au c4) aG λc6=>
      aD x7 (Z3 au 1 #[(0,c3)]) aG λt229 c8=>
      aD x7 (j4 #[au,au] au #[c6,t229]) c8 λc9 b3=>
      ab x7 (u6 ck x 0) b3 λda=>
      aD x7 (o6 au da c9) b3 λ(_:Unit)b5=>
      ab x7 (aQ .add ae sp rs bz (Δ 1)) b5 λdb=>
      c0 db b5)
       (ak x7 nv [Γ g,(Δ 0),(Δ 4611686018427387904)] ad λb7 G=>
     ab x7 (c7 b7 0) G λdd=>
     ab x7 (c7 b7 1) G λde=>
     ab x7 (u6 bb (Γ K) 3) G λdf=>
     ab x7 (u4 ek df) G λb9=>
     ab x7 (X7 #[ek] ae #[b9]) G λdg=>
     ce (Δ 0) G λbA M di=>
      ab x7 (aQ .lss ae sp sp bA dg) M λdj=>
      Split dj (ct (α:=x3->Prop) (λ(aA:x3)=>
       ab x7 (aQ .add ae sp rs bA (Δ 1)) aA λdk=>
       di dk aA) λca=>
      ab x7 (j0 ek b9 bA) M λdl=>
      ab x7 (u4 ck dl) M λdm=>
      aD x7 (S5 ck rs (.tuple #[])) M λy cb=>
      aD x7 (o6 ck y dm) cb λ(_:Unit)P=>
      ct (α:=x1->x3->Prop) (λ(dn:x1)(aJ:x3)=>
       Split dn (ak x7 pr [Γ g,(Δ 4),de] aJ λeQ cc=>
        ca cc)
        (ca aJ)) λcd=>
      ab x7 (bR (Γ g)) P λdp=>
      ab x7 (u6 bE dp 3) P λdq=>
      ab x7 (u4 ae dq) P λdr=>
      ab x7 (aQ .eql ae sp rs dr (Δ 0)) P λds=>
      Split ds (ab x7 (u6 ck x 0) P λdt=>
       ab x7 (u4 au dt) P λdu=>
      ab x7 (u6 ck y 0) P λdv=>
      ab x7 (u4 au dv) P λdw=>
      ak x7 uj [du,dw] P λdx cf=>
      cd dx cf)
       (cd (.bool sp) P))
       (ab x7 (u6 ck x 1) M λdy=>
     aD x7 (o6 ao dy dd) M λ(_:Unit)ai=>
     ab x7 (u6 bb (Γ K) 3) ai λdz=>
     ab x7 (u4 ek dz) ai λdA=>
     ab x7 (u4 ck x) ai λdC=>
     aD x7 (Z3 ek 1 #[(0,dC)]) ai λdD ba=>
     aD x7 (j4 #[ek,ek] ek #[dA,dD]) ba λdE bB=>
     ab x7 (u6 bb (Γ K) 3) bB λdF=>
     aD x7 (o6 ek dF dE) bB λ(_:Unit)al=>
     ab x7 (aQ .add ao sp rs bY (Δ 1)) al λdG=>
     cW dG al)))
       (bW b0)) λcg=>
     ab x7 (aQ .lss ao sp sp bY (Δ n)) ac λdH=>
     Split dH (ab x7 (bR (Γ g)) ac λdK=>
     ab x7 (u6 bE dK 3) ac λdL=>
     ab x7 (u4 ae dL) ac λdM=>
     ab x7 (aQ .eql ae sp rs dM (Δ 0)) ac λdN=>
     cg dN ac)
      (cg (.bool sp) ac):=by
 have dP:=h.lt;refine ce.range n.toNat (λi J=>∃A so cm Y,af (iE g B) w J/\ag J K bb [aI,d9,Δ o,cm]/\an .i64 ao J g1 aI scope/\an .i64 ao J a8 d9 co/\lY J Y cm A/\(0<n->∀r,lc cm r->B<=r)/\bQ J g B H N so/\(n<=0->A=aF/\so=σ s0)/\(0<n->QE co n.toNat i s0 A so)) Ω
  ⟨aF,σ s0,cm,Y,af.refl _ _,f1,f2,f3,f4,λW r C=>m7 C ((bs W).2 r),h,λ_=>⟨rfl,rfl⟩,λW=>.inl ⟨s0,rfl,by rw[(bs W).1];rfl,by rw[(bs W).1];simpa using cV⟩⟩ ?_ ?_
 rotate_left
 .rintro J k ⟨A,so,cm,Y,aM,aB,bd,aN,aR,bD,ap,ci,E⟩;refine aV (λv V=>J=V/\v= .bool sp) ?_ ?_
  .rintro _ _ ⟨rfl,rfl⟩;rw[aW];refine bX J A so aM ⟨aI,d9,cm,g1,a8,Y,aB,bd,aN,aR,f5,f6,f7⟩ ap ci λW=>?_;rcases E W with⟨s,rfl,he,_⟩|⟨rfl,he⟩
   .rw[U1]at he;rw[he];exact⟨rfl,λq O=>by cases O;rfl⟩
   .rw[he];exact⟨rfl,λq O=>by cases O⟩
  .intro az bF;rw[aP,aj];exact⟨λh=>Ω,λ_=>bF _ _ ⟨rfl,rfl⟩⟩
 rintro i J k hi ⟨A,so,cm,Y,aM,aB,bd,aN,aR,bD,ap,ci,E⟩ hk;have W:0<n:=Ω
 refine aV (λv V=>J=V/\v= .bool so.isSome) ?_ ?_
 rotate_left
 .intro az bF;refine bt Ω ?_;rw[m4 ap];exact bF _ _ ⟨rfl,rfl⟩
 rintro _ _ ⟨rfl,rfl⟩;rcases E W with⟨eW,rfl,he,eS⟩|⟨rfl,he⟩
 rotate_left
 .rw[S3,aW];refine bX J A ν aM ⟨aI,d9,cm,g1,a8,Y,aB,bd,aN,aR,f5,f6,f7⟩ ap (λh=>Ω) λ_=>?_;rw[he];exact⟨rfl,λq O=>by cases O⟩
 rw[S2,bZ];have eU:=ap.lt;refine bu ck.i λam Z eX aU bG=>?_;have bG:ag Z am ck [.slice ν 0 0,Δ 0]:=bG;have dQ:=aB.W aU;have cj:=aN.W aU;have eY:=aU.size;have eZ:=aB.lt;rw[aT bb.p rfl,av Ψ (dQ.cell rfl),aS au.u cj.ls];refine QD (ap.W aU) cj cT cU bG Ω λt ad aO gt e0 dR dS dT dU dV dW=>?_;refine(lZ dV).X ?_;rintro _ G _ ⟨⟨bH,be⟩,c,at_,rfl,dX,e1⟩;rw[bn,bo];have bI:am≠g:=Ω
 have cl:K≠g:=by have:=h.lt;omega
 have dY:af (λr=>r=g\/r=am\/Z.heap.size<=r) Z G:=dR.F (bH.X λr _ h=>.inl h);have cn:∀{S:Nat->Prop},(∀r,S r->r=g\/J.heap.size<=r)->∀r,S r->iC J r\/J.heap.size<=r:=λdZ r C=>(dZ r C).imp (λhe=>by
  subst he;obtain⟨cp,aX,aY,bad,cq,big,cr,m1,sv,E,_⟩:=jn ap;exact⟨_,_,E,Φ,Φ⟩) id
 have bf:af (λr=>r=g\/J.heap.size<=r) J G:=(aU.aa _).F (dY.X λr _ h=>h.elim .inl λh=>h.elim (λh=>.inr Ω) λh=>.inr Ω);have cu:=aB.aa bf λh=>h.elim cl λh=>Ω
 obtain⟨L,bg,cw,bJ⟩:=aR.dO bf (cn λr C=>C);have cz:=dS.aa bH λhe=>bI he;have cA:=bl dT bH λr C he=>by
  have he:r=g:=he;have:=dU r C;omega
 have e2:L.length=A.length:=by rw[<-bJ,r9]
 rw[aK bb.p 3 cu rfl,eI ek.u bg];generalize cB:(bc 0 4611686018427387904 (W3 (λx=>x.snd) (gm co [] (σ eW)))).map (·.2)=aq at be;have e3:=bf.size;refine ce.range L.length (λj M=>af (λr=>r=g) G M/\bQ M g B H N (if t∈(L.take j).map (·.t)then ν else aq)) bg.le ⟨af.refl _ _,by simpa using be⟩ ?_ ?_
 .rintro j M ea cC ⟨Q,aZ⟩ eb;obtain⟨y,R⟩:=aC (l:=L) cC;have bK:∃c,ag G g bE c:=by obtain⟨cp,aX,aY,bad,cq,big,cr,m1,sv,E,_⟩:=jn be;exact⟨_,E⟩
  have aw:∀r,r=g->iC G r\/G.heap.size<=r:=λr C=>by
   subst C;obtain⟨c,E⟩:=bK;exact .inl ⟨_,c,E,Φ,Φ⟩
  have bi:=yX bg Q λr C=>(aw r C).imp (λ⟨e,c,E,_,a1⟩=>⟨e,c,E,a1⟩) id;obtain⟨e4,ec⟩:=cw y (x5 R);have cD:=eV ec Q aw;have bL:=eV cA Q aw;have bj:=cz.aa Q λhe=>bI he;refine bt Ω ?_;have bM:t∈(L.take (j+1)).map (·.t)↔t∈(L.take j).map (·.t)\/t=y.t:=by
   rw[u5,R,l7,n9,o9];simp
  refine dh (λaA=>af (λr=>r=g) G aA/\bQ aA g B H N (if t∈(L.take (j+1)).map (·.t)then ν else aq)) ?_ ?_
  .rintro aA ed;rw[aL];exact eb _ ed
  intro e5 cE;rw[c5 rfl ek.u ck.i bi cC,bC ck.p ck.i rfl (bi.range R)];refine bu ck.i λgy cb e6 ee ef=>?_;refine b4 (vs:=p1 y) ck.i rfl rfl (yZ cD) ef λP eg e7 eh=>?_;have a2:=ee.put eg Ω;have cF:=aZ.W a2;have cG:af (λr=>r=g) G P:=Q.F (a2.aa _);refine aV (λv aJ=>∃b:Bool,v= .bool b/\Ext P aJ/\(b=rs->t=y.t)/\(b=sp->t≠y.t\/(if t∈(L.take j).map (·.t)then ν else aq)=ν)) ?_ ?_
  .rintro _ aJ ⟨b,rfl,bN,ei,ej⟩;have ay:=cF.W bN;cases b with
   |true=>
    rw[bZ];refine(p2 ay Ω).X ?_;rintro _ cc _ ⟨em,en⟩;refine cE _ ⟨(cG.F (bN.aa _)).F em,?_⟩;rw[m5 (bM.2 (.inr (ei rfl)))];exact en
   |false=>
    rw[aW];refine cE _ ⟨cG.F (bN.aa _),?_⟩;by_cases hm:t∈(L.take j).map (·.t)
    .rw[m5 (bM.2 (.inl hm))];rw[m5 hm]at ay;exact ay
    .rw[m6 hm]at ay;rcases ej rfl with a1|cH
     .rw[m6 (λh=>(bM.1 h).elim hm a1)];exact ay
     .rw[m6 hm]at cH;rw[cH]at ay ⊢;split<;>exact ay
  .intro e8 cI;rw[m4 cF];cases a6:(if t∈(L.take j).map (·.t)then ν else aq)with
   |none=>
    rw[S3,aW];exact cI _ _ ⟨sp,rfl,Ext.refl _,(λh=>by cases h),λ_=>.inr a6⟩
   |some e9=>
    rw[S2,bZ];have eo:=bj.W a2;rw[aK ck.p 0 eo rfl,aK ck.p 0 eh rfl];refine(yY (bL.ls.W a2) (cD.ls.W a2)).X ?_;rintro _ cf _ ⟨rfl,ep⟩;exact cI _ _ ⟨_,rfl,ep,λh=>ro h,λh=>.inl (of_decide_eq_false h)⟩
 .rintro M ea ⟨Q,aZ⟩;rw[p8]at aZ;have er:L.map (·.t)=A.map (·.1):=by rw[<-bJ,T8];rfl
  rw[er]at aZ;have bK:∃c,ag G g bE c:=by obtain⟨cp,aX,aY,bad,cq,big,cr,m1,sv,E,_⟩:=jn be;exact⟨_,E⟩
  have aw:∀r,r=g->iC G r\/G.heap.size<=r:=λr C=>by
   subst C;obtain⟨c,E⟩:=bK;exact .inl ⟨_,c,E,Φ,Φ⟩
  have cJ:∀r,(r=g\/J.heap.size<=r)->iC J r\/J.heap.size<=r:=cn λr C=>C;have bk:af (λr=>r=g\/J.heap.size<=r) J M:=bf.F (Q.X λr _ h=>.inl h);have es:=cu.aa Q λhe=>cl he;have et:=eV bd bk cJ;have eu:=eV aN bk cJ;have bi:=yX bg Q λr C=>(aw r C).imp (λ⟨e,c,E,_,a1⟩=>⟨e,c,E,a1⟩) id;have ev:∀y∈L,∃gy,an .i64 ao M gy y.v y.t:=λy R=>by
   obtain⟨gy,hm⟩:=cw y R;exact⟨gy,eV hm Q aw⟩
  have bL:=eV cA Q aw;have bj:=cz.aa Q λhe=>bI he;refine b6 Ω ?_;rw[aT ck.p rfl];refine bw (g:=am) (o:=1) ao.i rfl rfl bj Ξ λai aE fa bO=>?_;have bO:=bO;have ew:K≠am:=Ω
  have cK:=es.aa aE λhe=>ew he;have fb:J.heap.size<=am:=Ω
  have ey:∀r,lc cm r->r≠am:=λr C=>by obtain⟨aX,aY⟩:=aR.choose_spec.1.li C;omega
  have ez:=bi.aa aE λr C he=>ey r C he;rw[aK bb.p 3 cK rfl,bC ck.p ck.i rfl bO.range];let a:yW:=⟨aO,t,c⟩;have bm:∀{v:x1}{a7:Nat}{l:Λ},an .i64 ao M a7 v l->an .i64 ao ai a7 v l:=λhm=>bl hm aE λr C he=>by
   have he:r=am:=he;exact ch hm bj Φ C he
  have cL:=bm bL;refine iS (f:=p1) (a:=a) ek.u ck.i Ω rfl rfl λv45 fc ba fd X eA=>?_;have bP:=ez.W X;refine jk (f:=p1) (a:=a) ek.u ck.i rfl bP (by simpa using eA.sl) (yZ (cL.W X)) Ω Ω λcM cN bB bp eB cP=>?_;have bS:=cK.W X;have cQ:=bS.aa cP λhe=>cO bP bS Φ he;rw[aT bb.p rfl];refine bw (g:=K) (o:=3) ek.i (eK bp.sl).1 (eK bp.sl).2 cQ Ξ λal cR fe bT=>?_;have bT:=bT;rw[aL];have bU:af (λr=>lc cm r\/r=K) ba al:=(cP.X λr _ h=>.inl h).F (cR.X λr _ h=>.inr h);have bq:∀{v:x1}{a7:Nat}{l:Λ},an .i64 ao ba a7 v l->an .i64 ao al a7 v l:=λhm=>bl hm bU λr C U=>by
   rcases U with U|rfl
   .obtain⟨rfl,ff,E⟩:=dJ bP U;exact ch hm E Φ C rfl
   .exact ch hm bS Φ C rfl
  have cS:∀r,(lc cm r\/r=K)->B<=r:=λr C=>C.elim (λC=>bD W r C) λC=>C▸f7;have eC:bQ ai g B H N (if t∈A.map (·.1)then ν else aq):=aZ.new aE λr C=>by
   have C:r=am:=C;omega
  have eD:=(eC.W X).new bU cS;have eE:af (iE g B) J al:=((bk.X λr _ h=>h.elim .inl λh=>.inr Ω).F (aE.X λr _ h=>.inr (by have h:r=am:=h;omega))).F ((X.aa _).F (bU.X λr _ h=>.inr (cS r h)));have eF:lY al cN cM (A++[(t,c)]):=⟨L++[a],bp.aa cR λr C he=>by
   have he:r=K:=he;subst he;exact cO bp cQ Φ C,λy R=>by
   rcases o9.1 R with R|R
   .obtain⟨gy,hm⟩:=ev y R;exact⟨gy,bq ((bm hm).W X)⟩
   .rw[b8.1 R];exact⟨gt,bq (cL.W X)⟩,by rw[n9,bJ];rfl⟩
  refine hk _ ⟨A++[(t,c)],_,cM,cN,aM.F eE,bT,bq ((bm et).W X),bq ((bm eu).W X),eF,λ_ r C=>?_,eD,λh=>Ω,λ_=>?_⟩
  .rcases eB r C with h|h
   .exact bD W r h
   .have:=aM.size;have:=bk.size;have:=aE.size;have:=X.size;have:=dP.2;omega
  .have eH:n.toNat-i=(n.toNat-(i+1))+1:=Ω
   rw[eH]at he;obtain⟨eJ,eL⟩:=D3 dW dX;cases O:bc 0 ax ((gm co [] (σ eW)).map (·.2))with
   |none=>
    have a6:aq=ν:=by rw[<-cB];show(bc 0 ax _).map _=ν;rw[O];rfl
    rw[q8 (eJ O)]at he;refine .inr ⟨?_,he⟩;rw[a6];split<;>rfl
   |some q=>
    have a6:aq=σ q.2:=by rw[<-cB];show(bc 0 ax _).map _=_;rw[O];rfl
    have br:=eL q O;by_cases hm:t∈A.map (·.1)
    .rw[m5 hm]at br;rw[q8 br]at he;exact .inr ⟨by rw[m5 hm],he⟩
    .rw[m6 hm]at br;rw[uS br]at he;refine .inl ⟨q.2,by rw[m6 hm,a6],he,?_⟩;cases bV:gm co [] (σ eW)with
     |none=>rw[bV]at O;cases O
     |some p=>
      rw[bV]at O;obtain⟨t',s1⟩:=p;have aX:=bV;obtain⟨u,_,_,eM⟩:=xX aX;have aY:bh 0 ax s1=σ q:=O;obtain⟨fg,s2⟩:=q;have eN:=dI aY;have:=eM.1;have:=eN.1;rw[p9];simp only[List.length_singleton];omega
def lu(s:aH):Prop:=s.big=sp->0<=s.m1/\s.m1<=16384
def lv(e:Bool)(ar:Nat)(scope co:Λ)(f:Option aH):Option (cv×aH):=match bc 0 ax (f.map (bg (decide (6<ar)||dH co)))with
 |none=>ν
 |some (other,h)=>match eb co h with
  |none=>ν
  |some (lines,a)=>σ (⟨scope,co,other,lines⟩,if e=rs then{a with m2:=a.m2++[(co,lines)]}else a)
theorem Fv{s s':aH}{l:List (Λ×Int)}(h:eb co s=σ (l,s')):s'.d8.length+1<=s.d8.length/\s'.m2=s.m2:=by
 unfold eb at h;cases e:bh (-ax) ax s with
 |none=>rw[e]at h;cases h
 |some q=>
  obtain⟨n,s1⟩:=q;have j:=dI e;have y:=j.1;have p:=j.eqs.2.2;rw[e]at h;simp only at h;split at h
  .split at h
   .cases h
   .split at h
    .cases h;exact⟨Ω,p⟩
    .cases h
  .have bf:=h;have:=mN (λ_ t=>t.d8.length<=s1.d8.length/\t.m2=s1.m2) (λacc t a t' r x=>by
    obtain⟨_,_,_,w⟩:=q5 x;have h1:=w.1;have f:=w.eqs.2.2;exact⟨by have:=r.1;omega,f.F r.2⟩) n.toNat [] (bg (decide (16384<min (s1.m1+n) ax)) {s1 with m1:=min (s1.m1+n) ax}) l s' ⟨o5 _,rfl⟩ bf
   obtain⟨⟨h1,f⟩,_⟩:=this;exact⟨Ω,f.F p⟩
theorem vC{g:Nat}{H:ah}{s:aH}(h:bQ w g B H N (σ s)):s.d8.length<=100000/\s.m2.length+s.d8.length<=100000:=by
 obtain⟨j,w0,p,q,gs,sv,L,r,x,y,bad,z,big,A,m1,h1,C,E,F,e,G,I,J,K,M,O,a,P,f,Q⟩:=h;have R:=e.2.2.1;refine⟨by rw[<-a,r9];omega,by rw[<-a,<-f,r9,r9];omega⟩
def Fw(w:x3)(g h B:Nat)(H:ah)(e:Option (cv×aH))(v:x1)(I:x3):Prop:=∃f x a,af (λr=>r=g\/H r\/r=h\/B<=r) w I/\v= .agg (fE f).toArray/\im I f x/\bQ I g I.heap.size a 100001 (e.map (·.2))/\(∀q,e=σ q->x=q.1)/\(∀r,H r->a r)/\(∀r,a r->H r\/B<=r)/\∀r,a r->r<I.heap.size
theorem Fx{g E ar:Nat}{H:ah}{R:Option aH}{bd:Bool}{dv:Int}{scope:Λ}{Q:x1->x3->Prop}(h:bQ w g B H 100000 R)(dw:iD w B E ⟨scope,co,0,[]⟩)(fh:∀c,ag w E bb c->c[3]?=σ (.slice ν 0 0))(dx:∀z∈co,1<=z/\z<=ax)(fi:co.length<=100001)(dy:ag w N bb [.slice ν 0 0,.slice ν 0 0,Δ 0,.slice ν 0 0])(jl:N<B)(cE:¬H N)(cF:∀r,H r->r<B)(fj:∀s2,R=σ s2->lu s2)(fk:∀v I,Fw w g N B H (lv bd ar scope co R) v I->Q v I):
  ab x7 (u6 bb (Γ E) 1) w λfm=>
  ab x7 (u4 au fm) w λdz=>
  ab x7 (X7 #[au] ae #[dz]) w λfo=>
  bT (Δ 1) (Δ 0) w λcount cV aE fp=>
   ab x7 (aQ .lss ae sp sp cV fo) aE λfq=>
   Split fq (ct (α:=x1->x3->Prop) (λ(fs:x1)(dA:x3)=>
    ab x7 (aQ .add ae sp rs cV (Δ 1)) dA λft=>
    fp fs ft dA) λdD=>
   ab x7 (j0 au dz cV) aE λfu=>
   ab x7 (u4 ao fu) aE λdE=>
   ct (α:=x1->x3->Prop) (λ(fv:x1)(cG:x3)=>
    ab x7 (aQ .mul ao sp sp count fv) cG λdF=>
    ab x7 (aQ .gtr ao sp rs dF (Δ 4096)) cG λfw=>
    Split fw (dD (Δ 4097) cG)
     (dD dF cG)) λdG=>
   ab x7 (aQ .gtr ao sp rs dE (Δ 4096)) aE λfx=>
   Split fx (dG (Δ 4097) aE)
    (dG dE aE))
    (ct (α:=x3->Prop) (λ(bW:x3)=>
   ak x7 nv [(Γ g),(Δ 0),(Δ 4611686018427387904)] bW λdK bB=>
   ab x7 (c7 dK 0) bB λfy=>
   ab x7 (c7 dK 1) bB λjm=>
   ab x7 (u6 bb (Γ E) 2) bB λfz=>
   aD x7 (o6 ao fz fy) bB λ(_:Unit)be=>
   ak x7 nv [(Γ g),(Δ (-4611686018427387904)),(Δ 4611686018427387904)] be λdL O=>
   ab x7 (c7 dL 0) O λbD=>
   ab x7 (c7 dL 1) O λdM=>
   ab x7 (bR (Γ g)) O λfB=>
   ab x7 (u6 bE fB 3) O λt131=>
   ab x7 (u4 ae t131) O λfD=>
   ab x7 (aQ .neq ae sp rs fD (Δ 0)) O λfF=>
   Split fF (ab x7 (u4 bb (Γ E)) O λbX=>
    aD x7 (o6 bb (Γ N) bX) O λ(_:Unit)bf=>
    ab x7 (do loadVar bb (<-asAddr (Γ N))) bf λbY=>
 Q bY bf)
    (ct (α:=x3->Prop) (λ(aU:x3)=>
    ce (Δ 0) aU λdP bp fG=>
     ct (α:=x1->x3->Prop) (λ(fH:x1)(b0:x3)=>
      Split fH (aD x7 (S5 ck rs (.tuple #[])) b0 λx cH=>
     ab x7 (u6 bb (Γ E) 1) cH λfI=>
     ab x7 (u4 au fI) cH λdQ=>
     ab x7 (X7 #[au] ae #[dQ]) cH λfJ=>
     ce (Δ 0) cH λcW bF fK=>
      ab x7 (aQ .lss ae sp sp cW fJ) bF λfL=>
      Split fL (ab x7 (j0 au dQ cW) bF λfM=>
      ab x7 (u4 ao fM) bF λt218=>
      ab x7 (aQ .sub ao sp rs t218 (Δ 1)) bF λt222=>
      ak x7 nv [(Γ g),(Δ 0),t222] bF λdR b1=>
      ab x7 (c7 dR 0) b1 λfN=>
      ab x7 (c7 dR 1) b1 λjo=>
      ab x7 (u6 ck x 0) b1 λfO=>
      ab x7 (u4 au fO) b1 λfP=>
      aD x7 (Z3 au 1 #[(0,fN)]) b1 λt229 fQ=>
      aD x7 (j4 #[au,au] au #[fP,t229]) fQ λfR dS=>
      ab x7 (u6 ck x 0) dS λfS=>
      aD x7 (o6 au fS fR) dS λ(_:Unit)dT=>
      ab x7 (aQ .add ae sp rs cW (Δ 1)) dT λfU=>
      fK fU dT)
       (ak x7 nv [(Γ g),(Δ 0),(Δ 4611686018427387904)] bF λdU bH=>
     ab x7 (c7 dU 0) bH λfV=>
     ab x7 (c7 dU 1) bH λfW=>
     ab x7 (u6 bb (Γ E) 3) bH λfX=>
     ab x7 (u4 ek fX) bH λdV=>
     ab x7 (X7 #[ek] ae #[dV]) bH λfY=>
     ce (Δ 0) bH λcX bI fZ=>
      ab x7 (aQ .lss ae sp sp cX fY) bI λgb=>
      Split gb (ct (α:=x3->Prop) (λ(dW:x3)=>
       ab x7 (aQ .add ae sp rs cX (Δ 1)) dW λgc=>
       fZ gc dW) λdX=>
      ab x7 (j0 ek dV cX) bI λgd=>
      ab x7 (u4 ck gd) bI λgf=>
      aD x7 (S5 ck rs (.tuple #[])) bI λy gg=>
      aD x7 (o6 ck y gf) gg λ(_:Unit)aF=>
      ct (α:=x1->x3->Prop) (λ(gh:x1)(dY:x3)=>
       Split gh (ak x7 pr [(Γ g),(Δ 4),fW] dY λjp gi=>
        dX gi)
        (dX dY)) λdZ=>
      ab x7 (bR (Γ g)) aF λgj=>
      ab x7 (u6 bE gj 3) aF λgk=>
      ab x7 (u4 ae gk) aF λgm=>
      ab x7 (aQ .eql ae sp rs gm (Δ 0)) aF λgn=>
      Split gn (ab x7 (u6 ck x 0) aF λgp=>
       ab x7 (u4 au gp) aF λgq=>
      ab x7 (u6 ck y 0) aF λgu=>
      ab x7 (u4 au gu) aF λgv=>
      ak x7 uj [gq,gv] aF λgw gx=>
      dZ gw gx)
       (dZ (.bool sp) aF))
       (ab x7 (u6 ck x 1) bI λgA=>
     aD x7 (o6 ao gA fV) bI λ(_:Unit)cI=>
     ab x7 (u6 bb (Γ E) 3) cI λgB=>
     ab x7 (u4 ek gB) cI λgC=>
     ab x7 (u4 ck x) cI λgD=>
     aD x7 (Z3 ek 1 #[(0,gD)]) cI λgE gF=>
     aD x7 (j4 #[ek,ek] ek #[gC,gE]) gF λgH ea=>
     ab x7 (u6 bb (Γ E) 3) ea λgI=>
     aD x7 (o6 ek gI gH) ea λ(_:Unit)ec=>
     ab x7 (aQ .add ao sp rs dP (Δ 1)) ec λgJ=>
     fG gJ ec)))
       (ct (α:=x3->Prop) (λ(ai:x3)=>
     ab x7 (u4 bb (Γ E)) ai λgK=>
     aD x7 (o6 bb (Γ N) gK) ai λ(_:Unit)ed=>
     ab x7 (do loadVar bb (<-asAddr (Γ N))) ed λgL=>
 Q gL ed) λee=>
    Split (.bool bd) (eu b0 λaq=>
     ab x7 (bR (Γ g)) aq λcY=>
     ab x7 (u6 bE cY 8) aq λcZ=>
     ab x7 (u4 dC cZ) aq λef=>
     ab x7 (u4 bb (Γ E)) aq λgM=>
     aD x7 (Z3 dC 1 #[(0,gM)]) aq λgN aX=>
     (Ext aq aX\/cC x7 (u4 dC cZ) ef aX/\cC x7 (u6 bE cY 8) cZ aX/\cC x7 (bR (Γ g)) cY aX/\True)/\
     aD x7 (j4 #[dC,dC] dC #[ef,gN]) aX λgO cJ=>
      ab x7 (bR (Γ g)) cJ λgP=>
      ab x7 (u6 bE gP 8) cJ λgQ=>
      aD x7 (o6 dC gQ gO) cJ λ(_:Unit)bq=>
      ee bq)
     (ee b0))) λeg=>
     ab x7 (aQ .lss ao sp sp dP bD) bp λgR=>
     Split gR (ab x7 (bR (Γ g)) bp λgS=>
     ab x7 (u6 bE gS 3) bp λgT=>
     ab x7 (u4 ae gT) bp λgU=>
     ab x7 (aQ .eql ae sp rs gU (Δ 0)) bp λgV=>
     eg gV bp)
      (eg (.bool sp) bp)) λeh=>
   ab x7 (aQ .lss ao sp rs bD (Δ 0)) O λgW=>
   Split gW (ct (α:=x1->x3->Prop) (λ(gX:x1)(X:x3)=>
     Split gX (ak x7 pr [(Γ g),(Δ 4),dM] X λjq c0=>
     ab x7 (u4 bb (Γ E)) c0 λgY=>
     aD x7 (o6 bb (Γ N) gY) c0 λ(_:Unit)ei=>
     ab x7 (do loadVar bb (<-asAddr (Γ N))) ei λgZ=>
 Q gZ ei)
     (ab x7 (bR (Γ g)) X λg0=>
    ab x7 (u6 bE g0 8) X λg2=>
    ab x7 (u4 dC g2) X λg3=>
    ab x7 (Op.unary .neg bD) X λg4=>
    ab x7 (aQ .sub ao sp rs g4 (Δ 1)) X λg5=>
    ab x7 (j0 dC g3 g5) X λg6=>
    ab x7 (u6 bb g6 3) X λg7=>
    ab x7 (u4 ek g7) X λg8=>
    ab x7 (u6 bb (Γ E) 3) X λg9=>
    aD x7 (o6 ek g9 g8) X λ(_:Unit)ej=>
    eh ej)) λem=>
    eu O λP=>
    ab x7 (Op.unary .neg bD) P λha=>
    ab x7 (bR (Γ g)) P λhb=>
    ab x7 (u6 bE hb 8) P λhc=>
    ab x7 (u4 dC hc) P λhd=>
    ab x7 (X7 #[dC] ae #[hd]) P λhf=>
    ab x7 (aQ .gtr ao sp sp ha hf) P λhg=>
    Split hg (em (.bool rs) P)
    (ab x7 (bR (Γ g)) P λhh=>
    ab x7 (u6 bE hh 8) P λhj=>
    ab x7 (u4 dC hj) P λhl=>
    ab x7 (Op.unary .neg bD) P λhn=>
    ab x7 (aQ .sub ao sp rs hn (Δ 1)) P λho=>
    ab x7 (j0 dC hl ho) P λhp=>
    ab x7 (u6 bb hp 1) P λhq=>
    ab x7 (u4 au hq) P λhr=>
    ab x7 (u6 bb (Γ E) 1) P λhs=>
    ab x7 (u4 au hs) P λht=>
    ak x7 uj [hr,ht] P λhu c1=>
    ab x7 (Op.unary .not hu) c1 λhv=>
    em hv c1))
    (ab x7 (bR (Γ g)) O λhx=>
    ab x7 (u6 bE hx 7) O λhy=>
    ab x7 (u4 ao hy) O λhz=>
    ab x7 (aQ .add ao sp sp hz bD) O λhA=>
    ab x7 (bR (Γ g)) O λt182=>
    ab x7 (u6 bE t182 7) O λt183=>
    aD x7 (o6 ao t183 hA) O λ(_:Unit)aG=>
    ct (α:=x3->Prop) (λ(aJ:x3)=>
     ab x7 (bR (Γ g)) aJ λhB=>
     ab x7 (u6 bE hB 7) aJ λhC=>
     ab x7 (u4 ao hC) aJ λhD=>
     ab x7 (aQ .gtr ao sp rs hD (Δ 16384)) aJ λhE=>
     ak x7 ui [(Γ g),hE,dM] aJ λjr c2=>
     eh c2) λen=>
    ab x7 (bR (Γ g)) aG λhF=>
    ab x7 (u6 bE hF 7) aG λhG=>
    ab x7 (u4 ao hG) aG λhH=>
    ab x7 (aQ .gtr ao sp rs hH (Δ 4611686018427387904)) aG λhI=>
    Split hI (ab x7 (bR (Γ g)) aG λhJ=>
    ab x7 (u6 bE hJ 7) aG λhK=>
    aD x7 (o6 ao hK (Δ 4611686018427387904)) aG λ(_:Unit)eo=>
    en eo)
    (en aG)))) λep=>
  ab x7 (aQ .gtr ao sp rs (Δ (ar:Int)) (Δ 6)) aE λhL=>
  Split hL (ak x7 ui [(Γ g),(.bool rs),(Δ dv)] aE λjs hM=>
  ep hM)
   (ab x7 (aQ .gtr ao sp rs count (Δ 4096)) aE λhN=>
  ak x7 ui [(Γ g),hN,(Δ dv)] aE λjt hO=>
  ep hO)):=by
 have hP:=h.lt;have er:N≠g:=λhe=>by
  obtain⟨aw,Z,ac,bad,ay,big,aA,m1,sv,C,_⟩:=jn h;subst he;exact m7 (eJ C dy) Φ
 obtain⟨aI,d9,cm,g1,cK,cL,f1,f2,f3,f4,f5,f6,f7⟩:=id dw;have b2:E≠g:=Ω
 have ret:∀{G:x3}{x:cv}{S:ah},iD G B E x->ag G N bb [.slice ν 0 0,.slice ν 0 0,Δ 0,.slice ν 0 0]->af (λr=>r=g\/H r\/B<=r) w G->bQ G g G.heap.size S 100001 ((lv bd ar scope co R).map (·.2))->(∀q,lv bd ar scope co R=σ q->x=q.1)->¬S N->(∀r,H r->S r)->(∀r,S r->H r\/B<=r)->(∀r,S r->r<G.heap.size)->
   (ab x7 (u4 bb (Γ E)) G λbX=>
    aD x7 (o6 bb (Γ N) bX) G λ(_:Unit)bf=>
    ab x7 (do loadVar bb (<-asAddr (Γ N))) bf λbY=>Q bY bf):=by
  intro G x S c3 c4 hQ hR hS hT c6 hU hV;obtain⟨aI,d9,cm,g1,cK,cL,c8,c9,da,db,dd,es,et⟩:=c3;let ad:kf:=⟨aI,d9,x.other,cm⟩;have b3:im G ad x:=⟨⟨g1,c9⟩,⟨cK,da⟩,rfl,cL,db⟩;rw[bC bb.p bb.i rfl (show G.rangeAt E 0 (fE ad)from c8.range)];refine b4 (vs:=fE ad) bb.i rfl rfl b3.one c4 λju de hW hX=>?_;rw[fA bb.p bb.i rfl hX.range];have hY:∀r,r=N->iC G r\/G.heap.size<=r:=λr j=>by subst j;exact .inl ⟨_,_,c4,Φ,Φ⟩
  refine fk _ _ ⟨ad,x,S,(hQ.X λr _ h=>?_).F (de.X λr _ h=>.inr (.inr (.inl h))),rfl,b3.dO de hY,hR.dO de λr j=>.inl ?_,hS,c6,hU,λr j=>by rw[hW];exact hV r j⟩
  .exact h.elim .inl λh=>h.elim (λh=>.inr (.inl h)) λh=>.inr (.inr (.inr h))
  .have j:r=N:=j;subst j;exact⟨_,_,c4,Φ,Φ,Φ,Φ,hT⟩
 have df:∀{G:x3},af (iE g B) w G->ag G N bb [.slice ν 0 0,.slice ν 0 0,Δ 0,.slice ν 0 0]:=λaY=>dy.aa aY λU=>U.elim er λh=>Ω
 have dg:∀{G:x3},af (iE g B) w G->af (λr=>r=g\/H r\/B<=r) w G:=λaY=>aY.X λr _ h=>h.elim .inl λh=>.inr (.inr h);have ev:∀{G:x3}{ew:Nat}{S:ah}{so:Option aH},bQ G g ew S 100000 so->bQ G g ew S 100001 so:=λj=>by
  obtain⟨b5,w0,aw,bi,gs,sv,L,aB,Z,ac,bad,ay,big,aA,m1,h1,hZ,h0,h2,h3,di,dj⟩:=j;refine⟨Ω,w0,aw,bi,gs,sv,L,aB,Z,ac,bad,ay,big,aA,m1,h1,hZ,h0,h2,h3,di,?_⟩;rename_i so;cases so with
  |none=>exact⟨dj.1,by have:=dj.2;omega⟩
  |some s=>exact dj
 have ey:∀{G:x3}{x:cv},iD G B E x->af (iE g B) w G->bQ G g B H 100000 ν->lv bd ar scope co R=ν->(ab x7 (u4 bb (Γ E)) G λbX=>
    aD x7 (o6 bb (Γ N) bX) G λ(_:Unit)bf=>
    ab x7 (do loadVar bb (<-asAddr (Γ N))) bf λbY=>Q bY bf):=λc3 aY j ez=>
  ret c3 (df aY) (dg aY) (by rw[ez];exact ev j.base) (λq V=>by rw[ez]at V;cases V) cE (λ_ h=>h) (λ_ h=>.inl h) λr j=>by have:=cF r j;have:=aY.size;omega
 rw[aK bb.p 1 f1 rfl,aS au.u f3.ls];refine QC f3.ls (λz h4=>(dx z h4).1) λc aY=>?_;refine dh (λbW=>af (λr=>r=g) w bW/\bQ bW g B H 100000 (R.map (bg (decide (6<ar)||dH co)))) ?_ ?_
 rotate_left
 .intro az aZ;rw[bG,aj];refine⟨λdi=>?_,λdi=>?_⟩
  .refine (oQ h).X ?_;rintro _ J _ a1;refine aZ _ ⟨a1.1,?_⟩;rw[ms (show 6<ar by omega),Bool.true_or];exact a1.2
  .rw[bG];refine(oQ h).X ?_;rintro _ J _ a1;refine aZ _ ⟨a1.1,?_⟩;have e:dH co=decide (4096<c):=by rw[U5,rc];exact aY.symm
   rw[pl (show¬6<ar by omega),Bool.false_or,e];exact a1.2
 rintro bW ⟨h5,h6⟩;refine(lZ h6).X ?_;rintro _ bB _ ⟨⟨h7,h8⟩,o,jv,rfl,h9,jw⟩;rw[bn,bo];have bJ:af (λr=>r=g) w bB:=h5.F h7;have jx:=dw.dO bJ (l0 h);have f123:=f1.aa bJ λhe=>b2 he;rw[aT bb.p rfl];refine bw (g:=E) (o:=2) ao.i rfl rfl f123 Ξ λbe b6 jy bK=>?_;have bK:ag be E bb [aI,d9,Δ o,cm]:=bK;have dk:∀r,r=g->iC w r\/w.heap.size<=r:=λr j=>(l0 h r j).imp (λ⟨e,c,C,a2,a6,_⟩=>⟨e,c,C,a2,a6⟩) id;have bL:∀{G:x3}{c:List x1},ag G E bb c->∀r,r=E->iC G r\/G.heap.size<=r:=λC r j=>by subst j;exact .inl ⟨_,_,C,Φ,Φ⟩
 have f224:=eV (eV f2 bJ dk) b6 (bL f123);have f324:=eV (eV f3 bJ dk) b6 (bL f123);have eA:=(f4.dO bJ dk).dO b6 (bL f123);have bM:=h8.new b6 λr j=>by have j:r=E:=j;omega
 have eB:af (iE g B) w be:=(bJ.X λr _ h=>.inl h).F (b6.X λr _ h=>.inr (by have h:r=E:=h;omega));refine(lZ bM).X ?_;rintro _ O _ ⟨⟨bj,a7⟩,n,jz,rfl,ia,eC⟩;rw[bn,bo,s9 a7];have eD:af (iE g B) w O:=eB.F (bj.X λr _ h=>.inl h);have ib:iD be B E ⟨scope,co,o,[]⟩:=⟨aI,d9,cm,g1,cK,cL,bK,f224,f324,eA,f5,f6,f7⟩;have eE:=ib.dO bj (l0 bM);cases a8:bc (-4611686018427387904) 4611686018427387904 (W3 (λx=>x.snd) (bc 0 4611686018427387904 (R.map (bg (decide (6<ar)||dH co)))))with
 |none=>
  rw[a8]at a7;rw[Option.map_none,S3,X1,bZ];refine ey eE eD a7 ?_;unfold lv;cases W:bc 0 ax (R.map (bg (decide (6<ar)||dH co)))with
  |none=>rfl
  |some p=>
   obtain⟨o',M⟩:=p;have ic:bc 0 4611686018427387904 (R.map (bg (decide (6<ar)||dH co)))=σ (o',M):=W;rw[ic]at a8;have e:bh (-ax) ax M=ν:=a8;simp only;unfold eb;rw[e]
 |some q=>
 obtain⟨jA,K⟩:=q;have ie:=ia _ a8;subst ie;rw[a8]at a7;have a7:bQ O g B H 100000 (σ K):=a7;rw[Z0,S2,Y2,aW];obtain⟨M,W,dl⟩:∃M,bc 0 ax (R.map (bg (decide (6<ar)||dH co)))=σ (o,M)/\bh (-ax) ax M=σ (n,K):=by
  cases W:bc 0 4611686018427387904 (R.map (bg (decide (6<ar)||dH co)))with
  |none=>rw[W]at a8;cases a8
  |some p=>
   obtain⟨o',M⟩:=p;have:=h9 _ W;subst this;rw[W]at a8;exact⟨M,W,a8⟩
 have b7:lv bd ar scope co R=match eb co M with
   |none=>ν
   |some (lines,K)=>σ (⟨scope,co,o,lines⟩,if bd=rs then{K with m2:=K.m2++[(co,lines)]}else K):=by
  unfold lv;rw[W]
 have ig:=(jh dl).1;have ih: -4611686018427387904<=n/\n<=4611686018427387904:=ig;have eF:eb co M=(if n<0 then match K.m2[(-n-1).toNat]? with
   |none=>ν
   |some (z,l)=>if z=co then σ (l,K)else ν
  else dc (eR co) n.toNat [] (bg (decide (16384<min (K.m1+n) ax)) {K with m1:=min (K.m1+n) ax})):=by
  unfold eb;rw[dl];rfl
 have ii:lu K:=by
  cases bN:R with
  |none=>rw[bN]at W;cases W
  |some s2=>
   rw[bN]at W;have dm:bh 0 ax (bg (decide (6<ar)||dH co) s2)=σ (o,M):=W;have cM:=(dI dm).eqs;have b8:=(dI dl).eqs;intro C;rw[b8.2.1,cM.2.1]at C;rw[b8.1,cM.1];exact fj s2 bN (Bool.or_eq_false_iff.1 C).1
 refine dh (λaU=>af (iE g B) w aU/\∃br ca cN bk,ag aU E bb [aI,d9,Δ o,br]/\an .i64 ao aU g1 aI scope/\an .i64 ao aU cK d9 co/\lY aU ca br cN/\bQ aU g B H 100000 (σ bk)/\(0<n->cN=[]/\∀r,¬lc br r)/\eb co M=(if n<=0 then σ (cN,bk)else dc (eR co) n.toNat [] bk)) ?_ ?_
 .rintro aU ⟨ij,br,ca,cN,bk,c8,c9,da,db,dd,es,et⟩;refine QF dd c8 c9 da db f5 f6 f7 dx fi ih.2 es (vC dd).1 λb0 A dn ik eH eL il cb=>?_;have bO:=ij.F ik;have bs:dn=(eb co M).map (·.2)/\∀q,eb co M=σ q->A=q.1:=by
   rw[et];by_cases dp:n<=0
   .obtain⟨Z,ac⟩:=il dp;rw[m5 dp];exact⟨ac,λq V=>by cases V;exact Z⟩
   .rw[m6 dp];exact cb Ω
  obtain⟨bs,a1⟩:=bs;cases bd with
  |false=>
   refine dh (λai=>b0=ai) ?_ ?_
   .rintro _ rfl;refine ret eH (df bO) (dg bO) ?_ ?_ cE (λ_ h=>h) (λ_ h=>.inl h) λr j=>by have:=cF r j;have:=bO.size;omega
    .have:(lv sp ar scope co R).map (·.2)=dn:=by
      rw[b7,bs];cases eb co M with
      |none=>rfl
      |some p=>rfl
     rw[this];exact ev eL.base
    .intro q V;rw[b7]at V;cases al:eb co M with
     |none=>rw[al]at V;cases V
     |some p=>
      rw[al]at V;have:=a1 p al;cases V;rw[this]
   .intro az aZ;rw[aW];exact aZ _ rfl
  |true=>
   refine dh (λai=>∃S,af (λr=>r=g\/H r\/B<=r) w ai/\iD ai B E ⟨scope,co,o,A⟩/\ag ai N bb [.slice ν 0 0,.slice ν 0 0,Δ 0,.slice ν 0 0]/\bQ ai g ai.heap.size S 100001 ((lv rs ar scope co R).map (·.2))/\¬S N/\(∀r,H r->S r)/\(∀r,S r->H r\/B<=r)/\∀r,S r->r<ai.heap.size) ?_ ?_
   .rintro ai ⟨S,io,ip,a3,a4,a5,iq,ir,it⟩;refine ret ip a3 io a4 ?_ a5 iq ir it;intro q V;rw[b7]at V;cases al:eb co M with
    |none=>rw[al]at V;cases V
    |some p=>
     rw[al]at V;have:=a1 p al;cases V;rw[this]
   .intro az aZ;rw[bZ];intro aq cc _ _;have iu:=eL.W cc;have iv:=eH.W cc;have iw:=(df bO).W cc;obtain⟨b5,w0,aw,bi,gs,sv,L,aB,Z,ac,bad,ay,big,aA,m1,cP,bt,bu,am,bx,bl,bz⟩:=id iu;have ix:=bx.g bt bu;obtain⟨⟨iy,eM⟩,aM,cd,cf⟩:=id ix;have iz:∀r,lc sv r->r<B:=λr j=>cF r (bl r j);rw[aN bE.p 8 am rfl];obtain⟨eN,eO,br,eP,eQ,ca,eS,eU,eW,eX,iA,iB,iF⟩:=id iv;let ad:kf:=⟨eN,eO,o,br⟩;let x:cv:=⟨scope,co,o,A⟩;have b3:im aq ad x:=⟨⟨eP,eU⟩,⟨eQ,eW⟩,rfl,ca,eX⟩;rw[bC bb.p bb.i rfl (show aq.rangeAt E 0 (fE ad)from eS.range)];refine iS (f:=fE) (a:=ad) dC.u bb.i Ω rfl rfl λv51 jB aX jC Y iG=>?_;refine⟨.inl Y,?_⟩;have jD:L.length<=100000:=by
     cases dn with
     |none=>exact bz.2
     |some s=>have:=bz.2.2.2.2.2.2.2.2;omega
    have dq:=aM.W Y;refine jk (f:=fE) (a:=ad) dC.u bb.i rfl dq (by simpa using iG.sl) (b3.W Y).one Ω Ω λeY iH cJ cg iI eZ=>?_;have dr:=am.W Y;have e0:=dr.aa eZ λhe=>cO dq dr Φ he;rw[bS,aT bE.p rfl];refine bw (g:=g) (o:=8) dC.i (eK cg.sl).1 (eK cg.sl).2 e0 (by simp[iY]) λbq ds jE cQ=>?_;have cQ:ag bq g bE (iY aw Z ac bad ay big aA m1 eY):=cQ;have aO:af (λr=>lc sv r\/r=g) aX bq:=(eZ.X λr _ h=>.inl h).F (ds.X λr _ h=>.inr h);have cR:∀r,(lc sv r\/r=g)->iC aX r\/aX.heap.size<=r:=λr j=>by
     rcases j with j|rfl
     .obtain⟨rfl,c,C⟩:=dJ dq j;exact .inl ⟨_,c,C,Φ,Φ⟩
     .exact .inl ⟨_,_,dr,Φ,Φ⟩
    have e1:∀{ad x},im aq ad x->im bq ad x:=λhe=>(he.W Y).dO aO cR;have z50:=cc.size;have z51:=Y.size;have z53:=aO.size;have jF:=bO.size;have jG:=hP.2;refine aZ _ ⟨λr=>H r\/(aq.heap.size<=r/\r<bq.heap.size),?_,?_,?_,?_,?_,λr j=>.inl j,λr j=>j.imp id λj=>Ω,λr j=>?_⟩
    .refine (((dg bO).F (cc.aa _)).F (Y.aa _)).F (aO.X λr _ j=>?_);exact j.elim (λj=>.inr (.inl (bl r j))) .inl
    .have iJ:=eS.W Y;refine⟨eN,eO,br,eP,eQ,ca,iJ.aa aO λj=>?_,eV (eU.W Y) aO cR,eV (eW.W Y) aO cR,(eX.dO (Y.aa λ_=>False) λ_ h=>h.elim).dO aO cR,iA,iB,iF⟩;rcases j with j|j
     .have:=iz _ j;omega
     .exact b2 j
    .exact (iw.W Y).aa aO λj=>j.elim (λj=>cE (bl _ j)) er
    .refine⟨Ω,bq,aw,bi,iH,eY,L++[ad],aB++[x],Z,ac,bad,ay,big,aA,m1,rfl,af.refl _ _,⟨_,cQ⟩,cQ,⟨⟨?_,λr j=>?_⟩,cg.aa ds λr j he=>?_,by rw[p9,p9,cd];rfl,λi iK iL hi ch=>?_⟩,λr j=>?_,?_⟩
     .refine (iy.aa (Y.aa λ_=>False) λ_ _ h=>h).aa aO λr j U=>?_;obtain⟨c,C⟩:=eM r j;rcases U with U|rfl
      .obtain⟨rfl,iM,dt⟩:=dJ aM U;exact m7 (eJ C dt) Φ
      .exact m7 (eJ C am) Φ
     .obtain⟨c,C⟩:=eM r j;refine⟨c,(C.W Y).aa aO λU=>?_⟩;rcases U with U|rfl
      .obtain⟨rfl,iM,dt⟩:=dJ aM U;exact m7 (eJ C dt) Φ
      .exact m7 (eJ C am) Φ
     .have he:r=g:=he;subst he;exact cO cg e0 Φ j
     .by_cases iN:i<L.length
      .rw[W8 iN]at hi;rw[W8 Ω]at ch;exact e1 (cf i iK iL hi ch)
      .rw[Y5 Ω]at hi;rw[Y5 Ω]at ch;have iO:i-L.length=0:=by have:=(x4.1 hi).1;simp at this;omega
       have c6:i-aB.length=0:=Ω
       rw[iO]at hi;rw[c6]at ch;cases hi;cases ch;exact e1 b3
     .rcases iI r j with h|h
      .exact .inl (bl r h)
      .have:=(cg.li j);have:=ds.size;exact .inr ⟨Ω,Ω⟩
     .rw[b7];cases al:eb co M with
      |none=>
       rw[al]at bs;rw[bs]at bz;exact⟨bz.1,by rw[p9];simp;have:=bz.2;omega⟩
      |some p=>
       obtain⟨lines,bk⟩:=p;rw[al]at bs;rw[bs]at bz;have iP:=a1 _ al;obtain⟨ci,cj,cl,cn,cp,bP,cq,aR,cS⟩:=id bz;have e2:=Fv al;refine⟨ci,cj,cl,cn,cp,bP,cq,?_,?_⟩
       .show (aB++[x]).map _=bk.m2++[(co,lines)];rw[n9,aR];simp only[x,U4,List.map_nil];rw[iP]
       .have jH:M.m2.length+M.d8.length<=100000:=by
         cases bN:R with
         |none=>rw[bN]at W;cases W
         |some s2=>
          rw[bN]at W h;have dm:bh 0 ax (bg (decide (6<ar)||dH co) s2)=σ (o,M):=W;have t9:=dI dm;have cM:=t9.1;have b8:=t9.eqs.2.2;have t3:=(vC h).2;have e3:(bg (decide (6<ar)||dH co) s2).d8=s2.d8:=rfl;have e4:(bg (decide (6<ar)||dH co) s2).m2=s2.m2:=rfl;rw[e3]at cM;rw[e4]at b8;rw[b8];omega
        have e5:L.length=bk.m2.length:=by rw[<-aR,r9,cd]
        have iQ:bi.length=bk.d8.length:=by rw[<-bP,r9]
        rw[e2.2]at e5;rw[p9,e5,iQ];simp only[List.length_singleton];have:=e2.1;omega
    .rintro (j|j)
     .exact cE j
     .omega
    .rcases j with j|j
     .have:=cF r j;omega
     .exact j.2
 .intro az aZ;rw[aP,aj];refine⟨λiR=>?_,λiT=>?_⟩
  .
   refine aV (λv X=>Ext O X/\∃b:Bool,v= .bool b/\(b=rs->eb co M=ν)/\(b=sp->∃lines,eb co M=σ (lines,K)/\K.m2[(-n-1).toNat]?=σ (co,lines))) ?_ ?_
   .rintro _ X ⟨bU,b,rfl,iU,iV⟩;have cT:=a7.W bU;have iW:=eE.W bU;have e6:=eD.F (bU.aa _);cases b with
    |true=>
     rw[bZ];refine(p2 cT Ω).X ?_;rintro _ c0 _ ⟨e7,iX⟩;exact ey (iW.dO e7 (l0 cT)) (e6.F (e7.X λr _ h=>.inl h)) iX (by rw[b7,iU rfl])
    |false=>
     rw[aW];obtain⟨lines,iZ,bV⟩:=iV rfl;obtain⟨b5,w0,aw,bi,gs,sv,L,aB,Z,ac,bad,ay,big,aA,m1,cP,bt,bu,am,bx,bl,ci,cj,cl,cn,cp,bP,cq,aR,cS⟩:=id cT;obtain⟨_,aM,cd,cf⟩:=bx.g bt bu;have cr:(-n-1).toNat<L.length:=by
      have h1:=(x4.1 bV).1;rw[<-aR,r9]at h1;omega
     obtain⟨hk,cu⟩:∃h,L[(-n-1).toNat]?=σ h:=⟨_,x6 cr⟩;obtain⟨ba,cw⟩:=aC (l:=aB) (i:=(-n-1).toNat) Ω;obtain⟨_,_,_,i0,ap⟩:=cf _ hk ba cu cw;have i1:ba.lines=lines:=by
      rw[<-aR,x8,cw]at bV;have:=Z7 bV;exact(Prod.mk.inj this).2
     rw[aN bE.p 8 am rfl,nB,lm Ω Ω,dN,lm Ω Ω,c5 (i:=(-n-1).toNat) Ω dC.u bb.i aM cr,aT bb.p rfl,av Ψ (aM.range cu 3 _ rfl)];obtain⟨jI,e8,jJ,jK⟩:=id ap;have cU:ag X E bb [aI,d9,Δ o,cm]:=(bK.aa bj λhe=>b2 he).W bU;have i2:=(eV f224 bj λr j=>(l0 bM r j).imp (λ⟨e,c,C,a2,a6,_⟩=>⟨e,c,C,a2,a6⟩) id).W bU;have i3:=(eV f324 bj λr j=>(l0 bM r j).imp (λ⟨e,c,C,a2,a6,_⟩=>⟨e,c,C,a2,a6⟩) id).W bU;rw[aT bb.p rfl];refine bw (g:=E) (o:=3) ek.i (eK e8.sl).1 (eK e8.sl).2 cU Ξ λej cz jL i4=>?_;refine aZ _ ⟨e6.F (cz.X λr _ h=>.inr (by have h:r=E:=h;omega)),hk.cm,i0,lines,K,i4,eV i2 cz (bL cU),eV i3 cz (bL cU),?_,cT.new cz λr j=>by have j:r=E:=j;omega,λh=>Ω,by rw[iZ,m5 Ω]⟩;rw[<-i1];exact ap.dO cz (bL cU)
   .intro jM e9;intro P cA _ _;have i5:=a7.W cA;obtain⟨b5,w0,aw,bi,gs,sv,L,aB,Z,ac,bad,ay,big,aA,m1,cP,bt,bu,am,bx,bl,ci,cj,cl,cn,cp,bP,cq,aR,cS⟩:=id i5;obtain⟨_,aM,cd,cf⟩:=bx.g bt bu;have jN:K.m2.length=L.length:=by rw[<-aR,r9,cd]
    have ap:=eF;rw[m5 iR]at ap;rw[nB,lm Ω Ω,aN bE.p 8 am rfl,eI dC.u aM,bG,aj];refine⟨λcb=>e9 _ _ ⟨cA,rs,rfl,λ_=>?_,λh=>by cases h⟩,λcb=>?_⟩
    .rw[ap,Y0 Ω]
    have cr:(-n-1).toNat<L.length:=Ω
    obtain⟨hk,cu⟩:∃h,L[(-n-1).toNat]?=σ h:=⟨_,x6 cr⟩;obtain⟨ba,cw⟩:=aC (l:=aB) (i:=(-n-1).toNat) Ω;obtain⟨_,⟨gz,i6⟩,_,_⟩:=cf _ hk ba cu cw;have bV:K.m2[(-n-1).toNat]?=σ (ba.co,ba.lines):=by rw[<-aR,x8,cw];rfl
    rw[bV]at ap;simp only at ap;rw[aN bE.p 8 am rfl,nB,lm Ω Ω,dN,lm Ω Ω,c5 (i:=(-n-1).toNat) Ω dC.u bb.i aM cr,aT bb.p rfl,av Ψ (aM.range cu 1 _ rfl)];have i7:ag P E bb [aI,d9,Δ o,cm]:=(bK.aa bj λhe=>b2 he).W cA;have i8:=(eV f324 bj λr j=>(l0 bM r j).imp (λ⟨e,c,C,a2,a6,_⟩=>⟨e,c,C,a2,a6⟩) id).W cA;rw[aK bb.p 1 i7 rfl];refine(yY i6.ls i8.ls).X ?_;rintro _ c1 _ ⟨rfl,i9⟩;rw[bA];refine e9 _ _ ⟨cA.F i9,_,rfl,λC=>?_,λC=>?_⟩
    .have ja:ba.co≠co:=by simpa using C
     rw[ap,m6 ja]
    .have fa:ba.co=co:=by simpa using C
     exact⟨ba.lines,by rw[ap,m5 fa],by rw[bV,fa]⟩
  .
   have ap:=eF;rw[m6 iT]at ap;obtain⟨b5,w0,aw,bi,gs,sv,L,aB,Z,ac,bad,ay,big,aA,m1,cP,bt,bu,am,bx,bl,ci,cj,cl,cn,cp,bP,cq,aR,cS⟩:=id a7;rw[aN bE.p 7 am rfl,aL];generalize jb:Y6.wrap (m1+n)=bm;have fb:K.big=sp->bm=K.m1+n/\0<=bm:=λC=>by
    obtain⟨e3,e4⟩:=ii C;have jc:=cn C;rw[<-jb,jc,lm Ω Ω];exact⟨rfl,Ω⟩
   rw[bS,aT bE.p rfl];refine bw (g:=g) (o:=7) ao.i rfl rfl am (by simp[iY]) λaG fc jO cB=>?_;have cB:ag aG g bE (iY aw Z ac bad ay big aA bm sv):=cB;refine dh (λaJ=>af (λr=>r=g) O aJ/\ag aJ g bE (iY aw Z ac bad ay big aA (min bm ax) sv)) ?_ ?_
   rotate_left
   .intro jP fd;rw[aN bE.p 7 cB rfl,bG,aj];refine⟨λcb=>?_,λcb=>fd _ ⟨fc,?_⟩⟩
    .rw[bS,aT bE.p rfl];refine bw (g:=g) (o:=7) ao.i rfl rfl cB (by simp[iY]) λeo jd jQ je=>?_;refine fd _ ⟨fc.F jd,?_⟩;have e:min bm ax=4611686018427387904:=by unfold ax;omega
     rw[e];exact je
    .have e:min bm ax=bm:=by unfold ax;omega
     rw[e];exact cB
   rintro aJ ⟨fe,ff⟩;have jf:bQ aJ g B H 100000 (σ {K with m1:=min (K.m1+n) ax}):=⟨b5,w0,aw,bi,gs,sv,L,aB,Z,ac,bad,ay,big,aA,_,cP,bt.F fe,bu,ff,bx,bl,ci,cj,cl,λC=>by
    have C:K.big=sp:=C;rw[(fb C).1],cp,bP,cq,aR,cS⟩
   rw[aN bE.p 7 ff rfl,bG];refine(oQ jf).X ?_;rintro _ c2 _ ⟨jg,fg⟩;have ji:(σ {K with m1:=min (K.m1+n) ax}).map (bg (decide (16384<min bm ax)))=σ (bg (decide (16384<min (K.m1+n) ax)) {K with m1:=min (K.m1+n) ax}):=by
    show σ (bg _ _)=_;congr 1;unfold bg;cases C:K.big with
    |true=>simp
    |false=>rw[(fb C).1]
   rw[ji]at fg;have cD:af (λr=>r=g) be c2:=(bj.F fe).F jg;have du:∀r,r=g->iC be r\/be.heap.size<=r:=λr j=>(l0 bM r j).imp (λ⟨e,c,C,a2,a6,_⟩=>⟨e,c,C,a2,a6⟩) id;have jj:cm= .slice ν 0 0:=by
    have:=fh _ f1;simpa using this
   refine aZ _ ⟨eB.F (cD.X λr _ h=>.inl h),cm,cL,[],_,bK.aa cD λhe=>b2 he,eV f224 cD du,eV f324 cD du,eA.dO cD du,fg,λ_=>⟨rfl,λr j=>by rw[jj]at j;exact gl j⟩,?_⟩;rw[ap];by_cases eC:n<=0
   .have:n=0:=Ω
    subst this;rw[m5 (Int.le_refl _)];rfl
   .rw[m6 eC]
theorem Fy{all:Λ}{s:aH}:du all s=match bh (-ax) ax s with
  |none=>ν
  |some (a,s1)=>match fg all.length a.natAbs s1 with
   |none=>ν
   |some (scope,s2)=>lv (decide (a<0)) a.natAbs scope (scope.map λv=>all.getD v.toNat 0) (σ s2):=by
 unfold du;cases bh (-ax) ax s with
 |none=>rfl
 |some q=>
  obtain⟨a,s1⟩:=q;simp only;cases fg all.length a.natAbs s1 with
  |none=>rfl
  |some p=>
   obtain⟨scope,s2⟩:=p;simp only;unfold lv;show _=match bh 0 ax (bg (decide (6<a.natAbs)||dH (scope.map λv=>all.getD v.toNat 0)) s2)with
    |none=>ν
    |some (other,e)=>_
   grind
def y0(w:x3)(g:Nat)(H:ah)(e:Option (cv×aH))(v:x1)(I:x3):Prop:=∃f x a,af (λr=>r=g\/H r) w I/\v= .agg (fE f).toArray/\im I f x/\bQ I g I.heap.size a 100001 (e.map (·.2))/\(∀q,e=σ q->x=q.1)/\(∀r,H r->a r)/\(∀r,a r->H r\/w.heap.size<=r)/\∀r,a r->r<I.heap.size
theorem Fz{k:Nat}{s s':aH}(h:fg n k s=σ (l,s')):s'.d8.length+l.length<=s.d8.length/\s'.m1=s.m1/\s'.big=s.big/\s'.m2=s.m2/\∀v∈l,0<=v/\v<n:=by
 have:=mN (f:=lT n) (λ(acc:Λ)t=>t.d8.length+acc.length<=s.d8.length/\t.m1=s.m1/\t.big=s.big/\t.m2=s.m2/\∀v∈acc,0<=v/\v<n) (λacc t a t' r e=>by
  unfold lT at e;cases j:bh 0 (n-1) t with
  |none=>grind
  |some q=>
   obtain⟨v,w⟩:=q;rw[j]at e;simp only at e;split at e
   .cases e
   .cases e;have p:=dI j;have x:=(jh j).1;obtain⟨y,z,A⟩:=p.eqs;have t0:=p.1
    grind) k [] s l s' (by grind) h
 grind
theorem QG{g B0:Nat}{H:ah}{s:aH}{O:x1}{all:Λ}(h:bQ w g B0 H 100000 (σ s))(Z:an .i64 ao w gz O all)(a2:∀z∈all,1<=z/\z<=ax)(aF:all.length<=100001)(bO:∀r,H r->r<w.heap.size)(a6:lu s):
  ak x7 Bu [Γ g,O] w (y0 w g H (du all s)):=by
 have bP:=h.lt;refine ay func61 ?_;refine bu bb.i λC J bR P Q=>?_;have Q:ag J C bb [.slice ν 0 0,.slice ν 0 0,Δ 0,.slice ν 0 0]:=Q;refine bu bb.i λG V bS R S=>?_;have S:ag V G bb [.slice ν 0 0,.slice ν 0 0,Δ 0,.slice ν 0 0]:=S;have h1:=(h.W P).base;have ac:=h1.W R;have bT:=P.size;have aG:=Q.lt;have bU:=S.lt;refine(lZ ac).X ?_;rintro _ A _ ⟨⟨W,j⟩,a,bV,rfl,aJ,aK⟩;rw[bn,bo,aP];have a7:G≠g:=Ω
 have ad:C≠g:=Ω
 have a8:=S.aa W λhe=>a7 he;have ae:=(Q.W R).aa W λhe=>ad he;have aL:an .i64 ao A gz O all:=bl ((Z.W P).W R) W λr f he=>by
  have he:r=g:=he;obtain⟨aM,y,E,bad,aN,big,aO,m1,sv,X,_⟩:=jn h;subst he;exact ch Z X Φ f rfl
 have aQ:∀r,li O r->r<J.heap.size:=λr f=>by obtain⟨y,E⟩:=bD Z f;omega
 have ai:iD A J.heap.size G ⟨[],[],0,[]⟩:=⟨_,_,_,0,0,0,a8,an.nil _ _ _ _,an.nil _ _ _ _,⟨[],bm.nil _ _ _ _ _,by grind,rfl⟩,(λr f=>by rcases f with⟨a,n,c,y,E⟩|⟨a,n,c,y,E⟩<;>cases y),(λr f=>by obtain⟨a,n,c,y,E⟩:=f;cases y),Ω⟩;have al:∀c,ag A G bb c->c[3]?=σ (.slice ν 0 0):=by grind [ag]
 have aR:af (λr=>r=g) J A:=(R.aa _).F W;have bW:J.heap.size<=A.heap.size:=aR.size;have aS:∀{e:x3}{am:Option (cv×aH)}{v:x1}{I:x3},af (iE g J.heap.size) A e->am=du all s->Fw e g C J.heap.size H am v I->y0 w g H (du all s) v I:=by
  rintro e am v I B rfl ⟨K,x,ba,ap,aq,au,av,aT,aU,bd,be⟩;refine⟨K,x,ba,?_,aq,au,av,aT,aU,by grind,be⟩;refine iP (iP ((P.aa _).F (aR.X Ω)) B λr f he=>?_) ap λr f he=>?_
  .exact he.elim .inl Ω
  grind
 have bf:∀{e:x3}{x:cv},af (iE g J.heap.size) A e->du all s=ν->bQ e g J.heap.size H 100000 ν->iD e J.heap.size G x->
   (ab x7 (u4 bb (Γ G)) e λbg=>
    aD x7 (o6 bb (Γ C) bg) e λ(_:Unit)aW=>
    ab x7 (do loadVar bb (<-asAddr (Γ C))) aW λbi=>y0 w g H (du all s) bi aW):=by
  intro e x B bj aw bk;obtain⟨aI,d9,cm,g1,bp,bq,ap,aq,au,av,aT,aU,bd⟩:=bk;let K:kf:=⟨aI,d9,x.other,cm⟩;have aX:im e K x:=⟨⟨g1,aq⟩,⟨bp,au⟩,rfl,bq,av⟩;have aA:=ae.aa B λU=>U.elim ad Ω;rw[bC bb.p bb.i rfl (show e.rangeAt G 0 (fE K)from ap.range)];refine b4 (vs:=fE K) bb.i rfl rfl aX.one aA λbX aB bY br=>?_;rw[fA bb.p bb.i rfl br.range];have bs:∀r,r=C->iC e r\/e.heap.size<=r:=λr f=>by subst f;exact .inl ⟨_,_,aA,Φ,Φ⟩
  have bZ:=B.size;refine aS B rfl ⟨K,x,H,aB.X Ω,rfl,aX.dO aB bs,?_,by grind,λ_ h=>h,by grind,by grind⟩;rw[bj];have bt:bQ e g J.heap.size H 100001 ν:=by
   obtain⟨b0,w0,aM,bw,gs,sv,L,bx,y,E,bad,aN,big,aO,m1,h1,ac,j,bz,bA,aC,aY⟩:=aw;exact⟨Ω,w0,aM,bw,gs,sv,L,bx,y,E,bad,aN,big,aO,m1,h1,ac,j,bz,bA,aC,aY.1,by have:=aY.2;omega⟩
  refine bt.dO aB λr f=>.inl ?_;have f:r=C:=f;subst f;exact⟨_,_,aA,Φ,Φ,Φ,Φ,by grind⟩
 have M:=Fy (all:=all) (s:=s);have bB:bc (-4611686018427387904) 4611686018427387904 (σ s)=bh (-ax) ax s:=rfl;rw[bB]at j aJ aK;have b1: -4611686018427387904<=a/\a<=4611686018427387904:=by
  cases N:bh (-ax) ax s<;>grind [bh,ax,jh]
 refine aV (λv bE=>A=bE/\v=Δ (a.natAbs:Int)) ?_ ?_
 rotate_left
 .intro az b2;rw[aj];refine⟨λb3=>?_,by grind⟩;rw[nB,lm Ω Ω]
  grind
 rintro _ _ ⟨rfl,rfl⟩;have aZ:∀r,H r->r<J.heap.size:=by grind
 have a1:¬H C:=by grind
 have bF:∀{scope:Λ},(∀v∈scope,0<=v/\v<(all.length:Int))->∀z∈scope.map (λv=>all.getD v.toNat 0),1<=z/\z<=ax:=λbG z bH=>by
  obtain⟨v,bI,rfl⟩:=o8.1 bH;have:=bG v bI;refine a2 _ ?_;rw[v8,x6 Ω]
  grind
 cases N:bh (-ax) ax s with
 |none=>
  rw[N]at j M;have bJ:=aK N;subst bJ;refine Fu (s:=s) (ar:=(0:Int).natAbs) j (by grind) ai al aL aQ aF Φ (by grind) ?_ ?_ ?_
  .intro h;cases h
  .intro _;exact Fx j ai al (by grind) Ξ ae aG a1 aZ (by grind) λv I bK=>aS (af.refl _ _) (by rw[M];rfl) bK
  .intro h;cases h
 |some q=>
  obtain⟨a',s1⟩:=q;rw[N]at j M;have:=aJ _ N;subst this;simp only at M;have j:bQ A g J.heap.size H 100000 (σ s1):=j;have bL:=dI N;refine Fu j (.inl rfl) ai al aL aQ aF Ω (by grind [vC]) ?_ ?_ ?_
  .intro _ e x B Y aw aE;exact bf B (by rw[M,Y]) aw aE
  .intro h;cases h
  .intro _ e scope s' B Y aC aE bM;obtain⟨b5,bN,t3,t4,t5⟩:=Fz Y;rw[Y]at M;obtain⟨y,E,b6⟩:=bL.eqs;refine Fx aC aE bM (bF t5) ?_ (ae.aa B λU=>U.elim ad Ω) aG a1 aZ (λs2 U=>?_) (by grind)
   .grind [vC]
   .cases U;intro X;rw[t3,E]at X;rw[bN,y];exact a6 X
theorem QH{s s':aH}{l:List (Λ×Int)}(h:eb co s=σ (l,s'))(j:lu s):lu s':=by
 unfold eb at h;cases f:bh (-ax) ax s with
 |none=>grind
 |some q=>
  obtain⟨n,s1⟩:=q;obtain⟨p,C,t3⟩:=(dI f).eqs;have r:lu s1:=λe=>by rw[p];exact j (by grind)
  rw[f]at h;simp only at h;split at h
  .split at h
   .cases h
   .split at h
    all_goals grind
  .rename_i E;have bf:=h;have:=mN (λ_ t=>lu t) (λacc t a t' w x=>by
    obtain⟨_,_,_,y⟩:=q5 x;obtain⟨z,F,G⟩:=y.eqs;intro e;rw[z];exact w (by grind)) n.toNat [] (bg (decide (16384<min (s1.m1+n) ax)) {s1 with m1:=min (s1.m1+n) ax}) l s' (λe=>by
     obtain⟨A,B⟩:=Bool.or_eq_false_iff.1 e;have H:=r A;have I:=of_decide_eq_false B;show 0<=min (s1.m1+n) ax/\min (s1.m1+n) ax<=16384
     grind [ax]) bf
   grind
theorem QI{all:Λ}{s s':aH}{x:cv}(h:du all s=σ (x,s')):s'.d8.length+1<=s.d8.length/\(lu s->lu s'):=by
 rw[Fy]at h;cases r:bh (-ax) ax s with
 |none=>grind
 |some q=>
  obtain⟨a,s1⟩:=q;rw[r]at h;simp only at h;have w:=dI r;cases U:fg all.length a.natAbs s1 with
  |none=>grind
  |some p=>
   obtain⟨scope,s2⟩:=p;rw[U]at h;simp only at h;obtain⟨N,C,t3,_⟩:=Fz U;unfold lv at h;have e:bc 0 ax ((σ s2).map (bg (decide (6<a.natAbs)||dH (scope.map λv=>all.getD v.toNat 0))))=bh 0 ax (bg (decide (6<a.natAbs)||dH (scope.map λv=>all.getD v.toNat 0)) s2):=rfl;rw[e]at h;cases y:bh 0 ax (bg (decide (6<a.natAbs)||dH (scope.map λv=>all.getD v.toNat 0)) s2)with
   |none=>grind
   |some E=>
    obtain⟨o,z⟩:=E;rw[y]at h;simp only at h;have A:=dI y;cases f:eb (scope.map λv=>all.getD v.toNat 0) z with
    |none=>grind
    |some F=>
     obtain⟨ls,j⟩:=F;rw[f]at h;simp only[X6,Prod.mk.injEq]at h;obtain⟨_,O⟩:=h;have P:=Fv f;have G:(bg (decide (6<a.natAbs)||dH (scope.map λv=>all.getD v.toNat 0)) s2).d8=s2.d8:=rfl;have H:=A.1;rw[G]at H;have Q:=w.1;obtain⟨I,R,_⟩:=w.eqs;obtain⟨f1,f2,_⟩:=A.eqs;have J:s'.d8=j.d8/\s'.m1=j.m1/\s'.big=j.big:=by
      grind
     refine⟨by grind,λK=>?_⟩;have L:lu z:=λB=>by
      rw[f2]at B;rw[f1];have S:=(Bool.or_eq_false_iff.1 B).1;show 0<=s2.m1/\s2.m1<=16384;rw[C,I];exact K (by grind)
     have M:=QH f L;intro T;rw[J.2.1];exact M (by grind)
theorem bQ.shrink{g:Nat}{H:ah}{so:Option aH}(h:bQ w g B H N so):∃a,bQ w g B a N so/\(∀r,a r->H r)/\∀r,a r->∃c,ag w r bb c:=by
 obtain⟨s,w0,x,y,gs,sv,L,z,A,C,bad,E,big,F,m1,h1,f,j,G,p,I,J⟩:=h;refine⟨λr=>lc sv r,⟨s,w0,x,y,gs,sv,L,z,A,C,bad,E,big,F,m1,h1,f,j,G,p,λr e=>e,J⟩,I,λr e=>?_⟩;obtain⟨rfl,c,q⟩:=dJ p.2.1 e;refine⟨c,q.aa f λhe=>?_⟩;obtain⟨M,K⟩:=j;subst he;exact m7 (eJ q K) Φ
theorem bQ.low{g:Nat}{H:ah}{s:aH}(h:bQ w g B H N (σ s)):bQ w g B H 100000 (σ s):=by
 obtain⟨F,w0,a,e,gs,sv,L,f,j,p,bad,q,big,r,m1,h1,x,y,z,A,C,E⟩:=h;exact⟨o5 _,w0,a,e,gs,sv,L,f,j,p,bad,q,big,r,m1,h1,x,y,z,A,C,E⟩
theorem bQ.up{g M:Nat}{H:ah}{so:Option aH}(h:bQ w g B H N so)(F:N<=M):bQ w g B H M so:=by
 obtain⟨G,w0,e,f,gs,sv,L,j,p,q,bad,r,big,x,m1,h1,y,z,A,C,E,a⟩:=h;refine⟨Ω,w0,e,f,gs,sv,L,j,p,q,bad,r,big,x,m1,h1,y,z,A,C,E,?_⟩;cases so with
 |none=>exact⟨a.1,by have:=a.2;omega⟩
 |some s=>exact a
def m8{α:Type}(f:List α->aH->Option (α×aH))(cnt i:Nat)(a:Option aH)(A:List α)(so:Option aH):Prop:=a.bind (dc f cnt [])=(match so with
 |none=>ν
 |some s=>dc f (cnt-i) A s)
theorem m8.step{α:Type}{f:List α->aH->Option (α×aH)}{cnt i:Nat}{e:Option aH}{A:List α}{s:aH}{a:α}{j:Option aH}(h:m8 f cnt i e A (σ s))(hi:i<cnt)(h1:j=(f A s).map (·.2))(p:∀q,f A s=σ q->a=q.1):m8 f cnt (i+1) e (A++[a]) j:=by
 unfold m8 at*;rw[h,show cnt-i=(cnt-(i+1))+1 by omega];simp only;cases r:f A s<;>grind [q8,uS]
theorem QJ{s0:aH}{acc:Λ}{most count:Int}{B:List cv}{r w x y J so6 e:Option aH}(h1:r=((dW s0).map (·.2)).map (bg (decide (64<t.length))))(M:∀q,dW s0=σ q->t=q.1)(j:w=((bc 1 ax r).map (·.2)).map (bg (decide (64<n))))(K:∀q,bc 1 ax r=σ q->n=q.1)(h:x=(bc 1 ax w).map (·.2))(hm:∀q,bc 1 ax w=σ q->most=q.1)(f:y=((bc 0 ax x).map (·.2)).map (bg (decide (256<count))))(L:∀q,bc 0 ax x=σ q->count=q.1)(a:J=((bc 1 ax y).map (·.2)).map (bg (decide (2147483648<k))))(hk:∀q,bc 1 ax y=σ q->k=q.1)(p:J.bind (dc (gH most) n.toNat [])=so6.map λs=>(acc,s))(C:so6.bind (dc (λ_ s=>du acc s) count.toNat [])=e.map λs=>(B,s)):jB s0=e.map λs=>(⟨t,k,acc,B⟩,s):=by
 unfold jB;cases E:dW s0 with
 |none=>
  rw[E]at h1;subst h1;subst j;subst h;subst f;subst a;have:so6=ν:=by cases so6 with|none=>rfl|some s=>cases p
  subst this;cases e<;>grind
 |some N=>
 obtain⟨t',s1⟩:=N;have:=M _ E;subst this;rw[E]at h1;have h1:r=σ (bg (decide (64<t.length)) s1):=h1;subst h1;simp only;have O:bc 1 ax (σ (bg (decide (64<t.length)) s1))=bh 1 ax (bg (decide (64<t.length)) s1):=rfl;rw[O]at j K;cases F:bh 1 ax (bg (decide (64<t.length)) s1)with
 |none=>
  rw[F]at j;subst j;subst h;subst f;subst a;have:so6=ν:=by cases so6 with|none=>rfl|some s=>cases p
  subst this;cases e<;>grind
 |some P=>
 obtain⟨Y,s2⟩:=P;have:=K _ F;subst this;rw[F]at j;have j:w=σ (bg (decide (64<n)) s2):=j;subst j;simp only;have Q:bc 1 ax (σ (bg (decide (64<n)) s2))=bh 1 ax (bg (decide (64<n)) s2):=rfl;rw[Q]at h hm;cases G:bh 1 ax (bg (decide (64<n)) s2)with
 |none=>
  rw[G]at h;subst h;subst f;subst a;have:so6=ν:=by cases so6 with|none=>rfl|some s=>cases p
  subst this;cases e<;>grind
 |some R=>
 obtain⟨cn,z⟩:=R;have:=hm _ G;subst this;rw[G]at h;have h:x=σ z:=h;subst h;simp only;have S:bc 0 ax (σ z)=bh 0 ax z:=rfl;rw[S]at f L;cases H:bh 0 ax z with
 |none=>
  rw[H]at f;subst f;subst a;have:so6=ν:=by cases so6 with|none=>rfl|some s=>cases p
  subst this;cases e<;>grind
 |some T=>
 obtain⟨Z,A⟩:=T;have:=L _ H;subst this;rw[H]at f;have f:y=σ (bg (decide (256<count)) A):=f;subst f;simp only;have U:bc 1 ax (σ (bg (decide (256<count)) A))=bh 1 ax (bg (decide (256<count)) A):=rfl;rw[U]at a hk;cases I:bh 1 ax (bg (decide (256<count)) A)with
 |none=>
  rw[I]at a;subst a;have:so6=ν:=by cases so6<;>grind
  subst this;cases e<;>grind
 |some V=>
 obtain⟨aa,W⟩:=V;have:=hk _ I;subst this;rw[I]at a;have a:=a;subst a;simp only;have p:dc (gH most) n.toNat [] (bg (decide (2147483648<k)) W)=so6.map λs=>(acc,s):=p;rw[p];cases so6 with
 |none=>cases e<;>grind
 |some X=>
  simp only[Z0];have C:dc (λ_ s=>du acc s) count.toNat [] X=e.map λs=>(B,s):=C;rw[C];cases e<;>rfl
def ru(w:x3)(gr:Nat)(e:x1)(a:List cv):Prop:=∃L,bm fE 4 bb w gr e L/\a.length=L.length/\∀(i:Nat)h x,L[i]?=σ h->a[i]?=σ x->im w h x
def p3(w:x3)(e:Nat)(f:ca):Prop:=∃d9 gz a gr,ag w e ej [cb f.name,Δ f.k,d9,a]/\an .i64 ao w gz d9 f.co/\ru w gr a f.d7
theorem ru.W{gr:Nat}{a:x1}{e:List cv}(h:ru w gr a e)(f:Ext w I):ru I gr a e:=by
 obtain⟨L,h1,j,p⟩:=h;exact⟨L,h1.W f,j,λi ap x hi q=>(p i ap x hi q).W f⟩
theorem p3.W{e:Nat}{f:ca}(h:p3 w e f)(a:Ext w I):p3 I e f:=by
 obtain⟨d9,gz,j,gr,h1,p,q⟩:=h;exact⟨d9,gz,j,gr,h1.W a,p.W a,q.W a⟩
def QK(w:x3)(a:Λ)(v:x1)(I:x3):Prop:=Ext w I/\∃n e:Int,(ie a=ν->v= .tuple #[.pointer ν,Δ n,Δ e])/\∀f,ie a=σ f->∃h,v= .tuple #[Γ h,Δ n,Δ e]/\p3 I h f
theorem QL{w0:x3}{g y:Nat}{so6:Option aH}{acc bT:Λ}{count bad:Int}{p:x1}{Q:x1->x3->Prop}(c2:af (λr=>w0.heap.size<=r) w0 w)(bU:ag w y ej [cb t,Δ k,d9,.slice ν 0 0])(c3:an .i64 ao w gz d9 acc)(h:bQ w g B bO 100000 so6)(c4:∀s,so6=σ s->lu s/\s.d8.length<=100000/\(∀z∈acc,1<=z/\z<=ax)/\acc.length<=100001)(e5:w0.heap.size<=g)(e6:w0.heap.size<=y)(c5:aF .u8 w0 p bT)(e7:0<=count/\count<=4611686018427387904)(bg:∀v I J bh,Ext w0 I->so6.bind (dc (λ_ s=>du acc s) count.toNat [])=bh.map (λs=>(J,s))->
   (∀s,bh=σ s->s.d8=[]/\¬0<=bad/\s.big=sp->v= .tuple #[Γ y,Δ (bT.length:Int),Δ 0]/\p3 I y ⟨t,k,acc,J⟩)->
   ((∀s,bh=σ s->¬(s.d8=[]/\¬0<=bad/\s.big=sp))->∃n e:Int,v= .tuple #[.pointer ν,Δ n,Δ e])->Q v I):
  ce (Δ 0) w λbV A c6=>
   ct (α:=x1->x3->Prop) (λ(c7:x1)(K:x3)=>
    Split c7 (eu K λE=>
   ab x7 (bR (Γ y)) E λaC=>
   ab x7 (u6 ej aC 3) E λaE=>
   ab x7 (u4 dC aE) E λbi=>
   ab x7 (bR (Γ y)) E λc8=>
   ab x7 (u6 ej c8 2) E λda=>
   ab x7 (u4 au da) E λdb=>
   ak x7 Bu [(Γ g),db] E λdd ac=>
    (Ext E ac\/cC x7 (u4 dC aE) bi ac/\cC x7 (u6 ej aC 3) aE ac/\cC x7 (bR (Γ y)) aC ac/\True)/\
   aD x7 (Z3 dC 1 #[(0,dd)]) ac λde O=>
    (Ext E O\/cC x7 (u4 dC aE) bi O/\cC x7 (u6 ej aC 3) aE O/\cC x7 (bR (Γ y)) aC O/\True)/\
    aD x7 (j4 #[dC,dC] dC #[bi,de]) O λdf aU=>
     ab x7 (bR (Γ y)) aU λdg=>
     ab x7 (u6 ej dg 3) aU λdi=>
     aD x7 (o6 dC di df) aU λ(_:Unit)aX=>
     ab x7 (aQ .add ao sp rs bV (Δ 1)) aX λdj=>
   c6 dj aX)
     (ct (α:=x3->Prop) (λ(N:x3)=>
   ct (α:=x3->Prop) (λ(C:x3)=>
    ab x7 (bR (Γ g)) C λdk=>
    ab x7 (u6 bE dk 3) C λdl=>
    ab x7 (u4 ae dl) C λdm=>
    ab x7 (aQ .neq ae sp rs dm (Δ 0)) C λdn=>
    Split dn (eu C λW=>
     ab x7 (bR (Γ g)) W λdp=>
     ab x7 (u6 bE dp 4) W λdq=>
     ab x7 (u4 ae dq) W λdr=>
     ab x7 (bR (Γ g)) W λds=>
     ab x7 (u6 bE ds 3) W λdt=>
     ab x7 (u4 ae dt) W λdv=>
     Q (.tuple #[(.pointer ν),dr,dv]) W)
     (ab x7 (bR (Γ g)) C λdw=>
    ab x7 (u6 bE dw 5) C λdx=>
    ab x7 (u4 ae dx) C λdy=>
    ab x7 (aQ .neq ae sp rs dy (Δ 0)) C λdz=>
    Split dz (eu C λX=>
     ab x7 (bR (Γ g)) X λdA=>
     ab x7 (u6 bE dA 6) X λdD=>
     ab x7 (u4 ae dD) X λdE=>
     ab x7 (bR (Γ g)) X λdF=>
     ab x7 (u6 bE dF 5) X λdG=>
     ab x7 (u4 ae dG) X λdH=>
     Q (.tuple #[(.pointer ν),dE,dH]) X)
     (ab x7 (X7 #[cS] ae #[p]) C λdI=>
    Q (.tuple #[(Γ y),dI,(Δ 0)]) C))) λbW=>
   ct (α:=x1->x3->Prop) (λ(dK:x1)(aY:x3)=>
    Split dK (ak x7 pr [(Γ g),(Δ 11),(Δ bad)] aY λe8 bX=>
     bW bX)
     (bW aY)) λbY=>
   ab x7 (bR (Γ g)) N λdL=>
   ab x7 (u6 bE dL 3) N λt182=>
   ab x7 (u4 ae t182) N λt183=>
   ab x7 (aQ .eql ae sp rs t183 (Δ 0)) N λdM=>
   Split dM (ab x7 (aQ .geq ae sp rs (Δ bad) (Δ 0)) N λdN=>
   bY dN N)
    (bY (.bool sp) N)) λb1=>
  ct (α:=x1->x3->Prop) (λ(dP:x1)(P:x3)=>
   Split dP (ab x7 (bR (Γ g)) P λdQ=>
    ab x7 (u6 bE dQ 0) P λdR=>
    ab x7 (u4 fy dR) P λdS=>
    ab x7 (j0 fy dS (Δ 0)) P λdT=>
    ab x7 (u6 cu dT 1) P λdU=>
    ab x7 (u4 ae dU) P λdV=>
    ak x7 pr [(Γ g),(Δ 4),dV] P λe9 bj=>
    b1 bj)
    (b1 P)) λb2=>
  ab x7 (bR (Γ g)) K λdW=>
  ab x7 (u6 bE dW 3) K λdX=>
  ab x7 (u4 ae dX) K λdY=>
  ab x7 (aQ .eql ae sp rs dY (Δ 0)) K λdZ=>
  Split dZ (ab x7 (bR (Γ g)) K λea=>
  ab x7 (u6 bE ea 0) K λeb=>
  ab x7 (u4 fy eb) K λec=>
  ab x7 (X7 #[fy] ae #[ec]) K λed=>
  ab x7 (aQ .gtr ae sp rs ed (Δ 0)) K λee=>
  b2 ee K)
   (b2 (.bool sp) K))) λb3=>
   ab x7 (aQ .lss ao sp sp bV (Δ count)) A λef=>
   Split ef (ab x7 (bR (Γ g)) A λeg=>
   ab x7 (u6 bE eg 3) A λeh=>
   ab x7 (u4 ae eh) A λei=>
   ab x7 (aQ .eql ae sp rs ei (Δ 0)) A λek=>
   b3 ek A)
    (b3 (.bool sp) A):=by
 have b4:y≠g:=λhe=>by
  obtain⟨ad,Y,Z,bad,ai,big,al,m1,sv,f,_⟩:=jn h;subst he;exact m7 (eJ f bU) Φ
 refine⟨λbk A=>∃i:Nat,bk=Δ (i:Int)/\i<=count.toNat/\af (λr=>w0.heap.size<=r) w0 A/\∃M gr J so,∃H:ah,ag A y ej [cb t,Δ k,d9,M]/\an .i64 ao A gz d9 acc/\ru A gr M J/\(∀r,lc M r->w0.heap.size<=r/\¬H r)/\¬H y/\(∀r,li d9 r->¬H r)/\(∀r,H r->w0.heap.size<=r)/\bQ A g A.heap.size H 100001 so/\m8 (λ_ s=>du acc s) count.toNat i so6 J so/\
   ∀s,so=σ s->lu s/\J.length+s.d8.length<=100000/\(∀z∈acc,1<=z/\z<=ax)/\acc.length<=100001,λbk _=>count.toNat-(b0 bk).toNat,
  ⟨0,rfl,X8 _,c2,_,0,[],so6,bO,bU,c3,⟨[],bm.nil _ _ _ _ _,rfl,λi h x hi=>by simp at hi⟩,λr a=>(gl a).elim,id,λr _ h=>h,λr h=>h.elim,h.base.up Ω,?_,λs U=>?_⟩,?_⟩
 .unfold m8;cases so6<;>rfl
 .obtain⟨em,en,a3,a4⟩:=c4 s U;exact⟨em,by simpa using en,a3,a4⟩
 rintro _ A ⟨i,rfl,hi,aZ,M,gr,J,so,H,b5,b6,b7,aG,bl,eo,b8,V,bn,ep⟩;refine aV (λv K=>A=K/\((v= .bool rs/\i<count.toNat/\∃s,so=σ s)\/(v= .bool sp/\(so=ν\/i=count.toNat)))) ?_ ?_
 rotate_left
 .intro az bo;rw[aP,aj];refine⟨λb9=>?_,λfa=>bo _ _ ⟨rfl,.inr ⟨rfl,.inr Ω⟩⟩⟩;rw[m4 V];cases so with
  |none=>exact bo _ _ ⟨rfl,.inr ⟨rfl,.inl rfl⟩⟩
  |some s=>exact bo _ _ ⟨rfl,.inl ⟨rfl,Ω,s,rfl⟩⟩
 rintro _ _ ⟨rfl,⟨rfl,b9,s,rfl⟩|⟨rfl,er⟩⟩
 .
  rw[bZ];intro E am _ _;obtain⟨ca,fb,cc,cd⟩:=ep s rfl;have aI:=b5.W am;obtain⟨es,cf,aJ,cg⟩:=(V.W am).low.shrink;have bp:=b6.W am;have et:=b7.W am;rw[aN ej.p 3 aI rfl,aN ej.p 2 aI rfl];refine(QG cf bp cc cd (λr a=>by obtain⟨c,f⟩:=cg r a;exact f.lt) ca).X ?_;rintro _ ac _ ⟨ev,x,ch,aq,rfl,ci,ew,ey,fc,cj,ez⟩;have cl:∃c,ag E g bE c:=by obtain⟨ad,Y,Z,bad,ai,big,al,m1,sv,f,_⟩:=jn cf;exact⟨_,f⟩
  have cm:∀r,(r=g\/es r)->iC E r\/E.heap.size<=r:=λr a=>by
   rcases a with rfl|a
   .obtain⟨c,f⟩:=cl;exact .inl ⟨_,c,f,Φ,Φ⟩
   .obtain⟨c,f⟩:=cg r a;exact .inl ⟨_,c,f,Φ,Φ⟩
  have bq:=aI.aa aq λa=>a.elim (λhe=>b4 he) λa=>bl (aJ _ a);have st:∀{I:x3},ag I y ej [cb t,Δ k,d9,M]->cC x7 (u4 dC (.pointer (σ ⟨y,0+3,ν⟩))) M I/\cC x7 (u6 ej (Γ y) 3) (.pointer (σ ⟨y,0+3,ν⟩)) I/\cC x7 (bR (Γ y)) (Γ y) I/\True:=λf=>
   ⟨mH Ψ (f.cell rfl),kG (by rw[aT ej.p rfl]),kG (by rw[bS]),trivial⟩
  refine⟨.inr (st bq),?_⟩;refine iS dC.u bb.i Ω rfl rfl λfd fe O ff R eA=>?_;refine⟨.inr (st (bq.W R)),?_⟩;obtain⟨L,aw,br,bs⟩:=id et;have eB:=aw.aa aq λr a U=>U.elim (λhe=>by
   obtain⟨c,f⟩:=cl;subst he;exact cO aw f Φ a) λU=>(aG r a).2 (aJ r U)
  have bt:=eB.W R;refine jk dC.u bb.i rfl bt (by simpa using eA.sl) (ci.W R).one Ω Ω λeC eD aU a1 eE cn=>?_;have bu:=bq.W R;have cp:=bu.aa cn λhe=>cO bt bu Φ he;rw[bS,aT ej.p rfl];refine bw (g:=y) (o:=3) dC.i (eK a1.sl).1 (eK a1.sl).2 cp Ξ λaX cq fg bx=>?_;have bx:=bx;have fh:i<=4611686018427387904:=Ω
  rw[aL,lm Ω Ω];have ay:af (λr=>lc M r\/r=y) O aX:=(cn.X λr _ h=>.inl h).F (cq.X λr _ h=>.inr h);have cr:∀r,(lc M r\/r=y)->∃e c,ag O r e c/\e≠ao/\e≠ck/\e≠cu/\e≠bE:=λr a=>by
   rcases a with a|rfl
   .obtain⟨rfl,c,f⟩:=dJ bt a;exact⟨_,c,f,Φ,Φ,Φ,Φ⟩
   .exact⟨_,_,bu,Φ,Φ,Φ,Φ⟩
  have bA:∀r,(lc M r\/r=y)->iC O r\/O.heap.size<=r:=λr a=>by
   obtain⟨e,c,f,bB,bC,_⟩:=cr r a;exact .inl ⟨e,c,f,bB,bC⟩
  have fi:=am.size;have z28:=aq.size;have fj:=R.size;have fk:=ay.size;have cw:∀r,lc M r->r<E.heap.size:=λr a=>by obtain⟨Y,Z⟩:=aw.li a;omega
  have aK:∀r,r<E.heap.size->¬H r->¬ch r:=λr a eF bF=>(cj r bF).elim (λh=>eF (aJ r h)) λh=>Ω
  have eH:∀r,li d9 r->r<E.heap.size:=λr a=>by obtain⟨Y,Z⟩:=bD bp a;omega
  refine⟨⟨i+1,rfl,Ω,?_,eC,eD,J++[x],_,ch,bx,eV ((eV bp aq cm).W R) ay bA,⟨L++[ev],a1.aa cq λr a he=>?_,by rw[p9,p9,br];rfl,λj cz eI aA aM=>?_⟩,λr a=>?_,aK y aI.lt bl,λr a=>aK r (eH r a) (eo r a),λr a=>?_,?_,bn.step b9 rfl λq G=>ey q G,λs' S=>?_⟩,by simp only[b0];omega⟩
  .refine (((aZ.F (am.aa _)).F (aq.X λr _ h=>?_)).F (R.aa _)).F (ay.X λr _ h=>?_)
   .exact h.elim (λh=>Ω) λh=>b8 r (aJ r h)
   .exact h.elim (λh=>(aG r h).1) λh=>Ω
  .have he:r=y:=he;subst he;exact cO a1 cp Φ a
  .by_cases eL:j<L.length
   .rw[W8 eL]at aA;rw[W8 Ω]at aM;exact(((bs j cz eI aA aM).dO aq cm).W R).dO ay bA
   .rw[Y5 Ω]at aA;rw[Y5 Ω]at aM;have eM:j-L.length=0:=by have:=(x4.1 aA).1;simp at this;omega
    have eN:j-J.length=0:=Ω
    rw[eM]at aA;rw[eN]at aM;cases aA;cases aM;exact(ci.W R).dO ay bA
  .rcases eE r a with h|h
   .exact⟨(aG r h).1,aK r (cw r h) (aG r h).2⟩
   .exact⟨by have:=aZ.size;omega,λbF=>by have:=ez r bF;omega⟩
  .rcases cj r a with h|h
   .exact b8 r (aJ r h)
   .have:=aZ.size;omega
  .refine (ew.W R).dO ay λr a=>.inl ?_;obtain⟨e,c,f,bB,bC,eO,eP⟩:=cr r a;refine⟨e,c,f,bB,bC,eO,eP,?_⟩;rcases a with a|rfl
   .exact aK r (cw r a) (aG r a).2
   .exact aK _ aI.lt bl
  .cases bH:du acc s with
   |none=>rw[bH]at S;cases S
   |some q=>
    obtain⟨fm,s2⟩:=q;rw[bH]at S;cases S;obtain⟨fo,eQ⟩:=QI bH;refine⟨eQ ca,?_,cc,cd⟩;rw[p9];simp only[List.length_singleton];omega
 .
  rw[aW];have bI:so6.bind (dc (λ_ s=>du acc s) count.toNat [])=so.map λs=>(J,s):=by
   unfold m8 at bn;rw[bn];cases so with
   |none=>rfl
   |some s=>
    rcases er with h|rfl
    .cases h
    .simp only[U1];rfl
  have row:∀{I:x3},af (λr=>r=g) A I->ru I gr M J/\ag I y ej [cb t,Δ k,d9,M]/\an .i64 ao I gz d9 acc:=λa2=>by
   obtain⟨ad,Y,Z,bad,ai,big,al,m1,sv,f,_⟩:=jn V;have cA:∀r,r=g->iC A r\/A.heap.size<=r:=λr a=>by subst a;exact .inl ⟨_,_,f,Φ,Φ⟩
   obtain⟨L,aw,br,bs⟩:=id b7;refine⟨⟨L,aw.aa a2 λr a he=>?_,br,λi h x hi eR=>(bs i h x hi eR).dO a2 cA⟩,b5.aa a2 λhe=>b4 he,eV b6 a2 cA⟩;have he:r=g:=he;subst he;exact cO aw f Φ a
  refine dh (λN=>af (λr=>r=g) A N/\bQ N g A.heap.size H 100001 (so.bind λs=>if s.d8=[]then σ s else ν)) ?_ ?_
  rotate_left
  .intro fp cB;refine aV (λv P=>A=P/\∃b:Bool,v= .bool b/\(b=rs->∃s,so=σ s/\s.d8≠[])/\(b=sp->∀s,so=σ s->s.d8=[])) ?_ ?_
   .rintro _ _ ⟨rfl,b,rfl,bJ,bK⟩;cases b with
    |true=>
     obtain⟨s,rfl,a6⟩:=bJ rfl;rw[bZ];obtain⟨cD,cE,ad,aO,gs,sv,L,cF,Y,Z,bL,ai,big,al,m1,cG,a7,a8,aB,ba,cH,cI,cK,bc,cL,cM,bd,cN,cP,cQ⟩:=id V;obtain⟨⟨bM,eS⟩,_⟩:=ba.g a7 a8;obtain⟨x,fq,rfl⟩:∃x l,aO=x::l:=by
      cases aO with
      |nil=>exact m7 bd.symm (by simpa using a6)
      |cons x l=>exact⟨x,l,rfl⟩
     rw[aN bE.p 0 aB rfl];refine Fq bM λb o eU=>?_;rw[aT cu.p rfl,av Ψ (eU 1 _ rfl)];refine(p2 V Ω).X ?_;rintro _ bj _ ⟨eW,eX⟩;refine cB _ ⟨eW,?_⟩;show bQ bj g _ H 100001 (if s.d8=[]then σ s else ν);rw[m6 a6];exact eX
    |false=>
     rw[aW];refine cB _ ⟨af.refl _ _,?_⟩;cases so with
     |none=>exact V
     |some s=>
      show bQ _ g _ H 100001 (if s.d8=[]then σ s else ν);rw[m5 (bK rfl s rfl)];exact V
   .intro fs cR;rw[m4 V];cases so with
    |none=>
     rw[S3,aW];exact cR _ _ ⟨rfl,sp,rfl,(λh=>by cases h),λ_ s U=>by cases U⟩
    |some s=>
     rw[S2,bZ];obtain⟨cD,cE,ad,aO,gs,sv,L,cF,Y,Z,bL,ai,big,al,m1,cG,a7,a8,aB,ba,cH,cI,cK,bc,cL,cM,bd,cN,cP,cQ⟩:=id V;obtain⟨⟨bM,eS⟩,_⟩:=ba.g a7 a8;rw[aN bE.p 0 aB rfl,Fp bM,bG];have ft:aO.length=s.d8.length:=by rw[<-bd,r9]
     refine cR _ _ ⟨rfl,_,rfl,λh=>⟨s,rfl,λaR=>?_⟩,λh s' S=>?_⟩
     .have:=ro h;have cz:s.d8.length=0:=by rw[aR];rfl
      omega
     .cases S;have:=of_decide_eq_false h;exact c9 Ω
  rintro N ⟨cT,bN⟩;refine dh (λC=>af (λr=>r=g) A C/\bQ C g A.heap.size H 100001 (so.bind λs=>if s.d8=[]/\¬0<=bad then σ s else ν)) ?_ ?_
  rotate_left
  .intro fu cU;refine aV (λv aY=>N=aY/\∃b:Bool,v= .bool b/\(b=rs->(so.bind λs=>if s.d8=[]/\¬0<=bad then σ s else ν)=ν)/\(b=sp->(so.bind λs=>if s.d8=[]/\¬0<=bad then σ s else ν)=so.bind λs=>if s.d8=[]then σ s else ν)) ?_ ?_
   .rintro _ _ ⟨rfl,b,rfl,bJ,bK⟩;cases b with
    |true=>
     rw[bZ];refine(p2 bN Ω).X ?_;rintro _ bX _ ⟨eY,eZ⟩;exact cU _ ⟨cT.F eY,by rw[bJ rfl];exact eZ⟩
    |false=>
     rw[aW];exact cU _ ⟨cT,by rw[bK rfl];exact bN⟩
   .intro fv cV;rw[m4 bN];cases G:(so.bind λs=>if s.d8=[]then σ s else ν)with
    |none=>
     rw[S3,aW];refine cV _ _ ⟨rfl,sp,rfl,(λh=>by cases h),λ_=>?_⟩;cases so with
     |none=>rfl
     |some s=>
      have G:(if s.d8=[]then σ s else ν)=ν:=G;show(if s.d8=[]/\¬0<=bad then σ s else ν)=(if s.d8=[]then σ s else ν);rw[G];split at G
      .cases G
      .rename_i a6;rw[m6 (λh=>a6 h.1)]
    |some s=>
     rw[S2,bZ,cJ];refine cV _ _ ⟨rfl,_,rfl,λh=>?_,λh=>?_⟩
     .have aR:=ro h;cases so with
      |none=>rfl
      |some s=>exact m6 λh=>h.2 aR
     .have aR:=of_decide_eq_false h;cases so with
      |none=>rfl
      |some s=>
       show(if s.d8=[]/\¬0<=bad then σ s else ν)=(if s.d8=[]then σ s else ν);by_cases U:s.d8=[]
       .rw[m5 U,m5 ⟨U,aR⟩]
       .rw[m6 U,m6 λh=>U h.1]
  rintro C ⟨cW,be⟩;obtain⟨e0,e1,e2⟩:=row cW;have e3:af (λr=>w0.heap.size<=r) w0 C:=aZ.F (cW.X λr _ h=>by have h:r=g:=h;omega);have bf:=e3.W λr a he=>Ω
  rw[s9 be];cases G:(so.bind λs=>if s.d8=[]/\¬0<=bad then σ s else ν)with
  |none=>
   rw[S3,X1,bZ];intro W cX _ _;obtain⟨ad,Y,Z,bL,ai,big,al,m1,sv,f,_⟩:=jn (be.W cX);rw[aN bE.p 4 f rfl,aN bE.p 3 f rfl];refine bg _ _ J so (bf.F cX) bI (λs U ap=>?_) λ_=>⟨_,_,rfl⟩;subst U;have G:(if s.d8=[]/\¬0<=bad then σ s else ν)=ν:=G;rw[m5 ⟨ap.1,ap.2.1⟩]at G;cases G
  |some s=>
   rw[G]at be;rw[S2,Y2,aW];obtain⟨s',rfl,S⟩:∃s',so=σ s'/\(if s'.d8=[]/\¬0<=bad then σ s' else ν)=σ s:=by
    cases so with
    |none=>cases G
    |some s'=>exact⟨s',rfl,G⟩
   split at S
   .rename_i cY;cases S;obtain⟨cD,cE,ad,aO,gs,sv,L,cF,Y,Z,bL,ai,big,al,m1,cG,a7,a8,aB,ba,cH,cI,cK,bc,cL,cM,bd,cN,cP,cQ⟩:=id be;rw[aN bE.p 5 aB rfl,bz,aj];refine⟨λbP=>?_,λbP=>?_⟩
    .intro X cZ _ _;have c0:=aB.W cZ;rw[aN bE.p 6 c0 rfl,aN bE.p 5 c0 rfl];refine bg _ _ J _ (bf.F cZ) bI (λs2 c1 ap=>?_) λ_=>⟨_,_,rfl⟩;cases c1;rw[bc.1 bP]at ap;cases ap.2.2
    .rw[aS cS.u (c5.W bf)];refine bg _ _ J _ bf bI (λs2 c1 ap=>⟨rfl,d9,gz,M,gr,e1,e2,e0⟩) λe4=>?_;refine m7 ⟨cY.1,cY.2,?_⟩ (e4 s rfl);cases f:s.big with
     |false=>rfl
     |true=>exact m7 (bc.2 f) bP
   .cases S
def Zero(so:Option aH):Prop:=∀s,so=σ s->s.m1=0/\s.d8.length<=100000
theorem Zero.big{so:Option aH}(h:Zero so)(b:Bool):Zero (so.map (bg b)):=λs U=>by
 cases so with
 |none=>cases U
 |some s0=>cases U;exact h s0 rfl
theorem zero_num{lo hi:Int}{so:Option aH}(h:Zero so):Zero ((bc lo hi so).map (·.2)):=λs U=>by
 cases so with
 |none=>cases U
 |some s0=>
  have U:W3 (λx=>x.2) (bh lo hi s0)=σ s:=U;cases a:bh lo hi s0 with
  |none=>grind
  |some q=>
   obtain⟨n,s1⟩:=q;rw[a]at U;cases U;have e:=dI a;have:=e.1;obtain⟨h1,f⟩:=h s0 rfl;exact⟨e.eqs.1.F h1,by grind⟩
theorem QM{so:Option aH}(h:Zero so):Zero ((kL so).map (·.2)):=λs U=>by
 cases so with
 |none=>cases U
 |some s0=>
  have U:W3 (λx=>x.2) (dW s0)=σ s:=U;cases a:dW s0 with
  |none=>grind
  |some q=>
   obtain⟨n,s1⟩:=q;rw[a]at U;cases U;obtain⟨J,V⟩:=xV a;obtain⟨h1,e⟩:=h s0 rfl
   grind
theorem QN{so:Option aH}{f:ca}(h:jB ⟨(lex a).1,0,sp,[]⟩=so.map λs=>(f,s))(e:¬65536<a.length):ie a=so.bind λs=>if s.d8=[]/\(lex a).2=rs/\s.big=sp then σ f else ν:=by
 unfold ie;rw[m6 e,h];cases so<;>rfl
theorem QO(j:a.length<=60000):(∀t∈(lex a).1,Bytes t/\t.length<=65536)/\(lex a).1.length<=60000:=by
 refine⟨λt e=>?_,by grind [si]⟩;obtain⟨_,f,p⟩:=uC a.length a (o5 _) t e;refine⟨λb h=>?_,Ω⟩;have:=ro (f b h);omega
theorem FA{p:x1}{B:Λ}(ad:aF .u8 w p B)(cc:Bytes B)(cd:B.length<=60000):ak x7 Im [p] w (QK w B):=by
 obtain⟨ce,dA⟩:=QO cd;refine ay func12 ?_;rw[aS cS.u ad,bG,aj];refine⟨Ω,λ_=>?_⟩;refine(Qy ad cc Ω).X ?_;rintro _ J _ ⟨aE,ai,cf,bad,rfl,bd,cg,dC,dD,be⟩;rw[bn,bo,aS cS.u (ad.W aE),dq (cs:=#[ai,Δ (B.length:Int),Δ 4,Δ 0,Δ 0,Δ 0,Δ 0,Δ 0,.slice ν 0 0]) (by obtain⟨_,_,_,_,_,rfl,_⟩:=bd;kernel_rfl)];refine bj λg V dE al am=>?_;have am:ag V g bE (iY ai (B.length:Int) 4 0 0 0 0 0 (.slice ν 0 0)):=am;have dF:=aE.size;have dG:=al.size;have dH:=am.lt;refine dh (λE=>Ext w E/\af (λr=>r=g) V E/\∃X Y:Int,Y≠0/\ag E g bE (iY ai X Y 0 0 0 0 0 (.slice ν 0 0))) ?_ ?_
 rotate_left
 .intro az aG;have ci:=aE.F al;rw[cJ,aj];refine⟨λ_=>?_,by grind [af.refl]⟩;rw[bS,aT bE.p rfl];refine bw (g:=g) (o:=1) ae.i rfl rfl am (by simp[iY]) λdJ cj dK ck=>?_;rw[bS,aT bE.p rfl];refine bw (g:=g) (o:=2) ae.i rfl rfl ck (by simp[iY]) λdL cl dM cm=>?_;have G:=cj.F cl;exact aG _ ⟨ci.then G Ω,G,bad,11,Ω,cm⟩
 rintro E ⟨bf,aI,X,Y,cn,bi⟩;have z3:=aI.size;have cp:bQ E g E.heap.size bO 100000 (σ ⟨(lex B).1,0,sp,[]⟩):=by
  refine⟨o5 _,E,ai,cf,0,_,[],[],X,Y,0,0,0,0,0,rfl,af.refl _ _,⟨_,bi⟩,bi,⟨⟨?_,λr j=>?_⟩,bm.nil _ _ _ _ _,rfl,by grind⟩,λr j=>gl j,rfl,cn,Ξ,λ_=>rfl,trivial,cg,ce,rfl,?_⟩
  .refine (bd.aa (al.aa λ_=>False) λ_ _ h=>h).aa aI λr j he=>?_;have he:r=g:=he;obtain⟨c,M⟩:=be r j;have:=M.lt;omega
  .obtain⟨c,M⟩:=be r j;exact⟨c,(M.W al).aa aI λhe=>by have he:r=g:=he;have:=M.lt;omega⟩
  grind
 have dN:∀{R:x3}{cq N:Nat}{H:ah}{so:Option aH},bQ R g cq H N so->True:=λ_=>trivial;rw[dq (cs:=#[cb [],Δ 0,.slice ν 0 0,.slice ν 0 0]) Ψ];refine bj λC cr dO aJ aq=>?_;have aq:ag cr C ej [cb [],Δ 0,.slice ν 0 0,.slice ν 0 0]:=aq;have dP:E.heap.size<=C:=Ω
 have dQ:=aq.lt;have ct:C≠g:=Ω
 have L:∀{R Z:x3}{c:List x1},ag R C ej c->af (λr=>r=g) R Z->ag Z C ej c:=λM G=>M.aa G λhe=>ct he;refine(Fr (cp.W aJ)).X ?_;rintro _ cw _ ⟨⟨aM,cz⟩,t,bk,rfl,dR,dS,cA⟩;refine bu cu.i λcB dT dU cC cD=>?_;refine b4 (vs:=[cb t,Δ bk]) cu.i rfl rfl (by intro v bp;simp at bp;rcases bp with rfl|rfl<;>rfl) cD λcE cF dV bq=>?_;have av:Ext cw cE:=cC.put cF Ω;have cG:=(L aq aM).W av;rw[aK cu.p 0 bq rfl,bS,aT ej.p rfl];refine bw (g:=C) (o:=0) da.i rfl rfl cG Ξ λbr aO dW aQ=>?_;have aQ:=aQ;have cH:=(cz.W av).new aO Ω;have z4:=aJ.size;have z5:=aM.size;have dX:=av.size;have bs:ag br cB cu [cb t,Δ bk]:=bq.aa aO Ω;rw[aK cu.p 0 bs rfl,pF da.u,bG,aK cu.p 1 bs rfl];have cI:af (λr=>w.heap.size<=r) w br:=((((bf.aa _).F (aJ.aa _)).F (aM.X Ω)).F (av.aa _)).F (aO.X Ω);have up:∀{R Z:x3},af (λr=>w.heap.size<=r) w R->af (λr=>r=g) R Z->af (λr=>w.heap.size<=r) w Z:=λh k=>h.F (k.X Ω);refine(oQ cH).X ?_;rintro _ dY _ ⟨bt,ab⟩;have cK:=up cI bt;have cL:=L aQ bt;generalize aR:(((kL (σ ⟨(lex B).1,0,sp,[]⟩)).map (·.2)).map (bg (decide ((64:Int)<(t.length:Int)))))=aU at ab;refine(lZ ab).X ?_;rintro _ dZ _ ⟨⟨bx,cM⟩,n,ea,rfl,bz,eb⟩;rw[bn,bo,bG];refine(oQ cM).X ?_;rintro _ ec _ ⟨bA,bB⟩;have ed:=up (up cK bx) bA;have cN:=L (L cL bx) bA;generalize bC:((bc 1 4611686018427387904 aU).map (·.2)).map (bg (decide (64<n)))=aX at bB;refine(lZ bB).X ?_;rintro _ ee _ ⟨⟨cO,bD⟩,most,ef,rfl,hm,eg⟩;rw[bn,bo];generalize cP:(bc 1 4611686018427387904 aX).map (·.2)=aY at bD;refine(lZ bD).X ?_;rintro _ eh _ ⟨⟨cQ,cR⟩,count,ei,rfl,bF,ek⟩;rw[bn,bo,bG];refine(oQ cR).X ?_;rintro _ em _ ⟨cT,bH⟩;generalize bI:((bc 0 4611686018427387904 aY).map (·.2)).map (bg (decide (256<count)))=bJ at bH;refine(lZ bH).X ?_;rintro _ en _ ⟨⟨cU,cV⟩,k,eo,rfl,hk,ep⟩;rw[bn,bo,bG];refine(oQ cV).X ?_;rintro _ er _ ⟨bK,bL⟩;generalize bM:((bc 1 4611686018427387904 bJ).map (·.2)).map (bg (decide (2147483648<k)))=aw at bL;have cW:=up (by grind) bK;have cX:=L (L (L (L (L cN cO) cQ) cT) cU) bK;rw[bS,aT ej.p rfl];refine bw (g:=C) (o:=1) ao.i rfl rfl cX Ξ λcY bN es aZ=>?_;have aZ:=aZ;have cZ:=bL.new bN Ω;have bP:af (λr=>w.heap.size<=r) w cY:=cW.F (bN.X Ω);have et:0<=n/\n<=4611686018427387904:=by
  cases A:bc 1 4611686018427387904 aU with
  |none=>grind
  |some q=>have ab:=bz q A;have:=oK A;omega
 have eu:0<=most/\most<=4611686018427387904:=by
  cases A:bc 1 4611686018427387904 aX with
  |none=>grind
  |some q=>have ab:=hm q A;have:=oK A;omega
 have c0:0<=count/\count<=4611686018427387904:=by
  cases A:bc 0 4611686018427387904 aY with
  |none=>grind
  |some q=>have ab:=bF q A;have:=oK (s':=q.2) A;omega
 have c1:Zero (σ (⟨(lex B).1,0,sp,[]⟩:aH)):=λs U=>by cases U;exact⟨rfl,by simp only;omega⟩
 have c2:Zero aU:=by rw[<-aR];exact(QM c1).big _
 have ev:Zero aX:=by rw[<-bC];exact(zero_num c2).big _
 have c3:Zero aY:=by grind [zero_num]
 have c4:Zero bJ:=by rw[<-bI];exact(zero_num c3).big _
 have bR:Zero aw:=by rw[<-bM];exact(zero_num c4).big _
 have ew:=bP.size;refine⟨λa1 O=>∃i:Nat,a1=Δ (i:Int)/\i<=n.toNat/\af (λr=>w.heap.size<=r) w O/\∃d9 gz acc so,ag O C ej [cb t,Δ k,d9,.slice ν 0 0]/\an .i64 ao O gz d9 acc/\(∀r,li d9 r->E.heap.size<=r)/\bQ O g E.heap.size bO 100000 so/\m8 (gH most) n.toNat i aw acc so/\∀s,so=σ s->s.m1=0/\acc.length+s.d8.length<=100000/\∀z∈acc,1<=z/\z<=ax,λa1 _=>n.toNat-(b0 a1).toNat,
  ⟨0,rfl,X8 _,bP,_,0,[],aw,aZ,an.nil _ _ _ _,(λr j=>by obtain⟨a,aA,c,X,Y⟩:=j;cases X),cZ,?_,λs U=>⟨(bR s U).1,by simpa using(bR s U).2,by grind⟩⟩,?_⟩
 .unfold m8
  grind
 rintro _ O ⟨i,rfl,hi,a2,d9,gz,acc,so,bT,bU,c5,ac,a6,bV⟩;refine aV (λv c6=>O=c6/\((v= .bool rs/\i<n.toNat/\∃s,so=σ s)\/(v= .bool sp/\(so=ν\/i=n.toNat)))) ?_ ?_
 rotate_left
 .intro az aG;rw[aP,aj];refine⟨λbW=>?_,λey=>aG _ _ ⟨rfl,.inr ⟨rfl,.inr Ω⟩⟩⟩;rw[m4 ac];cases so<;>grind
 rintro _ _ ⟨rfl,⟨rfl,bW,s,rfl⟩|⟨rfl,c7⟩⟩
 .rw[bZ];obtain⟨c8,ez,eA⟩:=bV s rfl;refine(lZ ac).X ?_;rintro _ eB _ ⟨⟨c9,db⟩,z,eC,rfl,a7,eD⟩;rw[bn,bo,bG];refine(oQ db).X ?_;rintro _ eE _ ⟨dd,de⟩;have aB:=c9.F dd;have bX:=L bT aB;have df:∀r,r=g->iC O r\/O.heap.size<=r:=λr j=>(l0 ac r j).imp (λ⟨e,c,M,dg,di,_⟩=>⟨e,c,M,dg,di⟩) id;have bY:=eV bU aB df;rw[aN ej.p 2 bX rfl];refine dl au.u ao.i rfl λa22 eF dj eH W dk=>?_;refine gx au.u ao.i rfl (bY.W W) dk.ls Θ Θ λdm dn eI aC eJ b1=>?_;have b2:=bX.W W;have b3:=b2.aa b1 λhe=>ch (bY.W W) b2 Φ he rfl;rw[bS,aT ej.p rfl];refine bw (g:=C) (o:=2) au.i aC.ls.cells.1 aC.ls.cells.2 b3 Ξ λdp b5 eK a8=>?_;have a8:=a8;rw[aL,lm Ω Ω];have b6:af (λr=>li d9 r\/r=C) dj dp:=(b1.X λr _ h=>.inl h).F (b5.X λr _ h=>.inr h);have b7:∀r,(li d9 r\/r=C)->E.heap.size<=r:=λr j=>j.elim (c5 r) λj=>Ω
  have eL:=bf.size;have eM:=aB.size;have z22:=W.size;have eN:=a2.size;have eO:=ac.lt;refine⟨⟨i+1,rfl,Ω,((up a2 aB).F (W.aa _)).F (b6.X λr _ h=>by have:=b7 r h;omega),dm,dn,acc++[z],((bc 1 most (σ s)).map (·.2)).map (bg (decide (32<z))),a8,bl aC b5 λr j he=>?_,λr j=>?_,(de.W W).new b6 b7,?_,λs' P=>?_⟩,by simp only[b0];omega⟩
  .have he:r=C:=he;subst he;exact ch aC b3 Φ j rfl
  .grind
  .refine a6.step bW ?_ λq A=>?_
   .show (W3 _ (bh 1 most s)).map _=_;unfold gH;cases A:bh 1 most s with
    |none=>rfl
    |some q=>
     have:=a7 q A
     grind
   .unfold gH at A;cases S:bh 1 most s with
    |none=>grind
    |some aD=>
     rw[S]at A;have:=a7 aD S
     grind
  .cases S:bh 1 most s with
   |none=>
    have P:(W3 (λx=>x.2) (bh 1 most s)).map (bg (decide (32<z)))=σ s':=P
    grind
   |some aD=>
    have P:(W3 (λx=>x.2) (bh 1 most s)).map (bg (decide (32<z)))=σ s':=P;rw[S]at P;have eP:=a7 aD S;obtain⟨eQ,s2⟩:=aD;cases P;have b8:=dI S;have jK:=(jh S).1;have eR:=b8.1;refine⟨by show s2.m1=0;rw[b8.eqs.1];exact c8,?_,λy ba=>?_⟩
    .rw[p9];show acc.length+1+s2.d8.length<=100000;omega
    .rcases o9.1 ba with ba|ba
     all_goals grind [ax]
 .rw[aW];have dr:aw.bind (dc (gH most) n.toNat [])=so.map λs=>(acc,s):=by
   unfold m8 at a6;rw[a6];cases so with
   |none=>rfl
   |some s=>
    rcases c7 with h|rfl
    .cases h
    .simp only[U1];rfl
  refine QL a2 bT bU ac (λs U=>?_) Ω Ω ad c0 λv I ds dt bb du dv b9=>?_
  .obtain⟨dw,eS,a3⟩:=bV s U;exact⟨λ_=>by rw[dw];omega,Ω,a3,Ω⟩
  .have dx:(decide ((64:Int)<(t.length:Int)))=decide (64<t.length):=by grind
   rw[dx]at aR;have dy:=QJ aR.symm (λq A=>cA q A) bC.symm bz cP.symm hm bI.symm bF bM.symm hk dr du;have Q:=QN dy Ω;have ca:¬0<=bad↔(lex B).2=rs:=by
    grind
   cases dt with
   |none=>
    obtain⟨aA,e,rfl⟩:=b9 λs U=>by cases U
    exact⟨bb,aA,e,λ_=>rfl,λf K=>by rw[Q]at K;cases K⟩
   |some s=>
    have Q:ie B=if s.d8=[]/\(lex B).2=rs/\s.big=sp then σ ⟨t,k,acc,ds⟩else ν:=Q;by_cases G:s.d8=[]/\(lex B).2=rs/\s.big=sp
    .rw[m5 G]at Q;obtain⟨rfl,dz⟩:=dv s rfl ⟨G.1,ca.2 G.2.1,G.2.2⟩;exact⟨bb,_,_,(λK=>by rw[Q]at K;cases K),λf K=>⟨C,rfl,by rw[Q]at K;cases K;exact dz⟩⟩
    .rw[m6 G]at Q;obtain⟨aA,e,rfl⟩:=b9 λs' P ap=>by
      cases P;exact G ⟨ap.1,ca.1 ap.2.1,ap.2.2⟩
     exact⟨bb,aA,e,λ_=>rfl,λf K=>by rw[Q]at K;cases K⟩
theorem FB{a b:Int}:ak x7 IV [Δ a,Δ b] w λv I=>v=Δ (min a b)/\Ext w I:=by
 refine ay func79 ?_;rw[aP,aj];exact⟨λh=>⟨by congr 1;omega,Ext.refl _⟩,λh=>⟨by congr 1;omega,Ext.refl _⟩⟩
theorem QP{s:kf}{x:cv}(h:im w s x)(P:(x.lines.map (·.1)).Nodup)(Q:aF .i64 w aO t):ak x7 KG [.agg (fE s).toArray,aO,Δ k] w λv I=>v=Δ (lh x k t)/\Ext w I:=by
 obtain⟨⟨g1,R⟩,⟨aq,S⟩,U,au,L,f,W,E⟩:=id h;refine ay func238 ?_;refine bj λX J av z a=>?_;have a:ag J X bb (fE s):=by
  obtain⟨_,_,_,Y⟩:=cE R.ls;obtain⟨_,_,_,Z⟩:=cE S.ls;obtain⟨_,_,_,_,_,aa,_⟩:=f.sl;simp only[fE,Y,Z,aa]at a ⊢;exact a
 have ab:=f.W z;have ac:L.length=x.lines.length:=by rw[<-E,r9]
 rw[aK bb.p 2 a rfl,aK bb.p 3 a rfl,eI ek.u ab,U];refine bT.range L.length (λi j V=>Ext J V/\∃c:Int,j=Δ c/\min c k=mU x k i t) f.le ⟨Ext.refl _,x.other,rfl,(Ek x k t).symm⟩ ?_ ?_
 .rintro i _ V ad hi ⟨e,c,rfl,q⟩ ae;obtain⟨y,A⟩:=aC (l:=L) hi;obtain⟨gy,G⟩:=W y (x5 A);have B:=z.F e;have af:x.lines[i]?=σ (y.t,y.c):=by rw[<-E,x8,A];rfl
  have H:=Em (k:=k) P af t;refine bt Ω ?_;refine aV (λj K=>Ext J K/\∃c:Int,j=Δ c/\min c k=mU x k (i+1) t) ?_ ?_
  .rintro j K ah;rw[aL];exact ae _ _ ah
  intro az M;have N:=f.W B;rw[c5 rfl ek.u ck.i N hi,bC ck.p ck.i rfl (N.range A)];refine bu ck.i λam aw ax ai al=>?_;refine b4 (vs:=p1 y) ck.i rfl rfl (yZ G) al λaA an aB O=>?_;have r:=ai.put an Ω;rw[aK ck.p 0 O rfl];refine(yY ((G.ls.W B).W r) ((Q.W B).W r)).X ?_;rintro _ aD _ ⟨rfl,C⟩;rw[aj];refine⟨λhe=>?_,λao=>?_⟩
  .rw[aK ck.p 1 (O.W C) rfl];refine M _ _ ⟨(e.F r).F C,y.c,rfl,?_⟩;rw[H,m5 he.symm]
  .refine M _ _ ⟨(e.F r).F C,c,rfl,?_⟩;rw[H,m6 λhe=>ao he.symm,q]
 .rintro _ V ad ⟨e,c,rfl,q⟩;rw[ac,El]at q;refine b6 Ω ?_;refine FB.X ?_;rintro _ aE _ ⟨rfl,ap⟩;exact⟨by rw[q],(z.F e).F ap⟩
theorem QQ{bK:x1}(h:aF .i64 w bK l)(N:l.Nodup)(al:l.length<=64):ak x7 KF [bK] w λv I=>Ext w I/\∃g,an .i64 ae I g v (bB l)/\∀r,li v r->w.heap.size<=r:=by
 refine ay func237 ?_;have O:∀i,i<=64->(((Z4 i).map λ(v:Nat)=>(v:Int)).filter λv=>decide (v∈l)).length<=i:=λi _=>by
  have:=S8 (λv=>decide (v∈l)) ((Z4 i).map λ(v:Nat)=>(v:Int));simp at this;omega
 refine bT.range 64 (λi e J=>Ext w J/\∃g,an .i64 ae J g e (((Z4 i).map λ(v:Nat)=>(v:Int)).filter λv=>decide (v∈l))/\∀r,li e r->w.heap.size<=r) Ω ⟨Ext.refl _,0,an.nil _ _ _ _,λr y=>by obtain⟨a,n,c,P,am⟩:=y;cases P⟩ ?_ ?_
 .rintro i e J k hi ⟨z,g,hm,C⟩ hk;refine bt Ω ?_;rw[aS au.u (h.W z)];have Q:=O i Ω;generalize R:(((Z4 i).map λ(v:Nat)=>(v:Int)).filter λv=>decide (v∈l))=A at hm Q;refine bT.range l.length (λj e V=>Ext w V/\∃g,an .i64 ae V g e (A++(if(i:Int)∈l.take j then[(i:Int)]else[]))/\∀r,li e r->w.heap.size<=r) h.le ⟨z,g,by simpa using hm,C⟩ ?_ ?_
  .rintro j S V U W ⟨q,E,f,s⟩ X;obtain⟨x,G⟩:=aC (l:=l) W;refine bt Ω ?_;refine aV (λe B=>Ext w B/\∃g,an .i64 ae B g e (A++(if(i:Int)∈l.take (j+1)then[(i:Int)]else[]))/\∀r,li e r->w.heap.size<=r) ?_ ?_
   .rintro aq B Y;rw[aL];exact X _ _ Y
   intro az M;have H:(i:Int)∈l.take (j+1)↔(i:Int)∈l.take j\/(i:Int)=x:=by
    rw[u5,G,l7,o9,b8]
   rw[ba au.u ao.i Ψ (h.W q) G,bi,aj];refine⟨λhe=>?_,λZ=>?_⟩
   .have aa:(i:Int)∉l.take j:=λhm=>by
     obtain⟨p,K⟩:=c8.1 hm;have ab:p<j:=by have:=(x4.1 K).1;rw[j6]at this;omega
     rw[Y3 ab,<-he]at K;have:=mQ N K G;omega
    rw[m6 aa,V2]at f;refine dl ai.u ae.i rfl λa3 av B aw L ac=>?_;refine gx ai.u ae.i rfl (f.W L) ac.ls Θ Θ λax ad aA af ag ah=>?_;have aB:=q.size;have z3:=L.size;refine M _ _ ⟨(q.F L).then ah λr y he=>by have:=s r he;omega,ad,?_,λr y=>(ag r y).elim (s r) λh=>Ω⟩;rw[m5 (H.2 (.inr he.symm))];exact af
   .refine M _ _ ⟨q,E,?_,s⟩;have:((i:Int)∈l.take (j+1))=((i:Int)∈l.take j):=propext ⟨λap=>(H.1 ap).resolve_right λhe=>Z he.symm,λap=>H.2 (.inl ap)⟩;simp only[this];exact f
  .rintro S V U ⟨q,E,f,s⟩;rw[p8]at f;refine b6 Ω ?_;rw[aL];refine hk _ _ ⟨q,E,?_,s⟩;rw[List.range_succ,n9,List.filter_append,R];by_cases hm:(i:Int)∈l
   .rw[m5 hm]at f;simpa[hm]using f
   .rw[m6 hm]at f;simpa[hm]using f
 .rintro e J k ⟨z,g,hm,C⟩;rw[aP,aj];exact⟨λh=>Ω,λ_=>⟨z,g,hm,C⟩⟩
structure fF where
 aI:x1
 d9:x1
 aY:x1
 sc:Λ
 cs:Λ
def dP(h:fF):List x1:=[h.aI,h.d9,h.aY]
def rv(h:fF)(r:Nat):Prop:=li h.aY r\/li h.aI r\/li h.d9 r
def fR(w:x3)(co:Λ)(h:fF):Prop:=(∃g,an .i64 ae w g h.aI h.sc)/\(∃g,an .i64 ae w g h.d9 (aA co h.sc))/\∃g,an .i64 ao w g h.aY h.cs
theorem fR.W{h:fF}(ap:fR w co h)(a:Ext w I):fR I co h:=by
 obtain⟨⟨g1,h1⟩,⟨e,f⟩,j,p⟩:=ap;exact⟨⟨g1,h1.W a⟩,⟨e,f.W a⟩,j,p.W a⟩
theorem fR.one{h:fF}(ap:fR w co h):∀u∈dP h,u.oneCell'=rs:=by
 obtain⟨⟨g1,h1⟩,⟨j,e⟩,p,f⟩:=ap;intro u a;simp[dP]at a;rcases a with rfl|rfl|rfl
 .exact h1.ls.cells.2
 .exact e.ls.cells.2
 .exact f.ls.cells.2
theorem FC{f:ca}{x:cv}{Z:kf}(h:im w Z x)(aE:fb N f)(bq:x∈f.d7)(bZ:an .i64 ao w gz sv f.co):
  ak x7 JN [.agg (fE Z).toArray,sv,Δ f.k] w λv I=>Ext w I/\∃c:fF,v= .agg (dP c).toArray/\c.sc=bB x.scope/\c.cs=(jD f.co f.k x).2/\fR I f.co c/\∀r,rv c r->w.heap.size<=r:=by
 obtain⟨ab,b0,dv⟩:=aE.d7 x bq;have b1:=vc ab aE.co.2.1;have br:=vb b1 ab.scope.1;have dw:(bB x.scope).length<=6:=by rw[br.length_eq];exact b0
 have b2:=rj aE bq;have dx:=Ed x.scope;obtain⟨⟨g1,aF⟩,⟨dy,b3⟩,dz,dA,b5⟩:=id h;refine ay func152 ?_;refine bj λa1 J dC bs ac=>?_;have ac:ag J a1 bb (fE Z):=by
  obtain⟨L,b7,_⟩:=b5;obtain⟨_,_,_,C⟩:=cE aF.ls;obtain⟨_,_,_,K⟩:=cE b3.ls;obtain⟨_,_,_,_,_,b8,_⟩:=b7.sl;simp only[fE,C,K,b8]at ac ⊢;exact ac
 refine bu a7.i λb9 V dD a2 a6=>?_;have bc:=bs.F a2;rw[aK bb.p 0 (ac.W a2) rfl];refine(QQ (aF.ls.W bc) ab.scope.1 Ω).X ?_;rintro aI dE _ ⟨aG,gr,bd,dF⟩;rw[dq (cs:=#[aI,.slice ν 0 0,.slice ν 0 0]) (by obtain⟨_,_,_,rfl⟩:=cE bd.ls;kernel_rfl)];refine bu a7.i λB dG cb cc cd=>?_;refine b4 (vs:=[aI,.slice ν 0 0,.slice ν 0 0]) a7.i rfl rfl (by intro u aH;simp at aH;rcases aH with rfl|rfl;exact bd.ls.cells.2;rfl) cd λR cf dH W=>?_;have aJ:=cc.put cf Ω;have bx:=(bc.F aG).F aJ;have S:=bd.W aJ;have bz:=((ac.W a2).W aG).W aJ;have bA:=(a6.W aG).W aJ;have dI:=bc.size;have z3:=aG.size;have dJ:=bx.size;have dK:=W.lt;have dL:=cb;rw[aK a7.p 0 W rfl,aS ai.u S.ls];have bE:∀v∈bB x.scope,0<=v/\v<f.co.length:=λv hm=>ab.scope.2 v (by grind);have be:∀{I:x3},af (λr=>r=B\/R.heap.size<=r) R I->Ext w I:=λbf=>bx.then bf Ω;have cg:(aA f.co (bB x.scope)).length=(bB x.scope).length:=by simp[aA]
 refine ce.range (bB x.scope).length (λi X=>af (λr=>r=B\/R.heap.size<=r) R X/\∃d9 gs,ag X B a7 [aI,d9,.slice ν 0 0]/\an .i64 ae X gs d9 ((aA f.co (bB x.scope)).take i)/\∀r,li d9 r->R.heap.size<=r) Ω
  ⟨af.refl _ _,_,0,W,an.nil _ _ _ _,λr s=>by obtain⟨a,n,c,C,K⟩:=s;cases C⟩ ?_ ?_
 .rintro i X ci hi ⟨M,d9,gs,cj,ad,ck⟩ cl;obtain⟨v,bF⟩:=aC (l:=(bB x.scope)) hi;have dM:=bE v (x5 bF);have cm:=bl S M λr s U=>by
   rcases U with rfl|U
   .exact ch S W Φ s rfl
   .obtain⟨C,K⟩:=bD S s;omega
  refine bt Ω ?_;rw[ba ai.u ae.i Ψ cm.ls bF];intro dN ah _ _;have bG:=cj.W ah;have cn:f.co[v.toNat]?=σ (f.co.getD v.toNat 0):=by grind
  rw[aK a7.p 1 bG rfl,ew (y:=v) (i:=v.toNat) Ω au.u ao.i Ψ (bZ.W ((be M).F ah)).ls cn];refine dl ai.u ae.i rfl λdO dQ cp dR al cq=>?_;refine⟨.inl al,?_⟩;have cr:=(ad.W ah).W al;refine gx ai.u ae.i rfl cr cq.ls Θ Θ λct cu dS bH dT bI=>?_;have cw:=bG.W al;have cz:=cw.aa bI (by grind);rw[aT a7.p rfl];refine bw (g:=B) (o:=1) ai.i bH.ls.cells.1 bH.ls.cells.2 cz Ξ λcA cB dU cC=>?_;rw[aL];have cD:af (λr=>li d9 r\/r=B) cp cA:=(bI.X (by grind)).F (cB.X Ω);have cF:=M.size;have dV:=(ah.F al).size;refine cl _ ⟨((M.F (ah.aa _)).F (al.aa _)).F (cD.X (by grind)),ct,cu,cC,?_,by grind⟩
  grind [aA,u5,bl]
 rintro X ci ⟨M,d9,gs,bJ,ad,ck⟩;rw[<-cg,p8]at ad;refine b6 Ω ?_;have dW:=be M;have aM:bU (aA f.co (bB x.scope)):=⟨Ω,jl aE.co.2.2 bE⟩;have cG:=b2.small;rw[aK a7.p 1 bJ rfl];refine(CO _ ad.ls aM).X ?_;rintro cH E _ ⟨aN,cI⟩;have dX:=jz aM.2;have dY:=kC aM.2;have dZ:aB (aA f.co (bB x.scope))<=4096:=cG;rw[jf dk.u cI];have aP:af (λr=>r=B\/R.heap.size<=r) R E:=M.F (aN.aa _);have am:=bJ.W aN;have bK:=ad.W aN;have cF:=M.size;have ea:=aN.size;have bg:an .i64 ae E gr aI (bB x.scope):=bl S aP λr s U=>by
  rcases U with rfl|U
  .exact ch S W Φ s rfl
  .obtain⟨C,K⟩:=bD S s;omega
 have bL:ag E a1 bb (fE Z):=bz.aa aP λU=>U.elim (λhe=>by subst he;exact m7 (eJ bz W) Φ) Ω;have bM:=bA.aa aP λU=>U.elim (λhe=>by have:=a6.lt;omega) λh=>by have:=bA.lt;omega
 have bN:∀{I:x3},af (λr=>r=B\/E.heap.size<=r) E I->Ext w I:=λbf=>(be aP).then bf Ω;have eb:B<E.heap.size:=am.lt;refine ce.range (bk (aA f.co (bB x.scope))).length (λq z=>af (λr=>r=B\/E.heap.size<=r) E z/\∃aY ap,ag z B a7 [aI,d9,aY]/\an .i64 ao z ap aY (((bk (aA f.co (bB x.scope))).take q).map λt=>lh x f.k (q6 x.scope (bB x.scope) t))/\∀r,li aY r->E.heap.size<=r) Ω
  ⟨af.refl _ _,_,0,am,an.nil _ _ _ _,λr s=>by obtain⟨a,n,c,C,K⟩:=s;cases C⟩ ?_ ?_
 .rintro q z cJ cK ⟨H,aY,ap,av,aw,cL⟩ cM;obtain⟨t,bP⟩:∃t,(bk (aA f.co (bB x.scope)))[q]?=σ t:=⟨_,x6 cK⟩;have ec:t.length=(bB x.scope).length:=by
   have ed:=q0 aM.2 (i:=q) Ω
   grind [ix]
  have bh:=bN H;have cN:aq.rep (α:=List (Λ)) rs (e0 X.heap.size) bO z [cH] (bk (aA f.co (bB x.scope))):=by grind [aq.aa]
  have Y:∀{O:Nat}{P:x1}{Q:Λ},an .i64 ae E O P Q->an .i64 ae z O P Q:=λhm=>bl hm H λr s U=>by
   rcases U with rfl|U
   .exact ch hm am Φ s rfl
   .obtain⟨C,K⟩:=bD hm s;omega
  have bQ:=Y bg;have bR:ag z a1 bb (fE Z):=bL.aa H λU=>U.elim (λhe=>by subst he;exact m7 (eJ bL am) Φ) Ω;refine bt Ω ?_;refine kx (α:=Λ) rfl rfl dk.u ai.i Ψ cN bP λaO cO=>?_;have cP:=eC cO;rw[aK bb.p 0 bR rfl,aS au.u (aF.ls.W bh)];have z12:=H.size;refine bT.range x.scope.length (λp G aQ=>Ext z aQ/\∃go,an .i64 ao aQ go G ((x.scope.take p).map λv=>t.getD ((bB x.scope).idxOf v) 0)/\∀r,li G r->z.heap.size<=r) Ω ⟨Ext.refl _,0,an.nil _ _ _ _,λr s=>by obtain⟨a,n,c,C,K⟩:=s;cases C⟩ ?_ ?_
  .rintro p G aQ cQ cR ⟨ax,go,aR,cS⟩ ee;obtain⟨v,bS⟩:=aC (l:=x.scope) cR;have cT:v∈bB x.scope:=br.mem_iff.2 (x5 bS);refine bt Ω ?_;have cU:=bh.F ax;have cV:=av.W ax;have cW:=bQ.W ax;rw[ba au.u ao.i Ψ (aF.ls.W cU) bS,aK a7.p 0 cV rfl,aS ai.u cW.ls];generalize ef:((x.scope.take p).map λv=>t.getD ((bB x.scope).idxOf v) 0)=A at aR;have eg:A.length=p:=by grind
   refine bT.range (bB x.scope).length (λj G aU=>Ext z aU/\∃go,an .i64 ao aU go G (A++if v∈(bB x.scope).take j then[t.getD ((bB x.scope).idxOf v) 0]else[])/\∀r,li G r->z.heap.size<=r) Ω (by grind) ?_ ?_
   .rintro j cX aU cY cZ ⟨aD,c0,aW,c1⟩ eh;obtain⟨u,aH⟩:=aC (l:=(bB x.scope)) cZ;have c2:=bQ.W aD;refine bt Ω ?_;refine aV (λG bm=>Ext z bm/\∃go,an .i64 ao bm go G (A++if v∈(bB x.scope).take (j+1)then[t.getD ((bB x.scope).idxOf v) 0]else[])/\∀r,li G r->z.heap.size<=r) ?_ ?_
    .rintro ei bm ej;rw[aL]
     grind
    intro az c3;have ek:v∈(bB x.scope).take (j+1)↔v∈(bB x.scope).take j\/v=u:=by
     grind [u5]
    rw[ba ai.u ae.i Ψ c2.ls aH,bi,aj];refine⟨λhe=>?_,λem=>?_⟩
    .have c4:v∉(bB x.scope).take j:=λhm=>by
      grind [c8]
     rw[m6 c4,V2]at aW;have c5:t[j]?=σ (t.getD ((bB x.scope).idxOf v) 0):=by
      grind
     rw[ba ai.u ae.i Ψ (cP.W aD) c5];refine dl au.u ao.i rfl λen eo ep er bn c6=>?_;refine gx au.u ao.i rfl (aW.W bn) c6.ls Θ Θ λes c7 et eu ev c9=>?_;have ey:=aD.size;have ez:=bn.size;refine c3 _ _ ⟨(aD.F bn).then c9 (by grind),c7,?_,by grind⟩
     grind
    grind
   .rintro cX aU cY ⟨aD,c0,aW,c1⟩;rw[p8,m5 cT]at aW;refine b6 Ω ?_;rw[aL]
    grind [u5]
  .rintro G aQ cQ ⟨ax,go,aR,cS⟩;rw[p8]at aR;refine b6 Ω ?_;intro eA bV _ _;have aX:=ax.F bV;have da:=av.W aX;have db:=bR.W aX;rw[aK a7.p 2 da rfl,bC bb.p bb.i rfl db.range];refine(QP (h.W (bh.F aX)) ab.lines.1 (aR.ls.W bV)).X ?_;rintro _ eB _ ⟨rfl,bo⟩;refine⟨.inl bo,?_⟩;refine dl au.u ao.i rfl λeD eE dc eF bW dd=>?_;refine⟨.inl (bo.F bW),?_⟩;have aZ:=(aX.F bo).F bW;have de:=aw.W aZ;refine gx au.u ao.i rfl de dd.ls Θ Θ λdf dg eH bp eI bX=>?_;have dh:=av.W aZ;have di:=dh.aa bX (by grind);rw[aT a7.p rfl];refine bw (g:=B) (o:=2) au.i bp.ls.cells.1 bp.ls.cells.2 di Ξ λdj bY eK dm=>?_;rw[aL];have dn:af (λr=>li aY r\/r=B) dc dj:=(bX.X (by grind)).F (bY.X Ω);have eL:=aZ.size;refine cM _ ⟨(H.F (aZ.aa _)).F (dn.X (by grind)),df,dg,dm,?_,by grind⟩;rw[u5,bP,l7,n9];exact bl bp bY (by grind)
 .rintro z cJ ⟨H,aY,ap,av,aw,cL⟩;rw[p8]at aw;refine b6 Ω ?_;have Y:∀{O:Nat}{P:x1}{Q:Λ},an .i64 ae E O P Q->an .i64 ae z O P Q:=λhm=>bl hm H λr s U=>by
   rcases U with rfl|U
   .exact ch hm am Φ s rfl
   .obtain⟨C,K⟩:=bD hm s;omega
  let c:fF:=⟨aI,d9,aY,bB x.scope,(jD f.co f.k x).2⟩;have dp:fR z f.co c:=⟨⟨gr,Y bg⟩,⟨gs,Y bK⟩,ap,aw⟩;rw[bC a7.p a7.i rfl (show z.rangeAt B 0 (dP c)from av.range)];have dr:=bM.aa H λU=>U.elim (λhe=>by have:=a6.lt;omega) λh=>by have:=bM.lt;omega
  refine b4 (vs:=dP c) a7.i rfl rfl dp.one dr λds dt eM du=>?_;rw[fA a7.p a7.i rfl du.range];have a8:∀{O:Nat}{P:x1}{Q:Λ}{e:r8},e≠a7->an .i64 e z O P Q->an .i64 e ds O P Q:=by grind [bl,ch]
  refine⟨(bN H).then dt λr s he=>by have he:r=b9:=he;have:=bs.size;omega,c,rfl,rfl,rfl,⟨⟨gr,a8 Φ (Y bg)⟩,⟨gs,a8 Φ (Y bK)⟩,ap,a8 Φ aw⟩,λr s=>?_⟩;rcases s with s|s|s
  all_goals grind
theorem FD{h:fF}{g:Nat}(e:fR w co h)(a:ag I g a7 (x1.agg (dP h).toArray).cells.toList):ag I g a7 (dP h):=by
 obtain⟨⟨g1,h1⟩,⟨s,f⟩,x,j⟩:=e;obtain⟨_,_,_,p⟩:=cE h1.ls;obtain⟨_,_,_,q⟩:=cE f.ls;obtain⟨_,_,_,r⟩:=cE j.ls;simp only[dP,p,q,r]at a ⊢;exact a
theorem QR{a b:fF}(S:fR w co a)(U:fR w co b)(Y:lV a.sc)(Z:lV b.sc):ak x7 BG [.agg (dP a).toArray,.agg (dP b).toArray] w λv I=>v= .bool (decide (dm a.sc<dm b.sc))/\Ext w I:=by
 obtain⟨⟨ga,W⟩,_⟩:=id S;obtain⟨⟨aw,aa⟩,_⟩:=id U;have L:=(yq Y Z).1;refine ay func154 ?_;refine bj λg1 J ax ac M=>?_;refine bj λad V az X N=>?_;have M:=(FD S M).W X;have N:=FD U N;have r:=ac.F X;have s:=W.ls.W r;have B:=aa.ls.W r;have z:∀{I:x3},Ext V I->∀{K:x1->Prop},ab x7 (u6 a7 (Γ g1) 0) I (λt=>ab x7 (u4 ai t) I K)=K a.aI:=λe K=>by
  rw[aK a7.p 0 (M.W e) rfl]
 have C:∀{I:x3},Ext V I->∀{K:x1->Prop},ab x7 (u6 a7 (Γ ad) 0) I (λt=>ab x7 (u4 ai t) I K)=K b.aI:=λe K=>by
  rw[aK a7.p 0 (N.W e) rfl]
 rw[z (Ext.refl _),aS ai.u s,C (Ext.refl _),aS ai.u B,bz,aj];refine⟨λaf=>?_,λag=>?_⟩
 .rw[z (Ext.refl _),aS ai.u s,C (Ext.refl _),aS ai.u B,aP];refine⟨?_,r⟩;congr 1;rw[U5,rc,rc,L];exact⟨λh=>.inl Ω,λh=>by rcases h with h|h<;>omega⟩
 have ah:a.sc.length=b.sc.length:=by have:=Z2.1 ag;omega
 rw[z (Ext.refl _),aS ai.u s];refine bT.range a.sc.length (λi _ O=>Ext V O/\∀(j:Nat)(x y:Int),j<i->a.sc[j]?=σ x->b.sc[j]?=σ y->x=y) W.ls.le ⟨Ext.refl _,λj x y al=>Ω⟩ ?_ ?_
 .rintro i _ O k hi ⟨P,E⟩ hk;obtain⟨x,e⟩:=aC (l:=a.sc) hi;obtain⟨y,G⟩:=aC (l:=b.sc) (i:=i) Ω;have f:=vo E Ω Ω;have am:a.sc.drop i=x::a.sc.drop (i+1):=by rw[X0 hi,(x4.1 e).2]
  have an:b.sc.drop i=y::b.sc.drop (i+1):=by rw[X0 (show i<b.sc.length by omega),(x4.1 G).2]
  rw[am,an]at f;simp only[jH]at f;refine bt Ω ?_;intro aA ao _ _;have q:=P.F ao;rw[z q,ba ai.u ae.i Ψ (s.W q) e,C q,ba ai.u ae.i Ψ (B.W q) G,bz,aj];refine⟨λaf=>?_,λhe=>?_⟩
  .intro aB ap _ _;have A:=q.F ap;rw[z A,ba ai.u ae.i Ψ (s.W A) e,C A,ba ai.u ae.i Ψ (B.W A) G,aP];refine⟨?_,r.F A⟩;congr 1;rw[U5,rc,rc,L,f];by_cases H:x<y
   .rw[m5 H];exact⟨λ_=>.inr ⟨ah,Ω⟩,λ_=>H⟩
   .rw[m6 H,m5 (show y<x by omega)];exact⟨λh=>m7 h H,λh=>by rcases h with h|h<;>omega⟩
  .rw[aL];refine hk _ _ ⟨q,λj aq au al Q R=>?_⟩;by_cases av:j=i
   .subst av;rw[e]at Q;rw[G]at R;cases Q;cases R;exact Z2.1 he
   .exact E j aq au Ω Q R
 .rintro _ O k ⟨P,E⟩;rw[aP,aj];refine⟨λh=>Ω,λ_=>⟨?_,r.F P⟩⟩;congr 1;symm;rw[decide_eq_false_iff_not,L];have f:=vo E (o5 _) Ω;rw[List.drop_length,show b.sc.drop a.sc.length=[]from List.drop_eq_nil_of_le Ω]at f;rw[f];simp only[jH];omega
def ef(h:fF):cZ:=(h.sc,h.cs)
def l1(w:x3)(B g:Nat)(v:x1)(co:Λ)(L:List fF):Prop:=bm dP 3 a7 w g v L/\(∀h∈L,fR w co h/\∀r,rv h r->B<=r)/\(∀(i j:Nat)x y,L[i]?=σ x->L[j]?=σ y->i≠j->∀r,li x.aY r->¬li y.aY r)/\∀r,lc v r->B<=r
theorem oR{h:fF}(y:fR w co h)(q:af S w I)(s:∀r,S r->(∃e c,ag w r e c/\e≠ae/\e≠ao)\/w.heap.size<=r\/((∃c,ag w r ao c)/\¬li h.aY r)):fR I co h:=by
 obtain⟨⟨g1,h1⟩,⟨z,A⟩,B,j⟩:=y;have x:∀{g:Nat}{v:x1}{l:Λ},an .i64 ae w g v l->an .i64 ae I g v l:=λhm=>bl hm q λr a U=>by
  rcases s r U with⟨e,c,f,p,_⟩|C|⟨⟨c,f⟩,_⟩
  .exact ch hm f (λhe=>p he.symm) a rfl
  .obtain⟨E,F⟩:=bD hm a;omega
  .exact ch hm f Φ a rfl
 refine⟨⟨g1,x h1⟩,⟨z,x A⟩,B,bl j q λr a U=>?_⟩;rcases s r U with⟨e,c,f,_,p⟩|C|⟨_,G⟩
 .exact ch j f (λhe=>p he.symm) a rfl
 .obtain⟨E,F⟩:=bD j a;omega
 .exact G a
theorem l1.W{g:Nat}{L:List fF}(h:l1 w B g v co L)(a:Ext w I):l1 I B g v co L:=⟨h.1.W a,λx e=>⟨(h.2.1 x e).1.W a,(h.2.1 x e).2⟩,h.2.2⟩
section
variable{α:Type}{f:α->List x1}{k:Nat}{P:X2}{w:x3}{e:r8}{g:Nat}{v:x1}{L:List α}
theorem QS{M:List α}(h:bm f k e w g v L)(j:L.map f=M.map f):bm f k e w g v M:=by
 have p:L.length=M.length:=by have:=congrArg List.length j;grind
 have hm:L.flatMap f=M.flatMap f:=by grind
 refine⟨by rw[<-p,<-hm];exact h.1,λa q=>?_⟩;obtain⟨b,r,he⟩:=o8.1 (show f a∈L.map f by rw[j];exact o8.2 ⟨a,q,rfl⟩);rw[<-he];exact h.2 b r
theorem FE{t:r8}{b l bf:Nat}{low high:Option x1}(r:P.underlying t=σ (.slice e))(hi:aR P e k b z)(h:bm f k e w g v L)(h1:nD low l)(s:nE high L.length bf)(p:l<=bf)(ap:bf<=L.length)(x:∀q,(∀I,bm f k e I g v L->b5 I k q ((L.drop l).take (bf-l)).length (((L.drop l).take (bf-l)).flatMap f))->K q):ab P (V6 t v low high ν) w K:=by
 have y:=h.sl;obtain⟨_,B,o,base,cap,rfl,C,_⟩:=y;rw[eB r hi h1 s dU p Ω (o5 _)];refine x _ λI j=>?_;have:=b5.part (l:=l) (h:=bf) (m:=cap) j.sl p ap Ω (o5 _);rw[uY l j.2,sI (bf-l) (λa A=>j.2 a (List.mem_of_mem_drop A))]at this
 grind
theorem y1{t O:r8}{b:Nat}{x:x1}{M:List α}{K:x1->x3->Prop}(y:P.underlying t=σ (.slice e))(hi:aR P e k b z)(F:z.cells.size=k)(h:bm f k e w g v L)(G:b5 w k x M.length (M.flatMap f))(R:∀a∈M,(f a).length=k)(h1:∀a∈M,∀u∈f a,u.oneCell'=rs)(H:(L.length+M.length)*b<=140737488355328)(S:L.length+M.length<=9223372036854775807)(J:∀j p I,bm f k e I p j (L++M)->(∀r,lc j r->lc v r\/w.heap.size<=r)->af (λr=>lc v r) w I->K j I):aD P (j4 #[t,t] O #[v,x]) w K:=by
 have N:∀u∈M.flatMap f,u.oneCell'=rs:=by grind
 have A:∀j p I,bW I p e k j (L.length+M.length) (L.flatMap f++M.flatMap f)->bm f k e I p j (L++M):=λj p I hm=>⟨by grind,λb H=>by
  rcases o9.1 H with bf|bf
  .exact h.2 b bf
  grind⟩
 rcases h.1.2 with⟨q,Q⟩|⟨cap,cs,q,T,_⟩
 .have hm:bW w w.heap.size e k v L.length (L.flatMap f):=⟨h.1.1,.inl ⟨q,Q⟩⟩;subst q;refine py y y hi F hm G N Ω (by grind [maxLen]) λj p I B s E=>J j p I (A _ _ _ s) (λr C=>.inr ?_) (E.X Ω);have:=((A _ _ _ s).li C).1;omega
 .refine py y y hi F h.1 G N Ω (by grind [maxLen]) λj p I B s E=>J j p I (A _ _ _ s) (λr C=>?_) (E.X λr C h=>⟨_,_,_,q,h.symm⟩);have:=((A _ _ _ s).li C).1;rcases B with B|B
  .exact .inl ⟨_,_,_,q,by show g=r;omega⟩
  omega
theorem QT{t:r8}{b:Nat}{K:x1->x3->Prop}(a:P.underlying t=σ (.slice e))(hi:aR P e k b z)(h:∀v g I,g=w.heap.size->Ext w I->bm f k e I g v []->K v I):aD P (Z3 t 0 #[]) w K:=
 lM a hi Ω (cs:=#[]) (by simp[Instr.fill]) λg I j p q=>by
  exact h _ g I j p ⟨by simpa using bW.full (n:=0) q Ξ (by simp[maxLen]),λc r=>by cases r⟩
end
theorem vD{α:Type}{A B:List α}{s:Nat}{a:α}(U:s<B.length)(e:A[s]?=σ a):(A.take s++B.drop s).set s a=A.take (s+1)++B.drop (s+1):=by
 have f:=(x4.1 e).1;have h1:(A.take s).length=s:=by grind
 grind [S7,X0,u5]
theorem FF{α:Type}{A B:List α}{s:Nat}(U:s<=A.length):(A.take s++B.drop s)[s]?=B[s]?:=by
 grind
theorem FG{g:cZ}:∀{l:List cZ}{i:Nat},(∀p<i,∀x,l[p]?=σ x->dm x.1<dm g.1)->i<=l.length->(∀x,l[i]?=σ x->¬dm x.1<dm g.1)->ji g l=l.take i++g::l.drop i
 |[],i,_,f,_=>by
  have:i=0:=by grind
  subst this;rfl
 |x::l,0,_,_,e=>by
  grind [ji]
 |x::l,i+1,h1,f,e=>by
  unfold ji;rw[m5 (h1 0 Ω x rfl),FG (λp h y a=>h1 (p+1) Ω y a) (by grind) (λy a=>e y a)];rfl
theorem QU{g:Nat}{L:List fF}{h:fF}{s:Nat}{K:Unit->x3->Prop}(a:l1 w B g v co L)(F:L[j]?=σ h)(U:s<h.cs.length)(Q:∀I,af (λr=>li h.aY r) w I->(∀r,li h.aY r->∃c,ag w r ao c)->l1 I B g v co (L.set j {h with cs:=h.cs.set s n})->K () I):
  ab x7 (j0 au h.aY (Δ (s:Int))) w λt=>aD x7 (o6 ao t (Δ n)) w K:=by
 obtain⟨h1,R,ad,S⟩:=a;have ae:=(x4.1 F).1;obtain⟨J,V⟩:=R h (x5 F);obtain⟨_,_,M,A⟩:=id J;have C:∀r,li h.aY r->∃c,ag w r ao c:=λr a=>by
  obtain⟨rfl,_⟩:=bD A a;obtain⟨_,⟨ah,_⟩|⟨cap,full,_,f,_⟩⟩:=A
  all_goals grind
 have W:∀r,r=M->li h.aY r:=λr he=>by
  subst he;obtain⟨_,⟨_,ai⟩|⟨cap,full,e,f,_⟩⟩:=A
  .omega
  .exact⟨_,_,_,e,rfl⟩
 rw[gb rfl au.u ao.i A U];refine gd ao.i A U λI z aj X=>?_;have z:=z.X λr _ he=>W r he;refine Q I z C ⟨?_,λx E=>?_,λp q x y E Y ak r al am=>?_,S⟩
 .refine QS (h1.aa z λr a U=>?_) ?_
  .obtain⟨c,f⟩:=C r U;exact cO h1 f Φ a
  .rw[V5];symm;refine j9 λp=>?_;rw[Y8,x8];by_cases G:j=p
   .subst G;rw[m5 rfl,m5 (by grind),F];rfl
   .rw[m6 G]
 .have Z:x={h with cs:=h.cs.set s n}\/∃p,p≠j/\L[p]?=σ x:=by
   grind [c8]
  rcases Z with rfl|⟨p,an,G⟩
  .obtain⟨⟨g1,N⟩,⟨ac,O⟩,_⟩:=J;refine⟨⟨⟨g1,bl N z λr a U=>?_⟩,⟨ac,bl O z λr a U=>?_⟩,M,X⟩,V⟩
   .obtain⟨c,f⟩:=C r U;exact ch N f Φ a rfl
   .obtain⟨c,f⟩:=C r U;exact ch O f Φ a rfl
  grind [oR]
 .have P:∀{p:Nat}{x:fF},(L.set j {h with cs:=h.cs.set s n})[p]?=σ x->∃H,L[p]?=σ H/\H.aY=x.aY:=λ{p x}E=>by
   rw[Y8]at E;by_cases ap:j=p
   all_goals grind
  obtain⟨H,aq,ex⟩:=P E;obtain⟨av,aw,ax⟩:=P Y
  grind
def m9(f:ca)(j:Nat):List cZ:=(((gi f).take j).filter gh).foldl (λl g=>ji g l) []
theorem FH{f:ca}{x:cZ}(h:(gi f)[j]?=σ x):m9 f (j+1)=if gh x then ji x (m9 f j)else m9 f j:=by
 unfold m9;rw[u5,h,l7,List.filter_append,List.foldl_append];cases U:gh x with
 |true=>rw[List.filter_cons_of_pos U];rfl
 |false=>rw[List.filter_cons_of_neg (by simp[U])];rfl
theorem QV(f:ca):m9 f (gi f).length=gj f:=by unfold m9 gj;rw[p8]
theorem FI(g:cZ):∀l,(ji g l).length=l.length+1
 |[]=>rfl
 |h::l=>by
  unfold ji;split
  .rw[Y4,FI g l,Y4]
  .rfl
theorem QW{f:ca}(e:j<=(gi f).length):(m9 f j).length<=j:=by
 induction j with
 |zero=>simp[m9]
 |succ j a=>
  have:=a Ω;rw[FH (x6 Ω)];split
  .rw[FI];omega
  .omega
theorem QX{g:Nat}{l:x1}{f:ca}{L:List fF}{Q:x1->x3->Prop}(aA:fb N f)(A:l1 w B g l f.co L)(aB:L.map ef=gi f)(bO:∀out I go z,Ext w I->bm dP 3 a7 I go out z->(∀h∈z,h∈L)->(∀h∈z,fR I f.co h)->z.map ef=gj f->(∀r,lc out r->w.heap.size<=r)->Q out I):
  ab x7 (X7 #[c3] ae #[l]) w λbP=>
 bT (.slice ν 0 0) (Δ 0) w λout aE R bQ=>
  ab x7 (aQ .lss ae sp sp aE bP) R λbR=>
  Split bR (ct (α:=x1->x3->Prop) (λ(bS:x1)(S:x3)=>
   ab x7 (aQ .add ae sp rs aE (Δ 1)) S λbU=>
   bQ bS bU S) λbb=>
  ab x7 (j0 c3 l aE) R λbV=>
  ab x7 (u4 a7 bV) R λbW=>
  aD x7 (S5 a7 rs (.tuple #[])) R λal bc=>
  aD x7 (o6 a7 al bW) bc λ(_:Unit)O=>
  ab x7 (u6 a7 al 2) O λbX=>
  ab x7 (u4 au bX) O λbd=>
  ab x7 (X7 #[au] ae #[bd]) O λbY=>
  bT (.bool sp) (Δ 0) O λbe aF C b1=>
   ab x7 (aQ .lss ae sp sp aF bY) C λb2=>
   Split b2 (ct (α:=x1->x3->Prop) (λ(b3:x1)(Y:x3)=>
    ab x7 (aQ .add ae sp rs aF (Δ 1)) Y λb5=>
    b1 b3 b5 Y) λbf=>
   ab x7 (j0 au bd aF) C λb7=>
   ab x7 (u4 ao b7) C λb9=>
   Split be (bf (.bool rs) C)
    (ab x7 (aQ .gtr ao sp rs b9 (Δ 0)) C λcb=>
   bf cb C))
    (ab x7 (Op.unary .not be) C λcc=>
  Split cc (bb out C)
   (ce (Δ 0) C λi am cd=>
   ct (α:=x1->x3->Prop) (λ(cf:x1)(V:x3)=>
    Split cf (ab x7 (aQ .add ae sp rs i (Δ 1)) V λcg=>
   cd cg V)
     (eu V λP=>
  ab x7 (u4 a7 al) P λch=>
  ab x7 (V6 c3 out (σ i) ν ν) P λbg=>
  aD x7 (Z3 c3 1 #[(0,ch)]) P λci Z=>
   (Ext P Z\/cC x7 (V6 c3 out (σ i) ν ν) bg Z/\True)/\
  aD x7 (j4 #[c3,c3] c3 #[ci,bg]) Z λcj bh=>
   aD x7 (Z3 c3 0 #[]) bh λt131 an=>
  ab x7 (V6 c3 out ν (σ i) ν) an λck=>
  aD x7 (j4 #[c3,c3] c3 #[t131,ck]) an λcl bi=>
  aD x7 (j4 #[c3,c3] c3 #[cl,cj]) bi λcm bj=>
  bb cm bj)) λbk=>
   eu am λG=>
   ab x7 (X7 #[c3] ae #[out]) G λcn=>
   ab x7 (aQ .lss ae sp sp i cn) G λcp=>
   Split cp (ab x7 (j0 c3 out i) G λcq=>
   ab x7 (u4 a7 cq) G λcr=>
   ab x7 (u4 a7 al) G λcu=>
   ak x7 BG [cr,cu] G λcw bl=>
    bk cw bl)
    (bk (.bool sp) G))))
   (Q out R):=by
 have cz:L.length=(gi f).length:=by rw[<-aB,r9]
 have df:L.length<=256:=by have:=(mT aA).2.2;have:=aA.mO;omega
 have bn:=(mT aA).1;rw[eI c3.u A.1];refine bT.range L.length (λj out J=>∃go z,Ext w J/\bm dP 3 a7 J go out z/\(∀h∈z,h∈L)/\z.map ef=m9 f j/\∀r,lc out r->w.heap.size<=r) A.1.le
  ⟨0,[],Ext.refl _,bm.nil _ _ _ _ _,λh ap=>(by cases ap),rfl,λr A=>(gl A).elim⟩ ?_ ?_
 rotate_left
 .rintro out J cA ⟨go,z,bo,ac,K,ad,aG⟩;rw[aP,aj];refine⟨λh=>Ω,λ_=>bO _ _ go z bo ac K (λh ap=>((A.W bo).2.1 h (K h ap)).1) ?_ aG⟩;rw[ad,cz,QV]
 rintro j out R cA bp ⟨go,z,aq,ac,K,ad,aG⟩ cB;obtain⟨h,ap⟩:=aC (l:=L) bp;have hm:(gi f)[j]?=σ (ef h):=by rw[<-aB,x8,ap];rfl
 have cD:=bn _ (x5 hm);have dg:z.length<=256:=by
  have:=QW (f:=f) (j:=j) Ω;rw[<-ad,r9]at this;omega
 have af:=A.W aq;obtain⟨aH,_⟩:=af.2.1 h (x5 ap);obtain⟨_,_,dh,cE⟩:=id aH;refine bt Ω ?_;refine aV (λaI S=>∃aJ ag,Ext w S/\bm dP 3 a7 S aJ aI ag/\(∀h∈ag,h∈L)/\ag.map ef=m9 f (j+1)/\∀r,lc aI r->w.heap.size<=r) ?_ ?_
 .rintro aI S ⟨aJ,ag,h1,cF,cG,cH,cI⟩;rw[aL];exact cB _ _ ⟨aJ,ag,h1,cF,cG,cH,cI⟩
 intro az ah;rw[c5 rfl c3.u a7.i af.1 bp,bC a7.p a7.i rfl (af.1.range ap)];refine bu a7.i λbq bc di cJ cK=>?_;refine b4 (vs:=dP h) a7.i rfl rfl aH.one cK λO cL dj br=>?_;have bs:=cJ.put cL Ω;have aM:=cE.W bs;rw[aK a7.p 2 br rfl,aS au.u aM.ls];refine bT.range h.cs.length (λq sv C=>Ext O C/\sv= .bool ((h.cs.take q).any λc=>decide (0<c))) aM.ls.le ⟨Ext.refl _,rfl⟩ ?_ ?_
 .rintro q _ C cM cN ⟨W,rfl⟩ cO;obtain⟨c,bw⟩:=aC (l:=h.cs) cN;have e:(h.cs.take (q+1)).any (λc=>decide (0<c))=((h.cs.take q).any (λc=>decide (0<c))||decide (0<c)):=by
   rw[u5,bw,l7,List.any_append];simp
  refine bt Ω ?_;refine aV (λsv Y=>Ext O Y/\sv= .bool ((h.cs.take (q+1)).any λc=>decide (0<c))) ?_ ?_
  .rintro _ Y ⟨cP,rfl⟩;rw[aL];exact cO _ _ ⟨cP,rfl⟩
  intro az ah;rw[ba au.u ao.i Ψ (aM.W W).ls bw,bM];refine⟨λcQ=>ah _ _ ⟨W,by rw[e,cQ];rfl⟩,λcR=>?_⟩;rw[bG];exact ah _ _ ⟨W,by rw[e,cR];rfl⟩
 rintro _ C cM ⟨W,rfl⟩;have bx:=br.W W;have M:=bs.F W;rw[p8];refine b6 Ω ?_;rw[bA,bM];have av:=FH hm;have cS:(h.cs.any λc=>decide (0<c))=gh (ef h):=rfl;rw[cS];refine⟨λaN=>?_,λU=>?_⟩
 .have aN:gh (ef h)=sp:=by simpa using aN
  rw[aN]at av;exact ah _ _ ⟨go,z,aq.F M,ac.W M,K,by rw[ad,av];rfl,aG⟩
 have U:gh (ef h)=rs:=by simpa using U
 rw[U,m5 rfl]at av;refine⟨λaR am=>∃i:Nat,aR=Δ (i:Int)/\i<=z.length/\Ext C am/\∀p<i,∀x,z[p]?=σ x->dm x.sc<dm h.sc,λaR _=>z.length-(b0 aR).toNat,⟨0,rfl,X8 _,Ext.refl _,λp aT=>Ω⟩,?_⟩;rintro _ am ⟨i,rfl,hi,cT,aU⟩;refine aV (λaO V=>Ext C V/\((aO= .bool rs/\i<z.length/\∀x,z[i]?=σ x->dm x.sc<dm h.sc)\/(aO= .bool sp/\∀x,z[i]?=σ x->¬dm x.sc<dm h.sc))) ?_ ?_
 rotate_left
 .intro dk aX;intro G cU _ _;have X:=cT.F cU;have aY:=ac.W (M.F X);rw[eI c3.u aY,aP,aj];refine⟨λaU=>?_,λdl=>aX _ _ ⟨X,.inr ⟨rfl,λx s=>m7 (x4.1 s).1 Ω⟩⟩⟩;obtain⟨x,s⟩:=aC (l:=z) (i:=i) Ω;have bz:=K x (x5 s);have cV:=(bn (ef x) (by rw[<-aB];exact o8.2 ⟨x,bz,rfl⟩)).scope;have bB:=af.W (M.F X);rw[c5 rfl c3.u a7.i aY Ω,bC a7.p a7.i rfl (aY.range s),bC a7.p a7.i rfl (show G.rangeAt bq 0 (dP h)from(bx.W X).range)];refine(QR (bB.2.1 x bz).1 (bB.2.1 h (x5 ap)).1 cV cD.scope).X ?_;rintro _ bl _ ⟨rfl,bD⟩;by_cases aw:dm x.sc<dm h.sc
  .rw[ms aw];exact aX _ _ ⟨X.F bD,.inl ⟨rfl,Ω,λy E=>by rw[s]at E;cases E;exact aw⟩⟩
  .rw[pl aw];exact aX _ _ ⟨X.F bD,.inr ⟨rfl,λy E=>by rw[s]at E;cases E;exact aw⟩⟩
 rintro _ V ⟨bE,⟨rfl,dn,cW⟩|⟨rfl,cX⟩⟩
 .rw[bZ,aL,lm Ω Ω];refine⟨⟨i+1,rfl,Ω,bE,λp aT x s=>?_⟩,by simp only[b0];omega⟩;by_cases cY:p=i
  .subst cY;exact cW x s
  .exact aU p Ω x s
 .rw[aW];intro P cZ _ _;have ai:=bE.F cZ;have ax:=ac.W (M.F ai);have c0:=af.W (M.F ai);have aZ:∀x∈z,∀u∈dP x,u.oneCell'=rs:=λx s=>(c0.2.1 x (K x s)).1.one;have c1:∀u∈dP h,u.oneCell'=rs:=aH.one;rw[bC a7.p a7.i rfl (show P.rangeAt bq 0 (dP h)from(bx.W ai).range)];refine FE c3.u a7.i ax (mA i _ rfl) gX hi (o5 _) λdp bF=>?_;refine iS c3.u a7.i Ω rfl rfl λdq dr Z ds a1 bH=>?_;refine⟨.inl a1,?_⟩;have c2:(z.drop i).take (z.length-i)=z.drop i:=o7 (by rw[List.length_drop];omega);rw[c2]at bF;refine y1 c3.u a7.i rfl bH (bF Z (ax.W a1)) (λ_ _=>rfl) (λa H=>aZ a (List.mem_of_mem_drop H)) Θ Θ λdt du bh a2 dv c4=>?_;have bI:=a1.then c4 λr A he=>by have:=(bH.li he).1;omega
  refine QT (f:=dP) (k:=3) c3.u a7.i λv131 dw an dx a6 ay=>?_;have a8:=bI.F a6;refine FE c3.u a7.i (ax.W a8) iN (nF i _ rfl) (X8 _) hi λdy bJ=>?_;rw[List.drop_zero,Nat.sub_zero]at bJ;refine y1 c3.u a7.i rfl ay (bJ an (ax.W a8)) (λ_ _=>rfl) (λa H=>aZ a (V4 H)) Θ Θ λc6 dz bi c7 c8 bK=>?_;have dA:=bI.size;have dC:=a6.size;have c9:=(a2.W a6).aa bK λr A U=>by have:=(a2.li A).1;have:=(a2.li A).2;have:=(ay.li U).1;omega
  refine y1 c3.u a7.i rfl c7 c9.sl (λ_ _=>rfl) (λa H=>?_) Θ Θ λdD da bj db dc dd=>?_
  .rcases o9.1 H with H|H
   .rw[b8.1 H];exact c1
   .exact aZ a (List.mem_of_mem_drop H)
  have bL:=a8.then bK λr A he=>by have:=(ay.li he).1;omega
  have bN:∀r,lc c6 r->P.heap.size<=r:=λr A=>(c8 r A).elim (λh=>by have:=(ay.li h).1;omega) λh=>Ω
  have de:=bL.then dd λr A he=>by have:=bN r he;omega
  have dE:=(aq.F (M.F ai)).size;have dF:=bL.size;refine ah _ _ ⟨da,_,(aq.F (M.F ai)).F de,db,λx s=>?_,?_,λr A=>(dc r A).elim (λh=>by have:=bN r h;omega) λh=>Ω⟩
  .rcases o9.1 s with s|s
   .exact K x (V4 (by simpa using s))
   .rcases o9.1 s with s|s
    .rw[b8.1 s];exact x5 ap
    .exact K x (List.mem_of_mem_drop s)
  .rw[av,<-ad,FG (λp aT x s=>?_) (by simpa using hi) (λx s=>?_)]
   .simp
   .rw[x8]at s;cases E:z[p]? with
    |none=>rw[E]at s;cases s
    |some y=>rw[E]at s;cases s;exact aU p aT y E
   .rw[x8]at s;cases E:z[i]? with
    |none=>rw[E]at s;cases s
    |some y=>rw[E]at s;cases s;exact cX y E
def QY(w:x3)(f:ca)(v:x1)(I:x3):Prop:=Ext w I/\∃go a,bm dP 3 a7 I go v a/\(∀h∈a,fR I f.co h/\∀r,rv h r->w.heap.size<=r)/\a.map ef=gj f/\∀r,lc v r->w.heap.size<=r
def na(k:Int)(sc cs:Λ)(h:cZ):cZ:=if h.1=sc then(h.1,bX k h.2 cs)else h
theorem QZ{bs:Nat}{f:ca}(cp:p3 w bs f)(M:fb N f):ak x7 IT [Γ bs] w (QY w f):=by
 have hk:=M.k;obtain⟨d9,gz,al,gr,aM,bw,cq⟩:=id cp;obtain⟨bx,aO,cr,ct⟩:=id cq;refine ay func76 ?_;rw[aN ej.p 3 aM rfl,eI dC.u aO];refine bT.range bx.length (λi l J=>∃g L,Ext w J/\l1 J w.heap.size g l f.co L/\L.map ef=e3 f i) aO.le
  ⟨0,[],Ext.refl _,⟨bm.nil _ _ _ _ _,λh ap=>(by cases ap),λi j x y aQ=>(by simp at aQ),λr A=>(gl A).elim⟩,rfl⟩ ?_ ?_
 rotate_left
 .rintro l J cu ⟨g,L,O,A,ab⟩;rw[<-cr,EW]at ab;rw[aP,aj];refine⟨λh=>Ω,λ_=>QX M A ab λout I go cw aQ aR cz P cA dp=>?_⟩;have cB:=O.size;exact⟨O.F aQ,go,cw,aR,λh ap=>⟨P h ap,(A.2.1 h (cz h ap)).2⟩,cA,by grind⟩
 rintro i l J cu hi ⟨g,L,O,A,ab⟩ dq;obtain⟨aW,bz⟩:=aC (l:=bx) hi;obtain⟨x,aX⟩:=aC (l:=f.d7) (i:=i) Ω;have aZ:=x5 aX;have a1:=ct i aW x bz aX;have cC:=rj M aZ;obtain⟨cD,dr,ds⟩:=EV M i;have cE:L.length=(e3 f i).length:=by grind
 have dt:=M.mO;have bE:=aO.W O;refine bt Ω ?_;refine aV (λfB V=>∃g L,Ext w V/\l1 V w.heap.size g fB f.co L/\L.map ef=e3 f (i+1)) ?_ ?_
 .rintro fB V cF;rw[aL]
  grind
 intro az bF;rw[c5 rfl dC.u bb.i bE hi,bC bb.p bb.i rfl (bE.range bz)];refine bu bb.i λam du dv cG cH=>?_;refine b4 (vs:=fE aW) bb.i rfl rfl a1.one cH λdw cI dx cJ=>?_;have bG:=cG.put cI Ω;have dy:=bG.size;refine aV (λaU an=>∃G c,aU=Γ G/\Ext J an/\ag an G a7 (dP c)/\c.sc=bB x.scope/\c.cs=(jD f.co f.k x).2/\fR an f.co c/\J.heap.size<=G/\∀r,rv c r->J.heap.size<=r) ?_ ?_
 rotate_left
 .intro dz bH;intro cK bI _ _;have aq:=bG.F bI;have aw:=O.F aq;have cL:=cJ.W bI;have bJ:=aM.W aw;have dA:=aq.size;rw[bC bb.p bb.i rfl (show cK.rangeAt am 0 (fE aW)from cL.range),aN ej.p 2 bJ rfl,aN ej.p 1 bJ rfl];refine⟨?_,?_⟩
  .refine (FC (a1.W aw) M aZ (bw.W aw)).X ?_;rintro _ dD _ ⟨a2,c,rfl,h1,a6,P,ac⟩;refine bu a7.i λG dE bK a8 ax=>?_;refine⟨.inl (a2.F a8),?_⟩;refine b4 (vs:=dP c) a7.i rfl rfl P.one ax λdF bL dG cM=>?_;have dH:=a2.size;refine bH _ _ ⟨G,c,rfl,(aq.F a2).F (a8.then bL Ω),cM,h1,a6,?_,Ω,by grind⟩;exact oR (P.W a8) bL λr A=>.inl ⟨_,_,by have A:r=G:=A;subst A;exact ax,Φ,Φ⟩
  .refine bu a7.i λG dI bK aA ax=>?_;refine⟨.inl aA,?_⟩;have bN:=aw.F aA;refine(FC (a1.W bN) M aZ (bw.W bN)).X ?_;rintro _ dK _ ⟨bO,c,rfl,h1,a6,P,ac⟩;have bP:=ax.W bO;have dL:=aA.size;refine b4 (vs:=dP c) a7.i rfl rfl P.one bP λdM bQ dN cN=>?_;refine bH _ _ ⟨G,c,rfl,aq.F ((aA.F bO).then bQ Ω),cN,h1,a6,?_,Ω,by grind⟩;exact oR P bQ λr A=>.inl ⟨_,_,by have A:r=G:=A;subst A;exact bP,Φ,Φ⟩
 rintro _ an ⟨G,c,rfl,bc,cO,aB,bR,cP,bK,ac⟩;have bS:=A.W bc;have cQ:∀h∈L,∀r,li h.aY r->r<J.heap.size:=λh ap r cR=>by
  obtain⟨⟨_,_,cS,bU⟩,_⟩:=A.2.1 h ap;have:=bD bU cR;omega
 have cT:∀{j:Nat},decide (c.sc∈(L.take j).map (·.sc))=decide (bB x.scope∈((e3 f i).take j).map (·.1)):=λ{j}=>by
  rw[aB,<-ab,<-S0,T8];rfl
 have cB:=O.size;rw[eI c3.u bS.1];refine bT.range L.length (λj al H=>∃C,al= .bool (decide (c.sc∈(L.take j).map (·.sc)))/\Ext w H/\J.heap.size<=H.heap.size/\l1 H w.heap.size g l f.co C/\C.map ef=((e3 f i).map (na f.k c.sc c.cs)).take j++(e3 f i).drop j/\ag H G a7 (dP c)/\fR H f.co c/\∀h∈C,∀r,li h.aY r->r<J.heap.size) A.1.le
  ⟨L,Ξ,O.F bc,bc.size,bS,by grind,cO,cP,cQ⟩ ?_ ?_
 .rintro j _ H cU bV ⟨C,rfl,ad,cV,aD,S,bd,be,af⟩ dO;have cW:C.length=L.length:=by
   grind [p9]
  obtain⟨h,ap⟩:=aC (l:=C) (i:=j) Ω;have bf:(e3 f i)[j]?=σ (ef h):=by
   grind [FF]
  have bW:((e3 f i).map (na f.k c.sc c.cs))[j]?=σ (na f.k c.sc c.cs (ef h)):=by grind
  have cX:∃y,L[j]?=σ y/\y.sc=h.sc:=by
   refine⟨_,x6 bV,?_⟩;rw[<-ab,x8,x6 bV]at bf;exact congrArg Prod.fst (Z7 bf)
  obtain⟨y,W,cY⟩:=cX;have dQ:(c.sc∈(L.take (j+1)).map (·.sc))↔c.sc∈(L.take j).map (·.sc)\/h.sc=c.sc:=by
   rw[u5,W,l7,n9,o9,List.map_singleton,b8,cY]
   grind
  have cZ:=cD _ (x5 bf);refine bt Ω ?_;refine aV (λal K=>∃C,al= .bool (decide (c.sc∈(L.take (j+1)).map (·.sc)))/\Ext w K/\J.heap.size<=K.heap.size/\l1 K w.heap.size g l f.co C/\C.map ef=((e3 f i).map (na f.k c.sc c.cs)).take (j+1)++(e3 f i).drop (j+1)/\ag K G a7 (dP c)/\fR K f.co c/\∀h∈C,∀r,li h.aY r->r<J.heap.size) ?_ ?_
  .rintro dR K cF;rw[aL]
   grind
  intro dS bY;intro c0 ah _ _;have aE:=aD.W ah;have bZ:=bd.W ah;have b0:=be.W ah;obtain⟨c1,dT⟩:=aE.2.1 h (x5 ap);obtain⟨⟨g1,h1⟩,_,cS,bU⟩:=id c1;obtain⟨⟨dU,c2⟩,_,dV,b1⟩:=id b0;rw[c5 rfl c3.u a7.i aE.1 Ω,aT a7.p rfl,av Ψ (aE.1.range ap 0 _ rfl),aK a7.p 0 bZ rfl];refine(Mm h1.ls c2.ls).X ?_;rintro _ dW _ ⟨rfl,X⟩;have c4:=aE.W X;have bg:=bZ.W X;have b2:=b0.W X;have b3:=(ad.F ah).F X;have z9:=(ah.F X).size;rw[aj];refine⟨λdX=>?_,λc6=>?_⟩
  rotate_left
  .refine bY _ _ ⟨C,?_,b3,Ω,c4,?_,bg,b2,af⟩
   .grind
   .have e:na f.k c.sc c.cs (ef h)=ef h:=m6 c6;rw[e]at bW;rw[<-vD Ω bW,<-S];symm;refine j9 λp=>?_;rw[Y8];by_cases bh:j=p
    all_goals grind
  have dY:h.cs.length=c.cs.length:=by
   grind [ep.len,jD,ef]
  have dZ:(bX f.k h.cs c.cs).length=h.cs.length:=by grind [bX]
  rw[aK a7.p 2 bg rfl,aS au.u (b1.W X).ls];refine ce.range c.cs.length (λs Q=>Ext w Q/\J.heap.size<=Q.heap.size/\l1 Q w.heap.size g l f.co (C.set j {h with cs:=(bX f.k h.cs c.cs).take s++h.cs.drop s})/\ag Q G a7 (dP c)/\fR Q f.co c) b1.ls.le
   ⟨b3,Ω,?_,bg,b2⟩ ?_ ?_
  .have e:C.set j {h with cs:=(bX f.k h.cs c.cs).take 0++h.cs.drop 0}=C:=by
    refine j9 λp=>?_;rw[Y8];by_cases bh:j=p
    .subst bh;rw[m5 rfl,m5 Ω,ap];rfl
    .rw[m6 bh]
   grind
  .rintro s Q c7 U ⟨bi,b5,aF,bj,bk⟩ c8;refine bt Ω ?_;intro ea ai _ _;have Y:=aF.W ai;have b7:=bj.W ai;have cb:=bk.W ai;have cc:=bi.F ai;have aG:(C.set j {h with cs:=(bX f.k h.cs c.cs).take s++h.cs.drop s})[j]?=σ {h with cs:=(bX f.k h.cs c.cs).take s++h.cs.drop s}:=by
    grind
   have cd:j<(C.set j {h with cs:=(bX f.k h.cs c.cs).take s++h.cs.drop s}).length:=by grind
   obtain⟨⟨_,_,c9,bl⟩,da⟩:=Y.2.1 _ (x5 aG);obtain⟨_,_,eb,db⟩:=id cb;obtain⟨a,cf⟩:=aC (l:=h.cs) (i:=s) Ω;obtain⟨b,aH⟩:=aC (l:=c.cs) U;have dc:s<({h with cs:=(bX f.k h.cs c.cs).take s++h.cs.drop s}:fF).cs.length:=by show s<((bX f.k h.cs c.cs).take s++h.cs.drop s).length;rw[p9,j6,List.length_drop];omega
   have dd:((bX f.k h.cs c.cs).take s++h.cs.drop s)[s]?=σ a:=by grind [FF]
   have bn:(bX f.k h.cs c.cs)[s]?=σ (min (a+b) f.k):=by
    unfold bX;rw[List.getElem?_zipWith,cf,aH]
   have ec:=cZ.fP a (x5 cf);have ed:=cC.fP b (by grind [x5]);have de:=aM.W cc;rw[c5 rfl c3.u a7.i Y.1 cd,aT a7.p rfl,av Ψ (Y.1.range aG 2 _ rfl),c5 rfl c3.u a7.i Y.1 cd,aT a7.p rfl,av Ψ (Y.1.range aG 2 _ rfl),ba au.u ao.i Ψ bl.ls dd,aK a7.p 2 b7 rfl,ba au.u ao.i Ψ db.ls aH,aN ej.p 1 de rfl];refine(oI Ω Ω).X ?_;rintro _ ee _ ⟨rfl,Z⟩;refine⟨.inl Z,?_⟩;have z12:=(ai.F Z).size;refine QU (Y.W Z) aG dc λeg aI cg df=>?_;rw[aL];have dg:=cb.W Z;have ch:=b7.W Z;have eh:=aI.size;refine c8 _ ⟨(cc.F Z).then aI λr A he=>by have:=da r (.inl he);omega,Ω,?_,?_,?_⟩
   .rw[List.set_set]at df;have e:=vD (B:=h.cs) (s:=s) Ω bn
    grind
   .exact ch.aa aI λU=>by
     obtain⟨ei,dh⟩:=cg _ U;exact m7 (eJ ch dh) Φ
   .refine oR dg aI λr A=>.inr (.inr ⟨cg r A,λdi=>?_⟩);have:=ac r (.inl di);have:=af h (x5 ap) r A;omega
  .rintro Q c7 ⟨bi,b5,aF,bj,bk⟩;refine b6 Ω ?_;have e:(bX f.k h.cs c.cs).take c.cs.length++h.cs.drop c.cs.length=bX f.k h.cs c.cs:=by
    grind
   simp only[e]at aF;refine bY _ _ ⟨_,?_,bi,b5,aF,?_,bj,bk,λz E r A=>?_⟩
   .grind
   .grind [na,ef,V5,vD]
   .rcases T4 E with E|rfl
    all_goals grind
 rintro _ H cU ⟨C,rfl,ad,cV,aD,S,bd,be,af⟩;refine b6 Ω ?_;rw[cT,cE,p8,bA,bM];have ci:=yH aX;have bn:((e3 f i).map (na f.k c.sc c.cs)).take L.length++(e3 f i).drop L.length=(e3 f i).map (na f.k c.sc c.cs):=by
  grind [r9]
 rw[bn]at S;have cW:C.length=L.length:=by
  grind
 refine⟨λbo=>?_,λdj=>?_⟩
 .have bo:bB x.scope∉(e3 f i).map (·.1):=by grind
  have dk:(e3 f i).map (na f.k c.sc c.cs)=e3 f i:=by
   refine(V3 λz E=>?_).F (List.map_id _);exact m6 λhe=>bo (o8.2 ⟨z,E,by rw[he,aB]⟩)
  rw[dk]at S;rw[bC a7.p a7.i rfl (show H.rangeAt G 0 (dP c)from bd.range)];refine iS c3.u a7.i Ω rfl rfl λek c9 K em aJ bl=>?_;have R:=aD.W aJ;have cj:=be.W aJ;refine jk c3.u a7.i rfl R.1 (by simpa using bl.sl) cj.one Ω Ω λen dl c0 aR dm bp=>?_;have ck:∀r,lc l r->∃e c,ag K r e c/\e≠ae/\e≠ao:=λr A=>by
   obtain⟨rfl,c,aH⟩:=dJ R.1 A;exact⟨_,c,aH,Φ,Φ⟩
  have eo:=aJ.size;have er:=ad.size;refine bF _ _ ⟨dl,C++[c],(ad.F aJ).then bp λr A he=>by have:=R.2.2.2 r he;omega,⟨aR,λz E=>?_,λp q y z W E dn r bq br=>?_,λr A=>(dm r A).elim (R.2.2.2 r) Ω⟩,?_⟩
  .rcases o9.1 E with E|E
   .exact⟨oR (R.2.1 z E).1 bp λr A=>.inl (ck r A),(R.2.1 z E).2⟩
   .rw[b8.1 E];exact⟨oR cj bp λr A=>.inl (ck r A),by grind⟩
  .have cl:∀{p:Nat}{y:fF},(C++[c])[p]?=σ y->C[p]?=σ y\/(p=C.length/\y=c):=λ{p y}W=>by
    rw[List.getElem?_append]at W;split at W
    .grind
    .by_cases es:p-C.length=0
     all_goals grind
   rcases cl W with cm|⟨et,rfl⟩<;>rcases cl E with cn|⟨eq,rfl⟩
   .exact R.2.2.1 p q y z cm cn dn r bq br
   .have:=af y (x5 cm) r bq;have:=ac r (.inl br);omega
   .have:=af z (x5 cn) r br;have:=ac r (.inl bq);omega
   .omega
  .rw[n9,S,ci,EU λz E he=>bo (o8.2 ⟨z,E,he⟩)];show _++[(c.sc,c.cs)]=_;rw[aB,bR];rfl
 .have dj:bB x.scope∈(e3 f i).map (·.1):=by grind
  refine bF _ _ ⟨g,C,ad,aD,?_⟩;rw[S,ci];unfold jE;rw[m5 (by grind [jD])];refine V3 λz _=>?_;unfold na;rw[aB,bR];rfl
def y2(w:x3)(B:Nat)(v:x1)(n:aG):Prop:=∃d9 gz a f aX e gr L,v= .agg #[Δ n.k,d9,Δ n.zero,a,e]/\an .i64 ae w gz d9 n.co/\iV w f a aX/\aX.map (·.l)=n.unary/\bm dP 3 a7 w gr e L/\(∀h∈L,fR w n.co h)/\L.map ef=n.d7/\(∀r,li d9 r->B<=r)/\∀h∈L,∀r,rv h r->B<=r
def z9:List x1:=[Δ 0,.slice ν 0 0,Δ 0,.slice ν 0 0,.slice ν 0 0]
def oS(w:x3)(C gt gs go:Nat)(d9 aY:x1)(f:ca)(a:List fF)(I:x3):Prop:=Ext w I/\C<=I.heap.size/\ag I gt dT z9/\an .i64 ae I gs d9 f.co/\bm dP 3 a7 I go aY a/\(∀r,lc aY r->r<C)/\∀h∈a,fR I f.co h
theorem oS.W{V:x3}{C gt go:Nat}{aY:x1}{f:ca}{e:List fF}(h:oS w C gt gs go d9 aY f e I)(a:Ext I V):oS w C gt gs go d9 aY f e V:=by
 obtain⟨h1,z,j,p,q,r,s⟩:=h;have:=a.size;exact⟨h1.F a,Ω,j.W a,p.W a,q.W a,r,λx y=>(s x y).W a⟩
def Q0(w I:x3)(C gt:Nat)(r:Nat):Prop:=w.heap.size<=r/\r≠gt/\((∃c,ag I r dT c)\/(∃c,ag I r au c)\/((∃c,ag I r a7 c)/\C<=r))
theorem oS.aa{V:x3}{C gt go:Nat}{aY:x1}{f:ca}{y:List fF}(h:oS w C gt gs go d9 aY f y I)(p:af S I V)(q:∀r,S r->Q0 w I C gt r):oS w C gt gs go d9 aY f y V:=by
 obtain⟨h1,J,E,z,s,A,F⟩:=h;have:=p.size;have B:∀r,S r->∃e c,ag I r e c/\e≠ae/\e≠ao:=λr j=>by
  obtain⟨_,_,⟨c,a⟩|⟨c,a⟩|⟨⟨c,a⟩,_⟩⟩:=q r j
  .exact⟨_,c,a,Φ,Φ⟩
  .exact⟨_,c,a,Φ,Φ⟩
  .exact⟨_,c,a,Φ,Φ⟩
 refine⟨h1.then p λr j U=>by have:=(q r U).1;omega,Ω,E.aa p λU=>(q _ U).2.1 rfl,bl z p λr j U=>?_,s.aa p λr j U=>?_,A,λx G=>oR (F x G) p λr j=>.inl (B r j)⟩
 .obtain⟨e,c,a,H,_⟩:=B r U;exact ch z a (λhe=>H he.symm) j rfl
 .obtain⟨_,_,⟨c,a⟩|⟨c,a⟩|⟨_,K⟩⟩:=q r U
  .exact cO s a Φ j
  .exact cO s a Φ j
  .have:=A r j;omega
def FJ(w:x3)(C f:Nat)(d9:x1)(k:Int)(n:aG)(j:List fF)(I:x3):Prop:=∃a p aX e gr L,ag I f dT [Δ k,d9,Δ n.zero,a,e]/\iV I p a aX/\aX.map (·.l)=n.unary/\(∀r,lc a r->w.heap.size<=r)/\bm dP 3 a7 I gr e L/\(∀h∈L,h∈j)/\L.map ef=n.d7/\∀r,lc e r->C<=r
theorem FK{bV:Nat}{f:ca}(bX:p3 w bV f)(R:fb N f):ak x7 Ip [Γ bV] w λv I=>Ext w I/\y2 I w.heap.size v (dr f):=by
 have hk:=R.k;have dz:=R.co.2.1;obtain⟨dA,dC,dD,dE,bY,bZ,dF⟩:=id bX;refine ay func15 ?_;refine bu dT.i λgt J dG aV aW=>?_;have aW:=aW;rw[aN ej.p 1 (bY.W aV) rfl,dq (cs:=#[Δ f.k,.slice ν 0 0,Δ 0,.slice ν 0 0,.slice ν 0 0]) Ψ];refine bu dT.i λA V dH b0 cJ=>?_;refine b4 (vs:=[Δ f.k,.slice ν 0 0,Δ 0,.slice ν 0 0,.slice ν 0 0]) dT.i rfl rfl (by intro u K;simp at K;rcases K with rfl|rfl|rfl|rfl<;>rfl) cJ λdI b1 dK cK=>?_;have bx:=(aV.F b0).then b1 λr q he=>by have he:r=A:=he;have:=aV.size;omega
 have dL:=aW.lt;have E:A≠gt:=Ω
 have cL:=(aW.W b0).aa b1 λhe=>by have he:=he;omega
 rw[aN ej.p 2 (bY.W bx) rfl,aS au.u (bZ.W bx).ls];have dM:=aV.size;refine ce.range f.co.length (λi X=>Ext w X/\ag X gt dT z9/\∃d9 gs B H aX,ag X A dT [Δ f.k,d9,Δ 0,B,.slice ν 0 0]/\an .i64 ae X gs d9 (f.co.take i)/\(∀r,li d9 r->w.heap.size<=r)/\iV X H B aX/\aX.map (·.l)=(f.co.take i).map (λz=>u9 z.toNat 0)/\∀r,lc B r->w.heap.size<=r) Ω
  ⟨bx,cL,_,0,_,0,[],cK,an.nil _ _ _ _,(λr q=>by obtain⟨a,n,c,cM,dN⟩:=q;cases cM),⟨bm.nil _ _ _ _ _,λx bz=>(by cases bz)⟩,rfl,λr q=>(gl q).elim⟩ ?_ ?_
 .rintro i X cN hi ⟨Y,bA,d9,gs,B,H,aX,aH,aZ,a1,bB,aI,a2⟩ cP;obtain⟨z,C⟩:=aC (l:=f.co) hi;have dO:=R.co.2.2 z (x5 C);have dQ:aX.length=i:=by have:=congrArg List.length aI;simp only[r9,j6]at this;omega
  refine bt Ω ?_;rw[ba au.u ao.i Ψ (bZ.W Y).ls C,aK dT.p 1 aH rfl];refine dl ai.u ae.i rfl λa5 dR b2 dS al cQ=>?_;have aJ:=aZ.W al;refine gx ai.u ae.i rfl aJ cQ.ls Θ Θ λb3 b5 dU a6 cR b7=>?_;have bE:=aH.W al;have b9:=bA.W al;have cb:=bE.aa b7 λhe=>ch aJ bE Φ he rfl;rw[aT dT.p rfl];refine bw (g:=A) (o:=1) ai.i a6.ls.cells.1 a6.ls.cells.2 cb Ξ λcc cd dV a8=>?_;have a8:=a8;have bF:af (λr=>li d9 r\/r=A) b2 cc:=(b7.X λr _ h=>.inl h).F (cd.X λr _ h=>.inr h);have cS:an .i64 ae cc b5 b3 (f.co.take (i+1)):=by
   rw[u5,C];exact bl a6 cd λr q he=>by
    have he:r=A:=he;subst he;exact ch a6 cb Φ q rfl
  have am:∀r,(li d9 r\/r=A)->∃e c,ag b2 r e c/\e≠ao/\e≠au:=λr q=>by
   rcases q with q|rfl
   .obtain⟨rfl,_⟩:=bD aJ q;obtain⟨_,⟨cT,_⟩|⟨cap,full,_,s,_⟩⟩:=aJ
    .obtain⟨a,n,c,e,_⟩:=q;rw[cT]at e;cases e
    .exact⟨_,_,s,Φ,Φ⟩
   .exact⟨_,_,bE,Φ,Φ⟩
  have cU:=(bB.W al).aa bF am;have z4:=Y.size;have z5:=al.size;have cf:=(Y.F al).then bF λr q he=>by
   rcases he with he|he
   .have:=a1 r he;omega
   .omega
  have cV:=b9.aa bF λU=>by
   rcases U with U|U
   .exact ch aJ b9 Φ U rfl
   .omega
  intro dW cg _ _;have cW:=a8.W cg;rw[aK dT.p 3 cW rfl];obtain⟨bb,rfl⟩:∃n:Nat,z=n:=⟨z.toNat,Ω⟩;refine jy au.u ao.i Ω Ω λci dX dY bG cX=>?_;refine⟨.inl bG,?_⟩;have cY:=an.of (bW.full (n:=bb) cX Ξ (by simp[maxLen];omega));let a:mW:=⟨.slice (σ ⟨ci,0,ν⟩) bb bb,u9 bb 0⟩;refine iS (f:=sY) (a:=a) eP.u au.i Ω rfl rfl λdZ ea bH eb bI cZ=>?_;refine⟨.inl (bG.F bI),?_⟩;have aq:=(cg.F bG).F bI;have aM:=cU.W aq;refine jk (f:=sY) (a:=a) eP.u au.i rfl aM.1 (by simpa using cZ.sl) (λu K=>by rw[b8.1 (show u∈[a.v]from K)];rfl) Ω Ω λbJ bK ec M bL cj=>?_;have aw:∀{r:Nat},lc B r->∃c,ag bH r au c:=λq=>by
   obtain⟨rfl,c,s⟩:=dJ aM.1 q;exact⟨c,s⟩
  have bM:=a8.W aq;have ck:=bM.aa cj λhe=>cO aM.1 bM Φ he;rw[aT dT.p rfl];refine bw eP.i (eK M.sl).1 (eK M.sl).2 ck Ξ λc0 cl ee c1=>?_;rw[aL];have S:af (λr=>lc B r\/r=A) bH c0:=(cj.X λr _ h=>.inl h).F (cl.X λr _ h=>.inr h);have bN:∀r,(lc B r\/r=A)->∃e c,ag bH r e c/\e≠ao/\e≠ae:=λr q=>by
   rcases q with q|rfl
   .obtain⟨c,s⟩:=aw q;exact⟨_,c,s,Φ,Φ⟩
   .exact⟨_,_,bM,Φ,Φ⟩
  have cm:=cS.W aq;have eg:=cf.size;have eh:=aq.size;have cn:=cV.W aq;refine cP _ ⟨(cf.F aq).then S (λr q he=>?_),cn.aa S (λU=>?_),b3,b5,bJ,bK,aX++[a],c1,bl cm S (λr q U=>?_),λr q=>?_,⟨M.aa cl λr q he=>?_,λy O=>?_⟩,?_,λr q=>?_⟩
  .rcases he with he|rfl
   .have:=a2 r he;omega
   .omega
  .rcases U with U|U
   .exact cO aM.1 cn Φ U
   .omega
  .obtain⟨e,c,s,_,E⟩:=bN r U;exact ch cm s (λhe=>E he.symm) q rfl
  .rcases cR r q with h|h
   .exact a1 r h
   .omega
  .have he:r=A:=he;subst he;exact cO M ck Φ q
  .rcases o9.1 O with O|O
   .exact aM.sZ S (λr q=>by obtain⟨e,c,s,E,_⟩:=bN r q;exact⟨e,c,s,E⟩) y O
   .rw[b8.1 O];have cp:=cY.W bI;exact⟨ci,bl cp S λr q U=>by
     obtain⟨e,c,s,E,_⟩:=bN r U;exact ch cp s (λhe=>E he.symm) q rfl⟩
  .rw[n9,aI,u5,C,l7,n9];rfl
  .rcases bL r q with h|h
   .exact a2 r h
   .omega
 rintro X cN ⟨Y,bA,d9,gs,B,H,aX,aH,aZ,a1,bB,aI,a2⟩;refine b6 Ω ?_;rw[p8]at aZ aI;refine(QZ (bX.W Y) R).X ?_;rintro aY bc _ ⟨ax,go,P,M,cq,cr,ei⟩;have ct:P.length=(gj f).length:=by rw[<-cr,r9]
 have ek:P.length<=256:=by
  have h1:=(sP R).2.length_eq;have bd:=(mT R).2.2;have em:=S8 gh (gi f);have en:=R.mO;omega
 have z4:=Y.size;have eo:=ax.size;have ep:=aH.lt;rw[eI c3.u M];refine ce.range P.length (λi aD=>oS w bc.heap.size gt gs go d9 aY f P aD/\FJ w bc.heap.size A d9 f.k (ed f i) P aD) M.le
  ⟨⟨Y.F ax,o5 _,bA.W ax,aZ.W ax,M,λr q=>by have:=M.li q;omega,λh ap=>(cq h ap).1⟩,B,H,aX,_,0,[],aH.W ax,bB.W ax,aI,a2,bm.nil _ _ _ _ _,λx bz=>(by cases bz),rfl,λr q=>(gl q).elim⟩ ?_ ?_
 rotate_left
 .rintro aD c2 ⟨aE,B,H,aX,Z,gr,L,be,bf,ab,aO,aP,aF,ac,aQ⟩;obtain⟨c4,er,cu,bO,es,et,c6⟩:=id aE;have bg:=rl f P.length;rw[ct,vu]at bg;rw[ct,vu]at be ab ac;refine b6 Ω ?_;rw[bC dT.p dT.i rfl (show aD.rangeAt A 0 [Δ f.k,d9,Δ (dr f).zero,B,Z]from be.range)];refine b4 (vs:=[Δ f.k,d9,Δ (dr f).zero,B,Z]) dT.i rfl rfl (λu K=>?_) cu λeu aR ev c7=>?_
  .simp at K;rcases K with rfl|rfl|rfl|rfl|rfl
   .rfl
   .exact bO.ls.cells.2
   .rfl
   .exact (eK bf.1.sl).2
   .exact (eK aP.sl).2
  rw[fA dT.p dT.i rfl c7.range];have am:∀r,r=gt->∃e c,ag aD r e c/\e≠ao/\e≠au/\e≠ae/\e≠a7:=λr q=>by
   subst q;exact⟨_,_,cu,Φ,Φ,Φ,Φ⟩
  refine⟨c4.then aR λr q he=>by have he:r=gt:=he;omega,d9,gs,B,H,aX,Z,gr,L,?_,?_,bf.aa aR (λr q=>?_),ab,aP.aa aR (λr q U=>?_),λh ap=>?_,ac,a1,λh ap r q=>by have:=(cq h (aF h ap)).2 r q;omega⟩
  .rw[bg.1]
  .rw[bg.2.1];refine bl bO aR λr q U=>?_;obtain⟨e,c,s,_,_,E,_⟩:=am r U;exact ch bO s (λhe=>E he.symm) q rfl
  .obtain⟨e,c,s,h1,bd,_⟩:=am r q;exact⟨e,c,s,h1,bd⟩
  .obtain⟨e,c,s,_,_,_,E⟩:=am r U;exact cO aP s (λhe=>E he.symm) q
  .rw[bg.2.1];exact oR (c6 h (aF h ap)) aR λr q=>by
    obtain⟨e,c,s,h1,_,bd,_⟩:=am r q;exact .inl ⟨e,c,s,bd,h1⟩
 rintro i aD c2 hi ⟨aE,B,H,aX,Z,gr,L,be,bf,ab,aO,aP,aF,ac,aQ⟩ c8;obtain⟨y,O⟩:=aC (l:=P) hi;have bh:=x5 O;have cw:(gj f)[i]?=σ (ef y):=by rw[<-cr,x8,O];rfl
 have bP:=vd R _ (x5 cw);have bQ:=yI cw;obtain⟨ey,ez,eA,eB⟩:=rl f i;refine bt Ω ?_;refine dh (λbR=>oS w bc.heap.size gt gs go d9 aY f P bR/\FJ w bc.heap.size A d9 f.k (ed f (i+1)) P bR) ?_ ?_
 .rintro bR h;rw[aL];exact c8 _ h
 intro az bS;rw[c5 rfl c3.u a7.i aE.2.2.2.2.1 hi,bC a7.p a7.i rfl (aE.2.2.2.2.1.range O)];refine bu a7.i λda eC eD db dc=>?_;refine b4 (vs:=dP y) a7.i rfl rfl (aE.2.2.2.2.2.2 y bh).one dc λdd de eE bj=>?_;have bk:=db.put de Ω;have bn:=aE.W bk;have ad:=be.W bk;have bT:=bf.W bk;have bo:=aP.W bk;obtain⟨eF,eH,cz,eL,eM,eN,cA⟩:=id bn;obtain⟨⟨eO,cB⟩,_,df,cC⟩:=cA y bh;rw[aK a7.p 0 bj rfl,aS ai.u cB.ls];have eQ:aX.length=f.co.length:=by have:=congrArg List.length ab;rw[r9]at this;omega
 have eR:L.length<=256:=by have:=congrArg List.length ac;rw[r9]at this;omega
 rw[bi,aj];refine⟨λeS=>?_,λeU=>?_⟩
 .
  have ah:y.sc=[]:=c9 Ω;have G:ed f (i+1)={ed f i with zero:=y.cs.getD 0 0}:=by rw[bQ];unfold kb;simp only[ef,ah]
  have eV:y.cs.length=1:=by have:=bP.len;simpa[ef,ah,aA,aB]using this
  have dg:y.cs[0]?=σ (y.cs.getD 0 0):=by rw[v8,x6 Ω];rfl
  rw[aK a7.p 2 bj rfl,ew (y:=0) (i:=0) rfl au.u ao.i Ψ cC.ls dg,aT dT.p rfl];refine bw ao.i rfl rfl ad Ξ λdi Q dj dk=>?_;refine bS _ ⟨bn.aa Q λr q=>?_,B,H,aX,Z,gr,L,?_,bT.aa Q (λr q=>?_),by rw[G];exact ab,aO,bo.aa Q (λr q U=>?_),aF,by rw[G];exact ac,aQ⟩
  .have q:r=A:=q;subst q;exact⟨Ω,E,.inl ⟨_,ad⟩⟩
  .rw[G];exact dk
  .have q:r=A:=q;subst q;exact⟨_,_,ad,Φ,Φ⟩
  .have U:r=A:=U;subst U;exact cO bo ad Φ q
 rw[bi,aj];refine⟨λh1=>?_,λeW=>?_⟩
 .
  obtain⟨v,ah⟩:∃v,y.sc=[v]:=X3.1 Ω;have eX:=bP.scope.1 v (by show v∈y.sc;rw[ah];exact .head _);have eY:=bP.d6 v (by show v∈y.sc;rw[ah];exact .head _);have G:ed f (i+1)={ed f i with unary:=(ed f i).unary.set v.toNat y.cs}:=by rw[bQ];unfold kb;simp only[ef,ah]
  intro dm W _ _;have bU:=ad.W W;have cD:=bj.W W;have aU:=bT.W W;have dn:=bn.W W;have cE:=bo.W W;rw[aK dT.p 3 bU rfl,aK a7.p 0 cD rfl];refine pD rfl ai.u ae.i (cB.ls.W W) (show y.sc[0]?=σ v by rw[ah];rfl) λb o dp=>?_;rw[av Ψ dp,aK a7.p 2 cD rfl];obtain⟨u,K⟩:=aC (l:=aX) (i:=v.toNat) Ω;rw[c5 (i:=v.toNat) Ω eP.u au.i aU.1 Ω];let a:mW:=⟨y.aY,y.cs⟩;have bp:=cC.W W;refine re (j:=0) (a:=u) (a':=a) au.i bp.ls.cells.1 bp.ls.cells.2 aU.1 K rfl Ω λdi Q dj ds=>?_;have aw:∀{r:Nat},lc B r->∃c,ag dm r au c:=λq=>by
   obtain⟨rfl,c,s⟩:=dJ aU.1 q;exact⟨c,s⟩
  refine bS _ ⟨dn.aa Q λr q=>?_,B,H,aX.set v.toNat a,Z,gr,L,?_,⟨ds,λz C=>?_⟩,?_,aO,cE.aa Q (λr q U=>?_),aF,by rw[G];exact ac,aQ⟩
  .obtain⟨c,s⟩:=aw q;exact⟨aO r q,λhe=>(by subst he;exact m7 (eJ s (cz.W W)) Φ),.inr (.inl ⟨c,s⟩)⟩
  .rw[G];exact bU.aa Q λhe=>cO aU.1 bU Φ he
  .rcases T4 C with C|rfl
   .exact aU.sZ Q (λr q=>by obtain⟨c,s⟩:=aw q;exact⟨_,c,s,Φ⟩) z C
   .exact⟨df,bl bp Q λr q U=>by
     obtain⟨c,s⟩:=aw U;exact ch bp s Φ q rfl⟩
  .rw[G,V5,ab]
  .obtain⟨c,s⟩:=aw U;exact cO cE s Φ q
 .
  have G:ed f (i+1)={ed f i with d7:=(ed f i).d7++[ef y]}:=by
   rw[bQ];unfold kb;have cF:2<=(ef y).1.length:=by show 2<=y.sc.length;omega
   generalize ef y=g at cF ⊢;obtain⟨sc,cs⟩:=g
   match sc,cF with
   |_::_::_,_=>rfl
  rw[aK dT.p 4 ad rfl,bC a7.p a7.i rfl (show dd.rangeAt da 0 (dP y)from bj.range)];refine iS c3.u a7.i Ω rfl rfl λeZ e0 dt e1 aG du=>?_;have bq:=bo.W aG;have dv:=bT.W aG;have br:=ad.W aG;have dw:=bn.W aG;refine jk c3.u a7.i rfl bq (by simpa using du.sl) (cA y bh).one Ω Ω λbJ bK e2 bs bL cG=>?_;have cH:=br.aa cG λhe=>cO bq br Φ he;rw[aT dT.p rfl];refine bw c3.i (eK bs.sl).1 (eK bs.sl).2 cH Ξ λdx cI e3 dy=>?_;have S:af (λr=>lc Z r\/r=A) dt dx:=(cG.X λr _ h=>.inl h).F (cI.X λr _ h=>.inr h);have e4:=aG.size;refine bS _ ⟨dw.aa S λr q=>?_,B,H,aX,bJ,bK,L++[y],?_,dv.aa S (λr q=>?_),by rw[G];exact ab,aO,bs.aa cI (λr q U=>?_),λz C=>?_,?_,λr q=>?_⟩
  .rcases q with q|rfl
   .obtain⟨rfl,c,s⟩:=dJ bq q;have:=aQ _ q;refine⟨Ω,λhe=>?_,.inr (.inr ⟨⟨c,s⟩,this⟩)⟩;subst he;exact m7 (eJ s (cz.W aG)) Φ
   .exact⟨Ω,E,.inl ⟨_,br⟩⟩
  .rw[G];exact dy
  .rcases q with q|rfl
   .obtain⟨rfl,c,s⟩:=dJ bq q;exact⟨_,c,s,Φ,Φ⟩
   .exact⟨_,_,br,Φ,Φ⟩
  .have U:r=A:=U;subst U;exact cO bs cH Φ q
  .rcases o9.1 C with C|C
   .exact aF z C
   .rw[b8.1 C];exact bh
  .rw[G,n9,ac];rfl
  .rcases bL r q with h|h
   .exact aQ r h
   .omega
def ta(w:x3)(S:Nat->Prop)(e:r8):Prop:=∀r,S r->∃c,ag w r e c
theorem y3{a:r8}{k:o4}{g:Nat}(h:an k a w g v l)(f:af S w I)(j:ta w S e)(p:a≠e):an k a I g v l:=bl h f λr q U=>by
 obtain⟨c,s⟩:=j r U
 grind [ch]
theorem FL{α:Type}{f:α->List x1}{k:Nat}{a:r8}{g:Nat}{L:List α}(h:bm f k a w g v L)(j:af S w I)(p:ta w S e)(q:a≠e):bm f k a I g v L:=h.aa j λr s U=>by
 obtain⟨c,x⟩:=p r U
 grind [cO]
theorem y4{a:r8}{r:Nat}{c:List x1}(h:ag w r a c)(f:af S w I)(j:ta w S e)(p:a≠e):ag I r a c:=h.aa f λU=>by
 obtain⟨c,q⟩:=j r U
 grind [eJ]
theorem FM{g:Nat}{c:List x1}(h:ag w g e c):ta w (λr=>r=g) e:=λr a=>by
 have a:r=g:=a;subst a;exact⟨c,h⟩
theorem rx{k:o4}{g:Nat}(h:an k e w g v l):ta w (λr=>li v r) e:=λr f=>by
 have f:=f;obtain⟨rfl,_⟩:=bD h f;obtain⟨_,⟨j,_⟩|⟨cap,full,_,p,_⟩⟩:=h
 .obtain⟨a,n,c,q,_⟩:=f;grind
 grind
def aM(x:br):Λ:=((Z4 x.un.length).map λv:Nat=>(v:Int)).filter λv=>!dropped x.mask v
theorem y5{P:X2}{k:o4}{t:r8}{b:Nat}{K:x1->x3->Prop}(a:P.underlying t=σ (.slice e))(hi:aR P e 1 b z)(f:∀v g I,g=w.heap.size->Ext w I->an k e I g v []->K v I):aD P (Z3 t 0 #[]) w K:=
 lM a hi Ω (cs:=#[]) (by simp[Instr.fill]) λg I h j p=>f _ g I h j (an.of (bW.full (by simpa using p) Ξ (by simp[maxLen])))
theorem Q1{n:aG}(h:y2 w B v n){g:Nat}(j:ag I g dT v.cells.toList):∃d9 gz a f aX e gr L,ag I g dT [Δ n.k,d9,Δ n.zero,a,e]/\an .i64 ae w gz d9 n.co/\iV w f a aX/\aX.map (·.l)=n.unary/\bm dP 3 a7 w gr e L/\(∀h∈L,fR w n.co h)/\L.map ef=n.d7/\(∀r,li d9 r->B<=r)/\∀h∈L,∀r,rv h r->B<=r:=by
 obtain⟨d9,gz,a,f,aX,e,gr,L,rfl,p,q,x,s,y,z⟩:=h;obtain⟨_,_,_,A⟩:=cE p.ls;obtain⟨_,_,_,_,_,C,_⟩:=q.1.sl;obtain⟨_,_,_,_,_,E,_⟩:=s.sl;refine⟨d9,gz,a,f,aX,e,gr,L,?_,p,q,x,s,y,z⟩;rw[A,C,E]at j ⊢;exact j
def z12:List x1:=[Δ 0,.slice ν 0 0,Δ 0,.slice ν 0 0,.slice ν 0 0,.slice ν 0 0,.slice ν 0 0,.slice ν 0 0]
theorem Q2(u:Λ):aM (newVar u)=(Z4 u.length).map λv:Nat=>(v:Int):=by
 unfold aM newVar dropped;rw[List.filter_eq_self.2];intro a _;simp
section
variable{P:X2}{w:x3}{t:r8}{cx cy:Bool}{a b:Nat}{K:x1->Prop}
theorem Q3(f:a<2 ^ 62)(h:b<2 ^ 62):ab P (aQ .or t cx cy (Δ a) (Δ b)) w K=K (Δ ((a ||| b:Nat):Int)):=ab.of λI _=>by
 have e:(U2 64 (a:Int) ||| U2 64 (b:Int)).toNat=a ||| b:=by
  rw[oC,oC,BitVec.toNat_or,BitVec.toNat_ofNat,BitVec.toNat_ofNat,Nat.mod_eq_of_lt Ω,Nat.mod_eq_of_lt Ω]
 have p:a ||| b<2 ^ 62:=Nat.or_lt_two_pow f h;have hw:Y6.wrap ((a ||| b:Nat):Int)=((a ||| b:Nat):Int):=lm Ω Ω;have j:(U2 Y6.bits (a:Int) ||| U2 Y6.bits (b:Int)).toNat=a ||| b:=e;simp only[aQ,eqGuard,binOp,Op.intBits,j,hw];rfl
theorem FN(j:a<2 ^ 62)(f:b<2 ^ 62):ab P (aQ .and t cx cy (Δ a) (Δ b)) w K=K (Δ ((a &&& b:Nat):Int)):=ab.of λI _=>by
 have e:(U2 64 (a:Int) &&& U2 64 (b:Int)).toNat=a &&& b:=by
  rw[oC,oC,BitVec.toNat_and,BitVec.toNat_ofNat,BitVec.toNat_ofNat,Nat.mod_eq_of_lt Ω,Nat.mod_eq_of_lt Ω]
 have p:a &&& b<2 ^ 62:=Nat.and_lt_two_pow _ f;have hw:Y6.wrap ((a &&& b:Nat):Int)=((a &&& b:Nat):Int):=lm Ω Ω;have h:(U2 Y6.bits (a:Int) &&& U2 Y6.bits (b:Int)).toNat=a &&& b:=e;simp only[aQ,eqGuard,binOp,Op.intBits,h,hw];rfl
theorem Q4{k:o4}{n:Nat}(a:n<62):ab P (aQ .shl t cx cy (Δ 1) (.int k (n:Int))) w K=K (Δ ((2 ^ n:Nat):Int)):=by
 rw[BV Ω];have e:min ((n:Int).toNat) Y6.bits=n:=Nat.min_eq_left (by show n<=64;omega);have f:2 ^ n<2 ^ 62:=Nat.pow_lt_pow_right Ω a;rw[e,Int.one_mul,show((2:Int) ^ n)=((2 ^ n:Nat):Int) by simp];generalize 2 ^ n=q at f ⊢;rw[lm Ω Ω]
end
theorem Q5(a n:Nat):(a / 2 ^ n &&& 1=1)↔a.testBit n=rs:=by
 rw[Nat.and_one_is_mod,Nat.testBit_eq_decide_div_mod_eq,rc]
theorem y6{b n:Nat}{v:Int}(q:mJ b n):ak x7 IX [j3 b n,Δ v] w λr I=>r= .bool (decide (0<=v/\v<n)&&b.testBit v.toNat)/\Ext w I:=by
 refine ay func81 ?_;refine bj λg J A e f=>?_;refine aV (λr V=>r= .bool (decide (0<=v/\v<n)&&b.testBit v.toNat)/\Ext w V) (λ_ _ h=>h) λaz j=>?_;rw[bC b3.p b3.i rfl f.range];refine CX.X ?_;rintro _ B _ ⟨rfl,a⟩;rw[aj];refine⟨λh=>?_,λh=>j _ _ ⟨by rw[pl h];rfl,e.F a⟩⟩;obtain⟨x,C⟩:=q;obtain⟨s,rfl⟩:∃s:Nat,v=s:=⟨v.toNat,Ω⟩;have y:=f.W a;have E:(2:Nat) ^ n<=2 ^ 32:=T3 Ω x;have z:b / 2 ^ s<2 ^ 64:=Nat.lt_of_le_of_lt (Nat.div_le_self _ _) Ω;rw[aK b3.p 0 y rfl,mI Ω,show(1:Int)=((1:Nat):Int)from rfl,u64_and z Ω,bi];refine j _ _ ⟨?_,e.F a⟩;congr 1;rw[ms h,W7,U5,rc,u7,<-Q5];omega
theorem Q6(m v:Nat):dropped (m:Int) (v:Int)=m.testBit v:=by unfold dropped;rw[u7,u7]
def be(w:x3)(ac ad:Nat)(A R:ah)(n:aG)(s:al)(t:aw):Prop:=StateM w ac ad A R n s t/\t.bP=s.cells/\mX t/\a6 n.k n.co s/\kI n
theorem be.W{A R:ah}{n:aG}{s:al}{t:aw}(h:be w ac ad A R n s t)(a:Ext w I):be I ac ad A R n s t:=⟨h.1.W a,h.2⟩
theorem StateM.parts{A R:ah}{n:aG}{s:al}{t:aw}(h:StateM w ac ad A R n s t):∃a e f j aU p L q,ag w ac bV [Γ a,Γ ad,e,f,j]/\gv w a n/\dB w ad q t/\an .i64 ae w aU e (iW s)/\bm mZ 3 cT w p f L/\lr R w L s:=by
 obtain⟨a,e,f,j,_,aU,p,ge,L,E,q,w0,r,⟨x,y,G⟩,⟨z,H,I,J⟩,B,⟨C,F⟩,K,M⟩:=h;exact⟨a,e,f,j,aU,p,L,q,r,x.W y,z,B,C,F⟩
theorem ry{s:al}{i:Nat}(h:i<s.d6.length):(iW s)[i]?=σ (gL s i:Int):=by
 unfold iW;rw[x8,List.getElem?_range h];rfl
theorem p4{s:al}{t:aw}(a:t.bP=s.cells)(U:mX t):s.cells.length<=100000000:=by
 rw[<-a];unfold aw.bP;rw[r9];exact U.1
theorem tb{s:al}{i:Nat}{x:br}(h:s.d6[i]?=σ x):gL s i+x.un.length+2<=s.cells.length:=by
 have h1:=rn h (j:=x.un.length+1) Ω;have a:(iA x)[x.un.length+1]? ≠ν:=by
  rw[Ne,List.getElem?_eq_none_iff];show¬(x.un.length+1+1<=x.un.length+1);omega
 rw[<-h1]at a;have:=(x4.1 (Option.ne_none_iff_exists'.1 a).choose_spec).1;omega
theorem y7{s:al}{f:bF}(h:s.d7[j]?=σ f):e4 s j+f.cs.length+1<=s.cells.length:=by
 have h1:=yK h (j:=f.cs.length) Ω;have a:(fQ f)[f.cs.length]? ≠ν:=by
  rw[Ne,List.getElem?_eq_none_iff];show¬(f.cs.length+1<=f.cs.length);omega
 rw[<-h1]at a;have:=(x4.1 (Option.ne_none_iff_exists'.1 a).choose_spec).1;omega
section
variable{w:x3}{ac ad:Nat}{A R:ah}{n:aG}{s:al}{t:aw}
theorem FO(h:be w ac ad A R n s t):ak x7 JP [Γ ac] w λv I=>(∃a,v=Γ a/\gv I a n)/\Ext w I:=by
 obtain⟨a,j,q,r,aU,x,L,y,e,f,z,B,C,E⟩:=h.1.parts;refine ay func155 ?_;rw[cV dx.u];simp only[l9,aW];rw[aN bV.p 0 e rfl];exact⟨⟨a,rfl,f⟩,Ext.refl _⟩
theorem vE(h:be w ac ad A R n s t):ak x7 IU [Γ ac] w λv I=>v=Δ (n.co.length:Int)/\Ext w I:=by
 refine ay func77 ?_;refine(FO h).X ?_;rintro _ J _ ⟨⟨j,rfl,a⟩,e⟩;refine(yM a).X ?_;rintro _ V _ ⟨rfl,f⟩;exact⟨rfl,e.F f⟩
theorem kM(h:be w ac ad A R n s t):ak x7 BA [Γ ac] w λv I=>v=Δ n.k/\Ext w I:=by
 refine ay func110 ?_;refine(FO h).X ?_;rintro _ J _ ⟨⟨j,rfl,a⟩,e⟩;refine(Qi a).X ?_;rintro _ V _ ⟨rfl,f⟩;exact⟨rfl,e.F f⟩
theorem tc{i:Int}(h:be w ac ad A R n s t):ak x7 Jh [Γ ac,Δ i] w λv I=>v= .bool (decide (0<=i/\i<n.co.length))/\Ext w I:=by
 refine ay func105 ?_;refine aV (λv J=>v= .bool (decide (0<=i/\i<n.co.length))/\Ext w J) (λ_ _ h=>h) λaz a=>?_;rw[cJ,aj];refine⟨λe=>?_,λe=>a _ _ ⟨by rw[pl Ω],Ext.refl _⟩⟩;refine(vE h).X ?_;rintro _ J _ ⟨rfl,f⟩;rw[aP];refine a _ _ ⟨?_,f⟩;congr 1;exact decide_eq_decide.2 ⟨λh=>⟨e,h⟩,λh=>h.2⟩
theorem rz(h:be w ac ad A R n s t):ak x7 Iq [Γ ac] w λv I=>v=Δ s.zero/\Ext w I:=by
 obtain⟨j,q,r,x,aU,y,L,z,a,B,e,C,E,G⟩:=h.1.parts;refine ay func17 ?_;rw[cV dx.u];simp only[l9,aW];rw[aN bV.p 1 a rfl];refine(oM e rfl (show t.bP[0]?=σ s.zero by rw[h.2.1];exact Qd s)).X ?_;rintro _ J _ ⟨rfl,f⟩;exact⟨rfl,f⟩
theorem td(h:be w ac ad A R n s t):ak x7 Ji [Γ ac] w λv I=>v=Δ (s.d7.length:Int)/\Ext w I:=by
 obtain⟨j,q,r,x,aU,y,L,z,a,B,C,E,e,f⟩:=h.1.parts;refine ay func106 ?_;rw[cV dx.u];simp only[l9,aW];rw[aN bV.p 3 a rfl,eI eQ.u e];exact⟨by rw[f.1],Ext.refl _⟩
def cG(s:al)(i:Nat):Bool:=match s.d6[i]? with
 |some x=>decide (x.gone≠0)
 |none=>sp
theorem oT{i:Int}(h:be w ac ad A R n s t):ak x7 Ix [Γ ac,Δ i] w λv I=>v= .bool (decide (0<=i)&&cG s i.toNat)/\Ext w I:=by
 refine ay func31 ?_;refine aV (λv J=>v= .bool (decide (0<=i)&&cG s i.toNat)/\Ext w J) (λ_ _ h=>h) λaz e=>?_;intro V f _ _;refine(tc (h.W f)).X ?_;rintro _ K _ ⟨rfl,r⟩;have a:=f.F r;have M:=h.2.2.2.1.d6;rw[aj];refine⟨λz=>?_,λN=>e _ _ ⟨?_,a⟩⟩
 .obtain⟨O,P,Q,S,aU,U,L,W,j,X,B,C,Y,Z⟩:=(h.W a).1.parts;obtain⟨x,q⟩:=aC (l:=s.d6) (i:=i.toNat) Ω;rw[aN bV.p 1 j rfl,aN bV.p 2 j rfl,ew (y:=i) (i:=i.toNat) Ω ai.u ae.i Ψ C.ls (ry Ω)];have E:t.bP[gL s i.toNat+0]?=σ x.gone:=by rw[h.2.1,rn q Ω];rfl
  refine(oM B rfl E).X ?_;rintro _ aa _ ⟨rfl,G⟩;rw[bz];refine e _ _ ⟨?_,a.F G⟩;rw[ms z.1,W7];unfold cG;rw[q]
 .by_cases H:0<=i
  .unfold cG;rw[Y0 Ω,Bool.and_false]
  .rw[pl H];rfl
def eL(n:aG)(i v:Int):Prop:=0<=i/\i<n.co.length/\0<=v/\v<n.co.getD i.toNat 0
instance (n:aG) (i v:Int):Decidable (eL n i v):=inferInstanceAs (Decidable (_/\_))
theorem eL.var{i v:Int}(h:eL n i v)(a:a6 n.k n.co s):∃x,s.d6[i.toNat]?=σ x/\v.toNat<x.un.length/\x.un.length<=32/\n.co.getD i.toNat 0=x.un.length:=by
 obtain⟨h1,p,q,j⟩:=h;have r:=a.d6;obtain⟨x,f⟩:=aC (l:=s.d6) (i:=i.toNat) Ω;obtain⟨z,e⟩:=aC (l:=n.co) (i:=i.toNat) Ω;have w:=a.cF.2.2 z (x5 e);have y:=(a.var i.toNat x z f e).1;rw[v8,e,R3]at j ⊢;exact⟨x,f,Ω,Ω,Ω⟩
theorem y8{i v:Int}(h:be w ac ad A R n s t):ak x7 Jn [Γ ac,Δ i,Δ v] w λr I=>r=Δ (if eL n i v then((gL s i.toNat+2+v.toNat:Nat):Int)else-1)/\Ext w I:=by
 have ab:=h.2.2.2.1.d6;refine ay func116 ?_;refine aV (λr J=>r= .bool (decide (¬eL n i v))/\Ext w J) ?_ ?_
 .rintro _ J ⟨rfl,q⟩;rw[aj];refine⟨λG=>⟨by rw[m6 G],q⟩,λf=>?_⟩;have f:=Z2.1 f;obtain⟨x,H,af,ag,_⟩:=f.var h.2.2.2.1;obtain⟨K,M,N,O,aU,P,L,Q,a,B,S,C,U,W⟩:=(h.W q).1.parts;have E:=tb H;have ah:=p4 h.2.1 h.2.2.1;obtain⟨h1,al,am,an⟩:=id f;rw[aN bV.p 2 a rfl,ew (y:=i) (i:=i.toNat) Ω ai.u ae.i Ψ C.ls (ry Ω),aL,lm Ω Ω,aL,lm Ω Ω,m5 f];refine⟨?_,q⟩;congr 1;omega
 .intro az z;refine(tc h).X ?_;rintro _ V _ ⟨rfl,j⟩;rw[bA,bM];refine⟨λa=>?_,λa=>?_⟩
  .have a:¬(0<=i/\i<n.co.length):=λX=>by rw[ms X]at a;cases a
   exact z _ _ ⟨by rw[ms];exact λe=>a ⟨e.1,e.2.1⟩,j⟩
  have a:0<=i/\i<n.co.length:=by simpa using a
  rw[aP,aj];refine⟨λY=>z _ _ ⟨by rw[ms];exact λe=>by have:=e.2.2.1;omega,j⟩,λY=>?_⟩;obtain⟨K,M,N,O,aU,P,L,Q,Z,B,S,C,U,W⟩:=(h.W j).1.parts;rw[aN bV.p 0 Z rfl];refine(vw B h.2.2.2.2).X ?_;rintro _ ao _ ⟨aa,rfl⟩;rw[m5 a.1,cJ];refine z _ _ ⟨?_,j.F aa⟩;congr 1;refine decide_eq_decide.2 ⟨λh e=>?_,λh=>?_⟩
  .have:=e.2.2.2;omega
  .refine Int.not_lt.1 λE=>h ⟨a.1,a.2,Ω,E⟩
def fG(s:al)(i v:Nat):Int:=match s.d6[i]? with
 |some x=>x.un.getD v 0
 |none=>0
theorem l2{i v:Int}(h:be w ac ad A R n s t):ak x7 IF [Γ ac,Δ i,Δ v] w λr I=>r=(if eL n i v then .tuple #[Δ (fG s i.toNat v.toNat),Δ 0]else .tuple #[Δ 0,Δ 1])/\Ext w I:=by
 refine ay func46 ?_;rw[cV dx.u];simp only[l9,aW];refine(y8 h).X ?_;rintro _ J _ ⟨rfl,e⟩;by_cases a:eL n i v
 .rw[m5 a,m5 a];refine b6 Ω ?_;obtain⟨x,f,j,C,_⟩:=a.var h.2.2.2.1;obtain⟨E,G,H,K,aU,M,L,N,q,O,y,P,Q,S⟩:=(h.W e).1.parts;rw[aN bV.p 1 q rfl];have z:t.bP[gL s i.toNat+2+v.toNat]?=σ (x.un.getD v.toNat 0):=by
   rw[h.2.1,Nat.add_assoc,rn f Ω,show 2+v.toNat=v.toNat+1+1 by omega];show x.un[v.toNat]?=_;rw[v8,x6 j];rfl
  refine(oM y rfl z).X ?_;rintro _ V _ ⟨rfl,B⟩;refine⟨?_,e.F B⟩;unfold fG;rw[f]
 .rw[m6 a,m6 a,aP,aj];exact⟨λ_=>⟨rfl,e⟩,λh=>Ω⟩
def eA(s:al)(j:Nat):Bool:=match s.d7[j]? with
 |some f=>decide (f.live≠0)
 |none=>sp
theorem p5{j:Int}(h:be w ac ad A R n s t):ak x7 Jc [Γ ac,Δ j] w λv I=>v= .bool (decide (0<=j)&&eA s j.toNat)/\Ext w I:=by
 refine ay func100 ?_;refine aV (λv J=>v= .bool (decide (0<=j)&&eA s j.toNat)/\Ext w J) (λ_ _ h=>h) λaz a=>?_;intro V e _ _;rw[cJ,aj];refine⟨λq=>?_,λq=>a _ _ ⟨by rw[pl q];rfl,e⟩⟩;refine(td (h.W e)).X ?_;rintro _ O _ ⟨rfl,G⟩;have r:=e.F G;rw[aP,aj];refine⟨λP=>?_,λQ=>a _ _ ⟨?_,r⟩⟩
 .obtain⟨S,U,W,X,aU,Y,L,Z,B,aa,H,ab,C,x⟩:=(h.W r).1.parts;obtain⟨f,z⟩:=aC (l:=s.d7) (i:=j.toNat) Ω;obtain⟨y,E⟩:∃y,L[j.toNat]?=σ y:=⟨_,x6 (by rw[x.1];omega)⟩;obtain⟨_,_,K⟩:=x.2 j.toNat y f E z;rw[aN bV.p 1 B rfl,aN bV.p 3 B rfl,c5 (i:=j.toNat) Ω eQ.u cT.i C (by rw[x.1];omega),aT cT.p rfl,av Ψ (C.range E 2 _ rfl)];have M:t.bP[e4 s j.toNat+0]?=σ f.live:=by rw[h.2.1,yK z Ω];rfl
  refine(oM (i:=e4 s j.toNat) H (by rw[K]) M).X ?_;rintro _ ae _ ⟨rfl,N⟩;rw[bz];refine a _ _ ⟨?_,r.F N⟩;rw[ms q,W7];unfold eA;rw[z]
 .unfold eA;rw[Y0 Ω,Bool.and_false]
end
def vF(s:al)(n:aG)(i:Int)(b m:Nat):Prop:=mJ b m/\(¬(0<=i/\i<n.co.length)->b=0/\m=0)/\∀x,0<=i->s.d6[i.toNat]?=σ x->m=x.un.length/\∀j:Nat,b.testBit j=(decide (j<x.un.length)&& !dropped x.mask (j:Int))
section
variable{w:x3}{ac ad:Nat}{A R:ah}{n:aG}{s:al}{t:aw}
theorem kN{i:Int}(h:be w ac ad A R n s t):ak x7 IW [Γ ac,Δ i] w λv I=>(∃b m,v=j3 b m/\vF s n i b m)/\Ext w I:=by
 have bf:=h.2.2.2.1.d6;refine ay func80 ?_;refine bu b3.i λr J bg af N=>?_;have N:=N;refine(tc (h.W af)).X ?_;rintro _ V _ ⟨rfl,ah⟩;have O:=N.W ah;have P:=af.F ah;rw[bA,bM];refine⟨λC=>?_,λC=>?_⟩
 .have C:¬(0<=i/\i<n.co.length):=by grind
  rw[dq (cs:=#[.int .u64 0,Δ 0]) Ψ];refine b4 (vs:=[.int .u64 0,Δ 0]) b3.i rfl rfl (by intro u a;simp at a;rcases a with rfl|rfl<;>rfl) O λbh aB bj aD=>?_;rw[fA b3.p b3.i rfl aD.range];refine⟨⟨0,0,rfl,⟨Ω,Ξ⟩,Ω,λx aE bk=>?_⟩,P.put aB Ω⟩
  grind
 have C:0<=i/\i<n.co.length:=by grind
 obtain⟨x,Q⟩:=aC (l:=s.d6) (i:=i.toNat) Ω;obtain⟨z,S⟩:=aC (l:=n.co) (i:=i.toNat) Ω;have aF:=h.2.2.2.1.cF.2.2 z (x5 S);obtain⟨bl,_,bm,bp⟩:=h.2.2.2.1.var i.toNat x z Q S;obtain⟨aG,aH,aI,aJ,aU,aK,L,aM,E,al,_⟩:=(h.W P).1.parts;rw[aN bV.p 0 E rfl];refine(vw al h.2.2.2.2).X ?_;rintro _ bq _ ⟨U,rfl⟩;rw[m5 C.1,v8,S,R3];refine Mz.X ?_;rintro _ br _ ⟨W,rfl⟩;rw[m5 aF];obtain⟨m,rfl⟩:∃m:Nat,z=m:=⟨z.toNat,Ω⟩;rw[bn,bo,u7];have am:=(P.F U).F W;refine bu b3.i λe bs bw an aO=>?_;refine b4 (vs:=[.int .u64 ((2 ^ m-1:Nat):Int),Δ (m:Int)]) b3.i rfl rfl (by intro u a;simp at a;rcases a with rfl|rfl<;>rfl) aO λaP ao bx aQ=>?_;have z5:=am.size;have ap:=(am.F an).put ao Ω;have bz:=(((O.W U).W W)).lt;have aR:ag aP r b3 [.int .u64 0,Δ 0]:=(((O.W U).W W).W an).aa ao Ω;intro bB X _ _;have aq:=ap.F X;obtain⟨aG,aH,aI,aJ,aU,aK,L,aM,E,al,aS,aT,_⟩:=(h.W aq).1.parts;have bD:=tb Q;have bE:=p4 h.2.1 h.2.2.1;rw[aN bV.p 1 E rfl,aN bV.p 2 E rfl,ew (y:=i) (i:=i.toNat) Ω ai.u ae.i Ψ aT.ls (ry Ω),aL,lm Ω Ω];have aV:t.bP[gL s i.toNat+1]?=σ x.mask:=by rw[h.2.1,rn Q Ω];rfl
 refine(oM aS Ω aV).X ?_;rintro _ aW _ ⟨rfl,Y⟩;have au:=(aQ.W X).W Y;have aX:=(aR.W X).W Y;obtain⟨mk,aY⟩:∃mk:Nat,x.mask=mk:=⟨x.mask.toNat,Ω⟩;rw[bC b3.p b3.i rfl (show aW.rangeAt e 0 [.int .u64 ((2 ^ m-1:Nat):Int),Δ (m:Int)]from au.range)];refine(uK).X ?_;rintro _ bF _ ⟨rfl,Z⟩;have aZ:=aq.F Y;have a1:r≠e:=Ω
 have bG:=ap.size;have bH:w.heap.size<=e:=Ω
 have bI:w.heap.size<=r:=Ω
 refine ce.range m (λq f=>Ext w f/\ag f r b3 [.int .u64 0,Δ 0]/\∃b:Nat,ag f e b3 [.int .u64 (b:Int),Δ (m:Int)]/\mJ b m/\∀j:Nat,b.testBit j=(decide (j<m)&& !(decide (j<q)&&mk.testBit j))) Ω
  ⟨aZ.F Z,aX.W Z,_,au.W Z,⟨Ω,by have:=Nat.two_pow_pos m;omega⟩,by grind⟩ ?_ ?_
 .rintro q f a2 bJ ⟨G,H,b,B,K,av⟩ bK;refine bt Ω ?_;refine dh (λM=>Ext w M/\ag M r b3 [.int .u64 0,Δ 0]/\∃b:Nat,ag M e b3 [.int .u64 (b:Int),Δ (m:Int)]/\mJ b m/\∀j:Nat,b.testBit j=(decide (j<m)&& !(decide (j<q+1)&&mk.testBit j))) ?_ ?_
  .rintro M bL;rw[aL]
   grind
  intro az aw;have a6:mk / 2 ^ q<2 ^ 62:=Nat.lt_of_le_of_lt (Nat.div_le_self _ _) Ω;rw[aY,DU Ω,show(1:Int)=((1:Nat):Int)from rfl,FN a6 Ω,bi,aj];have a7:(((mk / 2 ^ q &&& 1:Nat):Int)=((1:Nat):Int))↔mk.testBit q=rs:=by grind
  refine⟨λax=>?_,λa8=>?_⟩
  .have ax:=a7.1 ax;rw[bC b3.p b3.i rfl (show f.rangeAt e 0 [.int .u64 (b:Int),Δ (m:Int)]from B.range)];refine(MB K).X ?_;rintro _ bN _ ⟨rfl,ab⟩;rw[m5 ⟨Ω,Ω⟩,u7];refine b4 (vs:=[.int .u64 ((ld b (2 ^ q):Nat):Int),Δ (m:Int)]) b3.i rfl rfl (by intro u a;simp at a;rcases a with rfl|rfl<;>rfl) (B.W ab) λbO aA bQ ba=>?_;have bb:∀j:Nat,(ld b (2 ^ q)).testBit j=(decide (j<m)&& !(decide (j<q+1)&&mk.testBit j)):=λj=>by
    rw[CP,av,Nat.testBit_two_pow]
    grind
   refine aw _ ⟨(G.F ab).then aA Ω,(H.W ab).aa aA λhe=>a1 he,_,ba,⟨Ω,Mr (by grind)⟩,bb⟩
  .have a8:mk.testBit q=sp:=by grind
   refine aw _ ⟨G,H,b,B,K,λj=>?_⟩
   grind
 .rintro f a2 ⟨G,H,b,B,K,av⟩;refine b6 Ω ?_;rw[bC b3.p b3.i rfl (show f.rangeAt e 0 [.int .u64 (b:Int),Δ (m:Int)]from B.range)];refine b4 (vs:=[.int .u64 (b:Int),Δ (m:Int)]) b3.i rfl rfl (by intro u a;simp at a;rcases a with rfl|rfl<;>rfl) H λbR bc bS bd=>?_;rw[fA b3.p b3.i rfl bd.range];refine⟨⟨b,m,rfl,K,Ω,λy aE bT=>?_⟩,G.put bc Ω⟩
  grind [Q6]
theorem y9{f:bF}(e:a6 k co s)(j:f∈s.d7):bU f.szs/\f.cs.length=(aB f.szs).toNat/\aB f.szs<=4096:=by
 obtain⟨a,U,_⟩:=e.d7 f j;rw[U];refine⟨⟨?_,jl e.cF.2.2 λv h=>⟨(a.scope.1 v h).1,a.d6 v h⟩⟩,a.len,a.small⟩;have:=a.scope.2
 grind [aA]
def iF(s:al)(j:Nat)(tl:Λ):Option Nat:=match s.d7[j]? with
 |some f=>if f.live≠0 then(cc f.szs tl 0).map λm=>e4 s j+1+m.toNat else ν
 |none=>ν
def jL(s:al)(j:Nat)(tl:Λ):Int:=match s.d7[j]? with
 |some f=>bd f.szs f.cs tl
 |none=>0
theorem FP(h:be w ac ad A R n s t)(N:aF .i64 w aO tl):ak x7 Kj [Γ ac,Δ (j:Int),aO] w λv I=>v=Δ (match iF s j tl with|some p=>(p:Int)|none=>-1)/\Ext w I:=by
 refine ay func201 ?_;refine(p5 h).X ?_;rintro _ J _ ⟨rfl,z⟩;rw[ms Ω,W7,u7,bA,bM];refine⟨λG=>⟨?_,z⟩,λG=>?_⟩
 .grind [eA,iF]
 have G:eA s j=rs:=by grind
 obtain⟨f,e,O⟩:∃f,s.d7[j]?=σ f/\f.live≠0:=by
  grind [eA]
 obtain⟨H,ag,ah⟩:=y9 h.2.2.2.1 (x5 e);obtain⟨P,Q,S,U,aU,K,L,W,B,X,Y,Z,r,x⟩:=(h.W z).1.parts;obtain⟨y,a⟩:∃y,L[j]?=σ y:=⟨_,x6 (by rw[x.1];grind)⟩;have C:=(x4.1 a).1;obtain⟨_,aa,M⟩:=x.2 j y f a e;have ab:J.rangeAt K (j*3+1) [y.d9]:=λq v E=>by
  match q,E with
  |0,E=>cases E;exact r.range a 1 _ rfl
 rw[aN bV.p 3 B rfl,c5 rfl eQ.u cT.i r C,aT cT.p rfl,bC (cs:=[y.d9]) bq.p bq.i rfl ab];refine(Ch aa.ls (N.W z) H).X ?_;rintro _ V _ ⟨rfl,ae⟩;have af:=z.F ae;unfold mE iF;rw[e];simp only[m5 O];cases hi:cc f.szs tl 0 with
 |none=>
  simp only[Option.map_none];rw[bn,bo,bz,aj];exact⟨by grind,λh=>m7 Ω h⟩
 |some m=>
  simp only[Z0];rw[bn,bo,bz,aj];refine⟨Ω,λ_=>?_⟩;have ai:=ky H.2 hi;have al:=y7 e;have am:=p4 h.2.1 h.2.2.1;obtain⟨P,Q,S,U,aU,K,L,W,B,X,Y,Z,r,x⟩:=(h.W af).1.parts;obtain⟨y,a⟩:∃y,L[j]?=σ y:=⟨_,x6 (by rw[x.1];grind)⟩;have C:=(x4.1 a).1;obtain⟨_,_,M⟩:=x.2 j y f a e;rw[aN bV.p 3 B rfl,c5 rfl eQ.u cT.i r C,aT cT.p rfl,av Ψ (r.range a 2 _ rfl),M,aL,lm Ω Ω,aL,lm Ω Ω]
  grind
theorem za{p:Nat}(e:a6 k co s)(h:iF s j tl=σ p):s.cells[p]?=σ (jL s j tl)/\∃f,s.d7[j]?=σ f/\f.live≠0/\∃m:Nat,cc f.szs tl 0=σ (m:Int)/\m<f.cs.length/\p=e4 s j+(m+1):=by
 unfold iF at h;cases a:s.d7[j]? with
 |none=>grind
 |some f=>
  rw[a]at h;simp only at h;split at h
  .rename_i r;obtain⟨m,hm,rfl⟩:=Z6.1 h;obtain⟨w,x,y⟩:=y9 e (x5 a);have z:=ky w.2 hm;obtain⟨q,rfl⟩:∃q:Nat,m=q:=⟨m.toNat,Ω⟩;refine⟨?_,f,rfl,r,q,hm,Ω,Ω⟩;rw[show e4 s j+1+(q:Int).toNat=e4 s j+(q+1) by omega,yK a Ω];unfold jL bd;rw[a];simp only[hm];show f.cs[q]?=_
   grind
  .cases h
theorem rA(h:be w ac ad A R n s t)(e:aF .i64 w aO tl):ak x7 Je [Γ ac,Δ (j:Int),aO] w λv I=>v=(if(iF s j tl).isSome then .tuple #[Δ (jL s j tl),Δ 0]else .tuple #[Δ 0,Δ 1])/\Ext w I:=by
 refine ay func102 ?_;rw[cV dx.u];simp only[l9,aW];refine(FP h e).X ?_;rintro _ J _ ⟨rfl,a⟩;cases f:iF s j tl with
 |none=>
  simp only;rw[aP,aj];exact⟨by grind,λh=>Ω⟩
 |some p=>
  simp only;refine b6 Ω ?_;obtain⟨y,z,B,C,aU,E,L,G,q,H,r,K,M,N⟩:=(h.W a).1.parts;rw[aN bV.p 1 q rfl];refine(oM r rfl (by rw[h.2.1];exact(za h.2.2.2.1 f).1)).X ?_;rintro _ V _ ⟨rfl,x⟩;exact⟨rfl,a.F x⟩
end
theorem eU.parts{a:Nat}{e f q:x1}{A R:ah}{n:aG}{s:al}{t:aw}(h:eU w ac ad a e f q A R n s t):∃aU j L p,ag w ac bV [Γ a,Γ ad,e,f,q]/\gv w a n/\dB w ad p t/\an .i64 ae w aU e (iW s)/\bm mZ 3 cT w j f L/\lr R w L s:=by
 obtain⟨_,aU,j,ge,L,E,p,w0,r,⟨x,y,G⟩,⟨z,H,I,J⟩,B,⟨C,F⟩,K,M⟩:=h;exact⟨aU,j,L,p,r,x.W y,z,B,C,F⟩
theorem vG{a b:Int}(e:0<=a/\a<=k)(f:0<=b/\b<=k)(hk:1<=k/\k<=2147483648):ak x7 xa [Δ a,Δ b,Δ k] w λv I=>v= .tuple #[Δ (min (a+b) k),Δ 0]/\Ext w I:=by
 refine Dq.X ?_;rintro _ J _ ⟨rfl,h⟩;refine⟨?_,h⟩;unfold sB;rw[m5 ⟨⟨hk,e.1,e.2⟩,hk,f.1,f.2⟩]
theorem Q7{s:al}{p:Nat}(a:a6 k co s)(h:iF s j tl=σ p):0<=jL s j tl/\jL s j tl<=k:=by
 obtain⟨_,f,e,_,m,hm,q,_⟩:=za a h;obtain⟨r,_,_⟩:=a.d7 f (x5 e);unfold jL bd;rw[e];simp only[hm];rw[u7,v8,x6 q,R3];exact r.fP _ (T0 q)
theorem Q8{A R:ah}{n:aG}{s:al}{t:aw}{bp:x1}(h:be w ac ad A R n s t)(af:aF .i64 w bp a):ak x7 IA [Γ ac,bp] w λv I=>((e5 s a->v= .tuple #[Δ (dL n.k s a),Δ 0])/\(¬e5 s a->v= .tuple #[Δ 0,Δ 3]))/\Ext w I:=by
 have O:=h.2.2.2.1;have c2:=O.d6;have hk:=O.dy;refine ay func35 ?_;rw[cV dx.u];simp only[l9,aW];rw[aS ai.u af];refine(vE h).X ?_;rintro _ J _ ⟨rfl,aO⟩;rw[bz,aj];refine⟨λc3=>⟨⟨λX=>m7 X.1 Ω,λ_=>by trivial⟩,aO⟩,λc4=>?_⟩;have b0:a.length=s.d6.length:=Ω
 refine(rz (h.W aO)).X ?_;rintro _ V _ ⟨rfl,b1⟩;have bk:=aO.F b1;rw[aS ai.u (af.W bk)];obtain⟨C,av⟩:∃C,C=s.d6.zip a:=⟨_,rfl⟩;have c6:C.length=a.length:=by rw[av,List.length_zip];omega
 refine qB.range a.length (λi t4 t5 K ax P=>Ext w P/\∃B:Int,K=Δ B/\B=(C.take i).foldl (jm n.k) s.zero/\(0<=B/\B<=n.k)/\ax= .bool ((C.take i).all dK)/\∀p<i,∀x v,s.d6[p]?=σ x->a[p]?=σ v->x.gone≠0\/(0<=v/\v<x.un.length)) af.le
  ⟨bk,s.zero,rfl,rfl,O.zero,rfl,λp M=>Ω⟩ ?_ ?_
 .rintro i t4 t5 _ _ P b2 hi ⟨H,B,rfl,aA,aB,rfl,aQ⟩ b3;obtain⟨x,Q⟩:=aC (l:=s.d6) (i:=i) Ω;obtain⟨v,S⟩:=aC (l:=a) hi;obtain⟨z,aR⟩:=aC (l:=n.co) (i:=i) Ω;have c8:=O.cF.2.2 z (x5 aR);obtain⟨c9,b5,_⟩:=O.var i x z Q aR;have b7:C[i]?=σ (x,v):=by rw[av,U9];exact⟨Q,S⟩
  have bl:C.take (i+1)=C.take i++[(x,v)]:=by rw[u5,b7];rfl
  have ag:(C.take (i+1)).foldl (jm n.k) s.zero=jm n.k B (x,v):=by rw[bl,List.foldl_append,<-aA];rfl
  have aT:(C.take (i+1)).all dK=((C.take i).all dK&&dK (x,v)):=by rw[bl,List.all_append];simp
  have bm:(x.gone≠0\/(0<=v/\v<x.un.length))->∀p<i+1,∀x v,s.d6[p]?=σ x->a[p]?=σ v->x.gone≠0\/(0<=v/\v<x.un.length):=λap p M y u Y G=>by
   by_cases b8:p=i
   .subst b8;rw[Q]at Y;rw[S]at G;cases Y;cases G;exact ap
   .exact aQ p Ω y u Y G
  refine bt Ω ?_;refine xC (λt4 t5 K ax P=>Ext w P/\∃B:Int,K=Δ B/\B=(C.take (i+1)).foldl (jm n.k) s.zero/\(0<=B/\B<=n.k)/\ax= .bool ((C.take (i+1)).all dK)/\∀p<i+1,∀x v,s.d6[p]?=σ x->a[p]?=σ v->x.gone≠0\/(0<=v/\v<x.un.length)) ?_ ?_
  .rintro t4 t5 K ax da aX;rw[aL];exact b3 _ _ _ _ _ aX
  intro az am;rw[ba ai.u ae.i Ψ (af.W H) S];refine(oT (i:=(i:Int)) (h.W H)).X ?_;rintro _ db _ ⟨rfl,bq⟩;have b9:cG s i=decide (x.gone≠0):=by unfold cG;rw[Q]
  rw[ms Ω,W7,u7,b9,aj];refine⟨λaY=>am _ _ _ _ _ ⟨H.F bq,B,rfl,?_,aB,?_,bm (.inl aY)⟩,λaZ=>?_⟩
  .rw[ag];unfold jm;rw[m5 aY]
  .rw[aT];unfold dK;rw[ms aY,Bool.true_or,Bool.and_true]
  have br:=H.F bq;refine(l2 (i:=(i:Int)) (v:=v) (h.W br)).X ?_;rintro _ dc _ ⟨rfl,ca⟩;have aD:=br.F ca;have bs:n.co.getD (i:Int).toNat 0=z:=by rw[u7,v8,aR];rfl
  by_cases aE:eL n (i:Int) v
  .have bw:=id aE;unfold eL at bw;rw[bs]at bw;rw[m5 aE,bn,bo,bz,aj];refine⟨λh=>m7 rfl h,λ_=>?_⟩;have cb:fG s (i:Int).toNat v.toNat=x.un.getD v.toNat 0:=by unfold fG;rw[u7,Q]
   have cc:0<=x.un.getD v.toNat 0/\x.un.getD v.toNat 0<=n.k:=by
    rw[v8,x6 (show v.toNat<x.un.length by omega),R3];exact b5 _ (T0 _)
   rw[cb];refine aV (λbK bx=>Ext w bx/\bK= .bool ((C.take (i+1)).all dK)) ?_ ?_
   .rintro _ bx ⟨bB,rfl⟩;refine(kM (h.W bB)).X ?_;rintro _ dd _ ⟨rfl,cd⟩;refine(vG aB cc hk).X ?_;rintro _ de _ ⟨rfl,cf⟩;rw[bn,bo];refine am _ _ _ _ _ ⟨(bB.F cd).F cf,_,rfl,?_,⟨Ω,Ω⟩,rfl,bm (.inr ⟨Ω,Ω⟩)⟩;rw[ag];unfold jm;rw[m6 aZ]
   .intro df bD;rw[bM];have cg:dK (x,v)= !dropped x.mask v:=by unfold dK;rw[pl aZ,Bool.false_or]
    refine⟨λch=>?_,λN=>bD _ _ ⟨aD,by rw[aT,N];rfl⟩⟩;refine(kN (i:=(i:Int)) (h.W aD)).X ?_;rintro _ dg _ ⟨⟨b,m,rfl,ci,_,cj⟩,ck⟩;refine(y6 ci).X ?_;rintro _ dh _ ⟨rfl,cl⟩;refine bD _ _ ⟨(aD.F ck).F cl,?_⟩;obtain⟨hm,cm⟩:=cj x Ω (by rw[u7];exact Q);rw[aT,ch,cg,W7,ms (show 0<=v/\v<(m:Int) by omega),W7,cm,ms Ω,W7];congr 2
  .rw[m6 aE,bn,bo,bz,aj];refine⟨λ_=>⟨⟨λX=>?_,λ_=>by trivial⟩,aD⟩,λh=>m7 (show(1:Int)≠0 by decide) h⟩;rcases X.2 i x v Q S with a1|a1
   .exact m7 a1 aZ
   .exact m7 ⟨Ω,Ω,a1.1,by rw[bs];omega⟩ aE
 rintro t4 t5 _ _ P b2 ⟨H,B,rfl,aA,aB,rfl,aQ⟩;have X:e5 s a:=⟨b0,λi x v a2 S=>aQ i (x4.1 S).1 x v a2 S⟩;rw[o7 Ω]at aA;rw[o7 Ω];refine b6 Ω ?_;rw[bA,bM];refine⟨λU=>?_,λU=>?_⟩
 .have U:C.all dK=sp:=by simpa using U
  refine(kM (h.W H)).X ?_;rintro _ di _ ⟨rfl,cn⟩;refine⟨⟨λ_=>?_,λa6=>m7 X a6⟩,H.F cn⟩;unfold dL;rw[<-av,U];rfl
 have U:C.all dK=rs:=by simpa using U
 have cp:dL n.k s a=s.d7.foldl (il n.k a) B:=by
  unfold dL;rw[<-av,U,m5 rfl,<-aA]
 obtain⟨⟨dj,dk,dl,dm,cq⟩,dn⟩:=id h;have a7:∀{I:x3},Ext w I->be I ac ad A R n s t:=λa2=>h.W a2;obtain⟨aU,dp,L,dq,cr,dr,ds,dt,a8,bE⟩:=(cq.W H).parts;rw[aN bV.p 3 cr rfl,eI eQ.u a8];have du:=bE.1;refine bT.range L.length (λj K ao=>Ext P ao/\∃E:Int,K=Δ E/\E=(s.d7.take j).foldl (il n.k a) B/\0<=E/\E<=n.k) a8.le
  ⟨Ext.refl _,B,rfl,rfl,aB⟩ ?_ ?_
 rotate_left
 .rintro _ ao ct ⟨W,E,rfl,aH,_⟩;rw[o7 Ω]at aH;rw[aP,aj];refine⟨λh=>Ω,λ_=>⟨⟨λ_=>by rw[cp,aH],λa6=>m7 X a6⟩,H.F W⟩⟩
 rintro j _ ao ct bF ⟨W,E,rfl,aH,bG⟩ cu;obtain⟨y,Y⟩:=aC (l:=L) bF;obtain⟨f,N⟩:=aC (l:=s.d7) (i:=j) Ω;have cw:lr R ao L s:=bE.aa (W.aa λ_=>False) λ_ _ _ h=>h;obtain⟨aI,bb,dv⟩:=cw.2 j y f Y N;have aI:=aI.ls;have bb:=bb.ls;obtain⟨bc,dw,dz⟩:=O.d7 f (x5 N);have dA:f.sc.length<=6:=bc.scope.2;have ag:(s.d7.take (j+1)).foldl (il n.k a) B=il n.k a E f:=by
  rw[u5,N,l7,List.foldl_append,<-aH];rfl
 have cz:=H.F W;have bH:=a8.W W;refine bt Ω ?_;refine aV (λK bI=>Ext P bI/\∃E:Int,K=Δ E/\E=(s.d7.take (j+1)).foldl (il n.k a) B/\0<=E/\E<=n.k) ?_ ?_
 .rintro K bI aX;rw[aL];exact cu _ _ aX
 intro az am;rw[c5 rfl eQ.u cT.i bH bF,bC cT.p cT.i rfl (bH.range Y)];refine bu cT.i λdC dD dE cA cB=>?_;refine b4 (vs:=mZ y) cT.i rfl rfl (λu G=>?_) cB λcC cD dF cE=>?_
 .simp[mZ]at G;rcases G with rfl|rfl|rfl
  .exact aI.cells.2
  .exact bb.cells.2
  .rfl
 have bJ:Ext ao cC:=cA.put cD Ω;have bL:=cz.F bJ;refine(p5 (j:=(j:Int)) (a7 bL)).X ?_;rintro _ cH _ ⟨rfl,bf⟩;have bN:=bL.F bf;have bg:=bJ.F bf;have cI:eA s j=decide (f.live≠0):=by unfold eA;rw[N]
 rw[ms Ω,W7,u7,cI,aj];refine⟨λbO=>?_,λcJ=>am _ _ ⟨W.F bg,E,rfl,by rw[ag];unfold il;rw[m6 cJ],bG⟩⟩;have bP:=cE.W bf;have bh:=aI.W bg;rw[aK cT.p 0 bP rfl,aS ai.u bh];refine jy (k:=.i64) ai.u ae.i Ω Ω λaq cK dG bi cL=>?_;have cM:an .i64 ae cK aq (.slice (σ ⟨aq,0,ν⟩) f.sc.length f.sc.length) (u9 f.sc.length 0):=an.of (bW.full (k:=1) (n:=f.sc.length) cL Ξ (by simp[maxLen];omega));rw[aK cT.p 0 (bP.W bi) rfl,aS ai.u (bh.W bi)];have dH:(ee a f.sc).length=f.sc.length:=by unfold ee;rw[r9]
 refine ce.range f.sc.length (λq aJ=>Ext cH aJ/\an .i64 ae aJ aq (.slice (σ ⟨aq,0,ν⟩) f.sc.length f.sc.length) ((ee a f.sc).take q++(u9 f.sc.length (0:Int)).drop q)) Ω
  ⟨bi,by simpa using cM⟩ ?_ ?_
 .rintro q aJ cN bQ ⟨Z,au⟩ cO;obtain⟨u,G⟩:=aC (l:=f.sc) bQ;have dI:=bc.d6 u (x5 G);have dJ:=bc.scope.1 u (x5 G);have cP:a[u.toNat]?=σ (a.getD u.toNat 0):=by rw[v8,x6 Ω];rfl
  have cQ:(ee a f.sc)[q]?=σ (a.getD u.toNat 0):=by unfold ee;rw[x8,G];rfl
  refine bt Ω ?_;rw[ba ai.u ae.i Ψ (bh.W Z) G,ew (y:=u) (i:=u.toNat) Ω ai.u ae.i Ψ (af.W (bN.F Z)) cP,gb rfl ai.u ae.i au (by rw[p9,j6,List.length_drop,List.length_replicate];omega)];refine gd ae.i au (by rw[p9,j6,List.length_drop,List.length_replicate];omega) λdM cR dN bR=>?_;rw[aL];refine cO _ ⟨Z.then cR λr dO he=>by have he:r=aq:=he;omega,?_⟩;rw[vD (by rw[List.length_replicate];exact bQ) cQ]at bR;exact bR
 rintro aJ cN ⟨Z,au⟩;rw[List.drop_of_length_le Ξ,V2,o7 Ω]at au;refine b6 Ω ?_;have bS:=bN.F Z;refine(rA (j:=j) (a7 bS) au.ls).X ?_;rintro _ bj _ ⟨rfl,bU⟩;have cS:il n.k a E f=min (E+jL s j (ee a f.sc)) n.k:=by
  unfold il jL;rw[m5 bO,N]
 have bX:∀c e:Int,(0<=c/\c<=n.k)->c=jL s j (ee a f.sc)->(ab x7 (c7 (.tuple #[Δ c,Δ e]) 0) bj λcU=>
   ab x7 (c7 (.tuple #[Δ c,Δ e]) 1) bj λdP=>
   ak x7 BA [Γ ac] bj λcW bY=>
   ak x7 xa [Δ E,cU,cW] bY λbZ aM=>
   ab x7 (c7 bZ 0) aM λcX=>
   ab x7 (c7 bZ 1) aM λdQ=>
   az cX aM):=λc e cY cZ=>by
  rw[bn,bo];refine(kM (a7 (bS.F bU))).X ?_;rintro _ bY _ ⟨rfl,c0⟩;refine(vG bG cY hk).X ?_;rintro _ aM _ ⟨rfl,c1⟩;rw[bn,bo];refine am _ _ ⟨((((W.F bg).F Z).F bU).F c0).F c1,_,rfl,by rw[ag,cS,cZ],Ω,Ω⟩
 cases M:iF s j (ee a f.sc)with
 |some p=>exact bX _ _ (Q7 O M) rfl
 |none=>
  refine bX 0 1 ⟨Ω,Ω⟩ ?_;unfold iF at M;rw[N]at M;simp only[m5 bO]at M;have M:=Option.map_eq_none_iff.1 M;unfold jL bd;rw[N];simp only[M]
def Room(t:aw):Prop:=t.marks=[]\/t.olds.length<100000000
def eD(s:al)(i v:Nat):al:=match s.d6[i]? with
 |some x=>{s with d6:=s.d6.set i {x with mask:=((x.mask.toNat ||| 2 ^ v:Nat):Int)}}
 |none=>s
def kO(s:al)(j:Nat):al:=match s.d7[j]? with
 |some f=>{s with d7:=s.d7.set j {f with live:=0}}
 |none=>s
theorem a6.te{s:al}{i:Nat}{x y:br}(h:a6 k co s)(e:s.d6[i]?=σ x)(r:y.un.length=x.un.length)(w:∀c∈y.un,0<=c/\c<=k)(hm:0<=y.mask/\y.mask<4294967296):a6 k co {s with d6:=s.d6.set i y}:=
 ⟨h.dy,h.cF,h.zero,by grind [a6.d6],λp z q a f=>by
  have a:(s.d6.set i y)[p]?=σ z:=a;rw[Y8]at a;by_cases j:i=p
  .subst j;rw[m5 rfl,m5 (x4.1 e).1]at a;cases a;exact⟨r.F (h.var i x q e f).1,w,hm⟩
  .rw[m6 j]at a;exact h.var p z q a f,h.d7⟩
theorem a6.zb{s:al}{f g:bF}(h:a6 k co s)(e:s.d7[j]?=σ f)(h1:g.sc=f.sc)(q:g.szs=f.szs)(r:g.cs.length=f.cs.length)(p:∀c∈g.cs,0<=c/\c<=k):a6 k co {s with d7:=s.d7.set j g}:=
 ⟨h.dy,h.cF,h.zero,h.d6,h.var,λx a=>by
  rcases T4 a with a|rfl
  .exact h.d7 x a
  .obtain⟨⟨w,y,z,A,B,C⟩,E,F⟩:=h.d7 f (x5 e);refine⟨⟨?_,?_,?_,?_,?_,p⟩,?_,?_⟩
   .grind
   all_goals grind⟩
theorem zc{r:Nat}{c:List x1}(a:ag w r e c)(he:¬(e=fz\/e=eH\/e=k7\/e=fN\/e=bV\/e=cT\/e=b2)):¬dv w r:=by
 rintro (⟨h,j,p,q⟩|f)
 .grind [eJ]
 .exact f _ a rfl
theorem oU{k:o4}{g:Nat}(h:an k e w g v l)(a:af (dv w) w I)(he:¬(e=fz\/e=eH\/e=k7\/e=fN\/e=bV\/e=cT\/e=b2)):an k e I g v l:=bl h a λr f=>by
 obtain⟨c,j⟩:=rx h r f
 grind [zc]
section
variable{w:x3}{ac ad:Nat}{A R:ah}{n:aG}{s:al}{t:aw}
theorem mX.set(h:mX t)(a:Room t)(p:Nat)(x:Int):mX (t.set p x):=by
 refine⟨by rw[aw.Fc];exact h.1,?_,by rw[aw.yP];exact h.2.2⟩;rcases a with a|a
 .rw[aw.yR a];exact h.2.1
 grind [aw.yQ]
theorem vH{s':al}{p:Nat}{x:Int}(h:be w ac ad A R n s t)(f:y=(p:Int))(S:p<s.cells.length)(j:s.cells.set p x=s'.cells)(U:n0 s s')(q:a6 n.k n.co s')(z:Room t):
  ak x7 Bv [Γ ad,Δ y,Δ x] w λr I=>r=Δ 0/\af (dv w) w I/\∃aJ,Grow A w aJ I/\be I ac ad aJ R n s' (t.set p x):=by
 obtain⟨B,C,e,_,E⟩:=id h;obtain⟨G,H,K⟩:=B.s7;have L:p<t.cells.length:=by grind [aw.bP]
 refine(s5 H.min f L e).X ?_;rintro _ J _ ⟨rfl,M,a,N⟩;obtain⟨aJ,O,P⟩:=K (λr=>G r\/M r) J _ ⟨a.1.X λr _ h=>h.1,λr Q=>Q.elim .inl λh=>(a.2.1 r h).imp (λh=>h.1) id,by grind⟩ (N.X (by grind));exact⟨rfl,a.1.X λr _ h=>.inl h.2,aJ,O,P.same U,by rw[aw.qU,C,j],e.set z p x,q,E⟩
theorem zd{i v:Int}(h:be w ac ad A R n s t)(K:Room t):ak x7 JW [Γ ac,Δ i,Δ v] w λr I=>(¬eL n i v->r=Δ 1/\Ext w I)/\
  (eL n i v->r=Δ 0/\af (dv w) w I/\∃aJ x,Grow A w aJ I/\be I ac ad aJ R n (eD s i.toNat v.toNat) (t.set (gL s i.toNat+1) x)):=by
 refine ay func165 ?_;rw[cV dx.u];simp only[l9,aW];refine(y8 h).X ?_;rintro _ J _ ⟨rfl,B⟩;by_cases e:eL n i v
 rotate_left
 .rw[m6 e,aP,aj];exact⟨by grind,λh=>Ω⟩
 rw[m5 e];refine b6 Ω ?_;obtain⟨x,a,M,ag,ah⟩:=e.var h.2.2.2.1;obtain⟨h1,al,am,an⟩:=id e;have ao:=h.2.2.2.1.d6;obtain⟨z,N⟩:=aC (l:=n.co) (i:=i.toNat) Ω;obtain⟨_,O,ap,aq⟩:=h.2.2.2.1.var i.toNat x z a N;have au:=tb a;have av:=p4 h.2.1 h.2.2.1;obtain⟨aw,ax,az,aA,P⟩:=(h.W B).1;obtain⟨aU,aB,L,aD,C,aE,Q,S,aF,aG⟩:=P.parts;rw[aN bV.p 2 C rfl,ew (y:=i) (i:=i.toNat) Ω ai.u ae.i Ψ S.ls (ry Ω),aL,lm Ω Ω];intro V f _ _;have U:=B.F f;have E:=C.W f;have W:=Q.W f;obtain⟨q,rfl⟩:∃q:Nat,v=q:=⟨v.toNat,Ω⟩;obtain⟨mk,X⟩:∃mk:Nat,x.mask=mk:=⟨x.mask.toNat,Ω⟩;rw[u7]at M;rw[aN bV.p 1 E rfl,aN bV.p 1 E rfl,Q4 Ω];have Y:t.bP[gL s i.toNat+1]?=σ x.mask:=by rw[h.2.1,rn a Ω];rfl
 refine(oM (i:=gL s i.toNat+1) W Ω Y).X ?_;rintro _ aH _ ⟨rfl,G⟩;refine⟨.inl G,?_⟩;have aI:(2:Nat) ^ q<=2 ^ 31:=T3 Ω Ω;rw[X,Q3 Ω Ω];have j:=U.F G;have aK:mk ||| 2 ^ q<2 ^ 32:=Nat.or_lt_two_pow Ω Ω;have H:eD s i.toNat (q:Int).toNat={s with d6:=s.d6.set i.toNat {x with mask:=((mk ||| 2 ^ q:Nat):Int)}}:=by
  grind [eD,u7]
 refine(vH (p:=gL s i.toNat+1) (s':=eD s i.toNat (q:Int).toNat) (h.W j) Ω Ω ?_ ?_ ?_ K).X ?_
 .rw[H,yL a Ω];rfl
 .grind [s8]
 .rw[H];exact h.2.2.2.1.te a rfl O (by grind)
 rintro _ aM _ ⟨rfl,Z,aJ,aa,ab⟩;exact⟨by grind,λ_=>⟨rfl,gM j Z,aJ,_,(Grow.W j).F aa,ab⟩⟩
theorem Q9{j:Int}(h:be w ac ad A R n s t)(K:Room t):ak x7 I6 [Γ ac,Δ j] w λr I=>(¬(0<=j/\eA s j.toNat=rs)->r=Δ 1/\Ext w I)/\
  ((0<=j/\eA s j.toNat=rs)->r=Δ 0/\af (dv w) w I/\∃aJ p,Grow A w aJ I/\be I ac ad aJ R n (kO s j.toNat) (t.set p 0)):=by
 refine ay func94 ?_;rw[cV dx.u];simp only[l9,aW];refine(p5 h).X ?_;rintro _ J _ ⟨rfl,C⟩;rw[bA,bM];refine⟨λe=>⟨λ_=>⟨by trivial,C⟩,λap=>?_⟩,λe=>?_⟩
 .rw[ms ap.1,ap.2]at e;cases e
 have e:0<=j/\eA s j.toNat=rs:=by simpa using e
 obtain⟨X,q⟩:=id e;obtain⟨f,a,Y⟩:∃f,s.d7[j.toNat]?=σ f/\f.live≠0:=by
  unfold eA at q;cases a:s.d7[j.toNat]? with
  |none=>rw[a]at q;cases q
  |some f=>rw[a]at q;exact⟨f,rfl,by simpa using q⟩
 intro V M _ _;have x:=C.F M;obtain⟨Z,aa,ab,ae,N⟩:=(h.W x).1;obtain⟨aU,ag,L,ah,E,ai,aj,al,G,H⟩:=N.parts;obtain⟨y,z⟩:∃y,L[j.toNat]?=σ y:=⟨_,x6 (by rw[H.1];exact(x4.1 a).1)⟩;have O:=(x4.1 z).1;obtain⟨_,_,P⟩:=H.2 j.toNat y f z a;have am:=y7 a;rw[aN bV.p 1 E rfl,aN bV.p 3 E rfl,c5 (i:=j.toNat) Ω eQ.u cT.i G O,aT cT.p rfl,av (v:=Δ (y.at_:Int)) Ψ (G.range z 2 _ rfl)];have B:kO s j.toNat={s with d7:=s.d7.set j.toNat {f with live:=0}}:=by
  unfold kO;rw[a]
 obtain⟨Q,_⟩:=h.2.2.2.1.d7 f (x5 a);refine(vH (p:=e4 s j.toNat+0) (s':=kO s j.toNat) (h.W x) (by rw[P];rfl) Ω ?_ ?_ ?_ K).X ?_
 .rw[B,E7 a Ω];rfl
 .rw[B];exact yO a rfl rfl rfl
 .rw[B];exact h.2.2.2.1.zb a rfl rfl rfl Q.fP
 rintro _ an _ ⟨rfl,S,aJ,U,W⟩;exact⟨λh=>m7 e h,λ_=>⟨rfl,gM x S,aJ,_,(Grow.W x).F U,W⟩⟩
end
theorem rB{bK:x1}{v:Int}(h:aF .i64 w bK l):ak x7 ID [bK,Δ v] w λr I=>r= .bool (decide (v∈l))/\Ext w I:=by
 refine ay func41 ?_;rw[aS ai.u h];refine bT.range l.length (λi _ J=>Ext w J/\v∉l.take i) h.le ⟨Ext.refl _,Ξ⟩ ?_ ?_
 .rintro i _ J k hi ⟨a,e⟩ hk;obtain⟨x,f⟩:=aC (l:=l) hi;refine bt Ω ?_;rw[ba ai.u ae.i Ψ (h.W a) f,bi,aj];refine⟨λhe=>⟨by rw[ms];rw[<-he];exact x5 f,a⟩,λj=>?_⟩;rw[aL];refine hk _ _ ⟨a,λhm=>?_⟩;rw[u5,f,l7,o9,b8]at hm;rcases hm with hm|hm
  .exact e hm
  .exact j hm.symm
 .rintro _ J k ⟨a,e⟩;rw[p8]at e;rw[aP,aj];exact⟨λh=>Ω,λ_=>⟨by rw[pl e],a⟩⟩
theorem FQ:∀{s t:Λ}{m k v:Int},s.length=t.length->cc (s++[k]) (t++[v]) m=(cc s t m).bind λr=>if 0<=v/\v<k then σ (r*k+v)else ν
 |[],[],m,k,v,_=>by simp[cc]
 |x::s,y::t,m,k,v,h=>by
  have h:s.length=t.length:=by simpa using h
  rw[List.cons_append,List.cons_append];simp only[cc];split
  .exact FQ h
  .rfl
theorem ze{x:br}{v:Int}(h:0<=v/\v<x.un.length):v∈aM x↔dropped x.mask v=sp:=by
 unfold aM;rw[T2,o8];constructor
 .rintro⟨_,a⟩;simpa using a
 .intro a;exact⟨⟨v.toNat,T1.2 Ω,Ω⟩,by simp[a]⟩
def cw(s:al):Prop:=∀f∈s.d7,f.live≠0->∀v∈f.sc,∀x,s.d6[v.toNat]?=σ x->x.gone=0
theorem gv.put{g x:Nat}{c:List x1}{n:aG}(h:gv w x n)(a:ag w g aZ c)(f:af (λr=>r=g) w I):gv I x n:=by
 have p:=FM a;have y:∀r,r=g->∃e c,ag w r e c/\e≠iM/\e≠cp/\e≠ae/\e≠ao/\e≠au:=λr j=>by
  subst j;exact⟨_,c,a,Φ,Φ,Φ,Φ,Φ⟩
 obtain⟨z,A,B,C,gr,aX,L,nm,d9,gz,fv2,h1,E,F,G,H,J,K⟩:=h;refine⟨z,A,B,C,gr,aX,L,nm,d9,gz,fv2,y4 h1 f p Φ,y4 E f p Φ,y3 F f p Φ,G.aa f λr j=>?_,H,J.aa f λr j=>?_,K⟩
 .obtain⟨e,c,a,_,_,_,q,s⟩:=y r j;exact⟨e,c,a,q,s⟩
 .obtain⟨e,c,a,q,s,M,N,_⟩:=y r j;exact⟨e,c,a,q,s,M,N⟩
theorem StateM.put{g:Nat}{A R:ah}{n:aG}{s:al}{t:aw}{c:List x1}(h:StateM w ac ad A R n s t)(y:ag w g aZ c)(p:af (λr=>r=g) w I)(S:¬A g):∃R',(∀r,R' r->R r/\r≠g)/\StateM I ac ad A R' n s t:=by
 obtain⟨V,W,X,Y,⟨h1,Z,ab,ae⟩,aU,ai,ge,L,E,aj,w0,ak,⟨K,C,am⟩,⟨an,M,ao,ap⟩,aq,⟨au,N⟩,av,O⟩:=h;obtain⟨cB,P⟩:=EZ;have z:=p.size;have q:=FM y;have B:∀r,(w0.heap.setIfInBounds g cB)[r]?=if g=r then(if g<w0.heap.size then σ cB else ν)else w0.heap[r]?:=λr=>Array.getElem?_setIfInBounds;have ax:∀r,A r->r≠g:=λr a he=>S (he▸a);have int:∀{v:x1}{l:Λ},kd R w v l->kd (λr=>R r/\r≠g) I v l:=λ⟨⟨ay,hm⟩,az⟩=>⟨⟨ay,y3 hm p q Φ⟩,λr a=>⟨az r a,ch hm y Φ a⟩⟩;refine⟨λr=>R r/\r≠g,λr h=>h,V,W,X,Y,⟨h1,λr a aA=>Z r a aA.1,λr a=>by have:=ab r a.1;omega,λr a=>by have:=ae r a;omega⟩,aU,ai,ge,L,E,aj,{w0 with heap:=w0.heap.setIfInBounds g cB},y4 ak p q Φ,⟨?_,?_,?_⟩,
  ⟨an.aa p λr a=>ax r (M r a),M,ao,ap⟩,y3 aq p q Φ,⟨FL au p q Φ,N.1,λj x f F aB=>?_⟩,FL av p q Φ,O.1,λj x e F he=>?_⟩
 .by_cases U:∃o,w0.heap[g]?=σ o/\fI o=rs
  .obtain⟨o,Q,aC⟩:=U;have aD:ag w0 g aZ c:=by
    unfold ag at y ⊢;have:=C.a8 g o Q aC;rw[y]at this;rw[Q,this]
   refine K.put aD ⟨Ξ,λr o a U aE=>?_⟩;show(w0.heap.setIfInBounds g cB)[r]?=σ o;rw[B,m6 λhe=>aE he.symm];exact a
  .refine K.W ⟨Ξ,λr o a aF=>?_⟩;show(w0.heap.setIfInBounds g cB)[r]?=σ o;rw[B,m6 λhe=>U ⟨o,by rw[he];exact a,aF⟩];exact a
 .refine⟨by show(w0.heap.setIfInBounds g cB).size<=_;rw[Array.size_setIfInBounds];exact Y1 C.size z,λr o a U=>?_⟩;have a:(w0.heap.setIfInBounds g cB)[r]?=σ o:=a;rw[B]at a;by_cases he:g=r
  .rw[m5 he]at a;split at a
   .cases a;rw[P]at U;cases U
   .cases a
  .rw[m6 he]at a;exact p.a8 r o (C.a8 r o a U) U λh=>he h.symm
 .intro r o a U;have a:(w0.heap.setIfInBounds g cB)[r]?=σ o:=a;rw[B]at a;by_cases he:g=r
  .rw[m5 he]at a;split at a
   .cases a;rw[P]at U;cases U
   .cases a
  .rw[m6 he]at a;exact⟨am r o a U,λh=>he h.symm⟩
 .obtain⟨G,H,J⟩:=N.2 j x f F aB;exact⟨int G,int H,J⟩
 .obtain⟨G,H,J⟩:=O.2 j x e F he;exact⟨G,int H,int J⟩
theorem Ra{f:ca}(p:a.length<=60000)(h:ie a=σ f):∃N,N<=60000/\fb N f/\f.name≠[]/\∀b∈f.name,b7 b=rs:=by
 unfold ie at h;rw[m6 Ω]at h;cases e:jB ⟨(lex a).1,0,sp,[]⟩with
 |none=>rw[e]at h;cases h
 |some q=>
  obtain⟨r,s⟩:=q;rw[e]at h;simp only at h;split at h
  .rename_i ap;cases h;obtain⟨h1,j⟩:=Dl rfl e ap.2.2;have w:=si a.length a (o5 _);obtain⟨J,V,_⟩:=uC a.length a (o5 _) f.name j;exact⟨_,by show(lex a).1.length<=60000;omega,h1,J,V⟩
  .cases h
theorem Rb:ak x7 Bj [.pointer ν] w λv I=>v= .pointer ν/\Ext w I:=by
 refine ay func14 ?_;rw[cV ov.u];simp only[Option.isNone_none,bZ];exact⟨by trivial,Ext.refl _⟩
theorem Rc(h:aF .u8 w v l)(B:l.length<=100000):ak x7 Jl [v] w λf I=>Ext w I/\∃g,an .u8 cP I g f l:=by
 have e:=h;obtain⟨C,b,o,base,cap,rfl,E,hm,q,s⟩:=h;refine ay func114 ?_;rw[uv cS.u,bM];refine⟨λx=>⟨Ext.refl _,0,?_⟩,λ_=>?_⟩
 .have:l=[]:=by
   cases base with
   |none=>
        by_cases e:0<l.length
        .have:=q e;cases this
        .exact c9 Ω
   |some a=>cases x
  subst this;exact an.nil _ _ _ _
 .refine y5 (k:=.u8) cS.u cP.i λG g1 J H j p=>?_;refine gx cS.u cP.i rfl p (e.W j) Θ Θ λf y V z K A=>?_;exact⟨j.then A (λr s he=>by have:=(bD p he).1;omega),y,by simpa using z⟩
def Re(sv:x1):Prop:=∃cs:List x1,sv= .agg cs.toArray/\cs.length=8/\∀u∈cs,u.oneCell'=rs
theorem FR:Re (.agg z12.toArray):=⟨z12,rfl,rfl,by intro u a;simp[z12]at a;rcases a with rfl|rfl|rfl|rfl<;>rfl⟩
theorem zf{f:ca}(a:fb N f):(dr f).d7.length<=256:=by
 have h1:=(sP a).2.length_eq;have h:=(mT a).2.2;have j:=S8 gh (gi f);have p:=a.mO;have e:=(rl f (gj f).length).2.2.2;rw[vu]at e;omega
theorem Rf{n:aG}{t:aw}(e:kI n)(f:n.d7.length<=256)(h:t.bP=(dt n).cells)(a:Plain t):mX t:=by
 have h1:=vB e f n.unary.length n.d7.length;rw[yT,<-h]at h1;unfold aw.bP at h1;rw[r9]at h1;refine⟨Ω,?_,?_⟩
 .rw[a.2.1];exact X8 _
 .rw[a.1];exact X8 _
def vI(n:aG)(s:al)(l:Λ)(i:Nat):Prop:=∃v,l[i]?=σ v/\0<=v/\v<n.co.length/\cG s v.toNat=sp/\(0<i->l.getD (i-1) 0<v)
def p6(n:aG)(s:al)(l:Λ):Prop:=∀i,i<l.length->vI n s l i
section
variable{w:x3}{ac ad:Nat}{A R:ah}{n:aG}{s:al}{t:aw}
theorem FS{bK:x1}(h:be w ac ad A R n s t)(f:aF .i64 w bK l):ak x7 KV [Γ ac,bK] w λv I=>(∃b,v= .bool b/\(b=rs↔p6 n s l))/\Ext w I:=by
 refine ay func259 ?_;rw[aS ai.u f];refine bT.range l.length (λi _ J=>Ext w J/\∀q,q<i->vI n s l q) f.le ⟨Ext.refl _,λq O=>Ω⟩ ?_ ?_
 .rintro i _ J P hi ⟨j,G⟩ Q;obtain⟨x,r⟩:=aC (l:=l) hi;refine bt Ω ?_;rw[ba ai.u ae.i Ψ (f.W j) r];have K:∀{p:Prop},(¬(0<=x/\x<n.co.length/\cG s x.toNat=sp/\(0<i->l.getD (i-1) 0<x)))->vI n s l i->p:=λS ⟨v,z,e⟩=>by
   rw[r]at z;cases z;exact m7 e S
  refine aV (λv V=>∃b,v= .bool b/\(b=sp↔vI n s l i)/\Ext w V) ?_ ?_
  .rintro _ V ⟨b,rfl,a,L⟩;rw[bM];refine⟨λW=>⟨⟨sp,rfl,⟨(λh=>by cases h),λh=>?_⟩⟩,L⟩,λX=>?_⟩
   .have:=a.2 (h i hi);rw[W]at this;cases this
   .rw[aL];refine Q _ _ ⟨L,λq O=>?_⟩;by_cases Y:q=i
    .rw[Y];exact a.1 X
    .exact G q Ω
  intro az C;refine(tc (h.W j)).X ?_;rintro _ ag _ ⟨rfl,Z⟩;have H:=j.F Z;rw[bA,bM];refine⟨λa=>C _ _ ⟨rs,rfl,⟨(λh=>by cases h),λh=>?_⟩,H⟩,λa=>?_⟩
  .exact K (λe=>by rw[ms ⟨e.1,e.2.1⟩]at a;cases a) h
  have a:0<=x/\x<n.co.length:=by simpa using a
  refine(oT (h.W H)).X ?_;rintro _ ah _ ⟨rfl,aa⟩;have E:=H.F aa;rw[ms a.1,W7,bM];refine⟨λB=>C _ _ ⟨rs,rfl,⟨(λh=>by cases h),λh=>?_⟩,E⟩,λB=>?_⟩
  .exact K (λe=>by rw[e.2.2.1]at B;cases B) h
  rw[bG,aj];refine⟨λal=>?_,λam=>C _ _ ⟨sp,rfl,⟨λ_=>⟨x,r,a.1,a.2,B,λh=>Ω⟩,λ_=>rfl⟩,E⟩⟩;obtain⟨y,M⟩:=aC (l:=l) (i:=i-1) Ω;have N:l.getD (i-1) 0=y:=by rw[v8,M];rfl
  have an:=f.le;rw[dN,lm Ω Ω,ew (y:=(i:Int)-1) (i:=i-1) Ω ai.u ae.i Ψ (f.W E) M,cJ];refine C _ _ ⟨_,rfl,⟨λab=>⟨x,r,a.1,a.2,B,λ_=>?_⟩,λU=>?_⟩,E⟩
  .have:=of_decide_eq_false ab;rw[N];omega
  .obtain⟨v,z,_,_,_,af⟩:=U;rw[r]at z;cases z;have:=af Ω;rw[N]at this;rw[pl];omega
 .rintro _ J P ⟨j,G⟩;rw[aP,aj];exact⟨λh=>Ω,λ_=>⟨⟨rs,rfl,⟨λ_=>G,λ_=>rfl⟩⟩,j⟩⟩
def Rg(s:al)(l:Λ)(r:Int):Prop:=(r= -1/\∀f∈s.d7,¬(f.live≠0/\f.sc=l))\/∃(j:Nat)(f:bF),r=j/\s.d7[j]?=σ f/\f.live≠0/\f.sc=l/\∀(q:Nat)g,q<j->s.d7[q]?=σ g->¬(g.live≠0/\g.sc=l)
theorem Rh{bK:x1}(h:be w ac ad A R n s t)(P:aF .i64 w bK l):ak x7 BM [Γ ac,bK] w λv I=>(∃r:Int,v=Δ r/\Rg s l r)/\Ext w I:=by
 have aw:=p4 h.2.1 h.2.2.1;refine ay func190 ?_;refine(td h).X ?_;rintro _ J _ ⟨rfl,Q⟩;have S:s.d7.length<=9223372036854775807:=by
  obtain⟨U,W,X,Y,aU,Z,L,aa,a,ab,ae,af,z,x⟩:=h.1.parts;have:=z.le;rw[x.1]at this;omega
 refine bT.range s.d7.length (λj _ V=>Ext w V/\∀(q:Nat)g,q<j->s.d7[q]?=σ g->¬(g.live≠0/\g.sc=l)) S ⟨Q,λq g B=>Ω⟩ ?_ ?_
 rotate_left
 .rintro _ V ag ⟨C,E⟩;rw[aP,aj];refine⟨λh=>Ω,λ_=>⟨⟨-1,rfl,.inl ⟨rfl,λf e=>?_⟩⟩,C⟩⟩;obtain⟨q,B,rfl⟩:=List.mem_iff_getElem.1 e;exact E q _ B (x6 B)
 rintro j _ V ag ah ⟨C,E⟩ ai;obtain⟨f,e⟩:=aC (l:=s.d7) ah;refine bt Ω ?_;refine aV (λv K=>v= .bool (decide (f.live≠0)&&decide (f.sc=l))/\Ext w K) ?_ ?_
 .rintro _ K ⟨rfl,G⟩;rw[bM];refine⟨λa=>⟨⟨(j:Int),rfl,.inr ⟨j,f,rfl,e,?_⟩⟩,G⟩,λa=>?_⟩
  .rw[V8,rc,rc]at a;exact⟨a.1,a.2,E⟩
  .rw[aL];refine ai _ _ ⟨G,λq g B M=>?_⟩;by_cases al:q=j
   .subst al;rw[e]at M;cases M;intro ap;rw[ms ap.1,ms ap.2]at a;cases a
   .exact E q g Ω M
 intro az N;refine(p5 (j:=(j:Int)) (h.W C)).X ?_;rintro _ K _ ⟨rfl,G⟩;have H:=C.F G;have am:eA s ((j:Int)).toNat=decide (f.live≠0):=by
  unfold eA;rw[u7,e]
 rw[ms (Int.natCast_nonneg j),W7,am,aj];refine⟨λan=>?_,λao=>N _ _ ⟨by rw[pl ao];rfl,H⟩⟩;obtain⟨U,W,X,Y,aU,Z,L,aa,a,ab,ae,af,z,x⟩:=(h.W H).1.parts;obtain⟨y,O⟩:∃y,L[j]?=σ y:=⟨_,x6 (by rw[x.1];omega)⟩;obtain⟨aq,_,_⟩:=x.2 j y f O e;rw[aN bV.p 3 a rfl,c5 rfl eQ.u cT.i z (by rw[x.1];omega),aT cT.p rfl,av (v:=y.aI) Ψ (z.range O 0 _ rfl)];refine(se aq.ls (P.W H)).X ?_;rintro _ ax _ ⟨rfl,au⟩;exact N _ _ ⟨by rw[ms an,W7],H.F au⟩
theorem Ri{j:Int}(h:be w ac ad A R n s t)(p:¬(0<=j/\j<s.d7.length)):ak x7 um [Γ ac,Δ j] w λr I=>r= .slice ν 0 0/\Ext w I:=by
 refine ay func175 ?_;refine aV (λv J=>v= .bool rs/\Ext w J) ?_ ?_
 .rintro _ J ⟨rfl,e⟩;rw[bZ];exact⟨rfl,e⟩
 intro az a;rw[aP,aj];refine⟨λ_=>a _ _ ⟨rfl,Ext.refl _⟩,λq=>?_⟩;refine(td h).X ?_;rintro _ x _ ⟨rfl,f⟩;rw[cJ];exact a _ _ ⟨by rw[ms Ω],f⟩
end
section
variable{w:x3}{B:Nat}{sv:x1}{k:Int}{co:Λ}{s:al}
end
def jM:List (Λ)->List (Λ)
 |[]=>[[]]
 |d::a=>d.flatMap λv=>(jM a).map (v:: ·)
theorem tf:∀{a:List (Λ)}{t:Λ},t∈jM a↔t.length=a.length/\∀(p:Nat)d v,a[p]?=σ d->t[p]?=σ v->v∈d
 |[],t=>by
  grind [jM]
 |d::a,t=>by
  simp only[jM,List.mem_flatMap,o8];constructor
  .rintro⟨v,j,t',f,rfl⟩;obtain⟨h1,e⟩:=tf.1 f
   grind
  .rintro⟨h1,e⟩;cases t with
   |nil=>simp at h1
   |cons v t'=>exact⟨v,e 0 d v rfl rfl,t',tf.2 ⟨by grind,λp h u q r=>e (p+1) h u (by grind) (by grind)⟩,rfl⟩
def p7:List (Int->Bool)->Λ->Bool
 |q::a,v::t=>q v&&p7 a t
 |_,_=>rs
theorem FT:∀(a:List (Λ))(f:List (Int->Bool)),f.length=a.length->jM ((a.zip f).map λp=>p.1.filter p.2)=(jM a).filter (p7 f)
 |[],[],_=>rfl
 |d::a,q::f,h=>by
  have j:=FT a f (by grind);simp only[List.zip_cons_cons,U4,jM];rw[j];clear j h;induction d with
  |nil=>rfl
  |cons v d r=>
   rw[U3,List.filter_append,<-r];have e:((jM a).map (v:: ·)).filter (p7 (q::f))=if q v then((jM a).filter (p7 f)).map (v:: ·)else[]:=by
    rw[List.filter_map]
    grind [List.filter_congr,p7,List.filter_eq_nil_iff]
   grind
def jo(k:Int):Λ:=(Z4 k.toNat).map λv:Nat=>(v:Int)
theorem zg:∀(s:Λ),bk s=jM (s.map jo)
 :=by
 intro a;induction a<;>grind [bk,jM,jo,List.flatMap_map]
theorem tg{v:Int}:v∈jo k↔0<=v/\v<k:=by
 unfold jo;rw[o8];constructor
 .grind
 .intro h;exact⟨v.toNat,by grind,Ω⟩
def er(f:Int->Int)(L:List (Λ))(szs cs:Λ):Λ:=((bk szs).zip cs).map λp=>if p.1∈L then f p.2 else p.2
theorem rC(f:Int->Int)(L:List (Λ))(szs cs:Λ)(h:cs.length<=(bk szs).length):(er f L szs cs).length=cs.length:=by
 grind [er]
theorem rD{f:Int->Int}{i:Nat}(a:(bk szs)[i]?=σ t)(e:cs[i]?=σ c):(er f L szs cs)[i]?=σ (if t∈L then f c else c):=by
 grind [er]
theorem Rj{f:Int->Int}{i:Nat}(U:dd szs)(s:cs.length<=(bk szs).length)(a:(bk szs)[i]?=σ t)(e:cs[i]?=σ c)(r:t∉L):(er f L szs cs)[i]?=σ c/\(er f L szs cs).set i (f c)=er f (L++[t]) szs cs:=by
 have h1:=rD (f:=f) (L:=L) a e;rw[m6 r]at h1;refine⟨h1,?_⟩;apply j9;intro j;rw[Y8];by_cases h:i=j
 .subst h;rw[m5 rfl,m5 (x4.1 h1).1,rD a e,m5 Ξ]
 .rw[m6 h];cases p:cs[j]? with
  |none=>
   grind [rC]
  |some w=>
   obtain⟨u,q⟩:∃u,(bk szs)[j]?=σ u:=⟨_,x6 (by grind)⟩;rw[rD q p,rD q p];have x:u≠t:=λhe=>by
    subst he;have y:=kD U a
    grind [kD]
   grind
def kP(s:al)(i v:Nat)(c:Int):al:=match s.d6[i]? with
 |some x=>{s with d6:=s.d6.set i {x with un:=x.un.set v c}}
 |none=>s
def kQ(s:al)(j m:Nat)(c:Int):al:=match s.d7[j]? with
 |some f=>{s with d7:=s.d7.set j {f with cs:=f.cs.set m c}}
 |none=>s
theorem vJ{i:Nat}(h:∀x∈l,0<=x/\x<=k)(a:0<=c/\c<=k):∀x∈l.set i c,0<=x/\x<=k:=by grind
def n2(w:x3)(ac ad:Nat)(A R:ah)(n:aG)(s':al)(t:aw)(v:x1)(I:x3):Prop:=v=Δ 0/\af (dv w) w I/\∃aJ p x,Grow A w aJ I/\be I ac ad aJ R n s' (t.set p x)
theorem n2.W{J:x3}{A R:ah}{n:aG}{s':al}{t:aw}(a:Ext w J)(h:n2 J ac ad A R n s' t v I):n2 w ac ad A R n s' t v I:=by
 obtain⟨h1,e,aJ,p,x,f,j⟩:=h;exact⟨h1,gM a e,aJ,p,x,(Grow.W a).F f,j⟩
section
variable{w:x3}{ac ad:Nat}{A R:ah}{n:aG}{s:al}{t:aw}
theorem th(h:be w ac ad A R n s t)(f:y<0\/¬(0<=c/\c<=n.k)):ak x7 BQ [Γ ac,Δ y,Δ c] w λv I=>v=Δ (if y<0 then 1 else 3)/\Ext w I:=by
 refine ay func262 ?_;rw[cV dx.u];simp only[l9,aW];rw[aP,aj];refine⟨by grind [Ext.refl],λe=>?_⟩;refine(kM h).X ?_;rintro _ J _ ⟨rfl,j⟩;refine(lb (a:=c) (k:=n.k)).X ?_;rintro _ V _ ⟨rfl,p⟩;have q:=f.resolve_left e;rw[pl (λh=>q h.2),bA,X1,bZ,m6 e];exact⟨rfl,j.F p⟩
theorem zh{s':al}{p:Nat}(h:be w ac ad A R n s t)(f:Room t)(j:y=(p:Int))(q:p<s.cells.length)(r:s.cells.set p c=s'.cells)(U:n0 s s')(x:a6 n.k n.co s')(z:0<=c/\c<=n.k):
  ak x7 BQ [Γ ac,Δ y,Δ c] w (n2 w ac ad A R n s' t):=by
 refine ay func262 ?_;rw[cV dx.u];simp only[l9,aW];refine b6 Ω ?_;refine(kM h).X ?_;rintro _ J _ ⟨rfl,B⟩;refine(lb (a:=c) (k:=n.k)).X ?_;rintro _ V _ ⟨rfl,C⟩;have e:=B.F C;rw[ms (show cK c n.k from⟨h.2.2.2.1.dy,z⟩),bA,Y2,aW];obtain⟨K,M,N,O,aU,P,L,Q,E,S,W,X,Y,Z⟩:=(h.W e).1.parts;rw[aN bV.p 1 E rfl];refine(vH (h.W e) j q r U x f).X ?_;rintro _ aa _ ⟨rfl,G,aJ,H,I⟩;exact n2.W e ⟨rfl,G,aJ,_,_,H,I⟩
theorem FU(h:be w ac ad A R n s t)(e:Room t):ak x7 Kc [Γ ac,Δ c] w λv I=>(¬(0<=c/\c<=n.k)->v=Δ 3/\Ext w I)/\((0<=c/\c<=n.k)->n2 w ac ad A R n {s with zero:=c} t v I):=by
 refine ay func192 ?_;by_cases a:0<=c/\c<=n.k
 .refine (zh (p:=0) h e rfl (by grind [al.cells,kK]) (Qe s c) (yN s c) ⟨h.2.2.2.1.dy,h.2.2.2.1.cF,a,h.2.2.2.1.d6,h.2.2.2.1.var,h.2.2.2.1.d7⟩ a).X ?_
  grind
 .refine (th h (.inr a)).X ?_
  grind
theorem zi{i v:Int}(h:be w ac ad A R n s t)(B:Room t):ak x7 Kd [Γ ac,Δ i,Δ v,Δ c] w λr I=>
  (¬eL n i v->r=Δ 1/\Ext w I)/\(eL n i v->¬(0<=c/\c<=n.k)->r=Δ 3/\Ext w I)/\(eL n i v->(0<=c/\c<=n.k)->n2 w ac ad A R n (kP s i.toNat v.toNat c) t r I):=by
 refine ay func193 ?_;refine(y8 h).X ?_;rintro _ J _ ⟨rfl,a⟩;by_cases f:eL n i v
 .rw[m5 f];by_cases j:0<=c/\c<=n.k
  .obtain⟨x,e,H,K,_⟩:=f.var h.2.2.2.1;have L:=h.2.2.2.1.d6;obtain⟨z,C⟩:∃z,n.co[i.toNat]?=σ z:=⟨_,x6 (by grind)⟩;obtain⟨_,E,hm⟩:=h.2.2.2.1.var i.toNat x z e C;have M:=tb e;have y:kP s i.toNat v.toNat c={s with d6:=s.d6.set i.toNat {x with un:=x.un.set v.toNat c}}:=by grind [kP]
   refine(zh (p:=gL s i.toNat+(2+v.toNat)) (s':=kP s i.toNat v.toNat c) (h.W a) B Ω Ω ?_ ?_ ?_ j).X ?_
   .rw[y];refine yL e Ω ?_;rw[show 2+v.toNat=v.toNat+1+1 by omega];rfl
   .grind [s8]
   .rw[y];exact h.2.2.2.1.te e Ξ (vJ E j) hm
   .rintro r V _ G;exact⟨by grind,Ω,λ_ _=>G.W a⟩
  .refine (th (h.W a) (.inr j)).X ?_;rintro r V _ ⟨rfl,q⟩;rw[m6 Ω];exact⟨by grind,λ_ _=>⟨rfl,a.F q⟩,Ω⟩
 .rw[m6 f];refine(th (h.W a) Ω).X ?_;rintro r V _ ⟨rfl,q⟩;rw[m5 Ω];exact⟨λ_=>⟨rfl,a.F q⟩,by grind,by grind⟩
theorem FV(h:be w ac ad A R n s t)(B:Room t)(C:aF .i64 w aO tl):ak x7 Ke [Γ ac,Δ (j:Int),aO,Δ c] w λr I=>
  (iF s j tl=ν->r=Δ 1/\Ext w I)/\((iF s j tl).isSome=rs->¬(0<=c/\c<=n.k)->r=Δ 3/\Ext w I)/\
  ((iF s j tl).isSome=rs->(0<=c/\c<=n.k)->∀f (m:Nat),s.d7[j]?=σ f->cc f.szs tl 0=σ (m:Int)->n2 w ac ad A R n (kQ s j m c) t r I):=by
 refine ay func194 ?_;refine(FP h C).X ?_;rintro _ J _ ⟨rfl,a⟩;cases E:iF s j tl with
 |none=>
  simp only;refine(th (h.W a) Ω).X ?_;rintro r V _ ⟨rfl,q⟩;rw[m5 Ω];exact⟨λ_=>⟨rfl,a.F q⟩,by grind,by grind⟩
 |some p=>
  simp only;by_cases x:0<=c/\c<=n.k
  .obtain⟨L,f,e,M,m,hm,N,rfl⟩:=za h.2.2.2.1 E;have O:=y7 e;have y:kQ s j m c={s with d7:=s.d7.set j {f with cs:=f.cs.set m c}}:=by grind [kQ]
   obtain⟨G,_⟩:=h.2.2.2.1.d7 f (x5 e);refine(zh (p:=e4 s j+(m+1)) (s':=kQ s j m c) (h.W a) B rfl Ω ?_ ?_ ?_ x).X ?_
   .rw[y];exact E7 e Ω rfl
   .grind [yO]
   .rw[y];exact h.2.2.2.1.zb e rfl rfl Ξ (vJ G.fP x)
   .rintro r V _ H;refine⟨by grind,Ω,λ_ _ P cn z K=>?_⟩;rw[e]at z;cases z;rw[hm]at K;have:cn=m:=by grind
    subst this;exact H.W a
  .refine (th (h.W a) (.inr x)).X ?_;rintro r V _ ⟨rfl,q⟩;rw[m6 Ω];exact⟨by grind,λ_ _=>⟨rfl,a.F q⟩,Ω⟩
end
def fH(of:Int->Int)(p:Int×Int)(v:Int):Int×Int:=if p.2= -1\/of v<p.1 then(of v,v)else p
def fm(k:Int)(l:Λ)(of:Int->Int):Int×Int:=l.foldl (fH of) (k,-1)
theorem n3{s:al}{n:aG}{i:Int}{b m:Nat}{x:br}(h:vF s n i b m)(e:0<=i)(f:s.d6[i.toNat]?=σ x):(fh b m).map (λv:Nat=>(v:Int))=aM x:=by
 obtain⟨_,_,j⟩:=h;obtain⟨rfl,p⟩:=j x e f;unfold fh aM;rw[List.filter_map];congr 1;refine List.filter_congr λq a=>?_;have a:=T1.1 a;rw[p,ms a,W7];rfl
section
variable{w:x3}{ac ad:Nat}{A R:ah}{n:aG}{s:al}{t:aw}
def iG(n:aG)(s:al)(i:Int):Bool:=decide (0<=i/\i<n.co.length)&& !cG s i.toNat
end
theorem qa{x:br}{v:Int}(h:v∈aM x):0<=v/\v<x.un.length:=by
 unfold aM at h;obtain⟨h,_⟩:=T2.1 h;obtain⟨q,a,rfl⟩:=o8.1 h;have:=T1.1 a;omega
theorem Rk{s:al}{n:aG}{i v:Int}{b m:Nat}{x:br}(h:vF s n i b m)(f:0<=i)(j:s.d6[i.toNat]?=σ x):(decide (0<=v/\v<m)&&b.testBit v.toNat)=decide (v∈aM x):=by
 obtain⟨_,_,p⟩:=h;obtain⟨rfl,q⟩:=p x f j;by_cases a:0<=v/\v<x.un.length
 .rw[ms a,W7,q,ms (show v.toNat<x.un.length by omega),W7,show((v.toNat:Nat):Int)=v by omega];have:=ze a;cases e:dropped x.mask v with
  |false=>rw[ms (this.2 e)];rfl
  |true=>rw[pl λh=>by rw[this.1 h]at e;cases e];rfl
 .rw[pl a,pl λh=>a (qa h)];rfl
section
variable{w:x3}{ac ad:Nat}{A R:ah}{n:aG}{s:al}{t:aw}
theorem Rl{i:Int}(f:a6 n.k n.co s)(h:iG n s i=rs):0<=i/\∃x,s.d6[i.toNat]?=σ x/\x.gone=0:=by
 unfold iG at h;rw[V8]at h;have h1:=ro h.1;have j:=f.d6;obtain⟨x,e⟩:=aC (l:=s.d6) (i:=i.toNat) Ω;have a:=h.2;unfold cG at a;rw[e]at a;exact⟨h1.1,x,e,by simpa using a⟩
theorem rE{f:bF}(h:be w ac ad A R n s t)(a:s.d7[j]?=σ f):ak x7 um [Γ ac,Δ (j:Int)] w λr I=>Ext w I/\∃g,w.heap.size<=g/\an .i64 ae I g r f.sc:=by
 have K:=(x4.1 a).1;refine ay func175 ?_;refine aV (λv J=>v= .bool sp/\Ext w J) ?_ ?_
 .rintro _ J ⟨rfl,e⟩;rw[aW];obtain⟨M,N,O,P,aU,Q,L,S,B,U,W,X,x,q⟩:=(h.W e).1.parts;obtain⟨y,z⟩:∃y,L[j]?=σ y:=⟨_,x6 (by rw[q.1];omega)⟩;obtain⟨C,_,_⟩:=q.2 j y f z a;rw[aN bV.p 3 B rfl,c5 rfl eQ.u cT.i x (by rw[q.1];omega),aT cT.p rfl,av Ψ (x.range z 0 _ rfl)];have Y:f.sc.length<=6:=(h.2.2.2.1.d7 f (x5 a)).1.scope.2;refine(jZ C.ls Ω).X ?_;rintro v V _ ⟨E,g,Z,hm⟩;have:=e.size;exact⟨e.F E,g,Ω,hm⟩
 intro az G;rw[aP,aj];refine⟨λaa=>Ω,λ_=>?_⟩;refine(td h).X ?_;rintro _ ab _ ⟨rfl,H⟩;rw[cJ];exact G _ _ ⟨by rw[pl Ω],H⟩
end
def dn(s:al)(i:Int):Λ:=match s.d6[i.toNat]? with
 |some x=>aM x
 |none=>[]
section
variable{ac ad:Nat}{A R:ah}{n:aG}{s:al}{t:aw}
end
def l3(s:al)(pos:Nat)(v:Int):Λ->Nat->List (Λ)
 |[],_=>[]
 |u::sc,p=>(if p=pos then[v]else dn s u)::l3 s pos v sc (p+1)
def cQ(s:al)(sc:Λ)(pos:Nat)(v:Int):List (Λ):=jM (l3 s pos v sc 0)
def qb(s:al)(pos:Nat)(v:Int):Λ->Nat->List (Int->Bool)
 |[],_=>[]
 |u::sc,p=>(λx=>(decide (p=pos->x=v))&&decide (x∈dn s u))::qb s pos v sc (p+1)
theorem Rm{v:Int}(h:0<=v/\v<k):(jo k).filter (λx=>decide (x=v))=[v]:=by
 have a:(jo k).Nodup:=by
  grind [jo,List.nodup_range]
 have hm:v∈jo k:=tg.2 h;generalize jo k=l at a hm;induction l<;>grind [List.filter_eq_nil_iff]
section
variable{k:Int}{co:Λ}{s:al}{v:Int}{pos:Nat}
theorem Rn{u:Int}(a:a6 k co s)(h:0<=u/\u<co.length):(jo (co.getD u.toNat 0)).filter (λx=>decide (x∈dn s u))=dn s u:=by
 have j:=a.d6;obtain⟨x,e⟩:=aC (l:=s.d6) (i:=u.toNat) Ω;obtain⟨z,f⟩:=aC (l:=co) (i:=u.toNat) Ω;have h1:=(a.var _ x z e f).1
 grind [dn,aM,jo,List.filter_congr]
theorem FW(a:a6 k co s):∀(sc:Λ)(p:Nat),(∀u∈sc,0<=u/\u<co.length)->(∀u,p<=pos->sc[pos-p]?=σ u->v∈dn s u)->
  l3 s pos v sc p=(((aA co sc).map jo).zip (qb s pos v sc p)).map λq=>q.1.filter q.2
 |[],p,_,_=>rfl
 |u::sc,p,e,r=>by
  have f:=FW a sc (p+1) (by grind) (by grind);have h:=e u (.head _);have w:=Rn a h;show(if p=pos then[v]else dn s u)::l3 s pos v sc (p+1)=(jo (co.getD u.toNat 0)).filter (λx=>decide (p=pos->x=v)&&decide (x∈dn s u))::((((aA co sc).map jo).zip (qb s pos v sc (p+1))).map λq=>q.1.filter q.2);rw[<-f];congr 1;by_cases j:p=pos
  .rw[m5 j];have y:v∈dn s u:=by grind
   grind [Rm,tg]
  grind
theorem Ro:∀(sc:Λ)(p:Nat),(qb s pos v sc p).length=sc.length
 :=by
 intro a;induction a<;>grind [qb]
theorem zj{sc:Λ}(a:a6 k co s)(e:∀u∈sc,0<=u/\u<co.length)(f:∀u,sc[pos]?=σ u->v∈dn s u):
  cQ s sc pos v=(bk (aA co sc)).filter (p7 (qb s pos v sc 0)):=by
 grind [cQ,FW,FT,Ro,aA,zg]
end
theorem vK{k:Int}:∀(l:Λ)(z:Int),z<=k->(∀c∈l,0<=c)->l.foldl (λa c=>min (a+c) k) z=min (z+l.sum) k
 |[],z,h,_=>Θ
 |c::l,z,h,e=>by
  have U:∀(l:Λ),(∀c∈l,0<=c)->0<=l.sum:=λl=>by
   induction l with
   |nil=>grind
   |cons a l f=>intro h;have:=f λc e=>h c (.tail _ e);have:=h a (.head _);grind
  have h1:=e c (.head _);have j:=U l λc h=>e c (.tail _ h);rw[List.foldl_cons,vK l _ Ω (by grind),List.sum_cons];omega
def cz(p:br×Int):Int:=if p.1.gone≠0 then 0 else p.1.un.getD p.2.toNat 0
def df(a:Λ)(f:bF):Int:=if f.live≠0 then bd f.szs f.cs (ee a f.sc)else 0
theorem foldl_map'{α β e:Type}(g:α->β)(h:e->β->e)(bf:e->α->e)(P:e->Prop)(ap:∀c a,P c->bf c a=h c (g a))(f:∀c a,P c->P (bf c a)):∀(l:List α)(c:e),P c->l.foldl bf c=(l.map g).foldl h c
 :=by
 intro a;induction a<;>grind
theorem qc{i:Nat}{x:Int}(h:l[i]?=σ x):(l.set i y).sum=l.sum-x+y:=by
 induction l generalizing i with
 |nil=>simp at h
 |cons a l e=>
  cases i<;>grind
def dQ(k a c:Int):Int:=if a=k then k else a-c
def dR(k a c:Int):Int:=min (a+c) k
theorem vL{r g u:Int}(a:0<=r)(e:c<=g/\g<=k)(f:0<=u/\u<=k)(h:0<=c):min (r+dQ k g c+dR k u c) k=min (r+g+u) k:=by
 grind [dQ,dR]
theorem l4:∀(l:Λ),(∀c∈l,0<=c)->0<=l.sum
 |[],_=>Ξ
 |a::l,h=>by have:=l4 l (by grind);have:=h a (.head _);grind
theorem qd:∀{l:Λ}{i:Nat}{x:Int},(∀c∈l,0<=c)->l[i]?=σ x->x<=l.sum
 |[],_,_,_,h=>by simp at h
 |a::l,0,x,e,h=>by
  simp at h;subst h;have:=l4 l (by grind)
  grind
 |a::l,i+1,x,e,h=>by
  have:=qd (by grind) (show l[i]?=σ x by grind);have:=e a (.head _)
  grind
theorem zk{i:Nat}(hk:0<=k)(h:∀c∈l,0<=c/\c<=k):0<=l.getD i 0/\l.getD i 0<=k:=by
 rw[v8];cases a:l[i]? with
 |none=>grind
 |some c=>exact h c (x5 a)
theorem Rp{f:Int->Int}{m:Int}(U:dd szs)(a:cs.length=(bk szs).length)(hi:cc szs t 0=σ m):bd szs (er f L szs cs) t=if t∈L then f (bd szs cs t)else bd szs cs t:=by
 grind [oD,rD,bd]
section
variable{k:Int}{co a:Λ}{s:al}
theorem Rq{i:Nat}{p:br×Int}(e:a6 k co s)(h:(s.d6.zip a)[i]?=σ p):0<=cz p/\cz p<=k:=by
 have hk:=e.dy;obtain⟨h1,_⟩:=U9.1 h;have f:=(x4.1 h1).1;have j:=e.d6;have:=e.var i p.1 _ h1 (x6 Ω);unfold cz;split
 .omega
 .exact zk Ω this.2.1
theorem Rr{f:bF}(e:a6 k co s)(h:f∈s.d7):0<=df a f/\df a f<=k:=by
 have hk:=e.dy;have:=(e.d7 f h).1.fP;unfold df;split
 .exact (pW e.dy λc j=>⟨e.dy,this c j⟩).2
 .omega
theorem qe(e:a6 k co s):∀c∈(s.d6.zip a).map cz,0<=c:=λc f=>by
 obtain⟨p,h,rfl⟩:=o8.1 f;obtain⟨i,hi⟩:=c8.1 h;exact(Rq e hi).1
theorem oV(e:a6 k co s):∀c∈s.d7.map (df a),0<=c:=λc f=>by
 obtain⟨p,h,rfl⟩:=o8.1 f;exact(Rr e h).1
theorem oW(e:a6 k co s):dL k s a=if(s.d6.zip a).all dK then min (s.zero+((s.d6.zip a).map cz).sum+(s.d7.map (df a)).sum) k else k:=by
 have h1:(s.d6.zip a).foldl (jm k) s.zero=((s.d6.zip a).map cz).foldl (λx c=>min (x+c) k) s.zero:=by
  refine foldl_map' cz (λx c=>min (x+c) k) (jm k) (λc=>c<=k) (λc p f=>?_) (λc p f=>?_) _ _ e.zero.2
  all_goals grind [jm,cz]
 have h:∀z,z<=k->s.d7.foldl (il k a) z=(s.d7.map (df a)).foldl (λx c=>min (x+c) k) z:=λz j=>by
  refine foldl_map' (df a) (λx c=>min (x+c) k) (il k a) (λc=>c<=k) (λc p f=>?_) (λc p f=>?_) _ _ j
  all_goals grind [il,df]
 unfold dL;split
 .rw[h1,vK _ _ e.zero.2 (qe e),h _ Ω,vK _ _ Ω (oV e)];have:=l4 _ (oV (a:=a) e);omega
 .rfl
theorem qf{α β:Type}:∀{l:List α}{m:List β}{i:Nat}{x:α}{y:β},m[i]?=σ y->(l.set i x).zip m=(l.zip m).set i (x,y)
 |[],_,_,_,_,_=>Ξ
 |_::_,[],_,_,_,h=>by simp at h
 |a::l,b::m,0,x,y,h=>by simp at h;subst h;rfl
 |a::l,b::m,i+1,x,y,h=>by
  rw[List.set_cons_succ,List.zip_cons_cons,List.zip_cons_cons,List.set_cons_succ,qf (by simpa using h)]
theorem rF{α:Type}{q:α->Bool}:∀{l:List α}{i:Nat}{x y:α},l[i]?=σ x->q y=q x->(l.set i y).all q=l.all q
 |[],_,_,_,h,_=>by simp at h
 |a::l,0,x,y,h,e=>by grind
 |a::l,i+1,x,y,h,e=>by rw[List.set_cons_succ,List.all_cons,List.all_cons,rF (by grind) e]
def dD(s:al)(u:Nat)(x:br)(un:Λ):al:={s with d6:=s.d6.set u {x with un:=un}}
def dw(s:al)(j:Nat)(f:bF)(cs:Λ):al:={s with d7:=s.d7.set j {f with cs:=cs}}
theorem vM{u:Nat}{x:br}{un:Λ}(a:a6 k co s)(e:s.d6[u]?=σ x)(f:un.length=x.un.length)(h:∀c∈un,0<=c/\c<=k):a6 k co (dD s u x un):=by
 have j:=(x4.1 e).1;have p:=a.d6;have h1:=a.var u x _ e (x6 Ω);exact a.te e f h h1.2.2
theorem zl{f:bF}(a:a6 k co s)(e:s.d7[j]?=σ f)(h:cs.length=f.cs.length)(p:∀c∈cs,0<=c/\c<=k):a6 k co (dw s j f cs):=a.zb e rfl rfl h p
theorem Rs{u:Nat}{x:br}{f:bF}{un:Λ}{bp:Int}(e:a6 k co s)(p:s.d6[u]?=σ x)(q:s.d7[j]?=σ f)(z:un.length=x.un.length)(A:∀c∈un,0<=c/\c<=k)(B:cs.length=f.cs.length)(C:∀c∈cs,0<=c/\c<=k)(w:a[u]?=σ bp)(h:(s.d6.zip a).all dK=rs->∀r,0<=r->min (r+df a {f with cs:=cs}+cz ({x with un:=un},bp)) k=min (r+df a f+cz (x,bp)) k):dL k (dD (dw s j f cs) u x un) a=dL k s a:=by
 have E:=zl e q B C;have F:=vM E p z A;rw[oW F,oW e];have y:(s.d6.zip a)[u]?=σ (x,bp):=U9.2 ⟨p,w⟩;have G:((dD (dw s j f cs) u x un).d6.zip a)=(s.d6.zip a).set u ({x with un:=un},bp):=qf w;have H:((s.d6.zip a).set u ({x with un:=un},bp)).all dK=(s.d6.zip a).all dK:=rF y rfl;rw[G,H];split
 .rename_i I;have J:(((s.d6.zip a).set u ({x with un:=un},bp)).map cz).sum=((s.d6.zip a).map cz).sum-cz (x,bp)+cz ({x with un:=un},bp):=by
   grind [V5,qc]
  have K:((dD (dw s j f cs) u x un).d7.map (df a)).sum=(s.d7.map (df a)).sum-df a f+df a {f with cs:=cs}:=by
   show((s.d7.set j {f with cs:=cs}).map (df a)).sum=_
   grind [V5,qc]
  have h1:=qd (qe e) (by rw[x8,y];rfl);have L:=qd (oV (a:=a) e) (by rw[x8,q];rfl);have M:=e.zero.1;have N:=h I (s.zero+(((s.d6.zip a).map cz).sum-cz (x,bp))+((s.d7.map (df a)).sum-df a f)) Ω;rw[J,K];show min (s.zero+_+_) k=_;omega
 .rfl
end
theorem FX{s:al}{v:Int}:∀(sc:Λ)(p q:Nat),(l3 s pos v sc p)[q]?=(sc[q]?).map λu=>if p+q=pos then[v]else dn s u
 :=by
 intro a;induction a<;>grind [l3]
theorem Rt{s:al}{v:Int}:∀(sc:Λ)(p:Nat),(l3 s pos v sc p).length=sc.length
 :=by
 intro a;induction a<;>grind [l3]
theorem zm{s:al}{v:Int}{sc:Λ}:t∈cQ s sc pos v↔t.length=sc.length/\∀(p:Nat)u w,sc[p]?=σ u->t[p]?=σ w->if p=pos then w=v else w∈dn s u:=by
 unfold cQ;rw[tf,Rt];refine and_congr_right λ_=>⟨λh p u w a hw=>?_,λh p d w e hw=>?_⟩
 .have:w∈if 0+p=pos then[v]else dn s u:=by grind [FX]
  grind
 grind [FX]
theorem jN{x:br}{v:Int}:v∈aM x↔(0<=v/\v<x.un.length)/\dropped x.mask v=sp:=by
 unfold aM;rw[T2];refine and_congr ?_ Ξ;have:=tg (k:=(x.un.length:Int)) (v:=v)
 grind [jo]
theorem FY{f:Int->Int}(U:dd szs)(e:∀c∈cs,0<=c/\c<=k)(q:∀t∈L,0<=f (bd szs cs t)/\f (bd szs cs t)<=k):∀c∈er f L szs cs,0<=c/\c<=k:=λc a=>by
 unfold er at a;obtain⟨p,h,rfl⟩:=o8.1 a;obtain⟨i,hi⟩:=c8.1 h;obtain⟨h1,j⟩:=U9.1 hi;split
 .grind [bd,kD]
 .exact e _ (x5 j)
section
variable{k:Int}{co a:Λ}{s:al}
def kg(s:al)(j:Nat)(f:bF)(pos u:Nat)(x:br)(v:Int)(tup un:Int->Int):al:=
 dD (dw s j f (er tup (cQ s f.sc pos v) f.szs f.cs)) u x (x.un.set v.toNat (un (x.un.getD v.toNat 0)))
theorem l5{f:bF}(e:a6 k co s)(j:f∈s.d7):dd f.szs/\f.cs.length=(bk f.szs).length:=by
 obtain⟨a,p,_⟩:=e.d7 f j;have q:dd f.szs:=by rw[p];exact jl e.cF.2.2 λv h=>⟨(a.scope.1 v h).1,a.d6 v h⟩
 refine⟨q,?_⟩;have h1:=a.len
 grind [jz]
theorem FZ{u:Nat}{f:bF}{x:br}{v:Int}{tup un:Int->Int}(a:a6 k co s)(h:s.d7[j]?=σ f)(e:s.d6[u]?=σ x)(q:∀t∈cQ s f.sc pos v,0<=tup (bd f.szs f.cs t)/\tup (bd f.szs f.cs t)<=k)(p:0<=un (x.un.getD v.toNat 0)/\un (x.un.getD v.toNat 0)<=k):a6 k co (kg s j f pos u x v tup un):=by
 obtain⟨r,w⟩:=l5 a (x5 h);have y:=(a.d7 f (x5 h)).1;have z:=(x4.1 e).1;have A:=a.d6;have h1:=a.var u x _ e (x6 Ω);exact vM (by grind [zl,rC,FY,ep.fP]) e (by grind) (vJ h1.2.1 p)
theorem F0{u:Nat}{f:bF}{x:br}{v:Int}{tup un:Int->Int}(p:a6 k co s)(G:e5 s a)(B:s.d7[j]?=σ f)(Z:f.live≠0)(H:f.sc[pos]?=σ (u:Int))(A:s.d6[u]?=σ x)(M:v∈aM x)(I:∀w∈f.sc,∀y,s.d6[w.toNat]?=σ y->y.gone=0)(N:∀t∈cQ s f.sc pos v,0<=tup (bd f.szs f.cs t)/\tup (bd f.szs f.cs t)<=k)(O:0<=un (x.un.getD v.toNat 0)/\un (x.un.getD v.toNat 0)<=k)(aa:∀t∈cQ s f.sc pos v,∀r,0<=r->min (r+tup (bd f.szs f.cs t)+un (x.un.getD v.toNat 0)) k=min (r+bd f.szs f.cs t+x.un.getD v.toNat 0) k):
  dL k (kg s j f pos u x v tup un) a=dL k s a:=by
 obtain⟨P,ab⟩:=l5 p (x5 B);obtain⟨C,ac,_⟩:=p.d7 f (x5 B);have ad:=(x4.1 A).1;have ae:=p.d6;have h1:=p.var u x _ A (x6 Ω);have af:=G.1;obtain⟨bp,Q⟩:=aC (l:=a) (i:=u) Ω;refine Rs p A B (by grind) (vJ h1.2.1 O) (by grind [rC]) (FY P C.fP N) Q λR r ag=>?_;have ah:=I u (x5 H) x (by grind);obtain⟨tl,ai⟩:∃tl,tl=ee a f.sc:=⟨_,rfl⟩;have S:∀(q:Nat)w,f.sc[q]?=σ w->∃y,s.d6[w.toNat]?=σ y/\tl[q]?=σ (a.getD w.toNat 0)/\a.getD w.toNat 0∈aM y/\f.szs[q]?=σ (y.un.length:Int):=λq w hw=>by
  have hm:=x5 hw;have aj:=(C.scope.1 w hm).1;have ak:=C.d6 w hm;obtain⟨y,h⟩:=aC (l:=s.d6) (i:=w.toNat) Ω;obtain⟨z,J⟩:=aC (l:=co) (i:=w.toNat) Ω;obtain⟨E,K⟩:=aC (l:=a) (i:=w.toNat) Ω;have al:=I w hm y h;have am:=(p.var _ y z h J).1;have an:=p.cF.2.2 z (x5 J);have e:a.getD w.toNat 0=E:=by grind
  have ao:=List.all_eq_true.1 R (y,E) (x5 (U9.2 ⟨h,K⟩));have ap:=(G.2 _ y E h K).resolve_left Ω
  grind [ee,jN,dK,aA]
 have aq:tl.length=f.sc.length:=by grind [ee]
 have au:f.szs.length=f.sc.length:=by grind [aA]
 obtain⟨m,hm⟩:∃m,cc f.szs tl 0=σ m:=by
  have:tl∈bk f.szs:=by
   rw[zg,tf];refine⟨by grind,λq d w av hw=>?_⟩;obtain⟨b,aw⟩:=aC (l:=f.sc) (i:=q) (by grind)
   grind [tg,jN]
  grind [c8,kD]
 have T:df a f=bd f.szs f.cs tl:=by grind [df]
 have U:df a {f with cs:=er tup (cQ s f.sc pos v) f.szs f.cs}=if tl∈cQ s f.sc pos v then tup (bd f.szs f.cs tl)else bd f.szs f.cs tl:=by
  grind [Rp,df]
 have V:cz (x,bp)=x.un.getD bp.toNat 0:=by grind [cz]
 have W:cz ({x with un:=x.un.set v.toNat (un (x.un.getD v.toNat 0))},bp)=(x.un.set v.toNat (un (x.un.getD v.toNat 0))).getD bp.toNat 0:=by grind [cz]
 obtain⟨y,h,L,F,_⟩:=S pos _ H;rw[u7]at h L F;rw[A]at h;cases h;have X:a.getD u 0=bp:=by grind
 rw[X]at L F;have ax:=(jN.1 M).1;have ay:=(jN.1 F).1;rw[T,U,V,W];by_cases he:bp=v
 .subst he
  grind [zm,dn]
 .have Y:tl∉cQ s f.sc pos v:=by grind [zm]
  rw[m6 Y,v8,W5 Ω,<-v8]
end
def eE(g:Int->Int)(un L:Λ):Λ:=L.foldl (λun v=>un.set v.toNat (g (un.getD v.toNat 0))) un
theorem zn{g:Int->Int}:∀(L un:Λ),(eE g un L).length=un.length
 :=by
 intro a;induction a<;>grind [eE,U7]
theorem vN{g:Int->Int}:∀(L un:Λ)(w:Int),L.Nodup->(∀v∈L,0<=v/\v<un.length)->0<=w->(eE g un L).getD w.toNat 0=if w∈L then g (un.getD w.toNat 0)else un.getD w.toNat 0
 |[],un,w,_,_,_=>by simp[eE]
 |v::L,un,w,a,e,hw=>by
  obtain⟨h1,f⟩:=List.nodup_cons.1 a;have h:=e v (.head _);have j:=vN (g:=g) L (un.set v.toNat (g (un.getD v.toNat 0))) w f (by grind) hw
  grind [eE]
theorem ti(x:br):(aM x).Nodup:=by
 grind [aM,List.nodup_range]
theorem F3{k:Int}{g:Int->Int}:∀(L un:Λ),(∀c∈un,0<=c/\c<=k)->L.Nodup->(∀v∈L,0<=v/\v<un.length)->(∀v∈L,0<=g (un.getD v.toNat 0)/\g (un.getD v.toNat 0)<=k)->∀c∈eE g un L,0<=c/\c<=k
 |[],un,h,_,_,_,c,a=>h c a
 |v::L,un,h,f,e,q,c,a=>by
  obtain⟨h1,j⟩:=List.nodup_cons.1 f;have r:=e v (.head _);refine F3 (g:=g) L (un.set v.toNat (g (un.getD v.toNat 0))) (by grind) j (by grind) (λu p=>?_) c a;have s:u≠v:=by grind
  have w:=e u (.tail _ p);rw[v8,W5 Ω,<-v8]
  grind
section
variable{k:Int}{co a:Λ}{s:al}
def l6(s:al)(u:Nat)(x:br)(g z:Int->Int):al:={dD s u x (eE g x.un (aM x))with zero:=z s.zero}
theorem a6.Ru(a:a6 k co s)(h:0<=c/\c<=k):a6 k co {s with zero:=c}:=⟨a.dy,a.cF,h,a.d6,a.var,a.d7⟩
theorem zo{u:Nat}{x:br}{g z:Int->Int}(a:a6 k co s)(e:s.d6[u]?=σ x)(f:∀v∈aM x,0<=g (x.un.getD v.toNat 0)/\g (x.un.getD v.toNat 0)<=k)(h:0<=z s.zero/\z s.zero<=k):a6 k co (l6 s u x g z):=by
 have p:=(x4.1 e).1;have q:=a.d6;have h1:=a.var u x _ e (x6 Ω);exact(vM a e (zn _ _) (F3 _ _ h1.2.1 (ti x) (λv j=>(jN.1 j).1) f)).Ru h
theorem F4{u:Nat}{x:br}{g z:Int->Int}(e:a6 k co s)(p:e5 s a)(f:s.d6[u]?=σ x)(K:x.gone=0)(q:∀v∈aM x,0<=g (x.un.getD v.toNat 0)/\g (x.un.getD v.toNat 0)<=k)(w:0<=z s.zero/\z s.zero<=k)(y:∀v∈aM x,∀r,0<=r->min (r+g (x.un.getD v.toNat 0)+z s.zero) k=min (r+x.un.getD v.toNat 0+s.zero) k):dL k (l6 s u x g z) a=dL k s a:=by
 have A:=zo e f q w;have L:=(x4.1 f).1;have M:=e.d6;have N:=p.1;obtain⟨bp,h⟩:=aC (l:=a) (i:=u) Ω;rw[oW A,oW e];have j:(s.d6.zip a)[u]?=σ (x,bp):=U9.2 ⟨f,h⟩;obtain⟨un,B⟩:∃un,un=eE g x.un (aM x):=⟨_,rfl⟩;have C:((l6 s u x g z).d6.zip a)=(s.d6.zip a).set u ({x with un:=un},bp):=by rw[B];exact qf h
 have E:((s.d6.zip a).set u ({x with un:=un},bp)).all dK=(s.d6.zip a).all dK:=rF j rfl;rw[C,E];split
 .rename_i F;have G:(((s.d6.zip a).set u ({x with un:=un},bp)).map cz).sum=((s.d6.zip a).map cz).sum-cz (x,bp)+cz ({x with un:=un},bp):=by
   grind [V5,qc]
  have h1:=qd (qe e) (by rw[x8,j];rfl);have O:=l4 _ (oV (a:=a) e);have P:=List.all_eq_true.1 F (x,bp) (x5 j);have Q:=(p.2 _ x bp f h).resolve_left Ω;have H:bp∈aM x:=by
   grind [jN,dK]
  have I:cz (x,bp)=x.un.getD bp.toNat 0:=by grind [cz]
  have J:cz ({x with un:=un},bp)=g (x.un.getD bp.toNat 0):=by
   grind [cz,vN,ti,jN]
  rw[G,J];rw[I]at h1 ⊢;have R:=y bp H (((s.d6.zip a).map cz).sum-x.un.getD bp.toNat 0+(s.d7.map (df a)).sum) Ω;show min (z s.zero+_+(s.d7.map (df a)).sum) k=_;omega
 .rfl
theorem Rv{m:Nat}{v w:Int}(a:0<=v)(hw:0<=w):dropped ((m ||| 2 ^ v.toNat:Nat):Int) w=(dropped (m:Int) w||decide (w=v)):=by
 unfold dropped;rw[u7,u7,Nat.testBit_or,Nat.testBit_two_pow]
 grind
theorem n4{i:Nat}{v:Int}{x:br}(a:s.d6[i]?=σ x):eD s i v.toNat={s with d6:=s.d6.set i {x with mask:=((x.mask.toNat ||| 2 ^ v.toNat:Nat):Int)}}:=by
 grind [eD]
theorem zp{i:Nat}{v:Int}{x:br}(a:a6 k co s)(e:s.d6[i]?=σ x)(j:0<=v/\v<x.un.length):a6 k co (eD s i v.toNat):=by
 rw[n4 e];have p:=(x4.1 e).1;have q:=a.d6;have h1:=a.var i x _ e (x6 Ω);have r:=a.cF.2.2 _ (T0 (n:=i) Ω);refine a.te e rfl h1.2.1 ⟨by grind,?_⟩;have f:x.mask.toNat<2 ^ 32:=Ω
 have h:2 ^ v.toNat<2 ^ 32:=Nat.pow_lt_pow_right Ω Ω;have:=Nat.or_lt_two_pow f h
 grind
theorem F5{i:Nat}{v bp:Int}{x:br}(h:a6 k co s)(z:e5 s a)(f:s.d6[i]?=σ x)(A:x.gone=0)(j:0<=v/\v<x.un.length)(p:a[i]?=σ bp):dL k (eD s i v.toNat) a=if bp=v then k else dL k s a:=by
 have B:=zp h f j;rw[oW B,oW h];have G:(s.d6.zip a)[i]?=σ (x,bp):=U9.2 ⟨f,p⟩;have C:=(z.2 _ x bp f p).resolve_left Ω;obtain⟨y,r⟩:∃y:br,y={x with mask:=((x.mask.toNat ||| 2 ^ v.toNat:Nat):Int)}:=⟨_,rfl⟩;have E:((eD s i v.toNat).d6.zip a)=(s.d6.zip a).set i (y,bp):=by grind [n4,qf]
 have w:(eD s i v.toNat).zero=s.zero/\(eD s i v.toNat).d7=s.d7:=by grind [n4]
 have H:dK (y,bp)=(dK (x,bp)&&decide (bp≠v)):=by
  unfold dK;rw[r];simp only[A];rw[Rv j.1 C.1];have hm:((x.mask.toNat:Nat):Int)=x.mask:=by
   have I:=(x4.1 f).1;have J:=h.d6;have h1:=h.var i x _ f (x6 Ω);omega
  grind
 rw[E,w.1,w.2];by_cases e:bp=v
 .grind [Z5]
 .have K:((s.d6.zip a).set i (y,bp)).all dK=(s.d6.zip a).all dK:=by grind [rF]
  have L:((s.d6.zip a).set i (y,bp)).map cz=(s.d6.zip a).map cz:=by
   rw[V5];have F:cz (y,bp)=cz (x,bp):=by rw[r];rfl
   rw[F];refine j9 λq=>?_
   grind
  grind
theorem Rw{i:Nat}{bp:Int}{x:br}(h:e5 s a)(e:s.d6[i]?=σ x)(p:x.gone=0)(f:a[i]?=σ bp)(q:bp∉aM x):dL k s a=k:=by
 have r:=(h.2 _ x bp e f).resolve_left Ω;unfold dL;rw[m6];intro j;have:=List.all_eq_true.1 j (x,bp) (x5 (U9.2 ⟨e,f⟩))
 grind [dK,jN]
end
end Go.Proofs.YtkcigodpbndobaaGreatDoor
namespace Go.Vc
open Go Go.RowKit
section
variable{P:X2}{w:x3}{α:Type}[aq α]{S R:ah}
theorem F6{k:Nat}{vs:List (List x1)}{i:Nat}{c:List x1}(h:∀x∈vs,x.length=k)(e:c.length=k)(hi:i<vs.length):over vs.flatten (i*k) c=(vs.set i c).flatten:=by
 have:=ye (f:=id) (k:=k) (L:=vs) (i:=i) (a:=c) h e hi
 grind [List.flatMap_id]
theorem Rx{l:List α}{i:Nat}(h:bH S R w [v] l)(J:i<l.length):∃g cap full x,v= .slice (σ ⟨g,0,ν⟩) l.length cap/\ag w g x full/\S g/\i*aq.n α+aq.n α<=full.length/\
  ∀{A:ah}{cs:List x1}{a:α},bH A R w cs a->(∀r,r<w.heap.size->S r->¬A r/\¬R r)->∀I,af (λr=>r=g) w I->ag I g x (over full (i*aq.n α) cs)->bH (λr=>S r\/A r) R I [v] (l.set i a):=by
 obtain⟨vs,g,F,f,he,U,hm⟩:=kw h;obtain⟨K,x,L⟩:=hm rfl;obtain⟨X,⟨rfl,Y⟩|⟨cap,full,rfl,B,Z,M,N,ab⟩⟩:=id L
 .omega
 have O:=he.1;have P:(i+1)*aq.n α<=l.length*aq.n α:=V7 _ J;have ac:l.length*aq.n α<=full.length:=by grind
 rw[T7,Nat.one_mul]at P;have C:=K.resolve_left Ξ;refine⟨g,cap,full,x,rfl,B,C,Ω,λ{A cs a}G y I Q T=>?_⟩;have V:=aq.len G;have ad:=(y g B.lt C).1;have ae:=(y g B.lt C).2;have ai:∀c∈vs.set i cs,c.length=aq.n α:=λc p=>by
  rcases T4 p with e|rfl
  .exact he.len c e
  .exact V
 have aj:bW I g x (aq.n α) (.slice (σ ⟨g,0,ν⟩) l.length cap) (l.set i a).length (vs.set i cs).flatten:=by
  refine⟨by grind [kv,U7],.inr ⟨cap,_,by grind,T,by grind,M,by rw[fZ,N],?_⟩⟩
  grind [yf,F6,lO.len]
 refine⟨_,rfl,vs.set i cs,g,λj r=>if j=i then A r/\r<w.heap.size else F j r/\r<w.heap.size,⟨λj r s=>?_,λ_ j s=>?_,λ_ j q r W h1 e=>?_⟩,⟨by simp[O],λj c a' p z=>?_⟩,?_,by grind⟩
 .split at s
  .grind
  .exact .inl (f.sub j r s.1)
 .split at s
  .grind
  .exact f.top rfl j s.1
 .split at h1<;>split at e
  .omega
  .exact (y r e.2 (f.sub q r e.1)).1 h1.1
  .exact (y r h1.2 (f.sub j r h1.1)).1 e.1
  .exact f.ib rfl j q r W h1.1 e.1
 .by_cases E:j=i
  .subst E;rw[Z5 Ω]at p z;cases p;cases z;have H:bH (λr=>if j=j then A r/\r<w.heap.size else F j r/\r<w.heap.size) R w cs a:=aq.X G (by grind) λ_ _ h=>h
   grind [aq.aa]
  .rw[W5 (Ne.symm E)]at p z;have H:bH (λr=>if j=i then A r/\r<w.heap.size else F j r/\r<w.heap.size) R w c a':=aq.X (he.2 j c a' p z) (by grind) λ_ _ h=>h;refine aq.aa H Q λr s h1 e=>?_;have e:r=g:=e;subst e;rcases h1 with h1|h1
   .simp only[m6 E]at h1;exact f.top rfl j h1.1
   grind
 grind [qQ]
theorem F7{t:r8}{B:o4}{i b:Nat}{x:x1}{l:List α}{a:α}{A:ah}{K:Unit->x3->Prop}(f:aq.n α=1)(C:y=(i:Int))(E:P.underlying t=σ (.slice e))(hi:aR P e 1 b z)(h:bH S R w [v] l)(j:i<l.length)(F:x.cells= #[x])(q:bH A R w [x] a)(G:∀r,r<w.heap.size->S r->¬A r/\¬R r)(H:∀I,af S w I->bH (λr=>S r\/A r) R I [v] (l.set i a)->K () I):ab P (j0 t v (.int B y)) w λp=>aD P (o6 e p x) w K:=by
 subst C;obtain⟨g,cap,full,O,rfl,J,Q,L,M⟩:=Rx h j;rw[f]at L;rw[fs E hi j λ_=>rfl];refine bw (o:=0+i*1) hi F (aq.one q x (.head _)) J Ω λI s _ N=>H I (s.X (by grind)) (M q G I s ?_);rw[f,V0]at*;exact N
end
end Go.Vc
namespace Go.Proofs.YtkcigodpbndobaaGreatDoor
open Go Go.Vc Go.RowKit Go.Proofs Go.Proofs.Tryz
set_option maxRecDepth 100000
abbrev kh:Type:=(Rd (Λ)×Rd (Λ)×Λ)×Bool
abbrev qg:Type:=Int×Rd (Λ)×Rd (Λ)
def kR(f:bF):kh:=((f.sc,f.szs,f.cs),decide (f.live≠0))
def F8(e:jJ):qg:=(e.v,e.sc,e.dZ)
def cf(m:Bool)(A:Nat->ah)(R:ah)(w:x3)(cs:List x1)(k:Int)(co:Λ)(zero:Int)(D:List (Λ))(G:List Bool)(aX:List (Λ))(H:List kh)(E:List qg):Prop:=
 ∃d9 a e f h p,cs=[Δ k,d9,Δ zero,a,e,f,h,p]/\Seen R w [d9] co/\
 aq.rep m (A 0) R w [a] D/\aq.rep m (A 1) R w [e] G/\aq.rep m (A 2) R w [f] aX/\aq.rep m (A 3) R w [h] H/\aq.rep m (A 4) R w [p] E/\
 (m=rs->(∀i j r,i≠j->A i r->¬A j r)/\∀i r,A i r->¬R r)
abbrev ki(m:Bool)(A:Nat->ah)(R:ah)(w:x3)(cs:List x1)(k:Int)(co:Λ)(s:al):Prop:=
 cf m A R w cs k co s.zero (s.d6.map aM) (s.d6.map λx=>decide (x.gone≠0)) (s.d6.map (·.un)) (s.d7.map kR) (s.elims.map F8)
def io(w:x3)(v:x1)(k:Int)(co:Λ)(s:al):Prop:=∃cs,v= .agg cs.toArray/\ki sp (λ_ _=>False) ff w cs k co s
def jO(A:Nat->ah)(i:Nat)(B:ah):Nat->ah:=λj=>if j=i then B else A j
section
variable{m:Bool}{A:Nat->ah}{R:ah}{w I:x3}{cs:List x1}{k zero:Int}{co:Λ}{D:List (Λ)}{G:List Bool}{aX:List (Λ)}{H:List kh}{E:List qg}{s:al}
theorem cf.len(h:cf m A R w cs k co zero D G aX H E):cs.length=8/\∀u∈cs,u.oneCell'=rs:=by
 obtain⟨d9,e,f,j,p,q,rfl,h1,r,s,x,y,z,_⟩:=h;refine⟨rfl,λu a=>?_⟩;simp only[List.mem_cons,List.not_mem_nil,or_false]at a;rcases a with rfl|rfl|rfl|rfl|rfl|rfl|rfl|rfl
 .rfl
 .exact nK h1
 .rfl
 all_goals grind [nK]
theorem cf.aa{T:ah}(h:cf m A R w cs k co zero D G aX H E)(a:af T w I)(F:∀r,r<w.heap.size->(∃i,A i r)\/R r->¬T r):cf m A R I cs k co zero D G aX H E:=by
 obtain⟨d9,e,f,j,p,q,rfl,h1,s,x,y,z,B,C⟩:=h;have ap:∀i r,r<w.heap.size->A i r\/R r->¬T r:=by grind
 exact⟨d9,e,f,j,p,q,rfl,by grind [aq.aa],aq.aa s a (ap 0),aq.aa x a (ap 1),aq.aa y a (ap 2),aq.aa z a (ap 3),aq.aa B a (ap 4),C⟩
theorem cf.W(h:cf m A R w cs k co zero D G aX H E)(a:Ext w I):cf m A R I cs k co zero D G aX H E:=h.aa (a.aa λ_=>False) λ_ _ _ h=>h
theorem ki.F9(h:ki m A R w cs k co s):io w (.agg cs.toArray) k co s:=by
 obtain⟨d9,a,e,f,j,p,rfl,h1,q,r,x,y,z,B⟩:=h;exact⟨_,rfl,d9,a,e,f,j,p,rfl,jY h1,jY q,jY r,jY x,jY y,jY z,by grind⟩
theorem io.W(h:io w v k co s)(a:Ext w I):io I v k co s:=by
 obtain⟨cs,rfl,h⟩:=h;exact⟨cs,rfl,h.W a⟩
theorem cf.old(h:cf rs A R w cs k co zero D G aX H E):cf rs (λi r=>A i r/\r<w.heap.size) R w cs k co zero D G aX H E:=by
 obtain⟨d9,e,f,j,p,q,rfl,h1,s,x,y,z,B,a⟩:=h;obtain⟨a,C⟩:=a rfl;have hm:∀i r,r<w.heap.size->A i r->A i r/\r<w.heap.size:=by grind
 exact⟨d9,e,f,j,p,q,rfl,h1,aq.X s (hm 0) λ_ _ h=>h,aq.X x (hm 1) λ_ _ h=>h,aq.X y (hm 2) λ_ _ h=>h,aq.X z (hm 3) λ_ _ h=>h,aq.X B (hm 4) λ_ _ h=>h,
  by grind⟩
theorem vO{i:Nat}{B:ah}(h:∀i j r,i≠j->A i r->¬A j r)(e:∀j r,j≠i->B r->¬A j r):∀p q r,p≠q->jO A i B p r->¬jO A i B q r:=λp q r f h1 a=>by
 unfold jO at h1 a
 grind
theorem vP{i:Nat}{B:ah}(h:∀i r,A i r->¬R r)(a:∀r,B r->¬R r):∀p r,jO A i B p r->¬R r:=λp r h1=>by
 unfold jO at h1
 grind
theorem cf.Ga{B:ah}{x:x1}{D':List (Λ)}(h:cf rs A R w cs k co zero D G aX H E){T:ah}(a:af T w I)(N:∀r,T r->A 0 r\/(∀j,¬A j r)/\¬R r)(f:bH B R I [x] D')(p:∀j r,j≠0->B r->¬A j r)(q:∀r,B r->¬R r):cf rs (jO A 0 B) R I (cs.set 3 x) k co zero D' G aX H E:=by
 obtain⟨d9,O,s,y,z,C,rfl,h1,P,F,J,K,L,e⟩:=h;obtain⟨e,M⟩:=e rfl;have Q:∀r,R r->¬T r:=by grind
 have ap:∀j r,j≠0->r<w.heap.size->A j r\/R r->¬T r:=by grind
 refine⟨d9,x,s,y,z,C,rfl,by grind [aq.aa],?_,?_,?_,?_,?_,λ_=>⟨vO e p,vP M q⟩⟩
 .exact f
 .exact aq.aa F a λr=>ap 1 r Ω
 .exact aq.aa J a λr=>ap 2 r Ω
 .exact aq.aa K a λr=>ap 3 r Ω
 .exact aq.aa L a λr=>ap 4 r Ω
theorem cf.Ry{B:ah}{x:x1}{f:List Bool}(h:cf rs A R w cs k co zero D G aX H E){T:ah}(a:af T w I)(O:∀r,T r->A 1 r\/(∀j,¬A j r)/\¬R r)(p:bH B R I [x] f)(q:∀j r,j≠1->B r->¬A j r)(s:∀r,B r->¬R r):cf rs (jO A 1 B) R I (cs.set 4 x) k co zero D f aX H E:=by
 obtain⟨d9,y,P,z,C,F,rfl,h1,J,Q,K,L,M,e⟩:=h;obtain⟨e,N⟩:=e rfl;have S:∀r,R r->¬T r:=by grind
 have ap:∀j r,j≠1->r<w.heap.size->A j r\/R r->¬T r:=by grind
 refine⟨d9,y,x,z,C,F,rfl,by grind [aq.aa],?_,?_,?_,?_,?_,λ_=>⟨vO e q,vP N s⟩⟩
 .exact aq.aa J a λr=>ap 0 r Ω
 .exact p
 .exact aq.aa K a λr=>ap 2 r Ω
 .exact aq.aa L a λr=>ap 3 r Ω
 .exact aq.aa M a λr=>ap 4 r Ω
theorem cf.kP{B:ah}{x:x1}{f:List (Λ)}(h:cf rs A R w cs k co zero D G aX H E){T:ah}(a:af T w I)(O:∀r,T r->A 2 r\/(∀j,¬A j r)/\¬R r)(p:bH B R I [x] f)(q:∀j r,j≠2->B r->¬A j r)(s:∀r,B r->¬R r):cf rs (jO A 2 B) R I (cs.set 5 x) k co zero D G f H E:=by
 obtain⟨d9,y,z,P,C,F,rfl,h1,J,K,Q,L,M,e⟩:=h;obtain⟨e,N⟩:=e rfl;have S:∀r,R r->¬T r:=by grind
 have ap:∀j r,j≠2->r<w.heap.size->A j r\/R r->¬T r:=by grind
 refine⟨d9,y,z,x,C,F,rfl,by grind [aq.aa],?_,?_,?_,?_,?_,λ_=>⟨vO e q,vP N s⟩⟩
 .exact aq.aa J a λr=>ap 0 r Ω
 .exact aq.aa K a λr=>ap 1 r Ω
 .exact p
 .exact aq.aa L a λr=>ap 3 r Ω
 .exact aq.aa M a λr=>ap 4 r Ω
theorem cf.kQ{B:ah}{x:x1}{f:List kh}(h:cf rs A R w cs k co zero D G aX H E){T:ah}(a:af T w I)(O:∀r,T r->A 3 r\/(∀j,¬A j r)/\¬R r)(p:bH B R I [x] f)(q:∀j r,j≠3->B r->¬A j r)(s:∀r,B r->¬R r):cf rs (jO A 3 B) R I (cs.set 6 x) k co zero D G aX f E:=by
 obtain⟨d9,y,z,C,P,F,rfl,h1,J,K,L,Q,M,e⟩:=h;obtain⟨e,N⟩:=e rfl;have S:∀r,R r->¬T r:=by grind
 have ap:∀j r,j≠3->r<w.heap.size->A j r\/R r->¬T r:=by grind
 refine⟨d9,y,z,C,x,F,rfl,by grind [aq.aa],?_,?_,?_,?_,?_,λ_=>⟨vO e q,vP N s⟩⟩
 .exact aq.aa J a λr=>ap 0 r Ω
 .exact aq.aa K a λr=>ap 1 r Ω
 .exact aq.aa L a λr=>ap 2 r Ω
 .exact p
 .exact aq.aa M a λr=>ap 4 r Ω
theorem cf.Rz{z:Int}(h:cf m A R w cs k co zero D G aX H E):cf m A R w (cs.set 2 (Δ z)) k co z D G aX H E:=by
 obtain⟨d9,a,e,f,j,p,rfl,h1,q,r,s,x,y,B⟩:=h;exact⟨d9,a,e,f,j,p,rfl,h1,q,r,s,x,y,B⟩
end
end Go.Proofs.YtkcigodpbndobaaGreatDoor
