/- own texts, made small by a tool (wip/ holds them as they were written): no statement of the seat. -/
import Derived.Test.YtkcigodpbndobaaGreatDoorWc
set_option linter.unusedVariables false
set_option linter.unusedSimpArgs false
set_option linter.unnecessarySimpa false
open Array renaming getElem?_eq_some_iff→Z5
open BitVec renaming ofInt→U6
open Bool renaming false→rs,true→ro,not_true→Y6,not_false→X4,true_and→V8,and_eq_true→V9,eq_iff_iff→T1
open Decidable renaming not_not→Z6
open Go renaming Value→x1,World→x3,TypeId→r9,IntKind→o5,Program→X5
open Go.Builtin renaming append_→j6,len_→W0
open Go.Instr renaming loadAt→u4,fieldAt→u6,storeAt→o7,indexAt→j4,extract→c8,buildSlice→Y1,sliceAt→V4,alloc→S5
open Go.IntKind renaming i64→Y7
open Go.Proofs.Tryz renaming prog→x7
open Int renaming toNat_natCast→u9,mul_le_mul_of_nonneg_right→V6,le_refl→R6
open List renaming getElem?_eq_some_iff→x4,mem_of_getElem?→x5,getElem?_eq_getElem→x6,getElem?_map→x8,getD_eq_getElem?_getD→u5,take_add_one→u7,replicate→r8,length_append→p8,length_map→o4,take_length→o6,mem_map→o8,mem_append→o9,take_of_length_le→n9,map_append→l7,ext_getElem?→j5,length_take→c7,mem_iff_getElem?→c9,mem_singleton→b8,eq_nil_of_length_eq_zero→Z0,range→Z2,getElem?_set_self→Z3,getElem?_eq_none→Z9,length_cons→Y3,getElem?_set→Y4,getElem?_take_of_lt→Y5,getElem?_append_right→Y9,drop_eq_getElem_cons→X1,getElem?_set_ne→X3,length_eq_one_iff→X6,getElem?_append_left→W8,append_nil→V1,map_congr_left→V2,map_set→V3,mem_range→V7,mem_of_mem_take→U1,map_cons→U3,length_set→U4,flatMap_cons→U7,mem_filter→U8,getElem?_zip_eq_some→T3,length_singleton→T4,mem_cons→T5,mem_or_eq_of_mem_set→T8,map_map→S4,map_take→S7,set_append_right→Q1,getElem_mem→Q4
open Nat renaming le_refl→p9,le_trans→Y2,zero_le→X7,zero_add→W7,mul_one→V0,mul_le_mul_right→V5,sub_self→U5,pow_le_pow_right→T6,add_mul→T7
open Option renaming toList_some→l9,isNone_some→j0,some→b9,map_some→Z4,map_eq_some_iff→Y0,map→W6,isSome_some→S9,isSome_none→R3
open Option.some renaming inj→Z7,injEq→Y8
open Prod.mk renaming injEq→T2
set_option maxHeartbeats 16000000
open Option renaming some→σ,none→ν
variable{a cs l co szs t tl:Λ}{I w:x3}{aN sv d9 v z:x1}{K:x1->Prop}{S:Nat->Prop}{c k n y:Int}{e:r9}{B N ac ad gs gz j pos:Nat}{L:List (Λ)}
namespace Go.Proofs.YtkcigodpbndobaaGreatDoor
open Go Go.Vc Go.RowKit Go.Proofs Go.Proofs.Tryz
set_option maxRecDepth 100000
theorem QH(M:Bytes l)(al:l.length<=100000):aj x7 JM [cc l] w λv I=>v=lZ l/\Ext w I:=by
 refine az func127 ?_;refine jA (λW X J=>Ext w J/\∃(m:Λ)(s:Int),W=cc m/\X=Δ s/\Bytes m/\m.length<=100000/\ri l m s) ?_ ?_
 .rintro _ _ J ⟨B,m,s,rfl,rfl,r,am,N⟩;rw[pR dd.u,bh,ai];refine⟨λO=>?_,λO=>?_⟩
  .have P:m=[]:=Z0 Ω;exact⟨by rw[uY N (by rw[P];rfl)],B⟩
  have P:m≠[]:=by grind
  refine sa.range m.length (λi _ _ C E e=>Ext J e/\∃(n:Int)(a:Bool),C= .int .u64 n/\E= .bool a/\oK n a ((m.take i).foldl fE 0)/\(m.take i).all gI=ro) Ω (by grind [Ext.refl,L1]) ?_ ?_
  .rintro i Y t3 _ _ e Z hi ⟨G,n,a,rfl,rfl,j,z⟩ an;obtain⟨b,p⟩:=aF (l:=m) hi;have ao:=r b (x5 p);rw[pR dd.u];refine bC Ω ?_;refine CF (λ_ _ C E f=>Ext J f/\∃(n:Int)(a:Bool),C= .int .u64 n/\E= .bool a/\oK n a ((m.take (i+1)).foldl fE 0)/\(m.take (i+1)).all gI=ro) ?_ ?_
   .rintro aq au a3 a4 f av;rw[aM]
    grind
   intro ay H;refine aV (λv f=>e=f/\v= .bool (!gI b)) ?_ ?_
   rotate_left
   .intro K A;rw[sz rfl dd.u r p,aP,ai];refine⟨by grind [gI],λh=>?_⟩;rw[sz rfl dd.u r p,bL]
    grind [gI]
   rintro _ _ ⟨rfl,rfl⟩;cases Q:gI b with
   |false=>
    rw[X4,bY];exact⟨by grind [uY,Dr],B.F G⟩
   |true=>
    rw[Y6,aX];have aa:=rc Q;have R:=L0 j aa;rw[Dp p,Do p,z,Q]at H;have ac:=j.1;have ad:=j.2.1;refine aV (λv f=>e=f/\v= .bool (a||decide (461168601842738790<n))) ?_ ?_
    rotate_left
    .intro K A;rw[bL,ai]
     grind
    rintro _ _ ⟨rfl,rfl⟩;by_cases S:a=ro\/461168601842738790<n
    .have q:(a||decide (461168601842738790<n))=ro:=by grind
     rw[m3 S,q]at R;rw[q,bA,Y6,aX]
     grind
    .have q:(a||decide (461168601842738790<n))=rs:=by
      grind
     rw[m5 S,q]at R;have aw:¬461168601842738790<n:=Ω
     rw[q,bA,X4,bY,iO,sz rfl dd.u r p,dR,wrap_u8 Ω Ω,e1 cM.u fN.u,lw Ω Ω,lw Ω Ω,aM,lw Ω Ω]
     grind
  .rintro Y t3 _ _ e Z ⟨G,n,a,rfl,rfl,j,z⟩;rw[o6]at z j;rw[pR dd.u];refine ci Ω ?_;have ax:=L2 j;have ac:=j.1;have ad:=j.2.1;have ae:∀{x:Int},x=m.foldl fE 0->0<=x->x<=4611686018427387904->(ab x7 (convert fN ap (.int .u64 x)) e λaf=>
     ab x7 (aO .mul ap rs rs (Δ s) af) e λag=>(λv I=>v=lZ l/\Ext w I) (.tuple #[ag,(Δ 0)]) e):=by
    intro x aA O h1;rw[e1 fN.u ap.u,lm Ω Ω,iO];have hw:Y7.wrap (s*x)=s*x:=by
     rcases N.1 with rfl|rfl<;>exact(by grind [lm])
    rw[hw];refine⟨?_,B.F G⟩
    grind [Du,Dq]
   refine aV (λv f=>e=f/\v= .int .u64 (m.foldl fE 0)) ?_ ?_
   .rintro _ _ ⟨rfl,rfl⟩;have U:=xR z ⟨R6 _,Φ⟩;exact ae rfl U.1 U.2
   intro K A;refine aV (λv f=>e=f/\v= .bool (a||decide (4611686018427387904<n))) ?_ ?_
   .rintro _ _ ⟨rfl,rfl⟩;rw[bU]
    grind
   .intro aB aC;cases a with
    |true=>rw[bY];grind
    |false=>rw[aX,bL];grind
 .intro ay H;refine aV (λv V=>w=V/\∃c:Bool,v= .bool c/\(c=ro↔l[0]?=σ 45)) ?_ ?_
  .rintro _ _ ⟨rfl,c,rfl,ah⟩;rw[bU];refine⟨λak=>?_,λq=>?_⟩
   .obtain⟨m,rfl⟩:∃m,l=45::m:=by
     have:=ah.1 ak;cases l<;>grind
    rw[CI (y:=1) (i:=1) rfl dd.u Ξ];exact H _ _ _ ⟨Ext.refl _,m,-1,rfl,rfl,λb L=>M b (.tail _ L),by grind,Ds⟩
   grind [Ext.refl,Dt]
  .intro K A;rw[pR dd.u,bL,ai];refine⟨λh=>?_,λh=>A _ _ ⟨rfl,rs,rfl,?_⟩⟩
   .obtain⟨b,L⟩:=aF (l:=l) (i:=0) Ω;rw[sz (y:=0) rfl dd.u M L,bh]
    grind
   grind
theorem QI{s:Go.Sem x1}(h:ab x7 s w λu=>u=v)(hk:K v):ab x7 s w K:=by
 obtain⟨u,h1,rfl⟩:=h;exact⟨u,h1,hk⟩
abbrev i7:Type:=Λ×Int
def iE(x:i7):List x1:=[cc x.1,Δ x.2]
theorem y8(x:i7):∀u∈iE x,u.oneCell'=ro:=by
 intro u a;simp[iE]at a;rcases a with rfl|rfl<;>rfl
def ki(w:x3)(v:x1)(L:List i7):Prop:=b4 w 2 v L.length (L.flatMap iE)
theorem y9{g:Nat}{L:List i7}(h:bj iE 2 cA w g v L):ki w v L:=h.sl
theorem Fz{L:List i7}{a:r9}(h:ki w v L):ab x7 (W0 #[fB] a #[v]) w K=K (Δ (L.length:Int)):=by
 obtain⟨_,_,_,_,_,rfl,_⟩:=h;exact iv fB.u
theorem QJ{k n:Nat}{cs:List x1}(h:b4 w k v n cs)(f:af S w I)(p:∀r,lc v r->¬S r):b4 I k v n cs:=by
 obtain⟨h1,b,o,base,cap,rfl,q,s,a,x⟩:=h;refine⟨h1,b,o,base,cap,rfl,q,s,a,?_⟩;rcases Nat.eq_zero_or_pos n with e|e
 .have:cs=[]:=Z0 (by grind);subst this;intro j v y;simp at y
 .have z:=a e;exact gH f (p b ⟨⟨b,o,ν⟩,n,cap,by rw[z],rfl⟩) x
theorem ki.aa{L:List i7}(h:ki w v L)(a:af S w I)(e:∀r,lc v r->¬S r):ki I v L:=QJ h a e
theorem FA{x:i7}{L:List i7}(h:ki w v (x::L))(a:∀b o,w.rangeAt b o (iE x)->K (.pointer (σ ⟨b,o,ν⟩))):ab x7 (j4 fB v (Δ 0)) w K:=by
 obtain⟨_,b,o,base,cap,rfl,_,_,e,f⟩:=h;have:=fv (P:=x7) (w:=w) (K:=K) (k:=.i64) (c:=cap) fB.u cA.i (show 0<(x::L).length by simp) e;rw[show((0:Nat):Int)=0 from rfl]at this;rw[this];refine a _ _ λj u p=>?_;have q:=(x4.1 p).1;rw[Nat.zero_mul,Nat.add_zero];exact f j u (by grind)
theorem QK{x:i7}{L:List i7}(h:ki w v (x::L))(s:∀j,(∀I,ki I v (x::L)->ki I j L)->(∀r,lc j r->lc v r)->K j):ab x7 (V4 fB v (σ (Δ 1)) ν ν) w K:=by
 have A:=h;obtain⟨_,b,o,base,cap,rfl,B,_⟩:=h;rw[eA fB.u cA.i (mI 1 1 rfl) gW dZ Ξ Ω (p9 _)];refine s _ (λI y=>?_) λr z=>?_
 .have:=b4.part (l:=1) (h:=(x::L).length) (m:=cap) y Ξ (p9 _) Ω (p9 _);have e:(((x::L).flatMap iE).drop (1*2)).take (((x::L).length-1)*2)=L.flatMap iE:=by
   grind [iE,n9]
  rw[e]at this;exact this
 .obtain⟨a,n,c,f,p⟩:=z;split at f
  .cases f;exact⟨_,_,_,rfl,p⟩
  .cases base with
   |none=>cases f
   |some q=>cases f;exact⟨_,_,_,rfl,p⟩
theorem QL{g n:Nat}{L:List i7}(x:y=(n:Int))(h:bj iE 2 cA w g v L)(z:n<=L.length)(A:∀p,ki w p (L.take n)->(∀r,lc p r->lc v r)->K p):ab x7 (V4 fB v ν (σ (Δ y)) ν) w K:=by
 have B:=y9 h;obtain⟨_,b,o,base,cap,rfl,E,_⟩:=h.sl;rw[eA fB.u cA.i iP (nM n y x) dZ (X7 _) Ω (p9 _)];refine A _ ?_ λr C=>?_
 .have:=b4.part (l:=0) (h:=n) (m:=cap) B (X7 _) z Ω (p9 _);have e:((L.flatMap iE).drop (0*2)).take ((n-0)*2)=(L.take n).flatMap iE:=by
   rw[Nat.zero_mul,List.drop_zero,Nat.sub_zero,sS (f:=iE) n λ_ _=>rfl]
  grind [ki]
 .obtain⟨a,n,c,j,s⟩:=C;split at j
  .cases j;exact⟨_,_,_,rfl,s⟩
  .cases base with
   |none=>cases j
   |some q=>cases j;exact⟨_,_,_,rfl,s⟩
def QM(w:x3)(e:Λ)(v:x1)(I:x3):Prop:=Ext w I/\∃a L,∃bad:Int,v= .tuple #[a,Δ bad]/\ki I a L/\L.map (·.1)=(lex e).1/\(0<=bad↔(lex e).2=rs)/\(∀r,lc a r->w.heap.size<=r)/\∀r,lc a r->∃c,ag I r cA c
theorem QN{p:x1}{q:Λ}(O:aI .u8 w p q)(am:Bytes q)(aO:q.length<=65536):aj x7 IY [p] w (QM w q):=by
 refine az func57 ?_;rw[aS cS.u O];refine sa.range q.length (λi _ _ s G J=>Ext w J/\∃g L,∃(j:List (Λ))(y:Λ)(op:Bool),G= .bool op/\bj iE 2 cA J g s L/\L.map (·.1)=(if op then j++[y]else j)/\(op=ro->y.length<=i)/\L.length<=i/\j7 (q.drop i) j y op=lex q/\∀r,lc s r->w.heap.size<=r) O.le
  ⟨Ext.refl _,0,[],[],[],rs,rfl,bj.nil _ _ _ _ _,rfl,by grind,p9 _,Mq q,by grind [gm]⟩ ?_ ?_
 rotate_left
 .rintro an t3 s G J ao ⟨E,g,L,j,y,op,rfl,B,z,_,_,A,S⟩;refine ci Ω ?_;rw[List.drop_length]at A;have A:(if op then j++[y]else j,ro)=lex q:=A;exact⟨E,s,L,-1,rfl,y9 B,by grind,by grind,S,λr Q=>by obtain⟨rfl,c,ap⟩:=dN B Q;grind⟩
 rintro i an t3 s G J ao hi ⟨E,g,L,j,y,op,rfl,B,z,aQ,aR,A,S⟩ aU;obtain⟨b,ae⟩:=aF (l:=q) hi;have aW:=am b (x5 ae);have af:q.drop i=b::q.drop (i+1):=by grind [X1]
 rw[af]at A;unfold j7 at A;refine bC Ω ?_;refine CF (λ_ _ s G V=>Ext w V/\∃g L,∃(j:List (Λ))(y:Λ)(op:Bool),G= .bool op/\bj iE 2 cA V g s L/\L.map (·.1)=(if op then j++[y]else j)/\(op=ro->y.length<=i+1)/\L.length<=i+1/\j7 (q.drop (i+1)) j y op=lex q/\∀r,lc s r->w.heap.size<=r) ?_ ?_
 .rintro aY aZ a3 a4 V a1;rw[aM]
  grind
 intro ay aq;rw[be cS.u cM.i Ψ (O.W E) ae];refine aV (λv H=>J=H/\v= .bool (c0 b)) ?_ ?_
 rotate_left
 .intro W C;unfold c0 at C;rw[bh,ai];refine⟨by grind,λh1=>?_⟩;rw[bh,ai];refine⟨by grind,λa2=>?_⟩;rw[bh,ai];refine⟨by grind,λa6=>?_⟩;rw[bh]
  grind
 rintro _ _ ⟨rfl,rfl⟩;cases U:c0 b with
 |true=>
  rw[bY]
  grind
 |false=>
  rw[aX];rw[m5 (by grind)]at A;refine aV (λv H=>J=H/\v= .bool (!b7 b)) ?_ ?_
  rotate_left
  .intro W C;unfold b7 at C;rw[aP,ai];refine⟨by grind,λh=>?_⟩;rw[bL]
   grind [ms]
  rintro _ _ ⟨rfl,rfl⟩;cases hw:b7 b with
  |false=>
   rw[X4,bY];rw[m5 (by grind)]at A;refine aV (λv H=>J=H/\∃R,ki J v R/\R.map (·.1)=j/\(∀r,lc v r->w.heap.size<=r)/\∀r,lc v r->lc s r) ?_ ?_
   .rintro v _ ⟨rfl,R,X,a7,Y,au⟩;exact⟨E,v,R,(i:Int),rfl,X,by grind,by grind,Y,λr Q=>by obtain⟨rfl,c,ap⟩:=dN B (au r Q);grind⟩
   .intro W C;cases op with
    |false=>
     rw[aX];rw[m5 Ξ]at z;exact C _ _ ⟨rfl,L,y9 B,z,S,λ_ h=>h⟩
    |true=>
     rw[bY];rw[m3 rfl]at z;have av:L.length=j.length+1:=by have:=congrArg List.length z;grind
     rw[e3 fB.u B,dR,lm Ω Ω];refine QL (n:=j.length) Ω B Ω λI X Y=>C _ _ ⟨rfl,_,X,?_,by grind,Y⟩
     grind [S7]
  |true=>
   rw[Y6,aX];rw[m3 hw]at A;refine aV (λs Z=>Ext w Z/\∃g M,∃x:i7,bj iE 2 cA Z g s (M++[x])/\M.map (·.1)=j/\x.1=(if op then y else[])/\(M++[x]).length<=i+1/\∀r,lc s r->w.heap.size<=r) ?_ ?_
   .rintro a8 Z ⟨ag,aw,M,x,aA,ba,bb,bc,aB⟩;intro aa ac _ _;have N:=aA.W ac;have ah:(M++[x])[M.length]?=σ x:=Ξ
    have bd:(M++[x]).length=M.length+1:=Ξ
    rw[e3 fB.u N,dR,lm Ω Ω,dm (i:=M.length) Ω fB.u cA.i N Ω,aT cA.p rfl,ax (o:=M.length*2+0) Ψ (N.range ah 0 _ rfl),aM,lm Ω Ω];obtain⟨bf,ak⟩:∃I,aI .u8 aa I [b]/\ab x7 (V4 cS p (σ (Δ (i:Int))) (σ (Δ ((i:Int)+1))) ν) aa (λv=>v=I):=by
     have aC:=O.W (ag.F ac);have:=uP (P:=x7) (low:=σ (Δ (i:Int))) (high:=σ (Δ ((i:Int)+1))) (K:=λv=>aI .u8 aa v [b]) cS.u cM.i aC (mI i _ rfl) (nM (i+1) ((i:Int)+1) Ω) Ω Ω λI bg=>by
      have e:((ints .u8 q).drop (i*1)).take ((i+1-i)*1)=ints .u8 [b]:=by
       simp only[V0,show i+1-i=1 by omega];rw[ints,<-List.map_drop,<-S7,af];rfl
      grind [aI.of]
     obtain⟨v,aD,aE⟩:=this;exact⟨v,aE,v,aD,rfl⟩
    refine QI ak.2 ?_;have bi:x.1.length<=65536:=by
     grind
    rw[xV cS.u cM.u dd.u ak.1,xU Θ,dm (i:=M.length) Ω fB.u cA.i N Ω,aT cA.p rfl];refine rr (a':=(x.1++[b],x.2)) dd.i rfl rfl N ah rfl Ω λbk aG bl al=>?_;have e:(M++[x]).set M.length (x.1++[b],x.2)=M++[(x.1++[b],x.2)]:=by
     grind
    rw[e]at al;refine aq _ _ _ _ _ ⟨(ag.F ac).then aG (by grind),aw,_,j,x.1++[b],ro,rfl,al,by grind,λ_=>?_,by grind,?_,aB⟩
    all_goals grind
   .intro W C;cases op with
    |true=>
     rw[bA,Y6,aX];rw[m3 rfl]at z;have av:L.length=j.length+1:=by have:=congrArg List.length z;grind
     obtain⟨M,x,rfl⟩:∃M x,L=M++[x]:=by
      have:L≠[]:=by grind
      exact⟨L.dropLast,L.getLast this,(List.dropLast_concat_getLast this).symm⟩
     grind [List.append_inj']
    |false=>
     rw[bA,X4,bY];rw[m5 Ξ]at z;rw[dw (cs:=#[cc [],Δ (i:Int)]) Ψ];refine iV (f:=iE) (a:=(([],(i:Int)):i7)) fB.u cA.i Ω rfl rfl λv9 bm bn bo ad aH=>?_;have aJ:=B.W ad;refine jo fB.u cA.i rfl aJ (by simpa using aH.sl) (y8 _) Ω Ω λI aK bp aL bq aN=>?_;have br:=E.size;have z9:=ad.size;refine C _ _ ⟨(E.F ad).then aN (by grind),aK,L,_,aL,z,rfl,Θ,λr Q=>?_⟩
     grind
structure za where
 v:x1
 t:Λ
 c:Int
def qf(y:za):List x1:=[y.v,Δ y.c]
def l8(w:x3)(g:Nat)(v:x1)(l:List (Λ×Int)):Prop:=∃L:List za,bj qf 2 cp w g v L/\(∀y∈L,∃gy,ao .i64 ap w gy y.v y.t)/\L.map (λy=>(y.t,y.c))=l
structure kj where
 aJ:x1
 d9:x1
 o:Int
 cr:x1
def fH(h:kj):List x1:=[h.aJ,h.d9,Δ h.o,h.cr]
def il(w:x3)(h:kj)(x:cq):Prop:=(∃g,ao .i64 ap w g h.aJ x.scope)/\(∃g,ao .i64 ap w g h.d9 x.co)/\h.o=x.other/\∃g,l8 w g h.cr x.lines
def iF(w:x3)(r:Nat):Prop:=∃e c,ag w r e c/\e≠ap/\e≠cp
theorem eT{g:Nat}(h:ao .i64 ap w g v l)(f:af S w I)(j:∀r,S r->iF w r\/w.heap.size<=r):ao .i64 ap I g v l:=bk h f λr a U=>by
 rcases j r U with⟨e,c,p,q,_⟩|s
 .exact cj h p (λhe=>q he.symm) a rfl
 .obtain⟨x,y⟩:=bE h a;omega
theorem zb{α:Type}{f:α->List x1}{k:Nat}{g:Nat}{L:List α}(h:bj f k e w g v L)(p:af S w I)(q:∀r,S r->(∃a c,ag w r a c/\a≠e)\/w.heap.size<=r):bj f k e I g v L:=h.aa p λr j U=>by
 rcases q r U with⟨a,c,s,x⟩|y
 .exact cO h s (λhe=>x he.symm) j
 .obtain⟨z,A⟩:=h.li j;omega
theorem l8.dT{g:Nat}{l:List (Λ×Int)}(h:l8 w g v l)(a:af S w I)(f:∀r,S r->iF w r\/w.heap.size<=r):l8 I g v l:=by
 obtain⟨L,h1,j,p⟩:=h;refine⟨L,zb h1 a λr q=>(f r q).imp (λ⟨e,c,s,_,x⟩=>⟨e,c,s,x⟩) id,λy z=>?_,p⟩;obtain⟨gy,hm⟩:=j y z;exact⟨gy,eT hm a f⟩
theorem il.dT{h:kj}{x:cq}(an:il w h x)(a:af S w I)(e:∀r,S r->iF w r\/w.heap.size<=r):il I h x:=by
 obtain⟨⟨g1,h1⟩,⟨f,j⟩,p,q,s⟩:=an;exact⟨⟨g1,eT h1 a e⟩,⟨f,eT j a e⟩,p,q,s.dT a e⟩
theorem il.W{h:kj}{x:cq}(an:il w h x)(a:Ext w I):il I h x:=an.dT (a.aa λ_=>False) λ_ h=>h.elim
theorem il.one{h:kj}{x:cq}(an:il w h x):∀u∈fH h,u.oneCell'=ro:=by
 obtain⟨⟨g1,h1⟩,⟨j,e⟩,p,q,L,f,_⟩:=an;intro u a;simp[fH]at a;rcases a with rfl|rfl|rfl|rfl
 .exact h1.ls.cells.2
 .exact e.ls.cells.2
 .rfl
 .exact (eJ f.sl).2
def oY(w:x3)(a:x1)(f:List i7)(gs:Nat)(sv:x1)(L:List kj)(e:List cq):Prop:=(ki w a f/\∀r,lc a r->∃c,ag w r cA c)/\bj fH 4 a8 w gs sv L/\e.length=L.length/\∀(i:Nat)h x,L[i]?=σ h->e[i]?=σ x->il w h x
theorem oY.dT{p:x1}{y:List i7}{L:List kj}{z:List cq}(h:oY w p y gs sv L z)(j:af S w I)(q:∀r,S r->(∃e c,ag w r e c/\e≠ap/\e≠cp/\e≠cA/\¬lc sv r)\/w.heap.size<=r):oY I p y gs sv L z:=by
 obtain⟨⟨h1,A⟩,B,E,F⟩:=h;have hw:∀r,lc p r->¬S r:=λr a U=>by
  obtain⟨c,f⟩:=A r a;rcases q r U with⟨e,G,C,_,_,s,_⟩|H
  .exact s (eI C f)
  .have:=f.lt;omega
 refine⟨⟨h1.aa j hw,λr a=>?_⟩,B.aa j λr a U=>?_,E,λi an x hi J=>(F i an x hi J).dT j λr a=>(q r a).imp (λ⟨e,c,f,K,M,_⟩=>⟨e,c,f,K,M⟩) id⟩
 .obtain⟨c,f⟩:=A r a;exact⟨c,f.aa j (hw r a)⟩
 .rcases q r U with⟨e,G,C,_,_,_,s⟩|H
  .exact s a
  .obtain⟨N,O⟩:=B.li a;omega
def i9(a:x1)(e f bad h big j m1:Int)(sv:x1):List x1:=[a,Δ e,Δ f,Δ bad,Δ h,Δ big,Δ j,Δ m1,sv]
def QO(N:Nat)(so:Option aG)(a:List i7)(e bad big m1:Int)(L:List kj)(f:List cq):Prop:=match so with
 |some s=>bad=0/\e≠0/\(big≠0↔s.big=ro)/\(s.big=rs->m1=s.m1)/\True/\a.map (·.1)=s.d8/\(∀t∈s.d8,Bytes t/\t.length<=65536)/\f.map (λx=>(x.co,x.lines))=s.m2/\L.length+a.length<=100000
 |none=>bad≠0/\L.length<=N
def bP(w:x3)(g B:Nat)(H:ah)(N:Nat)(so:Option aG):Prop:=100000<=N/\∃w0 a e gs sv L f,∃(j h bad p big q m1:Int),w0.heap.size=B/\af (λr=>r=g) w0 w/\(∃c,ag w0 g bF c)/\ag w g bF (i9 a j h bad p big q m1 sv)/\oY w0 a e gs sv L f/\(∀r,lc sv r->H r)/\QO N so e h bad big m1 L f
theorem oY.g{g:Nat}{e:x1}{f:List i7}{L:List kj}{j:List cq}(h:oY w e f gs sv L j)(q:af (λr=>r=g) w I)(s:∃c,ag w g bF c):oY I e f gs sv L j:=
 h.dT q λr a=>.inl (by
  have a:r=g:=a;subst a;obtain⟨c,p⟩:=s;exact⟨_,c,p,Φ,Φ,Φ,λx=>cO h.2.1 p Φ x⟩)
theorem bP.new{g:Nat}{H:ah}{so:Option aG}(h:bP w g B H N so)(a:af S w I)(e:∀r,S r->B<=r):bP I g B H N so:=by
 obtain⟨s,w0,x,y,gs,sv,L,z,A,C,bad,E,big,F,m1,h1,f,j,G,J,K,M⟩:=h;have p:g<w0.heap.size:=by obtain⟨c,O⟩:=j;exact O.lt
 exact⟨s,w0,x,y,gs,sv,L,z,A,C,bad,E,big,F,m1,h1,⟨Y2 f.size a.size,λr o q U p=>a.aZ r o (f.aZ r o q U p) U λP=>by
  have:=e r P;have:=(Z5.1 q).1;omega⟩,j,G.aa a λU=>by have:=e g U;omega,J,K,M⟩
theorem bP.W{g:Nat}{H:ah}{so:Option aG}(h:bP w g B H N so)(a:Ext w I):bP I g B H N so:=h.new (a.aa λ_=>False) λ_ h=>h.elim
theorem bP.base{g:Nat}{H:ah}{so:Option aG}(h:bP w g B H N so):bP w g w.heap.size H N so:=by
 obtain⟨e,w0,f,j,gs,sv,L,p,q,r,bad,s,big,x,m1,h1,y,z,a,A,C,E⟩:=h;exact⟨e,w,f,j,gs,sv,L,p,q,r,bad,s,big,x,m1,rfl,af.refl _ _,⟨_,a⟩,a,A.g y z,C,E⟩
theorem bP.dT{g:Nat}{H:ah}{so:Option aG}(h:bP w g B H N so)(j:af S w I)(p:∀r,S r->(∃e c,ag w r e c/\e≠ap/\e≠cp/\e≠cA/\e≠bF/\¬H r)\/w.heap.size<=r):bP I g I.heap.size H N so:=by
 obtain⟨s,w0,x,y,gs,sv,L,z,A,C,bad,E,big,F,m1,h1,G,J,f,K,q,M⟩:=h.base;have O:=K.g G J;have a:=f.aa j λU=>by
  rcases p g U with⟨e,c,a,_,_,_,P,_⟩|Z
  .exact P (eI a f)
  .have:=f.lt;omega
 refine⟨s,I,x,y,gs,sv,L,z,A,C,bad,E,big,F,m1,rfl,af.refl _ _,⟨_,a⟩,a,O.dT j λr Q=>(p r Q).imp (λ⟨e,c,a,R,V,W,_,X⟩=>⟨e,c,a,R,V,W,λY=>X (q r Y)⟩) id,q,M⟩
theorem bP.lt{g:Nat}{H:ah}{so:Option aG}(h:bP w g B H N so):g<B/\B<=w.heap.size:=by
 obtain⟨f,w0,j,p,gs,sv,L,q,r,s,bad,x,big,y,m1,h1,a,⟨c,e⟩,_⟩:=h;have:=e.lt;have:=a.size;omega
theorem jp{g:Nat}{H:ah}{so:Option aG}(h:bP w g B H N so):∃a,∃(e f bad j big p m1:Int),∃sv,ag w g bF (i9 a e f bad j big p m1 sv)/\(so.isSome=ro↔bad=0):=by
 obtain⟨x,w0,a,y,gs,sv,L,z,e,f,bad,j,big,p,m1,h1,A,C,r,E,F,q⟩:=h;refine⟨a,e,f,bad,j,big,p,m1,sv,r,?_⟩;cases so with
 |none=>exact⟨(λh=>by cases h),λh=>m6 h q.1⟩
 |some s=>exact⟨λ_=>q.1,λ_=>rfl⟩
theorem nd{g:Nat}{H:ah}{so:Option aG}(h:bP w g B H N so):ab x7 (bQ (Γ g)) w (λa=>ab x7 (u6 bF a 3) w λt45=>ab x7 (u4 ae t45) w λt46=>ab x7 (aO .eql ae rs ro t46 (Δ 0)) w K)=K (.bool so.isSome):=by
 obtain⟨f,j,q,bad,r,big,s,m1,sv,e,hi⟩:=jp h;rw[aK bF.p 3 e rfl,bh];congr 2;rw[T1,pl];exact hi.symm
theorem tj{g:Nat}{H:ah}{so:Option aG}(h:bP w g B H N so):ab x7 (bQ (Γ g)) w (λf=>ab x7 (u6 bF f 3) w λt45=>ab x7 (u4 ae t45) w λt46=>ab x7 (aO .neq ae rs ro t46 (Δ 0)) w K)=K (.bool (!so.isSome)):=by
 obtain⟨q,r,s,bad,x,big,y,m1,sv,j,hi⟩:=jp h;rw[aK bF.p 3 j rfl,bJ];congr 2;cases e:so.isSome with
 |true=>have a:=hi.1 e;simp[a]
 |false=>
  have a:bad≠0:=λa=>by rw[hi.2 a]at e;cases e
  simp[a]
def rH(w:x3)(g B:Nat)(H:ah)(N:Nat)(so:Option aG)(I:x3):Prop:=af (λr=>r=g) w I/\bP I g B H N so
theorem qg{g:Nat}{H:ah}{so:Option aG}{e at_:Int}(h:bP w g B H N so)(he:e≠0):aj x7 pA [Γ g,Δ e,Δ at_] w λ_ I=>rH w g B H N ν I:=by
 refine az func62 ?_;rw[nd h];cases so with
 |none=>rw[R3,aX];exact⟨af.refl _ _,h⟩
 |some s=>
  rw[S9,bY];obtain⟨j,w0,q,r,gs,sv,L,x,y,z,bad,S,big,A,m1,h1,C,E,G,K,M,O⟩:=h;rw[bR,aT bF.p rfl];refine bt (g:=g) (o:=3) ae.i rfl rfl G (by simp[i9]) λJ P U Q=>?_;rw[bR,aT bF.p rfl];refine bt (g:=g) (o:=4) ae.i rfl rfl Q (by simp[i9]) λV R W a=>?_;have a:=a;have f:=P.F R;obtain⟨_,_,_,_,_,_,_,_,X⟩:=O;exact⟨f,j,w0,q,r,gs,sv,L,x,y,z,e,at_,big,A,m1,h1,C.F f,E,a,K,M,he,Ω⟩
theorem oZ{g:Nat}{H:ah}{so:Option aG}{b:Bool}{at_:Int}(h:bP w g B H N so):aj x7 ut [Γ g,.bool b,Δ at_] w λ_ I=>rH w g B H N (so.map (ba b)) I:=by
 refine az func59 ?_;obtain⟨A,w0,C,E,gs,sv,L,G,K,M,bad,O,big,Y,m1,h1,P,Q,e,R,S,f⟩:=id h;refine aV (λv J=>w=J/\v= .bool (b&&decide (big=0)&&so.isSome)) ?_ ?_
 .rintro _ _ ⟨rfl,rfl⟩;rw[bU];refine⟨λU=>?_,λZ=>⟨af.refl _ _,A,w0,C,E,gs,sv,L,G,K,M,bad,O,big,Y,m1,h1,P,Q,e,R,S,?_⟩⟩
  .rw[V9,V9]at U;obtain⟨⟨aa,ak⟩,ab⟩:=U;rw[bR,aT bF.p rfl];refine bt (g:=g) (o:=5) ae.i rfl rfl e (by simp[i9]) λJ ac al ad=>?_;rw[bR,aT bF.p rfl];refine bt (g:=g) (o:=6) ae.i rfl rfl ad (by simp[i9]) λV ag am j=>?_;have j:=j;have W:=ac.F ag;refine⟨W,A,w0,C,E,gs,sv,L,G,K,M,bad,O,5,at_,m1,h1,P.F W,Q,j,R,S,?_⟩;cases so with
   |none=>cases ab
   |some s=>
    obtain⟨q,r,X,x,y⟩:=f;exact⟨q,r,⟨λ_=>by show(s.big||b)=ro;rw[aa,Bool.or_true],λ_=>Ω⟩,λan=>x (Bool.or_eq_false_iff.1 an).1,y⟩
  .cases so with
   |none=>exact f
   |some s=>
    obtain⟨q,r,X,x,y⟩:=f;refine⟨q,r,?_,λan=>x (Bool.or_eq_false_iff.1 an).1,y⟩;show big≠0↔(s.big||b)=ro;cases b with
    |false=>rw[Bool.or_false];exact X
    |true=>
     have a:big≠0:=by simpa using Z
     simp[a]
 .intro ay z;cases b with
  |false=>rw[aX];exact z _ _ ⟨rfl,Ξ⟩
  |true=>
   rw[bY,aK bF.p 5 e rfl,bh,ai];refine⟨λa=>?_,λa=>z _ _ ⟨rfl,by rw[ms a];simp⟩⟩;rw[nd h];exact z _ _ ⟨rfl,by rw[m7 a];simp⟩
def kP(so:Option aG):Option (Λ×aG):=so.bind dS
theorem FB{g:Nat}{H:ah}{so:Option aG}(h:bP w g B H N so):aj x7 IZ [Γ g] w λv I=>rH w g B H N ((kP so).map (·.2)) I/\∃(t:Λ)(n:Int),v= .agg #[cc t,Δ n]/\Bytes t/\t.length<=65536/\∀q,kP so=σ q->t=q.1:=by
 have aA:=h.lt;refine az func58 ?_;refine bx cA.i λe J bk y z=>?_;have h1:=h.W y;have zero:∀{f:x3},rH J g B H N ν f->ag f e cA [.string ⟨#[]⟩,Δ 0]->kP so=ν->(ab x7 (Instr.build cA #[]) f λt9=>
   aC x7 (o7 cA (Γ e) t9) f λ(_:Unit)V=>
   ab x7 (do loadVar cA (<-asAddr (Γ e))) V λaB=>(λv I=>rH w g B H N ((kP so).map (·.2)) I/\∃(t:Λ)(n:Int),v= .agg #[cc t,Δ n]/\Bytes t/\t.length<=65536/\∀q,kP so=σ q->t=q.1) aB V):=by
  intro f j G Q;rw[dw (cs:=#[.string ⟨#[]⟩,Δ 0]) Ψ];refine cb (vs:=[.string ⟨#[]⟩,Δ 0]) cA.i rfl rfl (by intro v X;simp at X;rcases X with rfl|rfl<;>rfl) G λaD Y bl aE=>?_;rw[fD cA.p cA.i rfl aE.range,Q];have aF:=y.size;have bm:=aA;refine⟨⟨iS ((y.aa _).F j.1) Y λr a he=>?_,j.2.new Y λr a=>?_⟩,[],0,rfl,(λb aH=>by cases aH),Ξ,λq R=>by cases R⟩
  .have he:r=e:=he;omega
  .have a:r=e:=a;omega
 rw[tj h1];cases so with
 |none=>
  rw[R3,X4,bY];exact zero ⟨af.refl _ _,h1⟩ z rfl
 |some s=>
 rw[S9,Y6,aX];obtain⟨aI,w0,bn,S,gs,sv,L,Z,aJ,aL,bad,aM,big,aN,m1,aO,ac,ad,A,K,aP,aQ⟩:=id h1;have aR:=K.g ac ad;obtain⟨⟨M,bo⟩,_⟩:=id aR;obtain⟨aS,ae,aU,aV,aW,ak,al,aY,aZ⟩:=id aQ;rw[aK bF.p 0 A rfl,Fz M,bh,ai];refine⟨λam=>?_,λam=>?_⟩
 .have a1:S=[]:=Z0 Ω;have C:s.d8=[]:=by rw[<-ak,a1];rfl
  have Q:kP (σ s)=ν:=by show dS s=ν;unfold dS;rw[C]
  intro f O _ _;have G:=A.W O;rw[aK bF.p 2 G rfl,aK bF.p 1 G rfl];refine(qg (h1.W O) ae).X ?_;rintro _ aD _ j;have a2:=z.lt;exact zero ⟨(O.aa _).F j.1,j.2⟩ ((z.W O).aa j.1 λhe=>by have he:=he;omega) Q
 .obtain⟨x,E,rfl⟩:∃x l,S=x::l:=by
   cases S with
   |nil=>exact m6 rfl am
   |cons x l=>exact⟨x,l,rfl⟩
  have C:s.d8=x.1::E.map (·.1):=by rw[<-ak];rfl
  have a6:kP (σ s)=σ (x.1,{s with d8:=E.map (·.1)}):=by show dS s=_;unfold dS;rw[C]
  have an:=al x.1 (by rw[C];exact .head _);rw[aK bF.p 0 A rfl];refine FA M λb o a7=>?_;rw[bB cA.p cA.i rfl a7];refine bx cA.i λbp bq br a8 ba=>?_;refine cb (vs:=iE x) cA.i rfl rfl (y8 x) ba λbs bb bu ao=>?_;have P:=a8.put bb Ω;have ap:=A.W P;rw[aK bF.p 0 ap rfl];refine QK (M.aa (P.aa λ_=>False) λ_ _ h=>h) λaq au bc=>?_;have av:=au J M;rw[bR,aT bF.p rfl];refine bt (g:=g) (o:=0) fB.i (eJ av).1 (eJ av).2 ap (by simp[i9]) λaw U bw W=>?_;have W:=W;have a2:=A.lt;have bz:=ao.lt;have bA:=z.lt;have aF:=y.size;have bd:=ao.aa U λhe=>by have he:=he;omega
  rw[bB cA.p cA.i rfl bd.range];have be:ag aw e cA [.string ⟨#[]⟩,Δ 0]:=(ag.W z P).aa U λhe=>by have he:=he;omega
  refine cb (vs:=iE x) cA.i rfl rfl (y8 x) be λbC ax bD bf=>?_;rw[fD cA.p cA.i rfl bf.range];have ay:=(P.aa _).F U;rw[a6];refine⟨⟨iS ((y.aa _).F ay) ax λr a he=>?_,?_⟩,x.1,x.2,rfl,an.1,an.2,λq R=>by cases R;rfl⟩
  .have he:r=e:=he;omega
  .have bg:oY w0 aq E gs sv L Z:=⟨⟨au w0 K.1.1,λr a=>K.1.2 r (bc r a)⟩,K.2⟩;have bi:bP aw g B H N (σ {s with d8:=E.map (·.1)}):=⟨aI,w0,aq,E,gs,sv,L,Z,aJ,aL,bad,aM,big,aN,m1,aO,ac.F ay,ad,W,bg,aP,aS,ae,aU,aV,aW,rfl,λt bj=>al t (by rw[C];exact .tail _ bj),aY,by simp at aZ;omega⟩;refine bi.new ax λr a=>?_;have a:r=e:=a;omega
theorem QP{lo hi:Int}{so:Option aG}:bb lo hi so=match kP so with
  |none=>ν
  |some (w,s)=>match ib w with
   |none=>ν
   |some n=>if lo<=n/\n<=hi then σ (n,s)else ν:=by
 cases so with
 |none=>rfl
 |some s=>rfl
theorem ma{g:Nat}{H:ah}{so:Option aG}{lo hi:Int}(h:bP w g B H N so):aj x7 nD [Γ g,Δ lo,Δ hi] w λv I=>rH w g B H N ((bb lo hi so).map (·.2)) I/\∃n at_:Int,v= .tuple #[Δ n,Δ at_]/\(∀q,bb lo hi so=σ q->n=q.1)/\(bb lo hi so=ν->n=0):=by
 have ax:=h.lt;refine az func60 ?_;refine(FB h).X ?_;rintro _ J _ ⟨⟨O,h1⟩,t,at_,rfl,Y,aA,P⟩;have aB:=h1.lt;refine bx cA.i λaC V aD Z ab=>?_;refine cb (vs:=[cc t,Δ at_]) cA.i rfl rfl (by intro v Q;simp at Q;rcases Q with rfl|rfl<;>rfl) ab λac ad aE R=>?_;have S:Ext J ac:=Z.put ad Ω;have ae:=h1.W S;rw[aQ cA.p 0 R rfl];refine(QH Y Ω).X ?_;rintro _ C _ ⟨rfl,E⟩;have G:=ae.W E;have U:=R.W E;have ag:=S.F E;have aF:=O.size;obtain⟨n,e,ak,K,al⟩:∃n e:Int,lZ t= .tuple #[Δ n,Δ e]/\(∀m,ib t=σ m->n=m/\e=0)/\(ib t=ν->e≠0):=by
  unfold lZ;cases ib t with
  |none=>exact⟨0,4,rfl,(λm hm=>by cases hm),λ_=>Ω⟩
  |some m=>exact⟨m,0,rfl,(λm hm=>by cases hm;exact⟨rfl,rfl⟩),λh=>by cases h⟩
 rw[ak,bo,bp];have a:=QP (lo:=lo) (hi:=hi) (so:=so);have W:af (λr=>r=g) w C:=O.F (ag.aa _);refine dk (λx=>af (λr=>r=g) C x/\bP x g B H N ((bb lo hi so).map (·.2))) ?_ ?_
 .rintro x ⟨y,s⟩;rw[tj s];cases z:bb lo hi so with
  |none=>
   rw[z]at s;rw[Option.map_none,R3,X4,bY];exact⟨⟨W.F y,s⟩,0,0,rfl,(λq z=>by cases z),λ_=>rfl⟩
  |some q=>
   rw[z]at s a;rw[Z4,S9,Y6,aX];intro aH L _ _;have am:=(U.aa y λhe=>by have he:=he;omega).W L;rw[aQ cA.p 1 am rfl];refine⟨⟨(W.F y).F (L.aa _),s.W L⟩,n,at_,rfl,λaI ao=>?_,λh=>by cases h⟩;cases ao;cases j:kP so with
   |none=>rw[j]at a;cases a
   |some p=>
    obtain⟨t',s1⟩:=p;have M:=P (t',s1) j;subst M;rw[j]at a;simp only at a;cases f:ib t with
    |none=>rw[f]at a;cases a
    |some m=>
     rw[f]at a;simp only at a;split at a
     .cases a;exact(K m f).1
     .cases a
 .intro ay X;refine aV (λv x=>C=x/\∃c:Bool,v= .bool c/\(c=ro->bb lo hi so=ν)/\(c=rs->(bb lo hi so).map (·.2)=(kP so).map (·.2))) ?_ ?_
  .rintro _ _ ⟨rfl,c,rfl,ap,aq⟩;rw[bU];refine⟨λh=>?_,λh=>X _ ⟨af.refl _ _,by rw[aq h];exact G⟩⟩;rw[aQ cA.p 1 U rfl];refine(qg G Ω).X ?_;rintro _ x _ ⟨y,s⟩;exact X _ ⟨y,by rw[ap h];exact s⟩
  .intro aJ A;rw[nd G];cases j:kP so with
   |none=>
    rw[j]at a;simp only at a;rw[Option.map_none,R3,aX];exact A _ _ ⟨rfl,rs,rfl,(λh=>by cases h),λ_=>by rw[a,j];rfl⟩
   |some p=>
    obtain⟨t',s1⟩:=p;have M:=P (t',s1) j;subst M;rw[j]at a;simp only at a;rw[Z4,S9,bY,bJ,ai];refine⟨λhe=>?_,λhe=>?_⟩
    .refine A _ _ ⟨rfl,ro,rfl,λ_=>?_,λh=>by cases h⟩;cases f:ib t with
     |none=>rw[a,f]
     |some m=>exact m6 (K m f).2 he
    .have au:=Z6.1 he;cases f:ib t with
     |none=>exact m6 au (al f)
     |some m=>
      rw[f]at a;simp only at a;have av:=(K m f).1;subst av;rw[aP,ai];refine⟨λaw=>A _ _ ⟨rfl,ro,rfl,λ_=>by rw[a,m5 Ω],λh=>by cases h⟩,λaw=>?_⟩;rw[bL];refine A _ _ ⟨rfl,_,rfl,λan=>?_,λan=>?_⟩
      .rw[a,m5 (by have:=rc an;omega)]
      .rw[a,m3 (by have:=of_decide_eq_false an;omega),j];rfl
theorem zc{bw bv:x1}{b:Λ}(e:aI .i64 w bw a)(s:aI .i64 w bv b):aj x7 uu [bw,bv] w λv I=>v= .bool (decide (a=b))/\Ext w I:=by
 refine az func128 ?_;rw[aS aw.u e,aS aw.u s,bJ,ai];refine⟨λh=>⟨by rw[ms];intro he;rw[he]at h;exact h rfl,Ext.refl _⟩,λh=>?_⟩;have z:a.length=b.length:=by have:=Z6.1 h;omega
 rw[aS aw.u e];refine b2.range a.length (λi _ J=>Ext w J/\a.take i=b.take i) e.le ⟨Ext.refl _,rfl⟩ ?_ ?_
 .rintro i _ J k hi ⟨q,f⟩ hk;obtain⟨x,j⟩:=aF (l:=a) hi;obtain⟨y,r⟩:=aF (l:=b) (i:=i) Ω;refine bC Ω ?_;intro V A _ _;have p:=q.F A;rw[be aw.u ap.i Ψ (e.W p) j,be aw.u ap.i Ψ (s.W p) r,bJ,ai];refine⟨λB=>⟨by rw[ms];intro he;rw[he,r]at j;exact B (Z7 j).symm,p⟩,λhe=>?_⟩;rw[aM];refine hk _ _ ⟨p,?_⟩;rw[u7,u7,f,j,r,Z6.1 he]
 .rintro _ J k ⟨q,f⟩;rw[aP,ai];refine⟨λh=>Ω,λ_=>⟨?_,q⟩⟩;rw[o6,z,o6]at f;rw[m7 f]
def iG(w:x3)(B a:Nat)(x:cq):Prop:=∃aJ d9 cr g1 e f,ag w a a8 [aJ,d9,Δ x.other,cr]/\ao .i64 ap w g1 aJ x.scope/\ao .i64 ap w e d9 x.co/\l8 w f cr x.lines/\(∀r,li aJ r\/li d9 r->B<=r)/\(∀r,li aJ r->¬li d9 r)/\B<=a
def FC(w:x3)(r:Nat):Prop:=(∃e c,ag w r e c/\e≠ap/\e≠cp/\e≠a8)\/w.heap.size<=r
theorem iG.dT{f:Nat}{x:cq}(h:iG w B f x)(a:af S w I)(q:∀r,S r->FC w r):iG I B f x:=by
 obtain⟨aJ,d9,cr,g1,s,y,h1,z,A,C,E,F,G⟩:=h;have j:∀r,S r->iF w r\/w.heap.size<=r:=λr H=>(q r H).imp (λ⟨e,c,p,J,K,_⟩=>⟨e,c,p,J,K⟩) id;refine⟨aJ,d9,cr,g1,s,y,h1.aa a λU=>?_,eT z a j,eT A a j,C.dT a j,E,F,G⟩;rcases q f U with⟨e,c,p,_,_,L⟩|M
 .exact L (eI p h1)
 .have:=h1.lt;omega
theorem iG.W{a:Nat}{x:cq}(h:iG w B a x)(e:Ext w I):iG I B a x:=h.dT (e.aa λ_=>False) λ_ h=>h.elim
theorem mb{g:Nat}{H:ah}{so:Option aG}(h:bP w g B H N so):∀r,r=g->FC w r:=λr a=>by
 subst a;obtain⟨f,j,p,bad,q,big,s,m1,sv,e,_⟩:=jp h;exact .inl ⟨_,_,e,Φ,Φ,Φ⟩
def iH(g B:Nat):ah:=λr=>r=g\/B<=r
theorem QQ{k:Nat}{acc:Λ}{s:aG}:c3 (λacc s=>match bc 0 (n-1) s with
 |none=>ν
 |some (v,s)=>if v∈acc then ν else σ (v,s)) (k+1) acc s=match bc 0 (n-1) s with
  |none=>ν
  |some (v,s')=>if v∈acc then ν else c3 (λacc s=>match bc 0 (n-1) s with
 |none=>ν
 |some (v,s)=>if v∈acc then ν else σ (v,s)) k (acc++[v]) s':=by
 rw[c3];cases bc 0 (n-1) s with
 |none=>rfl
 |some q=>
  obtain⟨v,s'⟩:=q;simp only;by_cases a:v∈acc
  .rw[m3 a,m3 a]
  .rw[m5 a,m5 a]
def FD(n:Int)(k:Nat)(acc:Λ)(s:aG):Option (Λ×aG):=c3 (λacc s=>match bc 0 (n-1) s with
 |none=>ν
 |some (v,s)=>if v∈acc then ν else σ (v,s)) k acc s
theorem FE{g f ar:Nat}{H:ah}{s:aG}{so:Option aG}{Y:x1}{all:Λ}{aN aR:x3->Prop}(an:bP w g B H N so)(b3:so=σ s\/(so=ν/\ar=0))(b4:iG w B f ⟨[],[],0,[]⟩)(b5:∀c,ag w f a8 c->c[3]?=σ (.slice ν 0 0))(bD:ao .i64 ap w gz Y all)(b6:∀r,li Y r->r<B)(dl:all.length<=100001)(dm:ar<=4611686018427387904)(aU:so=σ s->s.d8.length<=100000)(au:so=σ s->∀I x,af (iH g B) w I->ff all.length ar s=ν->bP I g B H N ν->iG I B f x->aN I)(b7:so=ν->aR w)(aW:so=σ s->∀I scope s',af (iH g B) w I->ff all.length ar s=σ (scope,s')->bP I g B H N (σ s')->iG I B f ⟨scope,scope.map λv=>all.getD v.toNat 0,0,[]⟩->(∀c,ag I f a8 c->c[3]?=σ (.slice ν 0 0))->aR I):
  cm (Δ 0) w λi z k=>
   cz (α:=x1->x3->Prop) (λ(b8:x1)(O:x3)=>
    Split b8 (ab x7 (W0 #[aw] ae #[Y]) O λt53=>
   ab x7 (aO .sub ap rs ro t53 (Δ 1)) O λca=>
   aj x7 nD [Γ g,(Δ 0),ca] O λt55 A=>
   ab x7 (c8 t55 0) A λaY=>
   ab x7 (c8 t55 1) A λcb=>
   ab x7 (bQ (Γ g)) A λcc=>
   ab x7 (u6 bF cc 3) A λcd=>
   ab x7 (u4 ae cd) A λce=>
   ab x7 (aO .neq ae rs ro ce (Δ 0)) A λcf=>
   Split cf (aN A)
    (ab x7 (u6 a8 (Γ f) 0) A λcg=>
   ab x7 (u4 aw cg) A λbG=>
   ab x7 (W0 #[aw] ae #[bG]) A λt66=>
   cm (Δ 0) A λaZ E ch=>
    ab x7 (aO .lss ae rs rs aZ t66) E λci=>
    Split ci (ab x7 (j4 aw bG aZ) E λck=>
    ab x7 (u4 ap ck) E λt70=>
    ab x7 (aO .eql ap rs rs t70 aY) E λcl=>
    Split cl (aj x7 pA [Γ g,(Δ 4),cb] E λt76 a1=>aN a1)
     (ab x7 (aO .add ae rs ro aZ (Δ 1)) E λcn=>
    ch cn E))
     (ab x7 (u6 a8 (Γ f) 0) E λcp=>
   ab x7 (u4 aw cp) E λcq=>
   aC x7 (Y1 aw 1 #[(0,aY)]) E λct Z=>
   aC x7 (j6 #[aw,aw] aw #[cq,ct]) Z λcu a2=>
   ab x7 (u6 a8 (Γ f) 0) a2 λcw=>
   aC x7 (o7 aw cw cu) a2 λ(_:Unit)av=>
   eu av λS=>
   ab x7 (u6 a8 (Γ f) 1) S λa6=>
   ab x7 (u4 aw a6) S λbH=>
   ab x7 (j4 aw Y aY) S λcA=>
   ab x7 (u4 ap cA) S λcB=>
   aC x7 (Y1 aw 1 #[(0,cB)]) S λcC X=>
    (Ext S X\/cE x7 (u4 aw a6) bH X/\cE x7 (u6 a8 (Γ f) 1) a6 X/\True)/\
   aC x7 (j6 #[aw,aw] aw #[bH,cC]) X λcD a7=>
    ab x7 (u6 a8 (Γ f) 1) a7 λcF=>
    aC x7 (o7 aw cF cD) a7 λ(_:Unit)ac=>
     ab x7 (aO .add ap rs ro i (Δ 1)) ac λcG=>
   k cG ac)))
     (aR O)) λbI=>
   ab x7 (aO .lss ap rs rs i (Δ (ar:Int))) z λcH=>
   Split cH (ab x7 (bQ (Γ g)) z λcI=>
   ab x7 (u6 bF cI 3) z λcJ=>
   ab x7 (u4 ae cJ) z λt45=>
   ab x7 (aO .eql ae rs ro t45 (Δ 0)) z λt46=>
   bI t46 z)
    (bI (.bool rs) z):=by
 have dn:=an.lt;rcases b3 with rfl|⟨rfl,rfl⟩
 rotate_left
 .refine cm.range 0 (λ_ J=>w=J) Ω rfl (λi J k hi=>Ω) ?_;rintro _ k rfl;refine aV (λv O=>w=O/\v= .bool rs) ?_ ?_
  .rintro _ _ ⟨rfl,rfl⟩;rw[aX];exact b7 rfl
  .intro ay ad;rw[aP,ai];exact⟨λh=>Ω,λ_=>ad _ _ ⟨rfl,rfl⟩⟩
 have h:=an;have aU:=aU rfl;have au:=au rfl;have aW:=aW rfl;refine cm.range ar (λi z=>∃scope P,af (iH g B) w z/\bP z g B H N (σ P)/\iG z B f ⟨scope,scope.map λv=>all.getD v.toNat 0,0,[]⟩/\scope.length=i/\scope.length+P.d8.length<=100000/\ff all.length ar s=FD all.length (ar-i) scope P/\∀c,ag z f a8 c->c[3]?=σ (.slice ν 0 0)) Ω ⟨[],s,af.refl _ _,h,b4,rfl,by simpa using aU,rfl,b5⟩ ?_ ?_
 rotate_left
 .rintro z k ⟨scope,P,ax,R,az,bJ,cK,C,ba⟩;refine aV (λv O=>z=O/\v= .bool rs) ?_ ?_
  .rintro _ _ ⟨rfl,rfl⟩;rw[aX];rw[U5]at C;exact aW z scope P ax C R az ba
  .intro ay ad;rw[aP,ai];exact⟨λh=>Ω,λ_=>ad _ _ ⟨rfl,rfl⟩⟩
 rintro i z k hi ⟨scope,P,ax,R,az,bJ,cK,C,ba⟩ hk;refine aV (λv O=>z=O/\v= .bool ro) ?_ ?_
 rotate_left
 .intro ay ad;refine bC Ω ?_;rw[nd R];exact ad _ _ ⟨rfl,rfl⟩
 rintro _ _ ⟨rfl,rfl⟩;rw[bY];have bK:∀{I:x3},af (iH g B) w I->ao .i64 ap I gz Y all:=λcL=>bk bD cL λr e U=>by
  rcases U with rfl|U
  .obtain⟨cM,G,ak,bad,cN,big,cP,m1,sv,K,_⟩:=jp h;exact cj bD K Φ e rfl
  .have:=b6 r e;omega
 rw[aS aw.u (bK ax).ls,dR,lm Ω Ω];refine(ma R).X ?_;rintro _ A _ ⟨⟨bd,M⟩,n,at_,rfl,bf,cQ⟩;rw[bo,bp,tj M];have bg:=az.dT bd (mb R);have bi:af (iH g B) w A:=ax.F (bd.X λr _ h=>.inl h);have cR:=QQ (n:=(all.length:Int)) (k:=ar-(i+1)) (acc:=scope) (s:=P);have cS:ar-i=(ar-(i+1))+1:=Ω
 rw[cS]at C;unfold FD at C;rw[cR]at C;have cT:bb 0 ((all.length:Int)-1) (σ P)=bc 0 ((all.length:Int)-1) P:=rfl;rw[cT]at M bf cQ ⊢;cases aA:bc 0 ((all.length:Int)-1) P with
 |none=>
  rw[aA]at M C;rw[Option.map_none,R3,X4,bY];exact au A _ bi C M bg
 |some q=>
  obtain⟨v,bL⟩:=q;rw[aA]at M C bf;have cU:=bf _ rfl;subst cU;have dp:=(jl aA).1;have dq:=(ds aA).1;simp only at C;rw[Z4,S9,Y6,aX];have M:bP A g B H N (σ bL):=M;obtain⟨aJ,d9,cr,g1,dt,bj,f1,f2,f3,f4,f5,f6,f7⟩:=id bg;rw[aQ a8.p 0 f1 rfl,aS aw.u f2.ls];have du:scope.length<=100000:=Ω
  refine cm.range scope.length (λj E=>A=E/\n∉scope.take j) Ω ⟨rfl,Ξ⟩ ?_ ?_
  .rintro j _ cV cW ⟨rfl,aB⟩ cX;obtain⟨u,bl⟩:=aF (l:=scope) cW;rw[aP,ai];refine⟨λ_=>?_,λh=>by simp only at h;omega⟩;rw[be aw.u ap.i Ψ f2.ls bl,bh,ai];refine⟨λhe=>?_,λcY=>?_⟩
   .refine (qg M Ω).X ?_;rintro _ a1 _ ⟨bM,cZ⟩;rw[m3 (by rw[<-he];exact x5 bl)]at C;exact au a1 _ (bi.F (bM.X λr _ h=>.inl h)) C cZ (bg.dT bM (mb M))
   .rw[aM];refine cX _ ⟨rfl,?_⟩;rw[u7,bl];intro hm;rcases o9.1 hm with hm|hm
    .exact aB hm
    .simp at hm;exact cY hm.symm
  .rintro _ cV ⟨rfl,aB⟩;rw[o6]at aB;rw[aP,ai];refine⟨λh=>by simp only at h;omega,λ_=>?_⟩;rw[m5 aB]at C;rw[aQ a8.p 0 f1 rfl];refine dr aw.u ap.i rfl λdv dw Z dx Q c0=>?_;have dy:=M.lt;refine fU aw.u ap.i rfl (f2.W Q) c0.ls Θ Θ λbm c1 a2 aD c2 bN=>?_;have aE:=f1.W Q;have f113:=aE.aa bN λhe=>cj (f2.W Q) aE Φ he rfl;rw[aT a8.p rfl];refine bt (g:=f) (o:=0) aw.i aD.ls.cells.1 aD.ls.cells.2 f113 Ξ λav bO dz aH=>?_;have aH:=aH;intro S bn _ _;have al:af (λr=>li aJ r\/r=f) Z av:=(bN.X λr _ h=>.inl h).F (bO.X λr _ h=>.inr h);have bR:∀r,(li aJ r\/r=f)->iH g B r:=λr e=>.inr (e.elim (λe=>f5 r (.inl e)) λe=>e▸f7);have bS:=(bi.F (Q.aa _)).F (al.X λr _ e=>bR r e);have c3:af (iH g B) w S:=bS.F (bn.aa _);have c4:=bk (f3.W Q) al λr e U=>by
    rcases U with U|rfl
    .exact f6 r U e
    .exact cj (f3.W Q) aE Φ e rfl
   have c5:=bk aD bO λr e he=>by
    have he:r=f:=he;subst he;exact cj aD f113 Φ e rfl
   have c6:∀r,(li aJ r\/r=f)->(∃c,ag Z r ap c)\/∃c,ag Z r a8 c:=λr e=>by
    rcases e with e|rfl
    .obtain⟨G,_⟩:=bE f2 e;obtain⟨_,⟨am,_⟩|⟨_,cs,am,K,_⟩⟩:=f2.W Q
     .rw[am]at e;obtain⟨a,c7,c,G,ak⟩:=e;cases G
     .exact .inl ⟨cs,G▸K⟩
    .exact .inr ⟨_,aE⟩
   have c9:l8 av bj cr []:=by
    obtain⟨L,V,da,bq⟩:=f4.dT (Q.aa λ_=>False) λ_ h=>h.elim;have br:=List.map_eq_nil_iff.1 bq;subst br;refine⟨[],V.aa al λr e U=>?_,λy bs=>(by cases bs),rfl⟩;rcases c6 r U with⟨c,K⟩|⟨c,K⟩
    .exact cO V K Φ e
    .exact cO V K Φ e
   have db:=(M.W Q).new al λr e=>by
    rcases bR r e with rfl|h
    .rcases e with e|e
     .exact f5 _ (.inl e)
     .exact e▸f7
    .exact h
   rw[aQ a8.p 1 (aH.W bn) rfl];have dc:all[n.toNat]?=σ (all.getD n.toNat 0):=by rw[u5,x6 Ω];rfl
   rw[fm (y:=n) (i:=n.toNat) Ω aw.u ap.i Ψ (bK c3).ls dc];refine dr aw.u ap.i rfl λdA dC X dD bT dd=>?_;refine⟨.inl bT,?_⟩;have W:=bn.F bT;have f316:=c4.W W;have bU:(scope.map λv=>all.getD v.toNat 0).length=scope.length:=o4 _;refine fU aw.u ap.i rfl f316 dd.ls (by simp at bU ⊢;omega) (by simp at bU ⊢;omega) λbV de a7 aI bW bX=>?_;have aK:=aH.W W;have bZ:=aK.aa bX λhe=>cj f316 aK Φ he rfl;rw[aT a8.p rfl];refine bt (g:=f) (o:=1) aw.i aI.ls.cells.1 aI.ls.cells.2 bZ Ξ λac b0 dE aq=>?_;have aq:=aq;rw[aM];have aL:af (λr=>li d9 r\/r=f) X ac:=(bX.X λr _ h=>.inl h).F (b0.X λr _ h=>.inr h);have b1:∀r,(li d9 r\/r=f)->B<=r:=λr e=>e.elim (λe=>f5 r (.inr e)) λe=>e▸f7;have bu:=c5.W W;have dF:=Q.size;have dG:=al.size;have bw:∀r,li bm r->B<=r/\¬li d9 r:=λr e=>by
    rcases c2 r e with h|h
    .exact⟨f5 r (.inl h),f6 r h⟩
    .exact⟨Ω,λbx=>by obtain⟨G,ak⟩:=bE f3 bx;omega⟩
   have df:=bk bu aL λr e U=>by
    rcases U with U|rfl
    .exact (bw r e).2 U
    .exact cj bu aK Φ e rfl
   have dg:=bk aI b0 λr e he=>by
    have he:r=f:=he;subst he;exact cj aI bZ Φ e rfl
   have dh:l8 ac bj cr []:=by
    obtain⟨L,V,da,bq⟩:=c9.dT (W.aa λ_=>False) λ_ h=>h.elim;have br:=List.map_eq_nil_iff.1 bq;subst br;refine⟨[],V.aa aL λr e U=>?_,λy bs=>(by cases bs),rfl⟩;rcases U with U|rfl
    .obtain⟨G,_⟩:=bE f316 U;obtain⟨_,⟨am,_⟩|⟨_,cs,am,K,_⟩⟩:=f316
     .rw[am]at U;obtain⟨a,c7,c,G,ak⟩:=U;cases G
     .exact cO V (G▸K) Φ e
    .exact cO V aK Φ e
   refine hk _ ⟨scope++[n],bL,((bS.F (W.aa _)).F (aL.X λr _ e=>.inr (b1 r e))),(db.W W).new aL b1,⟨bm,bV,cr,c1,de,bj,aq,df,by rw[l7];exact dg,dh,λr e=>?_,λr e bx=>?_,f7⟩,by rw[p8,bJ];rfl,by rw[p8];simp;omega,C,λc bz=>?_⟩
   .rcases e with e|e
    .exact (bw r e).1
    .rcases bW r e with h|h
     .exact f5 r (.inr h)
     .have:=W.size;omega
   .rcases bW r bx with h|h
    .exact (bw r e).2 h
    .obtain⟨G,ak⟩:=bE bu e;omega
   .have di:c=[bm,bV,Δ 0,cr]:=by
     unfold ag at bz aq;rw[aq]at bz;have:=(Obj.cells.inj (Z7 bz)).1;exact(Array.toList_inj.2 this).symm
    have dj:cr= .slice ν 0 0:=by
     obtain⟨dH,dI,dJ,_,_,_,bA,_⟩:=az;have b2:=ba _ bA;have bB:=bA.aa bd λhe=>by
      have he:=he;obtain⟨cM,G,ak,bad,cN,big,cP,m1,sv,K,_⟩:=jp R;subst he;exact m6 (eI K bA) Φ
     unfold ag at bB f1;rw[f1]at bB;have dk:=Array.toList_inj.2 (Obj.cells.inj (Z7 bB)).1;have R:=congrArg (λl=>l[3]?) dk;simp at R;simp at b2;rw[R,b2]
    rw[di,dj];rfl
theorem QR{x:x1->x3->Prop}(h:aI .i64 w sv l)(h1:∀z∈l,1<=z)(H:∀c:Int,(4096<c↔dD l=ro)->x (Δ c) w):
  b2 (Δ 1) (Δ 0) w λcount q a I=>
   ab x7 (aO .lss ae rs rs q (Δ (l.length:Int))) a λK=>
   Split K (cz (α:=x1->x3->Prop) (λ(L:x1)(y:x3)=>
    ab x7 (aO .add ae rs ro q (Δ 1)) y λM=>
    I L M y) λA=>
   ab x7 (j4 aw sv q) a λN=>
   ab x7 (u4 ap N) a λB=>
   cz (α:=x1->x3->Prop) (λ(O:x1)(f:x3)=>
    ab x7 (aO .mul ap rs rs count O) f λC=>
    ab x7 (aO .gtr ap rs ro C (Δ 4096)) f λP=>
    Split P (A (Δ 4097) f)
     (A C f)) λE=>
   ab x7 (aO .gtr ap rs ro B (Δ 4096)) a λQ=>
   Split Q (E (Δ 4097) a)
    (E B a))
    (x count a):=by
 refine b2.range l.length (λi c J=>w=J/\∃p:Int,p=aA ((l.take i).map λk=>min k 4097)/\1<=p/\c=Δ (if 4096<p then 4097 else p)) h.le ⟨rfl,1,by simp[aA],Ω,by rw[m5 Ω]⟩ ?_ ?_
 .rintro i _ _ R hi ⟨rfl,p,j,S,rfl⟩ U;obtain⟨z,r⟩:=aF (l:=l) hi;have X:=h1 z (x5 r);have e:aA ((l.take (i+1)).map λk=>min k 4097)=p*min z 4097:=by
   rw[j,u7,r,l9,l7,U3,List.map_nil,ym]
  have Y:p*1<=p*min z 4097:=Int.mul_le_mul_of_nonneg_left Ω Ω;refine bC Ω ?_;refine aV (λv V=>w=V/\v=Δ (if 4096<p*min z 4097 then 4097 else p*min z 4097)) ?_ ?_
  .rintro _ _ ⟨rfl,rfl⟩;rw[aM];exact U _ _ ⟨rfl,_,e.symm,Ω,rfl⟩
  intro ay s;rw[be aw.u ap.i Ψ h r];refine aV (λv V=>w=V/\v=Δ (min z 4097)) ?_ ?_
  .rintro _ _ ⟨rfl,rfl⟩;rw[iO];by_cases F:4096<p
   .rw[m3 F];have W:(4097:Int)*1<=4097*min z 4097:=Int.mul_le_mul_of_nonneg_left Ω Ω;rw[lm Ω Ω,bL,ai];refine⟨λ_=>s _ _ ⟨rfl,by rw[m3 Ω]⟩,λZ=>Ω⟩
   .rw[m5 F];have W:p*min z 4097<=4096*4097:=by
     have aa:=V6 (show p<=4096 by omega) (show 0<=min z 4097 by omega);have ac:=Int.mul_le_mul_of_nonneg_left (show min z 4097<=4097 by omega) (show(0:Int)<=4096 by omega);omega
    rw[lm Ω Ω,bL,ai];exact⟨λan=>s _ _ ⟨rfl,by rw[m3 an]⟩,λan=>s _ _ ⟨rfl,by rw[m5 an]⟩⟩
  .intro ad G;rw[bL,ai];exact⟨λan=>G _ _ ⟨rfl,by congr 1;omega⟩,λan=>G _ _ ⟨rfl,by congr 1;omega⟩⟩
 .rintro _ _ R ⟨rfl,p,j,S,rfl⟩;rw[o6]at j;rw[aP,ai];refine⟨λh=>Ω,λ_=>H _ ?_⟩;unfold dD;rw[<-j,pl];split
  .exact⟨λ_=>Ω,λ_=>Ω⟩
  .exact Iff.rfl
theorem QS{g ak:Nat}{H:ah}{so:Option aG}{ac:x3->Prop}(h:bP w g B H N so)(C:ao .i64 ap w gz d9 co)(aD:∀z∈co,1<=z/\z<=au)(bm:co.length<=100001)(S:ag w ak cp [.slice ν 0 0,Δ 0])(aE:B<=ak)(ad:∀t I aN gt,t.length=co.length->af (λr=>r=g\/r=ak\/w.heap.size<=r) w I->ag I ak cp [aN,Δ 0]->ao .i64 ap I gt aN t->(∀r,li aN r->w.heap.size<=r)->bP I g B H N ((gn co [] so).map (·.2))->(∀q,gn co [] so=σ q->t=q.1)->ac I):
  cm (Δ 0) w λW s aH=>
      ab x7 (aO .lss ae rs rs W (Δ (co.length:Int))) s λaI=>
      Split aI (ab x7 (j4 aw d9 W) s λaJ=>
      ab x7 (u4 ap aJ) s λt218=>
      ab x7 (aO .sub ap rs ro t218 (Δ 1)) s λt222=>
      aj x7 nD [Γ g,(Δ 0),t222] s λai E=>
      ab x7 (c8 ai 0) E λaK=>
      ab x7 (c8 ai 1) E λbn=>
      ab x7 (u6 cp (Γ ak) 0) E λaL=>
      ab x7 (u4 aw aL) E λaP=>
      aC x7 (Y1 aw 1 #[(0,aK)]) E λt229 aR=>
      aC x7 (j6 #[aw,aw] aw #[aP,t229]) aR λaS al=>
      ab x7 (u6 cp (Γ ak) 0) al λaU=>
      aC x7 (o7 aw aU aS) al λ(_:Unit)am=>
      ab x7 (aO .add ae rs ro W (Δ 1)) am λaV=>
      aH aV am)
       (ac s):=by
 have bq:=S.lt;have br:=h.lt;refine cm.range co.length (λj J=>∃t aN gt s1,t.length=j/\af (λr=>r=g\/r=ak\/w.heap.size<=r) w J/\ag J ak cp [aN,Δ 0]/\ao .i64 ap J gt aN t/\(∀r,li aN r->w.heap.size<=r)/\bP J g B H N s1/\gn co [] so=gn (co.drop j) t s1) C.ls.le
  ⟨[],_,0,so,rfl,af.refl _ _,S,ao.nil _ _ _ _,(λr e=>by obtain⟨a,n,c,M,X⟩:=e;cases M),h,rfl⟩ ?_ ?_
 rotate_left
 .rintro J aW ⟨t,aN,gt,s1,O,x,P,G,y,K,he⟩;refine ci Ω ?_;rw[List.drop_length]at he;cases s1 with
  |none=>
   have he:=he;exact ad t J aN gt O x P G y (by rw[he];exact K) (λq f=>by rw[he]at f;cases f)
  |some s1=>
   have he:=he;exact ad t J aN gt O x P G y (by rw[he];exact K) (λq f=>by rw[he]at f;cases f;rfl)
 rintro j J aW an ⟨t,aN,gt,s1,O,x,P,G,y,K,he⟩ aX;obtain⟨z,Y⟩:=aF (l:=co) an;have aY:=aD z (x5 Y);have bs:z<=4611686018427387904:=aY.2;have aZ:=bk C x λr e U=>by
  rcases U with rfl|rfl|U
  .obtain⟨a1,M,X,bad,a2,big,a6,m1,sv,L,_⟩:=jp h;exact cj C L Φ e rfl
  .exact cj C S Φ e rfl
  .obtain⟨M,X⟩:=bE C e;omega
 refine bC Ω ?_;rw[be aw.u ap.i Ψ aZ.ls Y,dR,lm Ω Ω];refine(ma K).X ?_;rintro _ V _ ⟨⟨Q,a7⟩,n,at_,rfl,a8,bu⟩;rw[bo,bp];have ba:ak≠g:=Ω
 have aq:=P.aa Q λhe=>ba he;have bc:∃c,ag J g bF c:=by obtain⟨a1,M,X,bad,a2,big,a6,m1,sv,L,_⟩:=jp K;exact⟨_,L⟩
 have av:=bk G Q λr e he=>by
  have he:r=g:=he;obtain⟨c,L⟩:=bc;exact cj G L Φ e he
 rw[aQ cp.p 0 aq rfl];refine dr aw.u ap.i rfl λa3 bw bd bx A bf=>?_;refine fU aw.u ap.i rfl (av.W A) bf.ls Θ Θ λbg bh bz R bi ax=>?_;have ay:=aq.W A;have az:=ay.aa ax λhe=>cj (av.W A) ay Φ he rfl;rw[aT cp.p rfl];refine bt (g:=ak) (o:=0) aw.i R.ls.cells.1 R.ls.cells.2 az Ξ λbj aA bA Z=>?_;have Z:=Z;rw[aM];have aB:af (λr=>li aN r\/r=ak) bd bj:=(ax.X λr _ h=>.inl h).F (aA.X λr _ h=>.inr h);have bB:=x.size;have bD:=Q.size;have z3:=A.size;refine aX _ ⟨t++[n],bg,bh,(bb 0 (z-1) s1).map (·.2),by simp[O],?_,Z,bk R aA λr e he=>?_,λr e=>?_,?_,?_⟩
 .refine (x.F (Q.X λr _ h=>.inl h)).F ((A.aa _).F (aB.X λr _ h=>?_));exact h.elim (λh=>.inr (.inr (y r h))) λh=>.inr (.inl h)
 .have he:r=ak:=he;subst he;exact cj R az Φ e rfl
 .rcases bi r e with h|h
  .exact y r h
  .omega
 .refine (a7.W A).new aB λr e=>?_;rcases e with e|rfl
  .have:=y r e;omega
  .exact aE
 .rw[he];have bl:co.drop j=z::co.drop (j+1):=by rw[X1 an,(x4.1 Y).2]
  rw[bl,D9];cases f:bb 0 (z-1) s1 with
  |none=>rfl
  |some q=>
   obtain⟨v,s2⟩:=q;have:=a8 _ f;subst this;rfl
theorem zd{g:Nat}(h:ao .i64 ap w g v t):∀u∈qf ⟨v,t,c⟩,u.oneCell'=ro:=by
 intro u a;simp[qf]at a;rcases a with rfl|rfl
 .exact h.ls.cells.2
 .rfl
def QT(co:Λ)(cnt i:Nat)(s0:aG)(A:List (Λ×Int))(so:Option aG):Prop:=(∃s,so=σ s/\c3 (eP co) cnt [] s0=c3 (eP co) (cnt-i) A s/\A.length+s.d8.length<=100000)\/(so=ν/\c3 (eP co) cnt [] s0=ν)
theorem QU{g K g1 ba Y:Nat}{H:ah}{s0:aG}{aJ cr:x1}{scope:Λ}{o:Int}{aE:List (Λ×Int)}{bW:x3->Prop}(h:bP w g B H N (σ s0))(f1:ag w K a8 [aJ,d9,Δ o,cr])(f2:ao .i64 ap w g1 aJ scope)(f3:ao .i64 ap w ba d9 co)(f4:l8 w Y cr aE)(f5:∀r,li aJ r\/li d9 r->B<=r)(f6:∀r,li aJ r->¬li d9 r)(f7:B<=K)(cT:∀z∈co,1<=z/\z<=au)(cU:co.length<=100001)(eN:n<=4611686018427387904)(bs:0<n->aE=[]/\∀r,¬lc cr r)(cV:s0.d8.length<=100000)(bX:∀I A bu,af (iH g B) w I->iG I B K ⟨scope,co,o,A⟩->bP I g B H N bu->(n<=0->A=aE/\bu=σ s0)->(0<n->bu=(c3 (eP co) n.toNat [] s0).map (·.2)/\∀q,c3 (eP co) n.toNat [] s0=σ q->A=q.1)->bW I):
  cm (Δ 0) w λbZ ac cW=>
     cz (α:=x1->x3->Prop) (λ(cX:x1)(b0:x3)=>
      Split cX (aC x7 (S5 cp ro (.tuple #[])) b0 λx Z=>
     ab x7 (u6 a8 (Γ K) 1) Z λcY=>
     ab x7 (u4 aw cY) Z λb1=>
     ab x7 (W0 #[aw] ae #[b1]) Z λcZ=>
     cm (Δ 0) Z λbw ad c0=>
      ab x7 (aO .lss ae rs rs bw cZ) ad λc1=>
      Split c1 (ab x7 (j4 aw b1 bw) ad λc2=>
      ab x7 (u4 ap c2) ad λt218=>
      ab x7 (aO .sub ap rs ro t218 (Δ 1)) ad λt222=>
      aj x7 nD [Γ g,(Δ 0),t222] ad λb2 aH=>
      ab x7 (c8 b2 0) aH λc4=>
      ab x7 (c8 b2 1) aH λeO=>
      ab x7 (u6 cp x 0) aH λc5=>
      ab x7 (u4 aw c5) aH λc6=>
      aC x7 (Y1 aw 1 #[(0,c4)]) aH λt229 c7=>
      aC x7 (j6 #[aw,aw] aw #[c6,t229]) c7 λc9 b3=>
      ab x7 (u6 cp x 0) b3 λda=>
      aC x7 (o7 aw da c9) b3 λ(_:Unit)b4=>
      ab x7 (aO .add ae rs ro bw (Δ 1)) b4 λdb=>
      c0 db b4)
       (aj x7 nD [Γ g,(Δ 0),(Δ 4611686018427387904)] ad λb5 G=>
     ab x7 (c8 b5 0) G λdc=>
     ab x7 (c8 b5 1) G λdd=>
     ab x7 (u6 a8 (Γ K) 3) G λde=>
     ab x7 (u4 ej de) G λb6=>
     ab x7 (W0 #[ej] ae #[b6]) G λdf=>
     cm (Δ 0) G λbz M dg=>
      ab x7 (aO .lss ae rs rs bz df) M λdh=>
      Split dh (cz (α:=x3->Prop) (λ(aA:x3)=>
       ab x7 (aO .add ae rs ro bz (Δ 1)) aA λdi=>
       dg di aA) λb7=>
      ab x7 (j4 ej b6 bz) M λdj=>
      ab x7 (u4 cp dj) M λdl=>
      aC x7 (S5 cp ro (.tuple #[])) M λy b9=>
      aC x7 (o7 cp y dl) b9 λ(_:Unit)P=>
      cz (α:=x1->x3->Prop) (λ(dn:x1)(aI:x3)=>
       Split dn (aj x7 pA [Γ g,(Δ 4),dd] aI λeQ ca=>
        b7 ca)
        (b7 aI)) λcc=>
      ab x7 (bQ (Γ g)) P λdp=>
      ab x7 (u6 bF dp 3) P λdq=>
      ab x7 (u4 ae dq) P λdr=>
      ab x7 (aO .eql ae rs ro dr (Δ 0)) P λdt=>
      Split dt (ab x7 (u6 cp x 0) P λdu=>
       ab x7 (u4 aw du) P λdv=>
      ab x7 (u6 cp y 0) P λdw=>
      ab x7 (u4 aw dw) P λdx=>
      aj x7 uu [dv,dx] P λdy cd=>
      cc dy cd)
       (cc (.bool rs) P))
       (ab x7 (u6 cp x 1) M λdz=>
     aC x7 (o7 ap dz dc) M λ(_:Unit)al=>
     ab x7 (u6 a8 (Γ K) 3) al λdA=>
     ab x7 (u4 ej dA) al λdC=>
     ab x7 (u4 cp x) al λdD=>
     aC x7 (Y1 ej 1 #[(0,dD)]) al λdE bd=>
     aC x7 (j6 #[ej,ej] ej #[dC,dE]) bd λdF bA=>
     ab x7 (u6 a8 (Γ K) 3) bA λdG=>
     aC x7 (o7 ej dG dF) bA λ(_:Unit)am=>
     ab x7 (aO .add ap rs ro bZ (Δ 1)) am λdH=>
     cW dH am)))
       (bW b0)) λce=>
     ab x7 (aO .lss ap rs rs bZ (Δ n)) ac λdI=>
     Split dI (ab x7 (bQ (Γ g)) ac λdJ=>
     ab x7 (u6 bF dJ 3) ac λdK=>
     ab x7 (u4 ae dK) ac λdL=>
     ab x7 (aO .eql ae rs ro dL (Δ 0)) ac λdM=>
     ce dM ac)
      (ce (.bool rs) ac):=by
 have dO:=h.lt;refine cm.range n.toNat (λi J=>∃A so cr Y,af (iH g B) w J/\ag J K a8 [aJ,d9,Δ o,cr]/\ao .i64 ap J g1 aJ scope/\ao .i64 ap J ba d9 co/\l8 J Y cr A/\(0<n->∀r,lc cr r->B<=r)/\bP J g B H N so/\(n<=0->A=aE/\so=σ s0)/\(0<n->QT co n.toNat i s0 A so)) Ω
  ⟨aE,σ s0,cr,Y,af.refl _ _,f1,f2,f3,f4,λW r C=>m6 C ((bs W).2 r),h,λ_=>⟨rfl,rfl⟩,λW=>.inl ⟨s0,rfl,by rw[(bs W).1];rfl,by rw[(bs W).1];simpa using cV⟩⟩ ?_ ?_
 rotate_left
 .rintro J k ⟨A,so,cr,Y,aK,aB,be,aL,aR,bD,an,cf,E⟩;refine aV (λv V=>J=V/\v= .bool rs) ?_ ?_
  .rintro _ _ ⟨rfl,rfl⟩;rw[aX];refine bX J A so aK ⟨aJ,d9,cr,g1,ba,Y,aB,be,aL,aR,f5,f6,f7⟩ an cf λW=>?_;rcases E W with⟨s,rfl,he,_⟩|⟨rfl,he⟩
   .rw[U5]at he;rw[he];exact⟨rfl,λq O=>by cases O;rfl⟩
   .rw[he];exact⟨rfl,λq O=>by cases O⟩
  .intro ay bE;rw[aP,ai];exact⟨λh=>Ω,λ_=>bE _ _ ⟨rfl,rfl⟩⟩
 rintro i J k hi ⟨A,so,cr,Y,aK,aB,be,aL,aR,bD,an,cf,E⟩ hk;have W:0<n:=Ω
 refine aV (λv V=>J=V/\v= .bool so.isSome) ?_ ?_
 rotate_left
 .intro ay bE;refine bC Ω ?_;rw[nd an];exact bE _ _ ⟨rfl,rfl⟩
 rintro _ _ ⟨rfl,rfl⟩;rcases E W with⟨e7,rfl,he,eR⟩|⟨rfl,he⟩
 rotate_left
 .rw[R3,aX];refine bX J A ν aK ⟨aJ,d9,cr,g1,ba,Y,aB,be,aL,aR,f5,f6,f7⟩ an (λh=>Ω) λ_=>?_;rw[he];exact⟨rfl,λq O=>by cases O⟩
 rw[S9,bY];have eS:=an.lt;refine bx cp.i λak Z eU aU bG=>?_;have bG:ag Z ak cp [.slice ν 0 0,Δ 0]:=bG;have dP:=aB.W aU;have cg:=aL.W aU;have eV:=aU.size;have eW:=aB.lt;rw[aT a8.p rfl,ax Ψ (dP.cell rfl),aS aw.u cg.ls];refine QS (an.W aU) cg cT cU bG Ω λt ad aN gt eX dQ dR dS dU dV dW=>?_;refine(ma dV).X ?_;rintro _ G _ ⟨⟨bH,bf⟩,c,at_,rfl,dX,eY⟩;rw[bo,bp];have bI:ak≠g:=Ω
 have ch:K≠g:=by have:=h.lt;omega
 have dY:af (λr=>r=g\/r=ak\/Z.heap.size<=r) Z G:=dQ.F (bH.X λr _ h=>.inl h);have ck:∀{S:Nat->Prop},(∀r,S r->r=g\/J.heap.size<=r)->∀r,S r->iF J r\/J.heap.size<=r:=λdZ r C=>(dZ r C).imp (λhe=>by
  subst he;obtain⟨cl,aW,aY,bad,cn,big,cq,m1,sv,E,_⟩:=jp an;exact⟨_,_,E,Φ,Φ⟩) id
 have bg:af (λr=>r=g\/J.heap.size<=r) J G:=(aU.aa _).F (dY.X λr _ h=>h.elim .inl λh=>h.elim (λh=>.inr Ω) λh=>.inr Ω);have ct:=aB.aa bg λh=>h.elim ch λh=>Ω
 obtain⟨L,bh,cu,bJ⟩:=aR.dT bg (ck λr C=>C);have cw:=dR.aa bH λhe=>bI he;have cA:=bk dS bH λr C he=>by
  have he:r=g:=he;have:=dU r C;omega
 have eZ:L.length=A.length:=by rw[<-bJ,o4]
 rw[aQ a8.p 3 ct rfl,e3 ej.u bh];generalize cB:(bb 0 4611686018427387904 (W6 (λx=>x.snd) (gn co [] (σ e7)))).map (·.2)=aq at bf;have e0:=bg.size;refine cm.range L.length (λj M=>af (λr=>r=g) G M/\bP M g B H N (if t∈(L.take j).map (·.t)then ν else aq)) bh.le ⟨af.refl _ _,by simpa using bf⟩ ?_ ?_
 .rintro j M ea cC ⟨Q,aZ⟩ eb;obtain⟨y,R⟩:=aF (l:=L) cC;have bK:∃c,ag G g bF c:=by obtain⟨cl,aW,aY,bad,cn,big,cq,m1,sv,E,_⟩:=jp bf;exact⟨_,E⟩
  have av:∀r,r=g->iF G r\/G.heap.size<=r:=λr C=>by
   subst C;obtain⟨c,E⟩:=bK;exact .inl ⟨_,c,E,Φ,Φ⟩
  have bi:=zb bh Q λr C=>(av r C).imp (λ⟨e,c,E,_,a1⟩=>⟨e,c,E,a1⟩) id;obtain⟨e1,ec⟩:=cu y (x5 R);have cD:=eT ec Q av;have bL:=eT cA Q av;have bj:=cw.aa Q λhe=>bI he;refine bC Ω ?_;have bM:t∈(L.take (j+1)).map (·.t)↔t∈(L.take j).map (·.t)\/t=y.t:=by
   rw[u7,R,l9,l7,o9];simp
  refine dk (λaA=>af (λr=>r=g) G aA/\bP aA g B H N (if t∈(L.take (j+1)).map (·.t)then ν else aq)) ?_ ?_
  .rintro aA ed;rw[aM];exact eb _ ed
  intro e2 cE;rw[dm rfl ej.u cp.i bi cC,bB cp.p cp.i rfl (bi.range R)];refine bx cp.i λgy b9 e4 ee ef=>?_;refine cb (vs:=qf y) cp.i rfl rfl (zd cD) ef λP eg e5 eh=>?_;have a2:=ee.put eg Ω;have cF:=aZ.W a2;have cG:af (λr=>r=g) G P:=Q.F (a2.aa _);refine aV (λv aI=>∃b:Bool,v= .bool b/\Ext P aI/\(b=ro->t=y.t)/\(b=rs->t≠y.t\/(if t∈(L.take j).map (·.t)then ν else aq)=ν)) ?_ ?_
  .rintro _ aI ⟨b,rfl,bN,ei,ek⟩;have az:=cF.W bN;cases b with
   |true=>
    rw[bY];refine(qg az Ω).X ?_;rintro _ ca _ ⟨em,en⟩;refine cE _ ⟨(cG.F (bN.aa _)).F em,?_⟩;rw[m3 (bM.2 (.inr (ei rfl)))];exact en
   |false=>
    rw[aX];refine cE _ ⟨cG.F (bN.aa _),?_⟩;by_cases hm:t∈(L.take j).map (·.t)
    .rw[m3 (bM.2 (.inl hm))];rw[m3 hm]at az;exact az
    .rw[m5 hm]at az;rcases ek rfl with a1|cH
     .rw[m5 (λh=>(bM.1 h).elim hm a1)];exact az
     .rw[m5 hm]at cH;rw[cH]at az ⊢;split<;>exact az
  .intro e6 cI;rw[nd cF];cases a6:(if t∈(L.take j).map (·.t)then ν else aq)with
   |none=>
    rw[R3,aX];exact cI _ _ ⟨rs,rfl,Ext.refl _,(λh=>by cases h),λ_=>.inr a6⟩
   |some e8=>
    rw[S9,bY];have eo:=bj.W a2;rw[aQ cp.p 0 eo rfl,aQ cp.p 0 eh rfl];refine(zc (bL.ls.W a2) (cD.ls.W a2)).X ?_;rintro _ cd _ ⟨rfl,ep⟩;exact cI _ _ ⟨_,rfl,ep,λh=>rc h,λh=>.inl (of_decide_eq_false h)⟩
 .rintro M ea ⟨Q,aZ⟩;rw[o6]at aZ;have er:L.map (·.t)=A.map (·.1):=by rw[<-bJ,S4];rfl
  rw[er]at aZ;have bK:∃c,ag G g bF c:=by obtain⟨cl,aW,aY,bad,cn,big,cq,m1,sv,E,_⟩:=jp bf;exact⟨_,E⟩
  have av:∀r,r=g->iF G r\/G.heap.size<=r:=λr C=>by
   subst C;obtain⟨c,E⟩:=bK;exact .inl ⟨_,c,E,Φ,Φ⟩
  have cJ:∀r,(r=g\/J.heap.size<=r)->iF J r\/J.heap.size<=r:=ck λr C=>C;have bl:af (λr=>r=g\/J.heap.size<=r) J M:=bg.F (Q.X λr _ h=>.inl h);have es:=ct.aa Q λhe=>ch he;have et:=eT be bl cJ;have eu:=eT aL bl cJ;have bi:=zb bh Q λr C=>(av r C).imp (λ⟨e,c,E,_,a1⟩=>⟨e,c,E,a1⟩) id;have ev:∀y∈L,∃gy,ao .i64 ap M gy y.v y.t:=λy R=>by
   obtain⟨gy,hm⟩:=cu y R;exact⟨gy,eT hm Q av⟩
  have bL:=eT cA Q av;have bj:=cw.aa Q λhe=>bI he;refine ci Ω ?_;rw[aT cp.p rfl];refine bt (g:=ak) (o:=1) ap.i rfl rfl bj Ξ λal aD e9 bO=>?_;have bO:=bO;have ew:K≠ak:=Ω
  have cK:=es.aa aD λhe=>ew he;have fa:J.heap.size<=ak:=Ω
  have ey:∀r,lc cr r->r≠ak:=λr C=>by obtain⟨aW,aY⟩:=aR.choose_spec.1.li C;omega
  have ez:=bi.aa aD λr C he=>ey r C he;rw[aQ a8.p 3 cK rfl,bB cp.p cp.i rfl bO.range];let a:za:=⟨aN,t,c⟩;have bm:∀{v:x1}{a7:Nat}{l:Λ},ao .i64 ap M a7 v l->ao .i64 ap al a7 v l:=λhm=>bk hm aD λr C he=>by
   have he:r=ak:=he;exact cj hm bj Φ C he
  have cL:=bm bL;refine iV (f:=qf) (a:=a) ej.u cp.i Ω rfl rfl λv45 fb bd fc X eA=>?_;have bR:=ez.W X;refine jo (f:=qf) (a:=a) ej.u cp.i rfl bR (by simpa using eA.sl) (zd (cL.W X)) Ω Ω λcM cN bA bn eB cP=>?_;have bS:=cK.W X;have cQ:=bS.aa cP λhe=>cO bR bS Φ he;rw[aT a8.p rfl];refine bt (g:=K) (o:=3) ej.i (eJ bn.sl).1 (eJ bn.sl).2 cQ Ξ λam cR fd bT=>?_;have bT:=bT;rw[aM];have bU:af (λr=>lc cr r\/r=K) bd am:=(cP.X λr _ h=>.inl h).F (cR.X λr _ h=>.inr h);have bq:∀{v:x1}{a7:Nat}{l:Λ},ao .i64 ap bd a7 v l->ao .i64 ap am a7 v l:=λhm=>bk hm bU λr C U=>by
   rcases U with U|rfl
   .obtain⟨rfl,fe,E⟩:=dN bR U;exact cj hm E Φ C rfl
   .exact cj hm bS Φ C rfl
  have cS:∀r,(lc cr r\/r=K)->B<=r:=λr C=>C.elim (λC=>bD W r C) λC=>C▸f7;have eC:bP al g B H N (if t∈A.map (·.1)then ν else aq):=aZ.new aD λr C=>by
   have C:r=ak:=C;omega
  have eD:=(eC.W X).new bU cS;have eE:af (iH g B) J am:=((bl.X λr _ h=>h.elim .inl λh=>.inr Ω).F (aD.X λr _ h=>.inr (by have h:r=ak:=h;omega))).F ((X.aa _).F (bU.X λr _ h=>.inr (cS r h)));have eF:l8 am cN cM (A++[(t,c)]):=⟨L++[a],bn.aa cR λr C he=>by
   have he:r=K:=he;subst he;exact cO bn cQ Φ C,λy R=>by
   rcases o9.1 R with R|R
   .obtain⟨gy,hm⟩:=ev y R;exact⟨gy,bq ((bm hm).W X)⟩
   .rw[b8.1 R];exact⟨gt,bq (cL.W X)⟩,by rw[l7,bJ];rfl⟩
  refine hk _ ⟨A++[(t,c)],_,cM,cN,aK.F eE,bT,bq ((bm et).W X),bq ((bm eu).W X),eF,λ_ r C=>?_,eD,λh=>Ω,λ_=>?_⟩
  .rcases eB r C with h|h
   .exact bD W r h
   .have:=aK.size;have:=bl.size;have:=aD.size;have:=X.size;have:=dO.2;omega
  .have eH:n.toNat-i=(n.toNat-(i+1))+1:=Ω
   rw[eH]at he;obtain⟨eI,eK⟩:=Ed dW dX;cases O:bb 0 au ((gn co [] (σ e7)).map (·.2))with
   |none=>
    have a6:aq=ν:=by rw[<-cB];show(bb 0 au _).map _=ν;rw[O];rfl
    rw[rl (eI O)]at he;refine .inr ⟨?_,he⟩;rw[a6];split<;>rfl
   |some q=>
    have a6:aq=σ q.2:=by rw[<-cB];show(bb 0 au _).map _=_;rw[O];rfl
    have br:=eK q O;by_cases hm:t∈A.map (·.1)
    .rw[m3 hm]at br;rw[rl br]at he;exact .inr ⟨by rw[m3 hm],he⟩
    .rw[m5 hm]at br;rw[vc br]at he;refine .inl ⟨q.2,by rw[m5 hm,a6],he,?_⟩;cases bV:gn co [] (σ e7)with
     |none=>rw[bV]at O;cases O
     |some p=>
      rw[bV]at O;obtain⟨t',s1⟩:=p;have aW:=bV;obtain⟨u,_,_,eL⟩:=yi aW;have aY:bc 0 au s1=σ q:=O;obtain⟨ff,s2⟩:=q;have eM:=ds aY;have:=eL.1;have:=eM.1;rw[p8];simp only[T4];omega
def lz(s:aG):Prop:=s.big=rs->0<=s.m1/\s.m1<=16384
def lA(e:Bool)(ar:Nat)(scope co:Λ)(f:Option aG):Option (cq×aG):=match bb 0 au (f.map (ba (decide (6<ar)||dD co)))with
 |none=>ν
 |some (other,h)=>match dM co h with
  |none=>ν
  |some (lines,a)=>σ (⟨scope,co,other,lines⟩,if e=ro then{a with m2:=a.m2++[(co,lines)]}else a)
theorem FF{s s':aG}{l:List (Λ×Int)}(h:dM co s=σ (l,s')):s'.d8.length+1<=s.d8.length/\s'.m2=s.m2:=by
 unfold dM at h;cases e:bc (-au) au s with
 |none=>rw[e]at h;cases h
 |some q=>
  obtain⟨n,s1⟩:=q;have j:=ds e;have y:=j.1;have p:=j.eqs.2.2;rw[e]at h;simp only at h;split at h
  .split at h
   .cases h
   .split at h
    .cases h;exact⟨Ω,p⟩
    .cases h
  .have bi:=h;have:=kH (λ_ t=>t.d8.length<=s1.d8.length/\t.m2=s1.m2) (λacc t a t' r x=>by
    obtain⟨_,_,_,w⟩:=pY x;have h1:=w.1;have f:=w.eqs.2.2;exact⟨by have:=r.1;omega,f.F r.2⟩) n.toNat [] (ba (decide (16384<min (s1.m1+n) au)) {s1 with m1:=min (s1.m1+n) au}) l s' ⟨p9 _,rfl⟩ bi
   obtain⟨⟨h1,f⟩,_⟩:=this;exact⟨Ω,f.F p⟩
theorem vS{g:Nat}{H:ah}{s:aG}(h:bP w g B H N (σ s)):s.d8.length<=100000/\s.m2.length+s.d8.length<=100000:=by
 obtain⟨j,w0,p,q,gs,sv,L,r,x,y,bad,z,big,A,m1,h1,C,E,F,e,G,I,J,K,M,O,a,P,f,Q⟩:=h;have R:=e.2.2.1;refine⟨by rw[<-a,o4];omega,by rw[<-a,<-f,o4,o4];omega⟩
def FG(w:x3)(g h B:Nat)(H:ah)(e:Option (cq×aG))(v:x1)(I:x3):Prop:=∃f x a,af (λr=>r=g\/H r\/r=h\/B<=r) w I/\v= .agg (fH f).toArray/\il I f x/\bP I g I.heap.size a 100001 (e.map (·.2))/\(∀q,e=σ q->x=q.1)/\(∀r,H r->a r)/\(∀r,a r->H r\/B<=r)/\∀r,a r->r<I.heap.size
theorem FH{g E ar:Nat}{H:ah}{R:Option aG}{bf:Bool}{dx:Int}{scope:Λ}{Q:x1->x3->Prop}(h:bP w g B H 100000 R)(dy:iG w B E ⟨scope,co,0,[]⟩)(fh:∀c,ag w E a8 c->c[3]?=σ (.slice ν 0 0))(dz:∀z∈co,1<=z/\z<=au)(fi:co.length<=100001)(dA:ag w N a8 [.slice ν 0 0,.slice ν 0 0,Δ 0,.slice ν 0 0])(jj:N<B)(cF:¬H N)(cG:∀r,H r->r<B)(fj:∀s2,R=σ s2->lz s2)(fk:∀v I,FG w g N B H (lA bf ar scope co R) v I->Q v I):
  ab x7 (u6 a8 (Γ E) 1) w λfm=>
  ab x7 (u4 aw fm) w λdC=>
  ab x7 (W0 #[aw] ae #[dC]) w λfo=>
  b2 (Δ 1) (Δ 0) w λcount cW aD fp=>
   ab x7 (aO .lss ae rs rs cW fo) aD λfq=>
   Split fq (cz (α:=x1->x3->Prop) (λ(fs:x1)(dE:x3)=>
    ab x7 (aO .add ae rs ro cW (Δ 1)) dE λft=>
    fp fs ft dE) λdF=>
   ab x7 (j4 aw dC cW) aD λfu=>
   ab x7 (u4 ap fu) aD λdH=>
   cz (α:=x1->x3->Prop) (λ(fv:x1)(cH:x3)=>
    ab x7 (aO .mul ap rs rs count fv) cH λdI=>
    ab x7 (aO .gtr ap rs ro dI (Δ 4096)) cH λfw=>
    Split fw (dF (Δ 4097) cH)
     (dF dI cH)) λdJ=>
   ab x7 (aO .gtr ap rs ro dH (Δ 4096)) aD λfx=>
   Split fx (dJ (Δ 4097) aD)
    (dJ dH aD))
    (cz (α:=x3->Prop) (λ(bV:x3)=>
   aj x7 nD [(Γ g),(Δ 0),(Δ 4611686018427387904)] bV λdK bC=>
   ab x7 (c8 dK 0) bC λfy=>
   ab x7 (c8 dK 1) bC λjk=>
   ab x7 (u6 a8 (Γ E) 2) bC λfz=>
   aC x7 (o7 ap fz fy) bC λ(_:Unit)bg=>
   aj x7 nD [(Γ g),(Δ (-4611686018427387904)),(Δ 4611686018427387904)] bg λdL O=>
   ab x7 (c8 dL 0) O λbD=>
   ab x7 (c8 dL 1) O λdO=>
   ab x7 (bQ (Γ g)) O λfA=>
   ab x7 (u6 bF fA 3) O λt131=>
   ab x7 (u4 ae t131) O λfB=>
   ab x7 (aO .neq ae rs ro fB (Δ 0)) O λfE=>
   Split fE (ab x7 (u4 a8 (Γ E)) O λbW=>
    aC x7 (o7 a8 (Γ N) bW) O λ(_:Unit)bh=>
    ab x7 (do loadVar a8 (<-asAddr (Γ N))) bh λbX=>
 Q bX bh)
    (cz (α:=x3->Prop) (λ(aU:x3)=>
    cm (Δ 0) aU λdP bn fF=>
     cz (α:=x1->x3->Prop) (λ(fG:x1)(bZ:x3)=>
      Split fG (aC x7 (S5 cp ro (.tuple #[])) bZ λx cI=>
     ab x7 (u6 a8 (Γ E) 1) cI λfI=>
     ab x7 (u4 aw fI) cI λdQ=>
     ab x7 (W0 #[aw] ae #[dQ]) cI λfJ=>
     cm (Δ 0) cI λcX bE fK=>
      ab x7 (aO .lss ae rs rs cX fJ) bE λfL=>
      Split fL (ab x7 (j4 aw dQ cX) bE λfM=>
      ab x7 (u4 ap fM) bE λt218=>
      ab x7 (aO .sub ap rs ro t218 (Δ 1)) bE λt222=>
      aj x7 nD [(Γ g),(Δ 0),t222] bE λdS b0=>
      ab x7 (c8 dS 0) b0 λfN=>
      ab x7 (c8 dS 1) b0 λjm=>
      ab x7 (u6 cp x 0) b0 λfO=>
      ab x7 (u4 aw fO) b0 λfP=>
      aC x7 (Y1 aw 1 #[(0,fN)]) b0 λt229 fQ=>
      aC x7 (j6 #[aw,aw] aw #[fP,t229]) fQ λfR dU=>
      ab x7 (u6 cp x 0) dU λfS=>
      aC x7 (o7 aw fS fR) dU λ(_:Unit)dV=>
      ab x7 (aO .add ae rs ro cX (Δ 1)) dV λfU=>
      fK fU dV)
       (aj x7 nD [(Γ g),(Δ 0),(Δ 4611686018427387904)] bE λdW bG=>
     ab x7 (c8 dW 0) bG λfV=>
     ab x7 (c8 dW 1) bG λfW=>
     ab x7 (u6 a8 (Γ E) 3) bG λfX=>
     ab x7 (u4 ej fX) bG λdX=>
     ab x7 (W0 #[ej] ae #[dX]) bG λfY=>
     cm (Δ 0) bG λcY bH fZ=>
      ab x7 (aO .lss ae rs rs cY fY) bH λgb=>
      Split gb (cz (α:=x3->Prop) (λ(dY:x3)=>
       ab x7 (aO .add ae rs ro cY (Δ 1)) dY λgc=>
       fZ gc dY) λdZ=>
      ab x7 (j4 ej dX cY) bH λgd=>
      ab x7 (u4 cp gd) bH λgf=>
      aC x7 (S5 cp ro (.tuple #[])) bH λy gg=>
      aC x7 (o7 cp y gf) gg λ(_:Unit)aE=>
      cz (α:=x1->x3->Prop) (λ(gh:x1)(ea:x3)=>
       Split gh (aj x7 pA [(Γ g),(Δ 4),fW] ea λjn gi=>
        dZ gi)
        (dZ ea)) λeb=>
      ab x7 (bQ (Γ g)) aE λgj=>
      ab x7 (u6 bF gj 3) aE λgk=>
      ab x7 (u4 ae gk) aE λgl=>
      ab x7 (aO .eql ae rs ro gl (Δ 0)) aE λgn=>
      Split gn (ab x7 (u6 cp x 0) aE λgp=>
       ab x7 (u4 aw gp) aE λgq=>
      ab x7 (u6 cp y 0) aE λgu=>
      ab x7 (u4 aw gu) aE λgv=>
      aj x7 uu [gq,gv] aE λgw gx=>
      eb gw gx)
       (eb (.bool rs) aE))
       (ab x7 (u6 cp x 1) bH λgA=>
     aC x7 (o7 ap gA fV) bH λ(_:Unit)cJ=>
     ab x7 (u6 a8 (Γ E) 3) cJ λgB=>
     ab x7 (u4 ej gB) cJ λgC=>
     ab x7 (u4 cp x) cJ λgD=>
     aC x7 (Y1 ej 1 #[(0,gD)]) cJ λgE gF=>
     aC x7 (j6 #[ej,ej] ej #[gC,gE]) gF λgH ec=>
     ab x7 (u6 a8 (Γ E) 3) ec λgI=>
     aC x7 (o7 ej gI gH) ec λ(_:Unit)ed=>
     ab x7 (aO .add ap rs ro dP (Δ 1)) ed λgJ=>
     fF gJ ed)))
       (cz (α:=x3->Prop) (λ(ak:x3)=>
     ab x7 (u4 a8 (Γ E)) ak λgK=>
     aC x7 (o7 a8 (Γ N) gK) ak λ(_:Unit)ee=>
     ab x7 (do loadVar a8 (<-asAddr (Γ N))) ee λgL=>
 Q gL ee) λef=>
    Split (.bool bf) (eu bZ λaq=>
     ab x7 (bQ (Γ g)) aq λcZ=>
     ab x7 (u6 bF cZ 8) aq λc0=>
     ab x7 (u4 dG c0) aq λeg=>
     ab x7 (u4 a8 (Γ E)) aq λgM=>
     aC x7 (Y1 dG 1 #[(0,gM)]) aq λgN aW=>
     (Ext aq aW\/cE x7 (u4 dG c0) eg aW/\cE x7 (u6 bF cZ 8) c0 aW/\cE x7 (bQ (Γ g)) cZ aW/\True)/\
     aC x7 (j6 #[dG,dG] dG #[eg,gN]) aW λgO cK=>
      ab x7 (bQ (Γ g)) cK λgP=>
      ab x7 (u6 bF gP 8) cK λgQ=>
      aC x7 (o7 dG gQ gO) cK λ(_:Unit)bq=>
      ef bq)
     (ef bZ))) λeh=>
     ab x7 (aO .lss ap rs rs dP bD) bn λgR=>
     Split gR (ab x7 (bQ (Γ g)) bn λgS=>
     ab x7 (u6 bF gS 3) bn λgT=>
     ab x7 (u4 ae gT) bn λgU=>
     ab x7 (aO .eql ae rs ro gU (Δ 0)) bn λgV=>
     eh gV bn)
      (eh (.bool rs) bn)) λei=>
   ab x7 (aO .lss ap rs ro bD (Δ 0)) O λgW=>
   Split gW (cz (α:=x1->x3->Prop) (λ(gX:x1)(X:x3)=>
     Split gX (aj x7 pA [(Γ g),(Δ 4),dO] X λjq c1=>
     ab x7 (u4 a8 (Γ E)) c1 λgY=>
     aC x7 (o7 a8 (Γ N) gY) c1 λ(_:Unit)ek=>
     ab x7 (do loadVar a8 (<-asAddr (Γ N))) ek λgZ=>
 Q gZ ek)
     (ab x7 (bQ (Γ g)) X λg0=>
    ab x7 (u6 bF g0 8) X λg2=>
    ab x7 (u4 dG g2) X λg3=>
    ab x7 (Op.unary .neg bD) X λg4=>
    ab x7 (aO .sub ap rs ro g4 (Δ 1)) X λg5=>
    ab x7 (j4 dG g3 g5) X λg6=>
    ab x7 (u6 a8 g6 3) X λg7=>
    ab x7 (u4 ej g7) X λg8=>
    ab x7 (u6 a8 (Γ E) 3) X λg9=>
    aC x7 (o7 ej g9 g8) X λ(_:Unit)em=>
    ei em)) λen=>
    eu O λP=>
    ab x7 (Op.unary .neg bD) P λha=>
    ab x7 (bQ (Γ g)) P λhb=>
    ab x7 (u6 bF hb 8) P λhc=>
    ab x7 (u4 dG hc) P λhd=>
    ab x7 (W0 #[dG] ae #[hd]) P λhf=>
    ab x7 (aO .gtr ap rs rs ha hf) P λhg=>
    Split hg (en (.bool ro) P)
    (ab x7 (bQ (Γ g)) P λhh=>
    ab x7 (u6 bF hh 8) P λhj=>
    ab x7 (u4 dG hj) P λhl=>
    ab x7 (Op.unary .neg bD) P λhn=>
    ab x7 (aO .sub ap rs ro hn (Δ 1)) P λho=>
    ab x7 (j4 dG hl ho) P λhp=>
    ab x7 (u6 a8 hp 1) P λhq=>
    ab x7 (u4 aw hq) P λhr=>
    ab x7 (u6 a8 (Γ E) 1) P λhs=>
    ab x7 (u4 aw hs) P λht=>
    aj x7 uu [hr,ht] P λhu c2=>
    ab x7 (Op.unary .not hu) c2 λhv=>
    en hv c2))
    (ab x7 (bQ (Γ g)) O λhx=>
    ab x7 (u6 bF hx 7) O λhy=>
    ab x7 (u4 ap hy) O λhz=>
    ab x7 (aO .add ap rs rs hz bD) O λhA=>
    ab x7 (bQ (Γ g)) O λt182=>
    ab x7 (u6 bF t182 7) O λt183=>
    aC x7 (o7 ap t183 hA) O λ(_:Unit)aH=>
    cz (α:=x3->Prop) (λ(aI:x3)=>
     ab x7 (bQ (Γ g)) aI λhB=>
     ab x7 (u6 bF hB 7) aI λhC=>
     ab x7 (u4 ap hC) aI λhD=>
     ab x7 (aO .gtr ap rs ro hD (Δ 16384)) aI λhE=>
     aj x7 ut [(Γ g),hE,dO] aI λjr c4=>
     ei c4) λeo=>
    ab x7 (bQ (Γ g)) aH λhF=>
    ab x7 (u6 bF hF 7) aH λhG=>
    ab x7 (u4 ap hG) aH λhH=>
    ab x7 (aO .gtr ap rs ro hH (Δ 4611686018427387904)) aH λhI=>
    Split hI (ab x7 (bQ (Γ g)) aH λhJ=>
    ab x7 (u6 bF hJ 7) aH λhK=>
    aC x7 (o7 ap hK (Δ 4611686018427387904)) aH λ(_:Unit)ep=>
    eo ep)
    (eo aH)))) λer=>
  ab x7 (aO .gtr ap rs ro (Δ (ar:Int)) (Δ 6)) aD λhL=>
  Split hL (aj x7 ut [(Γ g),(.bool ro),(Δ dx)] aD λjs hM=>
  er hM)
   (ab x7 (aO .gtr ap rs ro count (Δ 4096)) aD λhN=>
  aj x7 ut [(Γ g),hN,(Δ dx)] aD λjt hO=>
  er hO)):=by
 have hP:=h.lt;have es:N≠g:=λhe=>by
  obtain⟨av,Z,ac,bad,az,big,aA,m1,sv,C,_⟩:=jp h;subst he;exact m6 (eI C dA) Φ
 obtain⟨aJ,d9,cr,g1,cL,cM,f1,f2,f3,f4,f5,f6,f7⟩:=id dy;have b1:E≠g:=Ω
 have ret:∀{G:x3}{x:cq}{S:ah},iG G B E x->ag G N a8 [.slice ν 0 0,.slice ν 0 0,Δ 0,.slice ν 0 0]->af (λr=>r=g\/H r\/B<=r) w G->bP G g G.heap.size S 100001 ((lA bf ar scope co R).map (·.2))->(∀q,lA bf ar scope co R=σ q->x=q.1)->¬S N->(∀r,H r->S r)->(∀r,S r->H r\/B<=r)->(∀r,S r->r<G.heap.size)->
   (ab x7 (u4 a8 (Γ E)) G λbW=>
    aC x7 (o7 a8 (Γ N) bW) G λ(_:Unit)bh=>
    ab x7 (do loadVar a8 (<-asAddr (Γ N))) bh λbX=>Q bX bh):=by
  intro G x S c5 c6 hQ hR hS hT c7 hU hV;obtain⟨aJ,d9,cr,g1,cL,cM,c9,da,db,dc,dd,et,ev⟩:=c5;let ad:kj:=⟨aJ,d9,x.other,cr⟩;have b3:il G ad x:=⟨⟨g1,da⟩,⟨cL,db⟩,rfl,cM,dc⟩;rw[bB a8.p a8.i rfl (show G.rangeAt E 0 (fH ad)from c9.range)];refine cb (vs:=fH ad) a8.i rfl rfl b3.one c6 λju de hW hX=>?_;rw[fD a8.p a8.i rfl hX.range];have hY:∀r,r=N->iF G r\/G.heap.size<=r:=λr j=>by subst j;exact .inl ⟨_,_,c6,Φ,Φ⟩
  refine fk _ _ ⟨ad,x,S,(hQ.X λr _ h=>?_).F (de.X λr _ h=>.inr (.inr (.inl h))),rfl,b3.dT de hY,hR.dT de λr j=>.inl ?_,hS,c7,hU,λr j=>by rw[hW];exact hV r j⟩
  .exact h.elim .inl λh=>h.elim (λh=>.inr (.inl h)) λh=>.inr (.inr (.inr h))
  .have j:r=N:=j;subst j;exact⟨_,_,c6,Φ,Φ,Φ,Φ,hT⟩
 have df:∀{G:x3},af (iH g B) w G->ag G N a8 [.slice ν 0 0,.slice ν 0 0,Δ 0,.slice ν 0 0]:=λaY=>dA.aa aY λU=>U.elim es λh=>Ω
 have dg:∀{G:x3},af (iH g B) w G->af (λr=>r=g\/H r\/B<=r) w G:=λaY=>aY.X λr _ h=>h.elim .inl λh=>.inr (.inr h);have ew:∀{G:x3}{ey:Nat}{S:ah}{so:Option aG},bP G g ey S 100000 so->bP G g ey S 100001 so:=λj=>by
  obtain⟨b4,w0,av,bi,gs,sv,L,aB,Z,ac,bad,az,big,aA,m1,h1,hZ,h0,h2,h3,dh,di⟩:=j;refine⟨Ω,w0,av,bi,gs,sv,L,aB,Z,ac,bad,az,big,aA,m1,h1,hZ,h0,h2,h3,dh,?_⟩;rename_i so;cases so with
  |none=>exact⟨di.1,by have:=di.2;omega⟩
  |some s=>exact di
 have ez:∀{G:x3}{x:cq},iG G B E x->af (iH g B) w G->bP G g B H 100000 ν->lA bf ar scope co R=ν->(ab x7 (u4 a8 (Γ E)) G λbW=>
    aC x7 (o7 a8 (Γ N) bW) G λ(_:Unit)bh=>
    ab x7 (do loadVar a8 (<-asAddr (Γ N))) bh λbX=>Q bX bh):=λc5 aY j eA=>
  ret c5 (df aY) (dg aY) (by rw[eA];exact ew j.base) (λq V=>by rw[eA]at V;cases V) cF (λ_ h=>h) (λ_ h=>.inl h) λr j=>by have:=cG r j;have:=aY.size;omega
 rw[aQ a8.p 1 f1 rfl,aS aw.u f3.ls];refine QR f3.ls (λz h4=>(dz z h4).1) λc aY=>?_;refine dk (λbV=>af (λr=>r=g) w bV/\bP bV g B H 100000 (R.map (ba (decide (6<ar)||dD co)))) ?_ ?_
 rotate_left
 .intro ay aZ;rw[bL,ai];refine⟨λdh=>?_,λdh=>?_⟩
  .refine (oZ h).X ?_;rintro _ J _ a1;refine aZ _ ⟨a1.1,?_⟩;rw[m7 (show 6<ar by omega),Bool.true_or];exact a1.2
  .rw[bL];refine(oZ h).X ?_;rintro _ J _ a1;refine aZ _ ⟨a1.1,?_⟩;have e:dD co=decide (4096<c):=by rw[T1,pl];exact aY.symm
   rw[ms (show¬6<ar by omega),Bool.false_or,e];exact a1.2
 rintro bV ⟨h5,h6⟩;refine(ma h6).X ?_;rintro _ bC _ ⟨⟨h7,h8⟩,o,jv,rfl,h9,jw⟩;rw[bo,bp];have bI:af (λr=>r=g) w bC:=h5.F h7;have jx:=dy.dT bI (mb h);have f123:=f1.aa bI λhe=>b1 he;rw[aT a8.p rfl];refine bt (g:=E) (o:=2) ap.i rfl rfl f123 Ξ λbg b5 jy bJ=>?_;have bJ:ag bg E a8 [aJ,d9,Δ o,cr]:=bJ;have dj:∀r,r=g->iF w r\/w.heap.size<=r:=λr j=>(mb h r j).imp (λ⟨e,c,C,a2,a6,_⟩=>⟨e,c,C,a2,a6⟩) id;have bK:∀{G:x3}{c:List x1},ag G E a8 c->∀r,r=E->iF G r\/G.heap.size<=r:=λC r j=>by subst j;exact .inl ⟨_,_,C,Φ,Φ⟩
 have f224:=eT (eT f2 bI dj) b5 (bK f123);have f324:=eT (eT f3 bI dj) b5 (bK f123);have eB:=(f4.dT bI dj).dT b5 (bK f123);have bM:=h8.new b5 λr j=>by have j:r=E:=j;omega
 have eC:af (iH g B) w bg:=(bI.X λr _ h=>.inl h).F (b5.X λr _ h=>.inr (by have h:r=E:=h;omega));refine(ma bM).X ?_;rintro _ O _ ⟨⟨bj,a7⟩,n,jz,rfl,ia,eD⟩;rw[bo,bp,tj a7];have eE:af (iH g B) w O:=eC.F (bj.X λr _ h=>.inl h);have ib:iG bg B E ⟨scope,co,o,[]⟩:=⟨aJ,d9,cr,g1,cL,cM,bJ,f224,f324,eB,f5,f6,f7⟩;have eF:=ib.dT bj (mb bM);cases bd:bb (-4611686018427387904) 4611686018427387904 (W6 (λx=>x.snd) (bb 0 4611686018427387904 (R.map (ba (decide (6<ar)||dD co)))))with
 |none=>
  rw[bd]at a7;rw[Option.map_none,R3,X4,bY];refine ez eF eE a7 ?_;unfold lA;cases W:bb 0 au (R.map (ba (decide (6<ar)||dD co)))with
  |none=>rfl
  |some p=>
   obtain⟨o',M⟩:=p;have ic:bb 0 4611686018427387904 (R.map (ba (decide (6<ar)||dD co)))=σ (o',M):=W;rw[ic]at bd;have e:bc (-au) au M=ν:=bd;simp only;unfold dM;rw[e]
 |some q=>
 obtain⟨jA,K⟩:=q;have ie:=ia _ bd;subst ie;rw[bd]at a7;have a7:bP O g B H 100000 (σ K):=a7;rw[Z4,S9,Y6,aX];obtain⟨M,W,dl⟩:∃M,bb 0 au (R.map (ba (decide (6<ar)||dD co)))=σ (o,M)/\bc (-au) au M=σ (n,K):=by
  cases W:bb 0 4611686018427387904 (R.map (ba (decide (6<ar)||dD co)))with
  |none=>rw[W]at bd;cases bd
  |some p=>
   obtain⟨o',M⟩:=p;have:=h9 _ W;subst this;rw[W]at bd;exact⟨M,W,bd⟩
 have b6:lA bf ar scope co R=match dM co M with
   |none=>ν
   |some (lines,K)=>σ (⟨scope,co,o,lines⟩,if bf=ro then{K with m2:=K.m2++[(co,lines)]}else K):=by
  unfold lA;rw[W]
 have ig:=(jl dl).1;have ih: -4611686018427387904<=n/\n<=4611686018427387904:=ig;have eH:dM co M=(if n<0 then match K.m2[(-n-1).toNat]? with
   |none=>ν
   |some (z,l)=>if z=co then σ (l,K)else ν
  else c3 (eP co) n.toNat [] (ba (decide (16384<min (K.m1+n) au)) {K with m1:=min (K.m1+n) au})):=by
  unfold dM;rw[dl];rfl
 have ii:lz K:=by
  cases bN:R with
  |none=>rw[bN]at W;cases W
  |some s2=>
   rw[bN]at W;have dn:bc 0 au (ba (decide (6<ar)||dD co) s2)=σ (o,M):=W;have cN:=(ds dn).eqs;have b7:=(ds dl).eqs;intro C;rw[b7.2.1,cN.2.1]at C;rw[b7.1,cN.1];exact fj s2 bN (Bool.or_eq_false_iff.1 C).1
 refine dk (λaU=>af (iH g B) w aU/\∃br b8 cP bk,ag aU E a8 [aJ,d9,Δ o,br]/\ao .i64 ap aU g1 aJ scope/\ao .i64 ap aU cL d9 co/\l8 aU b8 br cP/\bP aU g B H 100000 (σ bk)/\(0<n->cP=[]/\∀r,¬lc br r)/\dM co M=(if n<=0 then σ (cP,bk)else c3 (eP co) n.toNat [] bk)) ?_ ?_
 .rintro aU ⟨ij,br,b8,cP,bk,c9,da,db,dc,dd,et,ev⟩;refine QU dd c9 da db dc f5 f6 f7 dz fi ih.2 et (vS dd).1 λbZ A dp ik eK eL im ca=>?_;have bO:=ij.F ik;have bs:dp=(dM co M).map (·.2)/\∀q,dM co M=σ q->A=q.1:=by
   rw[ev];by_cases dq:n<=0
   .obtain⟨Z,ac⟩:=im dq;rw[m3 dq];exact⟨ac,λq V=>by cases V;exact Z⟩
   .rw[m5 dq];exact ca Ω
  obtain⟨bs,a1⟩:=bs;cases bf with
  |false=>
   refine dk (λak=>bZ=ak) ?_ ?_
   .rintro _ rfl;refine ret eK (df bO) (dg bO) ?_ ?_ cF (λ_ h=>h) (λ_ h=>.inl h) λr j=>by have:=cG r j;have:=bO.size;omega
    .have:(lA rs ar scope co R).map (·.2)=dp:=by
      rw[b6,bs];cases dM co M with
      |none=>rfl
      |some p=>rfl
     rw[this];exact ew eL.base
    .intro q V;rw[b6]at V;cases al:dM co M with
     |none=>rw[al]at V;cases V
     |some p=>
      rw[al]at V;have:=a1 p al;cases V;rw[this]
   .intro ay aZ;rw[aX];exact aZ _ rfl
  |true=>
   refine dk (λak=>∃S,af (λr=>r=g\/H r\/B<=r) w ak/\iG ak B E ⟨scope,co,o,A⟩/\ag ak N a8 [.slice ν 0 0,.slice ν 0 0,Δ 0,.slice ν 0 0]/\bP ak g ak.heap.size S 100001 ((lA ro ar scope co R).map (·.2))/\¬S N/\(∀r,H r->S r)/\(∀r,S r->H r\/B<=r)/\∀r,S r->r<ak.heap.size) ?_ ?_
   .rintro ak ⟨S,io,ip,a3,a4,a5,iq,ir,it⟩;refine ret ip a3 io a4 ?_ a5 iq ir it;intro q V;rw[b6]at V;cases al:dM co M with
    |none=>rw[al]at V;cases V
    |some p=>
     rw[al]at V;have:=a1 p al;cases V;rw[this]
   .intro ay aZ;rw[bY];intro aq cc _ _;have iu:=eL.W cc;have iv:=eK.W cc;have iw:=(df bO).W cc;obtain⟨b4,w0,av,bi,gs,sv,L,aB,Z,ac,bad,az,big,aA,m1,cQ,bu,bw,am,bx,bl,bz⟩:=id iu;have ix:=bx.g bu bw;obtain⟨⟨iy,eM⟩,aL,cd,ce⟩:=id ix;have iz:∀r,lc sv r->r<B:=λr j=>cG r (bl r j);rw[aK bF.p 8 am rfl];obtain⟨eN,eO,br,eQ,eR,b8,eS,eU,eV,eW,iA,iB,iC⟩:=id iv;let ad:kj:=⟨eN,eO,o,br⟩;let x:cq:=⟨scope,co,o,A⟩;have b3:il aq ad x:=⟨⟨eQ,eU⟩,⟨eR,eV⟩,rfl,b8,eW⟩;rw[bB a8.p a8.i rfl (show aq.rangeAt E 0 (fH ad)from eS.range)];refine iV (f:=fH) (a:=ad) dG.u a8.i Ω rfl rfl λv51 jB aW jC Y iD=>?_;refine⟨.inl Y,?_⟩;have jD:L.length<=100000:=by
     cases dp with
     |none=>exact bz.2
     |some s=>have:=bz.2.2.2.2.2.2.2.2;omega
    have dr:=aL.W Y;refine jo (f:=fH) (a:=ad) dG.u a8.i rfl dr (by simpa using iD.sl) (b3.W Y).one Ω Ω λeX iE cK cf iI eY=>?_;have dt:=am.W Y;have eZ:=dt.aa eY λhe=>cO dr dt Φ he;rw[bR,aT bF.p rfl];refine bt (g:=g) (o:=8) dG.i (eJ cf.sl).1 (eJ cf.sl).2 eZ (by simp[i9]) λbq du jE cR=>?_;have cR:ag bq g bF (i9 av Z ac bad az big aA m1 eX):=cR;have aN:af (λr=>lc sv r\/r=g) aW bq:=(eY.X λr _ h=>.inl h).F (du.X λr _ h=>.inr h);have cS:∀r,(lc sv r\/r=g)->iF aW r\/aW.heap.size<=r:=λr j=>by
     rcases j with j|rfl
     .obtain⟨rfl,c,C⟩:=dN dr j;exact .inl ⟨_,c,C,Φ,Φ⟩
     .exact .inl ⟨_,_,dt,Φ,Φ⟩
    have e0:∀{ad x},il aq ad x->il bq ad x:=λhe=>(he.W Y).dT aN cS;have z50:=cc.size;have z51:=Y.size;have z53:=aN.size;have jF:=bO.size;have jG:=hP.2;refine aZ _ ⟨λr=>H r\/(aq.heap.size<=r/\r<bq.heap.size),?_,?_,?_,?_,?_,λr j=>.inl j,λr j=>j.imp id λj=>Ω,λr j=>?_⟩
    .refine (((dg bO).F (cc.aa _)).F (Y.aa _)).F (aN.X λr _ j=>?_);exact j.elim (λj=>.inr (.inl (bl r j))) .inl
    .have iJ:=eS.W Y;refine⟨eN,eO,br,eQ,eR,b8,iJ.aa aN λj=>?_,eT (eU.W Y) aN cS,eT (eV.W Y) aN cS,(eW.dT (Y.aa λ_=>False) λ_ h=>h.elim).dT aN cS,iA,iB,iC⟩;rcases j with j|j
     .have:=iz _ j;omega
     .exact b1 j
    .exact (iw.W Y).aa aN λj=>j.elim (λj=>cF (bl _ j)) es
    .refine⟨Ω,bq,av,bi,iE,eX,L++[ad],aB++[x],Z,ac,bad,az,big,aA,m1,rfl,af.refl _ _,⟨_,cR⟩,cR,⟨⟨?_,λr j=>?_⟩,cf.aa du λr j he=>?_,by rw[p8,p8,cd];rfl,λi iK iL hi cg=>?_⟩,λr j=>?_,?_⟩
     .refine (iy.aa (Y.aa λ_=>False) λ_ _ h=>h).aa aN λr j U=>?_;obtain⟨c,C⟩:=eM r j;rcases U with U|rfl
      .obtain⟨rfl,iM,dv⟩:=dN aL U;exact m6 (eI C dv) Φ
      .exact m6 (eI C am) Φ
     .obtain⟨c,C⟩:=eM r j;refine⟨c,(C.W Y).aa aN λU=>?_⟩;rcases U with U|rfl
      .obtain⟨rfl,iM,dv⟩:=dN aL U;exact m6 (eI C dv) Φ
      .exact m6 (eI C am) Φ
     .have he:r=g:=he;subst he;exact cO cf eZ Φ j
     .by_cases iN:i<L.length
      .rw[W8 iN]at hi;rw[W8 Ω]at cg;exact e0 (ce i iK iL hi cg)
      .rw[Y9 Ω]at hi;rw[Y9 Ω]at cg;have iO:i-L.length=0:=by have:=(x4.1 hi).1;simp at this;omega
       have c7:i-aB.length=0:=Ω
       rw[iO]at hi;rw[c7]at cg;cases hi;cases cg;exact e0 b3
     .rcases iI r j with h|h
      .exact .inl (bl r h)
      .have:=(cf.li j);have:=du.size;exact .inr ⟨Ω,Ω⟩
     .rw[b6];cases al:dM co M with
      |none=>
       rw[al]at bs;rw[bs]at bz;exact⟨bz.1,by rw[p8];simp;have:=bz.2;omega⟩
      |some p=>
       obtain⟨lines,bk⟩:=p;rw[al]at bs;rw[bs]at bz;have iP:=a1 _ al;obtain⟨ch,ci,cj,ck,cl,bS,cn,aR,cT⟩:=id bz;have e1:=FF al;refine⟨ch,ci,cj,ck,cl,bS,cn,?_,?_⟩
       .show (aB++[x]).map _=bk.m2++[(co,lines)];rw[l7,aR];simp only[x,U3,List.map_nil];rw[iP]
       .have jH:M.m2.length+M.d8.length<=100000:=by
         cases bN:R with
         |none=>rw[bN]at W;cases W
         |some s2=>
          rw[bN]at W h;have dn:bc 0 au (ba (decide (6<ar)||dD co) s2)=σ (o,M):=W;have t9:=ds dn;have cN:=t9.1;have b7:=t9.eqs.2.2;have t3:=(vS h).2;have e2:(ba (decide (6<ar)||dD co) s2).d8=s2.d8:=rfl;have e4:(ba (decide (6<ar)||dD co) s2).m2=s2.m2:=rfl;rw[e2]at cN;rw[e4]at b7;rw[b7];omega
        have e5:L.length=bk.m2.length:=by rw[<-aR,o4,cd]
        have iQ:bi.length=bk.d8.length:=by rw[<-bS,o4]
        rw[e1.2]at e5;rw[p8,e5,iQ];simp only[T4];have:=e1.1;omega
    .rintro (j|j)
     .exact cF j
     .omega
    .rcases j with j|j
     .have:=cG r j;omega
     .exact j.2
 .intro ay aZ;rw[aP,ai];refine⟨λiR=>?_,λiS=>?_⟩
  .
   refine aV (λv X=>Ext O X/\∃b:Bool,v= .bool b/\(b=ro->dM co M=ν)/\(b=rs->∃lines,dM co M=σ (lines,K)/\K.m2[(-n-1).toNat]?=σ (co,lines))) ?_ ?_
   .rintro _ X ⟨bT,b,rfl,iT,iU⟩;have cU:=a7.W bT;have iW:=eF.W bT;have e6:=eE.F (bT.aa _);cases b with
    |true=>
     rw[bY];refine(qg cU Ω).X ?_;rintro _ c1 _ ⟨e7,iX⟩;exact ez (iW.dT e7 (mb cU)) (e6.F (e7.X λr _ h=>.inl h)) iX (by rw[b6,iT rfl])
    |false=>
     rw[aX];obtain⟨lines,iY,bU⟩:=iU rfl;obtain⟨b4,w0,av,bi,gs,sv,L,aB,Z,ac,bad,az,big,aA,m1,cQ,bu,bw,am,bx,bl,ch,ci,cj,ck,cl,bS,cn,aR,cT⟩:=id cU;obtain⟨_,aL,cd,ce⟩:=bx.g bu bw;have ct:(-n-1).toNat<L.length:=by
      have h1:=(x4.1 bU).1;rw[<-aR,o4]at h1;omega
     obtain⟨hk,cu⟩:∃h,L[(-n-1).toNat]?=σ h:=⟨_,x6 ct⟩;obtain⟨be,cw⟩:=aF (l:=aB) (i:=(-n-1).toNat) Ω;obtain⟨_,_,_,iZ,an⟩:=ce _ hk be cu cw;have i0:be.lines=lines:=by
      rw[<-aR,x8,cw]at bU;have:=Z7 bU;exact(Prod.mk.inj this).2
     rw[aK bF.p 8 am rfl,nI,lm Ω Ω,dR,lm Ω Ω,dm (i:=(-n-1).toNat) Ω dG.u a8.i aL ct,aT a8.p rfl,ax Ψ (aL.range cu 3 _ rfl)];obtain⟨jI,e8,jJ,jK⟩:=id an;have cV:ag X E a8 [aJ,d9,Δ o,cr]:=(bJ.aa bj λhe=>b1 he).W bT;have i1:=(eT f224 bj λr j=>(mb bM r j).imp (λ⟨e,c,C,a2,a6,_⟩=>⟨e,c,C,a2,a6⟩) id).W bT;have i2:=(eT f324 bj λr j=>(mb bM r j).imp (λ⟨e,c,C,a2,a6,_⟩=>⟨e,c,C,a2,a6⟩) id).W bT;rw[aT a8.p rfl];refine bt (g:=E) (o:=3) ej.i (eJ e8.sl).1 (eJ e8.sl).2 cV Ξ λem cA jL i3=>?_;refine aZ _ ⟨e6.F (cA.X λr _ h=>.inr (by have h:r=E:=h;omega)),hk.cr,iZ,lines,K,i3,eT i1 cA (bK cV),eT i2 cA (bK cV),?_,cU.new cA λr j=>by have j:r=E:=j;omega,λh=>Ω,by rw[iY,m3 Ω]⟩;rw[<-i0];exact an.dT cA (bK cV)
   .intro jM e9;intro P cB _ _;have i4:=a7.W cB;obtain⟨b4,w0,av,bi,gs,sv,L,aB,Z,ac,bad,az,big,aA,m1,cQ,bu,bw,am,bx,bl,ch,ci,cj,ck,cl,bS,cn,aR,cT⟩:=id i4;obtain⟨_,aL,cd,ce⟩:=bx.g bu bw;have jN:K.m2.length=L.length:=by rw[<-aR,o4,cd]
    have an:=eH;rw[m3 iR]at an;rw[nI,lm Ω Ω,aK bF.p 8 am rfl,e3 dG.u aL,bL,ai];refine⟨λca=>e9 _ _ ⟨cB,ro,rfl,λ_=>?_,λh=>by cases h⟩,λca=>?_⟩
    .rw[an,Z9 Ω]
    have ct:(-n-1).toNat<L.length:=Ω
    obtain⟨hk,cu⟩:∃h,L[(-n-1).toNat]?=σ h:=⟨_,x6 ct⟩;obtain⟨be,cw⟩:=aF (l:=aB) (i:=(-n-1).toNat) Ω;obtain⟨_,⟨gz,i5⟩,_,_⟩:=ce _ hk be cu cw;have bU:K.m2[(-n-1).toNat]?=σ (be.co,be.lines):=by rw[<-aR,x8,cw];rfl
    rw[bU]at an;simp only at an;rw[aK bF.p 8 am rfl,nI,lm Ω Ω,dR,lm Ω Ω,dm (i:=(-n-1).toNat) Ω dG.u a8.i aL ct,aT a8.p rfl,ax Ψ (aL.range cu 1 _ rfl)];have i6:ag P E a8 [aJ,d9,Δ o,cr]:=(bJ.aa bj λhe=>b1 he).W cB;have i7:=(eT f324 bj λr j=>(mb bM r j).imp (λ⟨e,c,C,a2,a6,_⟩=>⟨e,c,C,a2,a6⟩) id).W cB;rw[aQ a8.p 1 i6 rfl];refine(zc i5.ls i7.ls).X ?_;rintro _ c2 _ ⟨rfl,i8⟩;rw[bA];refine e9 _ _ ⟨cB.F i8,_,rfl,λC=>?_,λC=>?_⟩
    .have ja:be.co≠co:=by simpa using C
     rw[an,m5 ja]
    .have fa:be.co=co:=by simpa using C
     exact⟨be.lines,by rw[an,m3 fa],by rw[bU,fa]⟩
  .
   have an:=eH;rw[m5 iS]at an;obtain⟨b4,w0,av,bi,gs,sv,L,aB,Z,ac,bad,az,big,aA,m1,cQ,bu,bw,am,bx,bl,ch,ci,cj,ck,cl,bS,cn,aR,cT⟩:=id a7;rw[aK bF.p 7 am rfl,aM];generalize jb:Y7.wrap (m1+n)=bm;have fb:K.big=rs->bm=K.m1+n/\0<=bm:=λC=>by
    obtain⟨e2,e4⟩:=ii C;have jc:=ck C;rw[<-jb,jc,lm Ω Ω];exact⟨rfl,Ω⟩
   rw[bR,aT bF.p rfl];refine bt (g:=g) (o:=7) ap.i rfl rfl am (by simp[i9]) λaH fc jO cC=>?_;have cC:ag aH g bF (i9 av Z ac bad az big aA bm sv):=cC;refine dk (λaI=>af (λr=>r=g) O aI/\ag aI g bF (i9 av Z ac bad az big aA (min bm au) sv)) ?_ ?_
   rotate_left
   .intro jP fd;rw[aK bF.p 7 cC rfl,bL,ai];refine⟨λca=>?_,λca=>fd _ ⟨fc,?_⟩⟩
    .rw[bR,aT bF.p rfl];refine bt (g:=g) (o:=7) ap.i rfl rfl cC (by simp[i9]) λep jd jQ je=>?_;refine fd _ ⟨fc.F jd,?_⟩;have e:min bm au=4611686018427387904:=by unfold au;omega
     rw[e];exact je
    .have e:min bm au=bm:=by unfold au;omega
     rw[e];exact cC
   rintro aI ⟨fe,ff⟩;have jf:bP aI g B H 100000 (σ {K with m1:=min (K.m1+n) au}):=⟨b4,w0,av,bi,gs,sv,L,aB,Z,ac,bad,az,big,aA,_,cQ,bu.F fe,bw,ff,bx,bl,ch,ci,cj,λC=>by
    have C:K.big=rs:=C;rw[(fb C).1],cl,bS,cn,aR,cT⟩
   rw[aK bF.p 7 ff rfl,bL];refine(oZ jf).X ?_;rintro _ c4 _ ⟨jg,fg⟩;have jh:(σ {K with m1:=min (K.m1+n) au}).map (ba (decide (16384<min bm au)))=σ (ba (decide (16384<min (K.m1+n) au)) {K with m1:=min (K.m1+n) au}):=by
    show σ (ba _ _)=_;congr 1;unfold ba;cases C:K.big with
    |true=>simp
    |false=>rw[(fb C).1]
   rw[jh]at fg;have cD:af (λr=>r=g) bg c4:=(bj.F fe).F jg;have dw:∀r,r=g->iF bg r\/bg.heap.size<=r:=λr j=>(mb bM r j).imp (λ⟨e,c,C,a2,a6,_⟩=>⟨e,c,C,a2,a6⟩) id;have ji:cr= .slice ν 0 0:=by
    have:=fh _ f1;simpa using this
   refine aZ _ ⟨eC.F (cD.X λr _ h=>.inl h),cr,cM,[],_,bJ.aa cD λhe=>b1 he,eT f224 cD dw,eT f324 cD dw,eB.dT cD dw,fg,λ_=>⟨rfl,λr j=>by rw[ji]at j;exact gm j⟩,?_⟩;rw[an];by_cases eD:n<=0
   .have:n=0:=Ω
    subst this;rw[m3 (R6 _)];rfl
   .rw[m5 eD]
theorem FI{all:Λ}{s:aG}:dl all s=match bc (-au) au s with
  |none=>ν
  |some (a,s1)=>match ff all.length a.natAbs s1 with
   |none=>ν
   |some (scope,s2)=>lA (decide (a<0)) a.natAbs scope (scope.map λv=>all.getD v.toNat 0) (σ s2):=by
 unfold dl;cases bc (-au) au s with
 |none=>rfl
 |some q=>
  obtain⟨a,s1⟩:=q;simp only;cases ff all.length a.natAbs s1 with
  |none=>rfl
  |some p=>
   obtain⟨scope,s2⟩:=p;simp only;unfold lA;show _=match bc 0 au (ba (decide (6<a.natAbs)||dD (scope.map λv=>all.getD v.toNat 0)) s2)with
    |none=>ν
    |some (other,e)=>_
   grind
def ze(w:x3)(g:Nat)(H:ah)(e:Option (cq×aG))(v:x1)(I:x3):Prop:=∃f x a,af (λr=>r=g\/H r) w I/\v= .agg (fH f).toArray/\il I f x/\bP I g I.heap.size a 100001 (e.map (·.2))/\(∀q,e=σ q->x=q.1)/\(∀r,H r->a r)/\(∀r,a r->H r\/w.heap.size<=r)/\∀r,a r->r<I.heap.size
theorem FJ{k:Nat}{s s':aG}(h:ff n k s=σ (l,s')):s'.d8.length+l.length<=s.d8.length/\s'.m1=s.m1/\s'.big=s.big/\s'.m2=s.m2/\∀v∈l,0<=v/\v<n:=by
 have:=kH (f:=l1 n) (λ(acc:Λ)t=>t.d8.length+acc.length<=s.d8.length/\t.m1=s.m1/\t.big=s.big/\t.m2=s.m2/\∀v∈acc,0<=v/\v<n) (λacc t a t' r e=>by
  unfold l1 at e;cases j:bc 0 (n-1) t with
  |none=>grind
  |some q=>
   obtain⟨v,w⟩:=q;rw[j]at e;simp only at e;split at e
   .cases e
   .cases e;have p:=ds j;have x:=(jl j).1;obtain⟨y,z,A⟩:=p.eqs;have t0:=p.1
    grind) k [] s l s' (by grind) h
 grind
theorem QV{g B0:Nat}{H:ah}{s:aG}{O:x1}{all:Λ}(h:bP w g B0 H 100000 (σ s))(Z:ao .i64 ap w gz O all)(a2:∀z∈all,1<=z/\z<=au)(aF:all.length<=100001)(bO:∀r,H r->r<w.heap.size)(a6:lz s):
  aj x7 BC [Γ g,O] w (ze w g H (dl all s)):=by
 have bQ:=h.lt;refine az func61 ?_;refine bx a8.i λC J bR P Q=>?_;have Q:ag J C a8 [.slice ν 0 0,.slice ν 0 0,Δ 0,.slice ν 0 0]:=Q;refine bx a8.i λG V bS R S=>?_;have S:ag V G a8 [.slice ν 0 0,.slice ν 0 0,Δ 0,.slice ν 0 0]:=S;have h1:=(h.W P).base;have ac:=h1.W R;have bT:=P.size;have aH:=Q.lt;have bU:=S.lt;refine(ma ac).X ?_;rintro _ A _ ⟨⟨W,j⟩,a,bV,rfl,aI,aK⟩;rw[bo,bp,aP];have a7:G≠g:=Ω
 have ad:C≠g:=Ω
 have ba:=S.aa W λhe=>a7 he;have ae:=(Q.W R).aa W λhe=>ad he;have aL:ao .i64 ap A gz O all:=bk ((Z.W P).W R) W λr f he=>by
  have he:r=g:=he;obtain⟨aM,y,E,bad,aN,big,aO,m1,sv,X,_⟩:=jp h;subst he;exact cj Z X Φ f rfl
 have aQ:∀r,li O r->r<J.heap.size:=λr f=>by obtain⟨y,E⟩:=bE Z f;omega
 have ak:iG A J.heap.size G ⟨[],[],0,[]⟩:=⟨_,_,_,0,0,0,ba,ao.nil _ _ _ _,ao.nil _ _ _ _,⟨[],bj.nil _ _ _ _ _,by grind,rfl⟩,(λr f=>by rcases f with⟨a,n,c,y,E⟩|⟨a,n,c,y,E⟩<;>cases y),(λr f=>by obtain⟨a,n,c,y,E⟩:=f;cases y),Ω⟩;have al:∀c,ag A G a8 c->c[3]?=σ (.slice ν 0 0):=by grind [ag]
 have aR:af (λr=>r=g) J A:=(R.aa _).F W;have bW:J.heap.size<=A.heap.size:=aR.size;have aS:∀{e:x3}{am:Option (cq×aG)}{v:x1}{I:x3},af (iH g J.heap.size) A e->am=dl all s->FG e g C J.heap.size H am v I->ze w g H (dl all s) v I:=by
  rintro e am v I B rfl ⟨K,x,bd,an,aq,av,aw,aT,aU,be,bf⟩;refine⟨K,x,bd,?_,aq,av,aw,aT,aU,by grind,bf⟩;refine iS (iS ((P.aa _).F (aR.X Ω)) B λr f he=>?_) an λr f he=>?_
  .exact he.elim .inl Ω
  grind
 have bg:∀{e:x3}{x:cq},af (iH g J.heap.size) A e->dl all s=ν->bP e g J.heap.size H 100000 ν->iG e J.heap.size G x->
   (ab x7 (u4 a8 (Γ G)) e λbh=>
    aC x7 (o7 a8 (Γ C) bh) e λ(_:Unit)aW=>
    ab x7 (do loadVar a8 (<-asAddr (Γ C))) aW λbi=>ze w g H (dl all s) bi aW):=by
  intro e x B bl ax bm;obtain⟨aJ,d9,cr,g1,bn,bq,an,aq,av,aw,aT,aU,be⟩:=bm;let K:kj:=⟨aJ,d9,x.other,cr⟩;have aX:il e K x:=⟨⟨g1,aq⟩,⟨bn,av⟩,rfl,bq,aw⟩;have aA:=ae.aa B λU=>U.elim ad Ω;rw[bB a8.p a8.i rfl (show e.rangeAt G 0 (fH K)from an.range)];refine cb (vs:=fH K) a8.i rfl rfl aX.one aA λbX aB bY br=>?_;rw[fD a8.p a8.i rfl br.range];have bs:∀r,r=C->iF e r\/e.heap.size<=r:=λr f=>by subst f;exact .inl ⟨_,_,aA,Φ,Φ⟩
  have bZ:=B.size;refine aS B rfl ⟨K,x,H,aB.X Ω,rfl,aX.dT aB bs,?_,by grind,λ_ h=>h,by grind,by grind⟩;rw[bl];have bt:bP e g J.heap.size H 100001 ν:=by
   obtain⟨b0,w0,aM,bu,gs,sv,L,bw,y,E,bad,aN,big,aO,m1,h1,ac,j,bz,bA,aD,aY⟩:=ax;exact⟨Ω,w0,aM,bu,gs,sv,L,bw,y,E,bad,aN,big,aO,m1,h1,ac,j,bz,bA,aD,aY.1,by have:=aY.2;omega⟩
  refine bt.dT aB λr f=>.inl ?_;have f:r=C:=f;subst f;exact⟨_,_,aA,Φ,Φ,Φ,Φ,by grind⟩
 have M:=FI (all:=all) (s:=s);have bC:bb (-4611686018427387904) 4611686018427387904 (σ s)=bc (-au) au s:=rfl;rw[bC]at j aI aK;have b1: -4611686018427387904<=a/\a<=4611686018427387904:=by
  cases N:bc (-au) au s<;>grind [bc,au,jl]
 refine aV (λv bD=>A=bD/\v=Δ (a.natAbs:Int)) ?_ ?_
 rotate_left
 .intro ay b2;rw[ai];refine⟨λb3=>?_,by grind⟩;rw[nI,lm Ω Ω]
  grind
 rintro _ _ ⟨rfl,rfl⟩;have aZ:∀r,H r->r<J.heap.size:=by grind
 have a1:¬H C:=by grind
 have bF:∀{scope:Λ},(∀v∈scope,0<=v/\v<(all.length:Int))->∀z∈scope.map (λv=>all.getD v.toNat 0),1<=z/\z<=au:=λbG z bH=>by
  obtain⟨v,bI,rfl⟩:=o8.1 bH;have:=bG v bI;refine a2 _ ?_;rw[u5,x6 Ω]
  grind
 cases N:bc (-au) au s with
 |none=>
  rw[N]at j M;have bJ:=aK N;subst bJ;refine FE (s:=s) (ar:=(0:Int).natAbs) j (by grind) ak al aL aQ aF Φ (by grind) ?_ ?_ ?_
  .intro h;cases h
  .intro _;exact FH j ak al (by grind) Ξ ae aH a1 aZ (by grind) λv I bK=>aS (af.refl _ _) (by rw[M];rfl) bK
  .intro h;cases h
 |some q=>
  obtain⟨a',s1⟩:=q;rw[N]at j M;have:=aI _ N;subst this;simp only at M;have j:bP A g J.heap.size H 100000 (σ s1):=j;have bL:=ds N;refine FE j (.inl rfl) ak al aL aQ aF Ω (by grind [vS]) ?_ ?_ ?_
  .intro _ e x B Y ax aE;exact bg B (by rw[M,Y]) ax aE
  .intro h;cases h
  .intro _ e scope s' B Y aD aE bM;obtain⟨b4,bN,t3,t4,t5⟩:=FJ Y;rw[Y]at M;obtain⟨y,E,b5⟩:=bL.eqs;refine FH aD aE bM (bF t5) ?_ (ae.aa B λU=>U.elim ad Ω) aH a1 aZ (λs2 U=>?_) (by grind)
   .grind [vS]
   .cases U;intro X;rw[t3,E]at X;rw[bN,y];exact a6 X
theorem QW{s s':aG}{l:List (Λ×Int)}(h:dM co s=σ (l,s'))(j:lz s):lz s':=by
 unfold dM at h;cases f:bc (-au) au s with
 |none=>grind
 |some q=>
  obtain⟨n,s1⟩:=q;obtain⟨p,C,t3⟩:=(ds f).eqs;have r:lz s1:=λe=>by rw[p];exact j (by grind)
  rw[f]at h;simp only at h;split at h
  .split at h
   .cases h
   .split at h
    all_goals grind
  .rename_i E;have bi:=h;have:=kH (λ_ t=>lz t) (λacc t a t' w x=>by
    obtain⟨_,_,_,y⟩:=pY x;obtain⟨z,F,G⟩:=y.eqs;intro e;rw[z];exact w (by grind)) n.toNat [] (ba (decide (16384<min (s1.m1+n) au)) {s1 with m1:=min (s1.m1+n) au}) l s' (λe=>by
     obtain⟨A,B⟩:=Bool.or_eq_false_iff.1 e;have H:=r A;have I:=of_decide_eq_false B;show 0<=min (s1.m1+n) au/\min (s1.m1+n) au<=16384
     grind [au]) bi
   grind
theorem QX{all:Λ}{s s':aG}{x:cq}(h:dl all s=σ (x,s')):s'.d8.length+1<=s.d8.length/\(lz s->lz s'):=by
 rw[FI]at h;cases r:bc (-au) au s with
 |none=>grind
 |some q=>
  obtain⟨a,s1⟩:=q;rw[r]at h;simp only at h;have w:=ds r;cases U:ff all.length a.natAbs s1 with
  |none=>grind
  |some p=>
   obtain⟨scope,s2⟩:=p;rw[U]at h;simp only at h;obtain⟨N,C,t3,_⟩:=FJ U;unfold lA at h;have e:bb 0 au ((σ s2).map (ba (decide (6<a.natAbs)||dD (scope.map λv=>all.getD v.toNat 0))))=bc 0 au (ba (decide (6<a.natAbs)||dD (scope.map λv=>all.getD v.toNat 0)) s2):=rfl;rw[e]at h;cases y:bc 0 au (ba (decide (6<a.natAbs)||dD (scope.map λv=>all.getD v.toNat 0)) s2)with
   |none=>grind
   |some E=>
    obtain⟨o,z⟩:=E;rw[y]at h;simp only at h;have A:=ds y;cases f:dM (scope.map λv=>all.getD v.toNat 0) z with
    |none=>grind
    |some F=>
     obtain⟨ls,j⟩:=F;rw[f]at h;simp only[Y8,T2]at h;obtain⟨_,O⟩:=h;have P:=FF f;have G:(ba (decide (6<a.natAbs)||dD (scope.map λv=>all.getD v.toNat 0)) s2).d8=s2.d8:=rfl;have H:=A.1;rw[G]at H;have Q:=w.1;obtain⟨I,R,_⟩:=w.eqs;obtain⟨f1,f2,_⟩:=A.eqs;have J:s'.d8=j.d8/\s'.m1=j.m1/\s'.big=j.big:=by
      grind
     refine⟨by grind,λK=>?_⟩;have L:lz z:=λB=>by
      rw[f2]at B;rw[f1];have S:=(Bool.or_eq_false_iff.1 B).1;show 0<=s2.m1/\s2.m1<=16384;rw[C,I];exact K (by grind)
     have M:=QW f L;intro T;rw[J.2.1];exact M (by grind)
theorem bP.shrink{g:Nat}{H:ah}{so:Option aG}(h:bP w g B H N so):∃a,bP w g B a N so/\(∀r,a r->H r)/\∀r,a r->∃c,ag w r a8 c:=by
 obtain⟨s,w0,x,y,gs,sv,L,z,A,C,bad,E,big,F,m1,h1,f,j,G,p,I,J⟩:=h;refine⟨λr=>lc sv r,⟨s,w0,x,y,gs,sv,L,z,A,C,bad,E,big,F,m1,h1,f,j,G,p,λr e=>e,J⟩,I,λr e=>?_⟩;obtain⟨rfl,c,q⟩:=dN p.2.1 e;refine⟨c,q.aa f λhe=>?_⟩;obtain⟨M,K⟩:=j;subst he;exact m6 (eI q K) Φ
theorem bP.low{g:Nat}{H:ah}{s:aG}(h:bP w g B H N (σ s)):bP w g B H 100000 (σ s):=by
 obtain⟨F,w0,a,e,gs,sv,L,f,j,p,bad,q,big,r,m1,h1,x,y,z,A,C,E⟩:=h;exact⟨p9 _,w0,a,e,gs,sv,L,f,j,p,bad,q,big,r,m1,h1,x,y,z,A,C,E⟩
theorem bP.up{g M:Nat}{H:ah}{so:Option aG}(h:bP w g B H N so)(F:N<=M):bP w g B H M so:=by
 obtain⟨G,w0,e,f,gs,sv,L,j,p,q,bad,r,big,x,m1,h1,y,z,A,C,E,a⟩:=h;refine⟨Ω,w0,e,f,gs,sv,L,j,p,q,bad,r,big,x,m1,h1,y,z,A,C,E,?_⟩;cases so with
 |none=>exact⟨a.1,by have:=a.2;omega⟩
 |some s=>exact a
def ne{α:Type}(f:List α->aG->Option (α×aG))(cnt i:Nat)(a:Option aG)(A:List α)(so:Option aG):Prop:=a.bind (c3 f cnt [])=(match so with
 |none=>ν
 |some s=>c3 f (cnt-i) A s)
theorem ne.step{α:Type}{f:List α->aG->Option (α×aG)}{cnt i:Nat}{e:Option aG}{A:List α}{s:aG}{a:α}{j:Option aG}(h:ne f cnt i e A (σ s))(hi:i<cnt)(h1:j=(f A s).map (·.2))(p:∀q,f A s=σ q->a=q.1):ne f cnt (i+1) e (A++[a]) j:=by
 unfold ne at*;rw[h,show cnt-i=(cnt-(i+1))+1 by omega];simp only;cases r:f A s<;>grind [rl,vc]
theorem QY{s0:aG}{acc:Λ}{most count:Int}{B:List cq}{r w x y J so6 e:Option aG}(h1:r=((dS s0).map (·.2)).map (ba (decide (64<t.length))))(M:∀q,dS s0=σ q->t=q.1)(j:w=((bb 1 au r).map (·.2)).map (ba (decide (64<n))))(K:∀q,bb 1 au r=σ q->n=q.1)(h:x=(bb 1 au w).map (·.2))(hm:∀q,bb 1 au w=σ q->most=q.1)(f:y=((bb 0 au x).map (·.2)).map (ba (decide (256<count))))(L:∀q,bb 0 au x=σ q->count=q.1)(a:J=((bb 1 au y).map (·.2)).map (ba (decide (2147483648<k))))(hk:∀q,bb 1 au y=σ q->k=q.1)(p:J.bind (c3 (fR most) n.toNat [])=so6.map λs=>(acc,s))(C:so6.bind (c3 (λ_ s=>dl acc s) count.toNat [])=e.map λs=>(B,s)):iR s0=e.map λs=>(⟨t,k,acc,B⟩,s):=by
 unfold iR;cases E:dS s0 with
 |none=>
  rw[E]at h1;subst h1;subst j;subst h;subst f;subst a;have:so6=ν:=by cases so6 with|none=>rfl|some s=>cases p
  subst this;cases e<;>grind
 |some N=>
 obtain⟨t',s1⟩:=N;have:=M _ E;subst this;rw[E]at h1;have h1:r=σ (ba (decide (64<t.length)) s1):=h1;subst h1;simp only;have O:bb 1 au (σ (ba (decide (64<t.length)) s1))=bc 1 au (ba (decide (64<t.length)) s1):=rfl;rw[O]at j K;cases F:bc 1 au (ba (decide (64<t.length)) s1)with
 |none=>
  rw[F]at j;subst j;subst h;subst f;subst a;have:so6=ν:=by cases so6 with|none=>rfl|some s=>cases p
  subst this;cases e<;>grind
 |some P=>
 obtain⟨Y,s2⟩:=P;have:=K _ F;subst this;rw[F]at j;have j:w=σ (ba (decide (64<n)) s2):=j;subst j;simp only;have Q:bb 1 au (σ (ba (decide (64<n)) s2))=bc 1 au (ba (decide (64<n)) s2):=rfl;rw[Q]at h hm;cases G:bc 1 au (ba (decide (64<n)) s2)with
 |none=>
  rw[G]at h;subst h;subst f;subst a;have:so6=ν:=by cases so6 with|none=>rfl|some s=>cases p
  subst this;cases e<;>grind
 |some R=>
 obtain⟨bK,z⟩:=R;have:=hm _ G;subst this;rw[G]at h;have h:x=σ z:=h;subst h;simp only;have S:bb 0 au (σ z)=bc 0 au z:=rfl;rw[S]at f L;cases H:bc 0 au z with
 |none=>
  rw[H]at f;subst f;subst a;have:so6=ν:=by cases so6 with|none=>rfl|some s=>cases p
  subst this;cases e<;>grind
 |some T=>
 obtain⟨Z,A⟩:=T;have:=L _ H;subst this;rw[H]at f;have f:y=σ (ba (decide (256<count)) A):=f;subst f;simp only;have U:bb 1 au (σ (ba (decide (256<count)) A))=bc 1 au (ba (decide (256<count)) A):=rfl;rw[U]at a hk;cases I:bc 1 au (ba (decide (256<count)) A)with
 |none=>
  rw[I]at a;subst a;have:so6=ν:=by cases so6<;>grind
  subst this;cases e<;>grind
 |some V=>
 obtain⟨aa,W⟩:=V;have:=hk _ I;subst this;rw[I]at a;have a:=a;subst a;simp only;have p:c3 (fR most) n.toNat [] (ba (decide (2147483648<k)) W)=so6.map λs=>(acc,s):=p;rw[p];cases so6 with
 |none=>cases e<;>grind
 |some X=>
  simp only[Z4];have C:c3 (λ_ s=>dl acc s) count.toNat [] X=e.map λs=>(B,s):=C;rw[C];cases e<;>rfl
def rI(w:x3)(gr:Nat)(e:x1)(a:List cq):Prop:=∃L,bj fH 4 a8 w gr e L/\a.length=L.length/\∀(i:Nat)h x,L[i]?=σ h->a[i]?=σ x->il w h x
def qh(w:x3)(e:Nat)(f:b5):Prop:=∃d9 gz a gr,ag w e ei [cc f.name,Δ f.k,d9,a]/\ao .i64 ap w gz d9 f.co/\rI w gr a f.d7
theorem rI.W{gr:Nat}{a:x1}{e:List cq}(h:rI w gr a e)(f:Ext w I):rI I gr a e:=by
 obtain⟨L,h1,j,p⟩:=h;exact⟨L,h1.W f,j,λi an x hi q=>(p i an x hi q).W f⟩
theorem qh.W{e:Nat}{f:b5}(h:qh w e f)(a:Ext w I):qh I e f:=by
 obtain⟨d9,gz,j,gr,h1,p,q⟩:=h;exact⟨d9,gz,j,gr,h1.W a,p.W a,q.W a⟩
def QZ(w:x3)(a:Λ)(v:x1)(I:x3):Prop:=Ext w I/\∃n e:Int,(eC a=ν->v= .tuple #[.pointer ν,Δ n,Δ e])/\∀f,eC a=σ f->∃h,v= .tuple #[Γ h,Δ n,Δ e]/\qh I h f
theorem Q5{w0:x3}{g y:Nat}{so6:Option aG}{acc bS:Λ}{count bad:Int}{p:x1}{Q:x1->x3->Prop}(c2:af (λr=>w0.heap.size<=r) w0 w)(bU:ag w y ei [cc t,Δ k,d9,.slice ν 0 0])(c4:ao .i64 ap w gz d9 acc)(h:bP w g B bT 100000 so6)(c5:∀s,so6=σ s->lz s/\s.d8.length<=100000/\(∀z∈acc,1<=z/\z<=au)/\acc.length<=100001)(e3:w0.heap.size<=g)(e4:w0.heap.size<=y)(c6:aI .u8 w0 p bS)(e5:0<=count/\count<=4611686018427387904)(bg:∀v I J bh,Ext w0 I->so6.bind (c3 (λ_ s=>dl acc s) count.toNat [])=bh.map (λs=>(J,s))->
   (∀s,bh=σ s->s.d8=[]/\¬0<=bad/\s.big=rs->v= .tuple #[Γ y,Δ (bS.length:Int),Δ 0]/\qh I y ⟨t,k,acc,J⟩)->
   ((∀s,bh=σ s->¬(s.d8=[]/\¬0<=bad/\s.big=rs))->∃n e:Int,v= .tuple #[.pointer ν,Δ n,Δ e])->Q v I):
  cm (Δ 0) w λbV A c7=>
   cz (α:=x1->x3->Prop) (λ(c8:x1)(K:x3)=>
    Split c8 (eu K λE=>
   ab x7 (bQ (Γ y)) E λaD=>
   ab x7 (u6 ei aD 3) E λaE=>
   ab x7 (u4 dG aE) E λbi=>
   ab x7 (bQ (Γ y)) E λc9=>
   ab x7 (u6 ei c9 2) E λda=>
   ab x7 (u4 aw da) E λdb=>
   aj x7 BC [(Γ g),db] E λdc ac=>
    (Ext E ac\/cE x7 (u4 dG aE) bi ac/\cE x7 (u6 ei aD 3) aE ac/\cE x7 (bQ (Γ y)) aD ac/\True)/\
   aC x7 (Y1 dG 1 #[(0,dc)]) ac λdd O=>
    (Ext E O\/cE x7 (u4 dG aE) bi O/\cE x7 (u6 ei aD 3) aE O/\cE x7 (bQ (Γ y)) aD O/\True)/\
    aC x7 (j6 #[dG,dG] dG #[bi,dd]) O λde aU=>
     ab x7 (bQ (Γ y)) aU λdf=>
     ab x7 (u6 ei df 3) aU λdg=>
     aC x7 (o7 dG dg de) aU λ(_:Unit)aW=>
     ab x7 (aO .add ap rs ro bV (Δ 1)) aW λdh=>
   c7 dh aW)
     (cz (α:=x3->Prop) (λ(N:x3)=>
   cz (α:=x3->Prop) (λ(C:x3)=>
    ab x7 (bQ (Γ g)) C λdi=>
    ab x7 (u6 bF di 3) C λdj=>
    ab x7 (u4 ae dj) C λdm=>
    ab x7 (aO .neq ae rs ro dm (Δ 0)) C λdn=>
    Split dn (eu C λW=>
     ab x7 (bQ (Γ g)) W λdp=>
     ab x7 (u6 bF dp 4) W λdq=>
     ab x7 (u4 ae dq) W λdr=>
     ab x7 (bQ (Γ g)) W λds=>
     ab x7 (u6 bF ds 3) W λdt=>
     ab x7 (u4 ae dt) W λdu=>
     Q (.tuple #[(.pointer ν),dr,du]) W)
     (ab x7 (bQ (Γ g)) C λdv=>
    ab x7 (u6 bF dv 5) C λdw=>
    ab x7 (u4 ae dw) C λdx=>
    ab x7 (aO .neq ae rs ro dx (Δ 0)) C λdy=>
    Split dy (eu C λX=>
     ab x7 (bQ (Γ g)) X λdz=>
     ab x7 (u6 bF dz 6) X λdA=>
     ab x7 (u4 ae dA) X λdC=>
     ab x7 (bQ (Γ g)) X λdD=>
     ab x7 (u6 bF dD 5) X λdE=>
     ab x7 (u4 ae dE) X λdF=>
     Q (.tuple #[(.pointer ν),dC,dF]) X)
     (ab x7 (W0 #[cS] ae #[p]) C λdH=>
    Q (.tuple #[(Γ y),dH,(Δ 0)]) C))) λbW=>
   cz (α:=x1->x3->Prop) (λ(dI:x1)(aY:x3)=>
    Split dI (aj x7 pA [(Γ g),(Δ 11),(Δ bad)] aY λe6 bX=>
     bW bX)
     (bW aY)) λbZ=>
   ab x7 (bQ (Γ g)) N λdJ=>
   ab x7 (u6 bF dJ 3) N λt182=>
   ab x7 (u4 ae t182) N λt183=>
   ab x7 (aO .eql ae rs ro t183 (Δ 0)) N λdK=>
   Split dK (ab x7 (aO .geq ae rs ro (Δ bad) (Δ 0)) N λdL=>
   bZ dL N)
    (bZ (.bool rs) N)) λb1=>
  cz (α:=x1->x3->Prop) (λ(dM:x1)(P:x3)=>
   Split dM (ab x7 (bQ (Γ g)) P λdO=>
    ab x7 (u6 bF dO 0) P λdP=>
    ab x7 (u4 fB dP) P λdQ=>
    ab x7 (j4 fB dQ (Δ 0)) P λdR=>
    ab x7 (u6 cA dR 1) P λdS=>
    ab x7 (u4 ae dS) P λdU=>
    aj x7 pA [(Γ g),(Δ 4),dU] P λe7 bk=>
    b1 bk)
    (b1 P)) λb2=>
  ab x7 (bQ (Γ g)) K λdV=>
  ab x7 (u6 bF dV 3) K λdW=>
  ab x7 (u4 ae dW) K λdX=>
  ab x7 (aO .eql ae rs ro dX (Δ 0)) K λdY=>
  Split dY (ab x7 (bQ (Γ g)) K λdZ=>
  ab x7 (u6 bF dZ 0) K λea=>
  ab x7 (u4 fB ea) K λeb=>
  ab x7 (W0 #[fB] ae #[eb]) K λec=>
  ab x7 (aO .gtr ae rs ro ec (Δ 0)) K λed=>
  b2 ed K)
   (b2 (.bool rs) K))) λb3=>
   ab x7 (aO .lss ap rs rs bV (Δ count)) A λee=>
   Split ee (ab x7 (bQ (Γ g)) A λef=>
   ab x7 (u6 bF ef 3) A λeg=>
   ab x7 (u4 ae eg) A λeh=>
   ab x7 (aO .eql ae rs ro eh (Δ 0)) A λej=>
   b3 ej A)
    (b3 (.bool rs) A):=by
 have b4:y≠g:=λhe=>by
  obtain⟨ad,Y,Z,bad,ak,big,al,m1,sv,f,_⟩:=jp h;subst he;exact m6 (eI f bU) Φ
 refine⟨λbl A=>∃i:Nat,bl=Δ (i:Int)/\i<=count.toNat/\af (λr=>w0.heap.size<=r) w0 A/\∃M gr J so,∃H:ah,ag A y ei [cc t,Δ k,d9,M]/\ao .i64 ap A gz d9 acc/\rI A gr M J/\(∀r,lc M r->w0.heap.size<=r/\¬H r)/\¬H y/\(∀r,li d9 r->¬H r)/\(∀r,H r->w0.heap.size<=r)/\bP A g A.heap.size H 100001 so/\ne (λ_ s=>dl acc s) count.toNat i so6 J so/\
   ∀s,so=σ s->lz s/\J.length+s.d8.length<=100000/\(∀z∈acc,1<=z/\z<=au)/\acc.length<=100001,λbl _=>count.toNat-(b0 bl).toNat,
  ⟨0,rfl,X7 _,c2,_,0,[],so6,bT,bU,c4,⟨[],bj.nil _ _ _ _ _,rfl,λi h x hi=>by simp at hi⟩,λr a=>(gm a).elim,id,λr _ h=>h,λr h=>h.elim,h.base.up Ω,?_,λs U=>?_⟩,?_⟩
 .unfold ne;cases so6<;>rfl
 .obtain⟨ek,em,a3,a4⟩:=c5 s U;exact⟨ek,by simpa using em,a3,a4⟩
 rintro _ A ⟨i,rfl,hi,aZ,M,gr,J,so,H,b5,b6,b7,aF,bm,en,b8,V,bn,eo⟩;refine aV (λv K=>A=K/\((v= .bool ro/\i<count.toNat/\∃s,so=σ s)\/(v= .bool rs/\(so=ν\/i=count.toNat)))) ?_ ?_
 rotate_left
 .intro ay bo;rw[aP,ai];refine⟨λb9=>?_,λe8=>bo _ _ ⟨rfl,.inr ⟨rfl,.inr Ω⟩⟩⟩;rw[nd V];cases so with
  |none=>exact bo _ _ ⟨rfl,.inr ⟨rfl,.inl rfl⟩⟩
  |some s=>exact bo _ _ ⟨rfl,.inl ⟨rfl,Ω,s,rfl⟩⟩
 rintro _ _ ⟨rfl,⟨rfl,b9,s,rfl⟩|⟨rfl,ep⟩⟩
 .
  rw[bY];intro E am _ _;obtain⟨ca,e9,cb,cd⟩:=eo s rfl;have aH:=b5.W am;obtain⟨er,ce,aJ,cf⟩:=(V.W am).low.shrink;have bp:=b6.W am;have es:=b7.W am;rw[aK ei.p 3 aH rfl,aK ei.p 2 aH rfl];refine(QV ce bp cb cd (λr a=>by obtain⟨c,f⟩:=cf r a;exact f.lt) ca).X ?_;rintro _ ac _ ⟨et,x,cg,aq,rfl,ch,ev,ew,fa,ci,ey⟩;have cj:∃c,ag E g bF c:=by obtain⟨ad,Y,Z,bad,ak,big,al,m1,sv,f,_⟩:=jp ce;exact⟨_,f⟩
  have ck:∀r,(r=g\/er r)->iF E r\/E.heap.size<=r:=λr a=>by
   rcases a with rfl|a
   .obtain⟨c,f⟩:=cj;exact .inl ⟨_,c,f,Φ,Φ⟩
   .obtain⟨c,f⟩:=cf r a;exact .inl ⟨_,c,f,Φ,Φ⟩
  have bq:=aH.aa aq λa=>a.elim (λhe=>b4 he) λa=>bm (aJ _ a);have st:∀{I:x3},ag I y ei [cc t,Δ k,d9,M]->cE x7 (u4 dG (.pointer (σ ⟨y,0+3,ν⟩))) M I/\cE x7 (u6 ei (Γ y) 3) (.pointer (σ ⟨y,0+3,ν⟩)) I/\cE x7 (bQ (Γ y)) (Γ y) I/\True:=λf=>
   ⟨mP Ψ (f.cell rfl),kK (by rw[aT ei.p rfl]),kK (by rw[bR]),trivial⟩
  refine⟨.inr (st bq),?_⟩;refine iV dG.u a8.i Ω rfl rfl λfb fc O fd R ez=>?_;refine⟨.inr (st (bq.W R)),?_⟩;obtain⟨L,av,br,bs⟩:=id es;have eA:=av.aa aq λr a U=>U.elim (λhe=>by
   obtain⟨c,f⟩:=cj;subst he;exact cO av f Φ a) λU=>(aF r a).2 (aJ r U)
  have bu:=eA.W R;refine jo dG.u a8.i rfl bu (by simpa using ez.sl) (ch.W R).one Ω Ω λeB eC aU a1 eD cl=>?_;have bw:=bq.W R;have cn:=bw.aa cl λhe=>cO bu bw Φ he;rw[bR,aT ei.p rfl];refine bt (g:=y) (o:=3) dG.i (eJ a1.sl).1 (eJ a1.sl).2 cn Ξ λaW cq fe bx=>?_;have bx:=bx;have ff:i<=4611686018427387904:=Ω
  rw[aM,lm Ω Ω];have az:af (λr=>lc M r\/r=y) O aW:=(cl.X λr _ h=>.inl h).F (cq.X λr _ h=>.inr h);have cr:∀r,(lc M r\/r=y)->∃e c,ag O r e c/\e≠ap/\e≠cp/\e≠cA/\e≠bF:=λr a=>by
   rcases a with a|rfl
   .obtain⟨rfl,c,f⟩:=dN bu a;exact⟨_,c,f,Φ,Φ,Φ,Φ⟩
   .exact⟨_,_,bw,Φ,Φ,Φ,Φ⟩
  have bz:∀r,(lc M r\/r=y)->iF O r\/O.heap.size<=r:=λr a=>by
   obtain⟨e,c,f,bA,bB,_⟩:=cr r a;exact .inl ⟨e,c,f,bA,bB⟩
  have fg:=am.size;have z28:=aq.size;have fh:=R.size;have fi:=az.size;have ct:∀r,lc M r->r<E.heap.size:=λr a=>by obtain⟨Y,Z⟩:=av.li a;omega
  have aL:∀r,r<E.heap.size->¬H r->¬cg r:=λr a eE bC=>(ci r bC).elim (λh=>eE (aJ r h)) λh=>Ω
  have eF:∀r,li d9 r->r<E.heap.size:=λr a=>by obtain⟨Y,Z⟩:=bE bp a;omega
  refine⟨⟨i+1,rfl,Ω,?_,eB,eC,J++[x],_,cg,bx,eT ((eT bp aq ck).W R) az bz,⟨L++[et],a1.aa cq λr a he=>?_,by rw[p8,p8,br];rfl,λj cu eH aA aN=>?_⟩,λr a=>?_,aL y aH.lt bm,λr a=>aL r (eF r a) (en r a),λr a=>?_,?_,bn.step b9 rfl λq G=>ew q G,λs' S=>?_⟩,by simp only[b0];omega⟩
  .refine (((aZ.F (am.aa _)).F (aq.X λr _ h=>?_)).F (R.aa _)).F (az.X λr _ h=>?_)
   .exact h.elim (λh=>Ω) λh=>b8 r (aJ r h)
   .exact h.elim (λh=>(aF r h).1) λh=>Ω
  .have he:r=y:=he;subst he;exact cO a1 cn Φ a
  .by_cases eK:j<L.length
   .rw[W8 eK]at aA;rw[W8 Ω]at aN;exact(((bs j cu eH aA aN).dT aq ck).W R).dT az bz
   .rw[Y9 Ω]at aA;rw[Y9 Ω]at aN;have eL:j-L.length=0:=by have:=(x4.1 aA).1;simp at this;omega
    have eM:j-J.length=0:=Ω
    rw[eL]at aA;rw[eM]at aN;cases aA;cases aN;exact(ch.W R).dT az bz
  .rcases eD r a with h|h
   .exact⟨(aF r h).1,aL r (ct r h) (aF r h).2⟩
   .exact⟨by have:=aZ.size;omega,λbC=>by have:=ey r bC;omega⟩
  .rcases ci r a with h|h
   .exact b8 r (aJ r h)
   .have:=aZ.size;omega
  .refine (ev.W R).dT az λr a=>.inl ?_;obtain⟨e,c,f,bA,bB,eN,eO⟩:=cr r a;refine⟨e,c,f,bA,bB,eN,eO,?_⟩;rcases a with a|rfl
   .exact aL r (ct r a) (aF r a).2
   .exact aL _ aH.lt bm
  .cases bD:dl acc s with
   |none=>rw[bD]at S;cases S
   |some q=>
    obtain⟨fj,s2⟩:=q;rw[bD]at S;cases S;obtain⟨fk,eP⟩:=QX bD;refine⟨eP ca,?_,cb,cd⟩;rw[p8];simp only[T4];omega
 .
  rw[aX];have bG:so6.bind (c3 (λ_ s=>dl acc s) count.toNat [])=so.map λs=>(J,s):=by
   unfold ne at bn;rw[bn];cases so with
   |none=>rfl
   |some s=>
    rcases ep with h|rfl
    .cases h
    .simp only[U5];rfl
  have row:∀{I:x3},af (λr=>r=g) A I->rI I gr M J/\ag I y ei [cc t,Δ k,d9,M]/\ao .i64 ap I gz d9 acc:=λa2=>by
   obtain⟨ad,Y,Z,bad,ak,big,al,m1,sv,f,_⟩:=jp V;have cw:∀r,r=g->iF A r\/A.heap.size<=r:=λr a=>by subst a;exact .inl ⟨_,_,f,Φ,Φ⟩
   obtain⟨L,av,br,bs⟩:=id b7;refine⟨⟨L,av.aa a2 λr a he=>?_,br,λi h x hi eQ=>(bs i h x hi eQ).dT a2 cw⟩,b5.aa a2 λhe=>b4 he,eT b6 a2 cw⟩;have he:r=g:=he;subst he;exact cO av f Φ a
  refine dk (λN=>af (λr=>r=g) A N/\bP N g A.heap.size H 100001 (so.bind λs=>if s.d8=[]then σ s else ν)) ?_ ?_
  rotate_left
  .intro fm cB;refine aV (λv P=>A=P/\∃b:Bool,v= .bool b/\(b=ro->∃s,so=σ s/\s.d8≠[])/\(b=rs->∀s,so=σ s->s.d8=[])) ?_ ?_
   .rintro _ _ ⟨rfl,b,rfl,bH,bI⟩;cases b with
    |true=>
     obtain⟨s,rfl,a6⟩:=bH rfl;rw[bY];obtain⟨cC,cD,ad,aQ,gs,sv,L,cF,Y,Z,bK,ak,big,al,m1,cG,a7,ba,aB,bb,cH,cJ,cK,bc,cL,cM,bd,cN,cP,cQ⟩:=id V;obtain⟨⟨bM,eR⟩,_⟩:=bb.g a7 ba;obtain⟨x,fo,rfl⟩:∃x l,aQ=x::l:=by
      cases aQ with
      |nil=>exact m6 bd.symm (by simpa using a6)
      |cons x l=>exact⟨x,l,rfl⟩
     rw[aK bF.p 0 aB rfl];refine FA bM λb o eS=>?_;rw[aT cA.p rfl,ax Ψ (eS 1 _ rfl)];refine(qg V Ω).X ?_;rintro _ bk _ ⟨eU,eV⟩;refine cB _ ⟨eU,?_⟩;show bP bk g _ H 100001 (if s.d8=[]then σ s else ν);rw[m5 a6];exact eV
    |false=>
     rw[aX];refine cB _ ⟨af.refl _ _,?_⟩;cases so with
     |none=>exact V
     |some s=>
      show bP _ g _ H 100001 (if s.d8=[]then σ s else ν);rw[m3 (bI rfl s rfl)];exact V
   .intro fp cR;rw[nd V];cases so with
    |none=>
     rw[R3,aX];exact cR _ _ ⟨rfl,rs,rfl,(λh=>by cases h),λ_ s U=>by cases U⟩
    |some s=>
     rw[S9,bY];obtain⟨cC,cD,ad,aQ,gs,sv,L,cF,Y,Z,bK,ak,big,al,m1,cG,a7,ba,aB,bb,cH,cJ,cK,bc,cL,cM,bd,cN,cP,cQ⟩:=id V;obtain⟨⟨bM,eR⟩,_⟩:=bb.g a7 ba;rw[aK bF.p 0 aB rfl,Fz bM,bL];have fq:aQ.length=s.d8.length:=by rw[<-bd,o4]
     refine cR _ _ ⟨rfl,_,rfl,λh=>⟨s,rfl,λaR=>?_⟩,λh s' S=>?_⟩
     .have:=rc h;have cu:s.d8.length=0:=by rw[aR];rfl
      omega
     .cases S;have:=of_decide_eq_false h;exact Z0 Ω
  rintro N ⟨cT,bN⟩;refine dk (λC=>af (λr=>r=g) A C/\bP C g A.heap.size H 100001 (so.bind λs=>if s.d8=[]/\¬0<=bad then σ s else ν)) ?_ ?_
  rotate_left
  .intro fs cU;refine aV (λv aY=>N=aY/\∃b:Bool,v= .bool b/\(b=ro->(so.bind λs=>if s.d8=[]/\¬0<=bad then σ s else ν)=ν)/\(b=rs->(so.bind λs=>if s.d8=[]/\¬0<=bad then σ s else ν)=so.bind λs=>if s.d8=[]then σ s else ν)) ?_ ?_
   .rintro _ _ ⟨rfl,b,rfl,bH,bI⟩;cases b with
    |true=>
     rw[bY];refine(qg bN Ω).X ?_;rintro _ bX _ ⟨eW,eX⟩;exact cU _ ⟨cT.F eW,by rw[bH rfl];exact eX⟩
    |false=>
     rw[aX];exact cU _ ⟨cT,by rw[bI rfl];exact bN⟩
   .intro ft cV;rw[nd bN];cases G:(so.bind λs=>if s.d8=[]then σ s else ν)with
    |none=>
     rw[R3,aX];refine cV _ _ ⟨rfl,rs,rfl,(λh=>by cases h),λ_=>?_⟩;cases so with
     |none=>rfl
     |some s=>
      have G:(if s.d8=[]then σ s else ν)=ν:=G;show(if s.d8=[]/\¬0<=bad then σ s else ν)=(if s.d8=[]then σ s else ν);rw[G];split at G
      .cases G
      .rename_i a6;rw[m5 (λh=>a6 h.1)]
    |some s=>
     rw[S9,bY,cI];refine cV _ _ ⟨rfl,_,rfl,λh=>?_,λh=>?_⟩
     .have aR:=rc h;cases so with
      |none=>rfl
      |some s=>exact m5 λh=>h.2 aR
     .have aR:=of_decide_eq_false h;cases so with
      |none=>rfl
      |some s=>
       show(if s.d8=[]/\¬0<=bad then σ s else ν)=(if s.d8=[]then σ s else ν);by_cases U:s.d8=[]
       .rw[m3 U,m3 ⟨U,aR⟩]
       .rw[m5 U,m5 λh=>U h.1]
  rintro C ⟨cW,be⟩;obtain⟨eY,eZ,e0⟩:=row cW;have e1:af (λr=>w0.heap.size<=r) w0 C:=aZ.F (cW.X λr _ h=>by have h:r=g:=h;omega);have bf:=e1.W λr a he=>Ω
  rw[tj be];cases G:(so.bind λs=>if s.d8=[]/\¬0<=bad then σ s else ν)with
  |none=>
   rw[R3,X4,bY];intro W cX _ _;obtain⟨ad,Y,Z,bK,ak,big,al,m1,sv,f,_⟩:=jp (be.W cX);rw[aK bF.p 4 f rfl,aK bF.p 3 f rfl];refine bg _ _ J so (bf.F cX) bG (λs U an=>?_) λ_=>⟨_,_,rfl⟩;subst U;have G:(if s.d8=[]/\¬0<=bad then σ s else ν)=ν:=G;rw[m3 ⟨an.1,an.2.1⟩]at G;cases G
  |some s=>
   rw[G]at be;rw[S9,Y6,aX];obtain⟨s',rfl,S⟩:∃s',so=σ s'/\(if s'.d8=[]/\¬0<=bad then σ s' else ν)=σ s:=by
    cases so with
    |none=>cases G
    |some s'=>exact⟨s',rfl,G⟩
   split at S
   .rename_i cY;cases S;obtain⟨cC,cD,ad,aQ,gs,sv,L,cF,Y,Z,bK,ak,big,al,m1,cG,a7,ba,aB,bb,cH,cJ,cK,bc,cL,cM,bd,cN,cP,cQ⟩:=id be;rw[aK bF.p 5 aB rfl,bJ,ai];refine⟨λbO=>?_,λbO=>?_⟩
    .intro X cZ _ _;have c0:=aB.W cZ;rw[aK bF.p 6 c0 rfl,aK bF.p 5 c0 rfl];refine bg _ _ J _ (bf.F cZ) bG (λs2 c1 an=>?_) λ_=>⟨_,_,rfl⟩;cases c1;rw[bc.1 bO]at an;cases an.2.2
    .rw[aS cS.u (c6.W bf)];refine bg _ _ J _ bf bG (λs2 c1 an=>⟨rfl,d9,gz,M,gr,eZ,e0,eY⟩) λe2=>?_;refine m6 ⟨cY.1,cY.2,?_⟩ (e2 s rfl);cases f:s.big with
     |false=>rfl
     |true=>exact m6 (bc.2 f) bO
   .cases S
def Zero(so:Option aG):Prop:=∀s,so=σ s->s.m1=0/\s.d8.length<=100000
theorem Zero.big{so:Option aG}(h:Zero so)(b:Bool):Zero (so.map (ba b)):=λs U=>by
 cases so with
 |none=>cases U
 |some s0=>cases U;exact h s0 rfl
theorem zero_num{lo hi:Int}{so:Option aG}(h:Zero so):Zero ((bb lo hi so).map (·.2)):=λs U=>by
 cases so with
 |none=>cases U
 |some s0=>
  have U:W6 (λx=>x.2) (bc lo hi s0)=σ s:=U;cases a:bc lo hi s0 with
  |none=>grind
  |some q=>
   obtain⟨n,s1⟩:=q;rw[a]at U;cases U;have e:=ds a;have:=e.1;obtain⟨h1,f⟩:=h s0 rfl;exact⟨e.eqs.1.F h1,by grind⟩
theorem Q6{so:Option aG}(h:Zero so):Zero ((kP so).map (·.2)):=λs U=>by
 cases so with
 |none=>cases U
 |some s0=>
  have U:W6 (λx=>x.2) (dS s0)=σ s:=U;cases a:dS s0 with
  |none=>grind
  |some q=>
   obtain⟨n,s1⟩:=q;rw[a]at U;cases U;obtain⟨J,V⟩:=uZ a;obtain⟨h1,e⟩:=h s0 rfl
   grind
theorem Q7{so:Option aG}{f:b5}(h:iR ⟨(lex a).1,0,rs,[]⟩=so.map λs=>(f,s))(e:¬65536<a.length):eC a=so.bind λs=>if s.d8=[]/\(lex a).2=ro/\s.big=rs then σ f else ν:=by
 unfold eC;rw[m5 e,h]<;>cases so<;>rfl
theorem Q8(j:a.length<=60000):(∀t∈(lex a).1,Bytes t/\t.length<=65536)/\(lex a).1.length<=60000:=by
 refine⟨λt e=>?_,by grind [q5]⟩;obtain⟨_,f,p⟩:=uN a.length a (p9 _) t e;refine⟨λb h=>?_,Ω⟩;have:=rc (f b h);omega
theorem FK{p:x1}{B:Λ}(ad:aI .u8 w p B)(ca:Bytes B)(cd:B.length<=60000):aj x7 IJ [p] w (QZ w B):=by
 obtain⟨ce,dC⟩:=Q8 cd;refine az func12 ?_;rw[aS cS.u ad,bL,ai];refine⟨Ω,λ_=>?_⟩;refine(QN ad ca Ω).X ?_;rintro _ J _ ⟨aE,ak,cf,bad,rfl,bf,cg,dD,dE,bg⟩;rw[bo,bp,aS cS.u (ad.W aE),dw (cs:=#[ak,Δ (B.length:Int),Δ 4,Δ 0,Δ 0,Δ 0,Δ 0,Δ 0,.slice ν 0 0]) (by obtain⟨_,_,_,_,_,rfl,_⟩:=bf;kernel_rfl)];refine bm λg V dF al am=>?_;have am:ag V g bF (i9 ak (B.length:Int) 4 0 0 0 0 0 (.slice ν 0 0)):=am;have dG:=aE.size;have dH:=al.size;have dI:=am.lt;refine dk (λE=>Ext w E/\af (λr=>r=g) V E/\∃X Y:Int,Y≠0/\ag E g bF (i9 ak X Y 0 0 0 0 0 (.slice ν 0 0))) ?_ ?_
 rotate_left
 .intro ay aF;have ch:=aE.F al;rw[cI,ai];refine⟨λ_=>?_,by grind [af.refl]⟩;rw[bR,aT bF.p rfl];refine bt (g:=g) (o:=1) ae.i rfl rfl am (by simp[i9]) λdJ ci dK ck=>?_;rw[bR,aT bF.p rfl];refine bt (g:=g) (o:=2) ae.i rfl rfl ck (by simp[i9]) λdL cl dM cm=>?_;have G:=ci.F cl;exact aF _ ⟨ch.then G Ω,G,bad,11,Ω,cm⟩
 rintro E ⟨bh,aH,X,Y,cn,bi⟩;have z3:=aH.size;have cp:bP E g E.heap.size bT 100000 (σ ⟨(lex B).1,0,rs,[]⟩):=by
  refine⟨p9 _,E,ak,cf,0,_,[],[],X,Y,0,0,0,0,0,rfl,af.refl _ _,⟨_,bi⟩,bi,⟨⟨?_,λr j=>?_⟩,bj.nil _ _ _ _ _,rfl,by grind⟩,λr j=>gm j,rfl,cn,Ξ,λ_=>rfl,trivial,cg,ce,rfl,?_⟩
  .refine (bf.aa (al.aa λ_=>False) λ_ _ h=>h).aa aH λr j he=>?_;have he:r=g:=he;obtain⟨c,M⟩:=bg r j;have:=M.lt;omega
  .obtain⟨c,M⟩:=bg r j;exact⟨c,(M.W al).aa aH λhe=>by have he:r=g:=he;have:=M.lt;omega⟩
  grind
 have dN:∀{R:x3}{cq N:Nat}{H:ah}{so:Option aG},bP R g cq H N so->True:=λ_=>trivial;rw[dw (cs:=#[cc [],Δ 0,.slice ν 0 0,.slice ν 0 0]) Ψ];refine bm λC cr dO aJ aq=>?_;have aq:ag cr C ei [cc [],Δ 0,.slice ν 0 0,.slice ν 0 0]:=aq;have dP:E.heap.size<=C:=Ω
 have dQ:=aq.lt;have ct:C≠g:=Ω
 have L:∀{R Z:x3}{c:List x1},ag R C ei c->af (λr=>r=g) R Z->ag Z C ei c:=λM G=>M.aa G λhe=>ct he;refine(FB (cp.W aJ)).X ?_;rintro _ cu _ ⟨⟨aL,cw⟩,t,bl,rfl,dR,dS,cz⟩;refine bx cA.i λcB dT dU cC cD=>?_;refine cb (vs:=[cc t,Δ bl]) cA.i rfl rfl (by intro v bn;simp at bn;rcases bn with rfl|rfl<;>rfl) cD λcE cF dV bq=>?_;have av:Ext cu cE:=cC.put cF Ω;have cG:=(L aq aL).W av;rw[aQ cA.p 0 bq rfl,bR,aT ei.p rfl];refine bt (g:=C) (o:=0) dd.i rfl rfl cG Ξ λbr aN dW aO=>?_;have aO:=aO;have cH:=(cw.W av).new aN Ω;have z4:=aJ.size;have z5:=aL.size;have dX:=av.size;have bs:ag br cB cA [cc t,Δ bl]:=bq.aa aN Ω;rw[aQ cA.p 0 bs rfl,pR dd.u,bL,aQ cA.p 1 bs rfl];have cJ:af (λr=>w.heap.size<=r) w br:=((((bh.aa _).F (aJ.aa _)).F (aL.X Ω)).F (av.aa _)).F (aN.X Ω);have up:∀{R Z:x3},af (λr=>w.heap.size<=r) w R->af (λr=>r=g) R Z->af (λr=>w.heap.size<=r) w Z:=λh k=>h.F (k.X Ω);refine(oZ cH).X ?_;rintro _ dY _ ⟨bu,ab⟩;have cK:=up cJ bu;have cL:=L aO bu;generalize aR:(((kP (σ ⟨(lex B).1,0,rs,[]⟩)).map (·.2)).map (ba (decide ((64:Int)<(t.length:Int)))))=aU at ab;refine(ma ab).X ?_;rintro _ dZ _ ⟨⟨bw,cM⟩,n,ea,rfl,bz,eb⟩;rw[bo,bp,bL];refine(oZ cM).X ?_;rintro _ ec _ ⟨bA,bB⟩;have ed:=up (up cK bw) bA;have cN:=L (L cL bw) bA;generalize bC:((bb 1 4611686018427387904 aU).map (·.2)).map (ba (decide (64<n)))=aW at bB;refine(ma bB).X ?_;rintro _ ee _ ⟨⟨cO,bD⟩,most,ef,rfl,hm,eg⟩;rw[bo,bp];generalize cP:(bb 1 4611686018427387904 aW).map (·.2)=aY at bD;refine(ma bD).X ?_;rintro _ eh _ ⟨⟨cQ,cR⟩,count,ej,rfl,bE,ek⟩;rw[bo,bp,bL];refine(oZ cR).X ?_;rintro _ em _ ⟨cT,bG⟩;generalize bH:((bb 0 4611686018427387904 aY).map (·.2)).map (ba (decide (256<count)))=bI at bG;refine(ma bG).X ?_;rintro _ en _ ⟨⟨cU,cV⟩,k,eo,rfl,hk,ep⟩;rw[bo,bp,bL];refine(oZ cV).X ?_;rintro _ er _ ⟨bJ,bK⟩;generalize bM:((bb 1 4611686018427387904 bI).map (·.2)).map (ba (decide (2147483648<k)))=ax at bK;have cW:=up (by grind) bJ;have cX:=L (L (L (L (L cN cO) cQ) cT) cU) bJ;rw[bR,aT ei.p rfl];refine bt (g:=C) (o:=1) ap.i rfl rfl cX Ξ λcY bN es aZ=>?_;have aZ:=aZ;have cZ:=bK.new bN Ω;have bO:af (λr=>w.heap.size<=r) w cY:=cW.F (bN.X Ω);have et:0<=n/\n<=4611686018427387904:=by
  cases A:bb 1 4611686018427387904 aU with
  |none=>grind
  |some q=>have ab:=bz q A;have:=oT A;omega
 have eu:0<=most/\most<=4611686018427387904:=by
  cases A:bb 1 4611686018427387904 aW with
  |none=>grind
  |some q=>have ab:=hm q A;have:=oT A;omega
 have c0:0<=count/\count<=4611686018427387904:=by
  cases A:bb 0 4611686018427387904 aY with
  |none=>grind
  |some q=>have ab:=bE q A;have:=oT (s':=q.2) A;omega
 have c1:Zero (σ (⟨(lex B).1,0,rs,[]⟩:aG)):=λs U=>by cases U;exact⟨rfl,by simp only;omega⟩
 have c2:Zero aU:=by rw[<-aR];exact(Q6 c1).big _
 have ev:Zero aW:=by rw[<-bC];exact(zero_num c2).big _
 have c4:Zero aY:=by grind [zero_num]
 have c5:Zero bI:=by rw[<-bH];exact(zero_num c4).big _
 have bQ:Zero ax:=by rw[<-bM];exact(zero_num c5).big _
 have ew:=bO.size;refine⟨λa1 O=>∃i:Nat,a1=Δ (i:Int)/\i<=n.toNat/\af (λr=>w.heap.size<=r) w O/\∃d9 gz acc so,ag O C ei [cc t,Δ k,d9,.slice ν 0 0]/\ao .i64 ap O gz d9 acc/\(∀r,li d9 r->E.heap.size<=r)/\bP O g E.heap.size bT 100000 so/\ne (fR most) n.toNat i ax acc so/\∀s,so=σ s->s.m1=0/\acc.length+s.d8.length<=100000/\∀z∈acc,1<=z/\z<=au,λa1 _=>n.toNat-(b0 a1).toNat,
  ⟨0,rfl,X7 _,bO,_,0,[],ax,aZ,ao.nil _ _ _ _,(λr j=>by obtain⟨a,aA,c,X,Y⟩:=j;cases X),cZ,?_,λs U=>⟨(bQ s U).1,by simpa using(bQ s U).2,by grind⟩⟩,?_⟩
 .unfold ne
  grind
 rintro _ O ⟨i,rfl,hi,a2,d9,gz,acc,so,bS,bU,c6,ac,a6,bV⟩;refine aV (λv c7=>O=c7/\((v= .bool ro/\i<n.toNat/\∃s,so=σ s)\/(v= .bool rs/\(so=ν\/i=n.toNat)))) ?_ ?_
 rotate_left
 .intro ay aF;rw[aP,ai];refine⟨λbW=>?_,λey=>aF _ _ ⟨rfl,.inr ⟨rfl,.inr Ω⟩⟩⟩;rw[nd ac];cases so<;>grind
 rintro _ _ ⟨rfl,⟨rfl,bW,s,rfl⟩|⟨rfl,c8⟩⟩
 .rw[bY];obtain⟨c9,ez,eA⟩:=bV s rfl;refine(ma ac).X ?_;rintro _ eB _ ⟨⟨da,db⟩,z,eD,rfl,a7,eE⟩;rw[bo,bp,bL];refine(oZ db).X ?_;rintro _ eF _ ⟨dc,de⟩;have aB:=da.F dc;have bX:=L bS aB;have df:∀r,r=g->iF O r\/O.heap.size<=r:=λr j=>(mb ac r j).imp (λ⟨e,c,M,dg,dh,_⟩=>⟨e,c,M,dg,dh⟩) id;have bZ:=eT bU aB df;rw[aK ei.p 2 bX rfl];refine dr aw.u ap.i rfl λa22 eH di eI W dj=>?_;refine fU aw.u ap.i rfl (bZ.W W) dj.ls Θ Θ λdl dm eJ aC eK b1=>?_;have b2:=bX.W W;have b3:=b2.aa b1 λhe=>cj (bZ.W W) b2 Φ he rfl;rw[bR,aT ei.p rfl];refine bt (g:=C) (o:=2) aw.i aC.ls.cells.1 aC.ls.cells.2 b3 Ξ λdn b4 eL a8=>?_;have a8:=a8;rw[aM,lm Ω Ω];have b5:af (λr=>li d9 r\/r=C) di dn:=(b1.X λr _ h=>.inl h).F (b4.X λr _ h=>.inr h);have b6:∀r,(li d9 r\/r=C)->E.heap.size<=r:=λr j=>j.elim (c6 r) λj=>Ω
  have eM:=bh.size;have eN:=aB.size;have z22:=W.size;have eO:=a2.size;have eP:=ac.lt;refine⟨⟨i+1,rfl,Ω,((up a2 aB).F (W.aa _)).F (b5.X λr _ h=>by have:=b6 r h;omega),dl,dm,acc++[z],((bb 1 most (σ s)).map (·.2)).map (ba (decide (32<z))),a8,bk aC b4 λr j he=>?_,λr j=>?_,(de.W W).new b5 b6,?_,λs' P=>?_⟩,by simp only[b0];omega⟩
  .have he:r=C:=he;subst he;exact cj aC b3 Φ j rfl
  .grind
  .refine a6.step bW ?_ λq A=>?_
   .show (W6 _ (bc 1 most s)).map _=_;unfold fR;cases A:bc 1 most s with
    |none=>rfl
    |some q=>
     have:=a7 q A
     grind
   .unfold fR at A;cases S:bc 1 most s with
    |none=>grind
    |some aD=>
     rw[S]at A;have:=a7 aD S
     grind
  .cases S:bc 1 most s with
   |none=>
    have P:(W6 (λx=>x.2) (bc 1 most s)).map (ba (decide (32<z)))=σ s':=P
    grind
   |some aD=>
    have P:(W6 (λx=>x.2) (bc 1 most s)).map (ba (decide (32<z)))=σ s':=P;rw[S]at P;have eQ:=a7 aD S;obtain⟨eR,s2⟩:=aD;cases P;have b7:=ds S;have jN:=(jl S).1;have eS:=b7.1;refine⟨by show s2.m1=0;rw[b7.eqs.1];exact c9,?_,λy bd=>?_⟩
    .rw[p8];show acc.length+1+s2.d8.length<=100000;omega
    .rcases o9.1 bd with bd|bd
     all_goals grind [au]
 .rw[aX];have dp:ax.bind (c3 (fR most) n.toNat [])=so.map λs=>(acc,s):=by
   unfold ne at a6;rw[a6];cases so with
   |none=>rfl
   |some s=>
    rcases c8 with h|rfl
    .cases h
    .simp only[U5];rfl
  refine Q5 a2 bS bU ac (λs U=>?_) Ω Ω ad c0 λv I dq dt be du dv b8=>?_
  .obtain⟨dx,eU,a3⟩:=bV s U;exact⟨λ_=>by rw[dx];omega,Ω,a3,Ω⟩
  .have dy:(decide ((64:Int)<(t.length:Int)))=decide (64<t.length):=by grind
   rw[dy]at aR;have dz:=QY aR.symm (λq A=>cz q A) bC.symm bz cP.symm hm bH.symm bE bM.symm hk dp du;have Q:=Q7 dz Ω;have b9:¬0<=bad↔(lex B).2=ro:=by
    grind
   cases dt with
   |none=>
    obtain⟨aA,e,rfl⟩:=b8 λs U=>by cases U
    exact⟨be,aA,e,λ_=>rfl,λf K=>by rw[Q]at K;cases K⟩
   |some s=>
    have Q:eC B=if s.d8=[]/\(lex B).2=ro/\s.big=rs then σ ⟨t,k,acc,dq⟩else ν:=Q;by_cases G:s.d8=[]/\(lex B).2=ro/\s.big=rs
    .rw[m3 G]at Q;obtain⟨rfl,dA⟩:=dv s rfl ⟨G.1,b9.2 G.2.1,G.2.2⟩;exact⟨be,_,_,(λK=>by rw[Q]at K;cases K),λf K=>⟨C,rfl,by rw[Q]at K;cases K;exact dA⟩⟩
    .rw[m5 G]at Q;obtain⟨aA,e,rfl⟩:=b8 λs' P an=>by
      cases P;exact G ⟨an.1,b9.1 an.2.1,an.2.2⟩
     exact⟨be,aA,e,λ_=>rfl,λf K=>by rw[Q]at K;cases K⟩
theorem FL{a b:Int}:aj x7 Jc [Δ a,Δ b] w λv I=>v=Δ (min a b)/\Ext w I:=by
 refine az func79 ?_;rw[aP,ai];exact⟨λh=>⟨by congr 1;omega,Ext.refl _⟩,λh=>⟨by congr 1;omega,Ext.refl _⟩⟩
theorem Q9{s:kj}{x:cq}(h:il w s x)(P:(x.lines.map (·.1)).Nodup)(Q:aI .i64 w aN t):aj x7 KW [.agg (fH s).toArray,aN,Δ k] w λv I=>v=Δ (lp x k t)/\Ext w I:=by
 obtain⟨⟨g1,R⟩,⟨aq,S⟩,U,au,L,f,W,E⟩:=id h;refine az func238 ?_;refine bm λX J av z a=>?_;have a:ag J X a8 (fH s):=by
  obtain⟨_,_,_,Y⟩:=cP R.ls;obtain⟨_,_,_,Z⟩:=cP S.ls;obtain⟨_,_,_,_,_,aa,_⟩:=f.sl;simp only[fH,Y,Z,aa]at a ⊢;exact a
 have ab:=f.W z;have ac:L.length=x.lines.length:=by rw[<-E,o4]
 rw[aQ a8.p 2 a rfl,aQ a8.p 3 a rfl,e3 ej.u ab,U];refine b2.range L.length (λi j V=>Ext J V/\∃c:Int,j=Δ c/\min c k=mZ x k i t) f.le ⟨Ext.refl _,x.other,rfl,(Ev x k t).symm⟩ ?_ ?_
 .rintro i _ V ad hi ⟨e,c,rfl,q⟩ ae;obtain⟨y,A⟩:=aF (l:=L) hi;obtain⟨gy,G⟩:=W y (x5 A);have B:=z.F e;have af:x.lines[i]?=σ (y.t,y.c):=by rw[<-E,x8,A];rfl
  have H:=Ex (k:=k) P af t;refine bC Ω ?_;refine aV (λj K=>Ext J K/\∃c:Int,j=Δ c/\min c k=mZ x k (i+1) t) ?_ ?_
  .rintro j K ah;rw[aM];exact ae _ _ ah
  intro ay M;have N:=f.W B;rw[dm rfl ej.u cp.i N hi,bB cp.p cp.i rfl (N.range A)];refine bx cp.i λak aw ax al am=>?_;refine cb (vs:=qf y) cp.i rfl rfl (zd G) am λaA an aB O=>?_;have r:=al.put an Ω;rw[aQ cp.p 0 O rfl];refine(zc ((G.ls.W B).W r) ((Q.W B).W r)).X ?_;rintro _ aC _ ⟨rfl,C⟩;rw[ai];refine⟨λhe=>?_,λao=>?_⟩
  .rw[aQ cp.p 1 (O.W C) rfl];refine M _ _ ⟨(e.F r).F C,y.c,rfl,?_⟩;rw[H,m3 he.symm]
  .refine M _ _ ⟨(e.F r).F C,c,rfl,?_⟩;rw[H,m5 λhe=>ao he.symm,q]
 .rintro _ V ad ⟨e,c,rfl,q⟩;rw[ac,Ew]at q;refine ci Ω ?_;refine FL.X ?_;rintro _ aD _ ⟨rfl,ap⟩;exact⟨by rw[q],(z.F e).F ap⟩
theorem Ra{bD:x1}(h:aI .i64 w bD l)(N:l.Nodup)(ak:l.length<=64):aj x7 KV [bD] w λv I=>Ext w I/\∃g,ao .i64 ae I g v (bz l)/\∀r,li v r->w.heap.size<=r:=by
 refine az func237 ?_;have O:∀i,i<=64->(((Z2 i).map λ(v:Nat)=>(v:Int)).filter λv=>decide (v∈l)).length<=i:=λi _=>by
  have:=List.length_filter_le (λv=>decide (v∈l)) ((Z2 i).map λ(v:Nat)=>(v:Int));simp at this;omega
 refine b2.range 64 (λi e J=>Ext w J/\∃g,ao .i64 ae J g e (((Z2 i).map λ(v:Nat)=>(v:Int)).filter λv=>decide (v∈l))/\∀r,li e r->w.heap.size<=r) Ω ⟨Ext.refl _,0,ao.nil _ _ _ _,λr y=>by obtain⟨a,n,c,P,am⟩:=y;cases P⟩ ?_ ?_
 .rintro i e J k hi ⟨z,g,hm,C⟩ hk;refine bC Ω ?_;rw[aS aw.u (h.W z)];have Q:=O i Ω;generalize R:(((Z2 i).map λ(v:Nat)=>(v:Int)).filter λv=>decide (v∈l))=A at hm Q;refine b2.range l.length (λj e V=>Ext w V/\∃g,ao .i64 ae V g e (A++(if(i:Int)∈l.take j then[(i:Int)]else[]))/\∀r,li e r->w.heap.size<=r) h.le ⟨z,g,by simpa using hm,C⟩ ?_ ?_
  .rintro j S V U W ⟨q,E,f,s⟩ X;obtain⟨x,G⟩:=aF (l:=l) W;refine bC Ω ?_;refine aV (λe B=>Ext w B/\∃g,ao .i64 ae B g e (A++(if(i:Int)∈l.take (j+1)then[(i:Int)]else[]))/\∀r,li e r->w.heap.size<=r) ?_ ?_
   .rintro aq B Y;rw[aM];exact X _ _ Y
   intro ay M;have H:(i:Int)∈l.take (j+1)↔(i:Int)∈l.take j\/(i:Int)=x:=by
    rw[u7,G,l9,o9,b8]
   rw[be aw.u ap.i Ψ (h.W q) G,bh,ai];refine⟨λhe=>?_,λZ=>?_⟩
   .have aa:(i:Int)∉l.take j:=λhm=>by
     obtain⟨p,K⟩:=c9.1 hm;have ab:p<j:=by have:=(x4.1 K).1;rw[c7]at this;omega
     rw[Y5 ab,<-he]at K;have:=mV N K G;omega
    rw[m5 aa,V1]at f;refine dr al.u ae.i rfl λa3 au B av L ac=>?_;refine fU al.u ae.i rfl (f.W L) ac.ls Θ Θ λax ad aA af ag ah=>?_;have aB:=q.size;have z3:=L.size;refine M _ _ ⟨(q.F L).then ah λr y he=>by have:=s r he;omega,ad,?_,λr y=>(ag r y).elim (s r) λh=>Ω⟩;rw[m3 (H.2 (.inr he.symm))];exact af
   .refine M _ _ ⟨q,E,?_,s⟩;have:((i:Int)∈l.take (j+1))=((i:Int)∈l.take j):=propext ⟨λan=>(H.1 an).resolve_right λhe=>Z he.symm,λan=>H.2 (.inl an)⟩;simp only[this];exact f
  .rintro S V U ⟨q,E,f,s⟩;rw[o6]at f;refine ci Ω ?_;rw[aM];refine hk _ _ ⟨q,E,?_,s⟩;rw[List.range_succ,l7,List.filter_append,R];by_cases hm:(i:Int)∈l
   .rw[m3 hm]at f;simpa[hm]using f
   .rw[m5 hm]at f;simpa[hm]using f
 .rintro e J k ⟨z,g,hm,C⟩;rw[aP,ai];exact⟨λh=>Ω,λ_=>⟨z,g,hm,C⟩⟩
structure fI where
 aJ:x1
 d9:x1
 a1:x1
 sc:Λ
 cs:Λ
def dU(h:fI):List x1:=[h.aJ,h.d9,h.a1]
def rJ(h:fI)(r:Nat):Prop:=li h.a1 r\/li h.aJ r\/li h.d9 r
def fV(w:x3)(co:Λ)(h:fI):Prop:=(∃g,ao .i64 ae w g h.aJ h.sc)/\(∃g,ao .i64 ae w g h.d9 (aB co h.sc))/\∃g,ao .i64 ap w g h.a1 h.cs
theorem fV.W{h:fI}(an:fV w co h)(a:Ext w I):fV I co h:=by
 obtain⟨⟨g1,h1⟩,⟨e,f⟩,j,p⟩:=an;exact⟨⟨g1,h1.W a⟩,⟨e,f.W a⟩,j,p.W a⟩
theorem fV.one{h:fI}(an:fV w co h):∀u∈dU h,u.oneCell'=ro:=by
 obtain⟨⟨g1,h1⟩,⟨j,e⟩,p,f⟩:=an;intro u a;simp[dU]at a;rcases a with rfl|rfl|rfl
 .exact h1.ls.cells.2
 .exact e.ls.cells.2
 .exact f.ls.cells.2
theorem FM{f:b5}{x:cq}{Z:kj}(h:il w Z x)(aD:fh N f)(bq:x∈f.d7)(bY:ao .i64 ap w gz sv f.co):
  aj x7 J3 [.agg (fH Z).toArray,sv,Δ f.k] w λv I=>Ext w I/\∃c:fI,v= .agg (dU c).toArray/\c.sc=bz x.scope/\c.cs=(jG f.co f.k x).2/\fV I f.co c/\∀r,rJ c r->w.heap.size<=r:=by
 obtain⟨ab,bZ,du⟩:=aD.d7 x bq;have b0:=vq ab aD.co.2.1;have br:=vp b0 ab.scope.1;have dv:(bz x.scope).length<=6:=by rw[br.length_eq];exact bZ
 have b1:=ry aD bq;have dx:=En x.scope;obtain⟨⟨g1,aE⟩,⟨dy,b3⟩,dz,dA,b4⟩:=id h;refine az func152 ?_;refine bm λa2 J dC bs ac=>?_;have ac:ag J a2 a8 (fH Z):=by
  obtain⟨L,b6,_⟩:=b4;obtain⟨_,_,_,C⟩:=cP aE.ls;obtain⟨_,_,_,K⟩:=cP b3.ls;obtain⟨_,_,_,_,_,b7,_⟩:=b6.sl;simp only[fH,C,K,b7]at ac ⊢;exact ac
 refine bx a7.i λb8 V dD a6 ba=>?_;have bb:=bs.F a6;rw[aQ a8.p 0 (ac.W a6) rfl];refine(Ra (aE.ls.W bb) ab.scope.1 Ω).X ?_;rintro aJ dE _ ⟨aG,gr,bc,dF⟩;rw[dw (cs:=#[aJ,.slice ν 0 0,.slice ν 0 0]) (by obtain⟨_,_,_,rfl⟩:=cP bc.ls;kernel_rfl)];refine bx a7.i λB dG b9 ca cc=>?_;refine cb (vs:=[aJ,.slice ν 0 0,.slice ν 0 0]) a7.i rfl rfl (by intro u aH;simp at aH;rcases aH with rfl|rfl;exact bc.ls.cells.2;rfl) cc λR cd dH W=>?_;have aI:=ca.put cd Ω;have bu:=(bb.F aG).F aI;have S:=bc.W aI;have bw:=((ac.W a6).W aG).W aI;have bA:=(ba.W aG).W aI;have dI:=bb.size;have z3:=aG.size;have dJ:=bu.size;have dK:=W.lt;have dM:=b9;rw[aQ a7.p 0 W rfl,aS al.u S.ls];have bD:∀v∈bz x.scope,0<=v/\v<f.co.length:=λv hm=>ab.scope.2 v (by grind);have bd:∀{I:x3},af (λr=>r=B\/R.heap.size<=r) R I->Ext w I:=λbf=>bu.then bf Ω;have ce:(aB f.co (bz x.scope)).length=(bz x.scope).length:=by simp[aB]
 refine cm.range (bz x.scope).length (λi X=>af (λr=>r=B\/R.heap.size<=r) R X/\∃d9 gs,ag X B a7 [aJ,d9,.slice ν 0 0]/\ao .i64 ae X gs d9 ((aB f.co (bz x.scope)).take i)/\∀r,li d9 r->R.heap.size<=r) Ω
  ⟨af.refl _ _,_,0,W,ao.nil _ _ _ _,λr s=>by obtain⟨a,n,c,C,K⟩:=s;cases C⟩ ?_ ?_
 .rintro i X cf hi ⟨M,d9,gs,cg,ad,ch⟩ ck;obtain⟨v,bF⟩:=aF (l:=(bz x.scope)) hi;have dN:=bD v (x5 bF);have cl:=bk S M λr s U=>by
   rcases U with rfl|U
   .exact cj S W Φ s rfl
   .obtain⟨C,K⟩:=bE S s;omega
  refine bC Ω ?_;rw[be al.u ae.i Ψ cl.ls bF];intro dO ah _ _;have bG:=cg.W ah;have cn:f.co[v.toNat]?=σ (f.co.getD v.toNat 0):=by grind
  rw[aQ a7.p 1 bG rfl,fm (y:=v) (i:=v.toNat) Ω aw.u ap.i Ψ (bY.W ((bd M).F ah)).ls cn];refine dr al.u ae.i rfl λdP dQ cp dR ak cr=>?_;refine⟨.inl ak,?_⟩;have ct:=(ad.W ah).W ak;refine fU al.u ae.i rfl ct cr.ls Θ Θ λcu cw dS bH dT bI=>?_;have cz:=bG.W ak;have cA:=cz.aa bI (by grind);rw[aT a7.p rfl];refine bt (g:=B) (o:=1) al.i bH.ls.cells.1 bH.ls.cells.2 cA Ξ λcB cC dV cD=>?_;rw[aM];have cE:af (λr=>li d9 r\/r=B) cp cB:=(bI.X (by grind)).F (cC.X Ω);have cF:=M.size;have dW:=(ah.F ak).size;refine ck _ ⟨((M.F (ah.aa _)).F (ak.aa _)).F (cE.X (by grind)),cu,cw,cD,?_,by grind⟩
  grind [aB,u7,bk]
 rintro X cf ⟨M,d9,gs,bJ,ad,ch⟩;rw[<-ce,o6]at ad;refine ci Ω ?_;have dX:=bd M;have aK:bS (aB f.co (bz x.scope)):=⟨Ω,kd aD.co.2.2 bD⟩;have cG:=b1.small;rw[aQ a7.p 1 bJ rfl];refine(CY _ ad.ls aK).X ?_;rintro cH E _ ⟨aL,cI⟩;have dY:=j2 aK.2;have dZ:=kF aK.2;have ea:aA (aB f.co (bz x.scope))<=4096:=cG;rw[kB dL.u cI];have aO:af (λr=>r=B\/R.heap.size<=r) R E:=M.F (aL.aa _);have am:=bJ.W aL;have bK:=ad.W aL;have cF:=M.size;have eb:=aL.size;have bg:ao .i64 ae E gr aJ (bz x.scope):=bk S aO λr s U=>by
  rcases U with rfl|U
  .exact cj S W Φ s rfl
  .obtain⟨C,K⟩:=bE S s;omega
 have bL:ag E a2 a8 (fH Z):=bw.aa aO λU=>U.elim (λhe=>by subst he;exact m6 (eI bw W) Φ) Ω;have bM:=bA.aa aO λU=>U.elim (λhe=>by have:=ba.lt;omega) λh=>by have:=bA.lt;omega
 have bN:∀{I:x3},af (λr=>r=B\/E.heap.size<=r) E I->Ext w I:=λbf=>(bd aO).then bf Ω;have ec:B<E.heap.size:=am.lt;refine cm.range (bl (aB f.co (bz x.scope))).length (λq z=>af (λr=>r=B\/E.heap.size<=r) E z/\∃a1 an,ag z B a7 [aJ,d9,a1]/\ao .i64 ap z an a1 (((bl (aB f.co (bz x.scope))).take q).map λt=>lp x f.k (rj x.scope (bz x.scope) t))/\∀r,li a1 r->E.heap.size<=r) Ω
  ⟨af.refl _ _,_,0,am,ao.nil _ _ _ _,λr s=>by obtain⟨a,n,c,C,K⟩:=s;cases C⟩ ?_ ?_
 .rintro q z cJ cK ⟨H,a1,an,au,av,cL⟩ cM;obtain⟨t,bO⟩:∃t,(bl (aB f.co (bz x.scope)))[q]?=σ t:=⟨_,x6 cK⟩;have ed:t.length=(bz x.scope).length:=by
   have ee:=re aK.2 (i:=q) Ω
   grind [ix]
  have bi:=bN H;have cN:aq.rep (α:=List (Λ)) ro (fF X.heap.size) bT z [cH] (bl (aB f.co (bz x.scope))):=by grind [aq.aa]
  have Y:∀{O:Nat}{P:x1}{Q:Λ},ao .i64 ae E O P Q->ao .i64 ae z O P Q:=λhm=>bk hm H λr s U=>by
   rcases U with rfl|U
   .exact cj hm am Φ s rfl
   .obtain⟨C,K⟩:=bE hm s;omega
  have bP:=Y bg;have bQ:ag z a2 a8 (fH Z):=bL.aa H λU=>U.elim (λhe=>by subst he;exact m6 (eI bL am) Φ) Ω;refine bC Ω ?_;refine pK (α:=Λ) rfl rfl dL.u al.i Ψ cN bO λaN cO=>?_;have cQ:=fw cO;rw[aQ a8.p 0 bQ rfl,aS aw.u (aE.ls.W bi)];have z12:=H.size;refine b2.range x.scope.length (λp G aP=>Ext z aP/\∃go,ao .i64 ap aP go G ((x.scope.take p).map λv=>t.getD ((bz x.scope).idxOf v) 0)/\∀r,li G r->z.heap.size<=r) Ω ⟨Ext.refl _,0,ao.nil _ _ _ _,λr s=>by obtain⟨a,n,c,C,K⟩:=s;cases C⟩ ?_ ?_
  .rintro p G aP cR cS ⟨ax,go,aR,cT⟩ ef;obtain⟨v,bR⟩:=aF (l:=x.scope) cS;have cU:v∈bz x.scope:=br.mem_iff.2 (x5 bR);refine bC Ω ?_;have cV:=bi.F ax;have cW:=au.W ax;have cX:=bP.W ax;rw[be aw.u ap.i Ψ (aE.ls.W cV) bR,aQ a7.p 0 cW rfl,aS al.u cX.ls];generalize eg:((x.scope.take p).map λv=>t.getD ((bz x.scope).idxOf v) 0)=A at aR;have eh:A.length=p:=by grind
   refine b2.range (bz x.scope).length (λj G aU=>Ext z aU/\∃go,ao .i64 ap aU go G (A++if v∈(bz x.scope).take j then[t.getD ((bz x.scope).idxOf v) 0]else[])/\∀r,li G r->z.heap.size<=r) Ω (by grind) ?_ ?_
   .rintro j cY aU cZ c0 ⟨aC,c1,aW,c2⟩ ei;obtain⟨u,aH⟩:=aF (l:=(bz x.scope)) c0;have c3:=bP.W aC;refine bC Ω ?_;refine aV (λG bj=>Ext z bj/\∃go,ao .i64 ap bj go G (A++if v∈(bz x.scope).take (j+1)then[t.getD ((bz x.scope).idxOf v) 0]else[])/\∀r,li G r->z.heap.size<=r) ?_ ?_
    .rintro ej bj ek;rw[aM]
     grind
    intro ay c4;have em:v∈(bz x.scope).take (j+1)↔v∈(bz x.scope).take j\/v=u:=by
     grind [u7]
    rw[be al.u ae.i Ψ c3.ls aH,bh,ai];refine⟨λhe=>?_,λen=>?_⟩
    .have c5:v∉(bz x.scope).take j:=λhm=>by
      grind [c9]
     rw[m5 c5,V1]at aW;have c6:t[j]?=σ (t.getD ((bz x.scope).idxOf v) 0):=by
      grind
     rw[be al.u ae.i Ψ (cQ.W aC) c6];refine dr aw.u ap.i rfl λeo ep er es bn c7=>?_;refine fU aw.u ap.i rfl (aW.W bn) c7.ls Θ Θ λet c8 eu ev ew da=>?_;have ey:=aC.size;have ez:=bn.size;refine c4 _ _ ⟨(aC.F bn).then da (by grind),c8,?_,by grind⟩
     grind
    grind
   .rintro cY aU cZ ⟨aC,c1,aW,c2⟩;rw[o6,m3 cU]at aW;refine ci Ω ?_;rw[aM]
    grind [u7]
  .rintro G aP cR ⟨ax,go,aR,cT⟩;rw[o6]at aR;refine ci Ω ?_;intro eA bU _ _;have aX:=ax.F bU;have db:=au.W aX;have dc:=bQ.W aX;rw[aQ a7.p 2 db rfl,bB a8.p a8.i rfl dc.range];refine(Q9 (h.W (bi.F aX)) ab.lines.1 (aR.ls.W bU)).X ?_;rintro _ eB _ ⟨rfl,bo⟩;refine⟨.inl bo,?_⟩;refine dr aw.u ap.i rfl λeC eD dd eE bV de=>?_;refine⟨.inl (bo.F bV),?_⟩;have aY:=(aX.F bo).F bV;have df:=av.W aY;refine fU aw.u ap.i rfl df de.ls Θ Θ λdg dh eF bp eH bW=>?_;have di:=au.W aY;have dj:=di.aa bW (by grind);rw[aT a7.p rfl];refine bt (g:=B) (o:=2) aw.i bp.ls.cells.1 bp.ls.cells.2 dj Ξ λdk bX eJ dl=>?_;rw[aM];have dm:af (λr=>li a1 r\/r=B) dd dk:=(bW.X (by grind)).F (bX.X Ω);have eK:=aY.size;refine cM _ ⟨(H.F (aY.aa _)).F (dm.X (by grind)),dg,dh,dl,?_,by grind⟩;rw[u7,bO,l9,l7];exact bk bp bX (by grind)
 .rintro z cJ ⟨H,a1,an,au,av,cL⟩;rw[o6]at av;refine ci Ω ?_;have Y:∀{O:Nat}{P:x1}{Q:Λ},ao .i64 ae E O P Q->ao .i64 ae z O P Q:=λhm=>bk hm H λr s U=>by
   rcases U with rfl|U
   .exact cj hm am Φ s rfl
   .obtain⟨C,K⟩:=bE hm s;omega
  let c:fI:=⟨aJ,d9,a1,bz x.scope,(jG f.co f.k x).2⟩;have dn:fV z f.co c:=⟨⟨gr,Y bg⟩,⟨gs,Y bK⟩,an,av⟩;rw[bB a7.p a7.i rfl (show z.rangeAt B 0 (dU c)from au.range)];have dp:=bM.aa H λU=>U.elim (λhe=>by have:=ba.lt;omega) λh=>by have:=bM.lt;omega
  refine cb (vs:=dU c) a7.i rfl rfl dn.one dp λdq ds eL dt=>?_;rw[fD a7.p a7.i rfl dt.range];have aZ:∀{O:Nat}{P:x1}{Q:Λ}{e:r9},e≠a7->ao .i64 e z O P Q->ao .i64 e dq O P Q:=by grind [bk,cj]
  refine⟨(bN H).then ds λr s he=>by have he:r=b8:=he;have:=bs.size;omega,c,rfl,rfl,rfl,⟨⟨gr,aZ Φ (Y bg)⟩,⟨gs,aZ Φ (Y bK)⟩,an,aZ Φ av⟩,λr s=>?_⟩;rcases s with s|s|s
  all_goals grind
theorem FN{h:fI}{g:Nat}(e:fV w co h)(a:ag I g a7 (x1.agg (dU h).toArray).cells.toList):ag I g a7 (dU h):=by
 obtain⟨⟨g1,h1⟩,⟨s,f⟩,x,j⟩:=e;obtain⟨_,_,_,p⟩:=cP h1.ls;obtain⟨_,_,_,q⟩:=cP f.ls;obtain⟨_,_,_,r⟩:=cP j.ls;simp only[dU,p,q,r]at a ⊢;exact a
theorem Rb{a b:fI}(S:fV w co a)(U:fV w co b)(Y:l3 a.sc)(Z:l3 b.sc):aj x7 BO [.agg (dU a).toArray,.agg (dU b).toArray] w λv I=>v= .bool (decide (dt a.sc<dt b.sc))/\Ext w I:=by
 obtain⟨⟨ga,W⟩,_⟩:=id S;obtain⟨⟨aw,aa⟩,_⟩:=id U;have L:=(yE Y Z).1;refine az func154 ?_;refine bm λg1 J ax ac M=>?_;refine bm λad V ay X N=>?_;have M:=(FN S M).W X;have N:=FN U N;have r:=ac.F X;have s:=W.ls.W r;have B:=aa.ls.W r;have z:∀{I:x3},Ext V I->∀{K:x1->Prop},ab x7 (u6 a7 (Γ g1) 0) I (λt=>ab x7 (u4 al t) I K)=K a.aJ:=λe K=>by
  rw[aQ a7.p 0 (M.W e) rfl]
 have C:∀{I:x3},Ext V I->∀{K:x1->Prop},ab x7 (u6 a7 (Γ ad) 0) I (λt=>ab x7 (u4 al t) I K)=K b.aJ:=λe K=>by
  rw[aQ a7.p 0 (N.W e) rfl]
 rw[z (Ext.refl _),aS al.u s,C (Ext.refl _),aS al.u B,bJ,ai];refine⟨λaf=>?_,λag=>?_⟩
 .rw[z (Ext.refl _),aS al.u s,C (Ext.refl _),aS al.u B,aP];refine⟨?_,r⟩;congr 1;rw[T1,pl,pl,L];exact⟨λh=>.inl Ω,λh=>by rcases h with h|h<;>omega⟩
 have ah:a.sc.length=b.sc.length:=by have:=Z6.1 ag;omega
 rw[z (Ext.refl _),aS al.u s];refine b2.range a.sc.length (λi _ O=>Ext V O/\∀(j:Nat)(x y:Int),j<i->a.sc[j]?=σ x->b.sc[j]?=σ y->x=y) W.ls.le ⟨Ext.refl _,λj x y ak=>Ω⟩ ?_ ?_
 .rintro i _ O k hi ⟨P,E⟩ hk;obtain⟨x,e⟩:=aF (l:=a.sc) hi;obtain⟨y,G⟩:=aF (l:=b.sc) (i:=i) Ω;have f:=vD E Ω Ω;have am:a.sc.drop i=x::a.sc.drop (i+1):=by rw[X1 hi,(x4.1 e).2]
  have an:b.sc.drop i=y::b.sc.drop (i+1):=by rw[X1 (show i<b.sc.length by omega),(x4.1 G).2]
  rw[am,an]at f;simp only[jK]at f;refine bC Ω ?_;intro aA ao _ _;have q:=P.F ao;rw[z q,be al.u ae.i Ψ (s.W q) e,C q,be al.u ae.i Ψ (B.W q) G,bJ,ai];refine⟨λaf=>?_,λhe=>?_⟩
  .intro aB ap _ _;have A:=q.F ap;rw[z A,be al.u ae.i Ψ (s.W A) e,C A,be al.u ae.i Ψ (B.W A) G,aP];refine⟨?_,r.F A⟩;congr 1;rw[T1,pl,pl,L,f];by_cases H:x<y
   .rw[m3 H];exact⟨λ_=>.inr ⟨ah,Ω⟩,λ_=>H⟩
   .rw[m5 H,m3 (show y<x by omega)];exact⟨λh=>m6 h H,λh=>by rcases h with h|h<;>omega⟩
  .rw[aM];refine hk _ _ ⟨q,λj aq au ak Q R=>?_⟩;by_cases av:j=i
   .subst av;rw[e]at Q;rw[G]at R;cases Q;cases R;exact Z6.1 he
   .exact E j aq au Ω Q R
 .rintro _ O k ⟨P,E⟩;rw[aP,ai];refine⟨λh=>Ω,λ_=>⟨?_,r.F P⟩⟩;congr 1;symm;rw[decide_eq_false_iff_not,L];have f:=vD E (p9 _) Ω;rw[List.drop_length,show b.sc.drop a.sc.length=[]from List.drop_eq_nil_of_le Ω]at f;rw[f];simp only[jK];omega
def ef(h:fI):c4:=(h.sc,h.cs)
def mc(w:x3)(B g:Nat)(v:x1)(co:Λ)(L:List fI):Prop:=bj dU 3 a7 w g v L/\(∀h∈L,fV w co h/\∀r,rJ h r->B<=r)/\(∀(i j:Nat)x y,L[i]?=σ x->L[j]?=σ y->i≠j->∀r,li x.a1 r->¬li y.a1 r)/\∀r,lc v r->B<=r
theorem o0{h:fI}(y:fV w co h)(q:af S w I)(s:∀r,S r->(∃e c,ag w r e c/\e≠ae/\e≠ap)\/w.heap.size<=r\/((∃c,ag w r ap c)/\¬li h.a1 r)):fV I co h:=by
 obtain⟨⟨g1,h1⟩,⟨z,A⟩,B,j⟩:=y;have x:∀{g:Nat}{v:x1}{l:Λ},ao .i64 ae w g v l->ao .i64 ae I g v l:=λhm=>bk hm q λr a U=>by
  rcases s r U with⟨e,c,f,p,_⟩|C|⟨⟨c,f⟩,_⟩
  .exact cj hm f (λhe=>p he.symm) a rfl
  .obtain⟨E,F⟩:=bE hm a;omega
  .exact cj hm f Φ a rfl
 refine⟨⟨g1,x h1⟩,⟨z,x A⟩,B,bk j q λr a U=>?_⟩;rcases s r U with⟨e,c,f,_,p⟩|C|⟨_,G⟩
 .exact cj j f (λhe=>p he.symm) a rfl
 .obtain⟨E,F⟩:=bE j a;omega
 .exact G a
theorem mc.W{g:Nat}{L:List fI}(h:mc w B g v co L)(a:Ext w I):mc I B g v co L:=⟨h.1.W a,λx e=>⟨(h.2.1 x e).1.W a,(h.2.1 x e).2⟩,h.2.2⟩
section
variable{α:Type}{f:α->List x1}{k:Nat}{P:X5}{w:x3}{e:r9}{g:Nat}{v:x1}{L:List α}
theorem Rc{M:List α}(h:bj f k e w g v L)(j:L.map f=M.map f):bj f k e w g v M:=by
 have p:L.length=M.length:=by have:=congrArg List.length j;grind
 have hm:L.flatMap f=M.flatMap f:=by grind
 refine⟨by rw[<-p,<-hm];exact h.1,λa q=>?_⟩;obtain⟨b,r,he⟩:=o8.1 (show f a∈L.map f by rw[j];exact o8.2 ⟨a,q,rfl⟩);rw[<-he];exact h.2 b r
theorem FO{t:r9}{b l bi:Nat}{low high:Option x1}(r:P.underlying t=σ (.slice e))(hi:aR P e k b z)(h:bj f k e w g v L)(h1:nK low l)(s:nL high L.length bi)(p:l<=bi)(an:bi<=L.length)(x:∀q,(∀I,bj f k e I g v L->b4 I k q ((L.drop l).take (bi-l)).length (((L.drop l).take (bi-l)).flatMap f))->K q):ab P (V4 t v low high ν) w K:=by
 have y:=h.sl;obtain⟨_,B,o,base,cap,rfl,C,_⟩:=y;rw[eA r hi h1 s dZ p Ω (p9 _)];refine x _ λI j=>?_;have:=b4.part (l:=l) (h:=bi) (m:=cap) j.sl p an Ω (p9 _);rw[vi l j.2,sS (bi-l) (λa A=>j.2 a (List.mem_of_mem_drop A))]at this
 grind
theorem zf{t O:r9}{b:Nat}{x:x1}{M:List α}{K:x1->x3->Prop}(y:P.underlying t=σ (.slice e))(hi:aR P e k b z)(F:z.cells.size=k)(h:bj f k e w g v L)(G:b4 w k x M.length (M.flatMap f))(R:∀a∈M,(f a).length=k)(h1:∀a∈M,∀u∈f a,u.oneCell'=ro)(H:(L.length+M.length)*b<=140737488355328)(S:L.length+M.length<=9223372036854775807)(J:∀j p I,bj f k e I p j (L++M)->(∀r,lc j r->lc v r\/w.heap.size<=r)->af (λr=>lc v r) w I->K j I):aC P (j6 #[t,t] O #[v,x]) w K:=by
 have N:∀u∈M.flatMap f,u.oneCell'=ro:=by grind
 have A:∀j p I,bZ I p e k j (L.length+M.length) (L.flatMap f++M.flatMap f)->bj f k e I p j (L++M):=λj p I hm=>⟨by grind,λb H=>by
  rcases o9.1 H with bi|bi
  .exact h.2 b bi
  grind⟩
 rcases h.1.2 with⟨q,Q⟩|⟨cap,cs,q,T,_⟩
 .have hm:bZ w w.heap.size e k v L.length (L.flatMap f):=⟨h.1.1,.inl ⟨q,Q⟩⟩;subst q;refine pH y y hi F hm G N Ω (by grind [maxLen]) λj p I B s E=>J j p I (A _ _ _ s) (λr C=>.inr ?_) (E.X Ω);have:=((A _ _ _ s).li C).1;omega
 .refine pH y y hi F h.1 G N Ω (by grind [maxLen]) λj p I B s E=>J j p I (A _ _ _ s) (λr C=>?_) (E.X λr C h=>⟨_,_,_,q,h.symm⟩);have:=((A _ _ _ s).li C).1;rcases B with B|B
  .exact .inl ⟨_,_,_,q,by show g=r;omega⟩
  omega
theorem Re{t:r9}{b:Nat}{K:x1->x3->Prop}(a:P.underlying t=σ (.slice e))(hi:aR P e k b z)(h:∀v g I,g=w.heap.size->Ext w I->bj f k e I g v []->K v I):aC P (Y1 t 0 #[]) w K:=
 lU a hi Ω (cs:=#[]) (by simp[Instr.fill]) λg I j p q=>by
  exact h _ g I j p ⟨by simpa using bZ.full (n:=0) q Ξ (by simp[maxLen]),λc r=>by cases r⟩
end
theorem zg{α:Type}{A B:List α}{s:Nat}{a:α}(U:s<B.length)(e:A[s]?=σ a):(A.take s++B.drop s).set s a=A.take (s+1)++B.drop (s+1):=by
 have f:=(x4.1 e).1;have h1:(A.take s).length=s:=by grind
 grind [Q1,X1,u7]
theorem FP{α:Type}{A B:List α}{s:Nat}(U:s<=A.length):(A.take s++B.drop s)[s]?=B[s]?:=by
 grind
theorem FQ{g:c4}:∀{l:List c4}{i:Nat},(∀p<i,∀x,l[p]?=σ x->dt x.1<dt g.1)->i<=l.length->(∀x,l[i]?=σ x->¬dt x.1<dt g.1)->jm g l=l.take i++g::l.drop i
 |[],i,_,f,_=>by
  have:i=0:=by grind
  subst this;rfl
 |x::l,0,_,_,e=>by
  grind [jm]
 |x::l,i+1,h1,f,e=>by
  unfold jm;rw[m3 (h1 0 Ω x rfl),FQ (λp h y a=>h1 (p+1) Ω y a) (by grind) (λy a=>e y a)];rfl
theorem Rf{g:Nat}{L:List fI}{h:fI}{s:Nat}{K:Unit->x3->Prop}(a:mc w B g v co L)(F:L[j]?=σ h)(U:s<h.cs.length)(Q:∀I,af (λr=>li h.a1 r) w I->(∀r,li h.a1 r->∃c,ag w r ap c)->mc I B g v co (L.set j {h with cs:=h.cs.set s n})->K () I):
  ab x7 (j4 aw h.a1 (Δ (s:Int))) w λt=>aC x7 (o7 ap t (Δ n)) w K:=by
 obtain⟨h1,R,ad,S⟩:=a;have ae:=(x4.1 F).1;obtain⟨J,V⟩:=R h (x5 F);obtain⟨_,_,M,A⟩:=id J;have C:∀r,li h.a1 r->∃c,ag w r ap c:=λr a=>by
  obtain⟨rfl,_⟩:=bE A a;obtain⟨_,⟨ah,_⟩|⟨cap,full,_,f,_⟩⟩:=A
  all_goals grind
 have W:∀r,r=M->li h.a1 r:=λr he=>by
  subst he;obtain⟨_,⟨_,ai⟩|⟨cap,full,e,f,_⟩⟩:=A
  .omega
  .exact⟨_,_,_,e,rfl⟩
 rw[iy rfl aw.u ap.i A U];refine iz ap.i A U λI z aj X=>?_;have z:=z.X λr _ he=>W r he;refine Q I z C ⟨?_,λx E=>?_,λp q x y E Y ak r al am=>?_,S⟩
 .refine Rc (h1.aa z λr a U=>?_) ?_
  .obtain⟨c,f⟩:=C r U;exact cO h1 f Φ a
  .rw[V3];symm;refine j5 λp=>?_;rw[Y4,x8];by_cases G:j=p
   .subst G;rw[m3 rfl,m3 (by grind),F];rfl
   .rw[m5 G]
 .have Z:x={h with cs:=h.cs.set s n}\/∃p,p≠j/\L[p]?=σ x:=by
   grind [c9]
  rcases Z with rfl|⟨p,an,G⟩
  .obtain⟨⟨g1,N⟩,⟨ac,O⟩,_⟩:=J;refine⟨⟨⟨g1,bk N z λr a U=>?_⟩,⟨ac,bk O z λr a U=>?_⟩,M,X⟩,V⟩
   .obtain⟨c,f⟩:=C r U;exact cj N f Φ a rfl
   .obtain⟨c,f⟩:=C r U;exact cj O f Φ a rfl
  grind [o0]
 .have P:∀{p:Nat}{x:fI},(L.set j {h with cs:=h.cs.set s n})[p]?=σ x->∃H,L[p]?=σ H/\H.a1=x.a1:=λ{p x}E=>by
   rw[Y4]at E;by_cases ao:j=p
   all_goals grind
  obtain⟨H,aq,ex⟩:=P E;obtain⟨au,av,ax⟩:=P Y
  grind
def nf(f:b5)(j:Nat):List c4:=(((gj f).take j).filter gi).foldl (λl g=>jm g l) []
theorem FR{f:b5}{x:c4}(h:(gj f)[j]?=σ x):nf f (j+1)=if gi x then jm x (nf f j)else nf f j:=by
 unfold nf;rw[u7,h,l9,List.filter_append,List.foldl_append];cases U:gi x with
 |true=>rw[List.filter_cons_of_pos U];rfl
 |false=>rw[List.filter_cons_of_neg (by simp[U])];rfl
theorem Rg(f:b5):nf f (gj f).length=gk f:=by unfold nf gk;rw[o6]
theorem FS(g:c4):∀l,(jm g l).length=l.length+1
 |[]=>rfl
 |h::l=>by
  unfold jm;split
  .rw[Y3,FS g l,Y3]
  .rfl
theorem Rh{f:b5}(e:j<=(gj f).length):(nf f j).length<=j:=by
 induction j with
 |zero=>simp[nf]
 |succ j a=>
  have:=a Ω;rw[FR (x6 Ω)];split
  .rw[FS];omega
  .omega
theorem Ri{g:Nat}{l:x1}{f:b5}{L:List fI}{Q:x1->x3->Prop}(aA:fh N f)(A:mc w B g l f.co L)(aB:L.map ef=gj f)(bN:∀out I go z,Ext w I->bj dU 3 a7 I go out z->(∀h∈z,h∈L)->(∀h∈z,fV I f.co h)->z.map ef=gk f->(∀r,lc out r->w.heap.size<=r)->Q out I):
  ab x7 (W0 #[da] ae #[l]) w λbO=>
 b2 (.slice ν 0 0) (Δ 0) w λout aD R bP=>
  ab x7 (aO .lss ae rs rs aD bO) R λbQ=>
  Split bQ (cz (α:=x1->x3->Prop) (λ(bR:x1)(S:x3)=>
   ab x7 (aO .add ae rs ro aD (Δ 1)) S λbS=>
   bP bR bS S) λba=>
  ab x7 (j4 da l aD) R λbT=>
  ab x7 (u4 a7 bT) R λbV=>
  aC x7 (S5 a7 ro (.tuple #[])) R λal bb=>
  aC x7 (o7 a7 al bV) bb λ(_:Unit)O=>
  ab x7 (u6 a7 al 2) O λbW=>
  ab x7 (u4 aw bW) O λbc=>
  ab x7 (W0 #[aw] ae #[bc]) O λbX=>
  b2 (.bool rs) (Δ 0) O λbd aE C bZ=>
   ab x7 (aO .lss ae rs rs aE bX) C λb1=>
   Split b1 (cz (α:=x1->x3->Prop) (λ(b3:x1)(Y:x3)=>
    ab x7 (aO .add ae rs ro aE (Δ 1)) Y λb4=>
    bZ b3 b4 Y) λbf=>
   ab x7 (j4 aw bc aE) C λb6=>
   ab x7 (u4 ap b6) C λb7=>
   Split bd (bf (.bool ro) C)
    (ab x7 (aO .gtr ap rs ro b7 (Δ 0)) C λb9=>
   bf b9 C))
    (ab x7 (Op.unary .not bd) C λca=>
  Split ca (ba out C)
   (cm (Δ 0) C λi am cc=>
   cz (α:=x1->x3->Prop) (λ(cd:x1)(V:x3)=>
    Split cd (ab x7 (aO .add ae rs ro i (Δ 1)) V λce=>
   cc ce V)
     (eu V λP=>
  ab x7 (u4 a7 al) P λcf=>
  ab x7 (V4 da out (σ i) ν ν) P λbg=>
  aC x7 (Y1 da 1 #[(0,cf)]) P λcg Z=>
   (Ext P Z\/cE x7 (V4 da out (σ i) ν ν) bg Z/\True)/\
  aC x7 (j6 #[da,da] da #[cg,bg]) Z λch bh=>
   aC x7 (Y1 da 0 #[]) bh λt131 ao=>
  ab x7 (V4 da out ν (σ i) ν) ao λcj=>
  aC x7 (j6 #[da,da] da #[t131,cj]) ao λck bi=>
  aC x7 (j6 #[da,da] da #[ck,ch]) bi λcl bk=>
  ba cl bk)) λbl=>
   eu am λG=>
   ab x7 (W0 #[da] ae #[out]) G λcn=>
   ab x7 (aO .lss ae rs rs i cn) G λcp=>
   Split cp (ab x7 (j4 da out i) G λcq=>
   ab x7 (u4 a7 cq) G λcr=>
   ab x7 (u4 a7 al) G λct=>
   aj x7 BO [cr,ct] G λcu bm=>
    bl cu bm)
    (bl (.bool rs) G))))
   (Q out R):=by
 have cw:L.length=(gj f).length:=by rw[<-aB,o4]
 have de:L.length<=256:=by have:=(mY aA).2.2;have:=aA.mT;omega
 have bn:=(mY aA).1;rw[e3 da.u A.1];refine b2.range L.length (λj out J=>∃go z,Ext w J/\bj dU 3 a7 J go out z/\(∀h∈z,h∈L)/\z.map ef=nf f j/\∀r,lc out r->w.heap.size<=r) A.1.le
  ⟨0,[],Ext.refl _,bj.nil _ _ _ _ _,λh an=>(by cases an),rfl,λr A=>(gm A).elim⟩ ?_ ?_
 rotate_left
 .rintro out J cA ⟨go,z,bo,ac,K,ad,aG⟩;rw[aP,ai];refine⟨λh=>Ω,λ_=>bN _ _ go z bo ac K (λh an=>((A.W bo).2.1 h (K h an)).1) ?_ aG⟩;rw[ad,cw,Rg]
 rintro j out R cA bp ⟨go,z,aq,ac,K,ad,aG⟩ cB;obtain⟨h,an⟩:=aF (l:=L) bp;have hm:(gj f)[j]?=σ (ef h):=by rw[<-aB,x8,an];rfl
 have cC:=bn _ (x5 hm);have df:z.length<=256:=by
  have:=Rh (f:=f) (j:=j) Ω;rw[<-ad,o4]at this;omega
 have af:=A.W aq;obtain⟨aH,_⟩:=af.2.1 h (x5 an);obtain⟨_,_,dg,cD⟩:=id aH;refine bC Ω ?_;refine aV (λaI S=>∃aJ ag,Ext w S/\bj dU 3 a7 S aJ aI ag/\(∀h∈ag,h∈L)/\ag.map ef=nf f (j+1)/\∀r,lc aI r->w.heap.size<=r) ?_ ?_
 .rintro aI S ⟨aJ,ag,h1,cF,cG,cH,cI⟩;rw[aM];exact cB _ _ ⟨aJ,ag,h1,cF,cG,cH,cI⟩
 intro ay ah;rw[dm rfl da.u a7.i af.1 bp,bB a7.p a7.i rfl (af.1.range an)];refine bx a7.i λbq bb dh cJ cK=>?_;refine cb (vs:=dU h) a7.i rfl rfl aH.one cK λO cL di br=>?_;have bs:=cJ.put cL Ω;have aK:=cD.W bs;rw[aQ a7.p 2 br rfl,aS aw.u aK.ls];refine b2.range h.cs.length (λq sv C=>Ext O C/\sv= .bool ((h.cs.take q).any λc=>decide (0<c))) aK.ls.le ⟨Ext.refl _,rfl⟩ ?_ ?_
 .rintro q _ C cM cN ⟨W,rfl⟩ cO;obtain⟨c,bt⟩:=aF (l:=h.cs) cN;have e:(h.cs.take (q+1)).any (λc=>decide (0<c))=((h.cs.take q).any (λc=>decide (0<c))||decide (0<c)):=by
   rw[u7,bt,l9,List.any_append];simp
  refine bC Ω ?_;refine aV (λsv Y=>Ext O Y/\sv= .bool ((h.cs.take (q+1)).any λc=>decide (0<c))) ?_ ?_
  .rintro _ Y ⟨cP,rfl⟩;rw[aM];exact cO _ _ ⟨cP,rfl⟩
  intro ay ah;rw[be aw.u ap.i Ψ (aK.W W).ls bt,bU];refine⟨λcQ=>ah _ _ ⟨W,by rw[e,cQ];rfl⟩,λcR=>?_⟩;rw[bL];exact ah _ _ ⟨W,by rw[e,cR];rfl⟩
 rintro _ C cM ⟨W,rfl⟩;have bu:=br.W W;have M:=bs.F W;rw[o6];refine ci Ω ?_;rw[bA,bU];have au:=FR hm;have cS:(h.cs.any λc=>decide (0<c))=gi (ef h):=rfl;rw[cS];refine⟨λaL=>?_,λU=>?_⟩
 .have aL:gi (ef h)=rs:=by simpa using aL
  rw[aL]at au;exact ah _ _ ⟨go,z,aq.F M,ac.W M,K,by rw[ad,au];rfl,aG⟩
 have U:gi (ef h)=ro:=by simpa using U
 rw[U,m3 rfl]at au;refine⟨λaR am=>∃i:Nat,aR=Δ (i:Int)/\i<=z.length/\Ext C am/\∀p<i,∀x,z[p]?=σ x->dt x.sc<dt h.sc,λaR _=>z.length-(b0 aR).toNat,⟨0,rfl,X7 _,Ext.refl _,λp aT=>Ω⟩,?_⟩;rintro _ am ⟨i,rfl,hi,cT,aU⟩;refine aV (λaN V=>Ext C V/\((aN= .bool ro/\i<z.length/\∀x,z[i]?=σ x->dt x.sc<dt h.sc)\/(aN= .bool rs/\∀x,z[i]?=σ x->¬dt x.sc<dt h.sc))) ?_ ?_
 rotate_left
 .intro dj aW;intro G cU _ _;have X:=cT.F cU;have aY:=ac.W (M.F X);rw[e3 da.u aY,aP,ai];refine⟨λaU=>?_,λdk=>aW _ _ ⟨X,.inr ⟨rfl,λx s=>m6 (x4.1 s).1 Ω⟩⟩⟩;obtain⟨x,s⟩:=aF (l:=z) (i:=i) Ω;have bw:=K x (x5 s);have cV:=(bn (ef x) (by rw[<-aB];exact o8.2 ⟨x,bw,rfl⟩)).scope;have bz:=af.W (M.F X);rw[dm rfl da.u a7.i aY Ω,bB a7.p a7.i rfl (aY.range s),bB a7.p a7.i rfl (show G.rangeAt bq 0 (dU h)from(bu.W X).range)];refine(Rb (bz.2.1 x bw).1 (bz.2.1 h (x5 an)).1 cV cC.scope).X ?_;rintro _ bm _ ⟨rfl,bD⟩;by_cases av:dt x.sc<dt h.sc
  .rw[m7 av];exact aW _ _ ⟨X.F bD,.inl ⟨rfl,Ω,λy E=>by rw[s]at E;cases E;exact av⟩⟩
  .rw[ms av];exact aW _ _ ⟨X.F bD,.inr ⟨rfl,λy E=>by rw[s]at E;cases E;exact av⟩⟩
 rintro _ V ⟨bE,⟨rfl,dl,cW⟩|⟨rfl,cX⟩⟩
 .rw[bY,aM,lm Ω Ω];refine⟨⟨i+1,rfl,Ω,bE,λp aT x s=>?_⟩,by simp only[b0];omega⟩;by_cases cY:p=i
  .subst cY;exact cW x s
  .exact aU p Ω x s
 .rw[aX];intro P cZ _ _;have ak:=bE.F cZ;have ax:=ac.W (M.F ak);have c0:=af.W (M.F ak);have aZ:∀x∈z,∀u∈dU x,u.oneCell'=ro:=λx s=>(c0.2.1 x (K x s)).1.one;have c1:∀u∈dU h,u.oneCell'=ro:=aH.one;rw[bB a7.p a7.i rfl (show P.rangeAt bq 0 (dU h)from(bu.W ak).range)];refine FO da.u a7.i ax (mI i _ rfl) gW hi (p9 _) λdn bF=>?_;refine iV da.u a7.i Ω rfl rfl λdp dq Z dr a1 bG=>?_;refine⟨.inl a1,?_⟩;have c2:(z.drop i).take (z.length-i)=z.drop i:=n9 (by rw[List.length_drop];omega);rw[c2]at bF;refine zf da.u a7.i rfl bG (bF Z (ax.W a1)) (λ_ _=>rfl) (λa H=>aZ a (List.mem_of_mem_drop H)) Θ Θ λds du bh a2 dv c3=>?_;have bH:=a1.then c3 λr A he=>by have:=(bG.li he).1;omega
  refine Re (f:=dU) (k:=3) da.u a7.i λv131 dw ao dx a6 az=>?_;have a8:=bH.F a6;refine FO da.u a7.i (ax.W a8) iP (nM i _ rfl) (X7 _) hi λdy bI=>?_;rw[List.drop_zero,Nat.sub_zero]at bI;refine zf da.u a7.i rfl az (bI ao (ax.W a8)) (λ_ _=>rfl) (λa H=>aZ a (U1 H)) Θ Θ λc4 dz bi c5 c6 bJ=>?_;have dA:=bH.size;have dC:=a6.size;have c7:=(a2.W a6).aa bJ λr A U=>by have:=(a2.li A).1;have:=(a2.li A).2;have:=(az.li U).1;omega
  refine zf da.u a7.i rfl c5 c7.sl (λ_ _=>rfl) (λa H=>?_) Θ Θ λdD c8 bk c9 db dc=>?_
  .rcases o9.1 H with H|H
   .rw[b8.1 H];exact c1
   .exact aZ a (List.mem_of_mem_drop H)
  have bK:=a8.then bJ λr A he=>by have:=(az.li he).1;omega
  have bM:∀r,lc c4 r->P.heap.size<=r:=λr A=>(c6 r A).elim (λh=>by have:=(az.li h).1;omega) λh=>Ω
  have dd:=bK.then dc λr A he=>by have:=bM r he;omega
  have dE:=(aq.F (M.F ak)).size;have dF:=bK.size;refine ah _ _ ⟨c8,_,(aq.F (M.F ak)).F dd,c9,λx s=>?_,?_,λr A=>(db r A).elim (λh=>by have:=bM r h;omega) λh=>Ω⟩
  .rcases o9.1 s with s|s
   .exact K x (U1 (by simpa using s))
   .rcases o9.1 s with s|s
    .rw[b8.1 s];exact x5 an
    .exact K x (List.mem_of_mem_drop s)
  .rw[au,<-ad,FQ (λp aT x s=>?_) (by simpa using hi) (λx s=>?_)]
   .simp
   .rw[x8]at s;cases E:z[p]? with
    |none=>rw[E]at s;cases s
    |some y=>rw[E]at s;cases s;exact aU p aT y E
   .rw[x8]at s;cases E:z[i]? with
    |none=>rw[E]at s;cases s
    |some y=>rw[E]at s;cases s;exact cX y E
def Rj(w:x3)(f:b5)(v:x1)(I:x3):Prop:=Ext w I/\∃go a,bj dU 3 a7 I go v a/\(∀h∈a,fV I f.co h/\∀r,rJ h r->w.heap.size<=r)/\a.map ef=gk f/\∀r,lc v r->w.heap.size<=r
def ng(k:Int)(sc cs:Λ)(h:c4):c4:=if h.1=sc then(h.1,bV k h.2 cs)else h
theorem Rk{bs:Nat}{f:b5}(cp:qh w bs f)(M:fh N f):aj x7 Ja [Γ bs] w (Rj w f):=by
 have hk:=M.k;obtain⟨d9,gz,am,gr,aL,bt,cq⟩:=id cp;obtain⟨bu,aN,cr,ct⟩:=id cq;refine az func76 ?_;rw[aK ei.p 3 aL rfl,e3 dG.u aN];refine b2.range bu.length (λi l J=>∃g L,Ext w J/\mc J w.heap.size g l f.co L/\L.map ef=e5 f i) aN.le
  ⟨0,[],Ext.refl _,⟨bj.nil _ _ _ _ _,λh an=>(by cases an),λi j x y aO=>(by simp at aO),λr A=>(gm A).elim⟩,rfl⟩ ?_ ?_
 rotate_left
 .rintro l J cu ⟨g,L,O,A,ab⟩;rw[<-cr,E6]at ab;rw[aP,ai];refine⟨λh=>Ω,λ_=>Ri M A ab λout I go cw aO aR cz P cA dq=>?_⟩;have cB:=O.size;exact⟨O.F aO,go,cw,aR,λh an=>⟨P h an,(A.2.1 h (cz h an)).2⟩,cA,by grind⟩
 rintro i l J cu hi ⟨g,L,O,A,ab⟩ dr;obtain⟨aW,bw⟩:=aF (l:=bu) hi;obtain⟨x,aX⟩:=aF (l:=f.d7) (i:=i) Ω;have aY:=x5 aX;have aZ:=ct i aW x bw aX;have cC:=ry M aY;obtain⟨cD,ds,dt⟩:=E5 M i;have cE:L.length=(e5 f i).length:=by grind
 have du:=M.mT;have bD:=aN.W O;refine bC Ω ?_;refine aV (λfx V=>∃g L,Ext w V/\mc V w.heap.size g fx f.co L/\L.map ef=e5 f (i+1)) ?_ ?_
 .rintro fx V cF;rw[aM]
  grind
 intro ay bF;rw[dm rfl dG.u a8.i bD hi,bB a8.p a8.i rfl (bD.range bw)];refine bx a8.i λak dv dw cG cH=>?_;refine cb (vs:=fH aW) a8.i rfl rfl aZ.one cH λdx cI dy cJ=>?_;have bG:=cG.put cI Ω;have dz:=bG.size;refine aV (λaU ao=>∃G c,aU=Γ G/\Ext J ao/\ag ao G a7 (dU c)/\c.sc=bz x.scope/\c.cs=(jG f.co f.k x).2/\fV ao f.co c/\J.heap.size<=G/\∀r,rJ c r->J.heap.size<=r) ?_ ?_
 rotate_left
 .intro dA bH;intro cK bI _ _;have aq:=bG.F bI;have au:=O.F aq;have cL:=cJ.W bI;have bJ:=aL.W au;have dC:=aq.size;rw[bB a8.p a8.i rfl (show cK.rangeAt ak 0 (fH aW)from cL.range),aK ei.p 2 bJ rfl,aK ei.p 1 bJ rfl];refine⟨?_,?_⟩
  .refine (FM (aZ.W au) M aY (bt.W au)).X ?_;rintro _ dD _ ⟨a2,c,rfl,h1,a6,P,ac⟩;refine bx a7.i λG dE bK ba av=>?_;refine⟨.inl (a2.F ba),?_⟩;refine cb (vs:=dU c) a7.i rfl rfl P.one av λdF bL dH cM=>?_;have dI:=a2.size;refine bH _ _ ⟨G,c,rfl,(aq.F a2).F (ba.then bL Ω),cM,h1,a6,?_,Ω,by grind⟩;exact o0 (P.W ba) bL λr A=>.inl ⟨_,_,by have A:r=G:=A;subst A;exact av,Φ,Φ⟩
  .refine bx a7.i λG dJ bK aA av=>?_;refine⟨.inl aA,?_⟩;have bM:=au.F aA;refine(FM (aZ.W bM) M aY (bt.W bM)).X ?_;rintro _ dK _ ⟨bN,c,rfl,h1,a6,P,ac⟩;have bO:=av.W bN;have dL:=aA.size;refine cb (vs:=dU c) a7.i rfl rfl P.one bO λdM bP dO cN=>?_;refine bH _ _ ⟨G,c,rfl,aq.F ((aA.F bN).then bP Ω),cN,h1,a6,?_,Ω,by grind⟩;exact o0 P bP λr A=>.inl ⟨_,_,by have A:r=G:=A;subst A;exact bO,Φ,Φ⟩
 rintro _ ao ⟨G,c,rfl,bb,cO,aB,bQ,cP,bK,ac⟩;have bR:=A.W bb;have cQ:∀h∈L,∀r,li h.a1 r->r<J.heap.size:=λh an r cR=>by
  obtain⟨⟨_,_,cS,bS⟩,_⟩:=A.2.1 h an;have:=bE bS cR;omega
 have cT:∀{j:Nat},decide (c.sc∈(L.take j).map (·.sc))=decide (bz x.scope∈((e5 f i).take j).map (·.1)):=λ{j}=>by
  rw[aB,<-ab,<-S7,S4];rfl
 have cB:=O.size;rw[e3 da.u bR.1];refine b2.range L.length (λj am H=>∃C,am= .bool (decide (c.sc∈(L.take j).map (·.sc)))/\Ext w H/\J.heap.size<=H.heap.size/\mc H w.heap.size g l f.co C/\C.map ef=((e5 f i).map (ng f.k c.sc c.cs)).take j++(e5 f i).drop j/\ag H G a7 (dU c)/\fV H f.co c/\∀h∈C,∀r,li h.a1 r->r<J.heap.size) A.1.le
  ⟨L,Ξ,O.F bb,bb.size,bR,by grind,cO,cP,cQ⟩ ?_ ?_
 .rintro j _ H cU bT ⟨C,rfl,ad,cV,aC,S,bc,bd,af⟩ dP;have cW:C.length=L.length:=by
   grind [p8]
  obtain⟨h,an⟩:=aF (l:=C) (i:=j) Ω;have bf:(e5 f i)[j]?=σ (ef h):=by
   grind [FP]
  have bW:((e5 f i).map (ng f.k c.sc c.cs))[j]?=σ (ng f.k c.sc c.cs (ef h)):=by grind
  have cX:∃y,L[j]?=σ y/\y.sc=h.sc:=by
   refine⟨_,x6 bT,?_⟩;rw[<-ab,x8,x6 bT]at bf;exact congrArg Prod.fst (Z7 bf)
  obtain⟨y,W,cY⟩:=cX;have dQ:(c.sc∈(L.take (j+1)).map (·.sc))↔c.sc∈(L.take j).map (·.sc)\/h.sc=c.sc:=by
   rw[u7,W,l9,l7,o9,List.map_singleton,b8,cY]
   grind
  have cZ:=cD _ (x5 bf);refine bC Ω ?_;refine aV (λam K=>∃C,am= .bool (decide (c.sc∈(L.take (j+1)).map (·.sc)))/\Ext w K/\J.heap.size<=K.heap.size/\mc K w.heap.size g l f.co C/\C.map ef=((e5 f i).map (ng f.k c.sc c.cs)).take (j+1)++(e5 f i).drop (j+1)/\ag K G a7 (dU c)/\fV K f.co c/\∀h∈C,∀r,li h.a1 r->r<J.heap.size) ?_ ?_
  .rintro dR K cF;rw[aM]
   grind
  intro dS bX;intro c0 ah _ _;have aD:=aC.W ah;have bY:=bc.W ah;have bZ:=bd.W ah;obtain⟨c1,dT⟩:=aD.2.1 h (x5 an);obtain⟨⟨g1,h1⟩,_,cS,bS⟩:=id c1;obtain⟨⟨dV,c2⟩,_,dW,b0⟩:=id bZ;rw[dm rfl da.u a7.i aD.1 Ω,aT a7.p rfl,ax Ψ (aD.1.range an 0 _ rfl),aQ a7.p 0 bY rfl];refine(MB h1.ls c2.ls).X ?_;rintro _ dX _ ⟨rfl,X⟩;have c3:=aD.W X;have bg:=bY.W X;have b1:=bZ.W X;have b3:=(ad.F ah).F X;have z9:=(ah.F X).size;rw[ai];refine⟨λdY=>?_,λc4=>?_⟩
  rotate_left
  .refine bX _ _ ⟨C,?_,b3,Ω,c3,?_,bg,b1,af⟩
   .grind
   .have e:ng f.k c.sc c.cs (ef h)=ef h:=m5 c4;rw[e]at bW;rw[<-zg Ω bW,<-S];symm;refine j5 λp=>?_;rw[Y4];by_cases bh:j=p
    all_goals grind
  have dZ:h.cs.length=c.cs.length:=by
   grind [ey.len,jG,ef]
  have ea:(bV f.k h.cs c.cs).length=h.cs.length:=by grind [bV]
  rw[aQ a7.p 2 bg rfl,aS aw.u (b0.W X).ls];refine cm.range c.cs.length (λs Q=>Ext w Q/\J.heap.size<=Q.heap.size/\mc Q w.heap.size g l f.co (C.set j {h with cs:=(bV f.k h.cs c.cs).take s++h.cs.drop s})/\ag Q G a7 (dU c)/\fV Q f.co c) b0.ls.le
   ⟨b3,Ω,?_,bg,b1⟩ ?_ ?_
  .have e:C.set j {h with cs:=(bV f.k h.cs c.cs).take 0++h.cs.drop 0}=C:=by
    refine j5 λp=>?_;rw[Y4];by_cases bh:j=p
    .subst bh;rw[m3 rfl,m3 Ω,an];rfl
    .rw[m5 bh]
   grind
  .rintro s Q c5 U ⟨bi,b4,aE,bk,bl⟩ c6;refine bC Ω ?_;intro eb al _ _;have Y:=aE.W al;have b6:=bk.W al;have b7:=bl.W al;have ca:=bi.F al;have aG:(C.set j {h with cs:=(bV f.k h.cs c.cs).take s++h.cs.drop s})[j]?=σ {h with cs:=(bV f.k h.cs c.cs).take s++h.cs.drop s}:=by
    grind
   have cc:j<(C.set j {h with cs:=(bV f.k h.cs c.cs).take s++h.cs.drop s}).length:=by grind
   obtain⟨⟨_,_,c8,bm⟩,c9⟩:=Y.2.1 _ (x5 aG);obtain⟨_,_,ec,db⟩:=id b7;obtain⟨a,cd⟩:=aF (l:=h.cs) (i:=s) Ω;obtain⟨b,aH⟩:=aF (l:=c.cs) U;have dc:s<({h with cs:=(bV f.k h.cs c.cs).take s++h.cs.drop s}:fI).cs.length:=by show s<((bV f.k h.cs c.cs).take s++h.cs.drop s).length;rw[p8,c7,List.length_drop];omega
   have dd:((bV f.k h.cs c.cs).take s++h.cs.drop s)[s]?=σ a:=by grind [FP]
   have bn:(bV f.k h.cs c.cs)[s]?=σ (min (a+b) f.k):=by
    unfold bV;rw[List.getElem?_zipWith,cd,aH]
   have ed:=cZ.gM a (x5 cd);have ee:=cC.gM b (by grind [x5]);have de:=aL.W ca;rw[dm rfl da.u a7.i Y.1 cc,aT a7.p rfl,ax Ψ (Y.1.range aG 2 _ rfl),dm rfl da.u a7.i Y.1 cc,aT a7.p rfl,ax Ψ (Y.1.range aG 2 _ rfl),be aw.u ap.i Ψ bm.ls dd,aQ a7.p 2 b6 rfl,be aw.u ap.i Ψ db.ls aH,aK ei.p 1 de rfl];refine(rm Ω Ω).X ?_;rintro _ eg _ ⟨rfl,Z⟩;refine⟨.inl Z,?_⟩;have z12:=(al.F Z).size;refine Rf (Y.W Z) aG dc λeh aI ce df=>?_;rw[aM];have dg:=b7.W Z;have cf:=b6.W Z;have ej:=aI.size;refine c6 _ ⟨(ca.F Z).then aI λr A he=>by have:=c9 r (.inl he);omega,Ω,?_,?_,?_⟩
   .rw[List.set_set]at df;have e:=zg (B:=h.cs) (s:=s) Ω bn
    grind
   .exact cf.aa aI λU=>by
     obtain⟨ek,dh⟩:=ce _ U;exact m6 (eI cf dh) Φ
   .refine o0 dg aI λr A=>.inr (.inr ⟨ce r A,λdi=>?_⟩);have:=ac r (.inl di);have:=af h (x5 an) r A;omega
  .rintro Q c5 ⟨bi,b4,aE,bk,bl⟩;refine ci Ω ?_;have e:(bV f.k h.cs c.cs).take c.cs.length++h.cs.drop c.cs.length=bV f.k h.cs c.cs:=by
    grind
   simp only[e]at aE;refine bX _ _ ⟨_,?_,bi,b4,aE,?_,bk,bl,λz E r A=>?_⟩
   .grind
   .grind [ng,ef,V3,zg]
   .rcases T8 E with E|rfl
    all_goals grind
 rintro _ H cU ⟨C,rfl,ad,cV,aC,S,bc,bd,af⟩;refine ci Ω ?_;rw[cT,cE,o6,bA,bU];have cg:=yV aX;have bn:((e5 f i).map (ng f.k c.sc c.cs)).take L.length++(e5 f i).drop L.length=(e5 f i).map (ng f.k c.sc c.cs):=by
  grind [o4]
 rw[bn]at S;have cW:C.length=L.length:=by
  grind
 refine⟨λbo=>?_,λdj=>?_⟩
 .have bo:bz x.scope∉(e5 f i).map (·.1):=by grind
  have dk:(e5 f i).map (ng f.k c.sc c.cs)=e5 f i:=by
   refine(V2 λz E=>?_).F (List.map_id _);exact m5 λhe=>bo (o8.2 ⟨z,E,by rw[he,aB]⟩)
  rw[dk]at S;rw[bB a7.p a7.i rfl (show H.rangeAt G 0 (dU c)from bc.range)];refine iV da.u a7.i Ω rfl rfl λem c8 K en aJ bm=>?_;have R:=aC.W aJ;have ch:=bd.W aJ;refine jo da.u a7.i rfl R.1 (by simpa using bm.sl) ch.one Ω Ω λeo dl c0 aR dn bp=>?_;have cj:∀r,lc l r->∃e c,ag K r e c/\e≠ae/\e≠ap:=λr A=>by
   obtain⟨rfl,c,aH⟩:=dN R.1 A;exact⟨_,c,aH,Φ,Φ⟩
  have ep:=aJ.size;have er:=ad.size;refine bF _ _ ⟨dl,C++[c],(ad.F aJ).then bp λr A he=>by have:=R.2.2.2 r he;omega,⟨aR,λz E=>?_,λp q y z W E dp r bq br=>?_,λr A=>(dn r A).elim (R.2.2.2 r) Ω⟩,?_⟩
  .rcases o9.1 E with E|E
   .exact⟨o0 (R.2.1 z E).1 bp λr A=>.inl (cj r A),(R.2.1 z E).2⟩
   .rw[b8.1 E];exact⟨o0 ch bp λr A=>.inl (cj r A),by grind⟩
  .have ck:∀{p:Nat}{y:fI},(C++[c])[p]?=σ y->C[p]?=σ y\/(p=C.length/\y=c):=λ{p y}W=>by
    rw[List.getElem?_append]at W;split at W
    .grind
    .by_cases es:p-C.length=0
     all_goals grind
   rcases ck W with cl|⟨et,rfl⟩<;>rcases ck E with cn|⟨eq,rfl⟩
   .exact R.2.2.1 p q y z cl cn dp r bq br
   .have:=af y (x5 cl) r bq;have:=ac r (.inl br);omega
   .have:=af z (x5 cn) r br;have:=ac r (.inl bq);omega
   .omega
  .rw[l7,S,cg,E4 λz E he=>bo (o8.2 ⟨z,E,he⟩)];show _++[(c.sc,c.cs)]=_;rw[aB,bQ];rfl
 .have dj:bz x.scope∈(e5 f i).map (·.1):=by grind
  refine bF _ _ ⟨g,C,ad,aC,?_⟩;rw[S,cg];unfold jH;rw[m3 (by grind [jG])];refine V2 λz _=>?_;unfold ng;rw[aB,bQ];rfl
def zh(w:x3)(B:Nat)(v:x1)(n:aD):Prop:=∃d9 gz a f aW e gr L,v= .agg #[Δ n.k,d9,Δ n.zero,a,e]/\ao .i64 ae w gz d9 n.co/\iY w f a aW/\aW.map (·.l)=n.unary/\bj dU 3 a7 w gr e L/\(∀h∈L,fV w n.co h)/\L.map ef=n.d7/\(∀r,li d9 r->B<=r)/\∀h∈L,∀r,rJ h r->B<=r
def z9:List x1:=[Δ 0,.slice ν 0 0,Δ 0,.slice ν 0 0,.slice ν 0 0]
def o1(w:x3)(C gt gs go:Nat)(d9 a1:x1)(f:b5)(a:List fI)(I:x3):Prop:=Ext w I/\C<=I.heap.size/\ag I gt dY z9/\ao .i64 ae I gs d9 f.co/\bj dU 3 a7 I go a1 a/\(∀r,lc a1 r->r<C)/\∀h∈a,fV I f.co h
theorem o1.W{V:x3}{C gt go:Nat}{a1:x1}{f:b5}{e:List fI}(h:o1 w C gt gs go d9 a1 f e I)(a:Ext I V):o1 w C gt gs go d9 a1 f e V:=by
 obtain⟨h1,z,j,p,q,r,s⟩:=h;have:=a.size;exact⟨h1.F a,Ω,j.W a,p.W a,q.W a,r,λx y=>(s x y).W a⟩
def Rl(w I:x3)(C gt:Nat)(r:Nat):Prop:=w.heap.size<=r/\r≠gt/\((∃c,ag I r dY c)\/(∃c,ag I r aw c)\/((∃c,ag I r a7 c)/\C<=r))
theorem o1.aa{V:x3}{C gt go:Nat}{a1:x1}{f:b5}{y:List fI}(h:o1 w C gt gs go d9 a1 f y I)(p:af S I V)(q:∀r,S r->Rl w I C gt r):o1 w C gt gs go d9 a1 f y V:=by
 obtain⟨h1,J,E,z,s,A,F⟩:=h;have:=p.size;have B:∀r,S r->∃e c,ag I r e c/\e≠ae/\e≠ap:=λr j=>by
  obtain⟨_,_,⟨c,a⟩|⟨c,a⟩|⟨⟨c,a⟩,_⟩⟩:=q r j
  .exact⟨_,c,a,Φ,Φ⟩
  .exact⟨_,c,a,Φ,Φ⟩
  .exact⟨_,c,a,Φ,Φ⟩
 refine⟨h1.then p λr j U=>by have:=(q r U).1;omega,Ω,E.aa p λU=>(q _ U).2.1 rfl,bk z p λr j U=>?_,s.aa p λr j U=>?_,A,λx G=>o0 (F x G) p λr j=>.inl (B r j)⟩
 .obtain⟨e,c,a,H,_⟩:=B r U;exact cj z a (λhe=>H he.symm) j rfl
 .obtain⟨_,_,⟨c,a⟩|⟨c,a⟩|⟨_,K⟩⟩:=q r U
  .exact cO s a Φ j
  .exact cO s a Φ j
  .have:=A r j;omega
def FT(w:x3)(C f:Nat)(d9:x1)(k:Int)(n:aD)(j:List fI)(I:x3):Prop:=∃a p aW e gr L,ag I f dY [Δ k,d9,Δ n.zero,a,e]/\iY I p a aW/\aW.map (·.l)=n.unary/\(∀r,lc a r->w.heap.size<=r)/\bj dU 3 a7 I gr e L/\(∀h∈L,h∈j)/\L.map ef=n.d7/\∀r,lc e r->C<=r
theorem FU{bV:Nat}{f:b5}(bW:qh w bV f)(R:fh N f):aj x7 IL [Γ bV] w λv I=>Ext w I/\zh I w.heap.size v (df f):=by
 have hk:=R.k;have dz:=R.co.2.1;obtain⟨dA,dC,dD,dE,bX,bY,dF⟩:=id bW;refine az func15 ?_;refine bx dY.i λgt J dG aV aX=>?_;have aX:=aX;rw[aK ei.p 1 (bX.W aV) rfl,dw (cs:=#[Δ f.k,.slice ν 0 0,Δ 0,.slice ν 0 0,.slice ν 0 0]) Ψ];refine bx dY.i λA V dH b0 cJ=>?_;refine cb (vs:=[Δ f.k,.slice ν 0 0,Δ 0,.slice ν 0 0,.slice ν 0 0]) dY.i rfl rfl (by intro u K;simp at K;rcases K with rfl|rfl|rfl|rfl<;>rfl) cJ λdI b1 dJ cK=>?_;have bu:=(aV.F b0).then b1 λr q he=>by have he:r=A:=he;have:=aV.size;omega
 have dK:=aX.lt;have E:A≠gt:=Ω
 have cL:=(aX.W b0).aa b1 λhe=>by have he:=he;omega
 rw[aK ei.p 2 (bX.W bu) rfl,aS aw.u (bY.W bu).ls];have dL:=aV.size;refine cm.range f.co.length (λi X=>Ext w X/\ag X gt dY z9/\∃d9 gs B H aW,ag X A dY [Δ f.k,d9,Δ 0,B,.slice ν 0 0]/\ao .i64 ae X gs d9 (f.co.take i)/\(∀r,li d9 r->w.heap.size<=r)/\iY X H B aW/\aW.map (·.l)=(f.co.take i).map (λz=>r8 z.toNat 0)/\∀r,lc B r->w.heap.size<=r) Ω
  ⟨bu,cL,_,0,_,0,[],cK,ao.nil _ _ _ _,(λr q=>by obtain⟨a,n,c,cM,dM⟩:=q;cases cM),⟨bj.nil _ _ _ _ _,λx bw=>(by cases bw)⟩,rfl,λr q=>(gm q).elim⟩ ?_ ?_
 .rintro i X cN hi ⟨Y,bz,d9,gs,B,H,aW,aH,aY,aZ,bA,aI,a2⟩ cP;obtain⟨z,C⟩:=aF (l:=f.co) hi;have dO:=R.co.2.2 z (x5 C);have dP:aW.length=i:=by have:=congrArg List.length aI;simp only[o4,c7]at this;omega
  refine bC Ω ?_;rw[be aw.u ap.i Ψ (bY.W Y).ls C,aQ dY.p 1 aH rfl];refine dr al.u ae.i rfl λa5 dQ b2 dR ak cQ=>?_;have aJ:=aY.W ak;refine fU al.u ae.i rfl aJ cQ.ls Θ Θ λb3 b4 dS a6 cR b6=>?_;have bD:=aH.W ak;have b7:=bz.W ak;have b9:=bD.aa b6 λhe=>cj aJ bD Φ he rfl;rw[aT dY.p rfl];refine bt (g:=A) (o:=1) al.i a6.ls.cells.1 a6.ls.cells.2 b9 Ξ λca cc dT a8=>?_;have a8:=a8;have bF:af (λr=>li d9 r\/r=A) b2 ca:=(b6.X λr _ h=>.inl h).F (cc.X λr _ h=>.inr h);have cS:ao .i64 ae ca b4 b3 (f.co.take (i+1)):=by
   rw[u7,C];exact bk a6 cc λr q he=>by
    have he:r=A:=he;subst he;exact cj a6 b9 Φ q rfl
  have am:∀r,(li d9 r\/r=A)->∃e c,ag b2 r e c/\e≠ap/\e≠aw:=λr q=>by
   rcases q with q|rfl
   .obtain⟨rfl,_⟩:=bE aJ q;obtain⟨_,⟨cT,_⟩|⟨cap,full,_,s,_⟩⟩:=aJ
    .obtain⟨a,n,c,e,_⟩:=q;rw[cT]at e;cases e
    .exact⟨_,_,s,Φ,Φ⟩
   .exact⟨_,_,bD,Φ,Φ⟩
  have cU:=(bA.W ak).aa bF am;have z4:=Y.size;have z5:=ak.size;have cd:=(Y.F ak).then bF λr q he=>by
   rcases he with he|he
   .have:=aZ r he;omega
   .omega
  have cV:=b7.aa bF λU=>by
   rcases U with U|U
   .exact cj aJ b7 Φ U rfl
   .omega
  intro dV ce _ _;have cW:=a8.W ce;rw[aQ dY.p 3 cW rfl];obtain⟨ba,rfl⟩:∃n:Nat,z=n:=⟨z.toNat,Ω⟩;refine ky aw.u ap.i Ω Ω λcf dW dX bG cX=>?_;refine⟨.inl bG,?_⟩;have cY:=ao.of (bZ.full (n:=ba) cX Ξ (by simp[maxLen];omega));let a:m8:=⟨.slice (σ ⟨cf,0,ν⟩) ba ba,r8 ba 0⟩;refine iV (f:=tb) (a:=a) e0.u aw.i Ω rfl rfl λdZ ea bH eb bI cZ=>?_;refine⟨.inl (bG.F bI),?_⟩;have aq:=(ce.F bG).F bI;have aL:=cU.W aq;refine jo (f:=tb) (a:=a) e0.u aw.i rfl aL.1 (by simpa using cZ.sl) (λu K=>by rw[b8.1 (show u∈[a.v]from K)];rfl) Ω Ω λbJ bK ec M bL cg=>?_;have au:∀{r:Nat},lc B r->∃c,ag bH r aw c:=λq=>by
   obtain⟨rfl,c,s⟩:=dN aL.1 q;exact⟨c,s⟩
  have bM:=a8.W aq;have ch:=bM.aa cg λhe=>cO aL.1 bM Φ he;rw[aT dY.p rfl];refine bt e0.i (eJ M.sl).1 (eJ M.sl).2 ch Ξ λc0 ck ed c1=>?_;rw[aM];have S:af (λr=>lc B r\/r=A) bH c0:=(cg.X λr _ h=>.inl h).F (ck.X λr _ h=>.inr h);have bN:∀r,(lc B r\/r=A)->∃e c,ag bH r e c/\e≠ap/\e≠ae:=λr q=>by
   rcases q with q|rfl
   .obtain⟨c,s⟩:=au q;exact⟨_,c,s,Φ,Φ⟩
   .exact⟨_,_,bM,Φ,Φ⟩
  have cl:=cS.W aq;have eg:=cd.size;have eh:=aq.size;have cn:=cV.W aq;refine cP _ ⟨(cd.F aq).then S (λr q he=>?_),cn.aa S (λU=>?_),b3,b4,bJ,bK,aW++[a],c1,bk cl S (λr q U=>?_),λr q=>?_,⟨M.aa ck λr q he=>?_,λy O=>?_⟩,?_,λr q=>?_⟩
  .rcases he with he|rfl
   .have:=a2 r he;omega
   .omega
  .rcases U with U|U
   .exact cO aL.1 cn Φ U
   .omega
  .obtain⟨e,c,s,_,E⟩:=bN r U;exact cj cl s (λhe=>E he.symm) q rfl
  .rcases cR r q with h|h
   .exact aZ r h
   .omega
  .have he:r=A:=he;subst he;exact cO M ch Φ q
  .rcases o9.1 O with O|O
   .exact aL.tc S (λr q=>by obtain⟨e,c,s,E,_⟩:=bN r q;exact⟨e,c,s,E⟩) y O
   .rw[b8.1 O];have cp:=cY.W bI;exact⟨cf,bk cp S λr q U=>by
     obtain⟨e,c,s,E,_⟩:=bN r U;exact cj cp s (λhe=>E he.symm) q rfl⟩
  .rw[l7,aI,u7,C,l9,l7];rfl
  .rcases bL r q with h|h
   .exact a2 r h
   .omega
 rintro X cN ⟨Y,bz,d9,gs,B,H,aW,aH,aY,aZ,bA,aI,a2⟩;refine ci Ω ?_;rw[o6]at aY aI;refine(Rk (bW.W Y) R).X ?_;rintro a1 bb _ ⟨av,go,P,M,cq,cr,ej⟩;have ct:P.length=(gk f).length:=by rw[<-cr,o4]
 have ek:P.length<=256:=by
  have h1:=(sZ R).2.length_eq;have bc:=(mY R).2.2;have em:=List.length_filter_le gi (gj f);have en:=R.mT;omega
 have z4:=Y.size;have eo:=av.size;have ep:=aH.lt;rw[e3 da.u M];refine cm.range P.length (λi aC=>o1 w bb.heap.size gt gs go d9 a1 f P aC/\FT w bb.heap.size A d9 f.k (ee f i) P aC) M.le
  ⟨⟨Y.F av,p9 _,bz.W av,aY.W av,M,λr q=>by have:=M.li q;omega,λh an=>(cq h an).1⟩,B,H,aW,_,0,[],aH.W av,bA.W av,aI,a2,bj.nil _ _ _ _ _,λx bw=>(by cases bw),rfl,λr q=>(gm q).elim⟩ ?_ ?_
 rotate_left
 .rintro aC c2 ⟨aD,B,H,aW,Z,gr,L,bd,bf,ab,aN,aO,aE,ac,aP⟩;obtain⟨c3,er,cu,bO,es,et,c4⟩:=id aD;have bg:=rB f P.length;rw[ct,vI]at bg;rw[ct,vI]at bd ab ac;refine ci Ω ?_;rw[bB dY.p dY.i rfl (show aC.rangeAt A 0 [Δ f.k,d9,Δ (df f).zero,B,Z]from bd.range)];refine cb (vs:=[Δ f.k,d9,Δ (df f).zero,B,Z]) dY.i rfl rfl (λu K=>?_) cu λeu aR ev c5=>?_
  .simp at K;rcases K with rfl|rfl|rfl|rfl|rfl
   .rfl
   .exact bO.ls.cells.2
   .rfl
   .exact (eJ bf.1.sl).2
   .exact (eJ aO.sl).2
  rw[fD dY.p dY.i rfl c5.range];have am:∀r,r=gt->∃e c,ag aC r e c/\e≠ap/\e≠aw/\e≠ae/\e≠a7:=λr q=>by
   subst q;exact⟨_,_,cu,Φ,Φ,Φ,Φ⟩
  refine⟨c3.then aR λr q he=>by have he:r=gt:=he;omega,d9,gs,B,H,aW,Z,gr,L,?_,?_,bf.aa aR (λr q=>?_),ab,aO.aa aR (λr q U=>?_),λh an=>?_,ac,aZ,λh an r q=>by have:=(cq h (aE h an)).2 r q;omega⟩
  .rw[bg.1]
  .rw[bg.2.1];refine bk bO aR λr q U=>?_;obtain⟨e,c,s,_,_,E,_⟩:=am r U;exact cj bO s (λhe=>E he.symm) q rfl
  .obtain⟨e,c,s,h1,bc,_⟩:=am r q;exact⟨e,c,s,h1,bc⟩
  .obtain⟨e,c,s,_,_,_,E⟩:=am r U;exact cO aO s (λhe=>E he.symm) q
  .rw[bg.2.1];exact o0 (c4 h (aE h an)) aR λr q=>by
    obtain⟨e,c,s,h1,_,bc,_⟩:=am r q;exact .inl ⟨e,c,s,bc,h1⟩
 rintro i aC c2 hi ⟨aD,B,H,aW,Z,gr,L,bd,bf,ab,aN,aO,aE,ac,aP⟩ c6;obtain⟨y,O⟩:=aF (l:=P) hi;have bi:=x5 O;have cw:(gk f)[i]?=σ (ef y):=by rw[<-cr,x8,O];rfl
 have bP:=vr R _ (x5 cw);have bQ:=yW cw;obtain⟨ew,ey,ez,eA⟩:=rB f i;refine bC Ω ?_;refine dk (λbR=>o1 w bb.heap.size gt gs go d9 a1 f P bR/\FT w bb.heap.size A d9 f.k (ee f (i+1)) P bR) ?_ ?_
 .rintro bR h;rw[aM];exact c6 _ h
 intro ay bS;rw[dm rfl da.u a7.i aD.2.2.2.2.1 hi,bB a7.p a7.i rfl (aD.2.2.2.2.1.range O)];refine bx a7.i λc8 eB eC c9 db=>?_;refine cb (vs:=dU y) a7.i rfl rfl (aD.2.2.2.2.2.2 y bi).one db λdc dd eD bl=>?_;have bm:=c9.put dd Ω;have bn:=aD.W bm;have ad:=bd.W bm;have bT:=bf.W bm;have bo:=aO.W bm;obtain⟨eE,eF,cz,eH,eK,eL,cA⟩:=id bn;obtain⟨⟨eM,cB⟩,_,de,cC⟩:=cA y bi;rw[aQ a7.p 0 bl rfl,aS al.u cB.ls];have eN:aW.length=f.co.length:=by have:=congrArg List.length ab;rw[o4]at this;omega
 have eO:L.length<=256:=by have:=congrArg List.length ac;rw[o4]at this;omega
 rw[bh,ai];refine⟨λeP=>?_,λeQ=>?_⟩
 .
  have ah:y.sc=[]:=Z0 Ω;have G:ee f (i+1)={ee f i with zero:=y.cs.getD 0 0}:=by rw[bQ];unfold kf;simp only[ef,ah]
  have eR:y.cs.length=1:=by have:=bP.len;simpa[ef,ah,aB,aA]using this
  have dg:y.cs[0]?=σ (y.cs.getD 0 0):=by rw[u5,x6 Ω];rfl
  rw[aQ a7.p 2 bl rfl,fm (y:=0) (i:=0) rfl aw.u ap.i Ψ cC.ls dg,aT dY.p rfl];refine bt ap.i rfl rfl ad Ξ λdh Q di dj=>?_;refine bS _ ⟨bn.aa Q λr q=>?_,B,H,aW,Z,gr,L,?_,bT.aa Q (λr q=>?_),by rw[G];exact ab,aN,bo.aa Q (λr q U=>?_),aE,by rw[G];exact ac,aP⟩
  .have q:r=A:=q;subst q;exact⟨Ω,E,.inl ⟨_,ad⟩⟩
  .rw[G];exact dj
  .have q:r=A:=q;subst q;exact⟨_,_,ad,Φ,Φ⟩
  .have U:r=A:=U;subst U;exact cO bo ad Φ q
 rw[bh,ai];refine⟨λh1=>?_,λeS=>?_⟩
 .
  obtain⟨v,ah⟩:∃v,y.sc=[v]:=X6.1 Ω;have eU:=bP.scope.1 v (by show v∈y.sc;rw[ah];exact .head _);have eV:=bP.d6 v (by show v∈y.sc;rw[ah];exact .head _);have G:ee f (i+1)={ee f i with unary:=(ee f i).unary.set v.toNat y.cs}:=by rw[bQ];unfold kf;simp only[ef,ah]
  intro dl W _ _;have bU:=ad.W W;have cD:=bl.W W;have aU:=bT.W W;have dn:=bn.W W;have cE:=bo.W W;rw[aQ dY.p 3 bU rfl,aQ a7.p 0 cD rfl];refine pP rfl al.u ae.i (cB.ls.W W) (show y.sc[0]?=σ v by rw[ah];rfl) λb o dp=>?_;rw[ax Ψ dp,aQ a7.p 2 cD rfl];obtain⟨u,K⟩:=aF (l:=aW) (i:=v.toNat) Ω;rw[dm (i:=v.toNat) Ω e0.u aw.i aU.1 Ω];let a:m8:=⟨y.a1,y.cs⟩;have bp:=cC.W W;refine rr (j:=0) (a:=u) (a':=a) aw.i bp.ls.cells.1 bp.ls.cells.2 aU.1 K rfl Ω λdh Q di dq=>?_;have au:∀{r:Nat},lc B r->∃c,ag dl r aw c:=λq=>by
   obtain⟨rfl,c,s⟩:=dN aU.1 q;exact⟨c,s⟩
  refine bS _ ⟨dn.aa Q λr q=>?_,B,H,aW.set v.toNat a,Z,gr,L,?_,⟨dq,λz C=>?_⟩,?_,aN,cE.aa Q (λr q U=>?_),aE,by rw[G];exact ac,aP⟩
  .obtain⟨c,s⟩:=au q;exact⟨aN r q,λhe=>(by subst he;exact m6 (eI s (cz.W W)) Φ),.inr (.inl ⟨c,s⟩)⟩
  .rw[G];exact bU.aa Q λhe=>cO aU.1 bU Φ he
  .rcases T8 C with C|rfl
   .exact aU.tc Q (λr q=>by obtain⟨c,s⟩:=au q;exact⟨_,c,s,Φ⟩) z C
   .exact⟨de,bk bp Q λr q U=>by
     obtain⟨c,s⟩:=au U;exact cj bp s Φ q rfl⟩
  .rw[G,V3,ab]
  .obtain⟨c,s⟩:=au U;exact cO cE s Φ q
 .
  have G:ee f (i+1)={ee f i with d7:=(ee f i).d7++[ef y]}:=by
   rw[bQ];unfold kf;have cF:2<=(ef y).1.length:=by show 2<=y.sc.length;omega
   generalize ef y=g at cF ⊢;obtain⟨sc,cs⟩:=g
   match sc,cF with
   |_::_::_,_=>rfl
  rw[aQ dY.p 4 ad rfl,bB a7.p a7.i rfl (show dc.rangeAt c8 0 (dU y)from bl.range)];refine iV da.u a7.i Ω rfl rfl λeW eX ds eY aG dt=>?_;have bq:=bo.W aG;have du:=bT.W aG;have br:=ad.W aG;have dv:=bn.W aG;refine jo da.u a7.i rfl bq (by simpa using dt.sl) (cA y bi).one Ω Ω λbJ bK eZ bs bL cG=>?_;have cH:=br.aa cG λhe=>cO bq br Φ he;rw[aT dY.p rfl];refine bt da.i (eJ bs.sl).1 (eJ bs.sl).2 cH Ξ λdx cI e1 dy=>?_;have S:af (λr=>lc Z r\/r=A) ds dx:=(cG.X λr _ h=>.inl h).F (cI.X λr _ h=>.inr h);have e2:=aG.size;refine bS _ ⟨dv.aa S λr q=>?_,B,H,aW,bJ,bK,L++[y],?_,du.aa S (λr q=>?_),by rw[G];exact ab,aN,bs.aa cI (λr q U=>?_),λz C=>?_,?_,λr q=>?_⟩
  .rcases q with q|rfl
   .obtain⟨rfl,c,s⟩:=dN bq q;have:=aP _ q;refine⟨Ω,λhe=>?_,.inr (.inr ⟨⟨c,s⟩,this⟩)⟩;subst he;exact m6 (eI s (cz.W aG)) Φ
   .exact⟨Ω,E,.inl ⟨_,br⟩⟩
  .rw[G];exact dy
  .rcases q with q|rfl
   .obtain⟨rfl,c,s⟩:=dN bq q;exact⟨_,c,s,Φ,Φ⟩
   .exact⟨_,_,br,Φ,Φ⟩
  .have U:r=A:=U;subst U;exact cO bs cH Φ q
  .rcases o9.1 C with C|C
   .exact aE z C
   .rw[b8.1 C];exact bi
  .rw[G,l7,ac];rfl
  .rcases bL r q with h|h
   .exact aP r h
   .omega
def tk(w:x3)(S:Nat->Prop)(e:r9):Prop:=∀r,S r->∃c,ag w r e c
theorem zi{a:r9}{k:o5}{g:Nat}(h:ao k a w g v l)(f:af S w I)(j:tk w S e)(p:a≠e):ao k a I g v l:=bk h f λr q U=>by
 obtain⟨c,s⟩:=j r U
 grind [cj]
theorem FV{α:Type}{f:α->List x1}{k:Nat}{a:r9}{g:Nat}{L:List α}(h:bj f k a w g v L)(j:af S w I)(p:tk w S e)(q:a≠e):bj f k a I g v L:=h.aa j λr s U=>by
 obtain⟨c,x⟩:=p r U
 grind [cO]
theorem zj{a:r9}{r:Nat}{c:List x1}(h:ag w r a c)(f:af S w I)(j:tk w S e)(p:a≠e):ag I r a c:=h.aa f λU=>by
 obtain⟨c,q⟩:=j r U
 grind [eI]
theorem FW{g:Nat}{c:List x1}(h:ag w g e c):tk w (λr=>r=g) e:=λr a=>by
 have a:r=g:=a;subst a;exact⟨c,h⟩
theorem rK{k:o5}{g:Nat}(h:ao k e w g v l):tk w (λr=>li v r) e:=λr f=>by
 have f:=f;obtain⟨rfl,_⟩:=bE h f;obtain⟨_,⟨j,_⟩|⟨cap,full,_,p,_⟩⟩:=h
 .obtain⟨a,n,c,q,_⟩:=f;grind
 grind
def aL(x:bs):Λ:=((Z2 x.un.length).map λv:Nat=>(v:Int)).filter λv=>!dropped x.mask v
theorem zk{P:X5}{k:o5}{t:r9}{b:Nat}{K:x1->x3->Prop}(a:P.underlying t=σ (.slice e))(hi:aR P e 1 b z)(f:∀v g I,g=w.heap.size->Ext w I->ao k e I g v []->K v I):aC P (Y1 t 0 #[]) w K:=
 lU a hi Ω (cs:=#[]) (by simp[Instr.fill]) λg I h j p=>f _ g I h j (ao.of (bZ.full (by simpa using p) Ξ (by simp[maxLen])))
theorem Rm{n:aD}(h:zh w B v n){g:Nat}(j:ag I g dY v.cells.toList):∃d9 gz a f aW e gr L,ag I g dY [Δ n.k,d9,Δ n.zero,a,e]/\ao .i64 ae w gz d9 n.co/\iY w f a aW/\aW.map (·.l)=n.unary/\bj dU 3 a7 w gr e L/\(∀h∈L,fV w n.co h)/\L.map ef=n.d7/\(∀r,li d9 r->B<=r)/\∀h∈L,∀r,rJ h r->B<=r:=by
 obtain⟨d9,gz,a,f,aW,e,gr,L,rfl,p,q,x,s,y,z⟩:=h;obtain⟨_,_,_,A⟩:=cP p.ls;obtain⟨_,_,_,_,_,C,_⟩:=q.1.sl;obtain⟨_,_,_,_,_,E,_⟩:=s.sl;refine⟨d9,gz,a,f,aW,e,gr,L,?_,p,q,x,s,y,z⟩;rw[A,C,E]at j ⊢;exact j
def z12:List x1:=[Δ 0,.slice ν 0 0,Δ 0,.slice ν 0 0,.slice ν 0 0,.slice ν 0 0,.slice ν 0 0,.slice ν 0 0]
theorem Rn(u:Λ):aL (newVar u)=(Z2 u.length).map λv:Nat=>(v:Int):=by
 unfold aL newVar dropped;rw[List.filter_eq_self.2];intro a _;simp
section
variable{P:X5}{w:x3}{t:r9}{cx cy:Bool}{a b:Nat}{K:x1->Prop}
theorem Ro(f:a<2 ^ 62)(h:b<2 ^ 62):ab P (aO .or t cx cy (Δ a) (Δ b)) w K=K (Δ ((a ||| b:Nat):Int)):=ab.of λI _=>by
 have e:(U6 64 (a:Int) ||| U6 64 (b:Int)).toNat=a ||| b:=by
  rw[oM,oM,BitVec.toNat_or,BitVec.toNat_ofNat,BitVec.toNat_ofNat,Nat.mod_eq_of_lt Ω,Nat.mod_eq_of_lt Ω]
 have p:a ||| b<2 ^ 62:=Nat.or_lt_two_pow f h;have hw:Y7.wrap ((a ||| b:Nat):Int)=((a ||| b:Nat):Int):=lm Ω Ω;have j:(U6 Y7.bits (a:Int) ||| U6 Y7.bits (b:Int)).toNat=a ||| b:=e;simp only[aO,eqGuard,binOp,Op.intBits,j,hw];rfl
theorem FX(j:a<2 ^ 62)(f:b<2 ^ 62):ab P (aO .and t cx cy (Δ a) (Δ b)) w K=K (Δ ((a &&& b:Nat):Int)):=ab.of λI _=>by
 have e:(U6 64 (a:Int) &&& U6 64 (b:Int)).toNat=a &&& b:=by
  rw[oM,oM,BitVec.toNat_and,BitVec.toNat_ofNat,BitVec.toNat_ofNat,Nat.mod_eq_of_lt Ω,Nat.mod_eq_of_lt Ω]
 have p:a &&& b<2 ^ 62:=Nat.and_lt_two_pow _ f;have hw:Y7.wrap ((a &&& b:Nat):Int)=((a &&& b:Nat):Int):=lm Ω Ω;have h:(U6 Y7.bits (a:Int) &&& U6 Y7.bits (b:Int)).toNat=a &&& b:=e;simp only[aO,eqGuard,binOp,Op.intBits,h,hw];rfl
theorem Rp{k:o5}{n:Nat}(a:n<62):ab P (aO .shl t cx cy (Δ 1) (.int k (n:Int))) w K=K (Δ ((2 ^ n:Nat):Int)):=by
 rw[B4 Ω];have e:min ((n:Int).toNat) Y7.bits=n:=Nat.min_eq_left (by show n<=64;omega);have f:2 ^ n<2 ^ 62:=Nat.pow_lt_pow_right Ω a;rw[e,Int.one_mul,show((2:Int) ^ n)=((2 ^ n:Nat):Int) by simp];generalize 2 ^ n=q at f ⊢;rw[lm Ω Ω]
end
theorem Rq(a n:Nat):(a / 2 ^ n &&& 1=1)↔a.testBit n=ro:=by
 rw[Nat.and_one_is_mod,Nat.testBit_eq_decide_div_mod_eq,pl]
theorem FY{b n:Nat}{v:Int}(q:mR b n):aj x7 Je [ka b n,Δ v] w λr I=>r= .bool (decide (0<=v/\v<n)&&b.testBit v.toNat)/\Ext w I:=by
 refine az func81 ?_;refine bm λg J A e f=>?_;refine aV (λr V=>r= .bool (decide (0<=v/\v<n)&&b.testBit v.toNat)/\Ext w V) (λ_ _ h=>h) λay j=>?_;rw[bB b3.p b3.i rfl f.range];refine C7.X ?_;rintro _ B _ ⟨rfl,a⟩;rw[ai];refine⟨λh=>?_,λh=>j _ _ ⟨by rw[ms h];rfl,e.F a⟩⟩;obtain⟨x,C⟩:=q;obtain⟨s,rfl⟩:∃s:Nat,v=s:=⟨v.toNat,Ω⟩;have y:=f.W a;have E:(2:Nat) ^ n<=2 ^ 32:=T6 Ω x;have z:b / 2 ^ s<2 ^ 64:=Nat.lt_of_le_of_lt (Nat.div_le_self _ _) Ω;rw[aQ b3.p 0 y rfl,mQ Ω,show(1:Int)=((1:Nat):Int)from rfl,u64_and z Ω,bh];refine j _ _ ⟨?_,e.F a⟩;congr 1;rw[m7 h,V8,T1,pl,u9,<-Rq];omega
theorem Rr(m v:Nat):dropped (m:Int) (v:Int)=m.testBit v:=by unfold dropped;rw[u9,u9]
def bd(w:x3)(ac ad:Nat)(A R:ah)(n:aD)(s:am)(t:av):Prop:=StateM w ac ad A R n s t/\t.bO=s.cells/\m9 t/\aY n.k n.co s/\kM n
theorem bd.W{A R:ah}{n:aD}{s:am}{t:av}(h:bd w ac ad A R n s t)(a:Ext w I):bd I ac ad A R n s t:=⟨h.1.W a,h.2⟩
theorem StateM.parts{A R:ah}{n:aD}{s:am}{t:av}(h:StateM w ac ad A R n s t):∃a e f j aU p L q,ag w ac bX [Γ a,Γ ad,e,f,j]/\gw w a n/\dF w ad q t/\ao .i64 ae w aU e (iZ s)/\bj oW 3 dq w p f L/\l5 R w L s:=by
 obtain⟨a,e,f,j,_,aU,p,ge,L,E,q,w0,r,⟨x,y,G⟩,⟨z,H,I,J⟩,B,⟨C,F⟩,K,M⟩:=h;exact⟨a,e,f,j,aU,p,L,q,r,x.W y,z,B,C,F⟩
theorem rL{s:am}{i:Nat}(h:i<s.d6.length):(iZ s)[i]?=σ (gN s i:Int):=by
 unfold iZ;rw[x8,List.getElem?_range h];rfl
theorem qi{s:am}{t:av}(a:t.bO=s.cells)(U:m9 t):s.cells.length<=100000000:=by
 rw[<-a];unfold av.bO;rw[o4];exact U.1
theorem tm{s:am}{i:Nat}{x:bs}(h:s.d6[i]?=σ x):gN s i+x.un.length+2<=s.cells.length:=by
 have h1:=rD h (j:=x.un.length+1) Ω;have a:(iD x)[x.un.length+1]? ≠ν:=by
  rw[Ne,List.getElem?_eq_none_iff];show¬(x.un.length+1+1<=x.un.length+1);omega
 rw[<-h1]at a;have:=(x4.1 (Option.ne_none_iff_exists'.1 a).choose_spec).1;omega
theorem zl{s:am}{f:bH}(h:s.d7[j]?=σ f):e6 s j+f.cs.length+1<=s.cells.length:=by
 have h1:=yY h (j:=f.cs.length) Ω;have a:(fT f)[f.cs.length]? ≠ν:=by
  rw[Ne,List.getElem?_eq_none_iff];show¬(f.cs.length+1<=f.cs.length);omega
 rw[<-h1]at a;have:=(x4.1 (Option.ne_none_iff_exists'.1 a).choose_spec).1;omega
section
variable{w:x3}{ac ad:Nat}{A R:ah}{n:aD}{s:am}{t:av}
theorem FZ(h:bd w ac ad A R n s t):aj x7 J5 [Γ ac] w λv I=>(∃a,v=Γ a/\gw I a n)/\Ext w I:=by
 obtain⟨a,j,q,r,aU,x,L,y,e,f,z,B,C,E⟩:=h.1.parts;refine az func155 ?_;rw[cW dB.u];simp only[j0,aX];rw[aK bX.p 0 e rfl];exact⟨⟨a,rfl,f⟩,Ext.refl _⟩
theorem vT(h:bd w ac ad A R n s t):aj x7 Jb [Γ ac] w λv I=>v=Δ (n.co.length:Int)/\Ext w I:=by
 refine az func77 ?_;refine(FZ h).X ?_;rintro _ J _ ⟨⟨j,rfl,a⟩,e⟩;refine(y0 a).X ?_;rintro _ V _ ⟨rfl,f⟩;exact⟨rfl,e.F f⟩
theorem nh(h:bd w ac ad A R n s t):aj x7 JA [Γ ac] w λv I=>v=Δ n.k/\Ext w I:=by
 refine az func110 ?_;refine(FZ h).X ?_;rintro _ J _ ⟨⟨j,rfl,a⟩,e⟩;refine(Qx a).X ?_;rintro _ V _ ⟨rfl,f⟩;exact⟨rfl,e.F f⟩
theorem tn{i:Int}(h:bd w ac ad A R n s t):aj x7 Jx [Γ ac,Δ i] w λv I=>v= .bool (decide (0<=i/\i<n.co.length))/\Ext w I:=by
 refine az func105 ?_;refine aV (λv J=>v= .bool (decide (0<=i/\i<n.co.length))/\Ext w J) (λ_ _ h=>h) λay a=>?_;rw[cI,ai];refine⟨λe=>?_,λe=>a _ _ ⟨by rw[ms Ω],Ext.refl _⟩⟩;refine(vT h).X ?_;rintro _ J _ ⟨rfl,f⟩;rw[aP];refine a _ _ ⟨?_,f⟩;congr 1;exact decide_eq_decide.2 ⟨λh=>⟨e,h⟩,λh=>h.2⟩
theorem tp(h:bd w ac ad A R n s t):aj x7 IN [Γ ac] w λv I=>v=Δ s.zero/\Ext w I:=by
 obtain⟨j,q,r,x,aU,y,L,z,a,B,e,C,E,G⟩:=h.1.parts;refine az func17 ?_;rw[cW dB.u];simp only[j0,aX];rw[aK bX.p 1 a rfl];refine(oV e rfl (show t.bO[0]?=σ s.zero by rw[h.2.1];exact Qs s)).X ?_;rintro _ J _ ⟨rfl,f⟩;exact⟨rfl,f⟩
theorem tq(h:bd w ac ad A R n s t):aj x7 Jy [Γ ac] w λv I=>v=Δ (s.d7.length:Int)/\Ext w I:=by
 obtain⟨j,q,r,x,aU,y,L,z,a,B,C,E,e,f⟩:=h.1.parts;refine az func106 ?_;rw[cW dB.u];simp only[j0,aX];rw[aK bX.p 3 a rfl,e3 fe.u e];exact⟨by rw[f.1],Ext.refl _⟩
def cf(s:am)(i:Nat):Bool:=match s.d6[i]? with
 |some x=>decide (x.gone≠0)
 |none=>rs
theorem rM{i:Int}(h:bd w ac ad A R n s t):aj x7 IT [Γ ac,Δ i] w λv I=>v= .bool (decide (0<=i)&&cf s i.toNat)/\Ext w I:=by
 refine az func31 ?_;refine aV (λv J=>v= .bool (decide (0<=i)&&cf s i.toNat)/\Ext w J) (λ_ _ h=>h) λay e=>?_;intro V f _ _;refine(tn (h.W f)).X ?_;rintro _ K _ ⟨rfl,r⟩;have a:=f.F r;have M:=h.2.2.2.1.d6;rw[ai];refine⟨λz=>?_,λN=>e _ _ ⟨?_,a⟩⟩
 .obtain⟨O,P,Q,S,aU,U,L,W,j,X,B,C,Y,Z⟩:=(h.W a).1.parts;obtain⟨x,q⟩:=aF (l:=s.d6) (i:=i.toNat) Ω;rw[aK bX.p 1 j rfl,aK bX.p 2 j rfl,fm (y:=i) (i:=i.toNat) Ω al.u ae.i Ψ C.ls (rL Ω)];have E:t.bO[gN s i.toNat+0]?=σ x.gone:=by rw[h.2.1,rD q Ω];rfl
  refine(oV B rfl E).X ?_;rintro _ aa _ ⟨rfl,G⟩;rw[bJ];refine e _ _ ⟨?_,a.F G⟩;rw[m7 z.1,V8];unfold cf;rw[q]
 .by_cases H:0<=i
  .unfold cf;rw[Z9 Ω,Bool.and_false]
  .rw[ms H];rfl
def e8(n:aD)(i v:Int):Prop:=0<=i/\i<n.co.length/\0<=v/\v<n.co.getD i.toNat 0
instance (n:aD) (i v:Int):Decidable (e8 n i v):=inferInstanceAs (Decidable (_/\_))
theorem e8.var{i v:Int}(h:e8 n i v)(a:aY n.k n.co s):∃x,s.d6[i.toNat]?=σ x/\v.toNat<x.un.length/\x.un.length<=32/\n.co.getD i.toNat 0=x.un.length:=by
 obtain⟨h1,p,q,j⟩:=h;have r:=a.d6;obtain⟨x,f⟩:=aF (l:=s.d6) (i:=i.toNat) Ω;obtain⟨z,e⟩:=aF (l:=n.co) (i:=i.toNat) Ω;have w:=a.c5.2.2 z (x5 e);have y:=(a.var i.toNat x z f e).1;rw[u5,e,Option.getD_some]at j ⊢;exact⟨x,f,Ω,Ω,Ω⟩
theorem zm{i v:Int}(h:bd w ac ad A R n s t):aj x7 JD [Γ ac,Δ i,Δ v] w λr I=>r=Δ (if e8 n i v then((gN s i.toNat+2+v.toNat:Nat):Int)else-1)/\Ext w I:=by
 have ab:=h.2.2.2.1.d6;refine az func116 ?_;refine aV (λr J=>r= .bool (decide (¬e8 n i v))/\Ext w J) ?_ ?_
 .rintro _ J ⟨rfl,q⟩;rw[ai];refine⟨λG=>⟨by rw[m5 G],q⟩,λf=>?_⟩;have f:=Z6.1 f;obtain⟨x,H,af,ag,_⟩:=f.var h.2.2.2.1;obtain⟨K,M,N,O,aU,P,L,Q,a,B,S,C,U,W⟩:=(h.W q).1.parts;have E:=tm H;have ah:=qi h.2.1 h.2.2.1;obtain⟨h1,ak,am,an⟩:=id f;rw[aK bX.p 2 a rfl,fm (y:=i) (i:=i.toNat) Ω al.u ae.i Ψ C.ls (rL Ω),aM,lm Ω Ω,aM,lm Ω Ω,m3 f];refine⟨?_,q⟩;congr 1;omega
 .intro ay z;refine(tn h).X ?_;rintro _ V _ ⟨rfl,j⟩;rw[bA,bU];refine⟨λa=>?_,λa=>?_⟩
  .have a:¬(0<=i/\i<n.co.length):=λX=>by rw[m7 X]at a;cases a
   exact z _ _ ⟨by rw[m7];exact λe=>a ⟨e.1,e.2.1⟩,j⟩
  have a:0<=i/\i<n.co.length:=by simpa using a
  rw[aP,ai];refine⟨λY=>z _ _ ⟨by rw[m7];exact λe=>by have:=e.2.2.1;omega,j⟩,λY=>?_⟩;obtain⟨K,M,N,O,aU,P,L,Q,Z,B,S,C,U,W⟩:=(h.W j).1.parts;rw[aK bX.p 0 Z rfl];refine(vM B h.2.2.2.2).X ?_;rintro _ ao _ ⟨aa,rfl⟩;rw[m3 a.1,cI];refine z _ _ ⟨?_,j.F aa⟩;congr 1;refine decide_eq_decide.2 ⟨λh e=>?_,λh=>?_⟩
  .have:=e.2.2.2;omega
  .refine Int.not_lt.1 λE=>h ⟨a.1,a.2,Ω,E⟩
def gB(s:am)(i v:Nat):Int:=match s.d6[i]? with
 |some x=>x.un.getD v 0
 |none=>0
theorem ni{i v:Int}(h:bd w ac ad A R n s t):aj x7 IX [Γ ac,Δ i,Δ v] w λr I=>r=(if e8 n i v then .tuple #[Δ (gB s i.toNat v.toNat),Δ 0]else .tuple #[Δ 0,Δ 1])/\Ext w I:=by
 refine az func46 ?_;rw[cW dB.u];simp only[j0,aX];refine(zm h).X ?_;rintro _ J _ ⟨rfl,e⟩;by_cases a:e8 n i v
 .rw[m3 a,m3 a];refine ci Ω ?_;obtain⟨x,f,j,C,_⟩:=a.var h.2.2.2.1;obtain⟨E,G,H,K,aU,M,L,N,q,O,y,P,Q,S⟩:=(h.W e).1.parts;rw[aK bX.p 1 q rfl];have z:t.bO[gN s i.toNat+2+v.toNat]?=σ (x.un.getD v.toNat 0):=by
   rw[h.2.1,Nat.add_assoc,rD f Ω,show 2+v.toNat=v.toNat+1+1 by omega];show x.un[v.toNat]?=_;rw[u5,x6 j];rfl
  refine(oV y rfl z).X ?_;rintro _ V _ ⟨rfl,B⟩;refine⟨?_,e.F B⟩;unfold gB;rw[f]
 .rw[m5 a,m5 a,aP,ai];exact⟨λ_=>⟨rfl,e⟩,λh=>Ω⟩
def eL(s:am)(j:Nat):Bool:=match s.d7[j]? with
 |some f=>decide (f.live≠0)
 |none=>rs
theorem rN{j:Int}(h:bd w ac ad A R n s t):aj x7 Js [Γ ac,Δ j] w λv I=>v= .bool (decide (0<=j)&&eL s j.toNat)/\Ext w I:=by
 refine az func100 ?_;refine aV (λv J=>v= .bool (decide (0<=j)&&eL s j.toNat)/\Ext w J) (λ_ _ h=>h) λay a=>?_;intro V e _ _;rw[cI,ai];refine⟨λq=>?_,λq=>a _ _ ⟨by rw[ms q];rfl,e⟩⟩;refine(tq (h.W e)).X ?_;rintro _ O _ ⟨rfl,G⟩;have r:=e.F G;rw[aP,ai];refine⟨λP=>?_,λQ=>a _ _ ⟨?_,r⟩⟩
 .obtain⟨S,U,W,X,aU,Y,L,Z,B,aa,H,ab,C,x⟩:=(h.W r).1.parts;obtain⟨f,z⟩:=aF (l:=s.d7) (i:=j.toNat) Ω;obtain⟨y,E⟩:∃y,L[j.toNat]?=σ y:=⟨_,x6 (by rw[x.1];omega)⟩;obtain⟨_,_,K⟩:=x.2 j.toNat y f E z;rw[aK bX.p 1 B rfl,aK bX.p 3 B rfl,dm (i:=j.toNat) Ω fe.u dq.i C (by rw[x.1];omega),aT dq.p rfl,ax Ψ (C.range E 2 _ rfl)];have M:t.bO[e6 s j.toNat+0]?=σ f.live:=by rw[h.2.1,yY z Ω];rfl
  refine(oV (i:=e6 s j.toNat) H (by rw[K]) M).X ?_;rintro _ ae _ ⟨rfl,N⟩;rw[bJ];refine a _ _ ⟨?_,r.F N⟩;rw[m7 q,V8];unfold eL;rw[z]
 .unfold eL;rw[Z9 Ω,Bool.and_false]
end
def vU(s:am)(n:aD)(i:Int)(b m:Nat):Prop:=mR b m/\(¬(0<=i/\i<n.co.length)->b=0/\m=0)/\∀x,0<=i->s.d6[i.toNat]?=σ x->m=x.un.length/\∀j:Nat,b.testBit j=(decide (j<x.un.length)&& !dropped x.mask (j:Int))
section
variable{w:x3}{ac ad:Nat}{A R:ah}{n:aD}{s:am}{t:av}
theorem lB{i:Int}(h:bd w ac ad A R n s t):aj x7 Jd [Γ ac,Δ i] w λv I=>(∃b m,v=ka b m/\vU s n i b m)/\Ext w I:=by
 have bf:=h.2.2.2.1.d6;refine az func80 ?_;refine bx b3.i λr J bg af N=>?_;have N:=N;refine(tn (h.W af)).X ?_;rintro _ V _ ⟨rfl,ah⟩;have O:=N.W ah;have P:=af.F ah;rw[bA,bU];refine⟨λC=>?_,λC=>?_⟩
 .have C:¬(0<=i/\i<n.co.length):=by grind
  rw[dw (cs:=#[.int .u64 0,Δ 0]) Ψ];refine cb (vs:=[.int .u64 0,Δ 0]) b3.i rfl rfl (by intro u a;simp at a;rcases a with rfl|rfl<;>rfl) O λbi aB bj aC=>?_;rw[fD b3.p b3.i rfl aC.range];refine⟨⟨0,0,rfl,⟨Ω,Ξ⟩,Ω,λx aD bk=>?_⟩,P.put aB Ω⟩
  grind
 have C:0<=i/\i<n.co.length:=by grind
 obtain⟨x,Q⟩:=aF (l:=s.d6) (i:=i.toNat) Ω;obtain⟨z,S⟩:=aF (l:=n.co) (i:=i.toNat) Ω;have aE:=h.2.2.2.1.c5.2.2 z (x5 S);obtain⟨bl,_,bm,bn⟩:=h.2.2.2.1.var i.toNat x z Q S;obtain⟨aG,aH,aI,aJ,aU,aL,L,aN,E,ak,_⟩:=(h.W P).1.parts;rw[aK bX.p 0 E rfl];refine(vM ak h.2.2.2.2).X ?_;rintro _ bq _ ⟨U,rfl⟩;rw[m3 C.1,u5,S,Option.getD_some];refine MO.X ?_;rintro _ br _ ⟨W,rfl⟩;rw[m3 aE];obtain⟨m,rfl⟩:∃m:Nat,z=m:=⟨z.toNat,Ω⟩;rw[bo,bp,u9];have am:=(P.F U).F W;refine bx b3.i λe bs bt an aO=>?_;refine cb (vs:=[.int .u64 ((2 ^ m-1:Nat):Int),Δ (m:Int)]) b3.i rfl rfl (by intro u a;simp at a;rcases a with rfl|rfl<;>rfl) aO λaP ao bu aQ=>?_;have z5:=am.size;have ap:=(am.F an).put ao Ω;have bw:=(((O.W U).W W)).lt;have aR:ag aP r b3 [.int .u64 0,Δ 0]:=(((O.W U).W W).W an).aa ao Ω;intro bz X _ _;have aq:=ap.F X;obtain⟨aG,aH,aI,aJ,aU,aL,L,aN,E,ak,aS,aT,_⟩:=(h.W aq).1.parts;have bD:=tm Q;have bE:=qi h.2.1 h.2.2.1;rw[aK bX.p 1 E rfl,aK bX.p 2 E rfl,fm (y:=i) (i:=i.toNat) Ω al.u ae.i Ψ aT.ls (rL Ω),aM,lm Ω Ω];have aV:t.bO[gN s i.toNat+1]?=σ x.mask:=by rw[h.2.1,rD Q Ω];rfl
 refine(oV aS Ω aV).X ?_;rintro _ aW _ ⟨rfl,Y⟩;have au:=(aQ.W X).W Y;have aX:=(aR.W X).W Y;obtain⟨mk,aY⟩:∃mk:Nat,x.mask=mk:=⟨x.mask.toNat,Ω⟩;rw[bB b3.p b3.i rfl (show aW.rangeAt e 0 [.int .u64 ((2 ^ m-1:Nat):Int),Δ (m:Int)]from au.range)];refine(uW).X ?_;rintro _ bF _ ⟨rfl,Z⟩;have aZ:=aq.F Y;have a1:r≠e:=Ω
 have bG:=ap.size;have bH:w.heap.size<=e:=Ω
 have bI:w.heap.size<=r:=Ω
 refine cm.range m (λq f=>Ext w f/\ag f r b3 [.int .u64 0,Δ 0]/\∃b:Nat,ag f e b3 [.int .u64 (b:Int),Δ (m:Int)]/\mR b m/\∀j:Nat,b.testBit j=(decide (j<m)&& !(decide (j<q)&&mk.testBit j))) Ω
  ⟨aZ.F Z,aX.W Z,_,au.W Z,⟨Ω,by have:=Nat.two_pow_pos m;omega⟩,by grind⟩ ?_ ?_
 .rintro q f a2 bJ ⟨G,H,b,B,K,av⟩ bK;refine bC Ω ?_;refine dk (λM=>Ext w M/\ag M r b3 [.int .u64 0,Δ 0]/\∃b:Nat,ag M e b3 [.int .u64 (b:Int),Δ (m:Int)]/\mR b m/\∀j:Nat,b.testBit j=(decide (j<m)&& !(decide (j<q+1)&&mk.testBit j))) ?_ ?_
  .rintro M bL;rw[aM]
   grind
  intro ay aw;have a6:mk / 2 ^ q<2 ^ 62:=Nat.lt_of_le_of_lt (Nat.div_le_self _ _) Ω;rw[aY,D4 Ω,show(1:Int)=((1:Nat):Int)from rfl,FX a6 Ω,bh,ai];have a7:(((mk / 2 ^ q &&& 1:Nat):Int)=((1:Nat):Int))↔mk.testBit q=ro:=by grind
  refine⟨λax=>?_,λa8=>?_⟩
  .have ax:=a7.1 ax;rw[bB b3.p b3.i rfl (show f.rangeAt e 0 [.int .u64 (b:Int),Δ (m:Int)]from B.range)];refine(MQ K).X ?_;rintro _ bM _ ⟨rfl,ab⟩;rw[m3 ⟨Ω,Ω⟩,u9];refine cb (vs:=[.int .u64 ((ll b (2 ^ q):Nat):Int),Δ (m:Int)]) b3.i rfl rfl (by intro u a;simp at a;rcases a with rfl|rfl<;>rfl) (B.W ab) λbN aA bP ba=>?_;have bb:∀j:Nat,(ll b (2 ^ q)).testBit j=(decide (j<m)&& !(decide (j<q+1)&&mk.testBit j)):=λj=>by
    rw[CZ,av,Nat.testBit_two_pow]
    grind
   refine aw _ ⟨(G.F ab).then aA Ω,(H.W ab).aa aA λhe=>a1 he,_,ba,⟨Ω,MG (by grind)⟩,bb⟩
  .have a8:mk.testBit q=rs:=by grind
   refine aw _ ⟨G,H,b,B,K,λj=>?_⟩
   grind
 .rintro f a2 ⟨G,H,b,B,K,av⟩;refine ci Ω ?_;rw[bB b3.p b3.i rfl (show f.rangeAt e 0 [.int .u64 (b:Int),Δ (m:Int)]from B.range)];refine cb (vs:=[.int .u64 (b:Int),Δ (m:Int)]) b3.i rfl rfl (by intro u a;simp at a;rcases a with rfl|rfl<;>rfl) H λbQ bc bR be=>?_;rw[fD b3.p b3.i rfl be.range];refine⟨⟨b,m,rfl,K,Ω,λy aD bS=>?_⟩,G.put bc Ω⟩
  grind [Rr]
theorem F0{f:bH}(e:aY k co s)(j:f∈s.d7):bS f.szs/\f.cs.length=(aA f.szs).toNat/\aA f.szs<=4096:=by
 obtain⟨a,U,_⟩:=e.d7 f j;rw[U];refine⟨⟨?_,kd e.c5.2.2 λv h=>⟨(a.scope.1 v h).1,a.d6 v h⟩⟩,a.len,a.small⟩;have:=a.scope.2
 grind [aB]
def jO(s:am)(j:Nat)(tl:Λ):Option Nat:=match s.d7[j]? with
 |some f=>if f.live≠0 then(ct f.szs tl 0).map λm=>e6 s j+1+m.toNat else ν
 |none=>ν
def o2(s:am)(j:Nat)(tl:Λ):Int:=match s.d7[j]? with
 |some f=>bg f.szs f.cs tl
 |none=>0
theorem F3(h:bd w ac ad A R n s t)(N:aI .i64 w aN tl):aj x7 Kz [Γ ac,Δ (j:Int),aN] w λv I=>v=Δ (match jO s j tl with|some p=>(p:Int)|none=>-1)/\Ext w I:=by
 refine az func201 ?_;refine(rN h).X ?_;rintro _ J _ ⟨rfl,z⟩;rw[m7 Ω,V8,u9,bA,bU];refine⟨λG=>⟨?_,z⟩,λG=>?_⟩
 .grind [eL,jO]
 have G:eL s j=ro:=by grind
 obtain⟨f,e,O⟩:∃f,s.d7[j]?=σ f/\f.live≠0:=by
  grind [eL]
 obtain⟨H,ag,ah⟩:=F0 h.2.2.2.1 (x5 e);obtain⟨P,Q,S,U,aU,K,L,W,B,X,Y,Z,r,x⟩:=(h.W z).1.parts;obtain⟨y,a⟩:∃y,L[j]?=σ y:=⟨_,x6 (by rw[x.1];grind)⟩;have C:=(x4.1 a).1;obtain⟨_,aa,M⟩:=x.2 j y f a e;have ab:J.rangeAt K (j*3+1) [y.d9]:=λq v E=>by
  match q,E with
  |0,E=>cases E;exact r.range a 1 _ rfl
 rw[aK bX.p 3 B rfl,dm rfl fe.u dq.i r C,aT dq.p rfl,bB (cs:=[y.d9]) bn.p bn.i rfl ab];refine(Cp aa.ls (N.W z) H).X ?_;rintro _ V _ ⟨rfl,ae⟩;have af:=z.F ae;unfold mM jO;rw[e];simp only[m3 O];cases hi:ct f.szs tl 0 with
 |none=>
  simp only[Option.map_none];rw[bo,bp,bJ,ai];exact⟨by grind,λh=>m6 Ω h⟩
 |some m=>
  simp only[Z4];rw[bo,bp,bJ,ai];refine⟨Ω,λ_=>?_⟩;have ak:=mL H.2 hi;have al:=zl e;have am:=qi h.2.1 h.2.2.1;obtain⟨P,Q,S,U,aU,K,L,W,B,X,Y,Z,r,x⟩:=(h.W af).1.parts;obtain⟨y,a⟩:∃y,L[j]?=σ y:=⟨_,x6 (by rw[x.1];grind)⟩;have C:=(x4.1 a).1;obtain⟨_,_,M⟩:=x.2 j y f a e;rw[aK bX.p 3 B rfl,dm rfl fe.u dq.i r C,aT dq.p rfl,ax Ψ (r.range a 2 _ rfl),M,aM,lm Ω Ω,aM,lm Ω Ω]
  grind
theorem F4{p:Nat}(e:aY k co s)(h:jO s j tl=σ p):s.cells[p]?=σ (o2 s j tl)/\∃f,s.d7[j]?=σ f/\f.live≠0/\∃m:Nat,ct f.szs tl 0=σ (m:Int)/\m<f.cs.length/\p=e6 s j+(m+1):=by
 unfold jO at h;cases a:s.d7[j]? with
 |none=>grind
 |some f=>
  rw[a]at h;simp only at h;split at h
  .rename_i r;obtain⟨m,hm,rfl⟩:=Y0.1 h;obtain⟨w,x,y⟩:=F0 e (x5 a);have z:=mL w.2 hm;obtain⟨q,rfl⟩:∃q:Nat,m=q:=⟨m.toNat,Ω⟩;refine⟨?_,f,rfl,r,q,hm,Ω,Ω⟩;rw[show e6 s j+1+(q:Int).toNat=e6 s j+(q+1) by omega,yY a Ω];unfold o2 bg;rw[a];simp only[hm];show f.cs[q]?=_
   grind
  .cases h
theorem tr(h:bd w ac ad A R n s t)(e:aI .i64 w aN tl):aj x7 Ju [Γ ac,Δ (j:Int),aN] w λv I=>v=(if(jO s j tl).isSome then .tuple #[Δ (o2 s j tl),Δ 0]else .tuple #[Δ 0,Δ 1])/\Ext w I:=by
 refine az func102 ?_;rw[cW dB.u];simp only[j0,aX];refine(F3 h e).X ?_;rintro _ J _ ⟨rfl,a⟩;cases f:jO s j tl with
 |none=>
  simp only;rw[aP,ai];exact⟨by grind,λh=>Ω⟩
 |some p=>
  simp only;refine ci Ω ?_;obtain⟨y,z,B,C,aU,E,L,G,q,H,r,K,M,N⟩:=(h.W a).1.parts;rw[aK bX.p 1 q rfl];refine(oV r rfl (by rw[h.2.1];exact(F4 h.2.2.2.1 f).1)).X ?_;rintro _ V _ ⟨rfl,x⟩;exact⟨rfl,a.F x⟩
end
theorem eS.parts{a:Nat}{e f q:x1}{A R:ah}{n:aD}{s:am}{t:av}(h:eS w ac ad a e f q A R n s t):∃aU j L p,ag w ac bX [Γ a,Γ ad,e,f,q]/\gw w a n/\dF w ad p t/\ao .i64 ae w aU e (iZ s)/\bj oW 3 dq w j f L/\l5 R w L s:=by
 obtain⟨_,aU,j,ge,L,E,p,w0,r,⟨x,y,G⟩,⟨z,H,I,J⟩,B,⟨C,F⟩,K,M⟩:=h;exact⟨aU,j,L,p,r,x.W y,z,B,C,F⟩
theorem F5{a b:Int}(e:0<=a/\a<=k)(f:0<=b/\b<=k)(hk:1<=k/\k<=2147483648):aj x7 BI [Δ a,Δ b,Δ k] w λv I=>v= .tuple #[Δ (min (a+b) k),Δ 0]/\Ext w I:=by
 refine DA.X ?_;rintro _ J _ ⟨rfl,h⟩;refine⟨?_,h⟩;unfold sL;rw[m3 ⟨⟨hk,e.1,e.2⟩,hk,f.1,f.2⟩]
def Room(t:av):Prop:=t.marks=[]\/t.olds.length<100000000
def eD(s:am)(i v:Nat):am:=match s.d6[i]? with
 |some x=>{s with d6:=s.d6.set i {x with mask:=((x.mask.toNat ||| 2 ^ v:Nat):Int)}}
 |none=>s
def kQ(s:am)(j:Nat):am:=match s.d7[j]? with
 |some f=>{s with d7:=s.d7.set j {f with live:=0}}
 |none=>s
theorem aY.ts{s:am}{i:Nat}{x y:bs}(h:aY k co s)(e:s.d6[i]?=σ x)(r:y.un.length=x.un.length)(w:∀c∈y.un,0<=c/\c<=k)(hm:0<=y.mask/\y.mask<4294967296):aY k co {s with d6:=s.d6.set i y}:=
 ⟨h.dH,h.c5,h.zero,by grind [aY.d6],λp z q a f=>by
  have a:(s.d6.set i y)[p]?=σ z:=a;rw[Y4]at a;by_cases j:i=p
  .subst j;rw[m3 rfl,m3 (x4.1 e).1]at a;cases a;exact⟨r.F (h.var i x q e f).1,w,hm⟩
  .rw[m5 j]at a;exact h.var p z q a f,h.d7⟩
theorem aY.zn{s:am}{f g:bH}(h:aY k co s)(e:s.d7[j]?=σ f)(h1:g.sc=f.sc)(q:g.szs=f.szs)(r:g.cs.length=f.cs.length)(p:∀c∈g.cs,0<=c/\c<=k):aY k co {s with d7:=s.d7.set j g}:=
 ⟨h.dH,h.c5,h.zero,h.d6,h.var,λx a=>by
  rcases T8 a with a|rfl
  .exact h.d7 x a
  .obtain⟨⟨w,y,z,A,B,C⟩,E,F⟩:=h.d7 f (x5 e);refine⟨⟨?_,?_,?_,?_,?_,p⟩,?_,?_⟩
   .grind
   all_goals grind⟩
theorem zo{r:Nat}{c:List x1}(a:ag w r e c)(he:¬(e=fC\/e=eH\/e=lf\/e=fQ\/e=bX\/e=dq\/e=ca)):¬du w r:=by
 rintro (⟨h,j,p,q⟩|f)
 .grind [eI]
 .exact f _ a rfl
theorem ob{k:o5}{g:Nat}(h:ao k e w g v l)(a:af (du w) w I)(he:¬(e=fC\/e=eH\/e=lf\/e=fQ\/e=bX\/e=dq\/e=ca)):ao k e I g v l:=bk h a λr f=>by
 obtain⟨c,j⟩:=rK h r f
 grind [zo]
section
variable{w:x3}{ac ad:Nat}{A R:ah}{n:aD}{s:am}{t:av}
theorem m9.set(h:m9 t)(a:Room t)(p:Nat)(x:Int):m9 (t.set p x):=by
 refine⟨by rw[av.Fo];exact h.1,?_,by rw[av.y3];exact h.2.2⟩;rcases a with a|a
 .rw[av.y5 a];exact h.2.1
 grind [av.y4]
theorem vV{s':am}{p:Nat}{x:Int}(h:bd w ac ad A R n s t)(f:y=(p:Int))(S:p<s.cells.length)(j:s.cells.set p x=s'.cells)(U:n8 s s')(q:aY n.k n.co s')(z:Room t):
  aj x7 BD [Γ ad,Δ y,Δ x] w λr I=>r=Δ 0/\af (du w) w I/\∃aH,Grow A w aH I/\bd I ac ad aH R n s' (t.set p x):=by
 obtain⟨B,C,e,_,E⟩:=id h;obtain⟨G,H,K⟩:=B.th;have L:p<t.cells.length:=by grind [av.bO]
 refine(tf H.min f L e).X ?_;rintro _ J _ ⟨rfl,M,a,N⟩;obtain⟨aH,O,P⟩:=K (λr=>G r\/M r) J _ ⟨a.1.X λr _ h=>h.1,λr Q=>Q.elim .inl λh=>(a.2.1 r h).imp (λh=>h.1) id,by grind⟩ (N.X (by grind));exact⟨rfl,a.1.X λr _ h=>.inl h.2,aH,O,P.same U,by rw[av.q6,C,j],e.set z p x,q,E⟩
theorem zp{i v:Int}(h:bd w ac ad A R n s t)(K:Room t):aj x7 Kc [Γ ac,Δ i,Δ v] w λr I=>(¬e8 n i v->r=Δ 1/\Ext w I)/\
  (e8 n i v->r=Δ 0/\af (du w) w I/\∃aH x,Grow A w aH I/\bd I ac ad aH R n (eD s i.toNat v.toNat) (t.set (gN s i.toNat+1) x)):=by
 refine az func165 ?_;rw[cW dB.u];simp only[j0,aX];refine(zm h).X ?_;rintro _ J _ ⟨rfl,B⟩;by_cases e:e8 n i v
 rotate_left
 .rw[m5 e,aP,ai];exact⟨by grind,λh=>Ω⟩
 rw[m3 e];refine ci Ω ?_;obtain⟨x,a,M,ag,ah⟩:=e.var h.2.2.2.1;obtain⟨h1,ak,am,an⟩:=id e;have ao:=h.2.2.2.1.d6;obtain⟨z,N⟩:=aF (l:=n.co) (i:=i.toNat) Ω;obtain⟨_,O,ap,aq⟩:=h.2.2.2.1.var i.toNat x z a N;have au:=tm a;have av:=qi h.2.1 h.2.2.1;obtain⟨aw,ax,ay,aA,P⟩:=(h.W B).1;obtain⟨aU,aB,L,aC,C,aD,Q,S,aE,aG⟩:=P.parts;rw[aK bX.p 2 C rfl,fm (y:=i) (i:=i.toNat) Ω al.u ae.i Ψ S.ls (rL Ω),aM,lm Ω Ω];intro V f _ _;have U:=B.F f;have E:=C.W f;have W:=Q.W f;obtain⟨q,rfl⟩:∃q:Nat,v=q:=⟨v.toNat,Ω⟩;obtain⟨mk,X⟩:∃mk:Nat,x.mask=mk:=⟨x.mask.toNat,Ω⟩;rw[u9]at M;rw[aK bX.p 1 E rfl,aK bX.p 1 E rfl,Rp Ω];have Y:t.bO[gN s i.toNat+1]?=σ x.mask:=by rw[h.2.1,rD a Ω];rfl
 refine(oV (i:=gN s i.toNat+1) W Ω Y).X ?_;rintro _ aI _ ⟨rfl,G⟩;refine⟨.inl G,?_⟩;have aJ:(2:Nat) ^ q<=2 ^ 31:=T6 Ω Ω;rw[X,Ro Ω Ω];have j:=U.F G;have aL:mk ||| 2 ^ q<2 ^ 32:=Nat.or_lt_two_pow Ω Ω;have H:eD s i.toNat (q:Int).toNat={s with d6:=s.d6.set i.toNat {x with mask:=((mk ||| 2 ^ q:Nat):Int)}}:=by
  grind [eD,u9]
 refine(vV (p:=gN s i.toNat+1) (s':=eD s i.toNat (q:Int).toNat) (h.W j) Ω Ω ?_ ?_ ?_ K).X ?_
 .rw[H,yZ a Ω];rfl
 .grind [ti]
 .rw[H];exact h.2.2.2.1.ts a rfl O (by grind)
 rintro _ aN _ ⟨rfl,Z,aH,aa,ab⟩;exact⟨by grind,λ_=>⟨rfl,gA j Z,aH,_,(Grow.W j).F aa,ab⟩⟩
theorem Rs{j:Int}(h:bd w ac ad A R n s t)(K:Room t):aj x7 Jm [Γ ac,Δ j] w λr I=>(¬(0<=j/\eL s j.toNat=ro)->r=Δ 1/\Ext w I)/\
  ((0<=j/\eL s j.toNat=ro)->r=Δ 0/\af (du w) w I/\∃aH p,Grow A w aH I/\bd I ac ad aH R n (kQ s j.toNat) (t.set p 0)):=by
 refine az func94 ?_;rw[cW dB.u];simp only[j0,aX];refine(rN h).X ?_;rintro _ J _ ⟨rfl,C⟩;rw[bA,bU];refine⟨λe=>⟨λ_=>⟨by trivial,C⟩,λan=>?_⟩,λe=>?_⟩
 .rw[m7 an.1,an.2]at e;cases e
 have e:0<=j/\eL s j.toNat=ro:=by simpa using e
 obtain⟨X,q⟩:=id e;obtain⟨f,a,Y⟩:∃f,s.d7[j.toNat]?=σ f/\f.live≠0:=by
  unfold eL at q;cases a:s.d7[j.toNat]? with
  |none=>rw[a]at q;cases q
  |some f=>rw[a]at q;exact⟨f,rfl,by simpa using q⟩
 intro V M _ _;have x:=C.F M;obtain⟨Z,aa,ab,ae,N⟩:=(h.W x).1;obtain⟨aU,ag,L,ah,E,ai,ak,al,G,H⟩:=N.parts;obtain⟨y,z⟩:∃y,L[j.toNat]?=σ y:=⟨_,x6 (by rw[H.1];exact(x4.1 a).1)⟩;have O:=(x4.1 z).1;obtain⟨_,_,P⟩:=H.2 j.toNat y f z a;have am:=zl a;rw[aK bX.p 1 E rfl,aK bX.p 3 E rfl,dm (i:=j.toNat) Ω fe.u dq.i G O,aT dq.p rfl,ax (v:=Δ (y.at_:Int)) Ψ (G.range z 2 _ rfl)];have B:kQ s j.toNat={s with d7:=s.d7.set j.toNat {f with live:=0}}:=by
  unfold kQ;rw[a]
 obtain⟨Q,_⟩:=h.2.2.2.1.d7 f (x5 a);refine(vV (p:=e6 s j.toNat+0) (s':=kQ s j.toNat) (h.W x) (by rw[P];rfl) Ω ?_ ?_ ?_ K).X ?_
 .rw[B,Fi a Ω];rfl
 .rw[B];exact y2 a rfl rfl rfl
 .rw[B];exact h.2.2.2.1.zn a rfl rfl rfl Q.gM
 rintro _ ao _ ⟨rfl,S,aH,U,W⟩;exact⟨λh=>m6 e h,λ_=>⟨rfl,gA x S,aH,_,(Grow.W x).F U,W⟩⟩
end
theorem zq{bD:x1}{v:Int}(h:aI .i64 w bD l):aj x7 IV [bD,Δ v] w λr I=>r= .bool (decide (v∈l))/\Ext w I:=by
 refine az func41 ?_;rw[aS al.u h];refine b2.range l.length (λi _ J=>Ext w J/\v∉l.take i) h.le ⟨Ext.refl _,Ξ⟩ ?_ ?_
 .rintro i _ J k hi ⟨a,e⟩ hk;obtain⟨x,f⟩:=aF (l:=l) hi;refine bC Ω ?_;rw[be al.u ae.i Ψ (h.W a) f,bh,ai];refine⟨λhe=>⟨by rw[m7];rw[<-he];exact x5 f,a⟩,λj=>?_⟩;rw[aM];refine hk _ _ ⟨a,λhm=>?_⟩;rw[u7,f,l9,o9,b8]at hm;rcases hm with hm|hm
  .exact e hm
  .exact j hm.symm
 .rintro _ J k ⟨a,e⟩;rw[o6]at e;rw[aP,ai];exact⟨λh=>Ω,λ_=>⟨by rw[ms e],a⟩⟩
theorem F6{x:bs}{v:Int}(h:0<=v/\v<x.un.length):v∈aL x↔dropped x.mask v=rs:=by
 unfold aL;rw[U8,o8];constructor
 .rintro⟨_,a⟩;simpa using a
 .intro a;exact⟨⟨v.toNat,V7.2 Ω,Ω⟩,by simp[a]⟩
def cd(s:am):Prop:=∀f∈s.d7,f.live≠0->∀v∈f.sc,∀x,s.d6[v.toNat]?=σ x->x.gone=0
theorem gw.put{g x:Nat}{c:List x1}{n:aD}(h:gw w x n)(a:ag w g a6 c)(f:af (λr=>r=g) w I):gw I x n:=by
 have p:=FW a;have y:∀r,r=g->∃e c,ag w r e c/\e≠iN/\e≠cu/\e≠ae/\e≠ap/\e≠aw:=λr j=>by
  subst j;exact⟨_,c,a,Φ,Φ,Φ,Φ,Φ⟩
 obtain⟨z,A,B,C,gr,aW,L,nm,d9,gz,fv2,h1,E,F,G,H,J,K⟩:=h;refine⟨z,A,B,C,gr,aW,L,nm,d9,gz,fv2,zj h1 f p Φ,zj E f p Φ,zi F f p Φ,G.aa f λr j=>?_,H,J.aa f λr j=>?_,K⟩
 .obtain⟨e,c,a,_,_,_,q,s⟩:=y r j;exact⟨e,c,a,q,s⟩
 .obtain⟨e,c,a,q,s,M,N,_⟩:=y r j;exact⟨e,c,a,q,s,M,N⟩
theorem StateM.put{g:Nat}{A R:ah}{n:aD}{s:am}{t:av}{c:List x1}(h:StateM w ac ad A R n s t)(y:ag w g a6 c)(p:af (λr=>r=g) w I)(S:¬A g):∃R',(∀r,R' r->R r/\r≠g)/\StateM I ac ad A R' n s t:=by
 obtain⟨V,W,X,Y,⟨h1,Z,ab,ae⟩,aU,ai,ge,L,E,aj,w0,ak,⟨K,C,al⟩,⟨an,M,ao,ap⟩,aq,⟨au,N⟩,aw,O⟩:=h;obtain⟨cD,P⟩:=E9;have z:=p.size;have q:=FW y;have B:∀r,(w0.heap.setIfInBounds g cD)[r]?=if g=r then(if g<w0.heap.size then σ cD else ν)else w0.heap[r]?:=λr=>Array.getElem?_setIfInBounds;have ax:∀r,A r->r≠g:=λr a he=>S (he▸a);have int:∀{v:x1}{l:Λ},kh R w v l->kh (λr=>R r/\r≠g) I v l:=λ⟨⟨ay,hm⟩,az⟩=>⟨⟨ay,zi hm p q Φ⟩,λr a=>⟨az r a,cj hm y Φ a⟩⟩;refine⟨λr=>R r/\r≠g,λr h=>h,V,W,X,Y,⟨h1,λr a aA=>Z r a aA.1,λr a=>by have:=ab r a.1;omega,λr a=>by have:=ae r a;omega⟩,aU,ai,ge,L,E,aj,{w0 with heap:=w0.heap.setIfInBounds g cD},zj ak p q Φ,⟨?_,?_,?_⟩,
  ⟨an.aa p λr a=>ax r (M r a),M,ao,ap⟩,zi aq p q Φ,⟨FV au p q Φ,N.1,λj x f F aB=>?_⟩,FV aw p q Φ,O.1,λj x e F he=>?_⟩
 .by_cases U:∃o,w0.heap[g]?=σ o/\fK o=ro
  .obtain⟨o,Q,aC⟩:=U;have aE:ag w0 g a6 c:=by
    unfold ag at y ⊢;have:=C.aZ g o Q aC;rw[y]at this;rw[Q,this]
   refine K.put aE ⟨Ξ,λr o a U aF=>?_⟩;show(w0.heap.setIfInBounds g cD)[r]?=σ o;rw[B,m5 λhe=>aF he.symm];exact a
  .refine K.W ⟨Ξ,λr o a aG=>?_⟩;show(w0.heap.setIfInBounds g cD)[r]?=σ o;rw[B,m5 λhe=>U ⟨o,by rw[he];exact a,aG⟩];exact a
 .refine⟨by show(w0.heap.setIfInBounds g cD).size<=_;rw[Array.size_setIfInBounds];exact Y2 C.size z,λr o a U=>?_⟩;have a:(w0.heap.setIfInBounds g cD)[r]?=σ o:=a;rw[B]at a;by_cases he:g=r
  .rw[m3 he]at a;split at a
   .cases a;rw[P]at U;cases U
   .cases a
  .rw[m5 he]at a;exact p.aZ r o (C.aZ r o a U) U λh=>he h.symm
 .intro r o a U;have a:(w0.heap.setIfInBounds g cD)[r]?=σ o:=a;rw[B]at a;by_cases he:g=r
  .rw[m3 he]at a;split at a
   .cases a;rw[P]at U;cases U
   .cases a
  .rw[m5 he]at a;exact⟨al r o a U,λh=>he h.symm⟩
 .obtain⟨G,H,J⟩:=N.2 j x f F aB;exact⟨int G,int H,J⟩
 .obtain⟨G,H,J⟩:=O.2 j x e F he;exact⟨G,int H,int J⟩
theorem Rt{f:b5}(p:a.length<=60000)(h:eC a=σ f):∃N,N<=60000/\fh N f/\f.name≠[]/\∀b∈f.name,b7 b=ro:=by
 unfold eC at h;rw[m5 Ω]at h;cases e:iR ⟨(lex a).1,0,rs,[]⟩with
 |none=>rw[e]at h;cases h
 |some q=>
  obtain⟨r,s⟩:=q;rw[e]at h;simp only at h;split at h
  .rename_i an;cases h;obtain⟨h1,j⟩:=Dv rfl e an.2.2;have w:=q5 a.length a (p9 _);obtain⟨J,V,_⟩:=uN a.length a (p9 _) f.name j;exact⟨_,by show(lex a).1.length<=60000;omega,h1,J,V⟩
  .cases h
theorem Ru:aj x7 Bs [.pointer ν] w λv I=>v= .pointer ν/\Ext w I:=by
 refine az func14 ?_;rw[cW oE.u];simp only[Option.isNone_none,bY];exact⟨by trivial,Ext.refl _⟩
theorem Rv(h:aI .u8 w v l)(B:l.length<=100000):aj x7 JB [v] w λf I=>Ext w I/\∃g,ao .u8 cM I g f l:=by
 have e:=h;obtain⟨C,b,o,base,cap,rfl,E,hm,q,s⟩:=h;refine az func114 ?_;rw[uE cS.u,bU];refine⟨λx=>⟨Ext.refl _,0,?_⟩,λ_=>?_⟩
 .have:l=[]:=by
   cases base with
   |none=>
        by_cases e:0<l.length
        .have:=q e;cases this
        .exact Z0 Ω
   |some a=>cases x
  subst this;exact ao.nil _ _ _ _
 .refine zk (k:=.u8) cS.u cM.i λG g1 J H j p=>?_;refine fU cS.u cM.i rfl p (e.W j) Θ Θ λf y V z K A=>?_;exact⟨j.then A (λr s he=>by have:=(bE p he).1;omega),y,by simpa using z⟩
def Rw(sv:x1):Prop:=∃cs:List x1,sv= .agg cs.toArray/\cs.length=8/\∀u∈cs,u.oneCell'=ro
theorem F7:Rw (.agg z12.toArray):=⟨z12,rfl,rfl,by intro u a;simp[z12]at a;rcases a with rfl|rfl|rfl|rfl<;>rfl⟩
theorem zr{f:b5}(a:fh N f):(df f).d7.length<=256:=by
 have h1:=(sZ a).2.length_eq;have h:=(mY a).2.2;have j:=List.length_filter_le gi (gj f);have p:=a.mT;have e:=(rB f (gk f).length).2.2.2;rw[vI]at e;omega
theorem Rx{n:aD}{t:av}(e:kM n)(f:n.d7.length<=256)(h:t.bO=(di n).cells)(a:Plain t):m9 t:=by
 have h1:=vR e f n.unary.length n.d7.length;rw[y7,<-h]at h1;unfold av.bO at h1;rw[o4]at h1;refine⟨Ω,?_,?_⟩
 .rw[a.2.1];exact X7 _
 .rw[a.1];exact X7 _
def vW(n:aD)(s:am)(l:Λ)(i:Nat):Prop:=∃v,l[i]?=σ v/\0<=v/\v<n.co.length/\cf s v.toNat=rs/\(0<i->l.getD (i-1) 0<v)
def qj(n:aD)(s:am)(l:Λ):Prop:=∀i,i<l.length->vW n s l i
section
variable{w:x3}{ac ad:Nat}{A R:ah}{n:aD}{s:am}{t:av}
theorem F8{bD:x1}(h:bd w ac ad A R n s t)(f:aI .i64 w bD l):aj x7 Lb [Γ ac,bD] w λv I=>(∃b,v= .bool b/\(b=ro↔qj n s l))/\Ext w I:=by
 refine az func259 ?_;rw[aS al.u f];refine b2.range l.length (λi _ J=>Ext w J/\∀q,q<i->vW n s l q) f.le ⟨Ext.refl _,λq O=>Ω⟩ ?_ ?_
 .rintro i _ J P hi ⟨j,G⟩ Q;obtain⟨x,r⟩:=aF (l:=l) hi;refine bC Ω ?_;rw[be al.u ae.i Ψ (f.W j) r];have K:∀{p:Prop},(¬(0<=x/\x<n.co.length/\cf s x.toNat=rs/\(0<i->l.getD (i-1) 0<x)))->vW n s l i->p:=λS ⟨v,z,e⟩=>by
   rw[r]at z;cases z;exact m6 e S
  refine aV (λv V=>∃b,v= .bool b/\(b=rs↔vW n s l i)/\Ext w V) ?_ ?_
  .rintro _ V ⟨b,rfl,a,L⟩;rw[bU];refine⟨λW=>⟨⟨rs,rfl,⟨(λh=>by cases h),λh=>?_⟩⟩,L⟩,λX=>?_⟩
   .have:=a.2 (h i hi);rw[W]at this;cases this
   .rw[aM];refine Q _ _ ⟨L,λq O=>?_⟩;by_cases Y:q=i
    .rw[Y];exact a.1 X
    .exact G q Ω
  intro ay C;refine(tn (h.W j)).X ?_;rintro _ ag _ ⟨rfl,Z⟩;have H:=j.F Z;rw[bA,bU];refine⟨λa=>C _ _ ⟨ro,rfl,⟨(λh=>by cases h),λh=>?_⟩,H⟩,λa=>?_⟩
  .exact K (λe=>by rw[m7 ⟨e.1,e.2.1⟩]at a;cases a) h
  have a:0<=x/\x<n.co.length:=by simpa using a
  refine(rM (h.W H)).X ?_;rintro _ ah _ ⟨rfl,aa⟩;have E:=H.F aa;rw[m7 a.1,V8,bU];refine⟨λB=>C _ _ ⟨ro,rfl,⟨(λh=>by cases h),λh=>?_⟩,E⟩,λB=>?_⟩
  .exact K (λe=>by rw[e.2.2.1]at B;cases B) h
  rw[bL,ai];refine⟨λak=>?_,λam=>C _ _ ⟨rs,rfl,⟨λ_=>⟨x,r,a.1,a.2,B,λh=>Ω⟩,λ_=>rfl⟩,E⟩⟩;obtain⟨y,M⟩:=aF (l:=l) (i:=i-1) Ω;have N:l.getD (i-1) 0=y:=by rw[u5,M];rfl
  have an:=f.le;rw[dR,lm Ω Ω,fm (y:=(i:Int)-1) (i:=i-1) Ω al.u ae.i Ψ (f.W E) M,cI];refine C _ _ ⟨_,rfl,⟨λab=>⟨x,r,a.1,a.2,B,λ_=>?_⟩,λU=>?_⟩,E⟩
  .have:=of_decide_eq_false ab;rw[N];omega
  .obtain⟨v,z,_,_,_,af⟩:=U;rw[r]at z;cases z;have:=af Ω;rw[N]at this;rw[ms];omega
 .rintro _ J P ⟨j,G⟩;rw[aP,ai];exact⟨λh=>Ω,λ_=>⟨⟨ro,rfl,⟨λ_=>G,λ_=>rfl⟩⟩,j⟩⟩
def Ry(s:am)(l:Λ)(r:Int):Prop:=(r= -1/\∀f∈s.d7,¬(f.live≠0/\f.sc=l))\/∃(j:Nat)(f:bH),r=j/\s.d7[j]?=σ f/\f.live≠0/\f.sc=l/\∀(q:Nat)g,q<j->s.d7[q]?=σ g->¬(g.live≠0/\g.sc=l)
theorem Rz{bD:x1}(h:bd w ac ad A R n s t)(P:aI .i64 w bD l):aj x7 BU [Γ ac,bD] w λv I=>(∃r:Int,v=Δ r/\Ry s l r)/\Ext w I:=by
 have av:=qi h.2.1 h.2.2.1;refine az func190 ?_;refine(tq h).X ?_;rintro _ J _ ⟨rfl,Q⟩;have S:s.d7.length<=9223372036854775807:=by
  obtain⟨U,W,X,Y,aU,Z,L,aa,a,ab,ae,af,z,x⟩:=h.1.parts;have:=z.le;rw[x.1]at this;omega
 refine b2.range s.d7.length (λj _ V=>Ext w V/\∀(q:Nat)g,q<j->s.d7[q]?=σ g->¬(g.live≠0/\g.sc=l)) S ⟨Q,λq g B=>Ω⟩ ?_ ?_
 rotate_left
 .rintro _ V ag ⟨C,E⟩;rw[aP,ai];refine⟨λh=>Ω,λ_=>⟨⟨-1,rfl,.inl ⟨rfl,λf e=>?_⟩⟩,C⟩⟩;obtain⟨q,B,rfl⟩:=List.mem_iff_getElem.1 e;exact E q _ B (x6 B)
 rintro j _ V ag ah ⟨C,E⟩ ak;obtain⟨f,e⟩:=aF (l:=s.d7) ah;refine bC Ω ?_;refine aV (λv K=>v= .bool (decide (f.live≠0)&&decide (f.sc=l))/\Ext w K) ?_ ?_
 .rintro _ K ⟨rfl,G⟩;rw[bU];refine⟨λa=>⟨⟨(j:Int),rfl,.inr ⟨j,f,rfl,e,?_⟩⟩,G⟩,λa=>?_⟩
  .rw[V9,pl,pl]at a;exact⟨a.1,a.2,E⟩
  .rw[aM];refine ak _ _ ⟨G,λq g B M=>?_⟩;by_cases al:q=j
   .subst al;rw[e]at M;cases M;intro an;rw[m7 an.1,m7 an.2]at a;cases a
   .exact E q g Ω M
 intro ay N;refine(rN (j:=(j:Int)) (h.W C)).X ?_;rintro _ K _ ⟨rfl,G⟩;have H:=C.F G;have am:eL s ((j:Int)).toNat=decide (f.live≠0):=by
  unfold eL;rw[u9,e]
 rw[m7 (Int.natCast_nonneg j),V8,am,ai];refine⟨λao=>?_,λap=>N _ _ ⟨by rw[ms ap];rfl,H⟩⟩;obtain⟨U,W,X,Y,aU,Z,L,aa,a,ab,ae,af,z,x⟩:=(h.W H).1.parts;obtain⟨y,O⟩:∃y,L[j]?=σ y:=⟨_,x6 (by rw[x.1];omega)⟩;obtain⟨aq,_,_⟩:=x.2 j y f O e;rw[aK bX.p 3 a rfl,dm rfl fe.u dq.i z (by rw[x.1];omega),aT dq.p rfl,ax (v:=y.aJ) Ψ (z.range O 0 _ rfl)];refine(uK aq.ls (P.W H)).X ?_;rintro _ aw _ ⟨rfl,au⟩;exact N _ _ ⟨by rw[m7 ao,V8],H.F au⟩
theorem RA{j:Int}(h:bd w ac ad A R n s t)(p:¬(0<=j/\j<s.d7.length)):aj x7 ux [Γ ac,Δ j] w λr I=>r= .slice ν 0 0/\Ext w I:=by
 refine az func175 ?_;refine aV (λv J=>v= .bool ro/\Ext w J) ?_ ?_
 .rintro _ J ⟨rfl,e⟩;rw[bY];exact⟨rfl,e⟩
 intro ay a;rw[aP,ai];refine⟨λ_=>a _ _ ⟨rfl,Ext.refl _⟩,λq=>?_⟩;refine(tq h).X ?_;rintro _ x _ ⟨rfl,f⟩;rw[cI];exact a _ _ ⟨by rw[m7 Ω],f⟩
end
section
variable{w:x3}{B:Nat}{sv:x1}{k:Int}{co:Λ}{s:am}
end
def jP:List (Λ)->List (Λ)
 |[]=>[[]]
 |d::a=>d.flatMap λv=>(jP a).map (v:: ·)
theorem vX:∀{a:List (Λ)}{t:Λ},t∈jP a↔t.length=a.length/\∀(p:Nat)d v,a[p]?=σ d->t[p]?=σ v->v∈d
 |[],t=>by
  grind [jP]
 |d::a,t=>by
  simp only[jP,List.mem_flatMap,o8];constructor
  .rintro⟨v,j,t',f,rfl⟩;obtain⟨h1,e⟩:=vX.1 f
   grind
  .rintro⟨h1,e⟩;cases t with
   |nil=>simp at h1
   |cons v t'=>exact⟨v,e 0 d v rfl rfl,t',vX.2 ⟨by grind,λp h u q r=>e (p+1) h u (by grind) (by grind)⟩,rfl⟩
def qk:List (Int->Bool)->Λ->Bool
 |q::a,v::t=>q v&&qk a t
 |_,_=>ro
theorem F9:∀(a:List (Λ))(f:List (Int->Bool)),f.length=a.length->jP ((a.zip f).map λp=>p.1.filter p.2)=(jP a).filter (qk f)
 |[],[],_=>rfl
 |d::a,q::f,h=>by
  have j:=F9 a f (by grind);simp only[List.zip_cons_cons,U3,jP];rw[j];clear j h;induction d with
  |nil=>rfl
  |cons v d r=>
   rw[U7,List.filter_append,<-r];have e:((jP a).map (v:: ·)).filter (qk (q::f))=if q v then((jP a).filter (qk f)).map (v:: ·)else[]:=by
    rw[List.filter_map]
    grind [List.filter_congr,qk,List.filter_eq_nil_iff]
   grind
def jQ(k:Int):Λ:=(Z2 k.toNat).map λv:Nat=>(v:Int)
theorem Ga:∀(s:Λ),bl s=jP (s.map jQ)
 :=by
 intro a;induction a<;>grind [bl,jP,jQ,List.flatMap_map]
theorem vY{v:Int}:v∈jQ k↔0<=v/\v<k:=by
 unfold jQ;rw[o8];constructor
 .grind
 .intro h;exact⟨v.toNat,by grind,Ω⟩
def ep(f:Int->Int)(L:List (Λ))(szs cs:Λ):Λ:=((bl szs).zip cs).map λp=>if p.1∈L then f p.2 else p.2
theorem rO(f:Int->Int)(L:List (Λ))(szs cs:Λ)(h:cs.length<=(bl szs).length):(ep f L szs cs).length=cs.length:=by
 grind [ep]
theorem rP{f:Int->Int}{i:Nat}(a:(bl szs)[i]?=σ t)(e:cs[i]?=σ c):(ep f L szs cs)[i]?=σ (if t∈L then f c else c):=by
 grind [ep]
theorem RB{f:Int->Int}{i:Nat}(U:dh szs)(s:cs.length<=(bl szs).length)(a:(bl szs)[i]?=σ t)(e:cs[i]?=σ c)(r:t∉L):(ep f L szs cs)[i]?=σ c/\(ep f L szs cs).set i (f c)=ep f (L++[t]) szs cs:=by
 have h1:=rP (f:=f) (L:=L) a e;rw[m5 r]at h1;refine⟨h1,?_⟩;apply j5;intro j;rw[Y4];by_cases h:i=j
 .subst h;rw[m3 rfl,m3 (x4.1 h1).1,rP a e,m3 Ξ]
 .rw[m5 h];cases p:cs[j]? with
  |none=>
   grind [rO]
  |some w=>
   obtain⟨u,q⟩:∃u,(bl szs)[j]?=σ u:=⟨_,x6 (by grind)⟩;rw[rP q p,rP q p];have x:u≠t:=λhe=>by
    subst he;have y:=kG U a
    grind [kG]
   grind
def kR(s:am)(i v:Nat)(c:Int):am:=match s.d6[i]? with
 |some x=>{s with d6:=s.d6.set i {x with un:=x.un.set v c}}
 |none=>s
def kS(s:am)(j m:Nat)(c:Int):am:=match s.d7[j]? with
 |some f=>{s with d7:=s.d7.set j {f with cs:=f.cs.set m c}}
 |none=>s
theorem vZ{i:Nat}(h:∀x∈l,0<=x/\x<=k)(a:0<=c/\c<=k):∀x∈l.set i c,0<=x/\x<=k:=by grind
def oc(w:x3)(ac ad:Nat)(A R:ah)(n:aD)(s':am)(t:av)(v:x1)(I:x3):Prop:=v=Δ 0/\af (du w) w I/\∃aH p x,Grow A w aH I/\bd I ac ad aH R n s' (t.set p x)
theorem oc.W{J:x3}{A R:ah}{n:aD}{s':am}{t:av}(a:Ext w J)(h:oc J ac ad A R n s' t v I):oc w ac ad A R n s' t v I:=by
 obtain⟨h1,e,aH,p,x,f,j⟩:=h;exact⟨h1,gA a e,aH,p,x,(Grow.W a).F f,j⟩
section
variable{w:x3}{ac ad:Nat}{A R:ah}{n:aD}{s:am}{t:av}
theorem tt(h:bd w ac ad A R n s t)(f:y<0\/¬(0<=c/\c<=n.k)):aj x7 BY [Γ ac,Δ y,Δ c] w λv I=>v=Δ (if y<0 then 1 else 3)/\Ext w I:=by
 refine az func262 ?_;rw[cW dB.u];simp only[j0,aX];rw[aP,ai];refine⟨by grind [Ext.refl],λe=>?_⟩;refine(nh h).X ?_;rintro _ J _ ⟨rfl,j⟩;refine(lk (a:=c) (k:=n.k)).X ?_;rintro _ V _ ⟨rfl,p⟩;have q:=f.resolve_left e;rw[ms (λh=>q h.2),bA,X4,bY,m5 e];exact⟨rfl,j.F p⟩
theorem zs{s':am}{p:Nat}(h:bd w ac ad A R n s t)(f:Room t)(j:y=(p:Int))(q:p<s.cells.length)(r:s.cells.set p c=s'.cells)(U:n8 s s')(x:aY n.k n.co s')(z:0<=c/\c<=n.k):
  aj x7 BY [Γ ac,Δ y,Δ c] w (oc w ac ad A R n s' t):=by
 refine az func262 ?_;rw[cW dB.u];simp only[j0,aX];refine ci Ω ?_;refine(nh h).X ?_;rintro _ J _ ⟨rfl,B⟩;refine(lk (a:=c) (k:=n.k)).X ?_;rintro _ V _ ⟨rfl,C⟩;have e:=B.F C;rw[m7 (show cJ c n.k from⟨h.2.2.2.1.dH,z⟩),bA,Y6,aX];obtain⟨K,M,N,O,aU,P,L,Q,E,S,W,X,Y,Z⟩:=(h.W e).1.parts;rw[aK bX.p 1 E rfl];refine(vV (h.W e) j q r U x f).X ?_;rintro _ aa _ ⟨rfl,G,aH,H,I⟩;exact oc.W e ⟨rfl,G,aH,_,_,H,I⟩
theorem Gb(h:bd w ac ad A R n s t)(e:Room t):aj x7 Ks [Γ ac,Δ c] w λv I=>(¬(0<=c/\c<=n.k)->v=Δ 3/\Ext w I)/\((0<=c/\c<=n.k)->oc w ac ad A R n {s with zero:=c} t v I):=by
 refine az func192 ?_;by_cases a:0<=c/\c<=n.k
 .refine (zs (p:=0) h e rfl (by grind [am.cells,kO]) (Qt s c) (y1 s c) ⟨h.2.2.2.1.dH,h.2.2.2.1.c5,a,h.2.2.2.1.d6,h.2.2.2.1.var,h.2.2.2.1.d7⟩ a).X ?_
  grind
 .refine (tt h (.inr a)).X ?_
  grind
theorem zt{i v:Int}(h:bd w ac ad A R n s t)(B:Room t):aj x7 Kt [Γ ac,Δ i,Δ v,Δ c] w λr I=>
  (¬e8 n i v->r=Δ 1/\Ext w I)/\(e8 n i v->¬(0<=c/\c<=n.k)->r=Δ 3/\Ext w I)/\(e8 n i v->(0<=c/\c<=n.k)->oc w ac ad A R n (kR s i.toNat v.toNat c) t r I):=by
 refine az func193 ?_;refine(zm h).X ?_;rintro _ J _ ⟨rfl,a⟩;by_cases f:e8 n i v
 .rw[m3 f];by_cases j:0<=c/\c<=n.k
  .obtain⟨x,e,H,K,_⟩:=f.var h.2.2.2.1;have L:=h.2.2.2.1.d6;obtain⟨z,C⟩:∃z,n.co[i.toNat]?=σ z:=⟨_,x6 (by grind)⟩;obtain⟨_,E,hm⟩:=h.2.2.2.1.var i.toNat x z e C;have M:=tm e;have y:kR s i.toNat v.toNat c={s with d6:=s.d6.set i.toNat {x with un:=x.un.set v.toNat c}}:=by grind [kR]
   refine(zs (p:=gN s i.toNat+(2+v.toNat)) (s':=kR s i.toNat v.toNat c) (h.W a) B Ω Ω ?_ ?_ ?_ j).X ?_
   .rw[y];refine yZ e Ω ?_;rw[show 2+v.toNat=v.toNat+1+1 by omega];rfl
   .grind [ti]
   .rw[y];exact h.2.2.2.1.ts e Ξ (vZ E j) hm
   .rintro r V _ G;exact⟨by grind,Ω,λ_ _=>G.W a⟩
  .refine (tt (h.W a) (.inr j)).X ?_;rintro r V _ ⟨rfl,q⟩;rw[m5 Ω];exact⟨by grind,λ_ _=>⟨rfl,a.F q⟩,Ω⟩
 .rw[m5 f];refine(tt (h.W a) Ω).X ?_;rintro r V _ ⟨rfl,q⟩;rw[m3 Ω];exact⟨λ_=>⟨rfl,a.F q⟩,by grind,by grind⟩
theorem Gc(h:bd w ac ad A R n s t)(B:Room t)(C:aI .i64 w aN tl):aj x7 Ku [Γ ac,Δ (j:Int),aN,Δ c] w λr I=>
  (jO s j tl=ν->r=Δ 1/\Ext w I)/\((jO s j tl).isSome=ro->¬(0<=c/\c<=n.k)->r=Δ 3/\Ext w I)/\
  ((jO s j tl).isSome=ro->(0<=c/\c<=n.k)->∀f (m:Nat),s.d7[j]?=σ f->ct f.szs tl 0=σ (m:Int)->oc w ac ad A R n (kS s j m c) t r I):=by
 refine az func194 ?_;refine(F3 h C).X ?_;rintro _ J _ ⟨rfl,a⟩;cases E:jO s j tl with
 |none=>
  simp only;refine(tt (h.W a) Ω).X ?_;rintro r V _ ⟨rfl,q⟩;rw[m3 Ω];exact⟨λ_=>⟨rfl,a.F q⟩,by grind,by grind⟩
 |some p=>
  simp only;by_cases x:0<=c/\c<=n.k
  .obtain⟨L,f,e,M,m,hm,N,rfl⟩:=F4 h.2.2.2.1 E;have O:=zl e;have y:kS s j m c={s with d7:=s.d7.set j {f with cs:=f.cs.set m c}}:=by grind [kS]
   obtain⟨G,_⟩:=h.2.2.2.1.d7 f (x5 e);refine(zs (p:=e6 s j+(m+1)) (s':=kS s j m c) (h.W a) B rfl Ω ?_ ?_ ?_ x).X ?_
   .rw[y];exact Fi e Ω rfl
   .grind [y2]
   .rw[y];exact h.2.2.2.1.zn e rfl rfl Ξ (vZ G.gM x)
   .rintro r V _ H;refine⟨by grind,Ω,λ_ _ P bK z K=>?_⟩;rw[e]at z;cases z;rw[hm]at K;have:bK=m:=by grind
    subst this;exact H.W a
  .refine (tt (h.W a) (.inr x)).X ?_;rintro r V _ ⟨rfl,q⟩;rw[m5 Ω];exact⟨by grind,λ_ _=>⟨rfl,a.F q⟩,Ω⟩
end
def im(of:Int->Int)(p:Int×Int)(v:Int):Int×Int:=if p.2= -1\/of v<p.1 then(of v,v)else p
def gP(k:Int)(l:Λ)(of:Int->Int):Int×Int:=l.foldl (im of) (k,-1)
theorem od{s:am}{n:aD}{i:Int}{b m:Nat}{x:bs}(h:vU s n i b m)(e:0<=i)(f:s.d6[i.toNat]?=σ x):(fp b m).map (λv:Nat=>(v:Int))=aL x:=by
 obtain⟨_,_,j⟩:=h;obtain⟨rfl,p⟩:=j x e f;unfold fp aL;rw[List.filter_map];congr 1;refine List.filter_congr λq a=>?_;have a:=V7.1 a;rw[p,m7 a,V8];rfl
section
variable{w:x3}{ac ad:Nat}{A R:ah}{n:aD}{s:am}{t:av}
def md(n:aD)(s:am)(i:Int):Bool:=decide (0<=i/\i<n.co.length)&& !cf s i.toNat
end
theorem ql{x:bs}{v:Int}(h:v∈aL x):0<=v/\v<x.un.length:=by
 unfold aL at h;obtain⟨h,_⟩:=U8.1 h;obtain⟨q,a,rfl⟩:=o8.1 h;have:=V7.1 a;omega
theorem RC{s:am}{n:aD}{i v:Int}{b m:Nat}{x:bs}(h:vU s n i b m)(f:0<=i)(j:s.d6[i.toNat]?=σ x):(decide (0<=v/\v<m)&&b.testBit v.toNat)=decide (v∈aL x):=by
 obtain⟨_,_,p⟩:=h;obtain⟨rfl,q⟩:=p x f j;by_cases a:0<=v/\v<x.un.length
 .rw[m7 a,V8,q,m7 (show v.toNat<x.un.length by omega),V8,show((v.toNat:Nat):Int)=v by omega];have:=F6 a;cases e:dropped x.mask v with
  |false=>rw[m7 (this.2 e)];rfl
  |true=>rw[ms λh=>by rw[this.1 h]at e;cases e];rfl
 .rw[ms a,ms λh=>a (ql h)];rfl
section
variable{w:x3}{ac ad:Nat}{A R:ah}{n:aD}{s:am}{t:av}
theorem RD{i:Int}(f:aY n.k n.co s)(h:md n s i=ro):0<=i/\∃x,s.d6[i.toNat]?=σ x/\x.gone=0:=by
 unfold md at h;rw[V9]at h;have h1:=rc h.1;have j:=f.d6;obtain⟨x,e⟩:=aF (l:=s.d6) (i:=i.toNat) Ω;have a:=h.2;unfold cf at a;rw[e]at a;exact⟨h1.1,x,e,by simpa using a⟩
theorem rQ{f:bH}(h:bd w ac ad A R n s t)(a:s.d7[j]?=σ f):aj x7 ux [Γ ac,Δ (j:Int)] w λr I=>Ext w I/\∃g,w.heap.size<=g/\ao .i64 ae I g r f.sc:=by
 have K:=(x4.1 a).1;refine az func175 ?_;refine aV (λv J=>v= .bool rs/\Ext w J) ?_ ?_
 .rintro _ J ⟨rfl,e⟩;rw[aX];obtain⟨M,N,O,P,aU,Q,L,S,B,U,W,X,x,q⟩:=(h.W e).1.parts;obtain⟨y,z⟩:∃y,L[j]?=σ y:=⟨_,x6 (by rw[q.1];omega)⟩;obtain⟨C,_,_⟩:=q.2 j y f z a;rw[aK bX.p 3 B rfl,dm rfl fe.u dq.i x (by rw[q.1];omega),aT dq.p rfl,ax Ψ (x.range z 0 _ rfl)];have Y:f.sc.length<=6:=(h.2.2.2.1.d7 f (x5 a)).1.scope.2;refine(j3 C.ls Ω).X ?_;rintro v V _ ⟨E,g,Z,hm⟩;have:=e.size;exact⟨e.F E,g,Ω,hm⟩
 intro ay G;rw[aP,ai];refine⟨λaa=>Ω,λ_=>?_⟩;refine(tq h).X ?_;rintro _ ab _ ⟨rfl,H⟩;rw[cI];exact G _ _ ⟨by rw[ms Ω],H⟩
end
def cZ(s:am)(i:Int):Λ:=match s.d6[i.toNat]? with
 |some x=>aL x
 |none=>[]
section
variable{ac ad:Nat}{A R:ah}{n:aD}{s:am}{t:av}
end
def me(s:am)(pos:Nat)(v:Int):Λ->Nat->List (Λ)
 |[],_=>[]
 |u::sc,p=>(if p=pos then[v]else cZ s u)::me s pos v sc (p+1)
def cQ(s:am)(sc:Λ)(pos:Nat)(v:Int):List (Λ):=jP (me s pos v sc 0)
def qm(s:am)(pos:Nat)(v:Int):Λ->Nat->List (Int->Bool)
 |[],_=>[]
 |u::sc,p=>(λx=>(decide (p=pos->x=v))&&decide (x∈cZ s u))::qm s pos v sc (p+1)
theorem RE{v:Int}(h:0<=v/\v<k):(jQ k).filter (λx=>decide (x=v))=[v]:=by
 have a:(jQ k).Nodup:=by
  grind [jQ,List.nodup_range]
 have hm:v∈jQ k:=vY.2 h;generalize jQ k=l at a hm;induction l<;>grind [List.filter_eq_nil_iff]
section
variable{k:Int}{co:Λ}{s:am}{v:Int}{pos:Nat}
theorem RF{u:Int}(a:aY k co s)(h:0<=u/\u<co.length):(jQ (co.getD u.toNat 0)).filter (λx=>decide (x∈cZ s u))=cZ s u:=by
 have j:=a.d6;obtain⟨x,e⟩:=aF (l:=s.d6) (i:=u.toNat) Ω;obtain⟨z,f⟩:=aF (l:=co) (i:=u.toNat) Ω;have h1:=(a.var _ x z e f).1
 grind [cZ,aL,jQ,List.filter_congr]
theorem Gd(a:aY k co s):∀(sc:Λ)(p:Nat),(∀u∈sc,0<=u/\u<co.length)->(∀u,p<=pos->sc[pos-p]?=σ u->v∈cZ s u)->
  me s pos v sc p=(((aB co sc).map jQ).zip (qm s pos v sc p)).map λq=>q.1.filter q.2
 |[],p,_,_=>rfl
 |u::sc,p,e,r=>by
  have f:=Gd a sc (p+1) (by grind) (by grind);have h:=e u (.head _);have w:=RF a h;show(if p=pos then[v]else cZ s u)::me s pos v sc (p+1)=(jQ (co.getD u.toNat 0)).filter (λx=>decide (p=pos->x=v)&&decide (x∈cZ s u))::((((aB co sc).map jQ).zip (qm s pos v sc (p+1))).map λq=>q.1.filter q.2);rw[<-f];congr 1;by_cases j:p=pos
  .rw[m3 j];have y:v∈cZ s u:=by grind
   grind [RE,vY]
  grind
theorem RG:∀(sc:Λ)(p:Nat),(qm s pos v sc p).length=sc.length
 :=by
 intro a;induction a<;>grind [qm]
theorem zu{sc:Λ}(a:aY k co s)(e:∀u∈sc,0<=u/\u<co.length)(f:∀u,sc[pos]?=σ u->v∈cZ s u):
  cQ s sc pos v=(bl (aB co sc)).filter (qk (qm s pos v sc 0)):=by
 grind [cQ,Gd,F9,RG,aB,Ga]
end
theorem v7{k:Int}:∀(l:Λ)(z:Int),z<=k->(∀c∈l,0<=c)->l.foldl (λa c=>min (a+c) k) z=min (z+l.sum) k
 |[],z,h,_=>Θ
 |c::l,z,h,e=>by
  have U:∀(l:Λ),(∀c∈l,0<=c)->0<=l.sum:=λl=>by
   induction l with
   |nil=>grind
   |cons a l f=>intro h;have:=f λc e=>h c (.tail _ e);have:=h a (.head _);grind
  have h1:=e c (.head _);have j:=U l λc h=>e c (.tail _ h);rw[List.foldl_cons,v7 l _ Ω (by grind),List.sum_cons];omega
def cB(p:bs×Int):Int:=if p.1.gone≠0 then 0 else p.1.un.getD p.2.toNat 0
def dj(a:Λ)(f:bH):Int:=if f.live≠0 then bg f.szs f.cs (ij a f.sc)else 0
theorem foldl_map'{α β e:Type}(g:α->β)(h:e->β->e)(bi:e->α->e)(P:e->Prop)(an:∀c a,P c->bi c a=h c (g a))(f:∀c a,P c->P (bi c a)):∀(l:List α)(c:e),P c->l.foldl bi c=(l.map g).foldl h c
 :=by
 intro a;induction a<;>grind
theorem qn{i:Nat}{x:Int}(h:l[i]?=σ x):(l.set i y).sum=l.sum-x+y:=by
 induction l generalizing i with
 |nil=>simp at h
 |cons a l e=>
  cases i<;>grind
def dV(k a c:Int):Int:=if a=k then k else a-c
def dW(k a c:Int):Int:=min (a+c) k
theorem v8{r g u:Int}(a:0<=r)(e:c<=g/\g<=k)(f:0<=u/\u<=k)(h:0<=c):min (r+dV k g c+dW k u c) k=min (r+g+u) k:=by
 grind [dV,dW]
theorem mf:∀(l:Λ),(∀c∈l,0<=c)->0<=l.sum
 |[],_=>Ξ
 |a::l,h=>by have:=mf l (by grind);have:=h a (.head _);grind
theorem qo:∀{l:Λ}{i:Nat}{x:Int},(∀c∈l,0<=c)->l[i]?=σ x->x<=l.sum
 |[],_,_,_,h=>by simp at h
 |a::l,0,x,e,h=>by
  simp at h;subst h;have:=mf l (by grind)
  grind
 |a::l,i+1,x,e,h=>by
  have:=qo (by grind) (show l[i]?=σ x by grind);have:=e a (.head _)
  grind
theorem zv{i:Nat}(hk:0<=k)(h:∀c∈l,0<=c/\c<=k):0<=l.getD i 0/\l.getD i 0<=k:=by
 rw[u5];cases a:l[i]? with
 |none=>grind
 |some c=>exact h c (x5 a)
theorem RH{f:Int->Int}{m:Int}(U:dh szs)(a:cs.length=(bl szs).length)(hi:ct szs t 0=σ m):bg szs (ep f L szs cs) t=if t∈L then f (bg szs cs t)else bg szs cs t:=by
 grind [oN,rP,bg]
section
variable{k:Int}{co a:Λ}{s:am}
theorem RI{i:Nat}{p:bs×Int}(e:aY k co s)(h:(s.d6.zip a)[i]?=σ p):0<=cB p/\cB p<=k:=by
 have hk:=e.dH;obtain⟨h1,_⟩:=T3.1 h;have f:=(x4.1 h1).1;have j:=e.d6;have:=e.var i p.1 _ h1 (x6 Ω);unfold cB;split
 .omega
 .exact zv Ω this.2.1
theorem RJ{f:bH}(e:aY k co s)(h:f∈s.d7):0<=dj a f/\dj a f<=k:=by
 have hk:=e.dH;have:=(e.d7 f h).1.gM;unfold dj;split
 .exact (qb e.dH λc j=>⟨e.dH,this c j⟩).2
 .omega
theorem qp(e:aY k co s):∀c∈(s.d6.zip a).map cB,0<=c:=λc f=>by
 obtain⟨p,h,rfl⟩:=o8.1 f;obtain⟨i,hi⟩:=c9.1 h;exact(RI e hi).1
theorem o3(e:aY k co s):∀c∈s.d7.map (dj a),0<=c:=λc f=>by
 obtain⟨p,h,rfl⟩:=o8.1 f;exact(RJ e h).1
theorem pa(e:aY k co s):dO k s a=if(s.d6.zip a).all ik then min (s.zero+((s.d6.zip a).map cB).sum+(s.d7.map (dj a)).sum) k else k:=by
 have h1:(s.d6.zip a).foldl (vK k) s.zero=((s.d6.zip a).map cB).foldl (λx c=>min (x+c) k) s.zero:=by
  refine foldl_map' cB (λx c=>min (x+c) k) (vK k) (λc=>c<=k) (λc p f=>?_) (λc p f=>?_) _ _ e.zero.2
  all_goals grind [vK,cB]
 have h:∀z,z<=k->s.d7.foldl (vL k a) z=(s.d7.map (dj a)).foldl (λx c=>min (x+c) k) z:=λz j=>by
  refine foldl_map' (dj a) (λx c=>min (x+c) k) (vL k a) (λc=>c<=k) (λc p f=>?_) (λc p f=>?_) _ _ j
  all_goals grind [vL,dj]
 unfold dO;split
 .rw[h1,v7 _ _ e.zero.2 (qp e),h _ Ω,v7 _ _ Ω (o3 e)];have:=mf _ (o3 (a:=a) e);omega
 .rfl
theorem qq{α β:Type}:∀{l:List α}{m:List β}{i:Nat}{x:α}{y:β},m[i]?=σ y->(l.set i x).zip m=(l.zip m).set i (x,y)
 |[],_,_,_,_,_=>Ξ
 |_::_,[],_,_,_,h=>by simp at h
 |a::l,b::m,0,x,y,h=>by simp at h;subst h;rfl
 |a::l,b::m,i+1,x,y,h=>by
  rw[List.set_cons_succ,List.zip_cons_cons,List.zip_cons_cons,List.set_cons_succ,qq (by simpa using h)]
theorem rR{α:Type}{q:α->Bool}:∀{l:List α}{i:Nat}{x y:α},l[i]?=σ x->q y=q x->(l.set i y).all q=l.all q
 |[],_,_,_,h,_=>by simp at h
 |a::l,0,x,y,h,e=>by grind
 |a::l,i+1,x,y,h,e=>by rw[List.set_cons_succ,List.all_cons,List.all_cons,rR (by grind) e]
def dI(s:am)(u:Nat)(x:bs)(un:Λ):am:={s with d6:=s.d6.set u {x with un:=un}}
def dA(s:am)(j:Nat)(f:bH)(cs:Λ):am:={s with d7:=s.d7.set j {f with cs:=cs}}
theorem wa{u:Nat}{x:bs}{un:Λ}(a:aY k co s)(e:s.d6[u]?=σ x)(f:un.length=x.un.length)(h:∀c∈un,0<=c/\c<=k):aY k co (dI s u x un):=by
 have j:=(x4.1 e).1;have p:=a.d6;have h1:=a.var u x _ e (x6 Ω);exact a.ts e f h h1.2.2
theorem zw{f:bH}(a:aY k co s)(e:s.d7[j]?=σ f)(h:cs.length=f.cs.length)(p:∀c∈cs,0<=c/\c<=k):aY k co (dA s j f cs):=a.zn e rfl rfl h p
theorem RK{u:Nat}{x:bs}{f:bH}{un:Λ}{bw:Int}(e:aY k co s)(p:s.d6[u]?=σ x)(q:s.d7[j]?=σ f)(z:un.length=x.un.length)(A:∀c∈un,0<=c/\c<=k)(B:cs.length=f.cs.length)(C:∀c∈cs,0<=c/\c<=k)(w:a[u]?=σ bw)(h:(s.d6.zip a).all ik=ro->∀r,0<=r->min (r+dj a {f with cs:=cs}+cB ({x with un:=un},bw)) k=min (r+dj a f+cB (x,bw)) k):dO k (dI (dA s j f cs) u x un) a=dO k s a:=by
 have E:=zw e q B C;have F:=wa E p z A;rw[pa F,pa e];have y:(s.d6.zip a)[u]?=σ (x,bw):=T3.2 ⟨p,w⟩;have G:((dI (dA s j f cs) u x un).d6.zip a)=(s.d6.zip a).set u ({x with un:=un},bw):=qq w;have H:((s.d6.zip a).set u ({x with un:=un},bw)).all ik=(s.d6.zip a).all ik:=rR y rfl;rw[G,H];split
 .rename_i I;have J:(((s.d6.zip a).set u ({x with un:=un},bw)).map cB).sum=((s.d6.zip a).map cB).sum-cB (x,bw)+cB ({x with un:=un},bw):=by
   grind [V3,qn]
  have K:((dI (dA s j f cs) u x un).d7.map (dj a)).sum=(s.d7.map (dj a)).sum-dj a f+dj a {f with cs:=cs}:=by
   show((s.d7.set j {f with cs:=cs}).map (dj a)).sum=_
   grind [V3,qn]
  have h1:=qo (qp e) (by rw[x8,y];rfl);have L:=qo (o3 (a:=a) e) (by rw[x8,q];rfl);have M:=e.zero.1;have N:=h I (s.zero+(((s.d6.zip a).map cB).sum-cB (x,bw))+((s.d7.map (dj a)).sum-dj a f)) Ω;rw[J,K];show min (s.zero+_+_) k=_;omega
 .rfl
end
theorem Ge{s:am}{v:Int}:∀(sc:Λ)(p q:Nat),(me s pos v sc p)[q]?=(sc[q]?).map λu=>if p+q=pos then[v]else cZ s u
 :=by
 intro a;induction a<;>grind [me]
theorem RL{s:am}{v:Int}:∀(sc:Λ)(p:Nat),(me s pos v sc p).length=sc.length
 :=by
 intro a;induction a<;>grind [me]
theorem zx{s:am}{v:Int}{sc:Λ}:t∈cQ s sc pos v↔t.length=sc.length/\∀(p:Nat)u w,sc[p]?=σ u->t[p]?=σ w->if p=pos then w=v else w∈cZ s u:=by
 unfold cQ;rw[vX,RL];refine and_congr_right λ_=>⟨λh p u w a hw=>?_,λh p d w e hw=>?_⟩
 .have:w∈if 0+p=pos then[v]else cZ s u:=by grind [Ge]
  grind
 grind [Ge]
theorem jq{x:bs}{v:Int}:v∈aL x↔(0<=v/\v<x.un.length)/\dropped x.mask v=rs:=by
 unfold aL;rw[U8];refine and_congr ?_ Ξ;have:=vY (k:=(x.un.length:Int)) (v:=v)
 grind [jQ]
theorem Gf{f:Int->Int}(U:dh szs)(e:∀c∈cs,0<=c/\c<=k)(q:∀t∈L,0<=f (bg szs cs t)/\f (bg szs cs t)<=k):∀c∈ep f L szs cs,0<=c/\c<=k:=λc a=>by
 unfold ep at a;obtain⟨p,h,rfl⟩:=o8.1 a;obtain⟨i,hi⟩:=c9.1 h;obtain⟨h1,j⟩:=T3.1 hi;split
 .grind [bg,kG]
 .exact e _ (x5 j)
section
variable{k:Int}{co a:Λ}{s:am}
def kk(s:am)(j:Nat)(f:bH)(pos u:Nat)(x:bs)(v:Int)(tup un:Int->Int):am:=
 dI (dA s j f (ep tup (cQ s f.sc pos v) f.szs f.cs)) u x (x.un.set v.toNat (un (x.un.getD v.toNat 0)))
theorem mg{f:bH}(e:aY k co s)(j:f∈s.d7):dh f.szs/\f.cs.length=(bl f.szs).length:=by
 obtain⟨a,p,_⟩:=e.d7 f j;have q:dh f.szs:=by rw[p];exact kd e.c5.2.2 λv h=>⟨(a.scope.1 v h).1,a.d6 v h⟩
 refine⟨q,?_⟩;have h1:=a.len
 grind [j2]
theorem Gg{u:Nat}{f:bH}{x:bs}{v:Int}{tup un:Int->Int}(a:aY k co s)(h:s.d7[j]?=σ f)(e:s.d6[u]?=σ x)(q:∀t∈cQ s f.sc pos v,0<=tup (bg f.szs f.cs t)/\tup (bg f.szs f.cs t)<=k)(p:0<=un (x.un.getD v.toNat 0)/\un (x.un.getD v.toNat 0)<=k):aY k co (kk s j f pos u x v tup un):=by
 obtain⟨r,w⟩:=mg a (x5 h);have y:=(a.d7 f (x5 h)).1;have z:=(x4.1 e).1;have A:=a.d6;have h1:=a.var u x _ e (x6 Ω);exact wa (by grind [zw,rO,Gf,ey.gM]) e (by grind) (vZ h1.2.1 p)
theorem Gh{u:Nat}{f:bH}{x:bs}{v:Int}{tup un:Int->Int}(p:aY k co s)(G:eK s a)(B:s.d7[j]?=σ f)(Z:f.live≠0)(H:f.sc[pos]?=σ (u:Int))(A:s.d6[u]?=σ x)(M:v∈aL x)(I:∀w∈f.sc,∀y,s.d6[w.toNat]?=σ y->y.gone=0)(N:∀t∈cQ s f.sc pos v,0<=tup (bg f.szs f.cs t)/\tup (bg f.szs f.cs t)<=k)(O:0<=un (x.un.getD v.toNat 0)/\un (x.un.getD v.toNat 0)<=k)(aa:∀t∈cQ s f.sc pos v,∀r,0<=r->min (r+tup (bg f.szs f.cs t)+un (x.un.getD v.toNat 0)) k=min (r+bg f.szs f.cs t+x.un.getD v.toNat 0) k):
  dO k (kk s j f pos u x v tup un) a=dO k s a:=by
 obtain⟨P,ab⟩:=mg p (x5 B);obtain⟨C,ac,_⟩:=p.d7 f (x5 B);have ad:=(x4.1 A).1;have ae:=p.d6;have h1:=p.var u x _ A (x6 Ω);have af:=G.1;obtain⟨bw,Q⟩:=aF (l:=a) (i:=u) Ω;refine RK p A B (by grind) (vZ h1.2.1 O) (by grind [rO]) (Gf P C.gM N) Q λR r ag=>?_;have ah:=I u (x5 H) x (by grind);obtain⟨tl,ai⟩:∃tl,tl=ij a f.sc:=⟨_,rfl⟩;have S:∀(q:Nat)w,f.sc[q]?=σ w->∃y,s.d6[w.toNat]?=σ y/\tl[q]?=σ (a.getD w.toNat 0)/\a.getD w.toNat 0∈aL y/\f.szs[q]?=σ (y.un.length:Int):=λq w hw=>by
  have hm:=x5 hw;have aj:=(C.scope.1 w hm).1;have ak:=C.d6 w hm;obtain⟨y,h⟩:=aF (l:=s.d6) (i:=w.toNat) Ω;obtain⟨z,J⟩:=aF (l:=co) (i:=w.toNat) Ω;obtain⟨E,K⟩:=aF (l:=a) (i:=w.toNat) Ω;have al:=I w hm y h;have am:=(p.var _ y z h J).1;have an:=p.c5.2.2 z (x5 J);have e:a.getD w.toNat 0=E:=by grind
  have ao:=List.all_eq_true.1 R (y,E) (x5 (T3.2 ⟨h,K⟩));have ap:=(G.2 _ y E h K).resolve_left Ω
  grind [ij,jq,ik,aB]
 have aq:tl.length=f.sc.length:=by grind [ij]
 have au:f.szs.length=f.sc.length:=by grind [aB]
 obtain⟨m,hm⟩:∃m,ct f.szs tl 0=σ m:=by
  have:tl∈bl f.szs:=by
   rw[Ga,vX];refine⟨by grind,λq d w av hw=>?_⟩;obtain⟨b,aw⟩:=aF (l:=f.sc) (i:=q) (by grind)
   grind [vY,jq]
  grind [c9,kG]
 have T:dj a f=bg f.szs f.cs tl:=by grind [dj]
 have U:dj a {f with cs:=ep tup (cQ s f.sc pos v) f.szs f.cs}=if tl∈cQ s f.sc pos v then tup (bg f.szs f.cs tl)else bg f.szs f.cs tl:=by
  grind [RH,dj]
 have V:cB (x,bw)=x.un.getD bw.toNat 0:=by grind [cB]
 have W:cB ({x with un:=x.un.set v.toNat (un (x.un.getD v.toNat 0))},bw)=(x.un.set v.toNat (un (x.un.getD v.toNat 0))).getD bw.toNat 0:=by grind [cB]
 obtain⟨y,h,L,F,_⟩:=S pos _ H;rw[u9]at h L F;rw[A]at h;cases h;have X:a.getD u 0=bw:=by grind
 rw[X]at L F;have ax:=(jq.1 M).1;have ay:=(jq.1 F).1;rw[T,U,V,W];by_cases he:bw=v
 .subst he
  grind [zx,cZ]
 .have Y:tl∉cQ s f.sc pos v:=by grind [zx]
  rw[m5 Y,u5,X3 Ω,<-u5]
end
def eE(g:Int->Int)(un L:Λ):Λ:=L.foldl (λun v=>un.set v.toNat (g (un.getD v.toNat 0))) un
theorem zy{g:Int->Int}:∀(L un:Λ),(eE g un L).length=un.length
 :=by
 intro a;induction a<;>grind [eE,U4]
theorem wb{g:Int->Int}:∀(L un:Λ)(w:Int),L.Nodup->(∀v∈L,0<=v/\v<un.length)->0<=w->(eE g un L).getD w.toNat 0=if w∈L then g (un.getD w.toNat 0)else un.getD w.toNat 0
 |[],un,w,_,_,_=>by simp[eE]
 |v::L,un,w,a,e,hw=>by
  obtain⟨h1,f⟩:=List.nodup_cons.1 a;have h:=e v (.head _);have j:=wb (g:=g) L (un.set v.toNat (g (un.getD v.toNat 0))) w f (by grind) hw
  grind [eE]
theorem tu(x:bs):(aL x).Nodup:=by
 grind [aL,List.nodup_range]
theorem Gi{k:Int}{g:Int->Int}:∀(L un:Λ),(∀c∈un,0<=c/\c<=k)->L.Nodup->(∀v∈L,0<=v/\v<un.length)->(∀v∈L,0<=g (un.getD v.toNat 0)/\g (un.getD v.toNat 0)<=k)->∀c∈eE g un L,0<=c/\c<=k
 |[],un,h,_,_,_,c,a=>h c a
 |v::L,un,h,f,e,q,c,a=>by
  obtain⟨h1,j⟩:=List.nodup_cons.1 f;have r:=e v (.head _);refine Gi (g:=g) L (un.set v.toNat (g (un.getD v.toNat 0))) (by grind) j (by grind) (λu p=>?_) c a;have s:u≠v:=by grind
  have w:=e u (.tail _ p);rw[u5,X3 Ω,<-u5]
  grind
section
variable{k:Int}{co a:Λ}{s:am}
def mh(s:am)(u:Nat)(x:bs)(g z:Int->Int):am:={dI s u x (eE g x.un (aL x))with zero:=z s.zero}
theorem aY.RM(a:aY k co s)(h:0<=c/\c<=k):aY k co {s with zero:=c}:=⟨a.dH,a.c5,h,a.d6,a.var,a.d7⟩
theorem zz{u:Nat}{x:bs}{g z:Int->Int}(a:aY k co s)(e:s.d6[u]?=σ x)(f:∀v∈aL x,0<=g (x.un.getD v.toNat 0)/\g (x.un.getD v.toNat 0)<=k)(h:0<=z s.zero/\z s.zero<=k):aY k co (mh s u x g z):=by
 have p:=(x4.1 e).1;have q:=a.d6;have h1:=a.var u x _ e (x6 Ω);exact(wa a e (zy _ _) (Gi _ _ h1.2.1 (tu x) (λv j=>(jq.1 j).1) f)).RM h
theorem Gj{u:Nat}{x:bs}{g z:Int->Int}(e:aY k co s)(p:eK s a)(f:s.d6[u]?=σ x)(K:x.gone=0)(q:∀v∈aL x,0<=g (x.un.getD v.toNat 0)/\g (x.un.getD v.toNat 0)<=k)(w:0<=z s.zero/\z s.zero<=k)(y:∀v∈aL x,∀r,0<=r->min (r+g (x.un.getD v.toNat 0)+z s.zero) k=min (r+x.un.getD v.toNat 0+s.zero) k):dO k (mh s u x g z) a=dO k s a:=by
 have A:=zz e f q w;have L:=(x4.1 f).1;have M:=e.d6;have N:=p.1;obtain⟨bw,h⟩:=aF (l:=a) (i:=u) Ω;rw[pa A,pa e];have j:(s.d6.zip a)[u]?=σ (x,bw):=T3.2 ⟨f,h⟩;obtain⟨un,B⟩:∃un,un=eE g x.un (aL x):=⟨_,rfl⟩;have C:((mh s u x g z).d6.zip a)=(s.d6.zip a).set u ({x with un:=un},bw):=by rw[B];exact qq h
 have E:((s.d6.zip a).set u ({x with un:=un},bw)).all ik=(s.d6.zip a).all ik:=rR j rfl;rw[C,E];split
 .rename_i F;have G:(((s.d6.zip a).set u ({x with un:=un},bw)).map cB).sum=((s.d6.zip a).map cB).sum-cB (x,bw)+cB ({x with un:=un},bw):=by
   grind [V3,qn]
  have h1:=qo (qp e) (by rw[x8,j];rfl);have O:=mf _ (o3 (a:=a) e);have P:=List.all_eq_true.1 F (x,bw) (x5 j);have Q:=(p.2 _ x bw f h).resolve_left Ω;have H:bw∈aL x:=by
   grind [jq,ik]
  have I:cB (x,bw)=x.un.getD bw.toNat 0:=by grind [cB]
  have J:cB ({x with un:=un},bw)=g (x.un.getD bw.toNat 0):=by
   grind [cB,wb,tu,jq]
  rw[G,J];rw[I]at h1 ⊢;have R:=y bw H (((s.d6.zip a).map cB).sum-x.un.getD bw.toNat 0+(s.d7.map (dj a)).sum) Ω;show min (z s.zero+_+(s.d7.map (dj a)).sum) k=_;omega
 .rfl
theorem RN{m:Nat}{v w:Int}(a:0<=v)(hw:0<=w):dropped ((m ||| 2 ^ v.toNat:Nat):Int) w=(dropped (m:Int) w||decide (w=v)):=by
 unfold dropped;rw[u9,u9,Nat.testBit_or,Nat.testBit_two_pow]
 grind
theorem oe{i:Nat}{v:Int}{x:bs}(a:s.d6[i]?=σ x):eD s i v.toNat={s with d6:=s.d6.set i {x with mask:=((x.mask.toNat ||| 2 ^ v.toNat:Nat):Int)}}:=by
 grind [eD]
theorem zA{i:Nat}{v:Int}{x:bs}(a:aY k co s)(e:s.d6[i]?=σ x)(j:0<=v/\v<x.un.length):aY k co (eD s i v.toNat):=by
 rw[oe e];have p:=(x4.1 e).1;have q:=a.d6;have h1:=a.var i x _ e (x6 Ω);have r:=a.c5.2.2 _ (Q4 (n:=i) Ω);refine a.ts e rfl h1.2.1 ⟨by grind,?_⟩;have f:x.mask.toNat<2 ^ 32:=Ω
 have h:2 ^ v.toNat<2 ^ 32:=Nat.pow_lt_pow_right Ω Ω;have:=Nat.or_lt_two_pow f h
 grind
theorem Gk{i:Nat}{v bw:Int}{x:bs}(h:aY k co s)(z:eK s a)(f:s.d6[i]?=σ x)(A:x.gone=0)(j:0<=v/\v<x.un.length)(p:a[i]?=σ bw):dO k (eD s i v.toNat) a=if bw=v then k else dO k s a:=by
 have B:=zA h f j;rw[pa B,pa h];have G:(s.d6.zip a)[i]?=σ (x,bw):=T3.2 ⟨f,p⟩;have C:=(z.2 _ x bw f p).resolve_left Ω;obtain⟨y,r⟩:∃y:bs,y={x with mask:=((x.mask.toNat ||| 2 ^ v.toNat:Nat):Int)}:=⟨_,rfl⟩;have E:((eD s i v.toNat).d6.zip a)=(s.d6.zip a).set i (y,bw):=by grind [oe,qq]
 have w:(eD s i v.toNat).zero=s.zero/\(eD s i v.toNat).d7=s.d7:=by grind [oe]
 have H:ik (y,bw)=(ik (x,bw)&&decide (bw≠v)):=by
  unfold ik;rw[r];simp only[A];rw[RN j.1 C.1];have hm:((x.mask.toNat:Nat):Int)=x.mask:=by
   have I:=(x4.1 f).1;have J:=h.d6;have h1:=h.var i x _ f (x6 Ω);omega
  grind
 rw[E,w.1,w.2];by_cases e:bw=v
 .grind [Z3]
 .have K:((s.d6.zip a).set i (y,bw)).all ik=(s.d6.zip a).all ik:=by grind [rR]
  have L:((s.d6.zip a).set i (y,bw)).map cB=(s.d6.zip a).map cB:=by
   rw[V3];have F:cB (y,bw)=cB (x,bw):=by rw[r];rfl
   rw[F];refine j5 λq=>?_
   grind
  grind
theorem RO{i:Nat}{bw:Int}{x:bs}(h:eK s a)(e:s.d6[i]?=σ x)(p:x.gone=0)(f:a[i]?=σ bw)(q:bw∉aL x):dO k s a=k:=by
 have r:=(h.2 _ x bw e f).resolve_left Ω;unfold dO;rw[m5];intro j;have:=List.all_eq_true.1 j (x,bw) (x5 (T3.2 ⟨e,f⟩))
 grind [ik,jq]
end
end Go.Proofs.YtkcigodpbndobaaGreatDoor
namespace Go.Vc
open Go Go.RowKit
section
variable{P:X5}{w:x3}{α:Type}[aq α]{S R:ah}
theorem Gl{k:Nat}{vs:List (List x1)}{i:Nat}{c:List x1}(h:∀x∈vs,x.length=k)(e:c.length=k)(hi:i<vs.length):over vs.flatten (i*k) c=(vs.set i c).flatten:=by
 have:=ys (f:=id) (k:=k) (L:=vs) (i:=i) (a:=c) h e hi
 grind [List.flatMap_id]
theorem RP{l:List α}{i:Nat}(h:bM S R w [v] l)(J:i<l.length):∃g cap full x,v= .slice (σ ⟨g,0,ν⟩) l.length cap/\ag w g x full/\S g/\i*aq.n α+aq.n α<=full.length/\
  ∀{A:ah}{cs:List x1}{a:α},bM A R w cs a->(∀r,r<w.heap.size->S r->¬A r/\¬R r)->∀I,af (λr=>r=g) w I->ag I g x (over full (i*aq.n α) cs)->bM (λr=>S r\/A r) R I [v] (l.set i a):=by
 obtain⟨vs,g,F,f,he,U,hm⟩:=kA h;obtain⟨K,x,L⟩:=hm rfl;obtain⟨X,⟨rfl,Y⟩|⟨cap,full,rfl,B,Z,M,N,ab⟩⟩:=id L
 .omega
 have O:=he.1;have P:(i+1)*aq.n α<=l.length*aq.n α:=V5 _ J;have ac:l.length*aq.n α<=full.length:=by grind
 rw[T7,Nat.one_mul]at P;have C:=K.resolve_left Ξ;refine⟨g,cap,full,x,rfl,B,C,Ω,λ{A cs a}G y I Q T=>?_⟩;have V:=aq.len G;have ad:=(y g B.lt C).1;have ae:=(y g B.lt C).2;have ai:∀c∈vs.set i cs,c.length=aq.n α:=λc p=>by
  rcases T8 p with e|rfl
  .exact he.len c e
  .exact V
 have aj:bZ I g x (aq.n α) (.slice (σ ⟨g,0,ν⟩) l.length cap) (l.set i a).length (vs.set i cs).flatten:=by
  refine⟨by grind [kz,U4],.inr ⟨cap,_,by grind,T,by grind,M,by rw[gf,N],?_⟩⟩
  grind [yt,Gl,lW.len]
 refine⟨_,rfl,vs.set i cs,g,λj r=>if j=i then A r/\r<w.heap.size else F j r/\r<w.heap.size,⟨λj r s=>?_,λ_ j s=>?_,λ_ j q r W h1 e=>?_⟩,⟨by simp[O],λj c a' p z=>?_⟩,?_,by grind⟩
 .split at s
  .grind
  .exact .inl (f.sub j r s.1)
 .split at s
  .grind
  .exact f.top rfl j s.1
 .split at h1<;>split at e
  .omega
  .exact (y r e.2 (f.sub q r e.1)).1 h1.1
  .exact (y r h1.2 (f.sub j r h1.1)).1 e.1
  .exact f.ia rfl j q r W h1.1 e.1
 .by_cases E:j=i
  .subst E;rw[Z3 Ω]at p z;cases p;cases z;have H:bM (λr=>if j=j then A r/\r<w.heap.size else F j r/\r<w.heap.size) R w cs a:=aq.X G (by grind) λ_ _ h=>h
   grind [aq.aa]
  .rw[X3 (Ne.symm E)]at p z;have H:bM (λr=>if j=i then A r/\r<w.heap.size else F j r/\r<w.heap.size) R w c a':=aq.X (he.2 j c a' p z) (by grind) λ_ _ h=>h;refine aq.aa H Q λr s h1 e=>?_;have e:r=g:=e;subst e;rcases h1 with h1|h1
   .simp only[m5 E]at h1;exact f.top rfl j h1.1
   grind
 grind [qZ]
theorem Gm{t:r9}{B:o5}{i b:Nat}{x:x1}{l:List α}{a:α}{A:ah}{K:Unit->x3->Prop}(f:aq.n α=1)(C:y=(i:Int))(E:P.underlying t=σ (.slice e))(hi:aR P e 1 b z)(h:bM S R w [v] l)(j:i<l.length)(F:x.cells= #[x])(q:bM A R w [x] a)(G:∀r,r<w.heap.size->S r->¬A r/\¬R r)(H:∀I,af S w I->bM (λr=>S r\/A r) R I [v] (l.set i a)->K () I):ab P (j4 t v (.int B y)) w λp=>aC P (o7 e p x) w K:=by
 subst C;obtain⟨g,cap,full,O,rfl,J,Q,L,M⟩:=RP h j;rw[f]at L;rw[fv E hi j λ_=>rfl];refine bt (o:=0+i*1) hi F (aq.one q x (.head _)) J Ω λI s _ N=>H I (s.X (by grind)) (M q G I s ?_);rw[f,W7]at*;exact N
end
end Go.Vc
namespace Go.Proofs.YtkcigodpbndobaaGreatDoor
open Go Go.Vc Go.RowKit Go.Proofs Go.Proofs.Tryz
set_option maxRecDepth 100000
abbrev kT:Type:=(Rd (Λ)×Rd (Λ)×Λ)×Bool
abbrev qs:Type:=Int×Rd (Λ)×Rd (Λ)
def kU(f:bH):kT:=((f.sc,f.szs,f.cs),decide (f.live≠0))
def Gn(e:iC):qs:=(e.v,e.sc,e.dn)
def cg(m:Bool)(A:Nat->ah)(R:ah)(w:x3)(cs:List x1)(k:Int)(co:Λ)(zero:Int)(D:List (Λ))(G:List Bool)(aW:List (Λ))(H:List kT)(E:List qs):Prop:=
 ∃d9 a e f h p,cs=[Δ k,d9,Δ zero,a,e,f,h,p]/\Seen R w [d9] co/\
 aq.rep m (A 0) R w [a] D/\aq.rep m (A 1) R w [e] G/\aq.rep m (A 2) R w [f] aW/\aq.rep m (A 3) R w [h] H/\aq.rep m (A 4) R w [p] E/\
 (m=ro->(∀i j r,i≠j->A i r->¬A j r)/\∀i r,A i r->¬R r)
abbrev kl(m:Bool)(A:Nat->ah)(R:ah)(w:x3)(cs:List x1)(k:Int)(co:Λ)(s:am):Prop:=
 cg m A R w cs k co s.zero (s.d6.map aL) (s.d6.map λx=>decide (x.gone≠0)) (s.d6.map (·.un)) (s.d7.map kU) (s.elims.map Gn)
def lC(w:x3)(v:x1)(k:Int)(co:Λ)(s:am):Prop:=∃cs,v= .agg cs.toArray/\kl rs (λ_ _=>False) fo w cs k co s
def jR(A:Nat->ah)(i:Nat)(B:ah):Nat->ah:=λj=>if j=i then B else A j
section
variable{m:Bool}{A:Nat->ah}{R:ah}{w I:x3}{cs:List x1}{k zero:Int}{co:Λ}{D:List (Λ)}{G:List Bool}{aW:List (Λ)}{H:List kT}{E:List qs}{s:am}
theorem cg.len(h:cg m A R w cs k co zero D G aW H E):cs.length=8/\∀u∈cs,u.oneCell'=ro:=by
 obtain⟨d9,e,f,j,p,q,rfl,h1,r,s,x,y,z,_⟩:=h;refine⟨rfl,λu a=>?_⟩;simp only[T5,List.not_mem_nil,or_false]at a;rcases a with rfl|rfl|rfl|rfl|rfl|rfl|rfl|rfl
 .rfl
 .exact nQ h1
 .rfl
 all_goals grind [nQ]
theorem cg.aa{T:ah}(h:cg m A R w cs k co zero D G aW H E)(a:af T w I)(F:∀r,r<w.heap.size->(∃i,A i r)\/R r->¬T r):cg m A R I cs k co zero D G aW H E:=by
 obtain⟨d9,e,f,j,p,q,rfl,h1,s,x,y,z,B,C⟩:=h;have an:∀i r,r<w.heap.size->A i r\/R r->¬T r:=by grind
 exact⟨d9,e,f,j,p,q,rfl,by grind [aq.aa],aq.aa s a (an 0),aq.aa x a (an 1),aq.aa y a (an 2),aq.aa z a (an 3),aq.aa B a (an 4),C⟩
theorem cg.W(h:cg m A R w cs k co zero D G aW H E)(a:Ext w I):cg m A R I cs k co zero D G aW H E:=h.aa (a.aa λ_=>False) λ_ _ _ h=>h
theorem kl.Gp(h:kl m A R w cs k co s):lC w (.agg cs.toArray) k co s:=by
 obtain⟨d9,a,e,f,j,p,rfl,h1,q,r,x,y,z,B⟩:=h;exact⟨_,rfl,d9,a,e,f,j,p,rfl,lj h1,lj q,lj r,lj x,lj y,lj z,by grind⟩
theorem cg.old(h:cg ro A R w cs k co zero D G aW H E):cg ro (λi r=>A i r/\r<w.heap.size) R w cs k co zero D G aW H E:=by
 obtain⟨d9,e,f,j,p,q,rfl,h1,s,x,y,z,B,a⟩:=h;obtain⟨a,C⟩:=a rfl;have hm:∀i r,r<w.heap.size->A i r->A i r/\r<w.heap.size:=by grind
 exact⟨d9,e,f,j,p,q,rfl,h1,aq.X s (hm 0) λ_ _ h=>h,aq.X x (hm 1) λ_ _ h=>h,aq.X y (hm 2) λ_ _ h=>h,aq.X z (hm 3) λ_ _ h=>h,aq.X B (hm 4) λ_ _ h=>h,
  by grind⟩
theorem wc{i:Nat}{B:ah}(h:∀i j r,i≠j->A i r->¬A j r)(e:∀j r,j≠i->B r->¬A j r):∀p q r,p≠q->jR A i B p r->¬jR A i B q r:=λp q r f h1 a=>by
 unfold jR at h1 a
 grind
theorem we{i:Nat}{B:ah}(h:∀i r,A i r->¬R r)(a:∀r,B r->¬R r):∀p r,jR A i B p r->¬R r:=λp r h1=>by
 unfold jR at h1
 grind
theorem cg.Gq{B:ah}{x:x1}{D':List (Λ)}(h:cg ro A R w cs k co zero D G aW H E){T:ah}(a:af T w I)(N:∀r,T r->A 0 r\/(∀j,¬A j r)/\¬R r)(f:bM B R I [x] D')(p:∀j r,j≠0->B r->¬A j r)(q:∀r,B r->¬R r):cg ro (jR A 0 B) R I (cs.set 3 x) k co zero D' G aW H E:=by
 obtain⟨d9,O,s,y,z,C,rfl,h1,P,F,J,K,L,e⟩:=h;obtain⟨e,M⟩:=e rfl;have Q:∀r,R r->¬T r:=by grind
 have an:∀j r,j≠0->r<w.heap.size->A j r\/R r->¬T r:=by grind
 refine⟨d9,x,s,y,z,C,rfl,by grind [aq.aa],?_,?_,?_,?_,?_,λ_=>⟨wc e p,we M q⟩⟩
 .exact f
 .exact aq.aa F a λr=>an 1 r Ω
 .exact aq.aa J a λr=>an 2 r Ω
 .exact aq.aa K a λr=>an 3 r Ω
 .exact aq.aa L a λr=>an 4 r Ω
theorem cg.RQ{B:ah}{x:x1}{f:List Bool}(h:cg ro A R w cs k co zero D G aW H E){T:ah}(a:af T w I)(O:∀r,T r->A 1 r\/(∀j,¬A j r)/\¬R r)(p:bM B R I [x] f)(q:∀j r,j≠1->B r->¬A j r)(s:∀r,B r->¬R r):cg ro (jR A 1 B) R I (cs.set 4 x) k co zero D f aW H E:=by
 obtain⟨d9,y,P,z,C,F,rfl,h1,J,Q,K,L,M,e⟩:=h;obtain⟨e,N⟩:=e rfl;have S:∀r,R r->¬T r:=by grind
 have an:∀j r,j≠1->r<w.heap.size->A j r\/R r->¬T r:=by grind
 refine⟨d9,y,x,z,C,F,rfl,by grind [aq.aa],?_,?_,?_,?_,?_,λ_=>⟨wc e q,we N s⟩⟩
 .exact aq.aa J a λr=>an 0 r Ω
 .exact p
 .exact aq.aa K a λr=>an 2 r Ω
 .exact aq.aa L a λr=>an 3 r Ω
 .exact aq.aa M a λr=>an 4 r Ω
theorem cg.kR{B:ah}{x:x1}{f:List (Λ)}(h:cg ro A R w cs k co zero D G aW H E){T:ah}(a:af T w I)(O:∀r,T r->A 2 r\/(∀j,¬A j r)/\¬R r)(p:bM B R I [x] f)(q:∀j r,j≠2->B r->¬A j r)(s:∀r,B r->¬R r):cg ro (jR A 2 B) R I (cs.set 5 x) k co zero D G f H E:=by
 obtain⟨d9,y,z,P,C,F,rfl,h1,J,K,Q,L,M,e⟩:=h;obtain⟨e,N⟩:=e rfl;have S:∀r,R r->¬T r:=by grind
 have an:∀j r,j≠2->r<w.heap.size->A j r\/R r->¬T r:=by grind
 refine⟨d9,y,z,x,C,F,rfl,by grind [aq.aa],?_,?_,?_,?_,?_,λ_=>⟨wc e q,we N s⟩⟩
 .exact aq.aa J a λr=>an 0 r Ω
 .exact aq.aa K a λr=>an 1 r Ω
 .exact p
 .exact aq.aa L a λr=>an 3 r Ω
 .exact aq.aa M a λr=>an 4 r Ω
theorem cg.kS{B:ah}{x:x1}{f:List kT}(h:cg ro A R w cs k co zero D G aW H E){T:ah}(a:af T w I)(O:∀r,T r->A 3 r\/(∀j,¬A j r)/\¬R r)(p:bM B R I [x] f)(q:∀j r,j≠3->B r->¬A j r)(s:∀r,B r->¬R r):cg ro (jR A 3 B) R I (cs.set 6 x) k co zero D G aW f E:=by
 obtain⟨d9,y,z,C,P,F,rfl,h1,J,K,L,Q,M,e⟩:=h;obtain⟨e,N⟩:=e rfl;have S:∀r,R r->¬T r:=by grind
 have an:∀j r,j≠3->r<w.heap.size->A j r\/R r->¬T r:=by grind
 refine⟨d9,y,z,C,x,F,rfl,by grind [aq.aa],?_,?_,?_,?_,?_,λ_=>⟨wc e q,we N s⟩⟩
 .exact aq.aa J a λr=>an 0 r Ω
 .exact aq.aa K a λr=>an 1 r Ω
 .exact aq.aa L a λr=>an 2 r Ω
 .exact p
 .exact aq.aa M a λr=>an 4 r Ω
theorem cg.RR{z:Int}(h:cg m A R w cs k co zero D G aW H E):cg m A R w (cs.set 2 (Δ z)) k co z D G aW H E:=by
 obtain⟨d9,a,e,f,j,p,rfl,h1,q,r,s,x,y,B⟩:=h;exact⟨d9,a,e,f,j,p,rfl,h1,q,r,s,x,y,B⟩
end
theorem wg{α:Type}[aq α]{st t L:r9}{C:List (Nat×Nat)}{c q b M:Nat}{N y:x1}{box cs:List x1}{S A R:ah}{l:List α}{a:α}{K:x3->Prop}(O:bN x7 st C)(P:C[c]?=σ (c,q+1))(Q:x7.underlying t=σ (.slice e))(T:aR x7 t 1 M N)(hi:aR x7 e (aq.n α) b z)(W:z.cells.size=aq.n α)(E:ag w gs st box)(X:box[c]?=σ v)(h:bM S R w [v] l)(U:b4 w (aq.n α) y 1 cs)(Y:bM A R w cs a)(Z:∀r,r<w.heap.size->S r->¬A r/\¬R r)(p:¬S gs/\¬A gs/\¬R gs)(aj:(l.length+1)*b<=140737488355328)(ak:l.length+1<=1000000)(ac:∀j I,af (λr=>S r\/r=gs) w I->ag I gs st (box.set c j)->bM (λr=>S r\/A r\/w.heap.size<=r) R I [j] (l++[a])->K I):
  aC x7 (j6 #[t,t] L #[v,y]) w λj V=>ab x7 (u6 st (Γ gs) c) V λad=>aC x7 (o7 t ad j) V λ_ s=>K s:=by
 have ae:=(x4.1 X).1;refine pM Q hi W h U Y (λr F U f=>?_) Ω Ω λj V x G=>?_
 .have:=Z r F U;exact f.elim this.1 this.2
 have ai:=E.aa G p.1;rw[aT O P];refine bt (o:=0+c) T (su x) (nQ x) ai (by rw[W7];exact ae) λs H al J=>?_;refine ac j s ((G.X λr _ h=>.inl h).F (H.X λr _ h=>.inr h)) (by rw[W7]at J;exact J) (aq.aa x H λr F f B=>?_);have B:r=gs:=B;subst B;have am:=E.lt;rcases f with f|f
 .rcases f with f|f|f
  .exact p.1 f
  .exact p.2.1 f
  .omega
 .exact p.2.2 f
section
variable{A:Nat->ah}{B R:ah}{w:x3}{cs xs:List x1}{gs:Nat}{y v:x1}{k zero:Int}{co:Λ}{D:List (Λ)}{G:List Bool}{aW:List (Λ)}{H:List kT}{E:List qs}{K:x3->Prop}
theorem cg.RS{S:r9}(h:cg ro A R w cs k co zero D G aW H E)(J:ag w gs a6 cs)(x:cs[3]?=σ v)(f:∀j r,A j r->gs<r)(s:∀r,R r->r<gs)(U:b4 w 1 y 1 xs)(W:bM B R w xs a)(q:∀r,r<w.heap.size->B r->(∀j,¬A j r)/\gs<r)(ak:D.length<=1000)(X:∀aH ck I,af (λr=>gs<=r) w I->ag I gs a6 ck->cg ro aH R I ck k co zero (D++[a]) G aW H E->(∀j r,aH j r->gs<r)->(∀j,j≠3->ck[j]?=cs[j]?)->K I):
  aC x7 (j6 #[dL,dL] S #[v,y]) w λL V=>ab x7 (u6 a6 (Γ gs) 3) V λY=>aC x7 (o7 dL Y L) V λ_ z=>K z:=by
 have M:=h.old;have Z:=J.lt;obtain⟨d9,aa,am,an,ao,N,ac,h1,ad,ap,au,av,aw,C⟩:=id M;obtain⟨C,O⟩:=C rfl;have N:v=aa:=by rw[ac]at x;exact(Z7 x).symm
 subst N;have ae:bM (λr=>B r/\r<w.heap.size) R w xs a:=aq.X W (λr e h=>⟨h,e⟩) λ_ _ h=>h;refine wg a6.p rfl dL.u dL.i al.i rfl J x ad U ae (λr e P=>⟨λah=>(q r e ah.1).1 0 P.1,O 0 r P⟩) ⟨λh=>by have:=f 0 gs h.1;omega,λh=>by have:=(q gs Z h.1).2;omega,λh=>by have:=s gs h;omega⟩ Ω Ω λL z Q ai aj=>?_;refine X _ _ z (Q.X λr _ h=>h.elim (λh=>by have:=f 0 r h.1;omega) λh=>Ω) ai (M.Gq Q (λr e=>?_) aj (λj r F e=>?_) λr e=>?_) (λj r e=>?_) λj F=>?_
 .rcases e with e|rfl
  .exact .inl e
  .exact .inr ⟨λj h=>by have:=f j r h.1;omega,λh=>by have:=s r h;omega⟩
 .rcases e with e|e|e
  .exact C 0 j r (Ne.symm F) e
  .exact λh=>(q r e.2 e.1).1 j h.1
  .exact λh=>by have:=h.2;omega
 .rcases e with e|e|e
  .exact O 0 r e
  .exact λh=>by have:=(q r e.2 e.1).2;have:=s r h;omega
  .exact λh=>by have:=s r h;omega
 .unfold jR at e;split at e
  .rcases e with e|e|e
   .exact f 0 r e.1
   .exact (q r e.2 e.1).2
   .omega
  .exact f j r e.1
 .rw[X3 (Ne.symm F)]
theorem cg.RT{a:Bool}{S:r9}(h:cg ro A R w cs k co zero D G aW H E)(J:ag w gs a6 cs)(x:cs[4]?=σ v)(f:∀j r,A j r->gs<r)(s:∀r,R r->r<gs)(U:b4 w 1 y 1 xs)(W:bM B R w xs a)(q:∀r,r<w.heap.size->B r->(∀j,¬A j r)/\gs<r)(ak:G.length<=1000)(X:∀aH ck I,af (λr=>gs<=r) w I->ag I gs a6 ck->cg ro aH R I ck k co zero D (G++[a]) aW H E->(∀j r,aH j r->gs<r)->(∀j,j≠4->ck[j]?=cs[j]?)->K I):
  aC x7 (j6 #[lS,lS] S #[v,y]) w λL V=>ab x7 (u6 a6 (Γ gs) 4) V λY=>aC x7 (o7 lS Y L) V λ_ z=>K z:=by
 have M:=h.old;have Z:=J.lt;obtain⟨d9,al,aa,am,an,N,ac,h1,ao,ad,ap,au,av,C⟩:=id M;obtain⟨C,O⟩:=C rfl;have N:v=aa:=by rw[ac]at x;exact(Z7 x).symm
 subst N;have ae:bM (λr=>B r/\r<w.heap.size) R w xs a:=aq.X W (λr e h=>⟨h,e⟩) λ_ _ h=>h;refine wg a6.p rfl lS.u lS.i ir.i rfl J x ad U ae (λr e P=>⟨λah=>(q r e ah.1).1 1 P.1,O 1 r P⟩) ⟨λh=>by have:=f 1 gs h.1;omega,λh=>by have:=(q gs Z h.1).2;omega,λh=>by have:=s gs h;omega⟩ Ω Ω λL z Q ai aj=>?_;refine X _ _ z (Q.X λr _ h=>h.elim (λh=>by have:=f 1 r h.1;omega) λh=>Ω) ai (M.RQ Q (λr e=>?_) aj (λj r F e=>?_) λr e=>?_) (λj r e=>?_) λj F=>?_
 .rcases e with e|rfl
  .exact .inl e
  .exact .inr ⟨λj h=>by have:=f j r h.1;omega,λh=>by have:=s r h;omega⟩
 .rcases e with e|e|e
  .exact C 1 j r (Ne.symm F) e
  .exact λh=>(q r e.2 e.1).1 j h.1
  .exact λh=>by have:=h.2;omega
 .rcases e with e|e|e
  .exact O 1 r e
  .exact λh=>by have:=(q r e.2 e.1).2;have:=s r h;omega
  .exact λh=>by have:=s r h;omega
 .unfold jR at e;split at e
  .rcases e with e|e|e
   .exact f 1 r e.1
   .exact (q r e.2 e.1).2
   .omega
  .exact f j r e.1
 .rw[X3 (Ne.symm F)]
theorem cg.RU{S:r9}(h:cg ro A R w cs k co zero D G aW H E)(J:ag w gs a6 cs)(x:cs[5]?=σ v)(f:∀j r,A j r->gs<r)(s:∀r,R r->r<gs)(U:b4 w 1 y 1 xs)(W:bM B R w xs a)(q:∀r,r<w.heap.size->B r->(∀j,¬A j r)/\gs<r)(ak:aW.length<=1000)(X:∀aH ck I,af (λr=>gs<=r) w I->ag I gs a6 ck->cg ro aH R I ck k co zero D G (aW++[a]) H E->(∀j r,aH j r->gs<r)->(∀j,j≠5->ck[j]?=cs[j]?)->K I):
  aC x7 (j6 #[e0,e0] S #[v,y]) w λL V=>ab x7 (u6 a6 (Γ gs) 5) V λY=>aC x7 (o7 e0 Y L) V λ_ z=>K z:=by
 have M:=h.old;have Z:=J.lt;obtain⟨d9,al,am,aa,an,N,ac,h1,ao,ap,ad,au,av,C⟩:=id M;obtain⟨C,O⟩:=C rfl;have N:v=aa:=by rw[ac]at x;exact(Z7 x).symm
 subst N;have ae:bM (λr=>B r/\r<w.heap.size) R w xs a:=aq.X W (λr e h=>⟨h,e⟩) λ_ _ h=>h;refine wg a6.p rfl e0.u e0.i aw.i rfl J x ad U ae (λr e P=>⟨λah=>(q r e ah.1).1 2 P.1,O 2 r P⟩) ⟨λh=>by have:=f 2 gs h.1;omega,λh=>by have:=(q gs Z h.1).2;omega,λh=>by have:=s gs h;omega⟩ Ω Ω λL z Q ai aj=>?_;refine X _ _ z (Q.X λr _ h=>h.elim (λh=>by have:=f 2 r h.1;omega) λh=>Ω) ai (M.kR Q (λr e=>?_) aj (λj r F e=>?_) λr e=>?_) (λj r e=>?_) λj F=>?_
 .rcases e with e|rfl
  .exact .inl e
  .exact .inr ⟨λj h=>by have:=f j r h.1;omega,λh=>by have:=s r h;omega⟩
 .rcases e with e|e|e
  .exact C 2 j r (Ne.symm F) e
  .exact λh=>(q r e.2 e.1).1 j h.1
  .exact λh=>by have:=h.2;omega
 .rcases e with e|e|e
  .exact O 2 r e
  .exact λh=>by have:=(q r e.2 e.1).2;have:=s r h;omega
  .exact λh=>by have:=s r h;omega
 .unfold jR at e;split at e
  .rcases e with e|e|e
   .exact f 2 r e.1
   .exact (q r e.2 e.1).2
   .omega
  .exact f j r e.1
 .rw[X3 (Ne.symm F)]
theorem cg.RV{a:kT}{S:r9}(h:cg ro A R w cs k co zero D G aW H E)(J:ag w gs a6 cs)(x:cs[6]?=σ v)(f:∀j r,A j r->gs<r)(s:∀r,R r->r<gs)(U:b4 w 4 y 1 xs)(W:bM B R w xs a)(q:∀r,r<w.heap.size->B r->(∀j,¬A j r)/\gs<r)(ak:H.length<=1000)(X:∀aH ck I,af (λr=>gs<=r) w I->ag I gs a6 ck->cg ro aH R I ck k co zero D G aW (H++[a]) E->(∀j r,aH j r->gs<r)->(∀j,j≠6->ck[j]?=cs[j]?)->K I):
  aC x7 (j6 #[gE,gE] S #[v,y]) w λL V=>ab x7 (u6 a6 (Γ gs) 6) V λY=>aC x7 (o7 gE Y L) V λ_ z=>K z:=by
 have M:=h.old;have Z:=J.lt;obtain⟨d9,al,am,an,aa,N,ac,h1,ao,ap,au,ad,av,C⟩:=id M;obtain⟨C,O⟩:=C rfl;have N:v=aa:=by rw[ac]at x;exact(Z7 x).symm
 subst N;have ae:bM (λr=>B r/\r<w.heap.size) R w xs a:=aq.X W (λr e h=>⟨h,e⟩) λ_ _ h=>h;refine wg a6.p rfl gE.u gE.i fO.i rfl J x ad U ae (λr e P=>⟨λah=>(q r e ah.1).1 3 P.1,O 3 r P⟩) ⟨λh=>by have:=f 3 gs h.1;omega,λh=>by have:=(q gs Z h.1).2;omega,λh=>by have:=s gs h;omega⟩ Ω Ω λL z Q ai aj=>?_;refine X _ _ z (Q.X λr _ h=>h.elim (λh=>by have:=f 3 r h.1;omega) λh=>Ω) ai (M.kS Q (λr e=>?_) aj (λj r F e=>?_) λr e=>?_) (λj r e=>?_) λj F=>?_
 .rcases e with e|rfl
  .exact .inl e
  .exact .inr ⟨λj h=>by have:=f j r h.1;omega,λh=>by have:=s r h;omega⟩
 .rcases e with e|e|e
  .exact C 3 j r (Ne.symm F) e
  .exact λh=>(q r e.2 e.1).1 j h.1
  .exact λh=>by have:=h.2;omega
 .rcases e with e|e|e
  .exact O 3 r e
  .exact λh=>by have:=(q r e.2 e.1).2;have:=s r h;omega
  .exact λh=>by have:=s r h;omega
 .unfold jR at e;split at e
  .rcases e with e|e|e
   .exact f 3 r e.1
   .exact (q r e.2 e.1).2
   .omega
  .exact f j r e.1
 .rw[X3 (Ne.symm F)]
end
end Go.Proofs.YtkcigodpbndobaaGreatDoor
