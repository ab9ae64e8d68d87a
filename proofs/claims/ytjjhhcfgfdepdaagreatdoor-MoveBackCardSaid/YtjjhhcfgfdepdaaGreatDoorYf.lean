/- own texts, made small by a tool (wip/ holds them as they were written): no statement of the seat. -/
import Derived.Test.YtjjhhcfgfdepdaaGreatDoorYe
set_option linter.unusedVariables false
set_option linter.unusedSimpArgs false
set_option linter.unnecessarySimpa false
open Array renaming getElem?_eq_some_iff→j0
open Bool renaming not_true→Y4,not_false→W5,eq_iff_iff→V3,and_eq_true→U4,true_and→U7
open Decidable renaming not_not→Y3
open Go renaming Value→x1,World→x3,TypeId→r9,IntKind→o6,Program→W3,FuncId→R3
open Go.Builtin renaming append_→b8,len_→W7
open Go.Instr renaming loadAt→u5,fieldAt→u6,storeAt→o8,indexAt→c7,extract→Z7,alloc→T7
open Go.IntKind renaming i64→X2,u64→U2
open Go.Proofs.Tryz renaming prog→x7
open Go.Value renaming int→V0
open Int renaming toNat_natCast→r8,eq_ofNat_of_zero_le→V7
open List renaming getElem?_eq_some_iff→x4,mem_of_getElem?→x5,getElem?_eq_getElem→x6,getElem?_map→x8,getD_eq_getElem?_getD→u4,length_map→u7,take_add_one→u9,length_append→p8,replicate→p9,take_length→o5,take_of_length_le→o9,mem_map→n9,mem_append→l7,mem_singleton→l9,getElem?_set_self→j4,length_take→j5,map_append→j6,append_assoc→c9,eq_nil_of_length_eq_zero→b9,length_set→Z2,getElem?_eq_none→Z3,getElem?_append_left→Z8,getElem?_append_right→Z9,getElem?_set_ne→Y0,ext_getElem?→Y2,flatMap_cons→Y6,mem_iff_getElem?→X4,drop_eq_getElem_cons→X7,append_nil→X9,mem_cons→W6,length_eq_one_iff→W8,map_cons→V4,map_set→U3,mem_filter→U8,length→T1,mem_of_mem_take→T3,map_map→S8
open Nat renaming le_refl→o4,le_trans→Y5,zero_le→X3,zero_add→X5,mul_one→U9,pow_le_pow_right→T6,eq_zero_or_pos→S4,add_assoc→S9,add_sub_cancel_left→R2,lt_of_lt_of_le→R5
open Ne renaming symm→S3
open Option renaming toList_some→o7,map_some→Z4,isNone_some→Z5,map_eq_some_iff→Y7,getD_some→V6,isSome_some→S6,isSome_none→S7
open Option.some renaming inj→c8
set_option maxHeartbeats 16000000
open Option renaming some→σ,none→ν
variable {w w':x3}{a ga gt gtb gy j l m pos:Nat}{c v:Int}{pl tl:Λ}{D:Nat->Prop}
namespace Go.Proofs.YtjjhhcfgfdepdaaGreatDoor
open Go Go.Vc Go.RowKit Go.Proofs Go.Proofs.Tryz
set_option maxRecDepth 100000
def q8 (s:au):Prop:=∀x∈s.vars,x.gone=0\/x.gone=1
theorem mW {α β:Type} {f:α->β} {l:List α} {i:Nat} {x:α} (h:l[i]? =σ x):(l.take (i+1)).map f=(l.take i).map f++[f x]:=by
 rw[u9,h,o7,j6,List.map_singleton]
theorem pt {α β a:Type} {f:α->a} {g:β->a} {l:List α} {m:List β} {i:Nat} {x:α} {y:β} (h:l.map f=m.map g) (e:l[i]? =σ x) (j:m[i]? =σ y):f x=g y:=by
 have:(l.map f)[i]? =(m.map g)[i]?:=by rw[h]
 rw[x8,x8,e,j] at this;exact c8 this
theorem EA {a:Int} {aF bv:x1} {e f:Λ} (h1:Seen dg w [aF] e) (h:Seen dg w [bv] f):∀u∈[Δ a,aF,bv],u.oneCell'=true:=by
 intro u hu;simp only[W6,List.not_mem_nil,or_false] at hu;rcases hu with rfl|rfl|rfl
 .rfl
 .exact e6 h1
 .exact e6 h
section
variable {w:x3} {xs gF:x1} {k:Int} {sizes:Λ} {s t:au}
theorem Pt {Q:x1->x3->Prop} (I:hC w xs k sizes s) (dd:hC w gF k sizes t) (aq:bq k sizes s) (a2:bq k sizes t) (gs:q8 s) (gt:q8 t) (cq:s.funs.length<=100000/\t.funs.length<=100000)
  (au:¬ps s t-> ∀w',Ext w w'->Q (.bool false) w') (dg:ps s t-> ∀w',Ext w w'->Q (.bool true) w'):ai x7 yR [xs,gF] w Q:=by
 have ev:=aq.vars;have bw:=a2.vars;have ew:=aq.fb.2.1;have one:∀ {w:x3} {α:Type} [ak α] {m:Bool} {S R:ag} {c:List x1} {l:List α},ak.rep m S R w c l-> ∃v,c=[v]:=λh=>by obtain⟨v,bx,_⟩:=h;exact⟨v,bx⟩
 refine aw func26 ?_;refine bm λg1 J ey bV dh=>?_;refine bm λez U eA bW di=>?_;have cr:=(I.box bV dh).ext bW;have ct:=dd.box (bV.trans bW) di;have ab:=bV.trans bW;obtain⟨szv,eC,dj,eE,eF,eH,H,cu,_,bX,dk,dl,eI,bz⟩:=id cr;obtain⟨eJ,eK,eL,eM,eN,ev',aG,_,_,dm,dn,dp,eO,cw⟩:=id ct;refine aU (λv cz=>v= .bool (!decide (s.zero=t.zero/\s.ce.length=t.ce.length))/\Ext U cz) ?_ λav M=>?_
 rotate_left
 .rw[aA aE.p 2 H rfl,aA aE.p 2 aG rfl,bL,aj];refine⟨λj=>M _ _ ⟨by rw[decide_eq_false λh=>j (by rw[h.1])];rfl,Ext.refl _⟩,λa6=>?_⟩;rw[aA aE.p 7 H rfl,fA jz.u bz,u7,aA aE.p 7 aG rfl,fA jz.u cw,u7,bL];refine M _ _ ⟨?_,Ext.refl _⟩;congr 1;have a6:s.zero=t.zero:=Y3.1 a6;by_cases C:s.ce.length=t.ce.length
  .rw[decide_eq_true (show _/\_ from⟨a6,C⟩)];exact decide_eq_false Ω
  .rw[decide_eq_false (λh:_/\_=>C h.2)];exact decide_eq_true Ω
 rintro _ cz ⟨rfl,bA⟩;rw[bY];refine⟨λj=>au (λh=>by rw[decide_eq_true (show _/\_ from⟨h.zero,h.Pp⟩)] at j;cases j) _ (ab.trans bA),λdq=>?_⟩;obtain⟨a6,dr⟩:s.zero=t.zero/\s.ce.length=t.ce.length:=by simpa using dq
 rw[aA aE.p 1 (H.ext bA) rfl,aX am.u (cu.ext bA)];refine b1.range sizes.length (λi _ bZ=>Ext U bZ/\(s.vars.take i).map dN=(t.vars.take i).map dN) cu.le ⟨bA,rfl⟩ ?_ ?_
 .rintro i t4 bZ a8 hi ⟨bb,be⟩ bf;obtain⟨x,ax⟩:=aI (l:=s.vars) (i:=i) Ω;obtain⟨y,aC⟩:=aI (l:=t.vars) (i:=i) Ω;have an:=gs x (x5 ax);have gy:=gt y (x5 aC);have cA:ps s t->dN x=dN y:=λh=>pt h.vars ax aC;have cB:(s.vars.map ay)[i]? =σ (ay x):=by rw[x8,ax];rfl
  have ds:(t.vars.map ay)[i]? =σ (ay y):=by rw[x8,aC];rfl
  have dt:(s.vars.map λx=>decide (x.gone≠0))[i]? =σ (decide (x.gone≠0)):=by rw[x8,ax];rfl
  have du:(t.vars.map λx=>decide (x.gone≠0))[i]? =σ (decide (y.gone≠0)):=by rw[x8,aC];rfl
  have dv:(s.vars.map (·.un))[i]? =σ x.un:=by rw[x8,ax];rfl
  have dw:(t.vars.map (·.un))[i]? =σ y.un:=by rw[x8,aC];rfl
  have eP:=(aq.var i x _ ax (x6 hi)).1;have eQ:=(a2.var i y _ aC (x6 hi)).1;have dx:∀d∈ay x,0<=d/\d<(x.un.length:Int):=λd V=>by
   unfold ay at V;obtain⟨h1,_⟩:=U8.1 V;obtain⟨q,bC,rfl⟩:=n9.1 h1;have:=List.mem_range.1 bC;omega
  have cC:∀ {E:x3} {K:x1->Prop},Ext U E->K (.bool (decide (x.gone≠0)))->aa x7 (c7 hn dj (Δ (i:Int))) E λp=>aa x7 (u5 eB p) E K:=λaH b0=>by
   refine ia (α:=Bool) (a:=decide (x.gone≠0)) rfl hn.u eB.i (bc dk aH) dt λb o cs b2 W=>?_;obtain rfl:cs=[.bool (decide (x.gone≠0))]:=W;rw[aB (v:=.bool (decide (x.gone≠0))) Ψ (by have:=b2 0 _ rfl;simpa using this)];exact b0
  refine bH Ω ?_;refine aU (λv N=>v= .bool (!decide (x.gone=y.gone/\ay x=ay y))/\Ext U N) ?_ λeR cD=>?_
  rotate_left
  .intro N A _ _;have O:=bb.trans A;rw[aA aE.p 4 (H.ext O) rfl];refine cC O ?_;rw[aA aE.p 4 (aG.ext O) rfl];refine ia (α:=Bool) (a:=decide (y.gone≠0)) rfl hn.u eB.i (bc dn O) du λb o cs b2 W=>?_;obtain rfl:cs=[.bool (decide (y.gone≠0))]:=W;rw[aB (v:=.bool (decide (y.gone≠0))) Ψ (by have:=b2 0 _ rfl;simpa using this),Pq eB.u,bY];have dy:(decide (x.gone≠0) == decide (y.gone≠0))=decide (x.gone=y.gone):=by
    rcases an with e|e<;>rcases gy with z|z<;>rw[e,z]<;>decide
   rw[dy];refine⟨λj=>cD _ _ ⟨by rw[decide_eq_false (λh:_/\_=>by rw[decide_eq_true h.1] at j;cases j)];rfl,O⟩,λj=>?_⟩;have bD:x.gone=y.gone:=by simpa using j
   rw[aA aE.p 3 (H.ext O) rfl];refine gK (α:=Λ) (a:=ay x) rfl rfl cK.u am.i Ψ (bc bX O) cB λcE X=>?_;rw[aA aE.p 3 (aG.ext O) rfl];refine gK (α:=Λ) (a:=ay y) rfl rfl cK.u am.i Ψ (bc dm O) ds λeS dz=>?_;refine (p4 (cU X) (cU dz)).mono ?_;rintro _ aJ _ ⟨rfl,P⟩;rw[bG];exact cD _ _ ⟨by congr 2;exact decide_eq_decide.2 ⟨λh=>⟨bD,h⟩,λh=>h.2⟩,O.trans P⟩
  rintro _ N ⟨rfl,A⟩;rw[bY];refine⟨λj=>au (λh=>by
   have h:=q6.1 (cA h);rw[decide_eq_true (show _/\_ from⟨h.1,h.2.1⟩)] at j;cases j) _ (ab.trans A),λj=>?_⟩
  obtain⟨bD,b4⟩:x.gone=y.gone/\ay x=ay y:=by simpa using j
  rw[aA aE.p 3 (H.ext A) rfl];refine gK (α:=Λ) (a:=ay x) rfl rfl cK.u am.i Ψ (bc bX A) cB λcE X=>?_;have X:=cU X;rw[aX am.u X];refine b1.range (ay x).length (λq _ aJ=>Ext N aJ/\(x.gone=0->((ay x).take q).map (λv=>x.un.getD v.toNat 0)=((ay x).take q).map (λv=>y.un.getD v.toNat 0))) X.le ⟨Ext.refl _,λ_=>rfl⟩ ?_ ?_
  .rintro q b5 aJ dA bC ⟨P,bE⟩ dC;obtain⟨d,V⟩:=aI (l:=(ay x)) bC;have eU:=dx d (x5 V);obtain⟨c,W⟩:=aI (l:=x.un) (i:=d.toNat) Ω;obtain⟨ac,bg⟩:∃c,y.un[d.toNat]? =σ c:=⟨_,x6 Ω⟩;have cF:x.un.getD d.toNat 0=c:=by rw[u4,W];rfl
   have cG:y.un.getD d.toNat 0=ac:=by rw[u4,bg];rfl
   refine bH Ω ?_;rw[bd am.u ah.i Ψ (X.ext P) V];refine aU (λr aK=>r= .bool (!decide (x.gone=0->c=ac))/\Ext N aK) ?_ λeV cH=>?_
   .rintro _ aK ⟨rfl,aL⟩;rw[bY];refine⟨λj=>au (λh=>?_) _ (ab.trans (A.trans aL)),λj=>?_⟩
    .have h:=(q6.1 (cA h)).2.2;rw[decide_eq_true λae=>?_] at j
     .cases j
     .unfold fW at h;rw[if_neg Ω,if_neg Ω,<-b4] at h;have:=pt h V V;rw[cF,cG] at this;exact this
    .rw[aP];have dD:x.gone=0->c=ac:=by simpa using j
     exact dC _ _ ⟨aL,λae=>by rw[mW V,mW V,bE ae,cF,cG,dD ae]⟩
   .intro bF aN _ _;have b6:=P.trans aN;have B:=A.trans b6;rw[aA aE.p 4 (H.ext B) rfl];refine cC B ?_;rw[bG,bY];refine⟨λaf=>?_,λaf=>cH _ _ ⟨by rw[decide_eq_true λh=>absurd h (by simpa using af)];rfl,b6⟩⟩;have ae:x.gone=0:=by simpa using af
    rw[aA aE.p 5 (H.ext B) rfl];refine gK (α:=Λ) (a:=x.un) rfl rfl cN.u ao.i Ψ (bc dl B) dv λeW dE=>?_;rw[fy (y:=d) (i:=d.toNat) Ω ao.u al.i Ψ (cU dE) W,aA aE.p 5 (aG.ext B) rfl];refine gK (α:=Λ) (a:=y.un) rfl rfl cN.u ao.i Ψ (bc dp B) dw λeX dF=>?_;rw[fy (y:=d) (i:=d.toNat) Ω ao.u al.i Ψ (cU dF) bg,bL];refine cH _ _ ⟨?_,b6⟩;congr 1;by_cases h:c=ac
    .rw[decide_eq_true (p:=x.gone=0->c=ac) λ_=>h];exact decide_eq_false Ω
    .rw[decide_eq_false (p:=x.gone=0->c=ac) λY=>h (Y ae)];exact decide_eq_true h
  .rintro b5 aJ dA ⟨P,bE⟩;refine cd Ω ?_;rw[aP];rw[o5] at bE;refine bf _ _ ⟨A.trans P,?_⟩;rw[mW ax,mW aC,be];congr 2;refine q6.2 ⟨bD,b4,?_⟩;unfold fW;by_cases ae:x.gone=0
   .rw[if_neg Ω,if_neg Ω,<-b4];exact bE ae
   .rw[if_pos ae,if_pos Ω]
 rintro t4 bZ a8 ⟨bb,b7⟩;rw[o9 Ω,o9 Ω] at b7;refine cd Ω ?_;rw[aA aE.p 7 (H.ext bb) rfl,fA jz.u (bc bz bb),u7];have cI:=nv bz;rw[u7] at cI;refine b1.range s.ce.length (λi _ N=>Ext U N/\(s.ce.take i).map fK=(t.ce.take i).map fK) cI ⟨bb,rfl⟩ ?_ ?_
 .rintro i t4 N a8 hi ⟨A,be⟩ bf;obtain⟨e,b8⟩:=aI (l:=s.ce) (i:=i) Ω;obtain⟨z,b9⟩:∃y,t.ce[i]? =σ y:=⟨_,x6 Ω⟩;have dG:ps s t->e.v=z.v/\e.sc=z.sc/\e.ha=z.ha:=λh=>(Ew (r:=[]) (r':=[]) (by rw[pt h.ce b8 b9])).1;refine bH Ω ?_;refine kj (α:=jr) (a:=l5 e) fM.p rfl jz.u fM.i (bc bz A) (by rw[x8,b8];rfl) λcs bh=>?_;obtain⟨aF,bv,rfl,bI,bJ⟩:=Ey bh;refine bB fM.i λge aJ bD P dH=>?_;refine b3 (vs:=[Δ e.v,aF,bv]) fM.i rfl rfl (EA bI bJ) dH λaK dI eY dJ=>?_;have cJ:Ext N aK:=P.put dI Ω;have ca:=A.trans cJ;rw[aA aE.p 7 (aG.ext ca) rfl];refine kj (α:=jr) (a:=l5 z) fM.p rfl jz.u fM.i (bc cw ca) (by rw[x8,b9];rfl) λcs bh=>?_;obtain⟨dK,dL,rfl,cM,cP⟩:=Ey bh;refine bB fM.i λeZ bF e0 aN dM=>?_;refine b3 (vs:=[Δ z.v,dK,dL]) fM.i rfl rfl (EA cM cP) dM λbi dO e1 cb=>?_;have bj:Ext aK bi:=aN.put dO Ω;have cc:=ca.trans bj;have cg:=dJ.ext bj;have cQ:=cJ.trans bj;refine aU (λr bK=>r= .bool (!decide (e.v=z.v/\e.sc=z.sc/\e.ha=z.ha))/\Ext U bK) ?_ λav M=>?_
  .rintro _ bK ⟨rfl,G⟩;rw[bY];refine⟨λj=>au (λh=>by rw[decide_eq_true (dG h)] at j;cases j) _ (ab.trans G),λj=>?_⟩;obtain⟨h1,Y,dP⟩:e.v=z.v/\e.sc=z.sc/\e.ha=z.ha:=by simpa using j
   rw[aP];exact bf _ _ ⟨G,by rw[mW b8,mW b9,be];unfold fK;rw[h1,Y,dP]⟩
  .have ch:∀ {b:Bool} {E:x3},Ext U E->(b=false↔e.v=z.v/\e.sc=z.sc/\e.ha=z.ha)->av (.bool b) E:=λ{b E} aH cR=>M _ _ ⟨by
    congr 1;cases b
    .rw[decide_eq_true (cR.1 rfl)];rfl
    .rw[decide_eq_false λh=>by cases cR.2 h];rfl,aH⟩
   rw[aA fM.p 0 cg rfl,aA fM.p 0 cb rfl,bL,aj];refine⟨λj=>ch cc ⟨λh=>(by cases h),λh=>absurd h.1 j⟩,λj=>?_⟩;have h1:e.v=z.v:=Y3.1 j;rw[aA fM.p 1 cg rfl,aA fM.p 1 cb rfl];refine (p4 (cU (bc bI cQ)) (cU (bc cM bj))).mono ?_;rintro _ bK _ ⟨rfl,G⟩;rw[bG,bY];refine⟨λj=>ch (cc.trans G) ⟨λh=>(by cases h),λh=>absurd h.2.1 (by simpa using j)⟩,λj=>?_⟩;have Y:e.sc=z.sc:=by simpa using j
   rw[aA fM.p 2 (cg.ext G) rfl,aA fM.p 2 (cb.ext G) rfl];refine (p4 (cU (bc bJ (cQ.trans G))) (cU (bc cP (bj.trans G)))).mono ?_;rintro _ dQ _ ⟨rfl,ci⟩;rw[bG];exact ch ((cc.trans G).trans ci) ⟨λh=>⟨h1,Y,by simpa using h⟩,λh=>by rw[decide_eq_true h.2.2];rfl⟩
 rintro t4 N a8 ⟨A,cS⟩;rw[o9 Ω,o9 Ω] at cS;refine cd Ω ?_;intro aJ P _ _;have ck:=A.trans P;refine (cr.ext ck).load λus dR=>?_;refine (ct.ext ck).load λe2 dS=>?_;refine (Ez dR aq cq.1).mono ?_;rintro dT aK _ ⟨aL,e3,dU⟩;refine⟨.inl aL,?_⟩;obtain⟨dV,rfl,dW⟩:=dS;refine (Ez ⟨dV,rfl,dW.ext aL⟩ a2 cq.2).mono ?_;rintro e4 bF _ ⟨aN,e5,cT,bk,cV,dX⟩;obtain⟨L,Z,cW,dY⟩:=dU.ext aN;have B:=(ck.trans aL).trans aN;have e6:L.length=(gD s).length:=by have:=congrArg T1 cW;simpa using this
 have e7:cT.length=(gD t).length:=by have:=congrArg T1 cV;simpa using this
 rw[eD cj.u Z,eD cj.u bk,bL,aj];refine⟨λj=>au (λh=>by have:=congrArg T1 h.funs;rw[u7,u7] at this;omega) _ (ab.trans B),λj=>?_⟩;rw[eD cj.u Z];refine b1.range L.length (λi _ bi=>Ext bF bi/\((gD s).take i).map (ec s)=((gD t).take i).map (ec t)) Z.le ⟨Ext.refl _,rfl⟩ ?_ ?_
 .rintro i t4 bi a8 hi ⟨cl,be⟩ bf;obtain⟨h,az⟩:=aI (l:=L) hi;obtain⟨h',bM⟩:∃h,cT[i]? =σ h:=⟨_,x6 Ω⟩;obtain⟨f,bN⟩:=aI (l:=(gD s)) (i:=i) Ω;obtain⟨g,af⟩:=aI (l:=(gD t)) (i:=i) Ω;have cX:=x5 bN;have cY:=x5 af;have dZ:df h=q7 f:=pt cW az bN;have ea:df h'=q7 g:=pt cV bM af;obtain⟨eb,bh⟩:=Prod.mk.inj dZ;obtain⟨ed,ee⟩:=Prod.mk.inj ea;obtain⟨aD,bl,bO⟩:=dY h (x5 az);obtain⟨bP,_,bQ⟩:=dX h' (x5 bM);have aD:=cU aD;have bl:=cU bl;have bO:=cU bO;have bP:=cU bP;have bQ:=cU bQ;rw[eb] at aD bl;rw[bh] at bO;rw[ed] at bP;rw[ee] at bQ;obtain⟨aO,bn,_⟩:=aq.funs f (oa cX).1;obtain⟨ef,e8,_⟩:=a2.funs g (oa cY).1;rw[<-bn] at bl;have bS:dB f.ad:=by rw[bn];exact lZ aq.fb.2.2 λv bx=>⟨(aO.scope.1 v bx).1,aO.vars v bx⟩
  have eg:f.ad.length=f.sc.length:=by rw[bn];simp[bR]
  have cm:=Ev aq a2 b7 cX cY;have cZ:ps s t->ec s f=ec t g:=λh=>pt h.funs bN af;have e9:=ib bS;refine bH Ω ?_;intro bK G _ _;have aS:=cl.trans G;have c0:∀ {E:x3} {K:x1->Prop},Ext bF E->K h.aF->aa x7 (c7 cj dT (Δ (i:Int))) E λp=>aa x7 (u6 aV p 0) E λq=>aa x7 (u5 am q) E K:=λaH b0=>by
   rw[de rfl cj.u aV.i (Z.ext aH) hi,aQ aV.p rfl,aB (v:=h.aF) Ψ ((Z.ext aH).range az 0 _ rfl)];exact b0
  refine c0 aS ?_;rw[de rfl cj.u aV.i (bk.ext aS) Ω,aQ aV.p rfl,aB (v:=h'.aF) Ψ ((bk.ext aS).range bM 0 _ rfl)];refine (p4 (aD.ext aS) (bP.ext aS)).mono ?_;rintro _ dQ _ ⟨rfl,ci⟩;have bo:=aS.trans ci;rw[bG,bY];refine⟨λj=>au (λh=>absurd (cm.1 (cZ h)).1 (by simpa using j)) _ (ab.trans (B.trans bo)),λj=>?_⟩;have c1:f.sc=g.sc:=by simpa using j
  rw[de rfl cj.u aV.i (Z.ext bo) hi,aQ aV.p rfl,aB (v:=h.szv) Ψ ((Z.ext bo).range az 1 _ rfl)];refine (vq f.ad (bl.ext bo) ⟨by rw[eg];exact aO.scope.2,bS⟩).mono ?_;rintro fa eh _ ⟨ei,cn⟩;have c2:=bo.trans ei;rw[fA cK.u cn];refine b1.range (ba f.ad).length (λq _ bp=>Ext eh bp/\(((ba f.ad).take q).filter (cO s f.sc)).map (a7 f.ad f.cs)=(((ba f.ad).take q).filter (cO s f.sc)).map (a7 f.ad g.cs)) (nv cn) ⟨Ext.refl _,rfl⟩ ?_ ?_
  .rintro q b5 bp ej bC ⟨br,bT⟩ ek;have aT:(ba f.ad)[q]? =σ (cL f.ad (q:Int)):=nG bS Ω;generalize cL f.ad (q:Int)=tl at aT;have fc:=r7 aT;have c3:=iN bS aT;have aW:=c2.trans br;have em:((ba f.ad).take (q+1)).filter (cO s f.sc)=((ba f.ad).take q).filter (cO s f.sc)++(if cO s f.sc tl=true then[tl] else[]):=by
    rw[u9,aT,o7,List.filter_append];congr 1;cases az:cO s f.sc tl<;>simp[az]
   refine bH Ω ?_;refine gK (α:=Λ) rfl rfl cK.u am.i Ψ (bc cn br) aT λaM bw=>?_;have bw:=cU bw;refine c0 aW ?_;rw[aX am.u (aD.ext aW)];refine b1.range f.sc.length (λp left bU=>Ext bp bU/\left= .bool (cO s (f.sc.take p) (tl.take p))) aD.le ⟨Ext.refl _,rfl⟩ ?_ ?_
   .rintro p _ bU en eo ⟨bt,rfl⟩ ep;obtain⟨v,cp⟩:=aI (l:=f.sc) eo;obtain⟨y,c4⟩:=aI (l:=tl) (i:=p) Ω;have c5:=x5 cp;have c6:=(aO.scope.1 v c5).1;have c8:=aO.vars v c5;have c8:v<sizes.length:=c8;have c6:0<=v:=c6;obtain⟨x,c9⟩:=aI (l:=s.vars) (i:=v.toNat) Ω;have da:cO s (f.sc.take (p+1)) (tl.take (p+1))=(cO s (f.sc.take p) (tl.take p)&&decide (y∈ay x)):=by
     unfold cO;rw[u9,u9,cp,c4,o7,o7,List.zip_append Θ,List.all_append];simp[c9]
    refine bH Ω ?_;refine aU (λleft aY=>Ext bp aY/\left= .bool (cO s (f.sc.take (p+1)) (tl.take (p+1)))) (λ_ _ er=>by rw[aP];exact ep _ _ er) λav M=>?_;rw[bd am.u ah.i Ψ (aD.ext (aW.trans bt)) cp];intro aY ap _ _;have bu:=bt.trans ap;rw[bY];refine⟨λC=>?_,λC=>M _ _ ⟨bu,by rw[da,C];rfl⟩⟩;rw[aA aE.p 3 (H.ext (B.trans (aW.trans bu))) rfl];refine gK (α:=Λ) (a:=ay x) (i:=v.toNat) rfl Ω cK.u am.i Ψ (bc bX (B.trans (aW.trans bu))) (by rw[x8,c9];rfl) λcE X=>?_;rw[bd am.u ah.i Ψ (bw.ext bu) c4];refine (ts (cU X)).mono ?_;rintro _ fd _ ⟨rfl,es⟩;exact M _ _ ⟨bu.trans es,by rw[da,C,U7]⟩
   .rintro _ bU en ⟨bt,rfl⟩;rw[o5,o9 Ω];refine cd Ω ?_;have db:=aW.trans bt;refine aU (λr aY=>r= .bool (cO s f.sc tl&& !decide (a7 f.ad f.cs tl=a7 f.ad g.cs tl))/\Ext bU aY) ?_ λav M=>?_
    .rintro _ aY ⟨rfl,ap⟩;rw[bY];refine⟨λj=>au (λh=>?_) _ (ab.trans (B.trans (db.trans ap))),λj=>?_⟩
     .have h:=(cm.1 (cZ h)).2;have hm:tl∈(ba f.ad).filter (cO s f.sc):=U8.2 ⟨x5 aT,by revert j;cases cO s f.sc tl<;>simp⟩;have h:=List.map_inj_left.1 h tl hm;rw[decide_eq_true h,Y4,Bool.and_false] at j;cases j
     .rw[aP];refine ek _ _ ⟨(br.trans bt).trans ap,?_⟩;rw[em,j6,j6,bT];congr 1;split
      .rename_i C;rw[C,U7] at j;rw[List.map_singleton,List.map_singleton,show a7 f.ad f.cs tl=a7 f.ad g.cs tl by simpa using j]
      .rfl
    .intro aY ap _ _;rw[bY];refine⟨λC=>?_,λC=>M _ _ ⟨by rw[C];rfl,ap⟩⟩;have a1:=db.trans ap;have et:q<f.cs.length:=by have:=aO.len;have Y:f.cs.length=_:=this;rw[<-bn] at Y;omega
     have eu:q<g.cs.length:=by have:=ef.len;have Y:g.cs.length=_:=this;rw[show (g.sc,g.cs).1=f.sc from c1.symm,<-bn] at Y;omega
     obtain⟨c,W⟩:=aI (l:=f.cs) et;obtain⟨ac,bg⟩:∃c,g.cs[q]? =σ c:=⟨_,x6 eu⟩;have bI:a7 f.ad f.cs tl=c:=by unfold a7;rw[c3];simp[u4,W]
     have bJ:a7 f.ad g.cs tl=ac:=by unfold a7;rw[c3];simp[u4,bg]
     rw[de rfl cj.u aV.i (Z.ext a1) hi,aQ aV.p rfl,aB (v:=h.aZ) Ψ ((Z.ext a1).range az 2 _ rfl),bd ao.u al.i Ψ (bO.ext a1) W,
      de rfl cj.u aV.i (bk.ext a1) Ω,aQ aV.p rfl,aB (v:=h'.aZ) Ψ ((bk.ext a1).range bM 2 _ rfl),bd ao.u al.i Ψ (bQ.ext a1) bg,bL]
     refine M _ _ ⟨?_,ap⟩;rw[C,U7,bI,bJ];congr 1;exact decide_not
  .rintro b5 bp ej ⟨br,bT⟩;rw[o5] at bT;refine cd Ω ?_;rw[aP];exact bf _ _ ⟨c2.trans br,by rw[mW bN,mW af,be,cm.2 ⟨c1,bT⟩]⟩
 .rintro t4 bi a8 ⟨cl,dc⟩;rw[o9 Ω,o9 Ω] at dc;rw[aR,aj];exact⟨λh=>Ω,λ_=>dg ⟨a6,dr,b7,cS,dc⟩ _ (ab.trans (B.trans cl))⟩
theorem Pu (I:hC w xs k sizes s) (p:hC w gF k sizes t) (a:bq k sizes s) (f:bq k sizes t) (gs:q8 s) (gt:q8 t) (q:s.funs.length<=100000/\t.funs.length<=100000):
  ai x7 yR [xs,gF] w λv w'=>v= .bool (decide (lq s=lq t))/\Ext w w':=
 Pt I p a f gs gt q (λh w' j=>⟨by rw[decide_eq_false λe=>h ((Ex a f).1 e)],j⟩) λh w' j=>⟨by rw[decide_eq_true ((Ex a f).2 h)],j⟩
end
def ob (ad t:Λ):Int:=(cF ad t 0).getD 0
def lr (s:au) (f:b0) (pos:Nat) (v:Int):Λ:=(bW s f.sc pos v).map (ob f.ad)
def kC (s:au) (sc:Λ) (pos:Nat) (v:Int) (t:Λ):Bool:=decide (t.getD pos 0=v)&&cO s sc t
section
variable {k:Int} {sizes:Λ} {s:au} {f:b0} {pos:Nat} {v:Int}
theorem Pv {sc t:Λ}:cO s sc t=true↔ ∀ (p:Nat) u w,sc[p]? =σ u->t[p]? =σ w->w∈cT s u:=by
 unfold cO;rw[List.all_eq_true];constructor
 .intro h p u w hu hw;have:=h (u,w) (x5 (List.getElem?_zip_eq_some.2 ⟨hu,hw⟩));unfold cT;cases a:s.vars[u.toNat]? with
  |none=>simp[a] at this
  |some x=>simpa[a] using this
 .rintro h ⟨u,w⟩ hm;obtain⟨p,e⟩:=X4.1 hm;obtain⟨h1,f⟩:=List.getElem?_zip_eq_some.1 e;have:=h p u w h1 f;unfold cT at this;simp only;cases a:s.vars[u.toNat]? with
  |none=>rw[a] at this;cases this
  |some x=>rw[a] at this;simpa using this
theorem Pw (q:bq k sizes s) (B:f∈s.funs) (C:pos<f.sc.length) (r:∀u,f.sc[pos]? =σ u->v∈cT s u):bW s f.sc pos v=(ba f.ad).filter (kC s f.sc pos v):=by
 obtain⟨x,y,_⟩:=q.funs f B;have j:=w4 q (λu hu=>⟨(x.scope.1 u hu).1,x.vars u hu⟩) r;rw[<-y] at j;have h1:∀t∈ba f.ad,(mO (n4 s pos v f.sc 0) t=true↔t∈bW s f.sc pos v):=λt a=>by rw[j,U8];exact⟨λh=>⟨a,h⟩,λh=>h.2⟩
 rw[j];refine List.filter_congr λt a=>?_;have E:t.length=f.sc.length:=by rw[r6 a,y];simp[bR]
 rw[V3,h1 t a,xa,kC,U4,decide_eq_true_eq,Pv];constructor
 .rintro⟨_,h⟩;obtain⟨u,hu⟩:=aI (l:=f.sc) C;obtain⟨w,hw⟩:=aI (l:=t) (i:=pos) Ω;have z:=h pos u w hu hw;rw[if_pos rfl] at z;refine⟨by rw[u4,hw];exact z,λp u' w' A F=>?_⟩;have:=h p u' w' A F;split at this
  .rename_i e;subst e;rw[this];exact r u' A
  .exact this
 .rintro⟨h1,G⟩;refine⟨E,λp u w hu hw=>?_⟩;split
  .rename_i e;subst e;rw[u4,hw] at h1;exact h1
  .exact G p u w hu hw
end
section
variable {w:x3} {eY:x1} {k:Int} {sizes:Λ} {s:au}
theorem Px {j pos:Int} (h:hC w eY k sizes s) (ab:bq k sizes s) (an:dD s):ai x7 Gz [eY,Δ j,Δ pos,Δ v] w λr w'=>Ext w w'/\ ∃u,r= .tuple #[Δ u,.bool (dk s j pos v).isSome]:=by
 have aJ:=ab.vars;refine aw func59 ?_;refine bm λg1 J aK H ao=>?_;have ac:=h.box H ao;obtain⟨szv,aL,aM,aN,aO,aP,I,aS,_,ap,aT,aW,ad,aZ⟩:=id ac;refine aU (λr U=>Ext J U/\((r= .bool true/\dk s j pos v=ν)\/(r= .bool false/\ ∃f u,0<=j/\0<=pos/\s.funs[j.toNat]? =σ f/\f.live≠0/\f.sc[pos.toNat]? =σ u))) ?_ λav E=>?_
 .rintro _ U ⟨A,⟨rfl,z⟩|⟨rfl,f,u,K,ae,e,af,hu⟩⟩
  .rw[bS,z];exact⟨H.trans A,0,rfl⟩
  .rw[aY];have ag:=x5 e;have L:=x5 hu;obtain⟨ak,a1,_⟩:=ab.funs f ag;have M:=(ak.scope.1 u L).1;have a2:=ak.vars u L;have M:0<=u:=M;obtain⟨x,N⟩:=aI (l:=s.vars) (i:=u.toNat) Ω;rw[aA aE.p 6 (I.ext A) rfl];refine ia (i:=j.toNat) Ω dP.u db.i (bc ad A) (by rw[x8,e];rfl) λb o cs O Q=>?_;obtain⟨R,aq,v3,rfl,h1,au,ax⟩:=mS Q;rw[aQ db.p rfl,aQ aV.p rfl,aB (v:=R) Ψ (O 0 _ rfl),fy (y:=pos) (i:=pos.toNat) Ω am.u ah.i Ψ (cU h1) hu,aA aE.p 3 (I.ext A) rfl];refine gK (α:=Λ) (a:=ay x) (i:=u.toNat) rfl Ω cK.u am.i Ψ (bc ap A) (by rw[x8,N];rfl) λa6 az=>?_;refine (ts (cU az)).mono ?_;rintro _ a7 _ ⟨rfl,aC⟩;refine⟨(H.trans A).trans aC,u,?_⟩;have aD:=an f ag af u L x N;have S:dk s j pos v=(ek s u v).map λx=>(f,u,x):=by
    unfold dk;rw[if_pos ⟨K,ae⟩,e];simp only;rw[if_pos af,hu]
   have aF:ek s u v=if v∈ay x then σ x else ν:=by
    unfold ek;rw[if_pos M,N];simp only[aD,true_and]
   rw[S,aF];by_cases G:v∈ay x
   .rw[if_pos G,decide_eq_true G];rfl
   .rw[if_neg G,decide_eq_false G];rfl
 have V:∀ {P:Prop},(¬∃f u,0<=j/\0<=pos/\s.funs[j.toNat]? =σ f/\f.live≠0/\f.sc[pos.toNat]? =σ u)->(dk s j pos v=ν->P)->P:=λz aG=>aG (by
  cases S:dk s j pos v with
  |none=>rfl
  |some q=>
   obtain⟨f,u,x⟩:=q;obtain⟨W,X,a3,a4,a5,_⟩:=iw S;exact absurd ⟨f,u,W,X,a3,a4,a5⟩ z)
 refine ac.load λu hu=>?_;refine (OS (j:=j) hu).mono ?_;rintro _ a8 _ ⟨rfl,B⟩;have same:∀ {f Y:b0},s.funs[j.toNat]? =σ f->s.funs[j.toNat]? =σ Y->Y=f:=λa b=>by rw[a] at b;exact (c8 b).symm
 rw[bG,bY];refine⟨λZ=>V (λ⟨f,u,W,X,a3,a4,a5⟩=>?_) λz=>E _ _ ⟨B,.inl ⟨rfl,z⟩⟩,λaa=>?_⟩
 .unfold gx at Z;rw[a3] at Z;simp[W,a4] at Z
 have aa:0<=j/\gx s j.toNat=true:=by simpa using aa
 obtain⟨K,C⟩:=aa;obtain⟨f,e,aH⟩:∃f,s.funs[j.toNat]? =σ f/\f.live≠0:=by
  unfold gx at C;cases e:s.funs[j.toNat]? with
  |none=>rw[e] at C;cases C
  |some f=>rw[e] at C;exact⟨f,rfl,by simpa using C⟩
 rw[aR,aj];refine⟨λba=>V (λ⟨_,_,_,X,_⟩=>Ω) λz=>E _ _ ⟨B,.inl ⟨rfl,z⟩⟩,λae=>?_⟩;rw[aA aE.p 6 (I.ext B) rfl];refine ia (i:=j.toNat) Ω dP.u db.i (bc ad B) (by rw[x8,e];rfl) λb o cs O Q=>?_;obtain⟨R,aq,v3,rfl,h1,au,ax⟩:=mS Q;rw[aQ db.p rfl,aQ aV.p rfl,aB (v:=R) Ψ (O 0 _ rfl),aX am.u (cU h1),cY];by_cases al:(f.sc.length:Int)<=pos
 .refine V (λ⟨Y,u,_,_,a3,_,a5⟩=>?_) λz=>E _ _ ⟨B,.inl ⟨by rw[decide_eq_true al],z⟩⟩;obtain rfl:=same e a3;have:=(x4.1 a5).1;omega
 .obtain⟨u,hu⟩:=aI (l:=f.sc) (i:=pos.toNat) Ω;exact E _ _ ⟨B,.inr ⟨by rw[decide_eq_false al],f,u,K,Ω,e,aH,hu⟩⟩
theorem EB {f:b0} (h:hC w eY k sizes s) (M:bq k sizes s) (ag:s.funs[j]? =σ f) (aO:pos<f.sc.length) (aR:∀u,f.sc[pos]? =σ u->v∈cT s u):
  ai x7 GA [eY,Δ (j:Int),Δ (pos:Int),Δ v] w λr w'=>Ext w w'/\aH .i64 w' r (lr s f pos v)/\ ∀q,leads r q->w.heap.size<=q:=by
 have bC:=M.vars;have V:=x5 ag;obtain⟨N,aj,_⟩:=M.funs f V;have O:=(i7 M V).1;have aS:f.ad.length=f.sc.length:=by rw[aj];simp[bR]
 have bE:=ib O;have bF:(ba f.ad).length<=4096:=by
  have P:aL (bR sizes f.sc)<=4096:=N.small;rw[<-aj] at P;omega
 refine aw func60 ?_;refine bm λg1 J bG W aT=>?_;obtain⟨szv,bI,bJ,bK,bL,bM,ak,bN,_,aW,bO,bP,aY,bQ⟩:=h.box W aT;rw[aA aE.p 6 ak rfl];refine ia (i:=j) rfl dP.u db.i aY (by rw[x8,ag];rfl) λb o cs G aZ=>?_;obtain⟨X,Y,v3,rfl,h1,P,a1⟩:=mS aZ;rw[aQ db.p rfl,bD (cs:=[X,Y,v3]) aV.p aV.i rfl (λq u z=>by
  have:q<3:=(x4.1 z).1
  match q,this,z with
  |0,_,z=>cases z;exact G 0 _ rfl
  |1,_,z=>cases z;exact G 1 _ rfl
  |2,_,z=>cases z;exact G 2 _ rfl)]
 refine bB aV.i λbS U bT a2 a6=>?_;have a7:∀u∈[X,Y,v3],u.oneCell'=true:=λu hu=>by
  simp only[W6,List.not_mem_nil,or_false] at hu;rcases hu with rfl|rfl|rfl
  .exact e6 h1
  .exact e6 P
  .exact e6 a1
 refine b3 (vs:=[X,Y,v3]) aV.i rfl rfl a7 a6 λa8 bb bU al=>?_;have an:Ext J a8:=a2.put bb Ω;have Z:=cU h1;have be:=cU P;rw[aA aV.p 1 al rfl];refine (vq f.ad (be.ext an) ⟨by rw[aS];exact N.scope.2,O⟩).mono ?_;rintro bV H _ ⟨ao,aq⟩;have aa:=an.trans ao;rw[fA cK.u aq];refine b1.range (ba f.ad).length (λi out E=>Ext H E/\(∃g,ap .i64 ah E g out ((((ba f.ad).take i).filter (kC s f.sc pos v)).map (ob f.ad)))/\ ∀r,leads out r->H.heap.size<=r) Ω ⟨Ext.refl _,⟨0,ap.nil _ _ _ _⟩,λr G=>by obtain⟨_,_,_,e,_⟩:=G;cases e⟩ ?_ ?_
 .rintro q out E bf z ⟨A,⟨g,hm⟩,Q⟩ bg;have I:(ba f.ad)[q]? =σ (cL f.ad (q:Int)):=nG O Ω;generalize cL f.ad (q:Int)=tl at I;have bW:=r7 I;have bi:=iN O I;have bj:ob f.ad tl=(q:Int):=by unfold ob;rw[bi];rfl
  have R:=aa.trans A;have au:((ba f.ad).take (q+1)).filter (kC s f.sc pos v)=((ba f.ad).take q).filter (kC s f.sc pos v)++(if kC s f.sc pos v tl=true then[tl] else[]):=by
   rw[u9,I,o7,List.filter_append];congr 1;cases az:kC s f.sc pos v tl<;>simp[az]
  obtain⟨ab,ax⟩:=aI (l:=tl) (i:=pos) Ω;refine bH Ω ?_;refine aU (λaB aC=>Ext H aC/\(∃g,ap .i64 ah aC g aB ((((ba f.ad).take (q+1)).filter (kC s f.sc pos v)).map (ob f.ad)))/\ ∀r,leads aB r->H.heap.size<=r) (λ_ _ ac=>by rw[aP];exact bg _ _ ac) λav K=>?_;refine gK (α:=Λ) rfl rfl cK.u am.i Ψ (bc aq A) I λaM S=>?_;have S:=cU S;rw[bd am.u ah.i Ψ S ax,bh,aA aV.p 0 (al.ext (ao.trans A)) rfl,aX am.u (Z.ext R)];refine b1.range f.sc.length (λp ok ae=>Ext E ae/\ok= .bool (decide (ab=v)&&cO s (f.sc.take p) (tl.take p))) Z.le ⟨Ext.refl _,by simp[cO]⟩ ?_ ?_
  .rintro p _ ae bk bl ⟨B,rfl⟩ bn;obtain⟨u,af⟩:=aI (l:=f.sc) bl;obtain⟨y,aD⟩:=aI (l:=tl) (i:=p) Ω;have aF:=x5 af;have aG:=(N.scope.1 u aF).1;have aJ:=N.vars u aF;have aJ:u<sizes.length:=aJ;have aG:0<=u:=aG;obtain⟨x,aK⟩:=aI (l:=s.vars) (i:=u.toNat) Ω;have aN:cO s (f.sc.take (p+1)) (tl.take (p+1))=(cO s (f.sc.take p) (tl.take p)&&decide (y∈ay x)):=by
    unfold cO;rw[u9,u9,af,aD,o7,o7,List.zip_append Θ,List.all_append];simp[aK]
   refine bH Ω ?_;refine aU (λok bo=>Ext E bo/\ok= .bool (decide (ab=v)&&cO s (f.sc.take (p+1)) (tl.take (p+1)))) (λ_ _ ac=>by rw[aP];exact bn _ _ ac) λav K=>?_;rw[bd am.u ah.i Ψ (Z.ext (R.trans B)) af];intro bX bp _ _;have L:=B.trans bp;rw[bY];refine⟨λC=>?_,λC=>K _ _ ⟨L,by rw[aN,<-Bool.and_assoc,C];rfl⟩⟩;rw[aA aE.p 3 (ak.ext (R.trans L)) rfl];refine gK (α:=Λ) (a:=ay x) (i:=u.toNat) rfl Ω cK.u am.i Ψ (bc aW (R.trans L)) (by rw[x8,aK];rfl) λbZ br=>?_;rw[bd am.u ah.i Ψ (S.ext L) aD];refine (ts (cU br)).mono ?_;rintro _ b2 _ ⟨rfl,bt⟩;exact K _ _ ⟨L.trans bt,by rw[aN,<-Bool.and_assoc,C,U7]⟩
  .rintro _ ae bk ⟨B,rfl⟩;rw[o5,o9 Ω];refine cd Ω ?_;have bu:(decide (ab=v)&&cO s f.sc tl)=kC s f.sc pos v tl:=by unfold kC;rw[u4,ax];rfl
   rw[bu,bY];refine⟨λC=>?_,λC=>K _ _ ⟨A.trans B,⟨g,by rw[au,if_neg (by rw[C];decide),X9];exact hm.ext B⟩,Q⟩⟩;refine Eo (w0:=H) (A.trans B) (hm.ext B) Q ?_ λb4 w' bw bx bz bA=>K _ _ ⟨bx,⟨bw,?_⟩,bA⟩
   .rw[u7];have h1:=List.length_filter_le (kC s f.sc pos v) ((ba f.ad).take q);rw[j5] at h1;omega
   .rw[au,if_pos C,j6,List.map_singleton,bj];exact bz
 .rintro out E bf ⟨A,⟨g,hm⟩,Q⟩;rw[o5,<-Pw M V aO aR] at hm;refine cd Ω ?_;exact⟨(W.trans aa).trans A,hm.ls,λq z=>by have:=Q q z;have:=(W.trans aa).size;omega⟩
theorem EC {j pos:Int} (h:hC w eY k sizes s) (e:bq k sizes s) (R:dD s):
  ai x7 F7 [eY,Δ j,Δ pos,Δ v] w λr w'=>Ext w w'/\r=(match dk s j pos v with|some (f,_,_)=>.tuple #[Δ (iv k s f pos.toNat v),.bool true]|none=>.tuple #[Δ 0,.bool false]):=by
 refine aw func19 ?_;refine bm λg1 J az z S=>?_;have H:=h.box z S;refine H.load λu hu=>?_;refine (Px hu e R).mono ?_;rintro _ U _ ⟨A,eb,rfl⟩;rw[bx,bz,bG];cases V:dk s j pos v with
 |none=>
  rw[S7,W5,bS];exact⟨z.trans A,rfl⟩
 |some q=>
 obtain⟨f,u',x⟩:=q;rw[S6,Y4,aY];obtain⟨W,X,y,aC,B,Y⟩:=iw V;obtain⟨aD,Z,aF,aa⟩:=hE Y;obtain⟨j,rfl⟩:=V7 W;obtain⟨pos,rfl⟩:=V7 X;rw[r8] at y B;have I:=x5 y;have ab:=(x4.1 B).1;have K:∀u,f.sc[pos]? =σ u->v∈cT s u:=λu hu=>by
  rw[B] at hu;cases hu;unfold cT;rw[Z];exact aa
 have L:=H.ext A;obtain⟨szv,aG,aH,aJ,aK,aL,M,aN,_,aO,aR,aS,ac,aT⟩:=id L;rw[aA aE.p 0 M rfl];refine L.load λaU ae=>?_;refine (EB ae e y ab K).mono ?_;rintro aM af _ ⟨N,C,_⟩;rw[aX am.u C];have O:(lr s f pos v).length=(bW s f.sc pos v).length:=by unfold lr;rw[u7]
 rw[O];refine b1.range (bW s f.sc pos v).length (λi ag E=>Ext af E/\ag=Δ ((((bW s f.sc pos v).take i).map (a7 f.ad f.cs)).foldl min k)) (by rw[<-O];exact C.le) ⟨Ext.refl _,rfl⟩ ?_ ?_
 .rintro i _ E aj hi ⟨a,rfl⟩ ak;obtain⟨tl,G⟩:=aI (l:=bW s f.sc pos v) hi;obtain⟨m,hm⟩:=pp e I K (x5 G);have an:(lr s f pos v)[i]? =σ (m:Int):=by
   unfold lr;rw[x8,G];unfold ob;rw[Z4,hm];rfl
  obtain⟨ap,aW⟩:=i7 e I;have aZ:=(x4.1 (lV ap hm)).1;obtain⟨c,P⟩:=aI (l:=f.cs) (i:=m) Ω;have aq:a7 f.ad f.cs tl=c:=by
   unfold a7;rw[hm];simp[u4,P]
  have Q:=N.trans a;refine bH Ω ?_;rw[bd am.u ah.i Ψ (C.ext a) an,aA aE.p 6 (M.ext Q) rfl];refine ia (i:=j) rfl dP.u db.i (bc ac Q) (by rw[x8,y];rfl) λb o cs au av=>?_;obtain⟨a1,a2,v3,rfl,h1,a6,ax⟩:=mS av;rw[aQ db.p rfl,aQ aV.p rfl,aB (v:=v3) Ψ (au 2 _ rfl),bd ao.u al.i Ψ (cU ax) P];refine Di.mono ?_;rintro _ a8 _ ⟨rfl,ay⟩;rw[aP];refine ak _ _ ⟨a.trans ay,?_⟩;rw[u9,G,o7,j6,List.foldl_append,List.map_singleton,aq];rfl
 .rintro _ E aj ⟨a,rfl⟩;rw[o5];refine cd Ω ?_;exact⟨(z.trans A).trans (N.trans a),rfl⟩
theorem tT {a b k:Int} (h1:0<=a/\a<=4294967296) (f:0<=b/\b<=4294967296):ai x7 G4 [Δ a,Δ b,Δ k] w λr w'=>r=Δ (cH k a b)/\Ext w w':=by
 refine aw func108 ?_;refine (show ai x7 HV [Δ a,Δ b,Δ k] w λr w'=>(∃q,r= .tuple #[Δ (cH k a b),q])/\Ext w w' from ?_).mono ?_
 .refine aw func176 ?_;unfold cH;rw[bh,aj];refine⟨λh=>⟨⟨_,by rw[if_pos h]⟩,Ext.refl _⟩,λh=>?_⟩;rw[dZ,wrap_i64 Ω Ω,mp,if_neg h];exact⟨⟨_,rfl⟩,Ext.refl _⟩
 .rintro _ J _ ⟨⟨q,rfl⟩,e⟩;rw[bx,bz];exact⟨rfl,e⟩
end
def dJ (w:x3) (ac af an:Nat) (A R:ag) (A9:Nat->ag) (aG:ag) (n:aT) (s:au) (t:aC) (h:List aC) (u:au) (w':x3):Prop:=ae (λr=>(∃q,A9 q r)\/r=an) w w'/\ ∃cJ cs,ck w' ac af an A R cJ aG n s u t h cs/\ ∀q r,cJ q r->(∃a,A9 a r)\/w.heap.size<=r
section
variable {w w' J U:x3} {ac af an:Nat} {A R:ag} {A9:Nat->ag} {aG:ag} {n:aT} {s u dC eb:au} {t:aC} {h:List aC} {cs:List x1}
theorem dJ.same (p:ck w ac af an A R A9 aG n s u t h cs) (a:Ext w w'):dJ w ac af an A R A9 aG n s t h u w':=⟨a.V _,A9,cs,p.ext a,λq r h=>.inl ⟨q,h⟩⟩
theorem dJ.comp {cJ:Nat->ag} (e:ae (λr=>(∃q,A9 q r)\/r=an) w J) (f:∀q r,cJ q r->(∃a,A9 a r)\/w.heap.size<=r) (d:dJ J ac af an A R cJ aG n s t h eb U):dJ w ac af an A R A9 aG n s t h eb U:=by
 obtain⟨p,x,bt,y,B⟩:=d;have z:=e.size;refine⟨?_,x,bt,y,λq r j=>(B q r j).elim (λ⟨a,h⟩=>f a r h) λh=>.inr Ω⟩;refine ((e.mono λr _ h=>.inl h).trans (p.mono λr _ h=>?_):ae (λr=>((∃q,A9 q r)\/r=an)\/w.heap.size<=r) w U).mono λr j h=>h.elim id λh=>Ω
 rcases h with⟨q,h⟩|h
 .exact (f q r h).imp .inl id
 .exact .inl (.inr h)
def js (w:x3) (ac af an:Nat) (A R:ag) (A9:Nat->ag) (aG:ag) (n:aT) (s:au) (t:aC) (h:List aC) (u:au) (w':x3):Prop:=ae (A9 2) w w'/\ ∃cJ cs,ck w' ac af an A R cJ aG n s u t h cs/\(∀q r,cJ q r->(∃a,A9 a r)\/w.heap.size<=r)/\ ∀r,cJ 2 r->A9 2 r\/w.heap.size<=r
theorem js.ED (d:js w ac af an A R A9 aG n s t h u w'):dJ w ac af an A R A9 aG n s t h u w':=by
 obtain⟨h1,cJ,cs,a,e,_⟩:=d;exact⟨h1.mono λr _ h=>.inl ⟨2,h⟩,cJ,cs,a,e⟩
theorem js.same (p:ck w ac af an A R A9 aG n s u t h cs) (a:Ext w w'):js w ac af an A R A9 aG n s t h u w':=⟨a.V _,A9,cs,p.ext a,λq r h=>.inl ⟨q,h⟩,λr h=>.inl h⟩
theorem js.comp {cJ:Nat->ag} (f:ae (A9 2) w J) (p:∀q r,cJ q r->(∃e,A9 e r)\/w.heap.size<=r) (j:∀r,cJ 2 r->A9 2 r\/w.heap.size<=r) (d:js J ac af an A R cJ aG n s t h eb U):js w ac af an A R A9 aG n s t h eb U:=by
 obtain⟨x,y,bt,B,C,E⟩:=d;have z:=f.size;refine⟨?_,y,bt,B,λq r a=>(C q r a).elim (λ⟨e,h⟩=>p e r h) λh=>.inr Ω,λr a=>(E r a).elim (j r) λh=>.inr Ω⟩;exact ((f.mono λr _ h=>.inl h).trans (x.mono λr _ h=>j r h):ae (λr=>A9 2 r\/w.heap.size<=r) w U).mono λr a h=>h.elim id λh=>Ω
theorem ck.Py {T:ag} {v:x1} {u':au} (p:ck w ac af an A R A9 aG n s u t h cs) (z:∀q r,A9 q r->r<w.heap.size) (C:cs[5]? =σ v) (e:ae T w w') (f:∀r,r<w.heap.size->T r->A9 2 r) (E:bj (λr=>A9 2 r\/w.heap.size<=r) aG w' [v] (u'.vars.map (·.un)))
  (F:u'.zero=u.zero) (G:u'.vars.map ay=u.vars.map ay) (H:(u'.vars.map λx=>decide (x.gone≠0))=u.vars.map λx=>decide (x.gone≠0)) (I:u'.funs=u.funs) (J:u'.ce=u.ce):
  ∃cJ,ck w' ac af an A R cJ aG n s u' t h cs/\(∀q r,cJ q r->(∃K,A9 K r)\/w.heap.size<=r)/\ ∀r,cJ 2 r->A9 2 r\/w.heap.size<=r:=by
 have L:=bu.jT p.doc (xd e) (λr a=>.inl (f r a.2 a.1)) E (λj r M a=>?_) (λr a=>?_)
 .have y:=xe (w:=w) (A9:=A9) (q:=2) (B:=λr=>A9 2 r\/w.heap.size<=r) λr h=>h;refine⟨_,p.row e f ?_ y,y,λr a=>a⟩;have:=bu.qb C L;unfold gv;rw[F,G,H,I,J];exact this
 .rcases a with a|a
  .exact p.gJ.1 2 j r (S3 M) a
  .exact λh=>by have:=z j r h;omega
 .rcases a with a|a
  .exact p.gJ.2 2 r a
  .exact λh=>by have:=(p.read r h).2.1;omega
theorem xo (p:ck w ac af an A R A9 aG n s u t h cs) {i:Nat} {x:bi} (B:u.vars[i]? =σ x):∃g cap y,cs[5]? =σ (.slice (σ ⟨g,0,ν⟩) u.vars.length cap)/\w.cell? ⟨g,i,ν⟩=σ y/\aH .i64 w y x.un/\
  ∀ {w':x3} {v:Nat} {c:Int} {K:Unit->x3->Prop},Ext w w'->v<x.un.length->(∀H,js w ac af an A R A9 aG n s t h (ej u i x (x.un.set v c)) H->K () H)->
   aa x7 (c7 ao y (Δ (v:Int))) w' λa=>ax x7 (o8 al a (Δ c)) w' K:=by
 have I:=p.olds;obtain⟨szv,aj,am,ap,aq,au,J,_,_,_,L,_,_,C⟩:=id I.doc;obtain⟨g,cap,c,av,e,Q,M,aw,_⟩:=tC (i:=i) (a:=x.un) L (by rw[x8,B];rfl) λr _ h=>(C rfl).2 2 r h;obtain⟨y,rfl⟩:=W8.1 (ak.len M);have N:w.cell? ⟨g,i,ν⟩=σ y:=by
  have:=Q 0 y rfl;simpa[show ak.n (Λ)=1 from rfl] using this
 rw[u7] at e;refine⟨g,cap,y,by rw[J,<-e];rfl,N,cU (gU M),λ{w' v c K} j S U=>?_⟩;have W:=I.ext j;have z:=j.size;obtain⟨az,aA,aB,aC,O,X,P,E,Y⟩:=tC (i:=i) (a:=x.un) (bc L j) (by rw[x8,B];rfl) λr _ h=>(C rfl).2 2 r h;obtain⟨F,rfl⟩:=W8.1 (ak.len P);rw[u7,e] at O;cases O;have Z:F=y:=by
  have h1:=X 0 F rfl;have h1:w'.cell? ⟨g,i,ν⟩=σ F:=by simpa[show ak.n (Λ)=1 from rfl] using h1
  rw[iE j N] at h1;exact (c8 h1).symm
 subst Z;refine Dv (α:=Int) (i:=v) (A:=λ_=>False) rfl rfl ao.u al.i P S rfl rfl (λr _ f=>⟨λh=>h,(C rfl).2 2 r (E r f)⟩) λaD G ab=>?_;have ad:=Y G (λr _ h=>h) ab λr f=>f.elim .inl False.elim;obtain⟨cJ,ae,ag,ah⟩:=W.Py (u':=ej u i x (x.un.set v c)) (λq r h=>by have:=h.2;omega) (by rw[J];rfl) G (λr _ h=>E r h) (by show bj _ _ _ _ ((u.vars.set i {x with un:=x.un.set v c}).map (·.un));rw[U3];exact ad) rfl (tD B (by unfold ay;simp)) (tD B rfl) rfl rfl;refine U _ ⟨(j.V _).trans (G.mono λr _ h=>(E r h).1),cJ,cs,ae,λq r f=>?_,λr f=>?_⟩
 .rcases ag q r f with⟨ai,h⟩|h
  .exact .inl ⟨ai,h.1⟩
  .exact .inr Ω
 .exact (ah r f).imp (λh=>h.1) λh=>Ω
theorem Pz (p:ck w ac af an A R A9 aG n s u t h cs) {f:b0} (N:u.funs[j]? =σ f):∃g cap x E y,cs[6]? =σ (.slice (σ ⟨g,0,ν⟩) u.funs.length cap)/\w.rangeAt g (j*4) [x,E,y,.bool (decide (f.live≠0))]/\aH .i64 w x f.sc/\aH .i64 w y f.cs/\
  ∀ {w':x3} {m:Nat} {c:Int} {K:Unit->x3->Prop},Ext w w'->m<f.cs.length->(∀O,dJ w ac af an A R A9 aG n s t h (dE u j f (f.cs.set m c)) O->K () O)->
   aa x7 (c7 ao y (Δ (m:Int))) w' λa=>ax x7 (o8 al a (Δ c)) w' K:=by
 have P:=p.olds;obtain⟨szv,aA,aB,aC,aD,aE,Q,_,_,_,_,S,_,F⟩:=id P.doc;obtain⟨g,cap,c,aF,e,G,W,aI,_⟩:=tC (i:=j) (a:=gu f) S (by rw[x8,N];rfl) λr _ h=>(F rfl).2 3 r h;have X:=mS W;obtain⟨x,E,y,rfl,Y,aJ,Z⟩:=X;rw[u7] at e;have G:w.rangeAt g (j*4) [x,E,y,.bool (decide (f.live≠0))]:=G;refine⟨g,cap,x,E,y,by rw[Q,<-e];rfl,G,cU Y,cU Z,λ{w' m c K} B hm ab=>?_⟩;have ad:=P.ext B;have z:=B.size;obtain⟨aK,aL,aM,aN,U,L,ae,H,ag⟩:=tC (i:=j) (a:=gu f) (bc S B) (by rw[x8,N];rfl) λr _ h=>(F rfl).2 3 r h;rw[u7,e] at U;cases U;obtain⟨ah,ai,M,aO,rfl,aj,I,am⟩:=O0 ae λr h=>(F rfl).2 3 r (H r h);have L:w'.rangeAt g (j*4) [ah,ai,M,.bool (decide (f.live≠0))]:=L;have ap:M=y:=by
  have h1:=L 2 M rfl;rw[(np B G) 2 y rfl] at h1;exact (c8 h1).symm
 subst ap;refine Dv (α:=Int) (i:=m) (A:=λ_=>False) rfl rfl ao.u al.i aj hm rfl rfl (λr _ C=>⟨λh=>h,(F rfl).2 3 r (H r (I r C))⟩) λaP J aq=>?_;have au:=am J (ak.mono aq (λr _ h=>h.elim id False.elim) λ_ _ h=>h);have av:=ag J (λr _ h=>I r h) au λr C=>.inl C;obtain⟨cJ,aw,ay⟩:=ad.OY (u':=dE u j f (f.cs.set m c)) (λq r h=>by have:=h.2;omega) (by rw[Q];rfl) J (λr _ h=>H r (I r h)) (by show bj _ _ _ _ ((u.funs.set j {f with cs:=f.cs.set m c}).map gu);rw[U3];exact av) rfl rfl rfl;refine ab _ ⟨(B.V _).trans (J.mono λr _ h=>.inl ⟨3,(H r (I r h)).1⟩),cJ,cs,aw,λq r C=>?_⟩;rcases ay q r C with⟨az,h⟩|h
 .exact .inl ⟨az,h.1⟩
 .exact .inr Ω
theorem PA (p:ck w ac af an A R A9 aG n s u t h cs) {K:Unit->x3->Prop} (f:∀e,dJ w ac af an A R A9 aG n s t h {u with zero:=c} e->K () e):ax x7 (o8 al (.pointer (σ ⟨an,0+2,ν⟩)) (Δ c)) w K:=by
 refine bo (o:=0+2) al.i rfl rfl p.box (by rw[p.doc.len.1];omega) λU a x j=>?_;refine f _ ⟨a.mono λr _ h=>.inr h,A9,_,p.D0 a (λr _ h=>.inr h) j ?_ λq r h=>.inl ⟨q,h⟩,λq r h=>.inl ⟨q,h⟩⟩;exact (bu.V p.doc a λr _ h he=>h.elim (λ⟨q,h⟩=>(p.apart q r h).2.2 he) λh=>(p.read r h).2.2 he).Oe
theorem PB (p:ck w ac af an A R A9 aG n s u t h cs) {i:Nat} {x:bi} (B:u.vars[i]? =σ x):∃g cap y,cs[3]? =σ (.slice (σ ⟨g,0,ν⟩) u.vars.length cap)/\w.cell? ⟨g,i,ν⟩=σ y/\aH .i64 w y (ay x)/\(∀r,leads y r->A9 0 r)/\
  ∀ {w':x3} {m:Int} {z:x1} {gz:Nat} {K:Unit->x3->Prop},Ext w w'->ap .i64 ah w' gz z (ay {x with mask:=m})->(∀r,leads z r->w.heap.size<=r)->(∀I,dJ w ac af an A R A9 aG n s t h {u with vars:=u.vars.set i {x with mask:=m}} I->K () I)->
   aa x7 (c7 cK (.slice (σ ⟨g,0,ν⟩) u.vars.length cap) (Δ (i:Int))) w' λa=>ax x7 (o8 am a z) w' K:=by
 have J:=p.olds;have X:=(x4.1 B).1;obtain⟨szv,Y,aE,aF,aI,aJ,L,_,Z,_,_,_,_,ad⟩:=id J.doc;obtain⟨g,cap,full,ag,c,aK,e,C,ai,E,M,F,aj,aL,al⟩:=OW (i:=i) (a:=ay x) Z (by rw[x8,B];rfl) λr _ h=>(ad rfl).2 0 r h;obtain⟨y,rfl⟩:=W8.1 (ak.len F);rw[u7] at e;have ao:full[i]? =σ y:=by have:=M 0 y rfl;simpa[show ak.n (Λ)=1 from rfl] using this
 refine⟨g,cap,y,by rw[L,<-e];rfl,by have:=C.cell (o:=i) ao;exact this,cU (gU F),λr f=>?_,λ{w' m N gz K} G O P aq=>?_⟩
 .obtain⟨aM,aN,au,av⟩:=IT F;rcases av with rfl|aw
  .obtain⟨_,_,_,e,_⟩:=f;cases e
  .obtain⟨e,_⟩:=bP au f;rw[e];exact (aj _ aw).1
 have z:=G.size;have E:i*1+1<=full.length:=E;rw[fx cK.u am.i X λ_=>rfl];obtain⟨_,_,_,Q⟩:=ds O.ls;refine bo (o:=0+i*1) am.i (by rw[Q];rfl) (by rw[Q];rfl) (C.ext G) Ω λS U aO j=>?_;have j:ab S g ag (over full (i*1) [N]):=by
  have e:=OX (full:=full) (c:=[y]) (o:=i*1) (q:=0) (x:=N) M E Ξ;rw[X5] at j;rw[Nat.add_zero] at e;rw[e] at j;exact j
 have aP:g<w.heap.size:=C.lt;have H:ae (λr=>r=g) w S:=(G.V _).trans U;have az:=bn O U λr f he=>by have he:r=g:=he;have:=P r f;omega
 have aA:=al H (λr _ h=>.inr h) j (n1 (R:=aG) az) λr f=>.inr (P r f);have W:∀r,r<w.heap.size->r=g->A9 0 r/\r<w.heap.size:=λr f h=>by rw[h];exact ai
 obtain⟨cJ,aB,aC⟩:=J.pn (u':={u with vars:=u.vars.set i {x with mask:=m}}) (λq r h=>h.2) (v:=Y) (by rw[L];rfl) H W (by show bj _ _ _ _ ((u.vars.set i {x with mask:=m}).map ay);rw[U3];exact aA) rfl (tD B rfl) (tD B rfl) rfl rfl;refine aq _ ⟨H.mono λr f h=>.inl ⟨0,(W r f h).1⟩,cJ,cs,aB,λq r f=>?_⟩;rcases aC q r f with⟨aD,h⟩|h
 .exact .inl ⟨aD,h.1⟩
 .exact .inr h
end
def fL (s:au) (sc:Λ) (pos:Int) (v:Int):Nat->Nat->Λ->List (Λ)
 |0,_,tl=>[tl]
 |m+1,p,tl=>if (p:Int)=pos then fL s sc pos v m (p+1) (tl.set p v) else (cT s (sc.getD p 0)).flatMap λx=>fL s sc pos v m (p+1) (tl.set p x)
theorem tU {α:Type} {l:List α} {p:Nat} {x:α} (h:p<l.length):(l.set p x).take (p+1)=l.take p++[x]:=by
 rw[u9,j4 h,List.take_set_of_le (o4 _)];rfl
theorem q9 {s:au} {sc:Λ} {pos:Nat} {v:Int}:∀ (m p:Nat) (tl:Λ),sc.length=p+m->tl.length=sc.length->fL s sc pos v m p tl=(iu (h0 s pos v (sc.drop p) p)).map (tl.take p++ ·)
 |0,p,tl,h1,a=>by
  rw[List.drop_eq_nil_of_le Ω,o9 Ω];unfold fL h0 iu;rw[List.map_singleton,X9]
 |m+1,p,tl,h1,a=>by
  have e:p<sc.length:=Ω
  obtain⟨u,hu⟩:=aI (l:=sc) e;have h:sc.drop p=u::sc.drop (p+1):=by rw[X7 e,(x4.1 hu).2]
  have j:sc.getD p 0=u:=by rw[u4,hu];rfl
  rw[h];unfold fL h0;rw[iu];by_cases f:p=pos
  .rw[if_pos Ω,if_pos f,List.flatMap_singleton,q9 m (p+1) (tl.set p v) Ω (by rw[Z2];exact a),S8,tU Ω];refine List.map_congr_left λr _=>?_;simp
  .rw[if_neg Ω,if_neg f,j,List.map_flatMap];congr 1;funext x;rw[q9 m (p+1) (tl.set p x) Ω (by rw[Z2];exact a),S8,tU Ω];refine List.map_congr_left λr _=>?_;simp
theorem PC {s:au} {sc:Λ} {p:Nat} {a:Λ} (h1:sc.length=p+m) (e:tl.length=sc.length) (f:a.length=sc.length) (h:a.take p=tl.take p):fL s sc pos v m p a=fL s sc pos v m p tl:=by
 rw[q9 m p tl h1 e,q9 m p a h1 f,h]
theorem PD {s:au} {sc:Λ} (h:tl.length=sc.length):fL s sc pos v sc.length 0 tl=bW s sc pos v:=by
 rw[q9 sc.length 0 tl Ω h];unfold bW;simp
def mX (w:x3) (ac gs bI bl a6:Nat) (aF:x1) (pos v:Int):Prop:=ab w gs dO [Γ ac]/\ab w bI am [aF]/\ab w bl ah [Δ pos]/\ab w a6 ah [Δ v]
theorem mX.V {S:ag} {ac gs bI bl a6:Nat} {aF:x1} {pos:Int} (h:mX w ac gs bI bl a6 aF pos v) (a:ae S w w') (e:¬S gs/\¬S bI/\¬S bl/\¬S a6):mX w' ac gs bI bl a6 aF pos v:=
 ⟨h.1.V a e.1,h.2.1.V a e.2.1,h.2.2.1.V a e.2.2.1,h.2.2.2.V a e.2.2.2⟩
theorem mX.ext {ac gs bI bl a6:Nat} {aF:x1} {pos:Int} (h:mX w ac gs bI bl a6 aF pos v) (a:Ext w w'):mX w' ac gs bI bl a6 aF pos v:=h.V (a.V λ_=>False) ⟨id,id,id,id⟩
def fX (ac af:Nat) (R:ag) (n:aT) (s:au) (gs bI bl a6:Nat) (aF:x1) (sc:Λ) (pos v:Int) (B0:Nat) (D:Nat->Prop) (w:x3):Prop:=
 mX w ac gs bI bl a6 aF pos v/\(gs<B0/\bI<B0/\bl<B0/\a6<B0)/\aH .i64 w aF sc/\(∀r,leads aF r->r<B0)/\(Laid w/\B0<=w.heap.size)/\ ∃A s' br,bV w ac af A R n s' br/\(∀i,cT s' i=cT s i)/\ ∀r,A r\/R r->r<B0\/D r
section
variable {ac af gs bI bl a6 B0:Nat} {R:ag} {n:aT} {s:au} {aF:x1} {sc:Λ} {pos v:Int}
theorem fX.ext (h:fX ac af R n s gs bI bl a6 aF sc pos v B0 D w) (a:Ext w w'):fX ac af R n s gs bI bl a6 aF sc pos v B0 D w':=by
 obtain⟨h1,f,j,p,e,A,s',br,q,r,x⟩:=h;exact⟨h1.ext a,f,j.ext a,p,⟨e.1.ext a,Y5 e.2 a.size⟩,A,s',br,q.ext a,r,x⟩
def jZ (w:x3) (l gy gt gtb ga:Nat) (hh:Array x1) (q:Nat) (tl:Λ):Prop:=ab w gy zm [.func (.yield l) #[] #[]]/\ab w gtb am [.slice (σ ⟨gt,0,ν⟩) q q]/\ab w ga oz [.func (.func lL) #[] hh]/\
 ap .i64 ah w gt (.slice (σ ⟨gt,0,ν⟩) q q) tl
theorem jZ.V {S:ag} {q:Nat} {hh:Array x1} (h:jZ w l gy gt gtb ga hh q tl) (f:ae S w w') (j:¬S gy/\¬S gtb/\¬S ga/\¬S gt):jZ w' l gy gt gtb ga hh q tl:=
 ⟨h.1.V f j.1,h.2.1.V f j.2.1,h.2.2.1.V f j.2.2.1,bn h.2.2.2 f λr p=>by
  obtain⟨a,_,_,e,s⟩:=p;cases e;rw[<-s];exact j.2.2.2⟩
theorem jZ.ext {q:Nat} {hh:Array x1} (h:jZ w l gy gt gtb ga hh q tl) (a:Ext w w'):jZ w' l gy gt gtb ga hh q tl:=h.V (a.V λ_=>False) ⟨id,id,id,id⟩
theorem PE (I:aH .i64 w aF sc):ai x7 y7 [Γ ac,aF,Δ pos,Δ v] w λr w'=>Ext w w'/\ ∃gs bI bl a6,r= .func (.func lK) #[] #[Γ bI,Γ bl,Γ a6,Γ gs]/\mX w' ac gs bI bl a6 aF pos v/\w.heap.size<=gs/\w.heap.size<=bI/\w.heap.size<=bl/\w.heap.size<=a6:=by
 obtain⟨_,_,_,x⟩:=ds I;refine aw func121 ?_;refine bm λgs J z s h=>?_;refine bm λbI U A j a=>?_;refine bm λbl B C e p=>?_;refine bm λa6 q E f y=>?_;have h:ab q gs dO [Γ ac]:=((ab.ext h j).ext e).ext f;have a:ab q bI am [aF]:=by rw[x] at a ⊢;exact (ab.ext a e).ext f
 have p:ab q bl ah [Δ pos]:=ab.ext p f;rw[mq];have G:=s.size;have H:=j.size;have z3:=e.size;exact⟨((s.trans j).trans e).trans f,gs,bI,bl,a6,rfl,⟨h,a,p,y⟩,Ω,Ω,Ω,Ω⟩
theorem fX.own {S:ag} (h:fX ac af R n s gs bI bl a6 aF sc pos v B0 D w) (j:ae S w w') (q:∀r,S r->B0<=r/\¬D r):fX ac af R n s gs bI bl a6 aF sc pos v B0 D w':=by
 obtain⟨h1,f,C,x,y,A,s',br,z,E,B⟩:=h;have no:∀ {r:Nat},r<B0->¬S r:=λh1 f=>by have:=(q _ f).1;omega
 refine⟨h1.V j ⟨no f.1,no f.2.1,no f.2.2.1,no f.2.2.2⟩,f,hS C j λr p a n c e F=>?_,x,⟨?_,Y5 y.2 j.size⟩,A,s',br,⟨z.1.V j λr _ p I=>?_,z.2⟩,E,B⟩
 .exact no (x r ⟨a,n,c,e,F⟩) p
 .exact jC j (no Ω) y.1
 .exact (B r p).elim (λh=>no h I) (q r I).2
def PF (P:(Nat->Prop)->x3->Prop) (av:(Nat->Prop)->Nat->x3->Prop) (L:List (Λ)) (l B:Nat):Prop:=∀ (D:Nat->Prop) (k:Nat) tl aM w',(∀r,D r->B<=r/\r<w'.heap.size)->B<=w'.heap.size->P D w'->L[k]? =σ tl->aH .i64 w' aM tl->av D k w'->
 hK x7 l [aM] w' λu a=>u= .bool true/\(∃D',(∀r,D' r->D r\/w'.heap.size<=r/\r<a.heap.size)/\(∀r,D r->D' r)/\P D' a/\av D' (k+1) a)/\cM w' a/\w'.heap.size<=a.heap.size/\ae (λr=>r<B\/D r) w' a
def ra (D:Nat->Prop) (B gy gtb ga gt:Nat):Prop:=(B<=gy/\¬D gy)/\(B<=gtb/\¬D gtb)/\(B<=ga/\¬D ga)/\B<=gt/\¬D gt
theorem ra.go {D':Nat->Prop} {B cn:Nat} (h:ra D B gy gtb ga gt) (a:∀r,D' r->D r\/m<=r/\r<cn) (hm:gy<m/\gtb<m/\ga<m/\gt<m):ra D' B gy gtb ga gt:=
 have f:∀ {g:Nat},g<m->¬D g->¬D' g:=λh1 e j=>(a _ j).elim e λh=>Ω
 ⟨⟨h.1.1,f hm.1 h.1.2⟩,⟨h.2.1.1,f hm.2.1 h.2.1.2⟩,⟨h.2.2.1.1,f hm.2.2.1 h.2.2.1.2⟩,h.2.2.2.1,f hm.2.2.2 h.2.2.2.2⟩
theorem jZ.lt {q:Nat} {hh:Array x1} (h:jZ w l gy gt gtb ga hh q tl):gy<w.heap.size/\gtb<w.heap.size/\ga<w.heap.size/\gt<w.heap.size:=
 ⟨h.1.lt,h.2.1.lt,h.2.2.1.lt,(bP h.2.2.2 ⟨_,_,_,rfl,rfl⟩).2⟩
def AtR (l gy gt gtb ga:Nat) (hh:Array x1) (P:(Nat->Prop)->x3->Prop) (av:(Nat->Prop)->Nat->x3->Prop) (S:ag) (D:Nat->Prop) (w:x3) (sl k p:Nat) (tl:Λ) (w':x3):Prop:=
 w.heap.size<=w'.heap.size/\ ∃D' a,a.length=sl/\a.take p=tl.take p/\jZ w' l gy gt gtb ga hh sl a/\((∀r,D' r->D r\/w.heap.size<=r/\r<w'.heap.size)/\ ∀r,D r->D' r)/\P D' w'/\av D' k w'/\ae S w w'
section
variable {l gy gt gtb ga B:Nat} {hh:Array x1} {P:(Nat->Prop)->x3->Prop} {av:(Nat->Prop)->Nat->x3->Prop} {S T:ag} {D:Nat->Prop} {w J U:x3} {sl k p:Nat} {tl:Λ}
theorem AtR.own (s:∀D T J U,ae T J U->(∀r,T r->B<=r/\¬D r)->P D J->P D U) (x:∀D k J U,ae (λr=>B<=r/\¬D r) J U->fq B J U->av D k J->av D k U)
  (h:AtR l gy gt gtb ga hh P av S D w sl k p tl J) (e:ae T J U) (y:fq B J U) (a:∀r,T r->r<w.heap.size/\¬D r/\B<=r/\S r/\r≠gy/\r≠gtb/\r≠ga/\r≠gt):AtR l gy gt gtb ga hh P av S D w sl k p tl U:=by
 obtain⟨z,D',A,h1,C,E,⟨j,F⟩,G,H,I⟩:=h;have q:∀r,T r->B<=r/\¬D' r:=λr f=>⟨(a r f).2.2.1,λK=>(j r K).elim (a r f).2.1 λh=>by have:=(a r f).1;omega⟩;exact⟨Y5 z e.size,D',A,h1,C,E.V e ⟨λh=>(a _ h).2.2.2.2.1 rfl,λh=>(a _ h).2.2.2.2.2.1 rfl,λh=>(a _ h).2.2.2.2.2.2.1 rfl,λh=>(a _ h).2.2.2.2.2.2.2 rfl⟩,
  ⟨λr f=>(j r f).imp id λh=>⟨h.1,R5 h.2 e.size⟩,F⟩,s D' T J U e q G,x D' k J U (e.mono λr _ h=>q r h) y H,I.trans (e.mono λr _ h=>(a r h).2.2.2.1)⟩
theorem AtR.base {w0:x3} (h:AtR l gy gt gtb ga hh P av S D w sl k p tl J) (a:Ext w0 w) (e:∀r,r<w0.heap.size->S r->T r):AtR l gy gt gtb ga hh P av T D w0 sl k p tl J:=by
 obtain⟨f,D',j,h1,q,s,⟨x,y⟩,z,A,B⟩:=h;exact⟨Y5 a.size f,D',j,h1,q,s,⟨λr C=>(x r C).imp id λh=>⟨Y5 a.size h.1,h.2⟩,y⟩,z,A,((a.V S).trans B).mono e⟩
theorem AtR.comp {a:Nat->Prop} {j:Λ} {x:Int} (f:∀r,r<B\/D r\/r=gt->S r) (q:∀r,a r->D r\/w.heap.size<=r/\r<J.heap.size) (y:∀r,D r->a r) (s:ae S w J) (z:j.take p=tl.take p)
  (h:AtR l gy gt gtb ga hh P av (λr=>r<B\/a r\/r=gt) a J sl k (p+1) (j.set p x) U):AtR l gy gt gtb ga hh P av S D w sl k p tl U:=by
 obtain⟨A,D',C,h1,E,F,⟨G,H⟩,K,L,M⟩:=h;have I:=s.size;refine⟨Y5 I A,D',C,h1,?_,F,⟨λr e=>?_,λr e=>H r (y r e)⟩,K,L,?_⟩
 .have:=congrArg (List.take p) E;rw[List.take_take,List.take_take,Nat.min_eq_left Ω,List.take_set_of_le (o4 _)] at this;rw[this,z]
 .rcases G r e with h|h
  .exact (q r h).imp id λh=>⟨h.1,Ω⟩
  .exact .inr ⟨Ω,h.2⟩
 .refine ((s.mono λr _ h=>.inl h).trans (M.mono λr _ h=>?_):ae (λr=>S r\/w.heap.size<=r) w U).mono λr e h=>h.elim id λh=>Ω
  rcases h with h|h|h
  .exact .inl (f r (.inl h))
  .exact (q r h).elim (λh=>.inl (f r (.inr (.inl h)))) λh=>.inr h.1
  .exact .inl (f r (.inr (.inr h)))
end
theorem PG {α β:Type} {l:List α} {a:α->List β} {i:Nat} {y:α} {z:β} (h:l[j]? =σ y) (hi:(a y)[i]? =σ z):(l.flatMap a)[((l.take j).flatMap a).length+i]? =σ z:=by
 have f:=(x4.1 h).1;have e:l=l.take j++y::l.drop (j+1):=by
  conv=>lhs;rw[<-List.take_append_drop j l,X7 f,(x4.1 h).2]
 conv=>lhs;rw[e,List.flatMap_append,Y6]
 have p:=(x4.1 hi).1;have el:((l.take j++y::l.drop (j+1)).take j)=l.take j:=by rw[List.take_append_of_le_length (by rw[j5];omega),List.take_take,Nat.min_self]
 rw[el,Z9 Ω,R2,Z8 p];exact hi
theorem PH {t:r9} {b o:Nat} {x:x1} {K:x1->Prop} (a:jD x7 t=true) (h:w.cell? ⟨b,o,ν⟩=σ x):aa x7 (do loadVar t (<-asAddr (.pointer (σ ⟨b,o,ν⟩)))) w K=K x:=aa.of λw' e=>by
 have h':=iE e h;unfold jD at a;cases hu:x7.underlying t with
 |none=>rw[hu] at a;cases a
 |some d=>
  rw[hu] at a;cases d<;>first|(cases a;done)|simp[asAddr,loadVar,isAgg,run_underlying hu,h']
def j1 (bI gy gtb bl a6 ga gs:Nat):Array x1:=#[Γ bI,Γ gy,Γ gtb,Γ bl,Γ a6,Γ ga,Γ gs]
def tV (p:Nat) (bI gy gtb bl a6 ga gs:Nat):List x1:=[Δ (p:Int),Γ bI,Γ gy,Γ gtb,Γ bl,Γ a6,Γ ga,Γ gs]
theorem PI {B:Nat} {L:List (Λ)} {av:(Nat->Prop)->Nat->x3->Prop} (bX:0<=pos) (bY:∀u∈sc,0<=u/\u<n.sizes.length) (c4:sc.length<=6) (bZ:B0<=B) (ag:gt≠gy/\gt≠gtb/\gt≠ga)
  (Q:∀D k J U,ae (λr=>B<=r/\¬D r) J U->fq B J U->av D k J->av D k U) (b0:PF (fX ac af R n s gs bI bl a6 aF sc pos v B0) av L l B):
  ∀ (q p:Nat) (tl:Λ) (k:Nat) (D:Nat->Prop) (w:x3),sc.length=p+q->tl.length=sc.length->(∀r,D r->B<=r/\r<w.heap.size)->B<=w.heap.size->ra D B gy gtb ga gt->jZ w l gy gt gtb ga (j1 bI gy gtb bl a6 ga gs) sc.length tl->fX ac af R n s gs bI bl a6 aF sc pos v B0 D w->av D k w->
   (∀i x,(fL s sc pos v q p tl)[i]? =σ x->L[k+i]? =σ x)->
   ai x7 lL (tV p bI gy gtb bl a6 ga gs) w λr w'=>r= .bool true/\AtR l gy gt gtb ga (j1 bI gy gtb bl a6 ga gs) (fX ac af R n s gs bI bl a6 aF sc pos v B0) av (λr=>r<B\/D r\/r=gt) D w sc.length (k+(fL s sc pos v q p tl).length) p tl w':=by
 obtain⟨f,rfl⟩:=V7 bX;have ak:∀D T J U,ae T J U->(∀r,T r->B<=r/\¬D r)->fX ac af R n s gs bI bl a6 aF sc f v B0 D J->fX ac af R n s gs bI bl a6 aF sc f v B0 D U:=λD T J U aU bn h=>h.own aU λr z=>⟨Y5 bZ (bn r z).1,(bn r z).2⟩;have aV:∀ {N:x3} {K:x1->Prop},ab N bI am [aF]->K aF->aa x7 (u5 am (Γ bI)) N K:=λaZ a1=>by rw[aB (v:=aF) Ψ (aZ.Qz rfl)];exact a1
 have a2:∀ {a7 p:Nat} {tl:Λ} {D:Nat->Prop} {w U N:x3} {a:Nat} {b:Bool},Ext w U->w.heap.size<=a->a<U.heap.size->(∀r,D r->B<=r/\r<w.heap.size)->B<=w.heap.size->(gy<w.heap.size/\gtb<w.heap.size/\ga<w.heap.size/\gt<w.heap.size)->
   AtR l gy gt gtb ga (j1 bI gy gtb bl a6 ga gs) (fX ac af R n s gs bI bl a6 aF sc f v B0) av (λr=>r<B\/D r\/r=gt\/r=a) D U sc.length a7 p tl N->ab N a eB [.bool b]->
   ax x7 (o8 eB (Γ a) (.bool true)) N λ(_:Unit) aK=>aa x7 (do loadVar eB (<-asAddr (Γ a))) aK λr=>ux w.heap.size aK λbp=>r= .bool true/\AtR l gy gt gtb ga (j1 bI gy gtb bl a6 ga gs) (fX ac af R n s gs bI bl a6 aF sc f v B0) av (λr=>r<B\/D r\/r=gt) D w sc.length a7 p tl bp:=by
  intro a7 p tl D w U N a b H bq al C an au a8 ba;have b1:∀r,r=a->r<U.heap.size/\¬D r/\B<=r/\(r<B\/D r\/r=gt\/r=a)/\r≠gy/\r≠gtb/\r≠ga/\r≠gt:=by
   rintro r rfl;exact⟨al,λh=>by have:=(C _ h).2;omega,Ω,.inr (.inr (.inr rfl)),Ω,Ω,Ω,Ω⟩
  refine ax.ct (bo eB.i rfl rfl ba Ξ λaK b2 c5 bb b3=>?_);have bb:ab aK a eB [.bool true]:=bb;have b4:=a8.own ak Q b2 b3.o b1;rw[PH (x:=.bool true) Ψ (bb.Qz rfl)];intro bp b5 b6;refine⟨rfl,((b4.own ak Q (b5.V λ_=>False) (b6.2.mono an) λ_ h=>h.elim).base H λr z h=>?_)⟩;rcases h with h|h|h|h
  .exact .inl h
  .exact .inr (.inl h)
  .exact .inr (.inr h)
  .omega
 intro q;induction q with
 |zero=>
  intro p tl k D w b7 aw C an E az bc be aA;refine jh func179 ?_;refine ax.ct (bm λg1 J b8 aC G bf=>?_);refine ax.ct (bB eB.i λa U bq Y O bg=>?_);have H:=aC.trans Y;have b9:=aC.size;have ca:=Y.size;have G:ab U g1 ah [Δ (p:Int)]:=ab.ext G Y;have O:ab U a eB [.bool false]:=O;have al:=O.lt;have aL:=Q D k w U (H.V _) (bf.trans bg).o be;have M:=bc.ext H;have I:=az.ext H;rw[aB (v:=Δ (p:Int)) Ψ (G.Qz rfl)];refine aV M.1.2.1 ?_;rw[aX am.u M.2.2.1,bh,aj];refine⟨λ_=>?_,λh=>absurd Ω h⟩;rw[aB (v:=.func (.yield l) #[] #[]) Ψ (I.1.Qz rfl),aB (v:=.slice (σ ⟨gt,0,ν⟩) sc.length sc.length) Ψ (I.2.1.Qz rfl)];have cb:L[k]? =σ tl:=aA 0 tl rfl;refine (show hK x7 l [.slice (σ ⟨gt,0,ν⟩) sc.length sc.length] U _ from hK.mono (b0 D k tl _ U (λr z=>⟨(C r z).1,by have:=(C r z).2;omega⟩) Ω M cb I.2.2.2.ls aL) ?_);rintro _ bt ⟨rfl,⟨D',d1,d2,cc,cd⟩,ce,cg,bi⟩;refine⟨ce,?_⟩;have au:=az.lt;have aM:∀ {g:Nat},w.heap.size<=g->¬D g:=λh1 aD=>by have:=(C _ aD).2;omega
  have aE:∀ {g:Nat},B<=g->¬D g->¬(g<B\/D g):=λh1 aD ch=>ch.elim Ω aD;have ba:ab bt a eB [.bool false]:=O.V bi (aE Ω (aM Ω));have a8:AtR l gy gt gtb ga (j1 bI gy gtb bl a6 ga gs) (fX ac af R n s gs bI bl a6 aF sc f v B0) av (λr=>r<B\/D r\/r=gt\/r=a) D U sc.length (k+1) p tl bt:=
   ⟨cg,D',tl,aw,rfl,I.V bi ⟨aE E.1.1 E.1.2,aE E.2.1.1 E.2.1.2,aE E.2.2.1.1 E.2.2.1.2,aE E.2.2.2.1 E.2.2.2.2⟩,⟨d1,d2⟩,cc,cd,bi.mono λr _ h=>h.imp id .inl⟩
  exact a2 H Ω al C an au a8 ba
 |succ q bu=>
  intro p tl k D w b7 aw C an E az bc be aA;refine jh func179 ?_;refine ax.ct (bm λg1 J b8 aC G bf=>?_);refine ax.ct (bB eB.i λa U bq Y O bg=>?_);have H:=aC.trans Y;have b9:=aC.size;have ca:=Y.size;have G:ab U g1 ah [Δ (p:Int)]:=ab.ext G Y;have O:ab U a eB [.bool false]:=O;have al:=O.lt;have h1:=G.lt;have aL:=Q D k w U (H.V _) (bf.trans bg).o be;have M:=bc.ext H;have I:=az.ext H;have au:=az.lt;have aM:∀ {g:Nat},w.heap.size<=g->¬D g:=λh1 aD=>by have:=(C _ aD).2;omega
  rw[aB (v:=Δ (p:Int)) Ψ (G.Qz rfl)];refine aV M.1.2.1 ?_;rw[aX am.u M.2.2.1,bh,aj];refine⟨λh=>absurd h Ω,λ_=>?_⟩;rw[aB (v:=Δ (p:Int)) Ψ (G.Qz rfl),aB (v:=Δ (f:Int)) Ψ (M.1.2.2.1.Qz rfl),bh,aj];have bw:∀ {N:x3} {K:x1->Prop},ab N gtb am [.slice (σ ⟨gt,0,ν⟩) sc.length sc.length]->K (.slice (σ ⟨gt,0,ν⟩) sc.length sc.length)->aa x7 (u5 am (Γ gtb)) N K:=λaZ a1=>by rw[aB (v:=.slice (σ ⟨gt,0,ν⟩) sc.length sc.length) Ψ (aZ.Qz rfl)];exact a1
  have aN:∀ {D:Nat->Prop} (r:Nat),ra D B gy gtb ga gt->r=gt->B<=r/\¬D r:=λr h e=>e▸⟨h.2.2.2.1,h.2.2.2.2⟩;refine⟨λhe=>?_,λci=>?_⟩
  .refine bw I.2.1 ?_;rw[aB (v:=Δ (p:Int)) Ψ (G.Qz rfl),aB (v:=Δ v) Ψ (M.1.2.2.2.Qz rfl),iK rfl am.u ah.i I.2.2.2 Ω];refine ax.ct (iL ah.i I.2.2.2 Ω λao X c6 cj ck=>?_);have bx:jZ ao l gy gt gtb ga (j1 bI gy gtb bl a6 ga gs) sc.length (tl.set p v):=⟨I.1.V X λh=>ag.1 h.symm,I.2.1.V X λh=>ag.2.1 h.symm,I.2.2.1.V X λh=>ag.2.2 h.symm,cj⟩;have cl:=ak D _ _ _ X (λr h=>aN r E h) M;have cm:=Q D k U ao (X.mono λr _ h=>aN r E h) ck.o aL;have cn:ab ao g1 ah [Δ (p:Int)]:=G.V X Ω;have cp:ab ao a eB [.bool false]:=O.V X Ω;rw[aB (v:=.func (.func lL) #[] (j1 bI gy gtb bl a6 ga gs)) Ψ (bx.2.2.1.Qz rfl),aB (v:=Δ (p:Int)) Ψ (cn.Qz rfl),aP,wrap_i64 Ω Ω];have hw:fL s sc f v (q+1) p tl=fL s sc f v q (p+1) (tl.set p v):=by rw[fL,if_pos he]
   rw[hw];rw[hw] at aA;refine (show ai x7 lL (tV (p+1) bI gy gtb bl a6 ga gs) ao _ from ai.mono (bu (p+1) (tl.set p v) k D ao Ω (by rw[Z2];exact aw) (λr z=>⟨(C r z).1,by have:=(C r z).2;omega⟩) Ω E bx cl cm aA) ?_);rintro _ cq c7 ⟨rfl,bz⟩;have cr:ab cq a eB [.bool false]:=by
    obtain⟨_,_,_,_,_,_,_,_,_,cu⟩:=bz;exact cp.V cu λh=>by
     rcases h with h|h|h
     .omega
     .exact aM Ω h
     .omega
   exact a2 H Ω al C an au (AtR.comp (λr h=>h.imp id λh=>h.imp id .inl) (λr h=>.inl h) (λ_ h=>h) (X.mono λr _ h=>.inr (.inr (.inl h))) rfl bz) cr
  intro c8 aO _ cw;have aQ:=M.ext aO;obtain⟨A,s',br,bA,cz,c9⟩:=id aQ.2.2.2.2.2;obtain⟨u,hu⟩:=aI (l:=sc) (i:=p) Ω;obtain⟨cA,da⟩:=bY u (x5 hu);have db:=bA.2.2.2.1.vars;obtain⟨x,bC⟩:=aI (l:=s'.vars) (i:=u.toNat) Ω;rw[aB (v:=Γ ac) Ψ (aQ.1.1.Qz rfl)];refine aV aQ.1.2.1 ?_;rw[aB (v:=Δ (p:Int)) Ψ ((G.ext aO).Qz rfl),bd am.u ah.i Ψ aQ.2.2.1 hu];refine (ll (i:=u) bA).mono ?_;rintro _ dc cB ⟨⟨b,cC,rfl,bD⟩,bE⟩;refine (oN (b:=b) (n:=cC)).mono ?_;rintro _ aR cD ⟨cE,bF,rfl,dd,bH⟩;have bJ:=mQ bD cA bC;have cF:cT s (sc.getD p 0)=ay x:=by
   rw[<-cz,u4,hu,V6];unfold cT;rw[bC]
  have bK:fL s sc f v (q+1) p tl=(ay x).flatMap λy=>fL s sc f v q (p+1) (tl.set p y):=by rw[fL,if_neg ci,cF]
  have Z:=(aO.trans bE).trans cE;have cG:=(cw.trans cB).trans cD;have z12:=Z.size;have de:=(aO.trans bE).size;have df:=bH.lt;have bL:B<=aR.heap.size:=Ω
  have cH:=Q D k U aR (Z.V _) cG.o aL;have bM:=M.ext Z;have bN:=I.ext Z;refine⟨Nat,false,false,ke,#[Γ bF],0,_,_,λ_=>_,λ_ j w'=>AtR l gy gt gtb ga (j1 bI gy gtb bl a6 ga gs) (fX ac af R n s gs bI bl a6 aF sc f v B0) av (λr=>r<B\/D r\/r=gt) D aR sc.length (k+(((ay x).take j).flatMap λy=>fL s sc f v q (p+1) (tl.set p y)).length) p tl w'/\ab w' g1 ah [Δ (p:Int)]/\ab w' a eB [.bool false],
   λ_ _ _ _=>False,rfl,(oM (g:=bF) bD.1).s.x,?_,λ_ _ _ ap h=>⟨h.1.ext ap,h.2.ext ap⟩,?_,λ_ _ _ _ _ _ _ h=>h,⟨bH,bM.2.2.2.2.1.1⟩,?_,?_,?_,λ_ _ _ h=>h.elim,λ_ _ _ _ h=>h.elim⟩
  .rintro _ _ _ _ ⟨_,_,_,_,rfl⟩;rfl
  .rintro _ j dg dh aU cI ⟨ad,aG,P⟩;have ap:=aU.ext λ_ _ h=>nomatch h.1;exact⟨ad.own ak Q (ap.V λ_=>False) (cI.mono bL) λ_ h=>h.elim,aG.ext ap,P.ext ap⟩
  .exact⟨⟨o4 _,D,tl,aw,rfl,bN,⟨λ_ h=>.inl h,λ_ h=>h⟩,bM,by simpa using cH,ae.refl _ _⟩,G.ext Z,O.ext Z⟩
  .rintro _ _ j _ di _ _ ⟨cJ,dj⟩ ⟨dk,rfl,y,cK,cL⟩ ⟨cM,bO,cN⟩;cases cL;intro bP aH cO _;have bQ:(ay x)[j]? =σ (y:Int):=by rw[<-bJ,x8,cK];rfl
   have cP:=cM.own ak Q (aH.V λ_=>False) (cO.2.mono bL) λ_ h=>h.elim;obtain⟨dl,aJ,aS,ad,aG,P,⟨aT,cQ⟩,cR,cS,cU⟩:=cP;have cV:=bN.lt;have bj:=E.go aT cV;have bR:∀r,aJ r->B<=r/\r<bP.heap.size:=λr z=>(aT r z).elim (λh=>⟨(C r h).1,by have:=(C r h).2;omega⟩) λh=>⟨Ω,h.2⟩;refine bw P.2.1 ?_;rw[aB (v:=Δ (p:Int)) Ψ ((bO.ext aH).Qz rfl),iK rfl am.u ah.i P.2.2.2 Ω];refine ax.ct (iL ah.i P.2.2.2 Ω λaq W dm cW cX=>?_);have bS:jZ aq l gy gt gtb ga (j1 bI gy gtb bl a6 ga gs) sc.length (aS.set p y):=⟨P.1.V W λh=>ag.1 h.symm,P.2.1.V W λh=>ag.2.1 h.symm,P.2.2.1.V W λh=>ag.2.2 h.symm,cW⟩;have cY:=ak aJ _ _ _ W (λr h=>aN r bj h) cR;have cZ:=Q aJ _ bP aq (W.mono λr _ h=>aN r bj h) cX.o cS;have bT:ab aq g1 ah [Δ (p:Int)]:=(bO.ext aH).V W Ω;have c0:ab aq a eB [.bool false]:=(cN.ext aH).V W Ω;have c1:=(cJ.ext aH).V W Ω;rw[aB (v:=.func (.func lL) #[] (j1 bI gy gtb bl a6 ga gs)) Ψ (bS.2.2.1.Qz rfl),aB (v:=Δ (p:Int)) Ψ (bT.Qz rfl),aP,wrap_i64 Ω Ω];have bU:fL s sc f v q (p+1) (aS.set p (y:Int))=fL s sc f v q (p+1) (tl.set p (y:Int)):=PC Ω (by rw[Z2];exact aw) (by rw[Z2];exact ad) (by rw[tU Ω,tU Ω,aG]);refine (show ai x7 lL (tV (p+1) bI gy gtb bl a6 ga gs) aq _ from ai.mono (bu (p+1) (aS.set p y) _ aJ aq Ω (by rw[Z2];exact ad) (λr z=>⟨(bR r z).1,by have:=(bR r z).2;omega⟩) Ω bj bS cY cZ λi dn hi=>?_) ?_)
   .rw[bU] at hi;rw[S9];refine aA _ _ ?_;rw[bK];exact PG bQ hi
   rintro _ dp dq ⟨rfl,bV⟩;rw[bG,Y4,aY];have bW:=AtR.comp (S:=λr=>r<B\/D r\/r=gt) (λr h=>h) (λr h=>(aT r h).imp id λh=>⟨h.1,Ω⟩) cQ (cU.trans (W.mono λr _ h=>.inr (.inr h))) aG bV;obtain⟨_,_,_,_,_,_,_,c2,_,bk⟩:=bV;have aW:∀ {g:Nat},w.heap.size<=g->g<aR.heap.size->¬(g<B\/aJ g\/g=gt):=λc3 dr h=>by
    rcases h with h|h|h
    .omega
    .exact (aT _ h).elim (aM c3) λh=>Ω
    .omega
   refine⟨⟨c1.V bk (aW Ω Ω),c2.2.2.2.2.1.1⟩,⟨?_,bT.V bk (aW Ω Ω),c0.V bk (aW Ω Ω)⟩,λh=>by cases h⟩;have e:k+(((ay x).take j).flatMap λy=>fL s sc f v q (p+1) (tl.set p y)).length+(fL s sc f v q (p+1) (aS.set p (y:Int))).length=k+(((ay x).take (j+1)).flatMap λy=>fL s sc f v q (p+1) (tl.set p y)).length:=by
    rw[bU,u9,bQ,o7,List.flatMap_append,List.flatMap_singleton,p8];omega
   rw[e] at bW;exact bW
  .rintro _ j ds rfl ⟨ad,aG,P⟩;rw[o9 (by rw[<-bJ,u7];exact o4 _),<-bK] at ad;exact a2 H Ω al C an au (ad.base Z λr _ h=>h.imp id λh=>h.imp id .inl) P
end
section
variable {ac af gs bI bl a6 B0:Nat} {R:ag} {n:aT} {s:au} {aF:x1} {sc:Λ} {v:Int}
theorem EE {e:Nat} (W:∀u∈sc,0<=u/\u<n.sizes.length) (X:sc.length<=6):
  pG x7 true false lK [Γ bI,Γ bl,Γ a6,Γ gs] 0 (λk=>k=(bW s sc e v).length)
   (λk vs Y w=>Y=k+1/\ ∃tl aM,(bW s sc e v)[k]? =σ tl/\vs=[aM]/\aH .i64 w aM tl) (fX ac af R n s gs bI bl a6 aF sc e v B0):=by
 refine⟨lK.enters,λl av aY w Z _ ad hj ag=>?_⟩;have E:∀D k J U,ae (λr=>w.heap.size<=r/\¬D r) J U->fq w.heap.size J U->av D k J->av D k U:=λD k J U ai aj=>Z D k J U (ai.mono λr _ h=>⟨rfl,h⟩) aj;have I:=hj.2.2.1;have ak:=hj.2.2.2.2.1.2;obtain⟨_,_,_,aZ⟩:=ds I;refine pQ func178 ?_;refine ax.ct (bm λgy J a1 p G al=>?_);have an:∀ {H:x3} {K:x1->Prop},ab H bI am [aF]->K aF->aa x7 (u5 am (Γ bI)) H K:=λao aq=>by rw[aB (v:=aF) Ψ (ao.Qz rfl)];exact aq
 refine an (hj.1.2.1.ext p) ?_;rw[aX am.u (I.ext p)];refine ax.ct (kh (k:=.i64) am.u ah.i Ω Ω λgt U a2 A M au=>?_);refine ax.ct (bB am.i λgtb a7 a8 q N aw=>?_);refine ax.ct (bo am.i rfl rfl N (by simp[x1.cells]) λba C bb ay az=>?_);refine ax.ct (bB oz.i λga bc bd f O aA=>?_);rw[mq];refine ax.ct (bo oz.i rfl rfl O (by simp[x1.cells]) λa y be aC aD=>?_);have bf:=p.size;have bg:=A.size;have z3:=q.size;have z5:=f.size;have bh:=G.lt;have bi:=M.lt;have bj:=N.lt;have bk:=O.lt;have aE:ab a gy zm [.func (.yield l) #[] #[]]:=(((((ab.ext G A).ext q).V C Ω).ext f).V y Ω);have aG:ab a gt ah (ints .i64 (p9 sc.length 0)):=((((M.ext q).V C Ω).ext f).V y Ω);have aI:ab a gtb am [.slice (σ ⟨gt,0,ν⟩) sc.length sc.length]:=((ab.ext ay f).V y Ω);have P:ab a ga oz [.func (.func lL) #[] (j1 bI gy gtb bl a6 ga gs)]:=aC;rw[aB (v:=.func (.func lL) #[] (j1 bI gy gtb bl a6 ga gs)) Ψ (P.Qz rfl)];have hm:ap .i64 ah a gt (.slice (σ ⟨gt,0,ν⟩) sc.length sc.length) (p9 sc.length 0):=by
  have:=bQ.full (n:=sc.length) (k:=1) aG Ξ (by simp only[maxLen];omega);unfold ap;rw[List.length_replicate];exact this
 have aJ:=(p.trans A).trans q;have Q:ae (λr=>w.heap.size<=r/\¬False) w a:=(((aJ.V _).trans (C.mono λr _ h=>⟨by have h:r=gtb:=h;omega,id⟩)).trans (f.V _)).trans (y.mono λr _ h=>⟨by have h:r=ga:=h;omega,id⟩);have aK:cM w a:=((((al.trans au).trans aw).trans az).trans aA).trans aD;have aL:fX ac af R n s gs bI bl a6 aF sc e v B0 (λ_=>False) a:=hj.own Q λr aN=>⟨Ω,aN.2⟩;have S:=PD (s:=s) (sc:=sc) (pos:=e) (v:=v) (tl:=p9 sc.length 0) Ξ;refine (show gG x7 lL (tV 0 bI gy gtb bl a6 ga gs) a _ from (PI (L:=bW s sc e v) (B:=w.heap.size) (l:=l) (gy:=gy) (gt:=gt) (gtb:=gtb) (ga:=ga) (pos:=e) Ω W X ak ⟨Ω,Ω,Ω⟩ E ?_ sc.length 0 (p9 sc.length 0) 0 (λ_=>False) a Ω Ξ (λ_ h=>h.elim) Ω ⟨⟨Ω,id⟩,⟨Ω,id⟩,⟨Ω,id⟩,Ω,id⟩ ⟨aE,aI,P,hm⟩ aL (E _ _ _ _ Q aK.o ag) λi x hi=>?_).free.mono ?_)
 .intro D k tl aM w' aO aP aQ aR aS z;refine hK.mono (ad D k (k+1) [aM] w' aO aP aQ ⟨rfl,tl,aM,aR,rfl,aS⟩ z) ?_;rintro u bn (⟨h1,aT,aU,aV,aW⟩|⟨h,_⟩)
  .exact⟨h1,aT,aU (.inr rfl),aV,aW rfl⟩
  .cases h
 .rw[S] at hi;rw[X5];exact hi
 .rintro _ bp ⟨_,rfl,_,D',_,_,_,_,_,_,z,_⟩;rw[S,X5] at z;exact .inl ⟨D',_,rfl,z⟩
end
def EF (m gs bI bl a6:Nat) (aF:x1):Prop:=(m<=gs/\m<=bI/\m<=bl/\m<=a6)/\ ∀r,leads aF r->m<=r
section
variable {ac af gs bI bl a6 B0 m:Nat} {A R:ag} {n:aT} {s s':au} {t:aC} {aF:x1} {sc:Λ} {pos v:Int} {w w':x3}
theorem bV.lt (h:bV w ac af A R n s t) {r:Nat} (a:A r\/R r):r<w.heap.size:=by
 obtain⟨⟨j,p,q,x,⟨_,_,e,f⟩,_⟩,_⟩:=h;exact a.elim (f r) (e r)
theorem fX.put {D' S:Nat->Prop} (h:fX ac af R n s gs bI bl a6 aF sc pos v B0 D w) (j:ae S w w') (hm:EF m gs bI bl a6 aF) (y:∀r,S r->r<m\/B0<=r) (z:Laid w') (B:bV w' ac af A R n s' t) (C:∀i,cT s' i=cT s i) (E:∀r,A r\/R r->r<B0\/D' r):fX ac af R n s gs bI bl a6 aF sc pos v B0 D' w':=by
 obtain⟨h1,f,p,q,F,_⟩:=h;have no:∀ {r:Nat},m<=r->r<B0->¬S r:=λh1 f p=>by have:=y _ p;omega
 exact⟨h1.V j ⟨no hm.1.1 f.1,no hm.1.2.1 f.2.1,no hm.1.2.2.1 f.2.2.1,no hm.1.2.2.2 f.2.2.2⟩,f,hS p j λr G a n c e x=>no (hm.2 r ⟨a,n,c,e,x⟩) (q r ⟨a,n,c,e,x⟩) G,q,⟨z,Y5 F.2 j.size⟩,A,s',t,B,C,E⟩
theorem EG {f:b0} {y:x3->Prop} {K:x1->x3->Prop} (h:bV w ac af A R n s t) (B:Laid w) (C:s.funs[j]? =σ f)
  (E:∀aF gs bI bl a6 w',Ext w w'->EF w.heap.size gs bI bl a6 aF->fX ac af R n s gs bI bl a6 aF f.sc pos v w'.heap.size (λ_=>False) w'->K (.func (.func lK) #[] #[Γ bI,Γ bl,Γ a6,Γ gs]) w'):
  ai x7 rP [Γ ac,Δ (j:Int)] w λaF J=>(Ext w J\/y J)/\ai x7 y7 [Γ ac,aF,Δ pos,Δ v] J K:=by
 refine (w3 h C).mono ?_;rintro aF J _ ⟨q,g,G,hm⟩;refine⟨.inl q,(PE hm.ls).mono ?_⟩;rintro _ U _ ⟨x,gs,bI,bl,a6,rfl,a,H,I,L,M⟩;have p:=q.trans x;have N:=q.size;have z:=p.size;refine E aF gs bI bl a6 U p ⟨⟨Ω,Ω,Ω,Ω⟩,λr e=>(bP hm e).1▸G⟩ ⟨a,⟨a.1.lt,a.2.1.lt,a.2.2.1.lt,a.2.2.2.lt⟩,hm.ls.ext x,λr e=>?_,⟨B.ext p,o4 _⟩,A,s,t,h.ext p,λ_=>rfl,λr e=>.inl ?_⟩
 .have:=bP hm e;have:=x.size;omega
 .have:=h.lt e;omega
end
section
variable {k:Int} {sizes:Λ} {s:au} {f:b0} {j pos:Nat} {v:Int} {tl:Λ}
theorem EH (a:s.funs[j]? =σ f) (e:f.live≠0) (hm:cF f.ad tl 0=σ (m:Int)):(hg s j tl).isSome=true/\l6 s j tl=a7 f.ad f.cs tl:=by
 unfold hg l6;rw[a];simp[e,hm]
end
section
variable {w:x3} {ac af:Nat} {A R:ag} {n:aT} {s:au} {t:aC}
theorem PJ {f:b0} (h:bV w ac af A R n s t) (ak:Laid w) (N:s.funs[j]? =σ f) (ay:f.live≠0) (az:∀u,f.sc[pos]? =σ u->v∈cT s u):
  ai x7 Gq [Γ ac,Δ (j:Int),Δ (pos:Int),Δ v] w λr w'=>r=Δ (iv n.k s f pos v)/\Ext w w':=by
 have am:=h.2.2.2.1;have an:=x5 N;obtain⟨O,aU,_⟩:=am.funs f an;refine jh func48 ?_;refine bm λg1 J aV P y=>?_;refine bm λQ U aX K L=>?_;have y:ab U g1 dO [Γ ac]:=ab.ext y K;have L:ab U Q ah [Δ (j:Int)]:=L;rw[aB (v:=Γ ac) Ψ (y.Qz rfl)];refine (n2 (h.ext (P.trans K))).mono ?_;rintro _ aY _ ⟨rfl,S⟩;refine bB al.i λz aZ a1 W ao=>?_;have a2:=P.size;have a8:=K.size;have z3:=S.size;have z4:=W.size;have ba:=y.lt;have bb:=L.lt;have bc:=ao.lt;refine bo al.i rfl rfl ao (by simp[x1.cells]) λaA X bd Y=>?_;have Y:ab aA z al [Δ n.k]:=Y;intro Z B _ _;have be:=B.size;have ap:=S.trans W;have aa:Ext w Z:=((((P.trans K).trans S).trans W).then X (by rintro r p rfl;omega)).trans B;have ae:ab Z g1 dO [Γ ac]:=((y.ext ap).V X Ω).ext B;have aq:ab Z Q ah [Δ (j:Int)]:=((L.ext ap).V X Ω).ext B;have au:=Y.ext B;have bf:=au.lt;rw[aB (v:=Γ ac) Ψ (ae.Qz rfl),aB (v:=Γ ac) Ψ (ae.Qz rfl),aB (v:=Δ (j:Int)) Ψ (aq.Qz rfl)];refine EG (h.ext aa) (ak.ext aa) N λaF gs bI bl a6 aC C aD aE=>?_;have bg:=C.size;refine⟨Nat,true,false,lK,#[Γ bI,Γ bl,Γ a6,Γ gs],0,_,_,_,λD k w'=>Ext w w'/\ab w' g1 dO [Γ ac]/\ab w' Q ah [Δ (j:Int)]/\ab w' z al [Δ ((((bW s f.sc pos v).take k).map (a7 f.ad f.cs)).foldl min n.k)],
  λ_ _ _ _=>False,rfl,EE (λu hu=>⟨(O.scope.1 u hu).1,O.vars u hu⟩) O.scope.2,?_,λ_ _ _ aG h=>h.ext aG,?_,λ_ _ _ _ _ _ _ h=>h,aE,?_,?_,?_,λ_ _ _ h=>h.elim,λ_ _ _ _ h=>h.elim⟩
 .rintro _ _ _ _ ⟨_,_,_,_,rfl,_⟩;rfl
 .rintro D k aH aI M bh ⟨q,E,G,x⟩;have aW:∀ {g:Nat} {e:r9} {cs:List x1},g<aC.heap.size->ab aH g e cs->ab aI g e cs:=λbi aJ=>aJ.V M λh=>by have:=h.2.1;omega
  exact⟨q.then M λr p h=>by have:=h.2.1;omega,aW Ω E,aW Ω G,aW Ω x⟩
 .exact⟨aa.trans C,ae.ext C,aq.ext C,au.ext C⟩
 .rintro aM D k bj bk bn bp aK ⟨rfl,tl,bq,av,e,aL⟩ ⟨q,E,G,x⟩;cases e;intro br H _ aN;obtain⟨m,hm⟩:=pp am an az (x5 av);obtain⟨aO,M⟩:=EH N ay hm;rw[aB (v:=Γ ac) Ψ ((E.ext H).Qz rfl),aB (v:=Δ (j:Int)) Ψ ((G.ext H).Qz rfl)];refine (qU (j:=j) (h.ext (q.trans H)) (aL.ext H)).mono ?_;rintro _ bt aP ⟨rfl,aQ⟩;have a:=H.trans aQ;rw[if_pos aO,M,bx,bz,aB (v:=Δ ((((bW s f.sc pos v).take k).map (a7 f.ad f.cs)).foldl min n.k)) Ψ ((x.ext a).Qz rfl),kR];refine ax.ct (bo al.i rfl rfl (x.ext a) Ξ λaw I bu ag aR=>?_);have bw:=a.size;have aj:Ext w aw:=(q.trans a).then I (by rintro r p rfl;omega);have aS:=h.ext aj;refine⟨⟨D,λr h=>.inl h,λ_ h=>h,(aK.ext a).put I aD (λr p=>.inl (by have p:r=z:=p;omega)) (ak.ext aj) aS (λ_=>rfl) λr p=>.inl (by have:=h.lt p;omega),aj,(E.ext a).V I Ω,(G.ext a).V I Ω,?_⟩,aN.trans (aP.j7.trans aR.j7),(a.V _).trans (I.mono λr _ h=>.inl (by have h:r=z:=h;omega))⟩;have ag:ab aw z al [Δ (min ((((bW s f.sc pos v).take k).map (a7 f.ad f.cs)).foldl min n.k) (a7 f.ad f.cs tl))]:=ag;rw[u9,av,o7,j6,List.foldl_append];exact ag
 .rintro D k bA rfl ⟨q,E,G,x⟩;rw[aB (v:=Δ ((((bW s f.sc pos v).take (bW s f.sc pos v).length).map (a7 f.ad f.cs)).foldl min n.k)) Ψ (x.Qz rfl)];intro bC aT _;refine⟨?_,q.trans aT⟩;rw[o9 (o4 _)];rfl
end
def eH (w:x3) (ac af:Nat) (A R:ag) (n:aT) (s':au) (w':x3):Prop:=ae (eQ w) w w'/\Laid w'/\ ∃aK br,Grow A w aK w'/\bV w' ac af aK R n s' br/\er br []/\¬aK 0
def gE (w:x3) (ac af:Nat) (A R:ag) (n:aT) (m:Nat) (D:Nat->Prop) (s':au) (w':x3):Prop:=
 ae (λr=>eQ w r\/w.heap.size<=r) w w'/\(Laid w'/\w.heap.size<=m/\0<w.heap.size/\(∀r,A r\/R r->r<w.heap.size))/\ ∃aK br,Grow A w aK w'/\bV w' ac af aK R n s' br/\(er br []/\¬aK 0)/\ ∀r,aK r->r<m\/D r
section
variable {w J U:x3} {ac af m:Nat} {A R:ag} {n:aT} {s s' tW:au} {t:aC} {D D' S:Nat->Prop}
theorem gE.start (h:bV w ac af A R n s t) (f:Laid w) (j:¬A 0) (p:er t []) (a:Ext w J) (hm:w.heap.size<=m):gE w ac af A R n m D s J:=
 ⟨a.V _,⟨f.ext a,hm,by
  obtain⟨x,y,z,B,⟨h1,_,_,q⟩,_⟩:=h.1;have:=q _ h1;omega,λr e=>h.lt e⟩,A,t,Grow.ext a,h.ext a,⟨p,j⟩,λr e=>.inl (by have:=h.lt (.inl e);omega)⟩
theorem gE.own (h:gE w ac af A R n m D s' J) (e:ae S J U) (f:∀r,S r->m<=r/\¬D r):gE w ac af A R n m D s' U:=by
 obtain⟨h1,⟨s,x,y,j⟩,aK,br,⟨g1,z,B⟩,p,C,q⟩:=h;refine⟨h1.trans (e.mono λr _ h=>.inr (by have:=(f r h).1;omega)),⟨jC e (λh=>by have:=(f _ h).1;omega) s,x,y,j⟩,aK,br,⟨?_,z,B⟩,⟨p.1.V e λr _ a I=>?_,p.2⟩,C,q⟩
 .exact ((g1.mono λr _ h=>.inl h).trans (e.mono λr _ h=>.inr (f r h).1):ae (λr=>A r\/m<=r) w U).mono λr a h=>h.elim id λh=>Ω
 .obtain⟨F,E⟩:=f r I;rcases a with a|a
  .exact (q r a).elim Ω E
  .have:=j r (.inr a);omega
theorem gE.ext (h:gE w ac af A R n m D s' J) (a:Ext J U):gE w ac af A R n m D s' U:=h.own (a.V λ_=>False) λ_ h=>h.elim
theorem gE.open (h:gE w ac af A R n m D s' J):∃aK br,bV J ac af aK R n s' br/\er br []/\ ∀ {U:x3} {tW:au} {D' a:Nat->Prop} {j:aC},ae (eQ J) J U->Grow aK J a U->bV U ac af a R n tW j->er j []->(∀r,D r->D' r)->(∀r,J.heap.size<=r->r<U.heap.size->D' r)->
  gE w ac af A R n m D' tW U/\ae (λr=>r<m\/D r) J U/\ ∀r,a r->r<m\/D' r:=by
 obtain⟨h1,⟨y,z,B,C⟩,aK,br,E,F,p,q⟩:=h;refine⟨aK,br,F,p.1,λ{U tW D' a j} G e s H K L=>?_⟩;have P:=h1.size;have M:¬a 0:=λh=>(e.2.1 0 h).elim p.2 λh=>Ω
 have x:∀r,a r->r<m\/D' r:=λr f=>(e.2.1 r f).elim (λh=>(q r h).imp id (K r)) λh=>.inr (L r h (s.lt (.inl f)));refine⟨⟨h1.trans (G.mono λr _ h=>?_),⟨jC e.1 p.2 y,z,B,C⟩,a,j,E.trans e,s,⟨H,M⟩,x⟩,e.1.mono λr _ h=>q r h,x⟩;by_cases f:w.heap.size<=r
 .exact .inr f
 .exact .inl (mK (λo N I O=>h1.aW r o N I λh=>h.elim O f) h)
theorem gE.done (h:gE w ac af A R n m D s' J) (e:Ext J U):eH w ac af A R n s' U:=by
 obtain⟨h1,⟨f,q,s,x⟩,aK,br,j,p,a,y⟩:=h.ext e;exact⟨h1.mono λr z h=>h.elim id λh=>Ω,f,aK,br,j,p,a.1,a.2⟩
end
section
variable {w:x3} {ac af:Nat} {A R:ag} {n:aT} {s:au} {t:aC}
theorem pu {u:Nat} {x:bi} (a:bq n.k n.sizes s) (f:s.vars[u]? =σ x) (h:v∈ay x):gw n (u:Int) v:=by
 have p:=(x4.1 f).1;have q:=a.vars;obtain⟨z,e⟩:=aI (l:=n.sizes) (i:=u) Ω;have r:=(a.var _ x z f e).1;have w:=a.fb.2.2 z (x5 e);have j:=(gA.1 h).1;refine⟨Ω,Ω,j.1,?_⟩;rw[r8,u4,e,V6];omega
theorem EI {k:Int} {sizes:Λ} {f:b0} {g:Int->Int} (p:bq k sizes s) (a:s.funs[j]? =σ f):dE s j f (c6 g [] f.ad f.cs)=s:=by
 obtain⟨q,r⟩:=i7 p (x5 a);rw[D5 q Ω (λ_ h=>absurd h List.not_mem_nil)];have:s.funs.set j f=s.funs:=by
  apply Y2;intro i;by_cases e:j=i
  .subst e;rw[j4 (x4.1 a).1,a]
  .rw[Y0 e]
 unfold dE;show {s with funs:=s.funs.set j f}=s;rw[this]
theorem EJ {u:Nat} {f:b0} {x:bi} {F1 F2:R3} {tup un:Int->Int} (h:bV w ac af A R n s t) (aP:Laid w) (bj:¬A 0) (bk:er t []) (E:s.funs[j]? =σ f) (bn:f.live≠0) (hu:f.sc[pos]? =σ (u:Int)) (y:s.vars[u]? =σ x) (aQ:v∈ay x)
  (h1:∀tl∈bW s f.sc pos v,(0<=tup (a7 f.ad f.cs tl)/\tup (a7 f.ad f.cs tl)<=n.k)/\ ∀ {w:x3} {A:ag} {s:au} {t:aC},bV w ac af A R n s t->ai x7 F1 [Γ ac,Δ (a7 f.ad f.cs tl),Δ c] w λr w'=>r=Δ (tup (a7 f.ad f.cs tl))/\Ext w w')
  (aR:(0<=un (x.un.getD v.toNat 0)/\un (x.un.getD v.toNat 0)<=n.k)/\ ∀ {w:x3} {A:ag} {s:au} {t:aC},bV w ac af A R n s t->ai x7 F2 [Γ ac,Δ (x.un.getD v.toNat 0),Δ c] w λr w'=>r=Δ (un (x.un.getD v.toNat 0))/\Ext w w'):
  ai x7 Gs [.agg #[.func (.func F1) #[] #[],.func (.func F2) #[] #[]],Γ ac,Δ (j:Int),Δ (pos:Int),Δ v,Δ c] w λ_ w'=>eH w ac af A R n (eu s j f pos u x v tup un) w':=by
 have G:=h.2.2.2.1;have ak:=x5 E;obtain⟨an,b5,_⟩:=G.funs f ak;have aS:∀u',f.sc[pos]? =σ u'->v∈cT s u':=λu' aT=>by
  rw[hu] at aT;cases aT;unfold cT;rw[r8,y];exact aQ
 have bo:=El G ak aS;refine jh func52 ?_;refine bm λbp J b6 aU P=>?_;refine bm λg1 U b7 ao a=>?_;refine bm λbq b8 b9 Z B=>?_;refine bm λbr z ca aa Q=>?_;have P:ab z bp pO [.func (.func F1) #[] #[],.func (.func F2) #[] #[]]:=((ab.ext P ao).ext Z).ext aa;have a:ab z g1 dO [Γ ac]:=(ab.ext a Z).ext aa;have B:ab z bq ah [Δ (j:Int)]:=ab.ext B aa;have Q:ab z br al [Δ c]:=Q;have ap:=((aU.trans ao).trans Z).trans aa;have cb:=aU.size;have cc:=ao.size;have z3:=Z.size;have cd:=ap.size;have aV:=P.lt;have H:=a.lt;have aX:=B.lt;have aY:=Q.lt;rw[aB (v:=Γ ac) Ψ (a.Qz rfl),aB (v:=Δ (j:Int)) Ψ (B.Qz rfl)];refine (w3 (h.ext ap) E).mono ?_;rintro ce cg _ ⟨bt,_,_,bu⟩;rw[bd am.u ah.i Ψ bu.ls hu];intro ch bw _ _;have I:=bt.trans bw;have aq:=ap.trans I;have z46:=I.size;rw[aB (v:=Γ ac) Ψ ((a.ext I).Qz rfl),aB (v:=Γ ac) Ψ ((a.ext I).Qz rfl),aB (v:=Δ (j:Int)) Ψ ((B.ext I).Qz rfl)];refine EG (h.ext aq) (aP.ext aq) E λaF gs bI bl a6 aZ av bA bB=>?_;have ci:=av.size;have bC:=I.trans av;refine⟨Nat,true,false,lK,#[Γ bI,Γ bl,Γ a6,Γ gs],0,_,_,_,
  λD k w'=>gE w ac af A R n w.heap.size D (dE s j f (c6 tup ((bW s f.sc pos v).take k) f.ad f.cs)) w'/\(ae (λr=>r<w.heap.size\/aZ.heap.size<=r) z w'/\aZ.heap.size<=w'.heap.size),
  λ_ _ _ _=>False,rfl,EE (λu hu=>⟨(an.scope.1 u hu).1,an.vars u hu⟩) an.scope.2,?_,λ_ _ _ y h=>h.ext y,?_,λ_ _ _ _ _ _ _ h=>h,bB,?_,?_,?_,λ_ _ _ h=>h.elim,λ_ _ _ _ h=>h.elim⟩
 .rintro _ _ _ _ ⟨_,_,_,_,rfl,_⟩;rfl
 .rintro D k cj ck S cl ⟨K,L,aw⟩;exact⟨K.own S λr q=>⟨Ω,q.2.2⟩,L.trans (S.mono λr _ h=>.inr h.2.1),Y5 aw S.size⟩
 .refine⟨?_,bC.V _,o4 _⟩;have e:dE s j f (c6 tup ((bW s f.sc pos v).take 0) f.ad f.cs)=s:=EI G E;rw[e];exact gE.start h aP bj bk (aq.trans av) (o4 _)
 .rintro aM D k cm ax a1 cn bD ⟨rfl,tl,cp,az,e,a2⟩ ⟨K,L,aw⟩;cases e;intro cq W _ bE;obtain⟨m,hm⟩:=pp G ak aS (x5 az);obtain⟨bF,bG⟩:=Em (g:=tup) G E bo az hm;obtain⟨⟨bH,bJ⟩,bK⟩:=h1 tl (x5 az);have aW:∀ {X:x3} {g:Nat} {e:r9} {cs:List x1},Ext ax X->w.heap.size<=g->g<z.heap.size->ab z g e cs->ab X g e cs:=λy M aD aE=>(aE.V L Ω).ext y;have bL:=(x4.1 E).1;have a8:(dE s j f (c6 tup ((bW s f.sc pos v).take k) f.ad f.cs)).funs[j]? =σ {f with cs:=c6 tup ((bW s f.sc pos v).take k) f.ad f.cs}:=j4 bL;obtain⟨M,S⟩:=EH (tl:=tl) a8 bn hm;obtain⟨A9,t9,aG,ba,aH⟩:=K.open;rw[aB (v:=Γ ac) Ψ ((aW W Ω H a).Qz rfl),aB (v:=Δ (j:Int)) Ψ ((aW W Ω aX B).Qz rfl)];refine (qU (j:=j) (aG.ext W) (a2.ext W)).mono ?_;rintro _ cr bM ⟨rfl,bN⟩;rw[if_pos M,S,bx,bz];intro bO bP _ bQ;have C:=(W.trans bN).trans bP;rw[aB (v:=Γ ac) Ψ ((aW C Ω H a).Qz rfl),aB (v:=Δ (j:Int)) Ψ ((aW C Ω aX B).Qz rfl),
   aA pO.p 0 (aW C Ω aV P) rfl,aB (v:=Γ ac) Ψ ((aW C Ω H a).Qz rfl),aB (v:=Δ c) Ψ ((aW C Ω aY Q).Qz rfl)]
  show ai x7 F1 [Γ ac,Δ (a7 f.ad (c6 tup ((bW s f.sc pos v).take k) f.ad f.cs) tl),Δ c] bO _;rw[bF];refine (bK (aG.ext C)).mono ?_;rintro _ ct bR ⟨rfl,bb⟩;have Y:=C.trans bb;refine⟨.inl bb,(OE (j:=j) (aG.ext Y) (.inl ba.1) (a2.ext Y)).mono ?_⟩;rintro r bc bS ⟨_,_,aI⟩;obtain⟨_,aj,aK,bT,bU,aJ,N⟩:=aI M ⟨bH,bJ⟩ _ m a8 hm;rw[bG] at N;have cu:=Y.size;have cw:=aj.size;obtain⟨be,aL,bX⟩:=aH (D':=λr=>D r\/ax.heap.size<=r/\r<bc.heap.size) (jQ Y aj) ((Grow.ext Y).trans aJ) N ba.set (λr h=>.inl h) λr M aD=>.inr ⟨M,aD⟩;refine⟨⟨λr=>D r\/ax.heap.size<=r/\r<bc.heap.size,λr h=>h,λr h=>.inl h,?_,be,L.trans (aL.mono λr _ h=>h.imp id λh=>(a1 r h).1),Ω⟩,bE.trans ((((bM.trans bQ).trans bR).trans bS).j7),aL.mono λr _ h=>h.imp (λh=>Ω) id⟩;refine bD.put aL bA (λr q=>?_) be.2.1.1 N (λ_=>rfl) λr q=>?_
  .rcases q with q|q
   .exact .inl Ω
   .exact .inr (a1 r q).1
  .rcases q with q|q
   .exact (bX r q).imp (λh=>Ω) id
   .exact .inl (by have:=h.lt (.inr q);omega)
 .rintro D k bY rfl ⟨K,L,aw⟩;rw[o9 (o4 _)] at K;have bf:=pu G y aQ;obtain⟨cz,cA,aN,bg,aH⟩:=K.open;have aW:∀ {X:x3} {g:Nat} {e:r9} {cs:List x1},Ext bY X->w.heap.size<=g->g<z.heap.size->ab z g e cs->ab X g e cs:=λy M aD aE=>(aE.V L Ω).ext y;rw[aB (v:=Γ ac) Ψ ((aW (Ext.refl _) Ω H a).Qz rfl)];refine (n3 (i:=(u:Int)) (v:=v) aN).mono ?_;rintro _ cB _ ⟨rfl,bZ⟩;have b1:hZ (dE s j f (c6 tup (bW s f.sc pos v) f.ad f.cs)) (u:Int).toNat v.toNat=x.un.getD v.toNat 0:=by
   unfold hZ;rw[r8,show (dE s j f (c6 tup (bW s f.sc pos v) f.ad f.cs)).vars[u]? =σ x from y]
  rw[if_pos bf,b1,bx,bz];intro b2 b3 _ _;have O:=bZ.trans b3;rw[aB (v:=Γ ac) Ψ ((aW O Ω H a).Qz rfl),aA pO.p 1 (aW O Ω aV P) rfl,aB (v:=Γ ac) Ψ ((aW O Ω H a).Qz rfl),aB (v:=Δ c) Ψ ((aW O Ω aY Q).Qz rfl)];show ai x7 F2 [Γ ac,Δ (x.un.getD v.toNat 0),Δ c] b2 _;refine (aR.2 (aN.ext O)).mono ?_;rintro _ cC _ ⟨rfl,bh⟩;have aO:=O.trans bh;refine⟨.inl bh,(DM (i:=(u:Int)) (v:=v) (aN.ext aO) (.inl bg.1)).mono ?_⟩;rintro r cD _ ⟨_,_,aI⟩;obtain⟨_,aj,aK,bT,bU,aJ,N⟩:=aI bf aR.1;have e:jT (dE s j f (c6 tup (bW s f.sc pos v) f.ad f.cs)) (u:Int).toNat v.toNat (un (x.un.getD v.toNat 0))=eu s j f pos u x v tup un:=by
   unfold jT eu ej;rw[r8,show (dE s j f (c6 tup (bW s f.sc pos v) f.ad f.cs)).vars[u]? =σ x from y]
  rw[e] at N;intro cE b4 _;exact (aH (D':=λ_=>True) (jQ aO aj) ((Grow.ext aO).trans aJ) N bg.set (λ_ _=>trivial) λ_ _ _=>trivial).1.done b4
end
theorem rb (h e:Nat) (f:l<256) (hm:a<256):(256*h+l) &&& (256*e+a)=256*(h &&& e)+(l &&& a):=by
 have j:l &&& a<2 ^ 8:=Nat.and_lt_two_pow _ hm;apply Nat.eq_of_testBit_eq;intro i;rw[Nat.testBit_and,show 256=2 ^ 8 from rfl,Nat.testBit_two_pow_mul_add _ f,Nat.testBit_two_pow_mul_add _ hm,Nat.testBit_two_pow_mul_add _ j];split
 .rw[Nat.testBit_and]
 .rw[Nat.testBit_and]
def gR (m x:Nat):Nat:=(x / 2 &&& m)+(x &&& m)
def hG (m x:Nat):Nat:=(x / 4 &&& m)+(x &&& m)
def jt (m x:Nat):Nat:=(x / 16+x) &&& m
def cZ (a:Nat):Nat:=jt 15 (hG 51 (gR 85 a))
theorem PK:∀e<2,∀l<256,(128*e+l / 2) &&& 85=l / 2 &&& 85:=by decide+kernel
theorem PL:∀e<4,∀l<256,(64*e+l / 4) &&& 51=l / 4 &&& 51:=by decide+kernel
theorem PM:∀e<5,∀l<69,(16*e+l / 16+l) &&& 15=(l / 16+l) &&& 15:=by decide+kernel
theorem mY:∀l<256,gR 85 l<256/\hG 51 (gR 85 l)<69/\hG 51 (gR 85 l) % 16<5/\cZ l<=8/\(cZ l=0->l=0):=by decide+kernel
theorem tX (h a:Nat) (e:l<256):gR (256*a+85) (256*h+l)=256*gR a h+gR 85 l:=by
 unfold gR;rw[show (256*h+l) / 2=256*(h / 2)+(128*(h % 2)+l / 2) by omega,rb _ _ Ω Ω,rb _ _ e Ω,PK _ Ω _ e];omega
theorem tY (h a:Nat) (e:l<256):hG (256*a+51) (256*h+l)=256*hG a h+hG 51 l:=by
 unfold hG;rw[show (256*h+l) / 4=256*(h / 4)+(64*(h % 4)+l / 4) by omega,rb _ _ Ω Ω,rb _ _ e Ω,PL _ Ω _ e];omega
theorem tZ (h a:Nat) (e:l<69) (he:h % 16<5):jt (256*a+15) (256*h+l)=256*jt a h+jt 15 l:=by
 unfold jt;rw[show (256*h+l) / 16+(256*h+l)=256*(h / 16+h)+(16*(h % 16)+l / 16+l) by omega,rb _ _ Ω Ω,PM _ he _ e]
def four (a b c d:Nat):Nat:=256*(256*(256*d+c)+b)+a
theorem PN {b c d:Nat} (e:a<256) (f:b<256) (h:c<256) (j:d<256):gR 6148914691236517205 (four a b c d)=four (gR 85 a) (gR 85 b) (gR 85 c) (gR 85 d):=by
 unfold four;rw[show 6148914691236517205=256*(256*(256*(256*1431655765+85)+85)+85)+85 from rfl,tX _ _ e,tX _ _ f,tX _ _ h];have:=tX 0 1431655765 j;rw[show 256*0+d=d by omega,show gR 1431655765 0=0 from by unfold gR;simp] at this;rw[this,Nat.mul_zero,X5]
theorem PO {b c d:Nat} (e:a<256) (f:b<256) (h:c<256) (j:d<256):hG 3689348814741910323 (four a b c d)=four (hG 51 a) (hG 51 b) (hG 51 c) (hG 51 d):=by
 unfold four;rw[show 3689348814741910323=256*(256*(256*(256*858993459+51)+51)+51)+51 from rfl,tY _ _ e,tY _ _ f,tY _ _ h];have:=tY 0 858993459 j;rw[show 256*0+d=d by omega,show hG 858993459 0=0 from by unfold hG;simp] at this;rw[this,Nat.mul_zero,X5]
theorem PP {b c d:Nat} (e:a<69) (f:b<69/\b % 16<5) (h:c<69/\c % 16<5) (j:d<69/\d % 16<5):jt 1085102592571150095 (four a b c d)=four (jt 15 a) (jt 15 b) (jt 15 c) (jt 15 d):=by
 unfold four;rw[show 1085102592571150095=256*(256*(256*(256*252645135+15)+15)+15)+15 from rfl,tZ _ _ e Ω,tZ _ _ f.1 Ω,tZ _ _ h.1 Ω];have:=tZ 0 252645135 j.1 Ω;rw[show 256*0+d=d by omega,show jt 252645135 0=0 from by unfold jt;simp] at this;rw[this,Nat.mul_zero,X5]
def re (x:Nat):Nat:=cZ (x % 256)+cZ (x / 256 % 256)+cZ (x / 65536 % 256)+cZ (x / 16777216)
theorem PQ {x:Nat} (h:x<4294967296):re x=0↔x=0:=by
 constructor
 .intro a;unfold re at a;have h1:=(mY (x % 256) Ω).2.2.2.2 Ω;have e:=(mY (x / 256 % 256) Ω).2.2.2.2 Ω;have f:=(mY (x / 65536 % 256) Ω).2.2.2.2 Ω;have j:=(mY (x / 16777216) Ω).2.2.2.2 Ω;omega
 .rintro rfl;decide
theorem PR {x:Nat} (an:x<4294967296):ai x7 Hk [.int .u64 (x:Int)] w λv w'=>v=Δ (re x:Int)/\Ext w w':=by
 obtain⟨a,b,c,d,G,H,I,J,e,Q,R,S,U⟩:∃a b c d,a<256/\b<256/\c<256/\d<256/\x=four a b c d/\a=x % 256/\b=x / 256 % 256/\c=x / 65536 % 256/\d=x / 16777216:=
  ⟨x % 256,x / 256 % 256,x / 65536 % 256,x / 16777216,Ω,Ω,Ω,Ω,by unfold four;omega,rfl,rfl,rfl,rfl⟩
 obtain⟨V,W,a3,a4,_⟩:=mY a G;obtain⟨X,Y,Z,ao,_⟩:=mY b H;obtain⟨ab,ac,ad,ap,_⟩:=mY c I;obtain⟨d1,d2,d3,d4,_⟩:=mY d J;have g1:=PN G H I J;have L:=PO V X ab d1;have ae:=PP W ⟨Y,Z⟩ ⟨ac,ad⟩ ⟨d2,d3⟩;have af:re x=cZ a+cZ b+cZ c+cZ d:=by unfold re;rw[<-Q,<-R,<-S,<-U]
 rw[<-e] at g1;have ag:gR 6148914691236517205 x<4294967296:=by rw[g1];unfold four;omega
 have M:hG 3689348814741910323 (gR 6148914691236517205 x)<4294967296:=by rw[g1,L];unfold four;omega
 have A:jt 1085102592571150095 (hG 3689348814741910323 (gR 6148914691236517205 x))=four (cZ a) (cZ b) (cZ c) (cZ d):=by rw[g1,L,ae];rfl
 have aj:four (cZ a) (cZ b) (cZ c) (cZ d)<4294967296:=by unfold four;omega
 refine aw func127 ?_;have s:∀ {t:r9} {cx cy:Bool} {K:x1->Prop} (p q:Nat),p+q<18446744073709551616->aa x7 (aJ .add t cx cy (.int .u64 (p:Int)) (.int .u64 (q:Int))) w K=K (.int .u64 ((p+q:Nat):Int)):=λp q h=>by
  rw[aP,wrap_u64 Ω Ω];rfl
 have small:∀ (p m:Nat),p &&& m<=p:=λp m=>Nat.and_le_left;rw[show (1:Int)=((1:Nat):Int) from rfl,kZ Ω,show (6148914691236517205:Int)=((6148914691236517205:Nat):Int) from rfl,u64_and Ω Ω,u64_and Ω Ω,s (x / 2 ^ 1 &&& 6148914691236517205) (x &&& 6148914691236517205) (by exact Nat.lt_of_le_of_lt (Nat.add_le_add (small _ _) (small _ _)) Ω)];obtain⟨y,B⟩:∃y,(x / 2 ^ 1 &&& 6148914691236517205)+(x &&& 6148914691236517205)=y:=⟨_,rfl⟩;rw[B];have B:gR 6148914691236517205 x=y:=B;rw[B] at ag M A;rw[show (2:Int)=((2:Nat):Int) from rfl,kZ Ω,show (3689348814741910323:Int)=((3689348814741910323:Nat):Int) from rfl,u64_and Ω Ω,u64_and Ω Ω,s (y / 2 ^ 2 &&& 3689348814741910323) (y &&& 3689348814741910323) (by exact Nat.lt_of_le_of_lt (Nat.add_le_add (small _ _) (small _ _)) Ω)];obtain⟨z,C⟩:∃z,(y / 2 ^ 2 &&& 3689348814741910323)+(y &&& 3689348814741910323)=z:=⟨_,rfl⟩;rw[C];have C:hG 3689348814741910323 y=z:=C;rw[C] at M A;rw[show (4:Int)=((4:Nat):Int) from rfl,kZ Ω,s (z / 2 ^ 4) z Ω,show (1085102592571150095:Int)=((1085102592571150095:Nat):Int) from rfl,u64_and Ω Ω];have A:z / 2 ^ 4+z &&& 1085102592571150095=four (cZ a) (cZ b) (cZ c) (cZ d):=A;rw[A];obtain⟨j,E⟩:∃j,four (cZ a) (cZ b) (cZ c) (cZ d)=j:=⟨_,rfl⟩;rw[E] at aj ⊢;unfold four at E;rw[show (8:Int)=((8:Nat):Int) from rfl,kZ Ω,s j (j / 2 ^ 8) Ω];obtain⟨r,N⟩:∃r,j+j / 2 ^ 8=r:=⟨_,rfl⟩;rw[N];rw[show (16:Int)=((16:Nat):Int) from rfl,kZ Ω,s r (r / 2 ^ 16) Ω];obtain⟨f,O⟩:∃f,r+r / 2 ^ 16=f:=⟨_,rfl⟩;rw[O];rw[show (32:Int)=((32:Nat):Int) from rfl,kZ Ω,s f (f / 2 ^ 32) Ω,fj ft.u ah.u,wrap_i64 Ω Ω,show (127:Int)=((127:Nat):Int) from rfl,Dy Ω Ω];refine⟨?_,Ext.refl _⟩;rw[af,show 127=2 ^ 7-1 from rfl,Nat.and_two_pow_sub_one_eq_mod];have ak:j / 2 ^ 8=65536*cZ d+256*cZ c+cZ b:=Ω
 have al:r / 2 ^ 16=256*cZ d+(cZ c+cZ d):=Ω
 have P:f / 2 ^ 32=0:=Ω
 have aq:f=128*(131072*cZ d+512*(cZ c+cZ d)+2*(cZ b+cZ c+cZ d))+(cZ a+cZ b+cZ c+cZ d):=Ω
 have am:(f+f / 2 ^ 32) % 2 ^ 7=cZ a+cZ b+cZ c+cZ d:=by rw[P];clear E N O ak al P;omega
 rw[am]
theorem hq {b n:Nat} (a:lT b n):ai x7 Gv [jn b n] w λr w'=>(∃q:Int,r=Δ q/\(q=0↔b=0))/\Ext w w':=by
 have e:b<4294967296:=by
  have:=a.2;have:(2:Nat) ^ n<=2 ^ 32:=T6 Ω a.1;omega
 refine aw func55 ?_;refine bm λg J s f h=>?_;rw[aA ca.p 0 h rfl];refine (PR e).mono ?_;rintro _ U _ ⟨rfl,j⟩;refine⟨⟨_,rfl,?_⟩,f.trans j⟩;rw[<-PQ e];omega
def oc (w:x3) (ac af:Nat) (A R:ag) (n:aT) (s:au) (a:fJ) (r:x1) (w':x3):Prop:=r=Δ (bp n.k s a).2/\eH w ac af A R n (bp n.k s a).1 w'
section
variable {w:x3} {ac af:Nat} {A R:ag} {n:aT} {s:au} {t:aC} {a:fJ}
theorem eH.same (h:bV w ac af A R n s t) (a:Laid w) (e:¬A 0) (f:er t []) (j:Ext w w'):eH w ac af A R n s w':=(gE.start (m:=w.heap.size) (D:=λ_=>False) h a e f j (o4 _)).done (Ext.refl _)
theorem eH.before {J:x3} {s':au} (a:Ext w J) (h:eH J ac af A R n s' w'):eH w ac af A R n s' w':=by
 obtain⟨h1,e,aK,br,f,j⟩:=h;exact⟨jQ a h1,e,aK,br,(Grow.ext a).trans f,j⟩
theorem ua {j pos u:Int} {f:b0} {x:bi} (h:dk s j pos v=σ (f,u,x)):∃p e u':Nat,j=p/\pos=e/\u=u'/\s.funs[p]? =σ f/\f.live≠0/\f.sc[e]? =σ (u':Int)/\s.vars[u']? =σ x/\v∈ay x/\ ∀q,f.sc[e]? =σ q->v∈cT s q:=by
 obtain⟨h1,z,A,B,a,C⟩:=iw h;obtain⟨E,r,F,w⟩:=hE C;obtain⟨j,rfl⟩:=V7 h1;obtain⟨pos,rfl⟩:=V7 z;obtain⟨u,rfl⟩:=V7 E;refine⟨j,pos,u,rfl,rfl,rfl,A,B,a,r,w,λu' y=>?_⟩;have a:f.sc[pos]? =σ (u:Int):=a;rw[a] at y;cases y;unfold cT;rw[r];exact w
theorem EK (hk:a.kind=0) (h:bV w ac af A R n s t) (z:Laid w) (E:¬A 0) (G:er t []):ai x7 FZ [Γ ac,Δ a.i,Δ a.pos,Δ a.v,Δ a.c] w (oc w ac af A R n s a):=by
 have K:=h.2.2.2.1;refine aw func13 ?_;refine (En h).mono ?_;rintro _ J _ ⟨y,u,e,rfl,q⟩;rw[bx,bz];have p:bp n.k s a=match dk s a.i a.pos a.v with
  |none=>(s,1)
  |some (f,u,x)=>if da n.k a.c (iv n.k s f a.pos.toNat a.v)≠0 then (s,da n.k a.c (iv n.k s f a.pos.toNat a.v)) else (eu s a.i.toNat f a.pos.toNat u.toNat x a.v (λg=>cH n.k g a.c) λg=>cr n.k g a.c,0):=by unfold bp;rw[if_pos hk];cases dk s a.i a.pos a.v<;>rfl
 rcases q with⟨rfl,f,x,q⟩|⟨rfl,q⟩
 rotate_left
 .rw[q] at p;rw[bL,aj];exact⟨λ_=>⟨by rw[p],by rw[p];exact eH.same h z E G y⟩,λh=>absurd Φ h⟩
 rw[q] at p;rw[bL,aj];refine⟨λh=>absurd rfl h,λ_=>?_⟩;obtain⟨j,pos,u,V,W,X,H,L,hu,M,Y,Z⟩:=ua q;have aa:=x5 H;simp only[V,W,X,r8] at p ⊢;refine (PJ (j:=j) (pos:=pos) (h.ext y) (z.ext y) H L Z).mono ?_;rintro _ U _ ⟨rfl,N⟩;refine (tN (h.ext (y.trans N))).mono ?_;rintro _ ak _ ⟨ab,rfl⟩;have B:=(y.trans N).trans ab;refine dm (λw'=>eH w ac af A R n (bp n.k s a).1 w') ?_ λav O=>?_
 .intro w' ae;refine⟨?_,ae⟩;rw[p];split
  .rfl
  .rename_i r;rw[Y3.1 r]
 rw[bh,aj];refine⟨λr=>?_,λr=>O _ ?_⟩
 .obtain⟨C,hm⟩:=jW (λh=>h r);rw[dp (cs:=#[.func (.func ng) #[] #[],.func (.func nh) #[] #[]]) Ψ];have P:∀t∈bW s f.sc pos a.v,a.c<=a7 f.ad f.cs t:=λt ag=>((mT _ _ _).1 hm).2 _ (n9.2 ⟨t,ag,rfl⟩);have Q:=gC (v:=a.v.toNat) K M;refine (EJ (t:=t) (F1:=ng) (F2:=nh) (tup:=λg=>cH n.k g a.c) (un:=λg=>cr n.k g a.c) (h.ext B) (z.ext B) E G H L hu M Y (λtl S=>?_) ⟨mV Q C.1,λ{w A s t} I=>q4 I Q C⟩).mono ?_
  .have T:=kB (t:=tl) K aa;exact⟨mU T ⟨C.1,P tl S⟩,λ{w A s t} I=>tO I T C (.inr (P tl S))⟩
  .rintro _ al _ ah;refine O _ ?_;rw[p,if_neg (λh=>h r)];exact ah.before B
 .rw[p,if_pos r];exact eH.same h z E G B
theorem PS (hk:a.kind=1) (h:bV w ac af A R n s t) (E:Laid w) (G:¬A 0) (H:er t []):ai x7 F0 [Γ ac,Δ a.i,Δ a.pos,Δ a.v,Δ a.c] w (oc w ac af A R n s a):=by
 have I:=h.2.2.2.1;refine aw func14 ?_;refine (En h).mono ?_;rintro _ J _ ⟨y,u,e,rfl,q⟩;rw[bx,bz];have p:bp n.k s a=match dk s a.i a.pos a.v with
  |none=>(s,1)
  |some (f,u,x)=>if da n.k a.c (x.un.getD a.v.toNat 0)≠0 then (s,da n.k a.c (x.un.getD a.v.toNat 0)) else (eu s a.i.toNat f a.pos.toNat u.toNat x a.v (λg=>cr n.k g a.c) λg=>cH n.k g a.c,0):=by unfold bp;rw[if_neg Ω,if_pos hk];cases dk s a.i a.pos a.v<;>rfl
 rcases q with⟨rfl,f,x,q⟩|⟨rfl,q⟩
 rotate_left
 .rw[q] at p;rw[bL,aj];exact⟨λ_=>⟨by rw[p],by rw[p];exact eH.same h E G H y⟩,λh=>absurd Φ h⟩
 rw[q] at p;rw[bL,aj];refine⟨λh=>absurd rfl h,λ_=>?_⟩;obtain⟨j,pos,u,S,T,V,L,W,hu,z,M,ad⟩:=ua q;have X:=x5 L;simp only[S,T,V,r8] at p ⊢;refine (n3 (i:=(u:Int)) (v:=a.v) (h.ext y)).mono ?_;rintro _ U _ ⟨rfl,N⟩;have Y:hZ s (u:Int).toNat a.v.toNat=x.un.getD a.v.toNat 0:=by
  unfold hZ;rw[r8,z]
 rw[if_pos (pu I z M),Y,bx,bz];refine (tN (h.ext (y.trans N))).mono ?_;rintro _ ae _ ⟨Z,rfl⟩;have B:=(y.trans N).trans Z;refine dm (λw'=>eH w ac af A R n (bp n.k s a).1 w') ?_ λav O=>?_
 .intro w' aa;refine⟨?_,aa⟩;rw[p];split
  .rfl
  .rename_i r;rw[Y3.1 r]
 rw[bh,aj];refine⟨λr=>?_,λr=>O _ ?_⟩
 .obtain⟨C,hm⟩:=jW (λh=>h r);rw[dp (cs:=#[.func (.func nh) #[] #[],.func (.func ng) #[] #[]]) Ψ];have P:=gC (v:=a.v.toNat) I z;refine (EJ (t:=t) (F1:=nh) (F2:=ng) (tup:=λg=>cr n.k g a.c) (un:=λg=>cH n.k g a.c) (h.ext B) (E.ext B) G H L W hu z M (λtl ag=>?_) ⟨mU P ⟨C.1,hm⟩,λ{w A s t} K=>tO K P C (.inr hm)⟩).mono ?_
  .have Q:=kB (t:=tl) I X;exact⟨mV Q C.1,λ{w A s t} K=>q4 K Q C⟩
  .rintro _ ah _ ab;refine O _ ?_;rw[p,if_neg (λh=>h r)];exact ab.before B
 .rw[p,if_pos r];exact eH.same h E G H B
end
def gS (s:au) (i:Int):Option bi:=match (if 0<=i then s.vars[i.toNat]? else ν) with
 |some x=>if x.gone=0 then σ x else ν
 |none=>ν
theorem xp {s:au} {i:Int} {x:bi} (h:gS s i=σ x):0<=i/\s.vars[i.toNat]? =σ x/\x.gone=0:=by
 unfold gS at h;by_cases a:0<=i
 .rw[if_pos a] at h;cases e:s.vars[i.toNat]? with
  |none=>rw[e] at h;cases h
  |some y=>
   rw[e] at h;simp only at h;split at h
   .rename_i f;cases h;exact⟨a,rfl,f⟩
   .cases h
 .rw[if_neg a] at h;cases h
theorem EL {g:Int->Int} {un L:Λ} (h:L[j]? =σ v):dj g un (L.take (j+1))=(dj g un (L.take j)).set v.toNat (g ((dj g un (L.take j)).getD v.toNat 0)):=by
 unfold dj;rw[u9,h,o7,List.foldl_append];rfl
theorem EM {i:Nat} {v:Int}:∀ (L M:Λ) (s:au),fV s i v (L++M)=fV (fV s i v L) i v M
 |[],_,_=>rfl
 |w::L,M,s=>by
  rw[List.cons_append,fV,fV];exact EM L M _
theorem PT {s:au} {i:Nat} {w:Int} {L:Λ} (h:L[j]? =σ w):fV s i v (L.take (j+1))=if w≠v then e5 (fV s i v (L.take j)) i w.toNat else fV s i v (L.take j):=by
 rw[u9,h,o7,EM];rfl
def j2 (m u:Int):Int:=if m<0\/u<m then u else m
theorem EN:∀ (l:Λ) (m:Int),0<=m->(∀c∈l,0<=c)->l.foldl j2 m=l.foldl min m
 |[],_,_,_=>rfl
 |c::l,m,hm,a=>by
  have f:=a c (.head _);have e:j2 m c=min m c:=by unfold j2;split<;>omega
  rw[List.foldl_cons,List.foldl_cons,e];exact EN l _ Ω λc h=>a c (.tail _ h)
theorem PU {x:bi} (h:∀v∈ay x,0<=x.un.getD v.toNat 0):((ay x).map λv=>x.un.getD v.toNat 0).foldl j2 (-1)=gB x:=by
 unfold gB;have a:∀c∈(ay x).map (λv=>x.un.getD v.toNat 0),0<=c:=λc e=>by
  obtain⟨v,f,rfl⟩:=n9.1 e;exact h v f
 generalize (ay x).map (λv=>x.un.getD v.toNat 0)=l at a;cases l with
 |nil=>rfl
 |cons c l=>exact EN l c (a c (.head _)) λc h=>a c (.tail _ h)
section
variable {w:x3} {ac af:Nat} {A R:ag} {n:aT} {s:au} {t:aC} {a:fJ}
theorem EO {i:Int} (h:bV w ac af A R n s t):ai x7 Gt [Γ ac,Δ i] w λr w'=>Ext w w'/\r=Δ (if (gS s i).isSome=true then 0 else 1):=by
 have p:=h.2.2.2.1;have O:=p.vars;refine aw func53 ?_;rw[dn dO.u];simp only[Z5,aY];refine aU (λr J=>r= .bool (!(gS s i).isSome)/\Ext w J) ?_ ?_
 .rintro _ J ⟨rfl,C⟩;rw[bY];exact⟨λq=>⟨C,by rw[if_neg (by simpa using q)]⟩,λq=>⟨C,by rw[if_pos (by simpa using q)]⟩⟩
 intro av E;refine (wV (i:=i) h).mono ?_;rintro _ U _ ⟨rfl,y⟩;rw[bY];refine⟨λa=>E _ _ ⟨?_,y⟩,λa=>?_⟩
 .rw[U4,decide_eq_true_eq] at a;have K:gS s i=ν:=by
   unfold gS;rw[if_pos a.1];have B:=a.2;unfold lk at B;cases f:s.vars[i.toNat]? with
   |none=>rfl
   |some x=>
    rw[f] at B;simp only;rw[if_neg λh=>by simp[h] at B]
  rw[K];rfl
 refine (ll (i:=i) (h.ext y)).mono ?_;rintro _ P _ ⟨⟨b,m,rfl,G⟩,L⟩;refine (AC (b:=b) (n:=m)).mono ?_;rintro _ Q _ ⟨rfl,M⟩;rw[bh];refine E _ _ ⟨?_,(y.trans L).trans M⟩;congr 1;by_cases j:0<=i/\i<n.sizes.length
 .obtain⟨x,f⟩:=aI (l:=s.vars) (i:=i.toNat) Ω;obtain⟨z,H⟩:=aI (l:=n.sizes) (i:=i.toNat) Ω;have S:=p.fb.2.2 z (x5 H);have V:=(p.var _ x z f H).1;have hm:=(G.2.2 x j.1 f).1;have N:x.gone=0:=by
   rw[decide_eq_true j.1,U7] at a;unfold lk at a;rw[f] at a;simpa using a
  have e:gS s i=σ x:=by
   unfold gS;rw[if_pos j.1,f];simp only;rw[if_pos N]
  rw[e,decide_eq_false Ω];rfl
 .obtain⟨rfl,rfl⟩:=G.2.1 j;have e:gS s i=ν:=by
   unfold gS;by_cases I:0<=i
   .rw[if_pos I,Z3 Ω]
   .rw[if_neg I]
  rw[e];rfl
theorem EP {u:Nat} {x:bi} {F1 F2:R3} {g z:Int->Int} (h:bV w ac af A R n s t) (aA:Laid w) (a1:¬A 0) (a2:er t []) (a:s.vars[u]? =σ x)
  (h1:∀v∈ay x,(0<=g (x.un.getD v.toNat 0)/\g (x.un.getD v.toNat 0)<=n.k)/\ ∀ {w:x3} {A:ag} {s:au} {t:aC},bV w ac af A R n s t->ai x7 F1 [Γ ac,Δ (x.un.getD v.toNat 0),Δ c] w λr w'=>r=Δ (g (x.un.getD v.toNat 0))/\Ext w w')
  (aD:(0<=z s.zero/\z s.zero<=n.k)/\ ∀ {w:x3} {A:ag} {s':au} {t:aC},bV w ac af A R n s' t->ai x7 F2 [Γ ac,Δ s.zero,Δ c] w λr w'=>r=Δ (z s.zero)/\Ext w w'):
  ai x7 Gu [Γ ac,Δ (u:Int),Δ c,.func (.func F1) #[] #[],.func (.func F2) #[] #[]] w λ_ w'=>eH w ac af A R n (fo s u x g z) w':=by
 have a6:=h.2.2.2.1;have X:=(x4.1 a).1;refine jh func54 ?_;refine bm λg1 J bC aE f=>?_;refine bm λa7 U bD Y B=>?_;refine bm λa8 bE bF I C=>?_;refine bm λba p bG K L=>?_;have f:ab p g1 dO [Γ ac]:=((ab.ext f Y).ext I).ext K;have B:ab p a7 ah [Δ (u:Int)]:=(ab.ext B I).ext K;have C:ab p a8 al [Δ c]:=ab.ext C K;have L:ab p ba II [.func (.func F1) #[] #[]]:=L;have M:=((aE.trans Y).trans I).trans K;have bH:=aE.size;have bI:=Y.size;have z3:=I.size;have bJ:=M.size;have N:=f.lt;have aF:=B.lt;have aG:=C.lt;have bb:=L.lt;rw[aB (v:=Γ ac) Ψ (f.Qz rfl),aB (v:=Δ (u:Int)) Ψ (B.Qz rfl)];refine (ll (i:=(u:Int)) (h.ext M)).mono ?_;rintro _ bK _ ⟨⟨b,bc,rfl,aH⟩,aI⟩;refine (oN (b:=b) (n:=bc)).mono ?_;rintro _ O _ ⟨bd,aJ,rfl,bL,aL⟩;have aM:=mQ aH Ω (show s.vars[(u:Int).toNat]? =σ x by rw[r8];exact a);have E:=aI.trans bd;have z5:=aI.size;have z46:=E.size;have bM:=aL.lt;have aN:=ma x;have be:ej s u x (dj g x.un ((ay x).take 0))=s:=by
  unfold ej;show {s with vars:=s.vars.set u x}=s;have:s.vars.set u x=s.vars:=by
   apply Y2;intro i;by_cases e:u=i
   .subst e;rw[j4 X,a]
   .rw[Y0 e]
  rw[this]
 refine lE.old ⟨_,false,ke,#[Γ aJ],_,_,_,_,λj w'=>gE w ac af A R n w.heap.size (λr=>O.heap.size<=r) (ej s u x (dj g x.un ((ay x).take j))) w'/\ae (λr=>r<w.heap.size\/O.heap.size<=r) O w',λ_ _ _=>False,rfl,(oM (g:=aJ) aH.1).s,?_,
  λ_ _ a h=>⟨h.1.ext a,h.2.ext a⟩,λ_ _ _ a h=>⟨h.1.ext a,h.2.trans (a.V _)⟩,λ_ _ _ _ _ h=>h,⟨aL,aA.ext (M.trans E)⟩,?_,?_,?_,λ_ _ h=>h.elim,λ_ _ _ h=>h.elim⟩
 .rintro _ _ _ _ ⟨_,_,_,_,rfl⟩;rfl
 .refine⟨?_,ae.refl _ _⟩;rw[be];exact gE.start h aA a1 a2 (M.trans E) (o4 _)
 .rintro _ j _ bf ⟨bg,bN⟩ ⟨bO,rfl,v,bh,bj⟩ ⟨P,G⟩;cases bj;intro bP Q _ _;have Z:(ay x)[j]? =σ (v:Int):=by rw[<-aM,x8,bh];rfl
  have aO:=x5 Z;have aW:∀ {H:x3} {g:Nat} {e:r9} {cs:List x1},Ext bf H->w.heap.size<=g->g<p.heap.size->ab p g e cs->ab H g e cs:=λa aP aQ aa=>((aa.ext E).V G Ω).ext a;obtain⟨bQ,bR,ad,aR,aj⟩:=P.open;have aS:gw n (u:Int) (v:Int):=pu a6 a aO;have bk:∀y∈ay x,0<=y/\y<x.un.length:=λy ak=>(gA.1 ak).1;have am:=n7 (g:=g) ((ay x).take j) x.un (v:Int) (aN.sublist (List.take_sublist _ _)) (λy ak=>bk y (T3 ak)) Ω;rw[if_neg (xh aN Z)] at am;have bl:hZ (ej s u x (dj g x.un ((ay x).take j))) (u:Int).toNat (v:Int).toNat=x.un.getD (v:Int).toNat 0:=by
   unfold hZ ej;rw[r8,j4 X];exact am
  rw[aB (v:=Γ ac) Ψ ((aW Q Ω N f).Qz rfl),aB (v:=Δ (u:Int)) Ψ ((aW Q Ω aF B).Qz rfl)];refine (n3 (i:=(u:Int)) (v:=(v:Int)) (ad.ext Q)).mono ?_;rintro _ bS _ ⟨rfl,bn⟩;rw[if_pos aS,bl,bx,bz];intro bo bp _ _;have q:=(Q.trans bn).trans bp;rw[aB (v:=Γ ac) Ψ ((aW q Ω N f).Qz rfl),aB (v:=Δ (u:Int)) Ψ ((aW q Ω aF B).Qz rfl),
   aB (v:=.func (.func F1) #[] #[]) Ψ ((aW q Ω bb L).Qz rfl),aB (v:=Γ ac) Ψ ((aW q Ω N f).Qz rfl),aB (v:=Δ c) Ψ ((aW q Ω aG C).Qz rfl)]
  show ai x7 F1 [Γ ac,Δ (x.un.getD (v:Int).toNat 0),Δ c] bo _;obtain⟨bq,br⟩:=h1 v aO;refine (br (ad.ext q)).mono ?_;rintro _ bT _ ⟨rfl,aT⟩;have an:=q.trans aT;refine⟨.inl aT,(DM (i:=(u:Int)) (v:=(v:Int)) (ad.ext an) (.inl aR.1)).mono ?_⟩;rintro r bU _ ⟨_,_,ao⟩;obtain⟨_,ap,aK,bt,bu,aq,S⟩:=ao aS bq;have e:jT (ej s u x (dj g x.un ((ay x).take j))) (u:Int).toNat (v:Int).toNat (g (x.un.getD (v:Int).toNat 0))=ej s u x (dj g x.un ((ay x).take (j+1))):=by
   rw[EL Z,am];unfold jT ej;rw[r8,j4 X];simp only[List.set_set]
  rw[e] at S;have bW:=G.size;obtain⟨aU,aV,bX⟩:=aj (D':=λr=>O.heap.size<=r) (jQ an ap) ((Grow.ext an).trans aq) S aR.set (λr h=>h) λr aP aQ=>Ω
  exact⟨⟨bg.V aV Ω,aU.2.1.1⟩,⟨aU,G.trans aV⟩,λh=>by cases h⟩
 .rintro k bw rfl ⟨P,G⟩;rw[o9 (by rw[<-aM,u7];exact o4 _)] at P;obtain⟨dX,bY,av,aX,aj⟩:=P.open;have aW:∀ {H:x3} {g:Nat} {e:r9} {cs:List x1},Ext bw H->w.heap.size<=g->g<p.heap.size->ab p g e cs->ab H g e cs:=λa aP aQ aa=>((aa.ext E).V G Ω).ext a;intro bZ W _ _;have aw:=aW W Ω N f;rw[aB (v:=Γ ac) Ψ (aw.Qz rfl),aB (v:=Γ ac) Ψ (aw.Qz rfl),aB (v:=Γ ac) Ψ (aw.Qz rfl),aB (v:=Δ c) Ψ ((aW W Ω aG C).Qz rfl)];refine (tp (av.ext W)).mono ?_;rintro _ bA _ ⟨rfl,ax⟩;have aY:=W.trans ax;refine⟨.inl ax,?_⟩;show ai x7 F2 [Γ ac,Δ s.zero,Δ c] bA _;refine (aD.2 (av.ext aY)).mono ?_;rintro _ b0 _ ⟨rfl,aZ⟩;have az:=aY.trans aZ;refine⟨.inl (ax.trans aZ),(OD (av.ext az) (.inl aX.1)).mono ?_⟩;rintro r b1 _ ⟨_,ao⟩;obtain⟨_,ap,aK,bt,bu,aq,S⟩:=ao aD.1;intro b2 bB _;exact (aj (D':=λ_=>True) (jQ az ap) ((Grow.ext az).trans aq) S aX.set (λ_ _=>trivial) λ_ _ _=>trivial).1.done bB
end
section
variable {w:x3} {ac af an:Nat} {A R:ag} {A9:Nat->ag} {aG:ag} {n:aT} {s u:au} {t:aC} {h:List aC} {cs:List x1} {a:fJ}
theorem PV (hk:a.kind<2):bp n.k u a=match dk u a.i a.pos a.v with
  |none=>(u,1)
  |some (f,v,x)=>if da n.k a.c (if a.kind=1 then x.un.getD a.v.toNat 0 else iv n.k u f a.pos.toNat a.v)≠0 then (u,da n.k a.c (if a.kind=1 then x.un.getD a.v.toNat 0 else iv n.k u f a.pos.toNat a.v))
   else (eu u a.i.toNat f a.pos.toNat v.toNat x a.v (λg=>if a.kind=0 then cH n.k g a.c else cr n.k g a.c) λg=>if a.kind=0 then cr n.k g a.c else cH n.k g a.c,0):=by
 unfold bp;by_cases e:a.kind=0
 .rw[if_pos e];simp only[e];cases dk u a.i a.pos a.v<;>rfl
 .have h1:a.kind=1:=Ω
  rw[if_neg e,if_pos h1];simp only[h1];cases dk u a.i a.pos a.v<;>rfl
theorem getD_some {l:Λ} {i:Nat} (h:i<l.length):l[i]? =σ (l.getD i 0):=by
 rw[u4,x6 h];rfl
theorem PW (p:ck w ac af an A R A9 aG n s u t h cs) (G:bq n.k n.sizes u) (bQ:dD u) (hk:a.kind<2):ai x7 uS [Γ an,Δ (a.kind:Int),Δ a.i,Δ a.pos,Δ a.v,Δ a.c] w λr w'=>r=Δ (bp n.k u a).2/\dJ w ac af an A R A9 aG n s t h (bp n.k u a).1 w':=by
 have C:=PV (n:=n) (u:=u) hk;have c3:=G.vars;have bR:=G.fU;refine aw func40 ?_;have bU:cs[0]? =σ (Δ n.k):=by obtain⟨_,_,_,_,_,_,rfl,_⟩:=p.pm;rfl
 rw[aO aE.p 0 p.box bU,aR,aj];refine⟨λ_=>?_,λh=>Ω⟩;rw[bZ];refine p.look.load λeY bV=>?_;refine (EC bV G bQ).mono ?_;rintro _ J _ ⟨aC,rfl⟩;cases aW:dk u a.i a.pos a.v with
 |none=>
  rw[aW] at C;simp only;rw[bx,bz,bG,W5,bS];exact⟨by rw[C],by rw[C];exact dJ.same p aC⟩
 |some q=>
 obtain⟨f,N,x⟩:=q;rw[aW] at C;simp only;rw[bx,bz,bG,Y4,aY];obtain⟨j,pos,N,bX,b1,b2,Q,c4,hu,M,b3,aZ⟩:=ua aW;have aD:=x5 Q;simp only[bX,b1,b2,r8] at C ⊢;have b4:=(x4.1 Q).1;have bm:=(x4.1 M).1;have b5:=(x4.1 hu).1;obtain⟨b6,c5⟩:=i7 G aD;have b7:=El G aD aZ;have b8:=(gA.1 b3).1;obtain⟨v,S⟩:=V7 b8.1;have bn:=gC (v:=a.v.toNat) G M;have aF:=p.ext aC;have bo:∀ {U:x3} {eb:au} {br:List x1} {bu:Nat->ag} {f2:b0},ck U ac af an A R bu aG n s eb t h br->eb.funs[j]? =σ f2-> ∃W cap X a1 y,br[6]? =σ (.slice (σ ⟨W,0,ν⟩) eb.funs.length cap)/\j<eb.funs.length/\U.cell? ⟨W,0+j*4+0+0,ν⟩=σ X/\U.cell? ⟨W,0+j*4+0+2,ν⟩=σ y/\aH .i64 U X f2.sc/\aH .i64 U y f2.cs/\
   ∀ {w':x3} {m:Nat} {c:Int} {K:Unit->x3->Prop},Ext U w'->m<f2.cs.length->(∀bw,dJ U ac af an A R bu aG n s t h (dE eb j f2 (f2.cs.set m c)) bw->K () bw)->aa x7 (c7 ao y (Δ (m:Int))) w' λa=>ax x7 (o8 al a (Δ c)) w' K:=λb9 aJ=>by
  obtain⟨W,cap,X,a1,y,ca,bA,cb,cc,Y⟩:=Pz b9 aJ;exact⟨W,cap,X,a1,y,ca,(x4.1 aJ).1,by rw[X5];exact bA 0 _ rfl,by rw[X5];exact bA 2 _ rfl,cb,cc,Y⟩
 obtain⟨W,c8,X,a1,c9,ce,cg,ci,_,cj,_,_⟩:=bo aF Q;rw[aO aE.p 6 aF.box ce,fx dP.u db.i cg λ_=>rfl,aQ db.p rfl,aQ aV.p rfl,aB (v:=X) (o:=0+j*4+0+0) Ψ ci,bd am.u ah.i Ψ cj hu];generalize bB:(if a.kind=1 then x.un.getD a.v.toNat 0 else iv n.k u f pos a.v)=most at C;refine aU (λr U=>r=Δ most/\Ext w U) ?_ λav bC=>?_
 rotate_left
 .rw[bh,aj];refine⟨λh1=>?_,λh1=>bC _ _ ⟨by rw[<-bB,if_neg Ω],aC⟩⟩;have h1:a.kind=1:=Ω
  obtain⟨a2,bD,y,a6,a8,aK,_⟩:=xo aF M;rw[aO aE.p 5 aF.box a6,fx cN.u ao.i bm λ_=>rfl,aB (v:=y) (o:=0+N*1) Ψ (by rw[X5,U9];exact a8),S,bd ao.u al.i Ψ aK (getD_some Ω)];refine bC _ _ ⟨?_,aC⟩;rw[<-bB,if_pos h1,S,r8]
 rintro _ U ⟨rfl,cl⟩;refine zI.mono ?_;rintro _ dc _ ⟨rfl,cm⟩;have Z:=cl.trans cm;have bE:cw a.c n.k↔0<=a.c/\a.c<=n.k:=⟨λh=>h.2,λaJ=>⟨bR,aJ⟩⟩;rw[bG,bY];refine⟨λab=>?_,λab=>?_⟩
 .have cn:¬cw a.c n.k:=by simpa using ab
  have E:da n.k a.c most=3:=by unfold da;rw[if_pos λh=>cn (bE.2 h)]
  rw[if_pos (by rw[E];decide),E] at C;exact⟨by rw[C],by rw[C];exact dJ.same p Z⟩
 have bF:=bE.1 (show cw a.c n.k by simpa using ab);rw[bT,aj];refine⟨λcp=>?_,λcq=>?_⟩
 .have E:da n.k a.c most=7:=by unfold da;rw[if_neg (λh=>h bF),if_pos cp]
  rw[if_pos (by rw[E];decide),E] at C;exact⟨by rw[C],by rw[C];exact dJ.same p Z⟩
 have E:da n.k a.c most=0:=by unfold da;rw[if_neg (λh=>h bF),if_neg cq]
 rw[if_neg (λh=>h E)] at C;have ct:=p.ext Z;rw[bZ];refine ct.look.load λdd cu=>?_;refine (EB cu G Q b5 aZ).mono ?_;rintro aM ba _ ⟨cz,bb,cA⟩;have bI:=Z.trans cz;rw[aX am.u bb];have bJ:(lr u f pos a.v).length=(bW u f.sc pos a.v).length:=by unfold lr;rw[u7]
 rw[bJ];obtain⟨tup,bc⟩:∃tup:Int->Int,tup=λg=>if a.kind=0 then cH n.k g a.c else cr n.k g a.c:=⟨_,rfl⟩;obtain⟨un,be⟩:∃un:Int->Int,un=λg=>if a.kind=0 then cr n.k g a.c else cH n.k g a.c:=⟨_,rfl⟩;rw[<-bc,<-be] at C;have cB:=p.olds.ext bI;have de:=p.box.lt;have df:=Z.size;have cC:∀ {w':x3},ae (λr=>(∃q,A9 q r/\r<w.heap.size)\/r=an) ba w'->aH .i64 w' aM (lr u f pos a.v):=λcD=>hS bb cD λr E b n c e ab=>by
  have:=cA r ⟨b,n,c,e,ab⟩;rcases E with⟨q,E⟩|E
  .have:=E.2;omega
  .omega
 refine ch.range (bW u f.sc pos a.v).length (λq w'=>dJ ba ac af an A R (λq r=>A9 q r/\r<w.heap.size) aG n s t h (dE u j f (c6 tup ((bW u f.sc pos a.v).take q) f.ad f.cs)) w') (by rw[<-bJ];exact bb.le) ?_ ?_ ?_
 .rw[List.take_zero,EI G Q];exact dJ.same cB (Ext.refl _)
 .rintro q ak cE cF aL cG;obtain⟨tl,bf⟩:=aI (l:=bW u f.sc pos a.v) cF;obtain⟨m,hm⟩:=pp G aD aZ (x5 bf);have cI:(lr u f pos a.v)[q]? =σ (m:Int):=by
   unfold lr;rw[x8,bf];unfold ob;rw[Z4,hm];rfl
  obtain⟨bK,bL⟩:=Em (g:=tup) G Q b7 bf hm;have cJ:=(x4.1 (lV b6 hm)).1;have dg:m<f.cs.length:=by rw[r8] at cJ;omega
  obtain⟨Y,cK,bM,P,bg⟩:=id aL;obtain⟨bt,bN⟩:∃bt,bt=c6 tup ((bW u f.sc pos a.v).take q) f.ad f.cs:=⟨_,rfl⟩;have dh:bt.length=f.cs.length:=by rw[bN,jV _ _ _ _ Ω]
  rw[<-bN] at P bK bL;have bP:(dE u j f bt).funs[j]? =σ {f with cs:=bt}:=j4 b4;obtain⟨aN,cL,di,dj,aS,cM,cO,_,bi,_,cP,cQ⟩:=bo P bP;have cR:bt[m]? =σ (a7 f.ad f.cs tl):=by
   rw[getD_some Ω,<-bK];unfold a7;rw[hm];simp
  have dl:=kB (t:=tl) G aD;have dn:bM[0]? =σ (Δ n.k):=by obtain⟨_,_,_,_,_,_,rfl,_⟩:=P.pm;rfl
  have cS:=cC Y;refine bH Ω ?_;refine dm (λH=>dJ ba ac af an A R (λq r=>A9 q r/\r<w.heap.size) aG n s t h (dE u j f (c6 tup ((bW u f.sc pos a.v).take (q+1)) f.ad f.cs)) H) (λH O=>by rw[aP];exact cG _ O) λcT cU=>?_;have ap:∀ {I:x3},Ext ak I->aa x7 (c7 ao aS (Δ (m:Int))) I λa'=>ax x7 (o8 al a' (Δ (tup (a7 f.ad f.cs tl)))) I λ(_:Unit) H=>cT H:=λbj=>by
   refine cQ bj (by show m<bt.length;omega) λH O=>cU _ (dJ.comp Y bg ?_);have cV:dE (dE u j f bt) j {f with cs:=bt} (bt.set m (tup (a7 f.ad f.cs tl)))=jU (dE u j f bt) j m (tup (a7 f.ad f.cs tl)):=by unfold jU;rw[bP];rfl
   rw[cV,bL] at O;exact O
  have row:∀ {z:x3} {K:x1->x1->x1->x1->x1->x1->Prop},Ext ak z->K (Γ an) (.pointer (σ ⟨an,0+6,ν⟩)) (.slice (σ ⟨aN,0,ν⟩) (dE u j f bt).funs.length cL) (.pointer (σ ⟨aN,0+j*4,ν⟩)) (.pointer (σ ⟨aN,0+j*4+0,ν⟩)) (.pointer (σ ⟨aN,0+j*4+0+2,ν⟩))->
    aa x7 (bO (Γ an)) z λaq=>aa x7 (u6 aE aq 6) z λay=>aa x7 (u5 dP ay) z λaz=>aa x7 (c7 dP az (Δ (j:Int))) z λaA=>aa x7 (u6 db aA 0) z λaT=>aa x7 (u6 aV aT 2) z λcW=>K aq ay az aA aT cW:=λM bk=>by
   rw[aO aE.p 6 (P.box.ext M) cM,fx dP.u db.i cO λ_=>rfl,aQ db.p rfl,aQ aV.p rfl];exact bk
  rw[bd am.u ah.i Ψ cS cI];refine row (Ext.refl _) ?_;rw[aB (v:=aS) (o:=0+j*4+0+2) Ψ bi,bd ao.u al.i Ψ cP cR,bh,aj];refine⟨λbl=>?_,λbl=>?_⟩
  .intro z B _ _;refine row B ?_;rw[aB (v:=aS) (o:=0+j*4+0+2) Ψ (iE B bi)];refine (tT Ω Ω).mono ?_;rintro _ I _ ⟨rfl,L⟩;refine⟨.inl L,?_⟩;have:=ap (B.trans L);rw[bc] at this;simp only[if_pos (show a.kind=0 by omega)] at this;exact this
  .intro z B _ _;refine row B ?_;rw[aB (v:=aS) (o:=0+j*4+0+2) Ψ (iE B bi)];refine (oV Ω Ω).mono ?_;rintro _ I _ ⟨rfl,L⟩;refine⟨.inl L,?_⟩;have:=ap (B.trans L);rw[bc] at this;simp only[if_neg (show ¬a.kind=0 by omega)] at this;exact this
 .rintro ak cE aL;rw[o5] at aL;refine cd Ω ?_;obtain⟨Y,cK,bM,P,bg⟩:=id aL;have cX:(dE u j f (c6 tup (bW u f.sc pos a.v) f.ad f.cs)).vars[N]? =σ x:=M;obtain⟨a2,bD,y,a6,a8,aK,cY⟩:=xo P cX;refine dm (λH=>dJ w ac af an A R A9 aG n s t h (eu u j f pos N x a.v tup un) H) (λH O=>⟨by rw[C],by rw[C];exact O⟩) λcZ c0=>?_;have c1:N<(dE u j f (c6 tup (bW u f.sc pos a.v) f.ad f.cs)).vars.length:=bm;have row:∀ {z:x3} {K:x1->x1->x1->x1->x1->Prop},Ext ak z->K (Γ an) (.pointer (σ ⟨an,0+5,ν⟩)) (.slice (σ ⟨a2,0,ν⟩) (dE u j f (c6 tup (bW u f.sc pos a.v) f.ad f.cs)).vars.length bD) (.pointer (σ ⟨a2,0+N*1,ν⟩)) y->
    aa x7 (bO (Γ an)) z λaq=>aa x7 (u6 aE aq 5) z λay=>aa x7 (u5 cN ay) z λaz=>aa x7 (c7 cN az (Δ (N:Int))) z λaA=>aa x7 (u5 ao aA) z λaT=>K aq ay az aA aT:=λM bk=>by
   rw[aO aE.p 5 (P.box.ext M) a6,fx cN.u ao.i c1 λ_=>rfl,aB (v:=y) (o:=0+N*1) Ψ (by rw[X5,U9];exact iE M a8)];exact bk
  have ap:∀ {I:x3},Ext ak I->aa x7 (c7 ao y (Δ (v:Int))) I λa'=>ax x7 (o8 al a' (Δ (un (x.un.getD v 0)))) I λ(_:Unit) H=>cZ H:=λbj=>by
   refine cY bj Ω λH O=>c0 _ ?_;have c2:=dJ.comp Y bg O.ED;have:=dJ.comp (A9:=A9) (w:=w) (bI.V _) (λq r E=>.inl ⟨q,E.1⟩) c2;unfold eu;rw[show a.v.toNat=v by omega];exact this
  rw[bh,aj];refine⟨λbl=>?_,λbl=>?_⟩
  .intro z B _ _;refine row B (row B ?_);rw[S,bd ao.u al.i Ψ (aK.ext B) (getD_some Ω)];rw[S,r8] at bn;refine (oV Ω Ω).mono ?_;rintro _ I _ ⟨rfl,L⟩;refine⟨.inl L,?_⟩;have:=ap (B.trans L);rw[be] at this;simp only[if_pos (show a.kind=0 by omega)] at this;exact this
  .intro z B _ _;refine row B (row B ?_);rw[S,bd ao.u al.i Ψ (aK.ext B) (getD_some Ω)];rw[S,r8] at bn;refine (tT Ω Ω).mono ?_;rintro _ I _ ⟨rfl,L⟩;refine⟨.inl L,?_⟩;have:=ap (B.trans L);rw[be] at this;simp only[if_neg (show ¬a.kind=0 by omega)] at this;exact this
end
section
variable {w:x3} {ac af:Nat} {A R:ag} {n:aT} {s:au} {t:aC} {a:fJ}
theorem eH.step {J U:x3} {aK:ag} {s':au} {br:aC} (h:bV w ac af A R n s t) (j:Laid w) (f:¬A 0) (a:Ext w J) (p:ae (eQ J) J U) (e:Grow A J aK U) (q:bV U ac af aK R n s' br) (r:er br []):eH w ac af A R n s' U:=by
 refine⟨jQ a p,jC e.1 f (j.ext a),aK,br,(Grow.ext a).trans e,q,r,λx=>(e.2.1 0 x).elim f λy=>?_⟩;obtain⟨z,B,C,E,⟨h1,_⟩,_⟩:=h.1;have:=h.lt (.inl h1);have:=a.size;omega
theorem xq (hk:a.kind=2):bp n.k s a=match gS s a.i with
  |none=>(s,1)
  |some x=>if da n.k a.c (gB x)≠0 then (s,da n.k a.c (gB x)) else (fo s a.i.toNat x (λg=>cH n.k g a.c) λg=>cr n.k g a.c,0):=by
 unfold bp gS;rw[if_neg Ω,if_neg Ω,if_pos hk];cases (if 0<=a.i then s.vars[a.i.toNat]? else ν) with
 |none=>rfl
 |some x=>
  simp only;by_cases e:x.gone=0
  .rw[if_neg Ω,if_pos e]
  .rw[if_pos e,if_neg e]
theorem xr (hk:a.kind=3):bp n.k s a=match gS s a.i with
  |none=>(s,1)
  |some x=>if da n.k a.c (if ay x=[] then-1 else s.zero)≠0 then (s,da n.k a.c (if ay x=[] then-1 else s.zero)) else (fo s a.i.toNat x (λg=>cr n.k g a.c) λg=>cH n.k g a.c,0):=by
 unfold bp gS;rw[if_neg Ω,if_neg Ω,if_neg Ω,if_pos hk];cases (if 0<=a.i then s.vars[a.i.toNat]? else ν) with
 |none=>rfl
 |some x=>
  simp only;by_cases e:x.gone=0
  .rw[if_neg Ω,if_pos e]
  .rw[if_pos e,if_neg e]
theorem PX (hk:a.kind=2) (h:bV w ac af A R n s t) (M:Laid w) (aa:¬A 0) (ad:er t []):ai x7 F3 [Γ ac,Δ a.i,Δ a.c] w (oc w ac af A R n s a):=by
 have E:=h.2.2.2.1;have f:=xq (n:=n) (s:=s) hk;refine jh func15 ?_;refine bm λg1 J bF aD G=>?_;refine bm λag U bG ak H=>?_;have G:ab U g1 dO [Γ ac]:=ab.ext G ak;have H:ab U ag ah [Δ a.i]:=H;have am:=aD.trans ak;have bH:=aD.size;have bI:=ak.size;have bJ:=G.lt;have bK:=H.lt;rw[aB (v:=Γ ac) Ψ (G.Qz rfl),aB (v:=Δ a.i) Ψ (H.Qz rfl)];refine (EO (i:=a.i) (h.ext am)).mono ?_;rintro _ bM _ ⟨an,rfl⟩;have aY:=am.trans an;have z3:=an.size;cases B:gS s a.i with
 |none=>
  rw[B] at f;rw[if_neg Ξ,bL,aj];refine⟨λ_=>?_,λh=>absurd Φ h⟩;intro aZ a1 _;exact⟨by rw[f],by rw[f];exact eH.same h M aa ad (aY.trans a1)⟩
 |some x=>
 rw[B] at f;simp only at f;obtain⟨aE,e,bN⟩:=xp B;obtain⟨u,hu⟩:=V7 aE;rw[hu,r8] at e;rw[hu,r8] at f;rw[if_pos (by rfl),bL,aj];refine⟨λh=>absurd rfl h,λ_=>?_⟩;refine bB al.i λN bO bP aF aG=>?_;refine bo al.i rfl rfl aG (by simp[x1.cells]) λO ao bQ P=>?_;have P:ab O N al [Δ (-1)]:=P;have z5:=aF.size;have bR:=aG.lt;have ap:=an.trans aF;have aq:ab O g1 dO [Γ ac]:=(G.ext ap).V ao Ω;have au:ab O ag ah [Δ a.i]:=(H.ext ap).V ao Ω;have Q:Ext w O:=(am.trans ap).then ao (by rintro r aH rfl;omega);rw[aB (v:=Γ ac) Ψ (aq.Qz rfl),aB (v:=Δ a.i) Ψ (au.Qz rfl)];refine (ll (i:=a.i) (h.ext Q)).mono ?_;rintro _ bS _ ⟨⟨b,a2,rfl,aI⟩,aJ⟩;refine (oN (b:=b) (n:=a2)).mono ?_;rintro _ a6 _ ⟨a7,aL,rfl,bT,aM⟩;have aN:=mQ aI aE (show s.vars[a.i.toNat]? =σ x by rw[hu,r8];exact e);have p:=aJ.trans a7;have bU:=aJ.size;have bW:=aM.lt;have bX:=P.lt;have aO:∀j (v:Nat),(ay x)[j]? =σ (v:Int)->(((ay x).take (j+1)).map λv=>x.un.getD v.toNat 0).foldl j2 (-1)=j2 ((((ay x).take j).map λv=>x.un.getD v.toNat 0).foldl j2 (-1)) (x.un.getD v 0):=λj v aP=>by
  rw[u9,aP,o7,j6,List.foldl_append];rfl
 refine lE.old ⟨_,false,ke,#[Γ aL],_,_,_,_,λj w'=>ae (λr=>r=N) a6 w'/\ab w' N al [Δ ((((ay x).take j).map λv=>x.un.getD v.toNat 0).foldl j2 (-1))],λ_ _ _=>False,rfl,(oM (g:=aL) aI.1).s,?_,
  λ_ _ e h=>⟨h.1.ext e,h.2.ext e⟩,λ_ _ _ e h=>⟨h.1.trans (e.V _),h.2.ext e⟩,λ_ _ _ _ _ h=>h,⟨aM,M.ext (Q.trans p)⟩,⟨ae.refl _ _,P.ext p⟩,?_,?_,λ_ _ h=>h.elim,λ_ _ _ h=>h.elim⟩
 .rintro _ _ _ _ ⟨_,_,_,_,rfl⟩;rfl
 .rintro _ j _ a8 ⟨aQ,aS⟩ ⟨aP,rfl,v,ba,bb⟩ ⟨y,S⟩;cases bb;intro bc aT _ _;have aw:(ay x)[j]? =σ (v:Int):=by rw[<-aN,x8,ba];rfl
  have bd:=pu E e (x5 aw);have ax:=y.trans (aT.V _);have be:Ext w bc:=(Q.trans p).then ax (by rintro r aH rfl;omega);rw[aB (v:=Γ ac) Ψ (((aq.ext p).V ax Ω).Qz rfl),aB (v:=Δ a.i) Ψ (((au.ext p).V ax Ω).Qz rfl)];refine (n3 (i:=a.i) (v:=(v:Int)) (h.ext be)).mono ?_;rintro _ bf _ ⟨rfl,bg⟩;have bi:hZ s a.i.toNat (v:Int).toNat=x.un.getD v 0:=by
   unfold hZ;rw[hu,r8,e];rfl
  rw[if_pos (by rw[hu];exact bd),bi,bx,bz];have I:=aT.trans bg;have K:=S.ext I;refine aU (λr bj=>(r= .bool (decide ((((ay x).take j).map λv=>x.un.getD v.toNat 0).foldl j2 (-1)<0\/x.un.getD v 0<(((ay x).take j).map λv=>x.un.getD v.toNat 0).foldl j2 (-1))))/\bj=bf) ?_ λav L=>?_
  .rintro _ _ ⟨rfl,rfl⟩;rw[aj];refine⟨λW=>?_,λX=>?_⟩
   .refine bo al.i rfl rfl K Ξ λbk bl bY bn=>?_;have q:ae (λr=>r=N) a8 bk:=(I.V _).trans bl;refine⟨⟨aQ.V q Ω,jC q Ω aS⟩,⟨y.trans q,?_⟩,λh=>by cases h⟩;rw[aO j v aw];unfold j2 at W ⊢;rw[if_pos W];exact bn
   .refine⟨⟨aQ.ext I,aS.ext I⟩,⟨y.trans (I.V _),?_⟩,λh=>by cases h⟩;rw[aO j v aw];unfold j2 at X K ⊢;rw[if_neg X];exact K
  rw[aB (v:=Δ _) Ψ (K.Qz rfl),aR,aj];refine⟨λW=>L _ _ ⟨by rw[decide_eq_true (Or.inl W)],rfl⟩,λX=>?_⟩;rw[aB (v:=Δ _) Ψ (K.Qz rfl),aR];refine L _ _ ⟨?_,rfl⟩;congr 1;exact decide_eq_decide.2 ⟨.inr,λh=>h.resolve_left X⟩
 .rintro k az rfl ⟨y,S⟩;rw[o9 (by rw[<-aN,u7];exact o4 _),PU λv _=>(gC E e).1] at S;have aV:Ext w az:=(Q.trans p).then y (by rintro r aH rfl;omega);have aW:ab az g1 dO [Γ ac]:=(aq.ext p).V y Ω;have bq:ab az ag ah [Δ a.i]:=(au.ext p).V y Ω;rw[aB (v:=Γ ac) Ψ (aW.Qz rfl),aB (v:=Δ (gB x)) Ψ (S.Qz rfl)];refine (tN (h.ext aV)).mono ?_;rintro _ bZ _ ⟨aA,rfl⟩;have Y:=aV.trans aA;refine dm (λw'=>eH w ac af A R n (bp n.k s a).1 w') ?_ λav L=>?_
  .intro w' bt b0 Z _;obtain⟨bu,bw,aK,br,bA,bC,bD⟩:=bt;refine⟨?_,bu.trans (Z.V _),bw.ext Z,aK,br,bA.trans (Grow.ext Z),bC.ext Z,bD⟩;rw[f];split
   .rfl
   .rename_i C;rw[Y3.1 C]
  rw[bh,aj];refine⟨λC=>?_,λC=>L _ ?_⟩
  .obtain⟨q,hm⟩:=jW (λh=>h C);rw[aB (v:=Γ ac) Ψ ((aW.ext aA).Qz rfl),aB (v:=Δ a.i) Ψ ((bq.ext aA).Qz rfl),hu];refine (EP (t:=t) (u:=u) (F1:=ng) (F2:=nh) (g:=λg=>cH n.k g a.c) (z:=λg=>cr n.k g a.c) (h.ext Y) (M.ext Y) aa ad e (λv B=>?_) ⟨mV E.zero q.1,λ{w A s' t} aC=>q4 aC E.zero q⟩).mono ?_
   .have aX:=gC (v:=v.toNat) E e;exact⟨mU aX ⟨q.1,tE B hm⟩,λ{w A s t} aC=>tO aC aX q (.inr (tE B hm))⟩
   .rintro _ aZ _ bE;refine L _ ?_;rw[f,if_neg (λh=>h C)];exact bE.before Y
  .rw[f,if_pos C];exact eH.same h M aa ad Y
theorem PY {b:Nat} {i:Int} {x:bi} (p:tq s n i b m) (hi:0<=i) (q:s.vars[i.toNat]? =σ x):b=0↔ay x=[]:=by
 have a:=mQ p hi q;constructor
 .rintro rfl;rw[<-a];have:gm 0 m=[]:=List.eq_nil_iff_forall_not_mem.2 λv e=>by
   have:=(vt.1 e).2;simp at this
  rw[this];rfl
 .intro he;rw[he] at a;have e:=List.map_eq_nil_iff.1 a;refine Nat.eq_of_testBit_eq λj=>?_;rw[Nat.zero_testBit];cases f:b.testBit j with
  |false=>rfl
  |true=>
   have r:j<m:=by
    rcases Nat.lt_or_ge j m with h|h
    .exact h
    .have:=Nat.testBit_lt_two_pow (x:=b) (i:=j) (R5 p.1.2 (T6 Ω h));rw[this] at f;cases f
   have:j∈gm b m:=vt.2 ⟨r,f⟩;rw[e] at this;cases this
theorem PZ (hk:a.kind=3) (h:bV w ac af A R n s t) (G:Laid w) (H:¬A 0) (I:er t []):ai x7 F4 [Γ ac,Δ a.i,Δ a.c] w (oc w ac af A R n s a):=by
 have K:=h.2.2.2.1;have f:=xr (n:=n) (s:=s) hk;refine aw func16 ?_;refine (EO (i:=a.i) h).mono ?_;rintro _ J _ ⟨L,rfl⟩;cases y:gS s a.i with
 |none=>
  rw[y] at f;rw[if_neg Ξ,bL,aj];exact⟨λ_=>⟨by rw[f],by rw[f];exact eH.same h G H I L⟩,λh=>absurd Φ h⟩
 |some x=>
 rw[y] at f;simp only at f;obtain⟨N,B,ah⟩:=xp y;rw[if_pos (by rfl),bL,aj];refine⟨λh=>absurd rfl h,λ_=>?_⟩;refine (tp (h.ext L)).mono ?_;rintro _ U _ ⟨rfl,Y⟩;have O:=L.trans Y;refine aU (λr w'=>r=Δ (if ay x=[] then-1 else s.zero)/\Ext w w') ?_ λav p=>?_
 .rintro _ ak ⟨rfl,P⟩;refine (tN (h.ext P)).mono ?_;rintro _ al _ ⟨Z,rfl⟩;have C:=P.trans Z;refine dm (λw'=>eH w ac af A R n (bp n.k s a).1 w') ?_ λav p=>?_
  .intro w' aa;refine⟨?_,aa⟩;rw[f];generalize (if ay x=[] then (-1:Int) else s.zero)=am;split
   .rfl
   .rename_i j;rw[Y3.1 j]
  rw[bh,aj];refine⟨λj=>?_,λj=>p _ ?_⟩
  .obtain⟨E,hm⟩:=jW (λh=>h j);have Q:a.c<=s.zero:=by
    split at hm
    .omega
    .exact hm
   obtain⟨u,hu⟩:=V7 N;rw[hu,r8] at B;rw[hu];refine (EP (t:=t) (u:=u) (F1:=nh) (F2:=ng) (g:=λg=>cr n.k g a.c) (z:=λg=>cH n.k g a.c) (h.ext C) (G.ext C) H I B (λv y=>?_) ⟨mU K.zero ⟨E.1,Q⟩,λ{w A s' t} M=>tO M K.zero E (.inr Q)⟩).mono ?_
   .have S:=gC (v:=v.toNat) K B;exact⟨mV S E.1,λ{w A s t} M=>q4 M S E⟩
   .rintro _ an _ ab;refine p _ ?_;rw[f,if_neg (λh=>h j),hu,r8];exact ab.before C
  .rw[f,if_pos j];exact eH.same h G H I C
 refine (ll (i:=a.i) (h.ext O)).mono ?_;rintro _ ao _ ⟨⟨b,ad,rfl,T⟩,ae⟩;refine (hq (b:=b) (n:=ad) T.1).mono ?_;rintro _ ap _ ⟨⟨q,rfl,V⟩,ag⟩;have W:=(O.trans ae).trans ag;have X:=PY T N B;rw[bh,aj];refine⟨λh=>p _ _ ⟨by rw[if_pos (X.1 (V.1 h))],W⟩,λh=>p _ _ ⟨by rw[if_neg λe=>h (V.2 (X.2 e))],W⟩⟩
theorem P0 (hk:a.kind=4) (h:bV w ac af A R n s t) (j:Laid w) (p:¬A 0) (f:er t []):ai x7 F5 [Γ ac,Δ a.i,Δ a.v] w (oc w ac af A R n s a):=by
 have q:=h.2.2.2.1;have e:bp n.k s a=match ek s a.i a.v with
  |none=>(s,1)
  |some x=>if cr n.k s.zero (x.un.getD a.v.toNat 0)<n.k then (s,7) else (e5 s a.i.toNat a.v.toNat,0):=by
  unfold bp;rw[if_neg Ω,if_neg Ω,if_neg Ω,if_neg Ω,if_pos hk];cases ek s a.i a.v<;>rfl
 refine aw func17 ?_;refine (xi h).mono ?_;rintro _ J _ ⟨z,rfl⟩;cases B:ek s a.i a.v with
 |none=>
  rw[B] at e;rw[if_neg Ξ,bL,aj];exact⟨λ_=>⟨by rw[e],by rw[e];exact eH.same h j p f z⟩,λh=>absurd Φ h⟩
 |some x=>
 rw[B] at e;simp only at e;obtain⟨Z,C,aa,L⟩:=hE B;rw[if_pos (by rfl),bL,aj];refine⟨λh=>absurd rfl h,λ_=>?_⟩;have G:gw n a.i a.v:=by
  have:=pu q C L;rwa [show ((a.i.toNat:Nat):Int)=a.i by omega] at this
 refine (n3 (i:=a.i) (v:=a.v) (h.ext z)).mono ?_;rintro _ U _ ⟨rfl,M⟩;have N:hZ s a.i.toNat a.v.toNat=x.un.getD a.v.toNat 0:=by
  unfold hZ;rw[C]
 rw[if_pos G,N,bx,bz];have H:=z.trans M;refine (tp (h.ext H)).mono ?_;rintro _ ab _ ⟨rfl,O⟩;have I:=H.trans O;refine (q4 (h.ext I) q.zero (gC q C)).mono ?_;rintro _ ad _ ⟨rfl,P⟩;have K:=I.trans P;refine (n2 (h.ext K)).mono ?_;rintro _ ae _ ⟨rfl,Q⟩;have E:=K.trans Q;rw[aR,aj];refine⟨λS=>?_,λT=>?_⟩
 .rw[if_pos S] at e;exact⟨by rw[e],by rw[e];exact eH.same h j p f E⟩
 .rw[if_neg T] at e;refine (DI (i:=a.i) (v:=a.v) (h.ext E) (.inl f.1)).mono ?_;rintro r ag _ ⟨_,V⟩;obtain⟨rfl,W,aK,y,X,Y⟩:=V G;refine⟨by rw[e],?_⟩;rw[e];exact eH.step h j p E W X Y f.set
theorem P1 (hk:5<=a.kind) (h:bV w ac af A R n s t) (P:Laid w) (W:¬A 0) (X:er t []):ai x7 F6 [Γ ac,Δ a.i,Δ a.v] w (oc w ac af A R n s a):=by
 have av:=h.2.2.2.1;have q:bp n.k s a=match ek s a.i a.v with
  |none=>(s,1)
  |some x=>(fV s a.i.toNat a.v (ay x),0):=by
  unfold bp;rw[if_neg Ω,if_neg Ω,if_neg Ω,if_neg Ω,if_neg Ω];cases ek s a.i a.v<;>rfl
 refine jh func18 ?_;refine bm λg1 J aY Y z=>?_;refine bm λaw U aZ Q B=>?_;refine bm λax C a1 K E=>?_;have z:ab C g1 dO [Γ ac]:=(ab.ext z Q).ext K;have B:ab C aw ah [Δ a.i]:=ab.ext B K;have E:ab C ax ah [Δ a.v]:=E;have L:=(Y.trans Q).trans K;have a2:=Y.size;have a6:=Q.size;have z3:=K.size;have az:=z.lt;have aA:=B.lt;have aC:=E.lt;rw[aB (v:=Γ ac) Ψ (z.Qz rfl),aB (v:=Δ a.i) Ψ (B.Qz rfl),aB (v:=Δ a.v) Ψ (E.Qz rfl)];refine (xi (h.ext L)).mono ?_;rintro _ a7 _ ⟨G,rfl⟩;have Z:=L.trans G;have z4:=G.size;cases S:ek s a.i a.v with
 |none=>
  rw[S] at q;rw[if_neg Ξ,bL,aj];refine⟨λ_=>?_,λh=>absurd Φ h⟩;intro a8 aD _;exact⟨by rw[q],by rw[q];exact eH.same h P W X (Z.trans aD)⟩
 |some x=>
 rw[S] at q;simp only at q;obtain⟨aE,f,ba,bb⟩:=hE S;rw[if_pos (by rfl),bL,aj];refine⟨λh=>absurd rfl h,λ_=>?_⟩;rw[aB (v:=Γ ac) Ψ ((z.ext G).Qz rfl),aB (v:=Δ a.i) Ψ ((B.ext G).Qz rfl)];refine (ll (i:=a.i) (h.ext Z)).mono ?_;rintro _ bc _ ⟨⟨b,aF,rfl,aa⟩,ad⟩;refine (oN (b:=b) (n:=aF)).mono ?_;rintro _ M _ ⟨aG,ag,rfl,bd,ak⟩;have al:=mQ aa aE f;have N:=(G.trans ad).trans aG;have be:=ad.size;have bf:=N.size;have bg:=ak.lt;refine lE.old ⟨_,false,ke,#[Γ ag],_,_,_,_,λj w'=>gE w ac af A R n w.heap.size (λr=>M.heap.size<=r) (fV s a.i.toNat a.v ((ay x).take j)) w'/\ae (λr=>r<w.heap.size\/M.heap.size<=r) M w',λ_ _ _=>False,rfl,(oM (g:=ag) aa.1).s,?_,
  λ_ _ f h=>⟨h.1.ext f,h.2.ext f⟩,λ_ _ _ f h=>⟨h.1.ext f,h.2.trans (f.V _)⟩,λ_ _ _ _ _ h=>h,⟨ak,P.ext (L.trans N)⟩,⟨gE.start h P W X (L.trans N) (o4 _),ae.refl _ _⟩,?_,?_,λ_ _ h=>h.elim,λ_ _ _ h=>h.elim⟩
 .rintro _ _ _ _ ⟨_,_,_,_,rfl⟩;rfl
 .rintro _ j _ bh ⟨am,aH⟩ ⟨bi,rfl,v,aI,aJ⟩ ⟨H,I⟩;cases aJ;intro aL p _ _;have an:(ay x)[j]? =σ (v:Int):=by rw[<-al,x8,aI];rfl
  have aM:gw n a.i (v:Int):=by
   have:=pu av f (x5 an);rwa [show ((a.i.toNat:Nat):Int)=a.i by omega] at this
  have aW:∀ {g:Nat} {e:r9} {cs:List x1},w.heap.size<=g->g<C.heap.size->ab C g e cs->ab aL g e cs:=λaN aO aP=>((aP.ext N).V I Ω).ext p;have O:=PT (s:=s) (i:=a.i.toNat) (v:=a.v) an;obtain⟨bj,bk,aQ,ao,aR⟩:=H.open;rw[aB (v:=Δ a.v) Ψ ((aW Ω aC E).Qz rfl),bL,aj];refine⟨λaS=>?_,λhe=>?_⟩
  .rw[if_pos aS] at O;rw[aB (v:=Γ ac) Ψ ((aW Ω az z).Qz rfl),aB (v:=Δ a.i) Ψ ((aW Ω aA B).Qz rfl)];refine (DI (i:=a.i) (v:=(v:Int)) (aQ.ext p) (.inl ao.1)).mono ?_;rintro r bl _ ⟨_,aT⟩;obtain⟨rfl,aU,aK,y,aV,ap⟩:=aT aM;rw[<-O] at ap;have bn:=I.size;obtain⟨aq,au,bo⟩:=aR (D':=λr=>M.heap.size<=r) (jQ p aU) ((Grow.ext p).trans aV) ap ao.set (λr h=>h) λr aN aO=>Ω
   exact⟨⟨am.V au Ω,aq.2.1.1⟩,⟨aq,I.trans au⟩,λh=>by cases h⟩
  .rw[if_neg he] at O;exact⟨⟨am.ext p,aH.ext p⟩,⟨by rw[O];exact H.ext p,I.trans (p.V _)⟩,λh=>by cases h⟩
 .rintro k bq rfl ⟨H,I⟩;rw[o9 (by rw[<-al,u7];exact o4 _)] at H;intro br aX _;exact⟨by rw[q],by rw[q];exact H.done aX⟩
end
theorem P2 {p:x1} {l:Λ} (h:aH .i64 w p l) (O:l.length<=1000000):ai x7 G6 [p,Δ v] w λr w'=>Ext w w'/\(∃g,ap .i64 ah w' g r (l.filter λy=>!decide (y=v)))/\ ∀q,leads r q->w.heap.size<=q:=by
 refine aw func110 ?_;rw[aX am.u h];refine b1.range l.length (λi out f=>Ext w f/\(∃g,ap .i64 ah f g out ((l.take i).filter λy=>!decide (y=v)))/\ ∀r,leads out r->w.heap.size<=r) h.le ⟨Ext.refl _,⟨0,ap.nil _ _ _ _⟩,λr C=>by obtain⟨_,_,_,e,_⟩:=C;cases e⟩ ?_ ?_
 .rintro q out f E G ⟨a,⟨g,hm⟩,j⟩ H;obtain⟨y,s⟩:=aI (l:=l) G;have x:(l.take (q+1)).filter (λy=>!decide (y=v))=(l.take q).filter (λy=>!decide (y=v))++(if y≠v then[y] else[]):=by
   rw[u9,s,o7,List.filter_append];congr 1;by_cases az:y=v<;>simp[az]
  refine bH Ω ?_;refine aU (λz A=>Ext w A/\(∃g,ap .i64 ah A g z ((l.take (q+1)).filter λy=>!decide (y=v)))/\ ∀r,leads z r->w.heap.size<=r) (λ_ _ I=>by rw[aP];exact H _ _ I) λav B=>?_;rw[bd am.u ah.i Ψ (h.ext a) s,bL,aj];refine⟨λJ=>?_,λhe=>B _ _ ⟨a,⟨g,by rw[x,if_neg he,X9];exact hm⟩,j⟩⟩;refine Eo (w0:=w) a hm j ?_ λP w' K L M N=>B _ _ ⟨L,⟨K,by rw[x,if_pos J];exact M⟩,N⟩;have h1:=List.length_filter_le (λy=>!decide (y=v)) (l.take q);rw[j5] at h1;omega
 .rintro out f E ⟨a,hm,j⟩;rw[o5] at hm;refine cd Ω ?_;exact⟨a,hm,j⟩
theorem xt {i:Nat} {v:Int}:∀ (L:Λ) (s:au) (x:bi),s.vars[i]? =σ x->(∀y∈L,0<=y)-> ∃m,fV s i v L={s with vars:=s.vars.set i {x with mask:=m}}/\ay {x with mask:=m}=(ay x).filter λy=>!(decide (y∈L)&& !decide (y=v))
 |[],s,x,f,_=>by
  refine⟨x.mask,?_,(List.filter_eq_self.2 λy _=>Ξ).symm⟩;have:s.vars.set i x=s.vars:=by
   apply Y2;intro q;by_cases e:i=q
   .subst e;rw[j4 (x4.1 f).1,f]
   .rw[Y0 e]
  show s={s with vars:=s.vars.set i x};rw[this]
 |w::L,s,x,f,j=>by
  have hw:=j w (.head _);have z:=(x4.1 f).1;rw[fV];by_cases e:w≠v
  .rw[if_pos e];have r:e5 s i w.toNat={s with vars:=s.vars.set i {x with mask:=((x.mask.toNat ||| 2 ^ w.toNat:Nat):Int)}}:=by unfold e5;rw[f]
   obtain⟨m,h1,p⟩:=xt L (e5 s i w.toNat) {x with mask:=((x.mask.toNat ||| 2 ^ w.toNat:Nat):Int)} (by rw[r];exact j4 z) λy a=>j y (.tail _ a);refine⟨m,?_,?_⟩
   .rw[h1,r];simp only[List.set_set]
   .rw[p,D1 hw,List.filter_filter];refine List.filter_congr λy _=>?_;by_cases a:y=w
    .subst a;simp[e]
    .simp[a]
  .rw[if_neg e];obtain⟨m,h1,p⟩:=xt L s x f λy a=>j y (.tail _ a);refine⟨m,h1,?_⟩;rw[p];have e:=Y3.1 e;refine List.filter_congr λy _=>?_;by_cases a:y=v
   .simp[a]
   .have:y≠w:=λh=>a (h.trans e);simp[a,this]
theorem filter_one {l:Λ} (j:l.Nodup) (f:v∈l):l.filter (λy=>decide (y=v))=[v]:=by
 induction l with
 |nil=>cases f
 |cons a l p=>
  have h:=List.nodup_cons.1 j;by_cases e:a=v
  .subst e;rw[List.filter_cons_of_pos Ξ,List.filter_eq_nil_iff.2 λx q=>by simp;intro r;exact h.1 (r▸q)]
  .rw[List.filter_cons_of_neg (by simpa using e)];exact p h.2 ((W6.1 f).resolve_left (S3 e))
def ju (u:au) (a:fJ):Option bi:=if 3<a.kind then ek u a.i a.v else gS u a.i
section
variable {w:x3} {ac af an:Nat} {A R:ag} {A9:Nat->ag} {aG:ag} {n:aT} {s u:au} {t:aC} {h:List aC} {cs:List x1} {a:fJ}
theorem EQ {x:bi} (h:ju u a=σ x):0<=a.i/\u.vars[a.i.toNat]? =σ x/\x.gone=0/\(3<a.kind->a.v∈ay x):=by
 unfold ju at h;split at h
 .obtain⟨h1,e,f,j⟩:=hE h;exact⟨h1,e,f,λ_=>j⟩
 .rename_i hk;obtain⟨h1,e,f⟩:=xp h;exact⟨h1,e,f,λh=>absurd h hk⟩
theorem P3 (h:¬(0<=a.i/\a.i<u.vars.length)):ju u a=ν:=by
 cases he:ju u a with
 |none=>rfl
 |some x=>
  obtain⟨h1,e,_⟩:=EQ he;exact absurd ⟨h1,by have:=(x4.1 e).1;omega⟩ h
theorem P4 {x:bi} (e:0<=a.i) (f:u.vars[a.i.toNat]? =σ x):ju u a=if x.gone=0/\(3<a.kind->a.v∈ay x) then σ x else ν:=by
 unfold ju;by_cases hk:3<a.kind
 .rw[if_pos hk];unfold ek;rw[if_pos e,f];simp only[hk,true_implies]
 .rw[if_neg hk];unfold gS;rw[if_pos e,f];simp only[hk,false_implies,and_true]
theorem P5 (hk:2<=a.kind/\a.kind<=5) (h:ju u a=ν):bp n.k u a=(u,1):=by
 unfold ju at h;by_cases e:3<a.kind
 .rw[if_pos e] at h;unfold bp;rw[if_neg Ω,if_neg Ω,if_neg Ω,if_neg Ω,h];split<;>rfl
 .rw[if_neg e] at h;by_cases f:a.kind=2
  .rw[xq f,h]
  .rw[xr Ω,h]
theorem ER {x:bi} (q:0<=c):gB x<c↔ay x=[]\/ ∃v∈ay x,x.un.getD v.toNat 0<c:=by
 unfold gB;constructor
 .intro h;cases e:ay x with
  |nil=>exact .inl rfl
  |cons b l=>
   refine .inr ?_;rw[e] at h;simp only[V4] at h;by_cases f:∀v∈b::l,c<=x.un.getD v.toNat 0
   .have:=(mT (l.map λv=>x.un.getD v.toNat 0) (x.un.getD b.toNat 0) c).2 ⟨f b (.head _),λy j=>by obtain⟨v,a,rfl⟩:=n9.1 j;exact f v (.tail _ a)⟩;omega
   .simp only[Classical.not_forall] at f;obtain⟨v,a,r⟩:=f;exact⟨v,a,Ω⟩
 .rintro (h|⟨v,a,s⟩)
  .rw[h];show (-1:Int)<c;omega
  .cases e:ay x with
   |nil=>rw[e] at a;cases a
   |cons b l=>
    rw[e] at a;simp only[V4];rcases Int.lt_or_le ((l.map λv=>x.un.getD v.toNat 0).foldl min (x.un.getD b.toNat 0)) c with az|az
    .exact az
    .obtain⟨w,p⟩:=(mT _ _ _).1 az;rcases W6.1 a with rfl|a
     .omega
     .have:=p _ (n9.2 ⟨v,a,rfl⟩);omega
def xu (n:aT) (u:au) (x:bi) (a:fJ):Prop:=ay x=[]\/(a.kind=3/\u.zero<a.c)\/(a.kind=2/\ ∃v∈ay x,x.un.getD v.toNat 0<a.c)
theorem P6 {x:bi} (hk:a.kind=2\/a.kind=3) (h:ju u a=σ x):(¬(0<=a.c/\a.c<=n.k)->bp n.k u a=(u,3))/\((0<=a.c/\a.c<=n.k)->xu n u x a->bp n.k u a=(u,7))/\
  ((0<=a.c/\a.c<=n.k)->¬xu n u x a->bp n.k u a=(fo u a.i.toNat x (λg=>if a.kind=2 then cH n.k g a.c else cr n.k g a.c) (λg=>if a.kind=2 then cr n.k g a.c else cH n.k g a.c),0)/\(a.kind=2-> ∀v∈ay x,a.c<=x.un.getD v.toNat 0)/\(a.kind=3->a.c<=u.zero)):=by
 have r:gS u a.i=σ x:=by unfold ju at h;rwa [if_neg Ω] at h
 rcases hk with hk|hk
 .have e:=xq (n:=n) (s:=u) hk;rw[r] at e;simp only at e;simp only[hk];refine⟨λf=>?_,λf hi=>?_,λf hi=>?_⟩
  .have j:∀m,da n.k a.c m=3:=λm=>by unfold da;rw[if_pos f]
   rw[j,if_pos Φ] at e;exact e
  .have p:gB x<a.c:=(ER f.1).2 (hi.elim .inl λh=>h.elim (λh=>Ω) λh=>.inr h.2);have j:∀m,m<a.c->da n.k a.c m=7:=λm hm=>by unfold da;rw[if_neg (λh=>h f),if_pos hm]
   rw[j _ p,if_pos Φ] at e;exact e
  .have p:¬gB x<a.c:=λh=>hi (((ER f.1).1 h).elim .inl λh=>.inr (.inr ⟨hk,h⟩));have j:da n.k a.c (gB x)=0:=by unfold da;rw[if_neg (λh=>h f),if_neg p]
   rw[j,if_neg Φ] at e;refine⟨by rw[e];simp,λ_ v r=>?_,λh=>absurd h Φ⟩;rcases Int.lt_or_le (x.un.getD v.toNat 0) a.c with az|az
   .exact absurd (.inr (.inr ⟨hk,v,r,az⟩)) hi
   .exact az
 .have e:=xr (n:=n) (s:=u) hk;rw[r] at e;simp only at e;simp only[hk];refine⟨λf=>?_,λf hi=>?_,λf hi=>?_⟩
  .have j:∀m,da n.k a.c m=3:=λm=>by unfold da;rw[if_pos f]
   rw[j,if_pos Φ] at e;exact e
  .have p:(if ay x=[] then-1 else u.zero)<a.c:=by
    by_cases q:ay x=[]
    .rw[if_pos q];omega
    .rw[if_neg q];rcases hi with hi|hi|hi
     .exact absurd hi q
     .exact hi.2
     .omega
   have j:∀m,m<a.c->da n.k a.c m=7:=λm hm=>by unfold da;rw[if_neg (λh=>h f),if_pos hm]
   rw[j _ p,if_pos Φ] at e;exact e
  .have q:¬ay x=[]:=λh=>hi (.inl h);have w:¬u.zero<a.c:=λh=>hi (.inr (.inl ⟨hk,h⟩));have j:da n.k a.c u.zero=0:=by unfold da;rw[if_neg (λh=>h f),if_neg w]
   rw[if_neg q,j,if_neg Φ] at e;exact⟨by rw[e];simp,λh=>absurd h Φ,λ_=>Ω⟩
end
section
variable {w:x3} {ac af an:Nat} {A R:ag} {A9:Nat->ag} {aG:ag} {n:aT} {s u:au} {t:aC} {h:List aC} {cs:List x1} {a:fJ}
theorem P7 (p:ck w ac af an A R A9 aG n s u t h cs) (aq:bq n.k n.sizes u) (hk:2<=a.kind/\a.kind<=5):ai x7 uS [Γ an,Δ (a.kind:Int),Δ a.i,Δ a.pos,Δ a.v,Δ a.c] w λr w'=>r=Δ (bp n.k u a).2/\dJ w ac af an A R A9 aG n s t h (bp n.k u a).1 w':=by
 have cz:=aq.vars;have cA:=aq.fU;refine aw func40 ?_;have bM:cs[0]? =σ (Δ n.k):=by obtain⟨_,_,_,_,_,_,rfl,_⟩:=p.pm;rfl
 rw[aO aE.p 0 p.box bM,aR,aj];refine⟨λh=>Ω,λ_=>?_⟩;refine aU (λr w'=>r= .bool (!(ju u a).isSome)/\Ext w w') ?_ λav a7=>?_
 rotate_left
 .rw[bZ];refine p.look.load λeY cB=>?_;refine (DY (i:=a.i) cB).mono ?_;rintro _ J _ ⟨rfl,Y⟩;rw[bG,bY];refine⟨λP=>a7 _ _ ⟨by rw[P3 (λh=>by rw[cz] at h;rw[decide_eq_true h] at P;cases P)];rfl,Y⟩,λP=>?_⟩;have a8:0<=a.i/\a.i<n.sizes.length:=by simpa using P
  obtain⟨x,I⟩:=aI (l:=u.vars) (i:=a.i.toNat) Ω;have bo:=P4 a8.1 I;obtain⟨szv,cC,dr,aV,ds,br,bN,_,_,cD,cE,dt,du,dv⟩:=(p.look).ext Y;rw[aO aE.p 4 bN rfl];refine gK (α:=Bool) (a:=decide (x.gone≠0)) (i:=a.i.toNat) rfl Ω hn.u eB.i Ψ cE (by rw[x8,I];rfl) λbQ bt=>?_;have bt:[bQ]=[x1.bool (decide (x.gone≠0))]:=bt;obtain rfl:bQ=x1.bool (decide (x.gone≠0)):=by simpa using bt
  rw[aj];refine⟨λQ=>a7 _ _ ⟨by rw[bo,if_neg λh=>Q h.1];rfl,Y⟩,λQ=>?_⟩;have Q:=Y3.1 Q;rw[bT,aj];refine⟨λbu=>?_,λbu=>a7 _ _ ⟨by rw[bo,if_pos ⟨Q,λh=>absurd h Ω⟩];rfl,Y⟩⟩;rw[aO aE.p 3 bN rfl];refine gK (α:=Λ) (a:=ay x) (i:=a.i.toNat) rfl Ω cK.u am.i Ψ cD (by rw[x8,I];rfl) λdw cF=>?_;refine (ts (cU cF)).mono ?_;rintro _ U _ ⟨rfl,L⟩;rw[bG];refine a7 _ _ ⟨?_,Y.trans L⟩;rw[bo];by_cases H:a.v∈ay x
  .rw[if_pos ⟨Q,λ_=>H⟩,decide_eq_true H];rfl
  .rw[if_neg λh=>H (h.2 Ω),decide_eq_false H];rfl
 rintro _ J ⟨rfl,Y⟩;cases hm:ju u a with
 |none=>
  have f:=P5 (n:=n) hk hm;rw[S7,W5,bS];exact⟨by rw[f],by rw[f];exact dJ.same p Y⟩
 |some x=>
 rw[S6,Y4,aY];obtain⟨cG,I,dx,cI⟩:=EQ hm;obtain⟨B,aK⟩:=V7 cG;rw[aK,r8] at I;have bw:=(x4.1 I).1;have G:∀y∈ay x,0<=y/\y<x.un.length:=λy O=>(gA.1 O).1;simp only[aK];have bR:∀v:Nat,0<=x.un.getD v 0/\x.un.getD v 0<=n.k:=λv=>gC aq I;have N:=p.ext Y;have dy:cs[0]? =σ (Δ n.k):=bM;have bx:∀ {U:x3} {eb:au} {bU:List x1} {bz:Nat->ag} {aL:bi},ck U ac af an A R bz aG n s eb t h bU->eb.vars[B]? =σ aL-> ∃aV aA y,aH .i64 U y aL.un/\(∀ {j:x3} {K:x1->x1->x1->x1->x1->Prop},Ext U j->K (Γ an) (.pointer (σ ⟨an,0+5,ν⟩)) aV (.pointer (σ ⟨aA,0+B*1,ν⟩)) y->
    aa x7 (bO (Γ an)) j λaC=>aa x7 (u6 aE aC 5) j λaD=>aa x7 (u5 cN aD) j λaM=>aa x7 (c7 cN aM (Δ (B:Int))) j λba=>aa x7 (u5 ao ba) j λcJ=>K aC aD aM ba cJ)/\
   ∀ {w':x3} {v:Nat} {c:Int} {K:Unit->x3->Prop},Ext U w'->v<aL.un.length->(∀bV,js U ac af an A R bz aG n s t h (ej eb B aL (aL.un.set v c)) bV->K () bV)->aa x7 (c7 ao y (Δ (v:Int))) w' λa=>ax x7 (o8 al a (Δ c)) w' K:=λ{U eb bU bz aL} bW C=>by
  obtain⟨aA,cL,y,cM,cO,ad,bA⟩:=xo bW C;have cP:=(x4.1 C).1;refine⟨.slice (σ ⟨aA,0,ν⟩) eb.vars.length cL,aA,y,ad,λ{j K} aF aW=>?_,bA⟩;rw[aO aE.p 5 (bW.box.ext aF) cM,fx cN.u ao.i cP λ_=>rfl,aB (v:=y) (o:=0+B*1) Ψ (by rw[X5,U9];exact iE aF cO)];exact aW
 obtain⟨cQ,cR,bb,bX,cS,ak,cT,b0⟩:=PB N I;have b2:∀ {j:x3} {K:x1->x1->x1->Prop},Ext J j->K (Γ an) (.pointer (σ ⟨an,0+3,ν⟩)) (.slice (σ ⟨cQ,0,ν⟩) u.vars.length cR)->
   aa x7 (bO (Γ an)) j λaC=>aa x7 (u6 aE aC 3) j λaD=>aa x7 (u5 cK aD) j λaM=>K aC aD aM:=λaF aW=>by
  rw[aO aE.p 3 (N.box.ext aF) bX];exact aW
 have pn:∀ {j:x3} {K:x1->Prop},Ext J j->K bb->
   aa x7 (bO (Γ an)) j λaC=>aa x7 (u6 aE aC 3) j λaD=>aa x7 (u5 cK aD) j λaM=>aa x7 (c7 cK aM (Δ (B:Int))) j λba=>aa x7 (u5 am ba) j K:=λaF aW=>by
  rw[aO aE.p 3 (N.box.ext aF) bX,fx cK.u am.i bw λ_=>rfl,aB (v:=bb) (o:=0+B*1) Ψ (by rw[X5,U9];exact iE aF cS)];exact aW
 have low:∀ {u':au} {w':x3},dJ J ac af an A R A9 aG n s t h u' w'->dJ w ac af an A R A9 aG n s t h u' w':=λbc=>dJ.comp (Y.V _) (λq r G=>.inl ⟨q,G⟩) bc;refine aU (λ_ w'=>dJ w ac af an A R A9 aG n s t h (bp n.k u a).1 w'/\(bp n.k u a).2=0) (λ_ w' bc=>⟨by rw[bc.2],bc.1⟩) λcV bB=>?_;refine aU (λr w'=>r= .bool (decide (a.kind=2\/a.kind=3))/\J=w') ?_ λdz b3=>?_
 rotate_left
 .rw[bh,aj];refine⟨λC=>b3 _ _ ⟨?_,rfl⟩,λC=>?_⟩
  .congr 1;exact decide_eq_decide.2 ⟨λ_=>.inl Ω,λ_=>C⟩
  .rw[bh];refine b3 _ _ ⟨?_,rfl⟩;congr 1;exact decide_eq_decide.2 ⟨λh=>.inr Ω,λh=>Ω⟩
 rintro _ _ ⟨rfl,rfl⟩;rw[aj];refine⟨λcW=>?_,λdA=>?_⟩
 .
  obtain⟨cX,be,bC⟩:=P6 (n:=n) cW hm;refine zI.mono ?_;rintro _ U _ ⟨rfl,L⟩;have dC:=L;have b4:cw a.c n.k↔0<=a.c/\a.c<=n.k:=⟨λh=>h.2,λC=>⟨cA,C⟩⟩;rw[bG,bY];refine⟨λP=>?_,λP=>?_⟩
  .have f:=cX λh=>absurd (b4.2 h) (by simpa using P);exact⟨by rw[f],by rw[f];exact low (dJ.same N L)⟩
  have a8:=b4.1 (show cw a.c n.k by simpa using P);have be:=be a8;have bC:=bC a8;refine aU (λr w'=>Ext J w'/\ ∃b,r= .bool b/\(b=true↔ay x=[]\/(a.kind=3/\u.zero<a.c))) ?_ λdD bD=>?_
  rotate_left
  .refine pn L ?_;rw[aX am.u (ak.ext L),bh,aj];refine⟨λhe=>bD _ _ ⟨L,true,rfl,⟨λ_=>.inl (b9 Ω),λ_=>rfl⟩⟩,λbf=>?_⟩;have bf:ay x≠[]:=λh=>bf (by rw[h];rfl);rw[bh,aj];refine⟨λbu=>?_,λbu=>bD _ _ ⟨L,false,rfl,⟨(λh=>by cases h),λh=>h.elim (λh=>absurd h bf) λh=>Ω⟩⟩⟩;have bE:cs[2]? =σ (Δ u.zero):=by obtain⟨_,_,_,_,_,_,rfl,_⟩:=p.pm;rfl
   rw[aO aE.p 2 (N.box.ext L) bE,bT];exact bD _ _ ⟨L,_,rfl,by rw[decide_eq_true_eq];exact⟨λh=>.inr ⟨Ω,h⟩,λh=>h.elim (λh=>absurd h bf) λh=>h.2⟩⟩
  rintro _ cY ⟨aN,b,rfl,b5⟩;rw[bY];refine⟨λcZ=>?_,λb6=>?_⟩
  .have f:=be ((b5.1 cZ).elim .inl λh=>.inr (.inl h));exact⟨by rw[f],by rw[f];exact low (dJ.same N aN)⟩
  have b7:¬(ay x=[]\/(a.kind=3/\u.zero<a.c)):=λh=>by rw[b5.2 h] at b6;cases b6
  refine pn aN ?_;rw[aX am.u (ak.ext aN)];refine b1.range (ay x).length (λq _ w'=>Ext J w'/\(a.kind=2-> ∀v∈(ay x).take q,a.c<=x.un.getD v.toNat 0)) ak.le ⟨aN,λ_ v H=>by simp at H⟩ ?_ ?_
  .rintro q b8 aJ c0 bF ⟨M,bg⟩ c1;obtain⟨v,H⟩:=aI (l:=ay x) bF;have ap:=x5 H;have bj:=G v ap;obtain⟨E,rfl⟩:=V7 bj.1;refine bH Ω ?_;rw[bd am.u ah.i Ψ (ak.ext M) H];refine aU (λr w'=>aJ=w'/\r= .bool (decide (a.kind=2/\x.un.getD E 0<a.c))) ?_ λdE ca=>?_
   .rintro _ _ ⟨rfl,rfl⟩;rw[aj];refine⟨λaZ=>?_,λbI=>?_⟩
    .have f:=be (.inr (.inr ⟨aZ.1,_,ap,aZ.2⟩));exact⟨by rw[f],by rw[f];exact low (dJ.same N M)⟩
    .rw[aP];refine c1 _ _ ⟨M,λC y O=>?_⟩;rw[u9,H,o7,l7,l9] at O;rcases O with O|rfl
     .exact bg C y O
     .rcases Int.lt_or_le (x.un.getD E 0) a.c with az|az
      .exact absurd ⟨C,az⟩ bI
      .exact az
   rw[bh,aj];refine⟨λC=>?_,λC=>ca _ _ ⟨rfl,by rw[decide_eq_false λh=>C Ω]⟩⟩;obtain⟨aV,aA,y,ad,look,_⟩:=bx (N.ext M) I;refine look (Ext.refl _) ?_;rw[bd ao.u al.i Ψ ad (getD_some (i:=E) Ω),bT];refine ca _ _ ⟨rfl,?_⟩;congr 1;exact decide_eq_decide.2 ⟨λh=>⟨Ω,h⟩,λh=>h.2⟩
  rintro b8 aJ c0 ⟨M,bg⟩;rw[o5] at bg;have c2:¬xu n u x a:=λhi=>hi.elim (λh=>b7 (.inl h)) λh=>h.elim (λh=>b7 (.inr h)) λ⟨C,v,H,aZ⟩=>by have:=bg C v H;omega
  obtain⟨f,dF,dG⟩:=bC c2;rw[aK,r8] at f;refine cd Ω ?_;refine pn M ?_;rw[aX am.u (ak.ext M)];obtain⟨g,Q⟩:∃g:Int->Int,g=λg=>if a.kind=2 then cH n.k g a.c else cr n.k g a.c:=⟨_,rfl⟩;obtain⟨z,bJ⟩:∃z:Int->Int,z=λg=>if a.kind=2 then cr n.k g a.c else cH n.k g a.c:=⟨_,rfl⟩;rw[<-Q,<-bJ] at f;have c3:=N.ext M;have c4:=ak.ext M;have cb:=ma x;obtain⟨cc,dH⟩:∃cc,bb=cc:=⟨_,rfl⟩;have c5:ej u B x (dj g x.un ((ay x).take 0))=u:=by
   unfold ej;show {u with vars:=u.vars.set B x}=u;have:u.vars.set B x=u.vars:=by
    apply Y2;intro i;by_cases e:B=i
    .subst e;rw[j4 bw,I]
    .rw[Y0 e]
   rw[this]
  have c6:∀ {w':x3},ae (A9 2) aJ w'->aH .i64 w' bb (ay x):=λc8=>hS c4 c8 λr G b n c e P=>N.gJ.1 0 2 r Φ (cT r ⟨b,n,c,e,P⟩) G;refine ch.range (ay x).length (λq w'=>js aJ ac af an A R A9 aG n s t h (ej u B x (dj g x.un ((ay x).take q))) w') ak.le (by rw[c5];exact js.same c3 (Ext.refl _)) ?_ ?_
  .rintro q bk c9 bF aS da;obtain⟨bl,ce,cg,aT,bK,db⟩:=id aS;obtain⟨v,H⟩:=aI (l:=ay x) bF;have ap:=x5 H;have bj:=G v ap;obtain⟨E,rfl⟩:=V7 bj.1;have bm:(ej u B x (dj g x.un ((ay x).take q))).vars[B]? =σ {x with un:=dj g x.un ((ay x).take q)}:=j4 bw;have dI:(dj g x.un ((ay x).take q)).length=x.un.length:=kA _ _;have bL:=n7 (g:=g) ((ay x).take q) x.un (E:Int) (cb.sublist (List.take_sublist _ _)) (λy O=>G y (T3 O)) Ω;rw[if_neg (xh cb H),r8] at bL;have dc:=bR E;obtain⟨aV,aA,y,ad,look,bA⟩:=bx aT bm;refine bH Ω ?_;refine dm (λS=>js aJ ac af an A R A9 aG n s t h (ej u B x (dj g x.un ((ay x).take (q+1)))) S) (λS W=>by rw[aP];exact da _ W) λdd de=>?_;have a1:∀ {X:x3},Ext bk X->aa x7 (c7 ao y (Δ (E:Int))) X λa'=>ax x7 (o8 al a' (Δ (g (x.un.getD E 0)))) X λ(_:Unit) S=>dd S:=λbn=>by
    refine bA bn (by show E<(dj g x.un ((ay x).take q)).length;omega) λS W=>de _ (js.comp bl bK db ?_);have e:ej (ej u B x (dj g x.un ((ay x).take q))) B {x with un:=dj g x.un ((ay x).take q)} ((dj g x.un ((ay x).take q)).set E (g (x.un.getD E 0)))=ej u B x (dj g x.un ((ay x).take (q+1))):=by
     rw[EL H,r8,bL];unfold ej;simp only[List.set_set]
    rw[e] at W;exact W
   have ci:(dj g x.un ((ay x).take q))[E]? =σ (x.un.getD E 0):=by rw[getD_some Ω,bL]
   rw[bd am.u ah.i Ψ (c6 bl) H,bh,aj];refine⟨λC=>?_,λC=>?_⟩
   .intro j Z _ _;refine look Z (look Z ?_);rw[bd ao.u al.i Ψ (ad.ext Z) ci];refine (tT Ω Ω).mono ?_;rintro _ X _ ⟨rfl,ab⟩;refine⟨.inl ab,?_⟩;have:=a1 (Z.trans ab);rw[Q] at this;simp only[if_pos (show a.kind=2 by omega)] at this;exact this
   .intro j Z _ _;refine look Z (look Z ?_);rw[bd ao.u al.i Ψ (ad.ext Z) ci];refine (oV Ω Ω).mono ?_;rintro _ X _ ⟨rfl,ab⟩;refine⟨.inl ab,?_⟩;have:=a1 (Z.trans ab);rw[Q] at this;simp only[if_neg (show ¬a.kind=2 by omega)] at this;exact this
  .rintro bk c9 aS;rw[o5] at aS;refine cd Ω ?_;have aS:=aS.ED;obtain⟨bl,ce,cg,aT,bK⟩:=id aS;have cj:cg[2]? =σ (Δ u.zero):=by obtain⟨_,_,_,_,_,_,rfl,_⟩:=aT.pm;rfl
   have df:=aq.zero;have a1:∀ {X:x3},Ext bk X->ax x7 (o8 al (.pointer (σ ⟨an,0+2,ν⟩)) (Δ (z u.zero))) X λ(_:Unit) S=>cV b8 S:=λbn=>by
    refine PA (aT.ext bn) λS W=>bB _ _ ⟨?_,by rw[f]⟩;rw[f];have cl:=dJ.comp (A9:=ce) (bn.V _) (λq r G=>.inl ⟨q,G⟩) W;have a2:=dJ.comp bl bK cl;exact low (dJ.comp (M.V _) (λq r G=>.inl ⟨q,G⟩) a2)
   rw[bh,aj];refine⟨λC=>?_,λC=>?_⟩
   .rw[aO aE.p 2 aT.box cj];refine (oV Ω Ω).mono ?_;rintro _ X _ ⟨rfl,ab⟩;rw[bZ,aQ aE.p rfl];have:=a1 ab;rw[bJ] at this;simp only[if_pos (show a.kind=2 by omega)] at this;exact this
   .rw[aO aE.p 2 aT.box cj];refine (tT Ω Ω).mono ?_;rintro _ X _ ⟨rfl,ab⟩;rw[bZ,aQ aE.p rfl];have:=a1 ab;rw[bJ] at this;simp only[if_neg (show ¬a.kind=2 by omega)] at this;exact this
 .
  have cm:3<a.kind:=Ω
  have ap:=cI cm;obtain⟨E,br⟩:=V7 (G _ ap).1;have bj:=(G _ ap).2;have cn:ek u a.i a.v=σ x:=by unfold ju at hm;rwa [if_pos cm] at hm
  rw[bh,aj];refine⟨λa2=>?_,λa2=>?_⟩
  .have a2:a.kind=4:=Ω
   have f:bp n.k u a=if cr n.k u.zero (x.un.getD a.v.toNat 0)<n.k then (u,7) else (e5 u a.i.toNat a.v.toNat,0):=by
    unfold bp;rw[if_neg Ω,if_neg Ω,if_neg Ω,if_neg Ω,if_pos a2,cn]
   have df:=aq.zero;have dc:=bR E;intro U L _ _;have bE:cs[2]? =σ (Δ u.zero):=by obtain⟨_,_,_,_,_,_,rfl,_⟩:=p.pm;rfl
   obtain⟨aV,aA,y,ad,look,_⟩:=bx (N.ext L) I;rw[aO aE.p 2 (N.box.ext L) bE];refine look (Ext.refl _) ?_;rw[br,bd ao.u al.i Ψ ad (getD_some (i:=E) Ω)];refine (oV Ω Ω).mono ?_;rintro _ cY _ ⟨rfl,aN⟩;have cp:=L.trans aN;rw[br,r8] at f;unfold cr at f;rw[aR,aj];refine⟨λaZ=>?_,λbI=>?_⟩
   .rw[if_pos aZ] at f;exact⟨by rw[f],by rw[f];exact low (dJ.same N cp)⟩
   .rw[if_neg bI] at f;intro aJ M _ _;have a6:=cp.trans M;refine b2 a6 ?_;refine pn a6 ?_;have dK:=xk x;have dg:=aq.fb.2.2;refine (P2 (v:=(E:Int)) (ak.ext a6) (by
     obtain⟨cq,ct⟩:=aI (l:=n.sizes) (i:=B) Ω;have h1:=(aq.var B x cq I ct).1;have C:=dg cq (x5 ct);omega)).mono ?_
    rintro cC bk _ ⟨bm,⟨gz,dh⟩,di⟩;refine⟨.inl bm,?_⟩;have dk:=a6.trans bm;have dL:=a6.size;refine b0 (m:=((x.mask.toNat ||| 2 ^ E:Nat):Int)) dk (gz:=gz) (by rw[show E=(E:Int).toNat from rfl,D1 Ω];exact dh) (λr G=>by have:=di r G;omega) λS W=>bB _ _ ⟨?_,by rw[f]⟩;rw[f,aK,r8];unfold e5;rw[I];exact low W
  .have cl:a.kind=5:=Ω
   obtain⟨m,dl,dn⟩:=xt (i:=a.i.toNat) (v:=a.v) (ay x) u x (by rw[aK,r8];exact I) λy O=>(G y O).1;have f:bp n.k u a=(fV u a.i.toNat a.v (ay x),0):=by
    unfold bp;rw[if_neg Ω,if_neg Ω,if_neg Ω,if_neg Ω,if_neg Ω,cn]
   have dp:ay {x with mask:=m}=[a.v]:=by
    rw[dn,<-filter_one (ma x) ap];refine List.filter_congr λy O=>?_;rw[decide_eq_true O,U7,Bool.not_not]
   rw[bh,aj];refine⟨λ_=>?_,λh=>Ω⟩;refine b2 (Ext.refl _) ?_;refine ep (k:=.i64) am.u ah.i rfl λv4 dq aJ dM M cu=>?_;refine b0 (m:=m) M (gz:=dq) (by rw[dp];exact cu) (λr G=>by have:=bP cu G;omega) λS W=>bB _ _ ⟨?_,by rw[f]⟩;rw[f,dl,aK,r8];exact low W
end
theorem ES {p:x1} (aD:aH .u8 w p pl) (W:Bytes pl) (a2:e1 w):ai x7 yQ [p] w (OA w (pl.take 300)):=by
 refine aw func9 ?_;refine bB aE.i λz J bN ag Z=>?_;have Z:ab J z aE z12:=Z;rw[aX cP.u (aD.ext ag),kR];refine Jg (i:=min pl.length 300) Ω cP.u cI.i (aD.ext ag) Ω λbO ak=>?_;have a6:pl.take (min pl.length 300)=pl.take 300:=by
  by_cases h:pl.length<=300
  .rw[Nat.min_eq_left h,o5,o9 h]
  .rw[Nat.min_eq_right Ω]
 rw[a6] at ak;have aa:Bytes (pl.take 300):=λb a=>W b (T3 a);have a7:(pl.take 300).length<=300:=by rw[j5];omega
 generalize pl.take 300=q at ak aa a7;refine (Ox ak Ω).mono ?_;rintro bP U _ ⟨al,bQ,am⟩;have aF:=ag.trans al;refine (L6 am.ls aa Ω (a2.ext aF)).mono ?_;rintro bR bT _ ⟨X,B⟩;have aI:=aF.trans X;cases E:gk q with
 |none=>
  rw[E] at B;obtain⟨n,e,rfl,he⟩:=B;rw[h6,h7,h8];refine (Dh (am.ext X).ls aa Ω).mono ?_;rintro a8 an _ ⟨M,ba,bb,ao,_⟩;obtain rfl:=ao E;rw[h6,h7,h8];refine aU (λv Y=>v= .bool true/\Ext an Y) ?_ ?_
  .rintro _ Y ⟨rfl,H⟩;rw[bS,dp (cs:=#[Δ 0,.slice ν 0 0,Δ 0,.slice ν 0 0,.slice ν 0 0,.slice ν 0 0,.slice ν 0 0,.slice ν 0 0]) Ψ];obtain⟨_,_,s,C⟩:=DK;refine b3 (vs:=z12) aE.i rfl rfl (by intro u hu;simp[z12] at hu;rcases hu with rfl|rfl|rfl|rfl<;>rfl) ((((Z.ext al).ext X).ext M).ext H) λbU bc bW bd=>?_;rw[fz aE.p aE.i rfl bd.range];refine⟨((aI.trans M).trans H).then bc λr B he=>by have he:r=z:=he;omega,_,_,false,rfl,⟨rfl,(DK).elim λ_ h=>by obtain⟨_,_,h⟩:=h;exact λu hu=>by simp[z12] at hu;rcases hu with rfl|rfl|rfl|rfl<;>rfl⟩,.inl ⟨rfl,rfl⟩,λf aJ=>?_⟩;rw[E] at aJ;cases aJ
  .intro av K;rw[bL,aj];exact⟨λ_=>K _ _ ⟨rfl,Ext.refl _⟩,λh=>absurd he h⟩
 |some f=>
  rw[E] at B;obtain⟨bX,n,rfl,be⟩:=B;obtain⟨N,bf,O,bg,bi⟩:=Ov Ω E;have P:=B4 O;have ad:=wZ O;rw[h6,h7,h8];refine (Dh (am.ext X).ls aa Ω).mono ?_;rintro a8 an _ ⟨M,ba,bb,_,ao⟩;obtain⟨bY,rfl,bj⟩:=ao f E;rw[h6,h7,h8];refine aU (λv Y=>v= .bool false/\Ext an Y) ?_ ?_
  rotate_left
  .intro av K;rw[bL,aj];refine⟨λh=>absurd rfl h,λ_=>?_⟩;rw[dn u2.u];exact K _ _ ⟨rfl,Ext.refl _⟩
  rintro _ Y ⟨rfl,H⟩;rw[aY];have aK:=(aI.trans M).trans H;refine (Nc ((be.ext M).ext H) O bf ⟨bg,bi⟩).mono ?_;rintro bZ bk _ ⟨ap,bl⟩;have ae:=aK.trans ap;have Q:=((((Z.ext al).ext X).ext M).ext H).ext ap;have aL:=(bj.ext H).ext ap;have b0:=ae.size;have b1:w.heap.size<=z:=Ω
  have b2:=Q.lt;rcases bl with⟨bm,e,he,rfl⟩|⟨b4,rfl,bn⟩
  .rw[bx,bz];refine Ow.mono ?_;rintro _ aM _ ⟨rfl,j⟩;refine iB (λaq t4 x=>aq= .pointer ν/\t4= .bool false/\Ext w x/\ ∃cs:List x1,ab x z aE cs/\cs.length=8/\ ∀u∈cs,u.oneCell'=true) ?_ ?_
   .rintro _ _ x ⟨rfl,rfl,au,cs,ax,s,C⟩;rw[fz aE.p aE.i s ax.range];exact⟨au,_,cs,false,rfl,⟨s,C⟩,.inl ⟨rfl,rfl⟩,λb5 aN bo=>absurd bo (by rw[E] at aN;cases aN;exact bm)⟩
   .intro av K;have bp:=j.size;refine (Dr (aL.ext j) O).mono ?_;rintro bq ay _ ⟨y,az⟩;refine (Dx (R:=λr=>w.heap.size<=r/\ ∃c,ab ay r ah c) (λr h=>h.2.elim λc a=>a.lt) (λr c W a=>⟨Ω,c,a⟩) az P.1 ad).mono ?_;rintro br bt _ ⟨G,A9,cs,rfl,S,aA⟩;obtain⟨s,C⟩:=S.len;rw[bh,aj];refine⟨λh=>absurd h he,λ_=>?_⟩;refine b3 (vs:=cs) aE.i s rfl C (((Q.ext j).ext y).ext G) λbu L aO aB=>?_;exact K _ _ _ ⟨rfl,rfl,(((ae.trans j).trans y).trans G).then L λr B he=>by have he:r=z:=he;omega,cs,aB,s,C⟩
  .rw[bx,bz];obtain⟨b6,bw,aP,bA⟩:=bn;have z5:=aK.size;refine (NA (R0:=λr=>w.heap.size<=r/\r<bk.heap.size) bw aP (λr o h I=>⟨by have:=bA r o h I;omega,(j0.1 (aP.aW r o h I)).1⟩) (λr h=>h.2) P.1 ad).mono ?_;rintro _ aM _ ⟨j,ac,af,A,R,t,rfl,bC,aQ,aR,aS,bD⟩;have aT:bV aM ac af A R (dt f) (du (dt f)) t:=⟨bC,aQ,Oz P.1 ad aQ aR,Nn P.1,P.1⟩;refine iB (λaq t4 x=>aq=Γ ac/\t4= .bool true/\Ext w x/\ ∃cs:List x1,ab x z aE cs/\cs.length=8/\(∀u∈cs,u.oneCell'=true)/\ ∃R' A9 aG,bV x ac af A R' (dt f) (du (dt f)) t/\gv true A9 aG x cs (dt f).k (dt f).sizes (du (dt f))/\(∀q r,A9 q r->¬A r/\¬R' r/\w.heap.size<=r)/\(∀r,aG r->¬eQ x r/\r<x.heap.size/\w.heap.size<=r)/\ ∀r,R' r->w.heap.size<=r) ?_ ?_
   .rintro _ _ x ⟨rfl,rfl,au,cs,ax,s,C,R',A9,aG,bE,S,bF,bG⟩;rw[fz aE.p aE.i s ax.range];exact⟨au,_,cs,true,rfl,⟨s,C⟩,.inr ⟨rfl,f,E,ac,af,A,R',t,N,A9,aG,O,rfl,bE,aR,λr B=>by have:=aS r B;omega,S,bF,bG⟩,λ_ _ _=>rfl⟩
   .intro av K;have bp:=j.size;refine (Dr (aL.ext j) O).mono ?_;rintro bq ay _ ⟨y,az⟩;refine (Dx (R:=λr=>w.heap.size<=r/\ ∃c,ab ay r ah c) (λr h=>h.2.elim λc a=>a.lt) (λr c W a=>⟨Ω,c,a⟩) az P.1 ad).mono ?_;rintro br bt _ ⟨G,A9,cs,rfl,S,aA⟩;obtain⟨s,C⟩:=S.len;rw[bh,aj];refine⟨λ_=>?_,λh=>absurd rfl h⟩;rw[zt dO.u];have aV:=((Q.ext j).ext y).ext G;have bH:=((ae.trans j).trans y).trans G;refine b3 (vs:=cs) aE.i s rfl C aV λbu L aO aB=>?_;have aZ:=(aT.ext y).ext G;obtain⟨R',a1,bI⟩:=aZ.1.put aV L λh=>by have:=aS z h;omega
    have b7:=((ae.trans j).trans y).size;have b8:=G.size;obtain⟨_,_,_,_,⟨_,_,bJ,bK⟩,_⟩:=(aT.ext y).1;have b9:=Q.lt;have ca:=(j.trans y).size;have bM:=S.V L λr B h he=>by
     have he:r=z:=he;rcases h with⟨q,h⟩|⟨_,c,a⟩
     .have:=aA q r h;omega
     .subst he;exact absurd (ey a (((Q.ext j).ext y))) Φ
    refine K _ _ _ ⟨rfl,rfl,bH.then L λr B he=>by have he:r=z:=he;omega,cs,aB,s,C,R',A9,_,⟨bI,aZ.2⟩,bM,λq r h=>?_,λr h=>?_,λr h=>?_⟩
    .have cb:=aA q r h;refine⟨λaC=>by have:=bK r aC;omega,λaC=>by have:=bJ r (a1 r aC).1;omega,Ω⟩
    .obtain⟨W,c,a⟩:=h;have cc:=a.lt;have aO:=L.size;refine⟨Ou ((a.ext G).V L λhe=>?_) Φ,Ω,W⟩;have he:r=z:=he;subst he;exact absurd (ey a (((Q.ext j).ext y))) Φ
    .rcases bD r (a1 r h).1 with h|h
     .exact h.1
     .omega
abbrev kD:Type:=jF .u8×Int×Int×Int×Int×Bool
structure dX where
 d:Int
 i:Int
 pos:Int
 v:Int
 c:Int
 lu:Bool
def dX.ok (a:dX):Prop:=(0<=a.d/\a.d<256)/\(-9223372036854775808<=a.c/\a.c<9223372036854775808)
def dX.kind (a:dX):Nat:=(a.d % 6).toNat
def dX.bK (a:dX):List x1:=[.int .u8 a.d,Δ a.i,Δ a.pos,Δ a.v,Δ a.c,.bool a.lu]
def mb (x:kD):dX:=⟨x.1.val,x.2.1,x.2.2.1,x.2.2.2.1,x.2.2.2.2.1,x.2.2.2.2.2⟩
theorem ET {R:ag} {cs:List x1} {x:kD} (h:Seen R w cs x):cs=(mb x).bK:=by
 obtain⟨r,_,_,_,rfl,_,_,_,a,s,_,_,_,rfl,_,_,_,e,y,_,_,_,rfl,_,_,_,f,z,_,_,_,rfl,_,_,_,j,A,B,_,_,rfl,_,_,_,p,q⟩:=h;have a:r=[.int .u8 x.1]:=a;have e:s=[Δ x.2.1]:=e;have f:y=[Δ x.2.2.1]:=f;have j:z=[Δ x.2.2.2.1]:=j;have p:A=[Δ x.2.2.2.2.1]:=p;have q:B=[.bool x.2.2.2.2.2]:=q;subst a e f j p q;rfl
theorem EU {x:kD} (h:(o6.u8.min<=x.1.val/\x.1.val<=o6.u8.max)/\(X2.min<=x.2.1/\x.2.1<=X2.max)/\(X2.min<=x.2.2.1/\x.2.2.1<=X2.max)/\(X2.min<=x.2.2.2.1/\x.2.2.2.1<=X2.max)/\(X2.min<=x.2.2.2.2.1/\x.2.2.2.2.1<=X2.max)/\True):(mb x).ok:=by
 have e:o6.u8.min=0:=Φ
 have f:o6.u8.max=255:=Φ
 have j:X2.min= -9223372036854775808:=Φ
 have p:X2.max=9223372036854775807:=Φ
 rw[e,f,j,p] at h;obtain⟨h1,q,r,s,a,_⟩:=h;exact⟨⟨h1.1,by have:=h1.2;show x.1.val<256;omega⟩,⟨a.1,by have:=a.2;show x.2.2.2.2.1<_;omega⟩⟩
theorem dX.one (a:dX):∀u∈a.bK,u.oneCell'=true:=by
 intro u hu;unfold dX.bK at hu;simp only[W6,List.not_mem_nil,or_false] at hu;rcases hu with rfl|rfl|rfl|rfl|rfl|rfl<;>rfl
theorem dX.EV (a:dX):a.kind<6:=by
 unfold dX.kind;have:=Int.emod_lt_of_pos a.d (show (0:Int)<6 by decide);omega
def hI (k:Int) (s:au) (a:dX):Int:=
 if a.kind<2 then match dk s a.i a.pos a.v with
  |none=>0
  |some (f,_,x)=>if a.kind=1 then x.un.getD a.v.toNat 0 else iv k s f a.pos.toNat a.v
 else if a.kind=2 then match (if 0<=a.i then s.vars[a.i.toNat]? else ν) with
  |none=>s.zero
  |some x=>if ay x=[] then s.zero else ((ay x).map λv=>x.un.getD v.toNat 0).foldl min k
 else s.zero
def ix (k:Int) (s:au) (a:dX):Int:=
 if a.lu=false then a.c else if (a.c.emod 18446744073709551616) % (hI k s a+2) % 3=0 then hI k s a else (a.c.emod 18446744073709551616) % (hI k s a+2)
def hj (k:Int) (s:au) (a:dX):fJ:=⟨a.kind,a.i,a.pos,a.v,ix k s a⟩
theorem xv {k:Int}:∀ (l:Λ) (z:Int),(∀c∈l,0<=c/\c<=k)->0<=z/\z<=k->0<=l.foldl min z/\l.foldl min z<=k
 |[],z,_,h=>h
 |c::l,z,a,h=>by
  have e:=a c (.head _);exact xv l _ (λc h=>a c (.tail _ h)) Ω
section
variable {w:x3} {eY:x1} {k:Int} {sizes:Λ} {s:au} {a:dX}
theorem EW (e:bq k sizes s):0<=hI k s a/\hI k s a<=k:=by
 have hk:=e.fU;unfold hI;split
 .cases p:dk s a.i a.pos a.v with
  |none=>exact⟨Int.le_refl _,show (0:Int)<=k by omega⟩
  |some q=>
   obtain⟨f,u,x⟩:=q;obtain⟨_,_,r,_,_,w⟩:=iw p;obtain⟨_,y,_,_⟩:=hE w;simp only;split
   .exact gC e y
   .refine xv _ _ (λc j=>?_) ⟨Ω,Int.le_refl _⟩;obtain⟨tl,_,rfl⟩:=n9.1 j;exact kB e (x5 r)
 .split
  .split
   .exact e.zero
   .rename_i x h;have h:s.vars[a.i.toNat]? =σ x:=by split at h;exact h;cases h
    split
    .exact e.zero
    .refine xv _ _ (λc j=>?_) ⟨Ω,Int.le_refl _⟩;obtain⟨v,_,rfl⟩:=n9.1 j;exact gC e h
  .exact e.zero
theorem rf {w:x3} {d:Int} {K:x1->Prop} (h:0<=d):aa x7 (aJ .rem cI false true (.int .u8 d) (.int .u8 6)) w K=K (.int .u8 (((d % 6).toNat:Nat):Int)):=by
 rw[pR Φ,Int.tmod_eq_emod_of_nonneg h];have:=Int.emod_nonneg d (show (6:Int)≠0 by decide);rw[Int.toNat_of_nonneg this]
theorem EX (h:hC w eY k sizes s) (P:bq k sizes s) (aN:dD s) (aO:a.ok):ai x7 Ga [eY,.agg a.bK.toArray] w λr w'=>r=Δ (ix k s a)/\Ext w w':=by
 have bA:=P.vars;have bB:=P.fU;have bC:=EW (a:=a) P;obtain⟨ap,bD⟩:=aO;refine aw func28 ?_;refine bm λg1 J bE aq aR=>?_;have aS:=h.box aq aR;refine bm λaT U bI au e=>?_;have e:ab U aT bF [.int .u8 a.d,Δ a.i,Δ a.pos,Δ a.v,Δ a.c,.bool a.lu]:=e;have R:=aS.ext au;have S:=aq.trans au;rw[aA bF.p 5 e rfl,bG];cases ax:a.lu with
 |false=>
  rw[W5,bS,aA bF.p 4 e rfl];exact⟨by unfold ix;rw[if_pos ax],S⟩
 |true=>
 rw[Y4,aY];obtain⟨szv,bJ,bL,bM,bN,bO,C,bP,_,az,bQ,aC,aW,bR⟩:=id R;rw[aA aE.p 2 C rfl];refine aU (λr w'=>r=Δ (hI k s a)/\Ext U w') ?_ λav G=>?_
 .rintro _ bU ⟨rfl,V⟩;generalize aZ:hI k s a=most at*;rw[aA bF.p 4 (e.ext V) rfl,fj al.u ft.u,aP,wrap_i64 Ω Ω,fj al.u ft.u,wrap_u64 (x:=most+2) Ω Ω];have W:U2.wrap a.c=a.c.emod 18446744073709551616:=rfl;rw[W];have aD:=Int.emod_nonneg a.c (show (18446744073709551616:Int)≠0 by decide);have a1:=Int.emod_lt_of_pos a.c (show (0:Int)<18446744073709551616 by decide);obtain⟨c,X⟩:∃c,a.c.emod 18446744073709551616=c:=⟨_,rfl⟩;have a2:a.c % 18446744073709551616=c:=X;rw[a2] at aD a1;rw[X,pR Ω,Int.tmod_eq_emod_of_nonneg aD];have a6:=Int.emod_nonneg c (show most+2≠0 by omega);have bV:=Int.emod_lt_of_pos c (show 0<most+2 by omega);have aF:ix k s a=if c % (most+2) % 3=0 then most else c % (most+2):=by unfold ix;rw[ax,aZ,X];rfl
  rw[pR Φ,Int.tmod_eq_emod_of_nonneg a6,bh,aj];refine⟨λz=>⟨by rw[aF,if_pos z],S.trans V⟩,λz=>?_⟩;rw[fj ft.u al.u,wrap_i64 Ω Ω];exact⟨by rw[aF,if_neg z],S.trans V⟩
 rw[aA bF.p 0 e rfl,rf ap.1];have bW:=a.EV;have aG:(a.d % 6).toNat=a.kind:=rfl;rw[aG];refine aU (λr w'=>r= .bool (decide (a.kind<2))/\U=w') ?_ λbX aH=>?_
 rotate_left
 .rw[bh,aj];refine⟨λz=>aH _ _ ⟨by rw[decide_eq_true z,decide_eq_true Ω],rfl⟩,λz=>?_⟩;rw[bh];refine aH _ _ ⟨?_,rfl⟩;congr 1;exact decide_eq_decide.2 ⟨λh=>Ω,λh=>Ω⟩
 rintro _ _ ⟨rfl,rfl⟩;rw[aj];refine⟨λI=>?_,λI=>?_⟩
 .refine R.load λu hu=>?_;rw[aA bF.p 1 e rfl,aA bF.p 2 e rfl,aA bF.p 3 e rfl];refine (EC hu P aN).mono ?_;rintro _ bY _ ⟨Y,rfl⟩;cases Z:dk s a.i a.pos a.v with
  |none=>
   simp only;rw[bx,bz];refine aU (λr w'=>r= .bool false/\Ext U w') ?_ λa7 aa=>?_
   .rintro _ a8 ⟨rfl,Q⟩;rw[aY];exact G _ _ ⟨by unfold hI;rw[if_pos I,Z],Q⟩
   .rw[aY];exact aa _ _ ⟨rfl,Y⟩
  |some q=>
  obtain⟨f,K,x⟩:=q;simp only;rw[bx,bz];obtain⟨j,pos,K,ba,bb,ac,be,bZ,bf,y,L,b0⟩:=ua Z;have A:hI k s a=if a.kind=1 then x.un.getD a.v.toNat 0 else iv k s f a.pos.toNat a.v:=by unfold hI;rw[if_pos I,Z]
  refine aU (λr w'=>r= .bool (decide (a.kind=1))/\Ext U w') ?_ λa7 aa=>?_
  rotate_left
  .rw[bS,aA bF.p 0 (e.ext Y) rfl,rf ap.1,aG,bh];refine aa _ _ ⟨?_,Y⟩;congr 1;exact decide_eq_decide.2 ⟨λh=>Ω,λh=>Ω⟩
  rintro _ a8 ⟨rfl,Q⟩;rw[aj];refine⟨λh1=>?_,λh1=>G _ _ ⟨by rw[A,if_neg h1],Q⟩⟩;intro b2 bg _ _;have H:=Q.trans bg;have ad:=(gA.1 L).1;obtain⟨ae,aJ⟩:=V7 ad.1;have B:=e.ext H;simp only[ba,bb,aJ] at B;rw[aA aE.p 5 (C.ext H) rfl,aA aE.p 6 (C.ext H) rfl,aA bF.p 1 B rfl];refine ia (i:=j) rfl dP.u db.i (bc aW H) (by rw[x8,be];rfl) λb o cs bi W=>?_;obtain⟨bj,b3,v3,rfl,bk,b4,b5⟩:=mS W;rw[aQ db.p rfl,aQ aV.p rfl,aB (v:=bj) Ψ (bi 0 _ rfl),aA bF.p 2 B rfl,bd am.u ah.i Ψ (cU bk) bf];refine gK (α:=Λ) (a:=x.un) (i:=K) rfl rfl cN.u ao.i Ψ (bc aC H) (by rw[x8,y];rfl) λaK M=>?_;rw[aA bF.p 3 B rfl,bd ao.u al.i Ψ (cU M) (getD_some (i:=ae) Ω)];exact G _ _ ⟨by rw[A,if_pos h1,aJ,r8],H⟩
 .rw[bh,aj];refine⟨λaf=>?_,λaf=>G _ _ ⟨by unfold hI;rw[if_neg I,if_neg Ω],Ext.refl _⟩⟩;have af:a.kind=2:=Ω
  have A:hI k s a=match (if 0<=a.i then s.vars[a.i.toNat]? else ν) with
   |none=>s.zero
   |some x=>if ay x=[] then s.zero else ((ay x).map λv=>x.un.getD v.toNat 0).foldl min k:=by
   unfold hI;rw[if_neg I,if_pos af]
  refine aU (λr w'=>Ext U w'/\((r= .bool false/\hI k s a=s.zero)\/(r= .bool true/\ ∃x,0<=a.i/\s.vars[a.i.toNat]? =σ x/\ay x≠[]))) ?_ λb6 aL=>?_
  .rintro _ bl ⟨E,⟨rfl,bn⟩|⟨rfl,x,aM,y,bo⟩⟩
   .rw[aY];exact G _ _ ⟨by rw[bn],E⟩
   .rw[bS];rw[if_pos aM,y] at A;simp only at A;rw[if_neg bo] at A;obtain⟨K,ac⟩:=V7 aM;rw[ac,r8] at y;have B:=e;simp only[ac] at B;rw[aA aE.p 0 (C.ext E) rfl,aA aE.p 3 (C.ext E) rfl,aA bF.p 1 (B.ext E) rfl];refine gK (α:=Λ) (a:=ay x) (i:=K) rfl rfl cK.u am.i Ψ (bc az E) (by rw[x8,y];rfl) λaK M=>?_;have ag:=cU M;rw[aX am.u ag];refine b1.range (ay x).length (λq r w'=>Ext bl w'/\r=Δ ((((ay x).take q).map λv=>x.un.getD v.toNat 0).foldl min k)) ag.le ⟨Ext.refl _,rfl⟩ ?_ ?_
    .rintro q _ bp br bt ⟨N,rfl⟩ bu;obtain⟨v,L⟩:=aI (l:=ay x) bt;have ad:=(gA.1 (x5 L)).1;obtain⟨ae,rfl⟩:=V7 ad.1;have ak:=E.trans N;refine bH Ω ?_;rw[bd am.u ah.i Ψ (ag.ext N) L,aA aE.p 5 (C.ext ak) rfl,aA bF.p 1 (B.ext ak) rfl];refine gK (α:=Λ) (a:=x.un) (i:=K) rfl rfl cN.u ao.i Ψ (bc aC ak) (by rw[x8,y];rfl) λb7 bw=>?_;rw[bd ao.u al.i Ψ (cU bw) (getD_some (i:=ae) Ω),kR,aP];refine bu _ _ ⟨N,?_⟩;rw[u9,L,o7,j6,List.foldl_append];rfl
    .rintro _ bp br ⟨N,rfl⟩;rw[o5];refine cd Ω ?_;exact G _ _ ⟨by rw[A],E.trans N⟩
  refine R.load λu hu=>?_;rw[aA bF.p 1 e rfl];refine (DY (i:=a.i) hu).mono ?_;rintro _ b8 _ ⟨rfl,O⟩;rw[aj];refine⟨λan=>?_,λan=>aL _ _ ⟨O,.inl ⟨rfl,?_⟩⟩⟩
  .obtain⟨x,y⟩:=aI (l:=s.vars) (i:=a.i.toNat) Ω;rw[aA aE.p 3 (C.ext O) rfl,aA bF.p 1 (e.ext O) rfl];refine gK (α:=Λ) (a:=ay x) (i:=a.i.toNat) rfl Ω cK.u am.i Ψ (bc az O) (by rw[x8,y];rfl) λaK M=>?_;rw[aX am.u (cU M),bT];refine aL _ _ ⟨O,?_⟩;by_cases he:ay x=[]
   .refine .inl ⟨by rw[he];rfl,?_⟩;rw[A,if_pos an.1,y];simp only;rw[if_pos he]
   .refine .inr ⟨?_,x,an.1,y,he⟩;congr 1;have:=List.length_pos_iff.2 he;exact decide_eq_true Ω
  .rw[A];by_cases z:0<=a.i
   .rw[if_pos z,Z3 Ω]
   .rw[if_neg z]
end
def od (A R:ag) (A9:Nat->ag) (aG:ag) (an:Nat) (r:Nat):Prop:=A r\/R r\/(∃q,A9 q r)\/aG r\/r=an
section
variable {P:ag} {gV w w':x3} {ac af an Q7 Q8 Q9:Nat} {A R aK R':ag} {A9 cJ:Nat->ag} {aG D2:ag} {n:aT} {s s':au} {t br:aC} {h h':List aC} {cs bt:List x1} {m cn:Nat}
variable {Z iy:ag}
end
structure fe (s s':au):Prop where
 vars:s'.vars.length=s.vars.length
 var:∀ (i:Nat) x y,s.vars[i]? =σ x->s'.vars[i]? =σ y->y.gone=x.gone/\y.un.length=x.un.length
 funs:s'.funs.length=s.funs.length
 fn:∀ (j:Nat) f g,s.funs[j]? =σ f->s'.funs[j]? =σ g->g.sc=f.sc/\g.ad=f.ad/\g.live=f.live/\g.cs.length=f.cs.length
 ce:s'.ce=s.ce
theorem fe.rfl {s:au}:fe s s:=⟨Eq.refl _,λ_ _ _ h1 a=>by rw[h1] at a;cases a;exact⟨Eq.refl _,Eq.refl _⟩,Eq.refl _,λ_ _ _ h1 a=>by rw[h1] at a;cases a;exact⟨Eq.refl _,Eq.refl _,Eq.refl _,Eq.refl _⟩,Eq.refl _⟩
theorem fe.trans {a b c:au} (h:fe a b) (k:fe b c):fe a c:=by
 refine⟨k.vars.trans h.vars,λi x z p A=>?_,k.funs.trans h.funs,λj f q r B=>?_,k.ce.trans h.ce⟩
 .have C:=(x4.1 p).1;have E:=h.vars;obtain⟨y,s⟩:=aI (l:=b.vars) (i:=i) Ω;have h1:=h.var i x y p s;have e:=k.var i y z s A;exact⟨e.1.trans h1.1,e.2.trans h1.2⟩
 .have C:=(x4.1 r).1;have E:=h.funs;obtain⟨g,w⟩:=aI (l:=b.funs) (i:=j) Ω;have h1:=h.fn j f g r w;have e:=k.fn j g q w B;exact⟨e.1.trans h1.1,e.2.1.trans h1.2.1,e.2.2.1.trans h1.2.2.1,e.2.2.2.trans h1.2.2.2⟩
section
variable {k:Int} {sizes:Λ} {s:au}
theorem xw {i:Nat} {x y:bi} (r:s.vars[i]? =σ x) (w:y.gone=x.gone) (z:y.un.length=x.un.length):fe s {s with vars:=s.vars.set i y}:=by
 refine⟨Z2,λj a b q h=>?_,rfl,λj f g h1 p=>?_,rfl⟩
 .have h:(s.vars.set i y)[j]? =σ b:=h;by_cases e:i=j
  .subst e;rw[j4 (x4.1 r).1] at h;rw[r] at q;cases q;cases h;exact⟨w,z⟩
  .rw[Y0 e,q] at h;cases h;exact⟨rfl,rfl⟩
 .have p:s.funs[j]? =σ g:=p;rw[h1] at p;cases p;exact⟨rfl,rfl,rfl,rfl⟩
theorem P8 {f g:b0} (w:s.funs[j]? =σ f) (h:g.sc=f.sc/\g.ad=f.ad/\g.live=f.live/\g.cs.length=f.cs.length):fe s {s with funs:=s.funs.set j g}:=by
 refine⟨rfl,λi a b r p=>?_,Z2,λq a b r p=>?_,rfl⟩
 .have p:s.vars[i]? =σ b:=p;rw[r] at p;cases p;exact⟨rfl,rfl⟩
 .have p:(s.funs.set j g)[q]? =σ b:=p;by_cases e:j=q
  .subst e;rw[j4 (x4.1 w).1] at p;rw[w] at r;cases r;cases p;exact h
  .rw[Y0 e,r] at p;cases p;exact⟨rfl,rfl,rfl,rfl⟩
theorem P9:fe s {s with zero:=c}:=⟨rfl,λ_ _ _ h1 a=>by have a:s.vars[_]? =σ _:=a;rw[h1] at a;cases a;exact⟨rfl,rfl⟩,rfl,λ_ _ _ h1 a=>by have a:s.funs[_]? =σ _:=a;rw[h1] at a;cases a;exact⟨rfl,rfl,rfl,rfl⟩,rfl⟩
theorem EY {i:Nat}:fe s (e5 s i v.toNat):=by
 cases a:s.vars[i]? with
 |none=>unfold e5;rw[a];exact .rfl
 |some x=>rw[mR a];exact xw a rfl rfl
theorem xx {i:Nat} {v:Int}:∀ (L:Λ) (s:au),fe s (fV s i v L)
 |[],_=>.rfl
 |w::L,s=>by
  unfold fV;split
  .exact EY.trans (xx L _)
  .exact xx L s
theorem EZ {u:Nat} {x:bi} {g z:Int->Int} (a:s.vars[u]? =σ x):fe s (fo s u x g z):=
 (xw (y:={x with un:=dj g x.un (ay x)}) a rfl (kA _ _)).trans P9
theorem E0 {u:Nat} {f:b0} {x:bi} {t un:Int->Int} (e:bq k sizes s) (a:s.funs[j]? =σ f) (h:s.vars[u]? =σ x):fe s (eu s j f pos u x v t un):=by
 obtain⟨_,p⟩:=i7 e (x5 a);have h1:fe s (dE s j f (c6 t (bW s f.sc pos v) f.ad f.cs)):=P8 a ⟨rfl,rfl,rfl,jV _ _ _ _ Ω⟩;exact h1.trans (xw (s:=dE s j f (c6 t (bW s f.sc pos v) f.ad f.cs)) (y:={x with un:=x.un.set v.toNat (un (x.un.getD v.toNat 0))}) h rfl Z2)
theorem Qa {m:fJ} (w:bq k sizes s):fe s (bp k s m).1:=by
 by_cases he:(bp k s m).2=0
 .generalize a:bp k s m=r at he ⊢;unfold bp at a;split at a
  .split at a
   .subst a;exact .rfl
   .rename_i f u x e;obtain⟨_,_,j,_,_,p⟩:=iw e;obtain⟨_,q,_,_⟩:=hE p;split at a
    .subst a;exact .rfl
    .subst a;simp only;exact E0 w j q
  split at a
  .split at a
   .subst a;exact .rfl
   .rename_i f u x e;obtain⟨_,_,j,_,_,p⟩:=iw e;obtain⟨_,q,_,_⟩:=hE p;split at a
    .subst a;exact .rfl
    .subst a;simp only;exact E0 w j q
  have key:∀ {x:bi},(if 0<=m.i then s.vars[m.i.toNat]? else ν)=σ x->s.vars[m.i.toNat]? =σ x:=λh=>by
   split at h
   .exact h
   .cases h
  split at a
  .split at a
   .subst a;exact .rfl
   .rename_i x e;split at a
    .subst a;exact .rfl
    .split at a
     .subst a;exact .rfl
     .subst a;simp only;exact EZ (key e)
  split at a
  .split at a
   .subst a;exact .rfl
   .rename_i x e;generalize (if ay x=[] then-1 else s.zero)=y at a;split at a
    .subst a;exact .rfl
    .split at a
     .subst a;exact .rfl
     .subst a;simp only;exact EZ (key e)
  split at a
  .split at a
   .subst a;exact .rfl
   .split at a
    .subst a;exact .rfl
    .subst a;exact EY
  .split at a
   .subst a;exact .rfl
   .subst a;exact xx _ _
 .rw[Ek he];exact .rfl
end
theorem xy (h:Laid w):0<w.heap.size:=by
 rcases S4 w.heap.size with e|e
 .have a:=h 0 _ rfl;unfold x3.cell? at a;rw[Array.getElem?_eq_none Ω] at a;cases a
 .exact e
def eI (Z aG:ag) (w:x3) (ac af an:Nat) (n:aT) (s:au):Prop:=∃A R A9 t cs,ck w ac af an A R A9 aG n s s t [] cs/\(Laid w/\¬Z 0)/\(dD s/\fe (du n) s/\n.funs.length<=256)/\(∀r,Z r↔od A R A9 aG an r)/\ ∀q r,A9 q r->r<w.heap.size
def kE (n:aT) (s:au) (a:dX):au:=(bp n.k s (hj n.k s a)).1
section
variable {Z aG S:ag} {w w' J:x3} {ac af an:Nat} {A R:ag} {A9:Nat->ag} {n:aT} {s u:au} {t:aC} {cs:List x1} {a:dX}
theorem eI.ext (h:eI Z aG w ac af an n s) (a:Ext w w'):eI Z aG w' ac af an n s:=by
 obtain⟨A,R,A9,t,cs,p,⟨e,f⟩,j,x,y⟩:=h;exact⟨A,R,A9,t,cs,p.ext a,⟨e.ext a,f⟩,j,x,λq r z=>by have:=y q r z;have:=a.size;omega⟩
theorem eI.lt (h:eI Z aG w ac af an n s):∀r,Z r->r<w.heap.size:=by
 obtain⟨A,R,A9,t,cs,p,_,_,e,f⟩:=h;intro r a;rcases (e r).1 a with a|a|⟨q,a⟩|a|a
 .exact tB p.eV r (.inl a)
 .exact tB p.eV r (.inr a)
 .exact f q r a
 .exact (p.read r a).2.1
 .subst a;exact p.box.lt
theorem eI.side (h:eI Z aG w ac af an n s) (e:ae S w w') (y:∀r,Z r->¬S r) (z:¬S 0):eI Z aG w' ac af an n s:=by
 obtain⟨A,R,A9,t,cs,p,⟨B,C⟩,E,j,F⟩:=h;refine⟨A,R,A9,t,cs,p.side e λr _ f=>?_,⟨jC e z B,C⟩,E,j,λq r f=>by have:=F q r f;have:=e.size;omega⟩;have a:∀ {x:Prop},(x->od A R A9 aG an r)->¬x:=λG h=>y r ((j r).2 (G h)) f;exact⟨a .inl,a λh=>.inr (.inl h),λq=>a λh=>.inr (.inr (.inl ⟨q,h⟩)),a λh=>.inr (.inr (.inr (.inl h))),a λh=>.inr (.inr (.inr (.inr h)))⟩
theorem eI.ok (h:eI Z aG w ac af an n s):bq n.k n.sizes s/\dD s/\fe (du n) s/\n.funs.length<=256:=by
 obtain⟨A,R,A9,t,cs,p,_,a,_⟩:=h;exact⟨p.eV.2.2.2.1,a⟩
theorem eI.look (h:eI Z aG w ac af an n s):ln w an n.k n.sizes s:=by
 obtain⟨A,R,A9,t,cs,p,_⟩:=h;exact p.look
theorem eI.eV (h:eI Z aG w ac af an n s):∃A R t,bV w ac af A R n s t/\Laid w/\¬A 0/\er t []:=by
 obtain⟨A,R,A9,t,cs,p,a,_,e,_⟩:=h;exact⟨A,R,t,p.eV,a.1,λh=>a.2 ((e 0).2 (.inl h)),p.iZ⟩
theorem eI.step {J U:x3} (p:ck w ac af an A R A9 aG n s u t [] cs) (f:∀r,Z r↔od A R A9 aG an r) {u':au} (F:dD u'/\fe (du n) u'/\n.funs.length<=256) (G:¬Z 0)
  (H:dJ w ac af an A R A9 aG n s t [] u' J) (j:Ext J w') (hm:eH w' ac af A R n u' U):ae (λr=>Z r/\¬aG r) w U/\ ∃iy,(∀r,iy r->Z r\/w.heap.size<=r)/\eI iy aG U ac af an n u':=by
 obtain⟨B,cJ,bt,I,K⟩:=H;obtain⟨x,L,aK,br,y,M,N,W⟩:=hm;have X:=B.size;have Y:=j.size;have z3:=x.size;have z:=I.ext j;have O:=z.prog x y M N (λ_ h=>.inl h) (λ_ _ _ h=>h) z.box.lt;have P:=p.Pj;have Q:ae (λr=>Z r/\¬aG r) w U:=(((B.mono (T:=λr=>Z r/\¬aG r) λr _ h=>⟨(f r).2 (h.elim (λh=>.inr (.inr (.inl h))) λh=>.inr (.inr (.inr (.inr h)))),h.elim (λ⟨q,h⟩=>P q r h) λh h'=>(p.read r h').2.2 h⟩)).trans (j.V _)).trans
  ((DZ y.1 x).mono λr _ h=>⟨(f r).2 (.inl h.1),λh'=>(z.read r h').1 h.2⟩)
 have aa:=p.box.lt;have e:∀ {r:Nat} {C:Prop},(C->od A R A9 aG an r)->C->Z r\/w.heap.size<=r:=λS h=>.inl ((f _).2 (S h));have E:∀r,od aK R (λq r=>cJ q r/\r<w'.heap.size) aG an r->Z r\/w.heap.size<=r:=by
  intro r a;rcases a with a|a|⟨q,a,_⟩|a|a
  .exact (y.2.1 r a).elim (e .inl) λh=>.inr Ω
  .exact e (λh=>.inr (.inl h)) a
  .exact (K q r a).elim (e λh=>.inr (.inr (.inl h))) .inr
  .exact e (λh=>.inr (.inr (.inr (.inl h)))) a
  .exact e (λh=>.inr (.inr (.inr (.inr h)))) a
 exact⟨Q,λr=>od aK R (λq r=>cJ q r/\r<w'.heap.size) aG an r,E,aK,R,_,br,bt,O,⟨L,λh=>(E 0 h).elim G λh=>Ω⟩,F,λr=>Iff.rfl,λq r a=>by have:=a.2;omega⟩
theorem Qb (h:dD s/\fe (du n) s/\n.funs.length<=256) (a:bq n.k n.sizes s) (m:fJ):dD (bp n.k s m).1/\fe (du n) (bp n.k s m).1/\n.funs.length<=256:=
 ⟨(O1 a h.1).2.1,h.2.1.trans (Qa a),h.2.2⟩
theorem Qc {m:fJ} (p:ck w ac af an A R A9 aG n s u t [] cs) (a:bq n.k n.sizes u) (e:dD u) (hk:m.kind<=5):ai x7 uS [Γ an,Δ (m.kind:Int),Δ m.i,Δ m.pos,Δ m.v,Δ m.c] w λr w'=>r=Δ (bp n.k u m).2/\dJ w ac af an A R A9 aG n s t [] (bp n.k u m).1 w':=by
 by_cases h:m.kind<2
 .exact PW p a e h
 .exact P7 p a ⟨Ω,hk⟩
theorem Qd {B:Nat} {U e:x3} {an:Nat} {j:x1} {cs:List x1} {f:b6} (w:tt B U j cs f) (x:Ext U e) (y:ab e an aE cs) (z:U.heap.size<=an) (K:B<=U.heap.size) (L:0<B) (C:Laid e):
  ∃ac af Z aG,j=Γ ac/\eI Z aG e ac af an (dt f) (du (dt f))/\ ∀r,Z r->B<=r:=by
 obtain⟨ac,af,A,R,A9,aG,t,rfl,p,_,E,F,_,_,G,_,H,I⟩:=Pg w x y z;have J:=p.olds;have s:∀r,od A R (λq r=>A9 q r/\r<e.heap.size) aG an r->B<=r:=by
  intro r a;rcases a with a|a|⟨q,a,_⟩|a|a
  .exact E r a
  .exact I r a
  .exact F q r a
  .exact H r a
  .omega
 exact⟨ac,af,_,aG,rfl,⟨A,R,_,t,cs,J,⟨C,λh=>by have:=s 0 h;omega⟩,⟨Pf _,fe.rfl,G⟩,λr=>Iff.rfl,λq r a=>a.2⟩,s⟩
end
def kF:Λ:=[116,32,50,32,50,32,49,32,57,32,49,32,50,32,50,32,48,32,49,32,48,32,50,32,48,32,48,32,51,32,48,32,49,32,53]
def hJ:b6:=⟨[116],9,[1,2],[⟨[0,1],[1,2],0,[([0,0],3),([0,1],5)]⟩]⟩
theorem Qe:gk kF=σ hJ:=by
 have h:(match gk kF with
  |some f=>decide (f.name=hJ.name/\f.k=hJ.k/\f.sizes=hJ.sizes)&&decide (f.funs.map (λx=>(x.scope,x.sizes,x.other,x.lines))=hJ.funs.map λx=>(x.scope,x.sizes,x.other,x.lines))
  |none=>false)=true:=by decide+kernel
 cases p:gk kF with
 |none=>rw[p] at h;cases h
 |some f=>
  rw[p] at h;simp only[U4,decide_eq_true_eq] at h;obtain⟨⟨h1,q,r⟩,e⟩:=h;obtain⟨nm,k,w,j⟩:=f;simp only at h1 q r e;subst h1;subst q;subst r;have:j=hJ.funs:=by
   have s:j.length=1:=by have:=congrArg T1 e;simpa[hJ] using this
   match j,s with
   |[x],_=>
    obtain⟨a,b,c,d⟩:=x;simp[hJ] at e;obtain⟨rfl,rfl,rfl,rfl⟩:=e;rfl
  subst this;rfl
theorem Qf:l0 hJ.funs<=16384:=by decide+kernel
def xz:fJ:=⟨0,0,0,0,3⟩
def oe:au:=(bp (dt hJ).k (du (dt hJ)) xz).1
theorem Qg:(bp (dt hJ).k (du (dt hJ)) xz).2=0:=by decide+kernel
theorem Qh:(hg oe 0 [0,0]).isSome=true/\l6 oe 0 [0,0]=0/\(hg oe 0 [0,1]).isSome=true/\l6 oe 0 [0,1]=2/\hZ oe 0 0=3:=by decide+kernel
theorem Qi:gw (dt hJ) 0 0:=by decide+kernel
theorem Qj (V:e1 w) (G:Laid w):ai x7 yP [] w λv w'=>v= .bool true/\Ext w w':=by
 refine aw func8 ?_;refine jj (k:=1) (cs:=(ints .u8 kF).toArray) cP.u cI.i Ω Ψ λg J aX e q=>?_;have H:ap .u8 cI J g (.slice (σ ⟨g,0,ν⟩) 35 35) kF:=ap.of (n:=35) (bQ.full (by simpa using q) (by simp[kF]) (by simp[maxLen]));refine Pe q λs I K=>?_;have e:Ext w s:=e.put I Ω;have W:aH .u8 s (.slice (σ ⟨g,0,ν⟩) 35 35) kF:=by
  obtain⟨X,b,o,base,cap,Y,Z,aa,ab,ad⟩:=H.ls;cases Y;cases ab (by simp[kF]);exact⟨X,g,0,_,35,rfl,Z,aa,λ_=>rfl,K _ _ ad⟩
 clear H q K I;refine (ES W (by intro b ae;simp[kF] at ae;omega) (V.ext e)).mono ?_;rintro _ U _ ⟨ag,ak,cs,ok,rfl,⟨al,ao⟩,aq,au⟩;have L:gk (kF.take 300)=σ hJ:=by
  rw[o9 Φ];exact Qe
 have ax:ok=true:=au hJ L Qf;subst ax;obtain⟨f,M,ac,af,A,R,t,N,A9,aG,aZ,rfl,ay,az,O,_⟩:∃f,gk (kF.take 300)=σ f/\tt s.heap.size U ak cs f:=by
  rcases aq with⟨h,_⟩|⟨_,h⟩
  .cases h
  .exact h
 rw[L] at M;cases M;have P:=e.trans ag;rw[h6,h7,h8];refine bB aE.i λan a1 a2 aA aB=>?_;refine b3 (vs:=cs) aE.i al rfl ao aB λaC aD a6 a7=>?_;have x:Ext U aC:=aA.put aD Ω;have aF:=ay.ext x;refine aU (λv y=>v= .bool false/\Ext w y/\ ∃aK br,bV y ac af aK R (dt hJ) oe br) ?_ ?_
 rotate_left
 .intro av z;rw[bG,Y4,aY];refine (EK (a:=xz) rfl aF (G.ext (P.trans x)) (λh=>by have:=O 0 h;have:=xy (G.ext e);omega) az.2.2.1).mono ?_;rintro _ a8 _ ⟨rfl,ba,bb,aK,br,aI,aJ,_⟩;rw[Qg,bL];refine z _ _ ⟨by congr 1,?_,aK,_,aJ⟩;exact (P.trans x).then aI.1 λr bc h=>by have:=O r h;have:=e.size;omega
 rintro _ y ⟨rfl,aL,aK,br,B⟩;rw[aY];obtain⟨aM,aN,aO,aP,aQ⟩:=Qh;refine pY (l:=[0,0]) am.u ah.i Ω rfl Ψ λbd be bf bg p aR=>?_;refine (qU (j:=0) (B.ext p) aR.ls).mono ?_;rintro _ bi _ ⟨rfl,C⟩;rw[if_pos aM,aN,bx,bz];refine pY (l:=[0,1]) am.u ah.i Ω rfl Ψ λbj bk bl bm E aS=>?_;refine (qU (j:=0) (((B.ext p).ext C).ext E) aS.ls).mono ?_;rintro _ bn _ ⟨rfl,Q⟩;rw[if_pos aO,aP,bx,bz];refine (n3 (i:=0) (v:=0) ((((B.ext p).ext C).ext E).ext Q)).mono ?_;rintro _ S _ ⟨rfl,aT⟩;have aV:hZ oe (0:Int).toNat (0:Int).toNat=3:=aQ;rw[if_pos Qi,aV,bx,bz];have aW:=((((aL.trans p).trans C).trans E).trans Q).trans aT;refine aU (λv S=>v= .bool true/\Ext w S) (λ_ _ h=>h) λav z=>?_;rw[bh,aj];refine⟨λ_=>?_,λh=>absurd rfl h⟩;rw[bh,aj];refine⟨λ_=>?_,λh=>absurd rfl h⟩;rw[bh];exact z _ _ ⟨rfl,aW⟩
def ub (s:au):Prop:=∀f∈s.funs,f.live≠0
theorem Qk (n:aT):ub (du n):=by
 intro f a;unfold du at a;obtain⟨g,_,rfl⟩:=n9.1 a;exact (by decide:(1:Int)≠0)
theorem Ql {a b:au} (h:fe a b) (k:ub a):ub b:=by
 intro g q;obtain⟨j,e⟩:=List.getElem?_of_mem q;have r:=(x4.1 e).1;obtain⟨f,p⟩:=aI (l:=a.funs) (i:=j) (by have:=h.funs;omega);rw[(h.fn j f g p e).2.2.1];exact k f (x5 p)
section
variable {w:x3} {ac af:Nat} {A R:ag} {n:aT} {s:au} {t:aC} {eY:x1}
end
section
variable {Z aG:ag} {w:x3} {ac af an:Nat} {n:aT} {s:au} {a:dX}
def xA (Z aG:ag) (w:x3) (ac af an:Nat) (n:aT) (s':au) (v:x1) (w':x3):Prop:=v= .bool true/\ae (λr=>Z r/\¬aG r) w w'/\ ∃iy,(∀r,iy r->Z r\/w.heap.size<=r)/\eI iy aG w' ac af an n s'
theorem xB (h:eI Z aG w ac af an n s) (L:a.ok):ai x7 uR [Γ ac,Γ an,.agg a.bK.toArray] w (xA Z aG w ac af an n (kE n s a)):=by
 obtain⟨A,R,A9,t,cs,p,⟨ag,E⟩,G,H,ak⟩:=id h;have I:=p.eV.2.2.2.1;have aC:=a.EV;have M:=L.1;refine aw func10 ?_;refine bm λga J aD N K=>?_;have K:ab J ga bF a.bK:=K;intro U O _ _;have P:=N.trans O;have Q:=K.ext O;rw[bZ];refine (p.ext P).look.load λeY am=>?_;rw[bD bF.p bF.i rfl Q.range];refine (EX am I G.1 L).mono ?_;rintro _ aE _ ⟨rfl,S⟩;rw[aQ bF.p rfl];have ao:=P.trans S;have aF:=N.size;refine bo (o:=0+4) al.i rfl rfl (Q.ext S) (by simp[dX.bK]) λW ap aH x=>?_;have x:ab W ga bF [.int .u8 a.d,Δ a.i,Δ a.pos,Δ a.v,Δ (ix n.k s a),.bool a.lu]:=x;have C:Ext w W:=ao.put ap Ω;have X:(a.d % 6).toNat=a.kind:=rfl;rw[aA bF.p 0 x rfl,rf M.1,X,fj cI.u ah.u,wrap_i64 Ω Ω,aA bF.p 1 x rfl,aA bF.p 2 x rfl,aA bF.p 3 x rfl,aA bF.p 4 x rfl];have aq:=Qb G I (hj n.k s a);have Y:=p.ext C;have aI:(hj n.k s a).kind=a.kind:=rfl;refine (Qc (m:=hj n.k s a) Y I G.1 Ω).mono ?_;rintro _ aa _ ⟨rfl,ad⟩;obtain⟨ae,aJ,aK,j,aL⟩:=id ad;have au:∀r,(∃q,A9 q r)\/r=an->r<w.heap.size:=λr e=>e.elim (λ⟨q,h⟩=>ak q r h) λh=>by rw[h];exact p.box.lt
 have f:=x.V ae λe=>by have:=au ga e;omega
 have y:Laid aa:=jC ae (λh=>E ((H 0).2 (h.elim (λh=>.inr (.inr (.inl h))) λh=>.inr (.inr (.inr (.inr h)))))) (ag.ext C);have z:¬A 0:=λh=>E ((H 0).2 (.inl h));have z4:=C.size;refine aU (oc aa ac af A R n s (hj n.k s a)) ?_ λav B=>?_
 .rintro _ aM ⟨rfl,ax⟩;obtain⟨ay,iy,az,aB⟩:=eI.step Y H aq E ad (Ext.refl _) ax;rw[bh,decide_eq_true rfl];exact⟨rfl,(C.V _).trans ay,iy,λr e=>(az r e).imp id λh=>Ω,aB⟩
 rw[aA bF.p 0 f rfl,rf M.1,X,bh,aj];refine⟨λhk=>?_,λaN=>?_⟩
 .rw[aA bF.p 1 f rfl,aA bF.p 2 f rfl,aA bF.p 3 f rfl,aA bF.p 4 f rfl];exact (EK (a:=hj n.k s a) Ω j.eV y z j.iZ).mono λr w' _ e=>B _ _ e
 rw[bh,aj];refine⟨λhk=>?_,λaO=>?_⟩
 .rw[aA bF.p 1 f rfl,aA bF.p 2 f rfl,aA bF.p 3 f rfl,aA bF.p 4 f rfl];exact (PS (a:=hj n.k s a) Ω j.eV y z j.iZ).mono λr w' _ e=>B _ _ e
 rw[bh,aj];refine⟨λhk=>?_,λaP=>?_⟩
 .rw[aA bF.p 1 f rfl,aA bF.p 4 f rfl];exact (PX (a:=hj n.k s a) Ω j.eV y z j.iZ).mono λr w' _ e=>B _ _ e
 rw[bh,aj];refine⟨λhk=>?_,λaR=>?_⟩
 .rw[aA bF.p 1 f rfl,aA bF.p 4 f rfl];exact (PZ (a:=hj n.k s a) Ω j.eV y z j.iZ).mono λr w' _ e=>B _ _ e
 rw[bh,aj];refine⟨λhk=>?_,λaS=>?_⟩
 .rw[aA bF.p 1 f rfl,aA bF.p 3 f rfl];exact (P0 (a:=hj n.k s a) Ω j.eV y z j.iZ).mono λr w' _ e=>B _ _ e
 .rw[aA bF.p 1 f rfl,aA bF.p 3 f rfl];exact (P1 (a:=hj n.k s a) Ω j.eV y z j.iZ).mono λr w' _ e=>B _ _ e
end
theorem Qm {p:x1} {B:x3->Prop} {K:x1->x1->x1->x3->Prop} (C:aH .u8 w p pl) (E:∀b∈pl,0<=b/\b<256) (s:e1 w) (e:Laid w) (G:∀g w',Ext w w'->K (.pointer ν) (Γ g) (.bool false) w')
  (H:∀f ac af an Z aG w',gk (pl.take 300)=σ f->Ext w w'->eI Z aG w' ac af an (dt f) (du (dt f))->(∀r,Z r->w.heap.size<=r)->K (Γ ac) (Γ an) (.bool true) w'):
  ai x7 yP [] w λI J=>
 aa x7 (Op.unary .not I) J λL=>
 Split L (B J)
  (ai x7 yQ [p] J λh U=>
 aa x7 (Z7 h 0) U λM=>
 aa x7 (Z7 h 1) U λN=>
 aa x7 (Z7 h 2) U λO=>
 ax x7 (T7 aE true (.tuple #[])) U λx y=>
 ax x7 (o8 aE x N) y λ(_:Unit) j=>K M x O j):=by
 refine (Qj s e).mono ?_;rintro _ J _ ⟨rfl,a⟩;rw[bG,Y4,aY];refine (ES (C.ext a) E (s.ext a)).mono ?_;rintro _ U _ ⟨z,aj,cs,ok,rfl,⟨P,Q⟩,R,_⟩;rw[h6,h7,h8];have S:=a.trans z;refine bB aE.i λan y ak V W=>?_;refine b3 (vs:=cs) aE.i P rfl Q W λj X al Y=>?_;have A:Ext U j:=V.put X Ω;have q:=S.trans A;rcases R with⟨rfl,rfl⟩|⟨rfl,f,ab,ad⟩
 .exact G _ _ q
 have am:=a.size;obtain⟨ac,af,Z,aG,rfl,ae,ag⟩:=Qd ad A Y Ω z.size (xy (e.ext a)) (e.ext q);exact H f ac af an Z aG _ ab q ae λr ah=>by have:=ag r ah;omega
def lv (w0 w:x3) (ac af an:Nat) (n:aT):Prop:=Ext w0 w/\ ∃s Z aG,eI Z aG w ac af an n s/\ ∀r,Z r->w0.heap.size<=r
section
variable {w0 w w':x3} {ac af an:Nat} {n:aT} {s:au} {Z aG:ag}
theorem lv.ext (h:lv w0 w ac af an n) (a:Ext w w'):lv w0 w' ac af an n:=by
 obtain⟨e,s,Z,aG,f,j⟩:=h;exact⟨e.trans a,s,Z,aG,f.ext a,j⟩
theorem xA.ext {v:x1} (h:xA Z aG w ac af an n s v w') (a:Ext w0 w) (e:∀r,Z r->w0.heap.size<=r):v= .bool true/\Ext w0 w'/\ ∃iy,(∀r,iy r->w0.heap.size<=r)/\eI iy aG w' ac af an n s:=by
 obtain⟨rfl,j,iy,p,q⟩:=h;have z:=a.size;exact⟨rfl,a.then j λr f h=>by have:=e r h.1;omega,iy,λr f=>(p r f).elim (e r) λh=>Ω,q⟩
theorem lv.do {a:dX} (h:lv w0 w ac af an n) (e:a.ok):ai x7 uR [Γ ac,Γ an,.agg a.bK.toArray] w λv w'=>v= .bool true/\lv w0 w' ac af an n:=by
 obtain⟨f,s,Z,aG,j,p⟩:=h;refine (xB j e).mono λv w' _ q=>?_;obtain⟨rfl,r,iy,x,y⟩:=q.ext f p;exact⟨rfl,r,_,iy,aG,y,x⟩
theorem Qn {e:x1} {L:List kD} {K:x1->x3->Prop} {i:Nat} {x:kD} (j:Seen dg w [e] L) (q:L[i]? =σ x) (r:∀g w',Ext w w'->w.heap.size<=g->ab w' g bF (mb x).bK->K (Γ g) w'):
  aa x7 (c7 nl e (Δ (i:Int))) w λs=>
  aa x7 (u5 bF s) w λy=>
  ax x7 (T7 bF true (.tuple #[])) w λa f=>
  ax x7 (o8 bF a y) f λ(_:Unit) h=>K a h:=by
 refine kj (α:=kD) bF.p rfl nl.u bF.i j q λcs z=>?_;obtain rfl:=ET z;refine bB bF.i λgy f F A B=>?_;refine b3 (vs:=(mb x).bK) bF.i rfl rfl (dX.one _) B λh C G E=>?_;exact r _ _ (A.put C Ω) Ω E
theorem Qo {r:x1} {L:List kD} {K:x3->Prop} (h:lv w0 w ac af an n) (e:Seen dg w0 [r] L) (H:∀x∈L,(mb x).ok) (I:∀w',lv w0 w' ac af an n->K w'):
  aa x7 (W7 #[nl] ah #[r]) w λJ=>
 ch (Δ 0) w λj a k=>
  aa x7 (aJ .lss ah false false j J) a λM=>
  Split M (cm (α:=x3->Prop) (λ(y:x3)=>
   aa x7 (aJ .add ah false true j (Δ 1)) y λN=>
   k N y) λz=>
  aa x7 (c7 nl r j) a λO=>
  aa x7 (u5 bF O) a λP=>
  ax x7 (T7 bF true (.tuple #[])) a λb A=>
  ax x7 (o8 bF b P) A λ(_:Unit) q=>
  aa x7 (aJ .lss ah false true j (Δ 12)) q λQ=>
  Split Q (aa x7 (u5 bF b) q λR=>
   ai x7 uR [Γ ac,Γ an,R] q λY B=>
   z B)
   (z q))
   (K a):=by
 rw[fA nl.u (bc e h.1)];refine ch.range L.length (λi s=>lv w0 s ac af an n) (nv e) h ?_ ?_
 .rintro i s S hi f U;obtain⟨x,C⟩:=aI (l:=L) hi;have V:=H x (x5 C);refine bH Ω ?_;refine dm (λa=>lv w0 a ac af an n) (λa W=>by rw[aP];exact U _ W) λav E=>?_;refine Qn (bc e f.1) C λgy A G _ X=>?_;rw[aR,aj];refine⟨λ_=>?_,λ_=>E _ (f.ext G)⟩;rw[bD bF.p bF.i rfl X.range];exact ((f.ext G).do V).mono λv B _ e=>E _ e.2
 .rintro s S f;exact cd Ω (I _ f)
end
theorem eI.live {Z aG:ag} {ac af an:Nat} {n:aT} {s:au} (h:eI Z aG w ac af an n s):ub s/\s.funs.length<=256:=by
 obtain⟨_,_,a,e⟩:=h.ok;refine⟨Ql a (Qk n),?_⟩;rw[a.funs];unfold du;rw[u7];exact e
theorem Qp {n:aT} {s:au} {i:Nat} {x:bi} (h:fe (du n) s) (e:s.vars[i]? =σ x):x.gone=0:=by
 obtain⟨y,a⟩:=aI (l:=(du n).vars) (i:=i) (by have:=(x4.1 e).1;have:=h.vars;omega);rw[(h.var i y x a e).1];unfold du at a;simp only[x8,Y7] at a;obtain⟨u,_,rfl⟩:=a;rfl
section
variable {w:x3} {n:aT} {ac af an:Nat}
end
theorem Qq {P:W3} {t:r9} {K:x1->Prop}:∀ {d:Int},0<=d->d<6->aa P (aJ .xor t false true (.int .u8 d) (.int .u8 1)) w K=K (.int .u8 (if d % 2=0 then d+1 else d-1)):=by
 intro d a e;have:d=0\/d=1\/d=2\/d=3\/d=4\/d=5:=Ω
 rcases this with rfl|rfl|rfl|rfl|rfl|rfl<;>exact aa.of λw' _=>by rfl
theorem E1 {α:Type} [ak α] {m:Bool} {S R:ag} {v:x1} {l:List α} (h:ak.rep m S R w [v] l):∃vs,h9 false dg (λ_ _=>False) w vs l/\bX w (ak.n α) v l.length vs.flatten:=by
 obtain⟨vs,g,F,_,he,I,_⟩:=hQ h;exact⟨vs,⟨he.1,λi c a e f=>gU (he.2 i c a e f)⟩,I.sl⟩
theorem Qr {α:Type} [ak α] {v:x1} {l:List α} {vs:List (List x1)} (he:h9 false dg (λ_ _=>False) w vs l) (I:bX w (ak.n α) v l.length vs.flatten):Seen dg w [v] l:=
 ⟨_,rfl,vs,0,λ_ _=>False,⟨λ_ _ h=>h.elim,(λh=>by cases h),λh=>by cases h⟩,he,I.IR.mono λ_ _ _=>.inr trivial,λh=>by cases h⟩
theorem Qs {α:Type} [ak α] {l l':List α} {vs us:List (List x1)} (h:h9 false dg (λ_ _=>False) w vs l) (k:h9 false dg (λ_ _=>False) w us l'):h9 false dg (λ_ _=>False) w (vs++us) (l++l'):=by
 refine⟨by rw[p8,p8,h.1,k.1],λi c a e f=>?_⟩;by_cases hi:i<l.length
 .rw[Z8 (by rw[h.1];exact hi)] at e;rw[Z8 hi] at f;exact h.2 i c a e f
 .rw[Z9 (by rw[h.1];omega),h.1] at e;rw[Z9 Ω] at f;exact k.2 _ c a e f
theorem E2 {α:Type} [ak α] {l:List α} {vs:List (List x1)} (h:h9 false dg (λ_ _=>False) w vs l) (e:Ext w w'):h9 false dg (λ_ _=>False) w' vs l:=⟨h.1,λi c a f j=>bc (h.2 i c a f j) e⟩
theorem Qt {s:x1} {n:Nat} {xs:List x1} (h1:bX w 1 s n xs) (f:∀u∈xs,u.oneCell'=true) (B:n<=1000000):
  ai x7 yT [s] w λv w'=>Ext w w'/\ ∃g,w.heap.size<=g/\bQ w' g ao 1 v n xs:=by
 have j:=h1;obtain⟨p,C,E,G,H,rfl,I,K,q,L⟩:=h1;refine aw func29 ?_;rw[pS cN.u,bY];refine⟨λe=>⟨Ext.refl _,w.heap.size,o4 _,?_⟩,λ_=>?_⟩
 .have:n=0:=by
   rcases S4 n with h|h
   .exact h
   .rw[q h] at e;cases e
  subst this;have:xs=[]:=b9 (by simpa using p);rw[this];exact bQ.nil _ _ _ _
 .refine jj cN.u ao.i Ω (cs:=#[]) Ψ ?_;intro g J M a x;refine lR (g:=g) cN.u cN.u ao.i rfl (bQ.full x rfl Ω) (j.ext a) f Ω (by simp only[maxLen];omega) ?_;intro N y U O z A;refine⟨a.then A (by rintro r P rfl;omega),y,?_,?_⟩
  .have:=a.size;omega
  .simpa using z
theorem Qu {q:x3->Prop} {dC eb:x1} {a e:List (Λ)} {K:x1->x3->Prop} (h1:Seen dg w [dC] a) (s:Seen dg w [eb] e) (H:a.length<=100/\e.length<=100)
  (x:∀v w',Ext w w'->Seen dg w' [v] (a++e)->K v w'):
  ai x7 yT [dC] w λy f=>
   (Ext w f\/q f)/\
  ax x7 (b8 #[cN,cN] cN #[y,eb]) f λz A=>K z A:=by
 obtain⟨vs,he,I⟩:=E1 h1;obtain⟨us,p,B⟩:=E1 s;refine (Qt I he.one Ω).mono ?_;rintro L J _ ⟨h,g1,M,C⟩;refine⟨.inl h,?_⟩;refine lR (g:=g1) cN.u cN.u ao.i rfl C (B.ext h) p.one Ω (by simp only[maxLen];omega) ?_;intro N O U P E G;have j:Ext w U:=h.then G λr Q he=>by have he:r=g1:=he;omega
 refine x _ _ j (Qr (vs:=vs++us) (Qs (E2 he j) (E2 p j)) ?_);rw[List.flatten_append,p8];exact E.sl
def pv (eh ew:Nat) (aG:ag) (w:x3) (c4:Nat) (n:aT) (s:au):Prop:=(∃cs a,ab w c4 aE cs/\gv true a aG w cs n.k n.sizes s/\ ∀q r,a q r->eh<=r/\r<ew)/\eh<=c4/\c4<ew
def lx (eh ew:Nat) (aG:ag) (w:x3) (c4:Nat) (ff:x1) (n:aT) (s:au):Prop:=pv eh ew aG w c4 n s/\ ∃g,ap .i64 al w g ff (lq s)/\ ∀r,leads ff r->eh<=r/\r<ew
section
variable {eh ew c4:Nat} {aG S Z:ag} {w w':x3} {ff:x1} {n:aT} {s:au} {ac af an:Nat}
theorem pv.V (h:pv eh ew aG w c4 n s) (e:ae S w w') (f:∀r,S r->¬aG r/\(r<eh\/ew<=r)):pv eh ew aG w' c4 n s:=by
 obtain⟨⟨cs,p,x,y,j⟩,z⟩:=h;refine⟨⟨cs,p,x.V e λh=>by have:=(f c4 h).2;omega,y.V e λr _ a h=>?_,j⟩,z⟩;have I:=f r h;rcases a with⟨q,a⟩|a
 .have:=j q r a;omega
 .exact I.1 a
theorem pv.look (h:pv eh ew aG w c4 n s):ln w c4 n.k n.sizes s:=by
 obtain⟨⟨cs,f,a,e,j⟩,_⟩:=h;exact hC.box e.Dw (Ext.refl _) a
theorem lx.V (h:lx eh ew aG w c4 ff n s) (a:ae S w w') (e:∀r,S r->¬aG r/\(r<eh\/ew<=r)):lx eh ew aG w' c4 ff n s:=by
 obtain⟨j,g,hm,f⟩:=h;exact⟨j.V a e,g,bn hm a λr p h=>by have:=(e r h).2;have:=f r p;omega,f⟩
theorem lx.ext (h:lx eh ew aG w c4 ff n s) (a:Ext w w'):lx eh ew aG w' c4 ff n s:=h.V (a.V λ_=>False) λ_ h=>h.elim
theorem lx.look (h:lx eh ew aG w c4 ff n s):ln w c4 n.k n.sizes s:=h.1.look
theorem E3 (h:fe (du n) s):q8 s:=λx a=>by
 obtain⟨i,hi⟩:=List.getElem?_of_mem a;exact .inl (Qp h hi)
theorem eI.facts (h:eI Z aG w ac af an n s):ai x7 rN [Γ ac] w λv w'=>Ext w w'/\ ∃g,ap .i64 al w' g v (lq s)/\ ∀r,leads v r->w.heap.size<=r:=by
 obtain⟨_,_,a,_⟩:=h.ok;obtain⟨A,R,t,f,j,_⟩:=h.eV;have he:s.ce=[]:=a.ce;exact Po f j (λe h=>by rw[he] at h;cases h) (by have:=h.live.2;omega) (by rw[he];exact X3 _)
theorem Qv {K:x1->x1->x3->Prop} (h:eI Z aG w ac af an n s) (aA:∀ff c4 w',Ext w w'->lx w.heap.size w'.heap.size aG w' c4 ff n s->K ff (Γ c4) w'):
  cm (α:=x1->x1->x3->Prop) (λ(ff before:x1) (aB:x3)=>K ff before aB) λP=>
 eo w λy=>
 aa x7 (u5 aE (Γ an)) y λz=>
 (ai x7 rN [Γ ac] y λt50 L=>
  (Ext y L\/ci x7 (u5 aE (Γ an)) z L/\True)/\
 (ai x7 pL [z] L λaC aD=>
  ax x7 (T7 aE true (.tuple #[])) aD λaj Q=>
   (Ext y Q\/ci x7 (u5 aE (Γ an)) z Q/\True)/\
  ax x7 (o8 aE aj aC) Q λ(_:Unit) aF=>
   P t50 aj aF)/\
  (ax x7 (T7 aE true (.tuple #[])) L λak S=>
  (Ext y S\/ci x7 (u5 aE (Γ an)) z S/\True)/\
  ai x7 pL [z] S λaH aI=>
   ax x7 (o8 aE ak aH) aI λ(_:Unit) aJ=>
   P t50 ak aJ))/\
 (ax x7 (T7 aE true (.tuple #[])) y λam W=>
  (Ext y W\/ci x7 (u5 aE (Γ an)) z W/\True)/\
 ai x7 rN [Γ ac] W λaK X=>
  (Ext y X\/ci x7 (u5 aE (Γ an)) z X/\True)/\
  ai x7 pL [z] X λaL aM=>
   ax x7 (o8 aE am aL) aM λ(_:Unit) aN=>
   P aK am aN):=by
 obtain⟨aO,_,aP,_⟩:=h.ok;have a1:=h.live.2;have he:s.ce=[]:=aP.ce;refine iB (λff before w'=>Ext w w'/\ ∃c4,before=Γ c4/\lx w.heap.size w'.heap.size aG w' c4 ff n s) ?_ λav aQ=>?_
 .rintro ff _ w' ⟨E,c4,rfl,M⟩;exact aA _ _ _ E M
 intro J H _ _;have h1:=h.ext H;have a2:=H.size;obtain⟨A,R,A9,t,cs,p,_⟩:=id h1;obtain⟨aR,a6⟩:=bu.len p.doc;have aS:∀ {w':x3},Ext J w'-> ∀r,aG r->r<w'.heap.size:=λE r a=>by have:=(p.read r a).2.1;have:=E.size;omega
 rw[bD aE.p aE.i aR p.box.range];have copy:∀ {w':x3},Ext J w'->ai x7 pL [.agg cs.toArray] w' λv ao=>Ext w' ao/\ ∃A bt,v= .agg bt.toArray/\gv true A aG ao bt n.k n.sizes s/\ ∀q r,A q r->w'.heap.size<=r:=λE=>OT (p.doc.ext E) (aS E) aO Ω (by rw[he];exact X3 _);have Y:∀ {x:x3} {c4 g:Nat} {ff:x1} {bt ad:List x1} {G:Nat->ag},Ext w x->J.heap.size<=c4->ab x c4 aE ad->ad.length=8->ap .i64 al x g ff (lq s)->(∀r,leads ff r->w.heap.size<=r/\r≠c4)->gv true G aG x bt n.k n.sizes s->(∀q r,G q r->r<x.heap.size->w.heap.size<=r/\r≠c4)->
   ax x7 (o8 aE (Γ c4) (.agg bt.toArray)) x λ(_:Unit) I=>av ff (Γ c4) I:=λ{x c4 g ff bt ad G} e ae M aT hm aq B C=>by
  obtain⟨aU,aV⟩:=bu.len B;have a7:=M.lt;refine b3 (vs:=bt) aE.i aU (by rw[aT]) aV M λI N a8 ah=>?_;have z4:=N.size;have aW:=bu.V (bu.old B) N λr a h h'=>by
   have h':r=c4:=h';rcases h with⟨q,h,aX⟩|h
   .exact (C q r h aX).2 h'
   .have:=(p.read r h).2.1;omega
  refine aQ _ _ _ ⟨e.then N λr a h=>by have h:r=c4:=h;omega,c4,rfl,⟨⟨bt,_,ah,aW,λq r a=>⟨(C q r a.1 a.2).1,by have:=a.2;omega⟩⟩,Ω,Ω⟩,g,bn hm N λr a h=>(aq r a).2 h,λr a=>⟨(aq r a).1,?_⟩⟩;have:=bP hm a;omega
 refine⟨?_,?_⟩
 .refine h1.facts.mono ?_;rintro ff U _ ⟨f,ba,O,au⟩;refine⟨.inl f,?_,?_⟩
  .refine (copy f).mono ?_;rintro _ x _ ⟨e,G,bt,rfl,B,C⟩;refine bB aE.i λc4 I ae j ah=>?_;refine⟨.inl ((f.trans e).trans j),?_⟩;have aw:=f.size;have z3:=e.size;refine Y (((H.trans f).trans e).trans j) Ω ah rfl ((O.ext e).ext j) (λr a=>⟨by have:=au r a;omega,by have:=bP O a;omega⟩) (bu.ext (bu.old B) j) λq r a _=>⟨by have:=C q r a.1;omega,by have:=a.2;omega⟩
  .refine bB aE.i λc4 x ae e ay=>?_;refine⟨.inl (f.trans e),?_⟩;have aw:=f.size;have bb:=ay.lt;refine (copy (f.trans e)).mono ?_;rintro _ I _ ⟨j,G,bt,rfl,B,C⟩;have z3:=e.size;exact Y (((H.trans f).trans e).trans j) Ω (ay.ext j) rfl ((O.ext e).ext j) (λr a=>⟨by have:=au r a;omega,by have:=bP O a;omega⟩) B λq r a _=>by have:=C q r a;exact⟨Ω,Ω⟩
 .refine bB aE.i λc4 U ae f az=>?_;refine⟨.inl f,?_⟩;have bc:=az.lt;refine (h1.ext f).facts.mono ?_;rintro ff x _ ⟨e,bd,aY,aZ⟩;refine⟨.inl (f.trans e),?_⟩;have aw:=f.size;have z3:=e.size;refine (copy (f.trans e)).mono ?_;rintro _ I _ ⟨j,G,bt,rfl,B,C⟩;exact Y (((H.trans f).trans e).trans j) Ω ((az.ext e).ext j) rfl (aY.ext j) (λr a=>by have:=aZ r a;exact⟨Ω,Ω⟩) B λq r a _=>by have:=C q r a;exact⟨Ω,Ω⟩
end
theorem Qw {k:Int} {sizes:Λ} {s:au} {a:dX} (e:bq k sizes s) (f:a.ok): -9223372036854775808<=ix k s a/\ix k s a<9223372036854775808:=by
 have hk:=e.fU;have hm:=EW (a:=a) e;unfold ix;split
 .exact f.2
 split
 .omega
 .have h:=Int.emod_nonneg (a.c.emod 18446744073709551616) (show hI k s a+2≠0 by omega);have h1:=Int.emod_lt_of_pos (a.c.emod 18446744073709551616) (show 0<hI k s a+2 by omega);omega
theorem back_eq {n:aT} {s:au} {a b:dX} (f:bq n.k n.sizes s) (hk:a.kind<4) (j:b.kind=i9 a.kind/\b.i=a.i/\b.pos=a.pos/\b.v=a.v/\b.c=ix n.k s a/\b.lu=false) (p:kE n s a≠s) (q:q3 n.k (kE n (kE n s a) b)):kE n (kE n s a) b=s:=by
 have he:(bp n.k s (hj n.k s a)).2=0:=by
  by_cases h:(bp n.k s (hj n.k s a)).2=0
  .exact h
  .exact absurd (Ek h) p
 obtain⟨r,w,x,y,z,A⟩:=j;have e:hj n.k (kE n s a) b={hj n.k s a with kind:=i9 (hj n.k s a).kind}:=by
  have B:ix n.k (kE n s a) b=b.c:=by unfold ix;rw[if_pos A]
  unfold hj;rw[B,r,w,x,y,z]
 have h:=(Pa (m:=hj n.k s a) f hk he).2;rw[<-e] at h;exact h q
theorem Qx {p a1:x1} {L:List kD} {a:dX} {Q:x1->x3->Prop} (aa:∀w',Ext w w'->Q (.bool true) w') (bP:aH .u8 w p pl) (bQ:∀b∈pl,0<=b/\b<256) (bR:Seen dg w [a1] L) (bU:∀x∈L,(mb x).ok) (bV:a.ok) (bW:e1 w) (a2:Laid w):
  ai x7 yO [p,a1,.agg a.bK.toArray] w Q:=by
 have de:=xy a2;obtain⟨bX,bZ⟩:=id bV;refine aw func6 ?_;refine bm λga J df C ad=>?_;have ad:ab J ga bF [.int .u8 a.d,Δ a.i,Δ a.pos,Δ a.v,Δ a.c,.bool a.lu]:=ad;have dh:=ad.lt;refine Qm (bP.ext C) bQ (bW.ext C) (a2.ext C) ?_ ?_
 .intro g w' ax;rw[bG,W5,bS,dn dO.u];exact aa _ (C.trans ax)
 intro f ac af an Z aG di a6 b0 b2 b4;rw[bG,Y4,aY];refine Qo (w0:=J) ⟨b0,_,Z,aG,b2,b4⟩ (bc bR C) bU ?_;rintro dj ⟨ay,s,dk,dl,az,ae⟩;generalize dt f=n at*;obtain⟨H,b5,b6,_⟩:=az.ok;have dm:=az.live.2;have a7:=ad.ext ay;rw[aA bF.p 0 a7 rfl,rf bX.1,aQ bF.p rfl];refine bo (o:=0+0) cI.i rfl rfl a7 Ξ λa8 aC dq ag=>?_;have b7:(((a.d % 6).toNat:Nat):Int)=a.d % 6:=Int.toNat_of_nonneg (Int.emod_nonneg _ Φ);have b8:=Int.emod_lt_of_pos a.d (show (0:Int)<6 by decide);have ba:=Int.emod_nonneg a.d (show (6:Int)≠0 by decide);obtain⟨a0,I⟩:∃a0:dX,a0=⟨a.d % 6,a.i,a.pos,a.v,a.c,a.lu⟩:=⟨_,rfl⟩;have aD:a0.ok:=by rw[I];exact⟨⟨ba,by show a.d % 6<256;omega⟩,bZ⟩
 have b9:(a0.kind:Int)=a.d % 6:=by
  rw[I];unfold dX.kind;show (((a.d % 6 % 6).toNat:Nat):Int)=a.d % 6;omega
 rw[b7] at ag;have ag:ab a8 ga bF [.int .u8 (a.d % 6),Δ a.i,Δ a.pos,Δ a.v,Δ a.c,.bool a.lu]:=ag;have aF:=az.side aC (λr E h=>by have:=ae r E;have h:r=ga:=h;omega) (λh=>by have h:0=ga:=h;omega);have ca:Ext w a8:=(C.trans ay).then aC λr E h=>by have h:r=ga:=h;omega
 have bb:=aF.lt;refine Qv aF ?_;intro ff c4 dr ah cb;have bd:=ag.ext ah;have cc:=aF.ext ah;have ce:=ca.trans ah;have z12:=ah.size;have ds:=aC.size;have be:(x1.agg #[V0 .u8 (a.d % 6),Δ a.i,Δ a.pos,Δ a.v,Δ a.c,.bool a.lu])= .agg a0.bK.toArray:=by rw[I];rfl
 rw[bD bF.p bF.i rfl bd.range];have bf:=xB cc aD;rw[<-be] at bf;refine bf.mono ?_;rintro _ cg _ ⟨rfl,aJ,ch,bg,ak⟩;have bi:=cb.V aJ λr h=>⟨h.2,.inl (bb r h.1)⟩;have ci:=bd.V aJ λh=>by have:=ae ga h.1;omega
 have cj:Ext w cg:=ce.then aJ λr E h=>by have:=ae r h.1;have:=C.size;omega
 obtain⟨ck,du,cl,_⟩:=ak.ok;have dv:=ak.live.2;have cm:∀r,ch r->w.heap.size<=r/\r≠ga:=λr E=>by
  have:=C.size;have:=ay.size;rcases bg r E with h|h
  .have:=ae r h;exact⟨Ω,Ω⟩
  .exact⟨Ω,Ω⟩
 rw[bG,Y4,aY];refine ak.look.load λdC cn=>?_;refine bi.look.load λeb cp=>?_;refine (Pu cn cp ck H (E3 cl) (E3 b6) ⟨Ω,Ω⟩).mono ?_;rintro _ dw _ ⟨rfl,al⟩;have aK:=ak.ext al;have aL:=bi.ext al;have bj:=cj.trans al;rw[aj];refine⟨λcq=>?_,λcr=>?_⟩
 .refine aK.facts.mono ?_;rintro v dx _ ⟨bk,g,hm,_⟩;obtain⟨_,ct,aM,_⟩:=aL.ext bk;refine (vf hm.ls aM.ls).mono ?_;rintro _ dy _ ⟨rfl,cu⟩;rw[decide_eq_true cq];exact aa _ ((bj.trans bk).trans cu)
 have bl:=ci.ext al;refine aL.look.load λdz cw=>?_;rw[bD bF.p bF.i rfl bl.range];have bn:=EX cw H b5 aD;rw[<-be] at bn;refine bn.mono ?_;rintro _ cz _ ⟨rfl,aN⟩;have P:=bl.ext aN;have cA:=bj.trans aN;obtain⟨j,R⟩:∃j,j=(if a.d % 6 % 2=0 then a.d % 6+1 else a.d % 6-1):=⟨_,rfl⟩;obtain⟨K,G⟩:∃b:dX,b=⟨j,a.i,a.pos,a.v,ix n.k s a0,false⟩:=⟨_,rfl⟩;have cB:0<=j/\j<6:=by rw[R];split<;>omega
 have cC:K.ok:=by rw[G];exact⟨⟨cB.1,by show j<256;omega⟩,Qw H aD⟩
 rw[aA bF.p 0 P rfl,Qq ba b8,<-R,aA bF.p 1 P rfl,aA bF.p 2 P rfl,aA bF.p 3 P rfl,dp (cs:=#[.int .u8 j,Δ a.i,Δ a.pos,Δ a.v,Δ (ix n.k s a0),.bool false]) Ψ];have cD:(x1.agg #[V0 .u8 j,Δ a.i,Δ a.pos,Δ a.v,Δ (ix n.k s a0),.bool false])= .agg K.bK.toArray:=by rw[G];rfl
 rw[cD];refine bB bF.i λdA dD dE cE cF=>?_;refine b3 (vs:=K.bK) bF.i rfl rfl (dX.one _) cF λcG cH dF cJ=>?_;have aO:Ext cz cG:=cE.put cH Ω;have bp:=cA.trans aO;have bq:=aN.trans aO;rw[aA bF.p 0 (P.ext aO) rfl,bT,aj];refine⟨λ_=>aa _ bp,λdG=>?_⟩;have cK:a0.kind<4:=Ω
 rw[bD bF.p bF.i rfl cJ.range];have dH:=aK.lt;refine (xB (aK.ext bq) cC).mono ?_;rintro _ cL _ ⟨rfl,br,dI,dJ,am⟩;have cM:=(aL.ext bq).V br λr h=>⟨h.2,(bg r h.1).elim (λh=>.inl (bb r h)) .inr⟩;have cO:Ext w cL:=bp.then br λr E h=>by have:=(cm r h.1).1;omega
 obtain⟨bt,dK,cP,_⟩:=am.ok;have cQ:=am.live.2;have cR:kE n s a0≠s:=λh=>cr (by rw[h]);have bu:=back_eq (a:=a0) (b:=K) H cK ⟨by
   have:(K.kind:Int)=j:=by rw[G];unfold dX.kind;show (((j % 6).toNat:Nat):Int)=j;omega
   have M:a0.kind=0\/a0.kind=1\/a0.kind=2\/a0.kind=3:=Ω
   rw[<-b9] at R;rcases M with M|M|M|M<;>rw[M] at R ⊢<;>unfold i9<;>simp at R ⊢<;>omega,by rw[G,I],by rw[G,I],by rw[G,I],by rw[G],by rw[G]⟩ cR
 obtain⟨q,cS⟩:∃q,kE n (kE n s a0) K=q:=⟨_,rfl⟩;rw[cS] at bu am bt cP cQ;rw[bG,Y4,aY];intro dL aR _ _;have bw:=am.ext aR;have bx:=cM.ext aR;obtain⟨szv,dM,dN,dQ,dR,dS,bz,_,_,dT,dU,cT,cV,dV⟩:=id bw.look;obtain⟨dW,dY,dZ,ea,ec,ev',cW,_,_,ed,ee,cX,ef,eg⟩:=id bx.look;rw[aA aE.p 5 bz rfl,aA aE.p 5 cW rfl];have eh:=bt.vars;have ei:=H.vars;have ej:=H.fb.2.1;refine Qu cT cX (by rw[u7,u7];omega) λv bA ap aS=>?_;have cY:=(cO.trans aR).trans ap;have bC:=bz.ext ap;rw[fA cN.u aS];refine b1.range (q.vars.map (·.un)++s.vars.map (·.un)).length (λi top S=>Ext bA S/\ ∃b,top= .bool b/\(b=false-> ∀l∈(q.vars.map (·.un)++s.vars.map (·.un)).take i,n.k∉l)) (nv aS) ⟨Ext.refl _,false,rfl,λ_ l N=>by simp at N⟩ ?_ ?_
 .rintro i _ S aT hi ⟨z,b,rfl,aq⟩ aW;obtain⟨l,N⟩:=aI (l:=(q.vars.map (·.un)++s.vars.map (·.un))) hi;refine bH Ω ?_;refine aU (λr w'=>Ext bA w'/\ ∃e,r= .bool e/\(e=false->b=false/\n.k∉l)) ?_ λav A=>?_
  .rintro _ ek ⟨cZ,e,rfl,O⟩;rw[aP];refine aW _ _ ⟨cZ,e,rfl,λh y B=>?_⟩;rw[u9,N,o7,l7,l9] at B;rcases B with B|rfl
   .exact aq (O h).1 y B
   .exact (O h).2
  refine gK (α:=Λ) (a:=l) rfl rfl cN.u ao.i Ψ (bc aS z) N λu hu=>?_;rw[bY];refine⟨λ_=>A _ _ ⟨z,true,rfl,λh=>by cases h⟩,λU=>?_⟩;rw[aA aE.p 0 (bC.ext z) rfl];refine (vG (x:=n.k) (cU hu)).mono ?_;rintro _ em _ ⟨rfl,c0⟩;exact A _ _ ⟨z.trans c0,_,rfl,λh=>⟨U,of_decide_eq_false h⟩⟩
 rintro _ S aT ⟨z,b,rfl,aq⟩;rw[o5] at aq;refine cd Ω ?_;have au:=bC.ext z;have bE:=bc cV (ap.trans z);rw[aA aE.p 6 au rfl,fA dP.u bE,u7];refine b1.range q.funs.length (λi top aX=>Ext S aX/\ ∃e,top= .bool e/\(e=false->b=false/\ ∀f∈q.funs.take i,n.k∉f.cs)) Ω ⟨Ext.refl _,b,rfl,λh=>⟨h,λl N=>by simp at N⟩⟩ ?_ ?_
 .rintro i _ aX aT hi ⟨W,c1,rfl,bI⟩ aW;obtain⟨f2,bJ⟩:=aI (l:=q.funs) hi;refine bH Ω ?_;refine aU (λr w'=>Ext S w'/\ ∃e,r= .bool e/\(e=false->c1=false/\n.k∉f2.cs)) ?_ λav A=>?_
  .rintro _ en ⟨c2,e,rfl,O⟩;rw[aP];refine aW _ _ ⟨c2,e,rfl,λh=>⟨(bI (O h).1).1,λy B=>?_⟩⟩;rw[u9,bJ,o7,l7,l9] at B;rcases B with B|rfl
   .exact (bI (O h).1).2 y B
   .exact (O h).2
  intro eo c3 _ _;have X:=W.trans c3;rw[bY];refine⟨λ_=>A _ _ ⟨X,true,rfl,λh=>by cases h⟩,λU=>?_⟩;rw[aA aE.p 6 (au.ext X) rfl];refine ia (i:=i) rfl dP.u db.i (bc bE X) (by rw[x8,bJ];rfl) λb o cs E Y=>?_;obtain⟨ep,er,v3,rfl,es,et,c5⟩:=mS Y;rw[aQ db.p rfl,aQ aV.p rfl,aB (v:=v3) Ψ (E 2 _ rfl),aA aE.p 0 (au.ext X) rfl];refine (vG (x:=n.k) (cU c5)).mono ?_;rintro _ eu _ ⟨rfl,c6⟩;exact A _ _ ⟨X.trans c6,_,rfl,λh=>⟨U,of_decide_eq_false h⟩⟩
 rintro _ aX aT ⟨W,ev,rfl,bL⟩;rw[o5] at bL;refine cd Ω ?_;have aZ:=(cY.trans z).trans W;refine aU (λr w'=>r= .bool true/\Ext w w') (λ_ w' h=>by rw[h.1];exact aa _ h.2) λav A=>?_;rw[bY];refine⟨λ_=>A _ _ ⟨rfl,aZ⟩,λU=>?_⟩;obtain⟨c7,c8⟩:=bL U;have bM:=au.ext W;rw[aA aE.p 2 bM rfl,aA aE.p 0 bM rfl,bh,aj];refine⟨λ_=>A _ _ ⟨rfl,aZ⟩,λc9=>?_⟩;have da:q3 n.k q:=⟨c9,λx ax c Y he=>aq c7 x.un (l7.2 (.inl (n9.2 ⟨x,ax,rfl⟩))) (he▸Y),λf a6 c Y he=>c8 f a6 (he▸Y)⟩;have dc:=bu da;have bN:=(ap.trans z).trans W;refine (bw.ext bN).facts.mono ?_;rintro ew ey _ ⟨bO,g,hm,_⟩;obtain⟨_,ct,aM,_⟩:=(bx.ext bN).ext bO;refine (vf hm.ls aM.ls).mono ?_;rintro _ ez _ ⟨rfl,dd⟩;exact A _ _ ⟨by rw[dc,decide_eq_true rfl],(aZ.trans bO).trans dd⟩
theorem Qy {R:ag} {a:Array x1} {y:kD} (h:Seen R w a.toList y):x1.agg a= .agg (mb y).bK.toArray:=by rw[<-ET h,Array.toArray_toList]
theorem Qz {p a:x1} {L:List kD} {e:Array x1} {y:kD} (f:aH .u8 w p pl) (h:∀b∈pl,0<=b/\b<256) (j:Seen dg w [a] L) (q:∀x∈L,(mb x).ok) (r:Seen dg w e.toList y) (s:(mb y).ok) (z:e1 w) (A:Laid w):
  ai x7 yO [p,a,.agg e] w λv w'=>v= .bool true/\Ext w w':=by
 rw[Qy r];exact Qx (λw' B=>⟨rfl,B⟩) f h j q s z A
end Go.Proofs.YtjjhhcfgfdepdaaGreatDoor
