/- own texts, made small by a tool (wip/ holds them as they were written): no statement of the seat. -/
import Derived.Test.YtlcdcbgoaljiiaaGreatDoorYb
set_option linter.unusedVariables false
set_option linter.unusedSimpArgs false
set_option linter.unnecessarySimpa false
open Array renaming getElem?_eq_some_iff→Y1
open Bool renaming false→sp,true→s2,not_true→Y7,not_false→X5,eq_iff_iff→U1,or_eq_false_iff→T4,and_eq_true→T9
open Decidable renaming not_not→X1
open Go renaming Value→x4,World→x5,TypeId→o4,IntKind→o8,Builtin→Z2,Program→X8,FuncId→S8
open Go.Addr renaming add_mid→U8
open Go.Builtin renaming append_→c9,len_→X7
open Go.Instr renaming loadAt→u5,fieldAt→u6,storeAt→o7,indexAt→n9,extract→Z7,buildSlice→Y3,sliceAt→V5
open Go.IntKind renaming i64→X4
open Go.Proofs.Tryz renaming prog→x8
open Go.Value renaming int→V3
open Int renaming toNat_natCast→u7,le_refl→T3
open List renaming getElem?_eq_some_iff→x6,mem_of_getElem?→x7,getElem?_eq_getElem→v8,getElem?_map→u4,take_add_one→u9,getD_eq_getElem?_getD→r8,length_map→r9,replicate→o5,take_length→o9,mem_map→l9,take_of_length_le→j5,length_append→j6,mem_append→j9,eq_nil_of_length_eq_zero→b8,map_append→Z0,length_take→Z3,getElem?_set_self→Z6,length_set→Y0,ext_getElem?→Y2,mem_singleton→Y4,mem_iff_getElem?→Y5,getElem?_set_ne→Y8,range→Y9,drop_eq_getElem_cons→X2,getElem?_append_right→X3,getElem?_set→X6,length_eq_one_iff→X9,length_cons→W0,getElem?_eq_none→W7,getElem?_take_of_lt→V1,pairwise_iff_getElem→V8,getElem?_append_left→V9,map_set→U2,mem_or_eq_of_mem_set→U5,set_append_right→U7,flatMap_cons→T0,append_assoc→T1,append_nil→T5,Perm→S0,getElem_mem→S3,mem_filter→S6
open Nat renaming le_refl→o6,le_trans→X0,zero_le→W3,zero_add→V0,mul_le_mul_right→V4,sub_self→V7,mul_one→U3,add_mul→T7
open Option renaming toList_some→j4,isNone_some→b9,map_eq_some_iff→Z9,map_some→Y6,map→V6,isSome_some→T8,isSome_none→S4
open Option.some renaming inj→Z5,injEq→W6
open Prod.mk renaming injEq→R2
set_option maxHeartbeats 16000000
open Option renaming some→σ,none→ν
variable{I w w0:x5}{cs:List x4}{B N a af ag gs j n r:Nat}{an l d6 t:Λ}{k y:Int}{bv bx sv v z:x4}{K:x4->Prop}{S:Nat->Prop}{e:o4}
namespace Go.Proofs.YtlcdcbgoaljiiaaGreatDoor
open Go Go.Vc Go.RowKit Go.Proofs Go.Proofs.Tryz
set_option maxRecDepth 100000
theorem OL{S R:aj}{f:iB}(h:aw.rep sp S R w cs f):aw.rep (α:=iB) s2 bU R w cs f:=by
 obtain⟨c,d,A,B,rfl,h1,j,_,a,e⟩:=h;exact⟨c,d,bU,bU,rfl,λ_ h=>h,λ_ h=>h,λ_ _ h _=>h,a,e⟩
def uO(k:Int)(a:List cI)(e:List iB):Prop:=e.length=a.length/\∀(i:Nat)x f,a[i]?=σ x->e[i]?=σ f->su k x f
theorem OM{e:Nat}{m:Bool}{S R:aj}{V hv ag:x4}{K:Int}{q:List cI}{aE:x5->Prop}(aF:ak w e cM [V,Δ K,hv,.slice ν 0 0])(aV:aw.rep m S R w [ag] (show List jU from q.map iX))(aX:∀r,S r\/R r->r≠e)(aY:∀x∈q,uN K x)(bP:q.length<=256)(a1:∀I z,∀s:List iB,ai (λr=>r=e) w I->ak I e cM [V,Δ K,hv,z]->Seen (λr=>w.heap.size<=r) I [z] s->uO K q s->aE I):
  b3 (Δ 0) w λam E a2=>
   ad x8 (aS .lss al sp sp am (Δ (q.length:Int))) E λa6=>
   Split a6 (ad x8 (n9 kA ag am) E λa7=>
   ad x8 (u5 cu a7) E λa8=>
   aL x8 (Instr.alloc cu s2 (.tuple #[])) E λx ba=>
   aL x8 (o7 cu x a8) ba λ(_:Unit)bb=>
   et bb λC=>
   ad x8 (b0 (Γ e)) C λG=>
   ad x8 (u6 cM G 3) C λH=>
   ad x8 (u5 dT H) C λan=>
   ad x8 (u5 cu x) C λbc=>
   aq x8 wO [(Γ e),bc] C λbd J=>
    (Ext C J\/cc x8 (u5 dT H) an J/\cc x8 (u6 cM G 3) H J/\cc x8 (b0 (Γ e)) G J/\True)/\
   aL x8 (Y3 dT 1 #[(0,bd)]) J λbe L=>
    (Ext C L\/cc x8 (u5 dT H) an L/\cc x8 (u6 cM G 3) H L/\cc x8 (b0 (Γ e)) G L/\True)/\
    aL x8 (c9 #[dT,dT] dT #[an,be]) L λbf ap=>
     ad x8 (b0 (Γ e)) ap λbg=>
     ad x8 (u6 cM bg 3) ap λbh=>
     aL x8 (o7 dT bh bf) ap λ(_:Unit)aG=>
     ad x8 (aS .add al sp s2 am (Δ 1)) aG λbi=>
   a2 bi aG) (aE E):=by
 have bQ:=aF.lt;have bR:(q.map iX).length=q.length:=Ξ
 refine b3.range q.length (λi U=>ai (λr=>r=e) w U/\∃z,∃s:List iB,∃A R':aj,ak U e cM [V,Δ K,hv,z]/\bw A R' U [z] s/\(∀r,A r->w.heap.size<=r/\r<U.heap.size)/\(∀r,R' r->w.heap.size<=r/\¬A r/\r<U.heap.size)/\uO K (q.take i) s) Ω
  ⟨ai.refl _ _,_,[],bU,bU,aF,gx,λ_ h=>h.elim,λ_ h=>h.elim,rfl,λi x f h=>by simp at h⟩ ?_ ?_
 rotate_left
 .rintro U bj ⟨M,z,s,A,R',N,aC,B,O,W⟩;rw[o9]at W;rw[aW,ao];refine⟨λh=>Ω,λ_=>a1 U z s M N (qx aC λr _ h=>?_) W⟩;exact h.elim (λh=>(B r h).1) λh=>(O r h).1
 rintro i U bj hi ⟨M,z,s,A,R',N,aC,B,O,aH,W⟩ bk;obtain⟨x,au⟩:=aJ (l:=q) hi;have bl:=aY x (x7 au);have bS:=M.size;rw[Z3]at aH;have bm:aw.rep m S R U [ag] (show List jU from q.map iX):=aw.aa aV M λr _ h he=>aX r h he;refine bK Ω ?_;refine nH (α:=jU) (a:=iX x) cu.p rfl kA.u cu.i bm (by show(q.map iX)[i]?=_;rw[u4,au];rfl) λcs ax=>?_;have aI:cs.length=4:=aw.len ax;have bn:Seen (λr=>S r\/R r) U cs (iX x):=qx ax λr _ h=>h;refine bF cu.i λav ab bT aK bo=>?_;have bW:=aK.size;refine cd (vs:=cs) cu.i aI rfl (aw.one ax) bo λbp bq bX br=>?_;have bt:Ext U bp:=aK.put bq Ω;intro X aM _ _;have P:=bt.F aM;have z4:=P.size;rw[aO cM.p 3 (N.W P) rfl,bI cu.p cu.i aI (br.W aM).range];refine(OK (N.W P) (bD bn P) bl).Y ?_;rintro _ Y _ ⟨Z,bJ,f,rfl,bY,ah,bu⟩;have z5:=Z.size;refine⟨.inl Z,?_⟩;have aN:=OL ah;have bx:=P.F Z;refine jL (α:=iB) (a:=f) (cs:=bJ) (A:=bU) (R:=e4 X.heap.size) dT.u cR.i Φ (by
  obtain⟨c,d,bZ,b1,he,_,_,_,ac,bz⟩:=ah;have ac:aw.rep (α:=Λ) sp bU _ Y c f.1:=ac;obtain⟨u,rfl⟩:=X9.1 (show c.length=1 from aw.len ac);obtain⟨b2,bV,b4,b6,rfl,_⟩:=bz;obtain⟨_,_,_,rfl⟩:=nM ac;cases he;rfl) aN λu ay ae _ hu=>?_
 have b7:=ae.size;refine⟨.inl (Z.F ae),?_⟩;have az:=bx.F ae;have bA:bw A (λr=>R' r\/(X.heap.size<=r/\r<Y.heap.size)) ay [z] s:=bD (aw.Y aC (λ_ _ h=>h) λ_ _ h=>.inl h) az;have bB:bw bU (λr=>R' r\/(X.heap.size<=r/\r<Y.heap.size)) ay bJ f:=bD (aw.Y aN (λ_ _ h=>h) λr y h=>.inr ⟨h,y⟩) ae;refine oj (α:=iB) (a:=f) (A:=bU) dT.u cR.i rfl bA hu bB (λr _ aP h=>?_) Ω Ω λaQ bC aA aB=>?_
 .rcases h with h|h|h
  .exact h
  .exact (O r h).2.1 aP
  .have:=(B r aP).2;omega
 have b8:=aB.size;rw[b5,aZ cM.p rfl];have bE:=(N.W az).aa aB (λhe=>by have:=(B _ he).1;omega);refine bs (g:=e) (o:=3) dT.i (lO aA) (k6 aA) bE Ξ λbG aR b9 aD=>?_;have aD:ak bG e cM [V,Δ K,hv,aQ]:=aD;rw[aT];have bH:=nE aA;refine bk _ ⟨(iU (M.F (az.aa _)) aB λr y he=>by have:=(B _ he).1;omega).F aR,aQ,s++[f],λr=>((A r\/bU r\/ay.heap.size<=r)/\r<bC.heap.size),λr=>R' r\/(X.heap.size<=r/\r<Y.heap.size),aD,aw.aa bH aR λr _ h he=>?_,λr y=>?_,λr y=>?_,?_,λj bL bM af Q=>?_⟩
 .have he:r=e:=he;rcases h with h|h|h
  .rcases h.1 with h1|h1|h1
   .have:=(B _ h1).1;omega
   .exact h1
   .omega
  .have:=(O r h).1;omega
  .omega
 .have ca:=y.2;rcases y.1 with h1|h1|h1
  .have:=(B _ h1).1;omega
  .exact h1.elim
  .omega
 .rcases y with y|y
  .have aU:=O r y;refine⟨aU.1,λh=>?_,Ω⟩;rcases h.1 with h1|h1|h1
   .exact aU.2.1 h1
   .exact h1
   .omega
  .refine⟨Ω,λh=>?_,Ω⟩;rcases h.1 with h1|h1|h1
   .have:=(B _ h1).2;omega
   .exact h1
   .omega
 .rw[j6,Z3,aH];simp;omega
 .have bN:=(x6.1 Q).1;rw[j6,List.length_singleton]at bN;rw[V1 Ω]at af;by_cases bO:j<s.length
  .rw[V9 bO]at Q;exact W j bL bM (by rw[V1 Ω];exact af) Q
  .rw[X3 Ω,show j-s.length=0 by omega]at Q;rw[show j=i by omega,au]at af;cases Q;cases af;exact bu
def mO(w:x5)(h:Nat)(f:cg):Prop:=∃hv a gz,∃e:List iB,ak w h cM [ch f.name,Δ f.k,hv,a]/\aH .i64 al w gz hv f.d6/\Seen fB w [a] e/\uO f.k f.ho e
theorem mO.W{f:cg}(h:mO w a f)(J:Ext w I):mO I a f:=by
 obtain⟨hv,e,gz,j,h1,q,r,s⟩:=h;exact⟨hv,e,gz,j,h1.W J,q.W J,bD r J,s⟩
def D0(w:x5)(h:Option cg)(v:x4)(I:x5):Prop:=Ext w I/\match h with
 |none=>∃n e:Int,v= .tuple #[.pointer ν,Δ n,Δ e]/\e≠0
 |some f=>∃a,∃n:Int,v= .tuple #[Γ a,Δ n,Δ 0]/\mO I a f
structure ON(clean:Bool)(so:Option aN)(name:Λ)(k:Int)(d6:Λ)(acc:List jU)(res:Option cg):Prop where
 qR:∀s,so=σ s->s.hp=[]->clean=s2->s.big=sp->∃fs,acc=fs.map iX/\res=σ ⟨name,k,d6,fs⟩/\(∀x∈fs,uN k x)/\fs.length<=256/\d6.length<=1000000
 bad:res≠ν->∃s,so=σ s/\s.hp=[]/\clean=s2/\s.big=sp
theorem OO{g:Nat}{A B S R:aj}{m N:Bool}{so:Option aN}{name:Λ}{acc:List jU}{L:Option cg}{hv aE p:x4}{pl:Λ}{Q:x4->x5->Prop}(aG:iW w g gs A B N so)(P:ON N so name k d6 acc L)(bo:aQ .i64 w hv d6)(bp:∀r,lc hv r->r≠g/\r≠gs)(bq:aw.rep m S R w [aE] acc)(a6:∀r,S r\/R r->r≠g/\r≠gs/\r<w.heap.size)(cY:so=ν->True)(cZ:g<w.heap.size)(c0:gs<w.heap.size)(bs:ai (λr=>w0.heap.size<=r) w0 w)(c1:w0.heap.size<=g)(c2:w0.heap.size<=gs)(ae:aQ .u8 w0 p pl)(Z:∀v I,D0 w0 L v I->Q v I):
  cG (α:=x5->Prop) (λ(j:x5)=>
  ad x8 (b0 (Γ g)) j λbt=>
  ad x8 (u6 cK bt 1) j λbu=>
  ad x8 (u6 fk bu 0) j λbw=>
  ad x8 (u5 k0 bw) j λbx=>
  ad x8 (aS .neq k0 sp s2 bx (Δ 0)) j λbz=>
  Split bz (et j λG=>
   ad x8 (b0 (Γ g)) G λbA=>
   ad x8 (u6 cK bA 1) G λbB=>
   ad x8 (u6 fk bB 2) G λbC=>
   ad x8 (u5 al bC) G λbE=>
   ad x8 (b0 (Γ g)) G λbF=>
   ad x8 (u6 cK bF 1) G λbG=>
   ad x8 (u6 fk bG 0) G λbH=>
   ad x8 (u5 k0 bH) G λbI=>
   Q (.tuple #[(.pointer ν),bE,bI]) G)
   (ad x8 (b0 (Γ g)) j λbJ=>
   ad x8 (u6 cK bJ 1) j λbK=>
   ad x8 (u6 fk bK 1) j λbL=>
   ad x8 (u5 k0 bL) j λbM=>
   ad x8 (aS .neq k0 sp s2 bM (Δ 0)) j λbN=>
   Split bN (et j λH=>
   ad x8 (b0 (Γ g)) H λbP=>
   ad x8 (u6 cK bP 1) H λbQ=>
   ad x8 (u6 fk bQ 3) H λbR=>
   ad x8 (u5 al bR) H λbS=>
   ad x8 (b0 (Γ g)) H λbU=>
   ad x8 (u6 cK bU 1) H λbV=>
   ad x8 (u6 fk bV 1) H λbW=>
   ad x8 (u5 k0 bW) H λbX=>
   Q (.tuple #[(.pointer ν),bS,bX]) H)
   (aq x8 A2 [hv] j λbY a7=>
  ad x8 (Instr.build cM #[(0,ch name),(1,Δ k),(2,bY)]) a7 λbZ=>
  aL x8 (Instr.box cM bZ) a7 λV a8=>
  ad x8 (X7 #[kA] al #[aE]) a8 λb1=>
  b3 (Δ 0) a8 λaH W b2=>
   ad x8 (aS .lss al sp sp aH b1) W λb4=>
   Split b4 (ad x8 (n9 kA aE aH) W λb6=>
   ad x8 (u5 cu b6) W λb7=>
   aL x8 (Instr.alloc cu s2 (.tuple #[])) W λx b8=>
   aL x8 (o7 cu x b7) b8 λ(_:Unit)b9=>
   et b9 λO=>
   ad x8 (b0 V) O λaf=>
   ad x8 (u6 cM af 3) O λag=>
   ad x8 (u5 dT ag) O λaI=>
   ad x8 (u5 cu x) O λca=>
   aq x8 wO [V,ca] O λcb ah=>
    (Ext O ah\/cc x8 (u5 dT ag) aI ah/\cc x8 (u6 cM af 3) ag ah/\cc x8 (b0 V) af ah/\True)/\
   aL x8 (Y3 dT 1 #[(0,cb)]) ah λcd am=>
    (Ext O am\/cc x8 (u5 dT ag) aI am/\cc x8 (u6 cM af 3) ag am/\cc x8 (b0 V) af am/\True)/\
    aL x8 (c9 #[dT,dT] dT #[aI,cd]) am λce aJ=>
     ad x8 (b0 V) aJ λcf=>
     ad x8 (u6 cM cf 3) aJ λci=>
     aL x8 (o7 dT ci ce) aJ λ(_:Unit)bc=>
     ad x8 (aS .add al sp s2 aH (Δ 1)) bc λcj=>
   b2 cj bc)
    (ad x8 (X7 #[cV] al #[p]) W λck=>
  Q (.tuple #[V,ck,(Δ 0)]) W)))) λax=>
 aq x8 ml [(Γ g)] w λcl an=>
 Split cl (ad x8 (b0 (Γ g)) an λcm=>
  ad x8 (u6 cK cm 0) an λcn=>
  ad x8 (u5 tM cn) an λcp=>
  aq x8 wN [cp] an λaK M=>
  ad x8 (Z7 aK 0) M λc3=>
  ad x8 (Z7 aK 1) M λbd=>
  ad x8 (Z7 aK 2) M λaM=>
  ad x8 (aS .eql k0 sp s2 aM (Δ 0)) M λcq=>
  Split cq (aq x8 pd [(Γ g),(Δ 4),bd] M λc4 cr=>
  ax cr)
  (ad x8 (aS .eql k0 sp s2 aM (Δ 11)) M λct=>
  Split ct (aq x8 pd [(Γ g),aM,bd] M λc5 cw=>
   ax cw)
   (ax M)))
  (ax an):=by
 refine dd (λj=>ai (λr=>r=g\/r=gs) w j/\∃(e big J K m1:Int)(sv:x4),ak j g cK (jp gs e big J K m1 sv)/\((e≠0/\L=ν)\/(e=0/\∃s,so=σ s/\s.hp=[]/\N=s2/\(s.big=s2↔big≠0)))) ?_ ?_
 rotate_left
 .intro az aP;refine(DC aG).Y ?_;rintro _ U _ ⟨rfl,ap⟩;cases so with
  |none=>
   rw[show(ν:Option aN).isSome=sp from rfl,bb];obtain⟨e,big,J,K,m1,sv,y,aR⟩:=aG.W ap;refine aP _ ⟨ap.aa _,e,big,J,K,m1,sv,y,.inl ⟨aR,?_⟩⟩;cases C:L with
   |none=>rfl
   |some f=>obtain⟨s,h,_⟩:=P.bad (by rw[C];simp);cases h
  |some s=>
   rw[show(σ s:Option aN).isSome=s2 from rfl,bT];have cz:=aG.W ap;obtain⟨ay,cA,cB,big,J,K,m1,sv,y,aR,cC⟩:=id cz;rw[aO cK.p 0 y rfl];refine(r3 cA).Y ?_;rintro v ab _ ⟨X,ac⟩;have cD:(s.hp≠[]\/N=sp)->L=ν:=λq=>by
    cases C:L with
    |none=>rfl
    |some f=>
     obtain⟨s',h,au,be,_⟩:=P.bad (by rw[C];simp);cases h;rcases q with q|q
     .exact m6 au q
     .rw[q]at be;cases be
   have aA:∀E,ai (λr=>r=g) ab E->fo E g gs A B->(s.hp≠[]\/N=sp)->az E:=λE av aA q=>by
    obtain⟨_,e,big,J,K,m1,sv,l,cE,cF,_⟩:=aA;exact aP _ ⟨((ap.aa _).F (X.Y λr _ h=>.inr h)).F (av.Y λr _ h=>.inl h),e,big,J,K,m1,sv,cE,.inl ⟨cF.1,cD q⟩⟩
   have aT:=y.aa X ay.1;have bf:=aw.aa cC X λr _ h au=>by
    have au:r=gs:=au;subst au;rcases h with h|h
    .exact ay.2.2.1 h
    .exact h.1 (.inr (.inl rfl))
   have bg:s.m2.length<=100000:=by have:=cB.2.2;omega
   cases Y:s.hp with
   |cons t l=>
    rw[Y]at ac;obtain⟨c6,n,rfl⟩:=ac;rw[fN,fO,fP,bl,ao];refine⟨λ_=>?_,λh=>m6 rfl h⟩;refine(uk (ay.aa X) aT bf Ω bg).Y ?_;rintro _ E _ ⟨av,aU⟩;exact aA E av aU (.inl (by rw[Y];simp))
   |nil=>
    rw[Y]at ac;obtain⟨n,rfl⟩:=ac;rw[fN,fO,fP,bl,ao];refine⟨λh=>by cases N<;>simp at h,λ_=>?_⟩;rw[bl,ao];cases aB:N with
    |true=>
     subst aB;refine⟨λh=>by simp at h,λ_=>aP _ ⟨(ap.aa _).F (X.Y λr _ h=>.inr h),0,big,J,K,m1,sv,aT,.inr ⟨rfl,s,rfl,Y,rfl,aR.1⟩⟩⟩
    |false=>
     subst aB;refine⟨λ_=>?_,λh=>m6 rfl h⟩;refine(uk (ay.aa X) aT bf Ξ bg).Y ?_;rintro _ E _ ⟨av,aU⟩;exact aA E av aU (.inr rfl)
 .rintro U ⟨aC,e,big,J,K,m1,sv,y,cH⟩;have c7:=aC.size;have aV:=(bs.W λr C h=>Ω).then aC (λr C h=>by rcases h with h|h<;>omega);rw[b5,aZ cK.p rfl,aZ fk.p rfl,aF Ψ (y.cell rfl),bO,ao];rcases cH with⟨he,aW⟩|⟨rfl,s,rfl,Y,aB,bh⟩
  .refine⟨λ_=>?_,λh=>m6 he h⟩;intro ab z _ _;rw[b5,aZ cK.p rfl,aZ fk.p rfl,aF Ψ ((y.W z).cell rfl),b5,aZ cK.p rfl,aZ fk.p rfl,aF Ψ ((y.W z).cell rfl)];rw[aW]at Z;exact Z _ _ ⟨aV.F z,J,e,rfl,he⟩
  .refine⟨λh=>m6 rfl h,λ_=>?_⟩;rw[b5,aZ cK.p rfl,aZ fk.p rfl,aF Ψ (y.cell rfl),bO,ao];refine⟨λq=>?_,λq=>?_⟩
   .have aW:L=ν:=by
     cases C:L with
     |none=>rfl
     |some f=>
      obtain⟨s',h,_,_,bi⟩:=P.bad (by rw[C];simp);cases h;rw[bh.2 q]at bi;cases bi
    intro ab z _ _;rw[b5,aZ cK.p rfl,aZ fk.p rfl,aF Ψ ((y.W z).cell rfl),b5,aZ cK.p rfl,aZ fk.p rfl,aF Ψ ((y.W z).cell rfl)];rw[aW]at Z;exact Z _ _ ⟨aV.F z,K,big,rfl,q⟩
   .have cI:s.big=sp:=by
     cases cJ:s.big with
     |false=>rfl
     |true=>exact m6 (bh.1 cJ) q
    obtain⟨bj,rfl,rfl,cL,cN,cO⟩:=P.qR s rfl Y aB cI;have cP:=jm bo aC λr C a n c ac P=>by
     have:=bp r ⟨a,n,c,ac,P⟩;exact C.elim this.1 this.2
    refine(uM cP cO).Y ?_;rintro aX ab _ ⟨z,gz,c8,aY⟩;have da:=z.size;rw[dn (cs:=#[ch name,Δ k,aX,.slice ν 0 0]) (by obtain⟨_,_,_,rfl⟩:=dr aY.ls;kernel_rfl)];refine br λa1 E db a2 aD=>?_;have aD:ak E a1 cM [ch name,Δ k,aX,.slice ν 0 0]:=by obtain⟨_,_,_,rfl⟩:=dr aY.ls;exact aD
    have bk:=bD (bD (aw.aa bq aC λr _ h he=>by have:=a6 r h;exact he.elim this.1 this.2.1) z) a2;have cQ:(bj.map iX).length=bj.length:=Ξ
    rw[ij kA.u bk,cQ];refine OM aD bk (λr h=>by have:=a6 r h;omega) cL cN λdc cR cS cT cU cW cX=>?_;have de:=aD.lt;have z3:=a2.size;have bm:=a2.then cT (λr C h=>by have h:r=a1:=h;omega);have bn:=(aV.F z).F bm;rw[ba cV.u (ae.W bn)];exact Z _ _ ⟨bn,a1,_,rfl,aX,cR,gz,cS,cU,aY.W bm,jJ cW,cX⟩
theorem D1{α:Type}{f:List α->aN->Option (α×aN)}{acc:List α}{s:aN}:fR f (n+1) acc (σ s)=match f acc s with
  |none=>ν
  |some (a,s')=>fR f n (acc++[a]) (σ s'):=by
 show da f (n+1) acc s=_;simp only[da];cases f acc s<;>rfl
theorem OP{g:Nat}{A B:aj}{s:Option aN}{G:Bool}{most:Int}{Q:x4->x5->Prop}(h:dz w g gs A B G s)(aw:(N:Int)<=aD)(R:∀hv I l so gz,ai (bS g gs A) w I->dz I g gs A B G so->aH .i64 ay I gz hv l->w.heap.size<=gz->l.length<=100001->(∀q,fR (gT most) N [] s=σ q->so=σ q.2/\l=q.1)->(fR (gT most) N [] s=ν->so=ν)->Q hv I):
 cp (.slice ν 0 0) (Δ 0) w λd6 i H k=>
  cG (α:=x4->x5->Prop) (λ(ax:x4)(S:x5)=>
   Split ax (aq x8 pc [Γ g,(Δ 1),Δ most] S λV y=>
  ad x8 (Z7 V 0) y λW=>
  ad x8 (Z7 V 1) y λaB=>
  ad x8 (aS .gtr ay sp s2 W (Δ 32)) y λaC=>
  aq x8 rH [Γ g,aC,aB] y λbo aE=>
  aL x8 (Y3 aA 1 #[(0,W)]) aE λaF aG=>
  aL x8 (c9 #[aA,aA] aA #[d6,aF]) aG λaI X=>
  ad x8 (aS .add ay sp s2 i (Δ 1)) X λaJ=>
  k aI aJ X) (Q d6 S)) λaz=>
  ad x8 (aS .lss ay sp sp i (Δ (N:Int))) H λaK=>
  Split aK (aq x8 ml [Γ g] H λaM aO=>
  az aM aO)
   (az (.bool sp) H):=by
 obtain⟨bp,Y,br,aP,aQ⟩:=h.side;have ag:∀r,bS g gs A r->r<w.heap.size:=aP;unfold aD at aw;generalize aR:fR (gT most) N [] s=Z at R;refine⟨λout J U=>∃(i:Nat)(l:Λ)(so:Option aN)(gz:Nat),J=Δ (i:Int)/\i<=N/\ai (bS g gs A) w U/\aH .i64 ay U gz out l/\w.heap.size<=gz/\dz U g gs A B G so/\Z=fR (gT most) (N-i) l so/\l.length<=100001/\∀st,so=σ st->l.length+st.hp.length<=100000,
  λ_ J _=>N-(b1 J).toNat,⟨0,[],s,w.heap.size,rfl,W3 _,ai.refl _ _,aH.nil _ _ _ _,o6 _,h,aR.symm,Ξ,λst aU=>?_⟩,?_⟩
 .subst aU;have:=h.words;simpa using this
 rintro out _ U ⟨i,l,so,gz,rfl,bs,K,ac,aV,ae,C,aX,af⟩;refine a6 (λv ah=>Ext U ah/\((v= .bool s2/\i<N/\∃st,so=σ st)\/(v= .bool sp/\(so=ν\/i=N)))) ?_ ?_
 rotate_left
 .intro az L;rw[aW,ao];refine⟨λaY=>?_,λbt=>L _ _ ⟨Ext.refl _,.inr ⟨rfl,.inr Ω⟩⟩⟩;refine(qU ae).Y ?_;rintro _ ah _ ⟨rfl,ak⟩;cases so with
  |none=>exact L _ _ ⟨ak,.inr ⟨rfl,.inl rfl⟩⟩
  |some st=>exact L _ _ ⟨ak,.inl ⟨rfl,Ω,st,rfl⟩⟩
 rintro _ ab ⟨x,aZ⟩;have al:=ac.W x;have am:=ae.W x;rcases aZ with⟨rfl,aY,st,rfl⟩|⟨rfl,a1⟩
 rotate_left
 .rw[bb];have an:Z=so.map λst=>(l,st):=by
   rcases a1 with rfl|rfl
   .exact C
   .rw[V7]at C;rw[C];cases so<;>rfl
  refine R out ab l so gz (K.F (x.aa _)) am al aV aX (λq f=>?_) λap=>?_
  .rw[an]at f;cases so with
   |none=>cases f
   |some st=>cases f;exact⟨rfl,rfl⟩
  .rw[an]at ap;cases so with
   |none=>rfl
   |some st=>cases ap
 rw[bT];have af:=af st rfl;refine(nL am).Y ?_;rintro _ bu _ ⟨M,z,at_,rfl,a2,bw⟩;obtain⟨O,a7⟩:=M.of;rw[bA,bB,bW];refine(sm a7).Y ?_;rintro _ bx _ M;obtain⟨P,a8⟩:=M.of;refine e3 aA.u ay.i rfl λa ga ba bz E bc=>?_;have bC:=K.size;have bD:=x.size;have z3:=O.size;have z4:=P.size;have z5:=E.size;have au:∀r,lc out r->¬bS g gs A r:=λr j bd=>by have:=ag r bd;have:=(ca ac j).1;omega
 have be:=bE (bE al O au) P au;refine kC aA.u ay.i rfl (be.W E) bc.ls Θ Θ λbF bf bg bG bh av=>?_;rw[aT,lm Ω Ω];have bi:ai (bS g gs A) w ba:=((((K.F (x.aa _)).F O).F P).F (E.aa _));have bj:ai (bS g gs A) w bg:=iU bi av λr j he=>by have he:r=gz:=he;omega
 have bl:∀r,bS g gs A r->¬(λr=>r=gz) r:=λr j he=>by have:=ag r j;have he:r=gz:=he;omega
 have bm:∀r,cW g gs A B r->¬(λr=>r=gz) r:=λr j he=>by have:=aQ r j.2;have he:r=gz:=he;omega
 refine⟨⟨i+1,l++[z],_,bf,rfl,Ω,bj,bh,Ω,(a8.W E).aa av bl bm,?_,Θ,λbH bn=>?_⟩,by simp only[b1];omega⟩
 .rw[C,show N-i=(N-(i+1))+1 by omega,D1];unfold gT;cases f:bq 1 most st with
  |none=>have e:bk 1 most (σ st)=ν:=f;rw[e];rfl
  |some q=>
   have e:bk 1 most (σ st)=σ q:=f;have:=a2 q e;subst this;rw[e];rfl
 .obtain⟨bI,Y,rfl⟩:=Z9.1 bn;obtain⟨q,f,rfl⟩:=Z9.1 Y;have h1:=(dP f).1;simp only[j6,List.length_singleton];show l.length+1+q.2.hp.length<=100000;omega
theorem OQ{acc:List (Λ×Int)}{s s':aN}{a:Λ×Int}(h:eX d6 acc s=σ (a,s')):s'.m1=s.m1/\s'.big=s.big:=by
 obtain⟨_,_,_,e⟩:=qL h;exact⟨e.eqs.1,e.eqs.2.1⟩
theorem OR{s s':aN}{l:List (Λ×Int)}(hi:ee s)(h:ed d6 s=σ (l,s')):ee s'/\(s.big=s2->s'.big=s2):=by
 have e:=Dz d6 (σ s);rw[show kk d6 (σ s)=ed d6 s from rfl,h]at e;cases r:bk (-aD) aD (σ s)with
 |none=>rw[r]at e;cases e
 |some q=>
  obtain⟨n,s1⟩:=q;rw[r]at e;simp only at e;have h1:=(dP r).eqs;have x:ee s1:=λf=>by rw[h1.1];rw[h1.2.1]at f;exact hi f
  split at e
  .cases V:s1.m2[(-n-1).toNat]? with
   |none=>rw[V]at e;cases e
   |some q=>
    obtain⟨z,l'⟩:=q;rw[V]at e;simp only at e;split at e
    .cases e;exact⟨x,λf=>by rw[h1.2.1];exact f⟩
    .cases e
  .have:=mF (λacc t=>t.m1=(lj n s1).m1/\t.big=(lj n s1).big) (λacc t a bu ⟨w,j⟩ g=>by
    have:=OQ g;exact⟨by rw[this.1,w],by rw[this.2,j]⟩) n.toNat [] _ l s' ⟨rfl,rfl⟩ e.symm
   obtain⟨⟨w,j⟩,_⟩:=this;refine⟨λf=>by rw[w];rw[j]at f;exact N5 n s1 f,λf=>?_⟩;rw[j];show(s1.big||_)=s2;rw[h1.2.1,f];rfl
theorem OS{all:Λ}{s s':aN}{x:cI}(hi:ee s)(h:dv all s=σ (x,s')):ee s'/\s'.hp.length<s.hp.length:=by
 unfold dv at h;cases r:bq (-aD) aD s with
 |none=>rw[r]at h;cases h
 |some q=>
 obtain⟨a,s1⟩:=q;rw[r]at h;simp only at h;have t0:=dP r;cases h1:fm all.length a.natAbs s1 with
 |none=>rw[h1]at h;cases h
 |some q=>
 obtain⟨sc,f⟩:=q;rw[h1]at h;simp only at h;obtain⟨w,_⟩:=xy h1;generalize sc.map (λv=>all.getD v.toNat 0)=d6 at h;cases y:bq 0 aD (bm (decide (6<a.natAbs)||dL d6) f)with
 |none=>rw[y]at h;cases h
 |some q=>
 obtain⟨other,z⟩:=q;rw[y]at h;simp only at h;have A:=dP y;have F:ee z:=λe=>by
  rw[A.eqs.1];rw[A.eqs.2.1]at e;have e:(f.big||_)=sp:=e;have C:=(T4.1 e).1;show f.m1<=16384;rw[w.eqs.1,t0.eqs.1];rw[w.eqs.2.1,t0.eqs.2.1]at C;exact hi C
 cases j:ed d6 z with
 |none=>rw[j]at h;cases h
 |some q=>
 obtain⟨lines,B⟩:=q;rw[j]at h;simp only[W6,R2]at h;obtain⟨_,rfl⟩:=h;have G:=OR F j;have J:=DG j;have K:=t0.1;have L:=w.1;have M:f.hp.length=z.hp.length+1:=A.1;have E:∀t:aN,t.m1=B.m1/\t.big=B.big/\t.hp=B.hp->ee t/\t.hp.length<s.hp.length:=λt ⟨H,I,a3⟩=>⟨λe=>by rw[H];rw[I]at e;exact G.1 e,by rw[a3];omega⟩;split
 .exact E _ ⟨rfl,rfl,rfl⟩
 .exact E _ ⟨rfl,rfl,rfl⟩
theorem OT{S R:aj}{x:jU}(h:aw.rep sp S R w cs x):aw.rep (α:=jU) s2 bU R w cs x/\(x4.agg cs.toArray).cells=cs.toArray:=by
 obtain⟨j,d1,s,z,rfl,_,_,_,h1,q,d2,A,B,rfl,_,_,_,a,r,d3,C,E,rfl,_,_,_,f,e⟩:=h;have h1:=h1;have a:=a;have f:=f;have e:=e;refine⟨⟨j,_,bU,bU,rfl,λ_ h=>h,λ_ h=>h,λ_ _ h _=>h,h1,q,_,bU,bU,rfl,λ_ h=>h,λ_ h=>h,λ_ _ h _=>h,a,r,d3,bU,bU,rfl,λ_ h=>h,λ_ h=>h,λ_ _ h _=>h,f,e⟩,?_⟩;obtain⟨u,rfl⟩:=X9.1 (show j.length=1 from aw.len h1);obtain⟨v,rfl⟩:=X9.1 (show q.length=1 from aw.len a);obtain⟨y,rfl⟩:=X9.1 (show d3.length=1 from aw.len e);obtain⟨_,_,_,rfl⟩:=nM h1;obtain⟨_,_,_,rfl⟩:=nM a;obtain⟨_,_,_,rfl⟩:=nM e;subst f;rfl
theorem OU{g c:Nat}{A B:aj}{o:Option aN}{Q:Bool}{P:x4}{all:Λ}{aE:x4->x5->Prop}(aF:iW w g gs A B Q o)(hi:∀s,o=σ s->ee s)(bs:(c:Int)<=aD)(bt:aQ .i64 w P all)(aG:∀r,lc P r->r≠g/\r≠gs/\r<w.heap.size/\(o≠ν->¬A r))(bu:o≠ν->∀z∈all,1<=z/\z<=aD)(bx:all.length<=100001)(bz:fD w)(h1:1<w0.heap.size/\(o≠ν->cW g gs A B 1))(aH:ai (λr=>w0.heap.size<=r) w0 w)(bA:w0.heap.size<=g)(bB:w0.heap.size<=gs)(cj:g<w.heap.size/\gs<w.heap.size)(bC:o≠ν->∀r,A r->w0.heap.size<=r)(aI:∀L I acc so aR C aJ aK,ai (λr=>w0.heap.size<=r) w0 I->w.heap.size<=I.heap.size->iW I g gs aR C Q so->aw.rep (α:=List jU) s2 aJ aK I [L] acc->(∀r,aJ r\/aK r->r≠g/\r≠gs/\r<I.heap.size)->aQ .i64 I P all->
   (∀q,fR (λ_ s=>dv all s) c [] o=σ q->so=σ q.2/\acc=q.1.map iX)->(fR (λ_ s=>dv all s) c [] o=ν->so=ν)->aE L I):
 cp (.slice ν 0 0) (Δ 0) w λho aM ak bE=>
  cG (α:=x4->x5->Prop) (λ(bF:x4)(aO:x5)=>
   Split bF (aq x8 A1 [Γ g,P] aO λbG bH=>
  aL x8 (Y3 kA 1 #[(0,bG)]) bH λbI bJ=>
  aL x8 (c9 #[kA,kA] kA #[ho,bI]) bJ λbK aP=>
  ad x8 (aS .add ay sp s2 aM (Δ 1)) aP λbL=>
  bE bK bL aP) (aE ho aO)) λaU=>
  ad x8 (aS .lss ay sp sp aM (Δ (c:Int))) ak λbM=>
  Split bM (aq x8 ml [Γ g] ak λbN bO=>
  aU bN bO)
   (aU (.bool sp) ak):=by
 unfold aD at bs;generalize f:fR (λ_ s=>dv all s) c [] o=aV at aI;have aX:∀s,o=σ s->o≠ν:=λs h=>by rw[h];simp
 refine⟨λL al U=>∃(i:Nat)(acc:List jU)(E:List cI)(so:Option aN)(x K G M:aj),al=Δ (i:Int)/\i<=c/\ai (λr=>w0.heap.size<=r) w0 U/\w.heap.size<=U.heap.size/\iW U g gs x K Q so/\aw.rep s2 G M U [L] acc/\
   aQ .i64 U P all/\fD U/\aV=fR (λ_ s=>dv all s) (c-i) E so/\(∀r,G r->w.heap.size<=r/\r<U.heap.size)/\(∀r,M r->r≠g/\r≠gs/\¬G r)/\
   ∀s,so=σ s->acc=E.map iX/\ee s/\E.length+s.hp.length<=100000/\o≠ν/\(∀r,x r->A r\/w.heap.size<=r)/\(∀r,x r->w0.heap.size<=r)/\(∀r,B r->K r)/\(∀r,G r->¬K r/\¬x r)/\(∀r,M r->cW g gs x K r),
  λ_ al _=>c-(b1 al).toNat,⟨0,[],[],o,A,B,bU,bU,rfl,W3 _,aH,o6 _,aF,gx,bt,bz,f.symm,λ_ h=>h.elim,λ_ h=>h.elim,λs V=>⟨rfl,hi s V,?_,aX s V,λr e=>.inl e,bC (aX s V),λr e=>e,λ_ h=>h.elim,λ_ h=>h.elim⟩⟩,?_⟩
 .subst V;have am:ey w g gs A B s Q:=aF;have:=am.2.1.words.1;simpa using this
 rintro L _ U ⟨i,acc,E,so,x,K,G,M,rfl,ck,bP,cl,aY,bQ,an,aZ,Z,y,bR,a1⟩;refine a6 (λv a2=>Ext U a2/\((v= .bool s2/\i<c/\∃st,so=σ st)\/(v= .bool sp/\(so=ν\/i=c)))) ?_ ?_
 rotate_left
 .intro az ap;rw[aW,ao];refine⟨λa7=>?_,λcm=>ap _ _ ⟨Ext.refl _,.inr ⟨rfl,.inr Ω⟩⟩⟩;refine(DC aY).Y ?_;rintro _ a2 _ ⟨rfl,a8⟩;cases so with
  |none=>exact ap _ _ ⟨a8,.inr ⟨rfl,.inl rfl⟩⟩
  |some st=>exact ap _ _ ⟨a8,.inl ⟨rfl,Ω,st,rfl⟩⟩
 rintro _ ab ⟨J,bV⟩;have cn:=J.size;have S:=aY.W J;have ba:=bD bQ J;have bc:ai (λr=>w0.heap.size<=r) w0 ab:=bP.F (J.aa _);rcases bV with⟨rfl,a7,st,rfl⟩|⟨rfl,bW⟩
 rotate_left
 .rw[bb];have bd:aV=so.map λst=>(E,st):=by
   rcases bW with rfl|rfl
   .exact Z
   .rw[V7]at Z;rw[Z];cases so<;>rfl
  refine aI L ab acc so x K G (λr=>M r/\r<ab.heap.size) bc Ω S (aw.Y ba (λ_ _ h=>h) λr e h=>⟨h,e⟩) (λr e=>?_) (an.W J) (λq H=>?_) λbf=>?_
  .rcases e with e|e
   .have:=y r e;exact⟨Ω,Ω,Ω⟩
   .have:=bR r e.1;exact⟨this.1,this.2.1,e.2⟩
  .rw[bd]at H;cases so with
   |none=>cases H
   |some st=>cases H;exact⟨rfl,(a1 _ rfl).1⟩
  .rw[bd]at bf;cases so with
   |none=>rfl
   |some st=>cases bf
 rw[bT];obtain⟨rfl,bg,cq,ae,bh,au,bi,af,bj⟩:=a1 st rfl;have S:=S;obtain⟨cr,ct,cw,cz,cA⟩:=S.1;have bX:=h1.2 ae;have bk:cW g gs x K 1:=⟨λf=>by
  rcases f with f|f|f
  .omega
  .omega
  .have:=au 1 f;omega,bi 1 bX.2⟩
 have bl:∀r,lc P r->¬bS g gs x r/\r<ab.heap.size:=λr e=>by
  obtain⟨bY,bZ,b0,b2⟩:=aG r e;refine⟨λf=>?_,Ω⟩;rcases f with f|f|f
  .exact bY f
  .exact bZ f
  .rcases bh r f with h|h
   .exact b2 ae h
   .omega
 refine(Og S bg (an.W J) bl (bu ae) bx (aZ.W J) bk).Y ?_;rintro _ cB _ ⟨aR,C,cs,b3,rfl,cC,W,X,av,bm,bn,b4,b5⟩;have z3:=W.size;obtain⟨bo,b6⟩:=OT b4;refine jL (α:=jU) (R:=cW g gs aR C) kA.u cu.i Φ b6 bo λu ax N _ hu=>?_;have z4:=N.size;have b7:∀r,r<ab.heap.size->G r\/M r->¬bS g gs x r:=λr e h f=>by
  rcases h with h|h
  .have j:=y r h;rcases f with f|f|f
   .omega
   .omega
   .exact (af r h).2 f
  .exact (bj r h).1 f
 have b8:∀r,r<ab.heap.size->cW g gs x K r->cW g gs aR C r:=λr e h=>⟨λf=>h.1 (f.imp id (Or.imp id λf=>(X r f).elim id λbe=>Ω)),bm r h.2⟩;have b9:bw G (cW g gs aR C) ax [L] (E.map iX):=bD (aw.aa (aw.Y (R':=λr=>cW g gs aR C r/\M r) ba (λ_ _ h=>h) λr e h=>⟨b8 r e (bj r h),h⟩) W λr e h=>b7 r e (h.imp id λh=>h.2) |> λh=>h) N |> λh=>aw.Y h (λ_ _ h=>h) λ_ _ h=>h.1;have ag:∀r,G r->¬C r:=λr h ah=>by
  have j:=y r h;rcases(av r ah).1 with O|O
  .exact (af r h).1 O
  .have aA:=(y r h).2;omega
 have cD:(E.map iX).length=E.length:=Ξ
 refine oj kA.u cu.i rfl b9 hu (bD bo N) (λr _ ca h=>?_) Ω Ω λcE aB cb Y=>?_
 .rcases h with h|h
  .exact h
  .exact ag r ca h.2
 have z5:=Y.size;rw[aT,lm Ω Ω];have cc:ai (λr=>w0.heap.size<=r) w0 ax:=(bc.F (W.Y λr _ f=>by
  rcases f with rfl|rfl|f
  .exact bA
  .exact bB
  .exact au r f)).F (N.aa _)
 have z0:=aH.size;have cd:ai (λr=>w0.heap.size<=r) w0 aB:=cc.F (Y.Y λr _ h=>by have:=(y r h).1;omega);have ce:=(jm (an.W J) W λr e a n c ac aC=>(bl r ⟨a,n,c,ac,aC⟩).1 e).W N;have cf:=jm ce Y λr e a n c ac aC=>by
  have b0:=(aG r ⟨a,n,c,ac,aC⟩).2.2.1;have:=(y r e).1;omega
 have cg:=(((aZ.W J).aa W bk.1).W N).aa Y λh=>by have:=(y 1 h).1;omega
 have bp:iW aB g gs aR C Q ((dv all st).map (·.2)):=by
  refine iW.aa (bn.W N) Y (λh=>by have:=y _ h;omega) (λr e cF h=>?_) (λr e h=>ag r h e.2);have j:=y r h;rcases e with rfl|rfl|e
  .omega
  .omega
  .rcases X r e with O|O
   .exact (af r h).2 O
   .omega
 have ch:=nE cb;refine⟨⟨i+1,(E.map iX)++[b3],E++((dv all st).map (·.1)).toList,(dv all st).map (·.2),aR,C,λr=>(G r\/bU r\/ax.heap.size<=r)/\r<aB.heap.size,cW g gs aR C,rfl,Ω,cd,Ω,bp,ch,cf,cg,?_,λr e=>⟨?_,e.2⟩,λr e=>⟨λh=>e.1 (.inl h),λh=>e.1 (.inr (.inl h)),λh=>?_⟩,λs' ci=>?_⟩,by simp only[b1];omega⟩
 .rw[Z,show c-i=(c-(i+1))+1 by omega,D1];cases H:dv all st with
  |none=>rfl
  |some q=>rfl
 .rcases e.1 with h|h|h
  .exact (y r h).1
  .exact h.elim
  .omega
 .rcases h.1 with j|j|j
  .exact ag r j e.2
  .exact j
  .have:=(av r e.2).2;omega
 .obtain⟨q,H,rfl⟩:=Z9.1 ci;have j:=OS bg H;have O:=b5 q H;refine⟨?_,j.1,?_,ae,λr e=>?_,λr e=>?_,λr e=>bm r (bi r e),λr e=>⟨λah=>?_,λbq=>?_⟩,λr e=>e⟩
  .rw[H,O];simp
  .rw[H];simp only[Y6,j4,j6,List.length_singleton];omega
  .rcases X r e with h|h
   .exact bh r h
   .exact .inr Ω
  .rcases X r e with h|h
   .exact au r h
   .omega
  .rcases e.1 with j|j|j
   .exact ag r j ah
   .exact j
   .have:=(av r ah).2;omega
  .have cH:=bp;have br:=bn;rw[H]at br;have am:=br;have a7:=am.1.2.2.2.1 r (.inr (.inr bq));rcases e.1 with j|j|j
   .rcases X r bq with aA|aA
    .exact (af r j).2 aA
    .have:=(y r j).2;omega
   .exact j
   .omega
theorem ee.num{lo hi n:Int}{s s':aN}(e:ee s)(h:bq lo hi s=σ (n,s')):ee s':=λa=>by
 have h1:=(dP h).eqs;rw[h1.1];rw[h1.2.1]at a;exact e a
theorem ee.big{b:Bool}{s:aN}(h:ee s):ee (bm b s):=λa=>by
 have a:(s.big||b)=sp:=a;exact h (T4.1 a).1
theorem ee.word{w:Λ}{s s':aN}(h:ee s)(hw:ec s=σ (w,s')):ee s':=λa=>by
 have h1:=(xx hw).2;rw[h1]at a ⊢;exact h a
theorem OV{most:Int}{s s':aN}(hi:ee s)(hm:most<=aD)(h:da (gT most) N [] s=σ (l,s')):ee s'/\(∀z∈l,1<=z/\z<=aD)/\l.length+s'.hp.length<=s.hp.length:=by
 have:=mF (λacc t=>ee t/\(∀z∈acc,1<=z/\z<=aD)/\acc.length+t.hp.length<=s.hp.length) (λacc t a bu ⟨h1,f,w⟩ g=>by
  unfold gT at g;cases e:bq 1 most t with
  |none=>rw[e]at g;cases g
  |some q=>
   obtain⟨z,j⟩:=q;rw[e]at g;simp only[W6,R2]at g;obtain⟨rfl,rfl⟩:=g;have y:=(jn e).1;have A:=(dP e).1;refine⟨(h1.num e).big,λx J=>?_,?_⟩
   .rcases j9.1 J with J|J
    .exact f x J
    .rw[Y4.1 J];omega
   .simp only[j6,List.length_singleton];show acc.length+1+j.hp.length<=_;omega) N [] s l s' ⟨hi,λz r=>(by cases r),Ξ⟩ h
 exact this.1
theorem OW{s0:aN}{name:Λ}{n most cnt:Int}{so6:Option aN}(h1:∀q,ec s0=σ q->name=q.1)(r:∀q,bk 1 aD (((ec s0).map (·.2)).map (bm (decide (64<(name.length:Int)))))=σ q->n=q.1)(j:∀q,bk 1 aD (((bk 1 aD (((ec s0).map (·.2)).map (bm (decide (64<(name.length:Int)))))).map (·.2)).map (bm (decide (64<n))))=σ q->most=q.1)(h:∀q,bk 0 aD ((bk 1 aD (((bk 1 aD (((ec s0).map (·.2)).map (bm (decide (64<(name.length:Int)))))).map (·.2)).map (bm (decide (64<n))))).map (·.2))=σ q->cnt=q.1)(f:∀q,bk 1 aD (((bk 0 aD ((bk 1 aD (((bk 1 aD (((ec s0).map (·.2)).map (bm (decide (64<(name.length:Int)))))).map (·.2)).map (bm (decide (64<n))))).map (·.2))).map (·.2)).map (bm (decide (256<cnt))))=σ q->k=q.1)(e:∀q,fR (gT most) n.toNat [] (((bk 1 aD (((bk 0 aD ((bk 1 aD (((bk 1 aD (((ec s0).map (·.2)).map (bm (decide (64<(name.length:Int)))))).map (·.2)).map (bm (decide (64<n))))).map (·.2))).map (·.2)).map (bm (decide (256<cnt))))).map (·.2)).map (bm (decide (2147483648<k))))=σ q->so6=σ q.2/\d6=q.1)(a:fR (gT most) n.toNat [] (((bk 1 aD (((bk 0 aD ((bk 1 aD (((bk 1 aD (((ec s0).map (·.2)).map (bm (decide (64<(name.length:Int)))))).map (·.2)).map (bm (decide (64<n))))).map (·.2))).map (·.2)).map (bm (decide (256<cnt))))).map (·.2)).map (bm (decide (2147483648<k))))=ν->so6=ν):
  jN s0=(fR (λ_ s=>dv d6 s) cnt.toNat [] so6).map λq=>((⟨name,k,d6,q.1⟩:cg),q.2):=by
 unfold jN;cases A:ec s0 with
 |none=>
  rw[A]at a;rw[a rfl];rfl
 |some L=>
 obtain⟨Z,s1⟩:=L;rw[A]at h1 r j h f e a;have:=h1 _ rfl;subst this;have M:decide (64<(name.length:Int))=decide (64<name.length):=by rw[U1,ro,ro];omega
 rw[M]at r j h f e a;simp only[Y6]at r j h f e a ⊢;generalize bm (decide (64<name.length)) s1=x at*;cases B:bq 1 aD x with
 |none=>
  rw[show bk 1 aD (σ x)=ν from B]at a;rw[a rfl];rfl
 |some N=>
 obtain⟨O,C⟩:=N;rw[show bk 1 aD (σ x)=σ (O,C)from B]at r j h f e a;have:=r _ rfl;subst this;simp only[Y6]at j h f e a ⊢;generalize bm (decide (64<n)) C=y at*;cases E:bq 1 aD y with
 |none=>
  rw[show bk 1 aD (σ y)=ν from E]at a;rw[a rfl];rfl
 |some P=>
 obtain⟨Q,w⟩:=P;rw[show bk 1 aD (σ y)=σ (Q,w)from E]at j h f e a;have:=j _ rfl;subst this;simp only[Y6]at h f e a ⊢;cases F:bq 0 aD w with
 |none=>
  rw[show bk 0 aD (σ w)=ν from F]at a;rw[a rfl];rfl
 |some R=>
 obtain⟨S,G⟩:=R;rw[show bk 0 aD (σ w)=σ (S,G)from F]at h f e a;have:=h _ rfl;subst this;simp only[Y6]at f e a ⊢;generalize bm (decide (256<cnt)) G=z at*;cases H:bq 1 aD z with
 |none=>
  rw[show bk 1 aD (σ z)=ν from H]at a;rw[a rfl];rfl
 |some T=>
 obtain⟨U,I⟩:=T;rw[show bk 1 aD (σ z)=σ (U,I)from H]at f e a;have:=f _ rfl;subst this;simp only[Y6]at e a ⊢;generalize bm (decide (2147483648<k)) I=W at*;cases J:da (gT most) n.toNat [] W with
 |none=>
  rw[a J];rfl
 |some X=>
 obtain⟨aa,K⟩:=X;obtain⟨V,Y⟩:=e _ J;subst Y;rw[V];simp only;show _=V6 _ (da (λ_ s=>dv d6 s) cnt.toNat [] K);cases da (λ_ s=>dv d6 s) cnt.toNat [] K<;>rfl
theorem OX{f:cg}(ah:fC N f)(h:N<=60000):∀x∈f.ho,uN f.k x:=λx J=>by
 obtain⟨h1,e,j⟩:=ah.ho x J;refine⟨ah.k,⟨?_,λz a=>?_⟩,h1.other,h1.lines,by have:=h1.len;omega,Ω⟩
 .rw[h1.d6,r9];exact e
 .rw[h1.d6]at a;obtain⟨v,ac,rfl⟩:=l9.1 a;have:=h1.scope.2 v ac;refine ah.d6.2.2 _ ?_;rw[r8,v8 Ω];exact S3 _
theorem OY{p:x4}{pl:Λ}(ae:aQ .u8 w p pl)(aJ:Bytes pl)(bK:pl.length<=60000)(ad:fD w):aq x8 II [p] w (D0 w (il pl)):=by
 have aK:1<w.heap.size:=by
  have:=ad 0 (.int .u64 1) rfl;obtain⟨c,e,f,aL,_⟩:=w2 this;exact(Y1.1 aL).1
 have bL:aD=4611686018427387904:=rfl;refine aE func58 ?_;rw[ba cV.u ae,bW,ao];refine⟨λh=>Ω,λ_=>?_⟩;refine(Ch ae aJ Ω).Y ?_;rintro _ U _ ⟨af,gs,rfl,bM,aM,P⟩;rw[dn (cs:=#[Γ gs,Δ 0,Δ 0,Δ 0,Δ 0,Δ 0,.slice ν 0 0]) Ψ];refine br λg ab bN Q ag=>?_;have bO:=af.size;have bP:=Q.size;have aO:=ag.lt;have bQ:gs<U.heap.size:=P.2.2.2.1.lt;have bR:=rT _ pl (o6 _);let s0:aN:=⟨(lex pl).1,0,sp,[]⟩;let B0:aj:=λr=>r<U.heap.size;have aP:ey ab g gs bU B0 s0 (lex pl).2:=by
  refine⟨⟨Ω,λh=>h,λh=>h,λr j=>?_,λr j=>by have j:r<U.heap.size:=j;omega⟩,⟨aM,pl,0,P.W Q,λr j=>?_,by rw[List.drop_zero]⟩,⟨by show(0:Int)<=0;omega,by show(0:Int)<=aD;omega,by show(([]:List (Λ×List (Λ×Int))).length+(lex pl).1.length<=100000);simp;omega⟩,0,0,0,0,.slice ν 0 0,ag,⟨by simp[s0],λ_=>rfl⟩,gx (α:=lR)⟩
  .rcases j with rfl|rfl|j
   .exact aO
   .omega
   .exact j.elim
  .obtain⟨_,_,_,K,bf,hm⟩:=P;have G:=ca hm j;have H:=cC hm K Φ j;exact⟨λB=>by
    rcases B with B|B|B
    .omega
    .exact H B
    .exact B,by show r<U.heap.size;omega⟩
 have R:∀r,bS g gs bU r->w.heap.size<=r:=λr j=>by
  rcases j with rfl|rfl|j
  .omega
  .omega
  .exact j.elim
 refine(CV aP).Y ?_;rintro _ bT _ ⟨A,name,bV,rfl,bX,bY,aS⟩;obtain⟨aT,aU⟩:=gB.of A;rw[bA,bB,px df.u,bW];refine(sm aU).Y ?_;rintro _ bZ _ A;obtain⟨aV,aW⟩:=A.of;refine(nL (lo:=1) (hi:=aD) aW).Y ?_;rintro _ b0 _ ⟨A,n,b1,rfl,ah,aX⟩;obtain⟨aY,aZ⟩:=A.of;rw[bA,bB,bW];refine(sm aZ).Y ?_;rintro _ b2 _ A;obtain⟨a1,a2⟩:=A.of;refine(nL (lo:=1) (hi:=aD) a2).Y ?_;rintro _ b3 _ ⟨A,most,b4,rfl,ak,a6⟩;obtain⟨a7,a8⟩:=A.of;rw[bA,bB];refine(nL (lo:=0) (hi:=aD) a8).Y ?_;rintro _ b5 _ ⟨A,cnt,b6,rfl,al,bb⟩;obtain⟨bc,bd⟩:=A.of;rw[bA,bB,bW];refine(sm bd).Y ?_;rintro _ b7 _ A;obtain⟨be,bg⟩:=A.of;refine(nL (lo:=1) (hi:=aD) bg).Y ?_;rintro _ b8 _ ⟨A,k,b9,rfl,hk,cb⟩;obtain⟨bh,bi⟩:=A.of;rw[bA,bB,bW];refine(sm bi).Y ?_;rintro _ am _ A;obtain⟨bj,S⟩:=A.of;have an:ai (bS g gs bU) ab am:=(((((((aT.F aV).F aY).F a1).F a7).F bc).F be).F bh).F bj;have W:∀{lo:Int}{o:Option aN}{x:Int},0<=lo->lo<=1->(∀q,bk lo aD o=σ q->x=q.1)->(bk lo aD o=ν->x=0)->0<=x/\x<=aD:=λ{lo o x}cc h1 V bl=>by
  cases a:bk lo aD o with
  |none=>rw[bl a];omega
  |some q=>
   have G:=oA (n:=q.1) (s':=q.2) a;rw[V q a];omega
 have cd:=W Ω Ω ah aX;have ce:=W Ω Ω al bb;have cf:=W Ω Ω ak a6;obtain⟨N,bn⟩:∃N:Nat,n=(N:Int):=⟨n.toNat,Ω⟩;obtain⟨C,bo⟩:∃C:Nat,cnt=(C:Int):=⟨cnt.toNat,Ω⟩;have bp:n.toNat=N:=Ω
 have bq:cnt.toNat=C:=Ω
 have bs:ee s0:=λ_=>by show(0:Int)<=16384;omega
 have L:∀{o:Option aN}{b:Bool},(∀s,o=σ s->ee s)->∀s,o.map (bm b)=σ s->ee s:=λh s V=>by
  obtain⟨t,X,rfl⟩:=Z9.1 V;exact(h t X).big
 have M:∀{o:Option aN}{lo hi:Int},(∀s,o=σ s->ee s)->∀s,(bk lo hi o).map (·.2)=σ s->ee s:=λ{o lo hi}h s V=>by
  obtain⟨q,a,rfl⟩:=Z9.1 V;cases o with
  |none=>cases a
  |some t=>exact(h t rfl).num (n:=q.1) (s':=q.2) a
 have bt:∀s,(ec s0).map (·.2)=σ s->ee s:=λs V=>by
  obtain⟨q,a,rfl⟩:=Z9.1 V;exact bs.word (w:=q.1) (s':=q.2) a
 have ap:=L (b:=decide (2147483648<k)) (M (lo:=1) (hi:=aD) (L (b:=decide (256<cnt)) (M (lo:=0) (hi:=aD) (M (lo:=1) (hi:=aD) (L (b:=decide (64<n)) (M (lo:=1) (hi:=aD) (L (b:=decide (64<(name.length:Int))) bt)))))));have y:=λ(d6:Λ)(so6:Option aN)=>OW (s0:=s0) (name:=name) (d6:=d6) (n:=n) (most:=most) (cnt:=cnt) (k:=k) (so6:=so6) aS ah ak al hk;rw[bp]at y;generalize ch:V6 (bm (decide (2147483648<k))) (V6 (λx=>x.2) (bk 1 aD (V6 (bm (decide (256<cnt))) (V6 (λx=>x.2) (bk 0 aD (V6 (λx=>x.2) (bk 1 aD (V6 (bm (decide (64<n))) (V6 (λx=>x.2) (bk 1 aD (V6 (bm (decide (64<(name.length:Int)))) (V6 (λx=>x.2) (ec s0)))))))))))))=au at ap S y;rw[bn];refine OP S Ω λhv Y d6 so6 gz bu av aw ci bw ax ay=>?_;have y:=y d6 so6 ax ay;rw[bq]at y;have Z:ai (bS g gs bU) ab Y:=an.F bu;have z12:=Z.size;have az:=af.F Q;have bx:ai (λr=>w.heap.size<=r) w Y:=(az.aa _).F (Z.Y λr _ h=>R r h);have cj:=av.side;have aA:∀J,so6=σ J->ee J/\(∀z∈d6,1<=z/\z<=aD)/\d6.length<=100000:=λJ ac=>by
  cases a:fR (gT most) N [] au with
  |none=>rw[ay a]at ac;cases ac
  |some q=>
   obtain⟨G,H⟩:=ax q a;cases ac.symm.F G;subst H;cases au with
   |none=>cases a
   |some bz=>
    obtain⟨bC,bD,ck⟩:=OV (ap bz rfl) Ω a;exact⟨bC,bD,by have:=S.words;omega⟩
 rw[bo];have aB:∀r,lc hv r->am.heap.size<=r/\r<Y.heap.size:=λr j=>by have:=ca aw j;omega
 have cl:=an.size;refine OU av.q (λs V=>(aA s V).1) Ω aw.ls (λr j=>?_) (λO=>?_) bw ((ad.W az).aa Z λB=>by have:=R 1 B;omega) ⟨aK,λ_=>⟨λB=>by have:=R 1 B;omega,by show 1<U.heap.size;omega⟩⟩
  bx Ω Ω ⟨Ω,Ω⟩ (λ_ r h=>h.elim) λcm cn acc so aR cp cq cr aC ct bE bF bG bH aF bI=>?_
 .have:=aB r j;exact⟨Ω,Ω,Ω,λ_ h=>h⟩
 .cases aG:so6 with
  |none=>exact m6 aG O
  |some J=>exact(aA J aG).2.1
 have cu:=aC.size;have E:il pl=match jN s0 with
   |none=>ν
   |some (f,s)=>if s.hp=[]/\(lex pl).2=s2/\s.big=sp then σ f else ν:=by
  unfold il;rw[m5 Ω];have e:jN ⟨(lex pl).1,0,sp,[]⟩=jN s0:=rfl;rw[e];cases jN s0<;>rfl
 refine OO bE ⟨λs V X bJ K=>?_,λO=>?_⟩ bH (λr j=>by have:=aB r j;exact⟨Ω,Ω⟩) bF bG (λ_=>trivial) Ω Ω aC Ω Ω ae λv I h=>h
 .cases a:fR (λ_ s=>dv d6 s) C [] so6 with
  |none=>rw[bI a]at V;cases V
  |some q=>
   obtain⟨G,H⟩:=aF q a;cases V.symm.F G;rw[a]at y;have y:jN s0=σ ((⟨name,k,d6,q.1⟩:cg),q.2):=y;have aH:=(CS rfl y K).1;rw[y]at E;simp only at E;rw[m3 ⟨X,bJ,K⟩]at E;exact⟨q.1,H,E,OX aH (by show(lex pl).1.length<=60000;omega),aH.mG,Ω⟩
 .cases a:fR (λ_ s=>dv d6 s) C [] so6 with
  |none=>
   rw[a]at y;have y:=y;rw[y]at E;exact m6 E O
  |some q=>
   obtain⟨G,H⟩:=aF q a;rw[a]at y;have y:jN s0=σ ((⟨name,k,d6,q.1⟩:cg),q.2):=y;rw[y]at E;simp only at E;by_cases aI:q.2.hp=[]/\(lex pl).2=s2/\q.2.big=sp
   .exact⟨q.2,G,aI⟩
   .rw[m5 aI]at E;exact m6 E O
theorem x1(s t cs:Λ):∃e,tT s t cs= .tuple #[Δ (bz s cs t),Δ e]:=by
 unfold tT bz;cases cr s t 0 with
 |none=>exact⟨3,rfl⟩
 |some n=>exact⟨0,rfl⟩
theorem OZ:aq x8 Bk [sv] w λr I=>Ext w I/\∃g,r= .func (.func qp) #[] #[Γ g]/\w.heap.size<=g/\ak I g au sv.cells.toList:=by
 refine aE func241 ?_;refine br λg U f a e=>?_;rw[lM];exact⟨a,g,rfl,Ω,e⟩
theorem O0{f:S8}{cap:Array x4}{A:Nat->List x4->x5->Prop}{e:x5->Prop}{L:Λ}(P:qi x8 f cap.toList n A e)(B:∀k vs w,A k vs w->∃x,L[k]?=σ x/\vs=[Δ x])(he:∀a b,ai (λr=>w.heap.size<=r) a b->e a->e b)(Q:e w)(R:n=L.length)(ao:L.length<=1000000):
  aq x8 I2 [.slice ν 0 0,.func (.func f) #[] cap] w λv I=>Ext w I/\∃g,w.heap.size<=g/\aH .i64 al I g v L:=by
 refine jh func80 ?_;refine br λgs U ap C j=>?_;have j:=j;have av:=j.lt;have E:∀{a b:x5},Ext a b->e a->e b:=λJ=>he _ _ (J.aa _);refine ky.old ⟨Nat,sp,f,cap,0,_,_,e,λk I=>ai (λr=>w.heap.size<=r) w I/\∃v g,gs<g/\ak I gs au [v]/\aH .i64 al I g v (L.take k),λ_ _ _=>False,rfl,P.s,?_,λ_ _ J h=>E J h,
  λ_ _ _ J h=>⟨h.1.F (J.aa _),by obtain⟨v,g,h1,S,V⟩:=h.2;exact⟨v,g,h1,S.W J,V.W J⟩⟩,λ_ _ _ _ _ h=>h,E C Q,⟨C.aa _,_,gs+1,Ω,j,aH.nil _ _ _ _⟩,?_,?_,λ_ _ h=>h.elim,λ_ _ _ h=>h.elim⟩
 .rintro k vs aw I ⟨_,_,h⟩;obtain⟨x,_,rfl⟩:=B k vs I h;rfl
 .rintro a k _ ab hW ⟨hk,rfl,X⟩ ⟨Y,v,g,Z,G,ac⟩;obtain⟨x,J,ad⟩:=B k _ ab X;cases ad;intro ax q _ _;have H:=G.W q;rw[aF Ψ (H.cell rfl)];refine e3 au.u al.i rfl λa ga ay az y ae=>?_;have aA:(L.take k).length<=1000000:=Θ
  refine kC au.u al.i rfl ((ac.W q).W y) ae.ls (by simp only[W0,List.length_nil];omega) (by simp only[W0,List.length_nil];omega) λaf ag aB aC z K=>?_;have aD:=G.lt;have aE:=q.size;have aG:=y.size;refine bs au.i z.ls.cells.1 z.ls.cells.2 (((H.W y).aa K Ω)) Ξ λah M aI aj=>?_;have N:ai (λr=>w.heap.size<=r) ab ah:=(((q.F y).aa _).F (K.Y λr _ h=>by show w.heap.size<=r;omega)).F (M.Y λr _ h=>by show w.heap.size<=r;omega);refine⟨he _ _ N hW,⟨Y.F N,af,ag,Ω,aj,?_⟩,λh=>by cases h⟩;rw[u9,J];exact z.aa M (λ_=>Ω)
 .rintro k aJ hk ⟨am,v,g,Z,an,ac⟩;have hk:=hk;subst hk;rw[aF Ψ (an.cell rfl)];intro aK O _;rw[R,o9]at ac;exact⟨(am.W λr aL h=>by have:w.heap.size<=r:=h;omega).F O,g,Ω,ac.W O⟩
theorem D2{f:S8}{cap:Array x4}{j:Nat->List x4->x5->Prop}{e:x5->Prop}{L:Λ}(q:qi x8 f cap.toList n j e)(s:∀k vs w,j k vs w->∃x,L[k]?=σ x/\vs=[Δ x])(he:∀a b,ai (λr=>w.heap.size<=r) a b->e a->e b)(y:e w)(z:n=L.length)(A:L.length<=1000000):
  aq x8 AU [.func (.func f) #[] cap] w λv I=>Ext w I/\∃g,w.heap.size<=g/\aH .i64 al I g v L:=by
 refine aE func34 ?_;exact(O0 q s he y z A).Y λ_ _ _ h=>h
theorem O1{x:Int}:aq x8 cmp_Less_int [Δ x,Δ y] w λv I=>v= .bool (decide (x<y))/\Ext w I:=by
 refine aE func323 ?_;refine a6 (λv U=>v= .bool (decide (x<y))/\Ext w U) (λ_ _ h=>h) λaz a=>?_;have e:∀{z:Int}{w:x5},aq x8 cmp_isNaN_int [Δ z] w λv I=>v= .bool sp/\Ext w I:=λ{z w}=>by
  refine aE func253 ?_;simp only[bO];exact⟨Ξ,Ext.refl _⟩
 refine e.Y ?_;rintro _ ab _ ⟨rfl,f⟩;rw[bb];simp only[aW];exact a _ _ ⟨rfl,f⟩
theorem O2{P:X8}{t:o4}{cx cy:Bool}{k:o8}{a b:Int}:cc P (aS .sub t cx cy (.int k a) (.int k b)) (.int k (k.wrap (a-b))) w:=λI _=>by simp[aS,eqGuard,binOp,Op.intArith]
theorem O3{g:Nat}(h:aH .i64 al w g sv l)(ak:l.length<=1000000):
  aq x8 Lp [sv,Δ 0,Δ l.length] w λ_ I=>ai (λr=>r=g) w I/\∃m,m.Perm l/\m.Pairwise (·<= ·)/\aH .i64 al I g sv m:=by
 refine aE func317 ?_;simp only[aT];refine⟨λt U=>∃(i:Nat)(m:Λ),t=Δ i/\1<=i/\(i<=l.length\/i=1)/\m.Perm l/\r2 m i/\ai (λr=>r=g) w U/\aH .i64 al U g sv m,λt _=>l.length+1-(b1 t).toNat,
  ⟨1,l,by congr 1,Ω,.inr rfl,.refl _,λp q x y h1 S=>Ω,ai.refl _ _,h⟩,?_⟩
 rintro _ U ⟨i,m,rfl,am,an,z,J,K,hm⟩;have V:=z.length_eq;simp only[aW,ao];refine⟨λW=>?_,λap=>?_⟩
 .have W:i<l.length:=Ω
  refine⟨λt ab=>∃(j:Nat)(m:Λ),t=Δ j/\j<=i/\m.Perm l/\qJ m i j/\ai (λr=>r=g) w ab/\aH .i64 al ab g sv m,λt _=>(b1 t).toNat,⟨i,m,rfl,o6 _,z,MK J,K,hm⟩,?_⟩;rintro _ ab ⟨j,m,rfl,X,z,E,L,hm⟩;have V:=z.length_eq;refine a6 (λv M=>Ext ab M/\∃c,v= .bool c/\(c=s2->0<j/\∃a b,m[j-1]?=σ a/\m[j]?=σ b/\b<a)/\(c=sp->j=0\/0<j/\∃a b,m[j-1]?=σ a/\m[j]?=σ b/\a<=b)) ?_ ?_
  .rintro _ M ⟨B,c,rfl,Y,Z⟩;rw[b4];refine⟨λh=>?_,λh=>?_⟩
   .obtain⟨A,a,b,f,s,G⟩:=Y h;intro av N _ _;have C:=(hm.W B).W N;have e:X4.wrap ((j:Int)-1)=((j-1:Nat):Int):=by rw[lm Ω Ω];omega
    simp only[dm,e];rw[bp au.u al.i Ψ C.ls f,bp au.u al.i Ψ C.ls s,jk rfl au.u al.i C Ω];refine jl al.i C Ω λac ad aw O=>⟨.inr ⟨by have:=O2 (P:=x8) (w:=ac) (t:=al) (cx:=sp) (cy:=s2) (k:=.i64) (a:=(j:Int)) (b:=1);rwa [e]at this,trivial⟩,?_⟩;rw[jk rfl au.u al.i O Θ];refine jl al.i O Θ λax ae ay af=>?_;refine⟨⟨j-1,_,rfl,Ω,(swap_perm Ω f s).F z,MN E A X f s G,((L.F ((B.F N).aa _)).F ad).F ae,af⟩,?_⟩;simp only[b1];omega
   .simp only[aT];rw[lm Ω Ω];refine⟨⟨i+1,m,rfl,Ω,.inl Ω,z,?_,L.F (B.aa _),hm.W B⟩,?_⟩
    .rcases Z h with rfl|⟨A,a,b,f,s,G⟩
     .exact ML E
     .exact MM E A f s G
    .simp only[b1];omega
  .intro az Q aA H _ _;have R:=hm.W H;simp only[bW,ao];refine⟨λA=>?_,λA=>Q _ _ ⟨H,sp,rfl,(λh=>by cases h),λ_=>.inl Ω⟩⟩;have e:X4.wrap ((j:Int)-1)=((j-1:Nat):Int):=by rw[lm Ω Ω];omega
   obtain⟨b,s⟩:=aJ (l:=m) (i:=j) Ω;obtain⟨a,f⟩:=aJ (l:=m) (i:=j-1) Ω;rw[bp au.u al.i Ψ R.ls s];simp only[dm,e];rw[bp au.u al.i Ψ R.ls f];refine O1.Y ?_;rintro _ aB _ ⟨rfl,ag⟩;refine Q _ _ ⟨H.F ag,_,rfl,λh=>⟨Ω,a,b,f,s,by simpa using h⟩,λh=>.inr ⟨Ω,a,b,f,s,by simpa using h⟩⟩
 .refine⟨K,m,z,MO λp q x y h1 S ah aj=>J p q x y h1 Ω ah aj,hm⟩
theorem O4{P:X8}{t:o4}{k:o8}{s:ByteArray}{i:Nat}(a:P.underlying t=σ .string)(hi:i<s.size)(e:∀b:Nat,b<256->K (.int .u8 b)):
  ad P (Instr.index t (.string s) (.int k (i:Int))) w K:=by
 have f:s[i]?=σ s[i]:=by simp[hi]
 have:ad P (Instr.index t (.string s) (.int k (i:Int))) w K=K (.int .u8 s[i].toNat):=ad.of λI _=>by
  simp[Instr.index,asIntOf,run_underlying a,hi]
 rw[this];exact e _ (UInt8.toNat_lt _)
theorem O5(a:n<256):aq x8 KT [.int .u64 (n:Int)] w λv I=>(∃r,v=Δ r)/\Ext w I:=by
 refine aE func252 ?_;refine aq.Y (K:=λv I=>(∃r,v=Δ r)/\Ext w I) ?_ (λ_ _ _ h=>h);refine aE func291 ?_;simp only[cG,cU,ao];refine⟨λh=>Ω,λ_=>⟨λh=>Ω,λ_=>⟨λh=>Ω,λ_=>?_⟩⟩⟩;rw[fM fZ.u cT.u,wrap_u8 Ω Ω];refine O4 df.u (by exact Nat.lt_of_lt_of_le a Φ) λb e=>?_;rw[fM cT.u al.u];simp only[aT];exact⟨⟨_,rfl⟩,Ext.refl _⟩
theorem O6{g:Nat}(h:aH .i64 al w g sv l)(f:l.length<=12):
  aq x8 K7 [sv] w λ_ I=>ai (λr=>r=g) w I/\∃m,m.Perm l/\m.Pairwise (·<= ·)/\aH .i64 al I g sv m:=by
 refine aE func277 ?_;rw[ba au.u h.ls,fM al.u qs.u,lw Ω Ω];refine(O5 Ω).Y ?_;rintro _ U _ ⟨⟨r,rfl⟩,e⟩;refine aq.Y (K:=λ_ I=>ai (λr=>r=g) U I/\∃m,m.Perm l/\m.Pairwise (·<= ·)/\aH .i64 al I g sv m) ?_ (λ_ _ _ h=>⟨(e.aa _).F h.1,h.2⟩);refine aE func302 ?_;refine⟨λa b _ _ _ ab=>a=Δ 0/\b=Δ l.length/\U=ab,λ_ _ _ _ _ _=>0,⟨rfl,rfl,rfl⟩,?_⟩;rintro _ _ _ _ _ _ ⟨rfl,rfl,rfl⟩;simp only[dm,lL,ao];rw[lm Ω Ω];refine⟨λ_=>?_,λh=>Ω⟩;refine(O3 (h.W e) Ω).Y ?_;exact λ_ _ _ h=>h
theorem O7{f:S8}{cap:Array x4}{j:Nat->List x4->x5->Prop}{e:x5->Prop}{L:Λ}(q:qi x8 f cap.toList n j e)(s:∀k vs w,j k vs w->∃x,L[k]?=σ x/\vs=[Δ x])(he:∀a b,ai (λr=>w.heap.size<=r) a b->e a->e b)(y:e w)(z:n=L.length)(A:L.length<=12):
  aq x8 Bj [.func (.func f) #[] cap] w λv I=>Ext w I/\∃g m,w.heap.size<=g/\m.Perm L/\m.Pairwise (·<= ·)/\aH .i64 al I g v m:=by
 refine aE func240 ?_;refine(D2 q s he y z Ω).Y ?_;rintro v U _ ⟨B,g,C,ac⟩;refine(O6 ac A).Y ?_;rintro _ ab _ ⟨E,m,h1,G,H⟩;exact⟨B.then E (by rintro r J rfl;omega),g,m,C,h1,G,H⟩
theorem D3{x:Int}(h:aQ .i64 w sv l):
  aq x8 Bl [sv,Δ x] w λv I=>Ext w I/\∃r:Int,v=Δ r/\∀i:Nat,l[i]?=σ x->(r=i↔ ∀j,j<i->l[j]? ≠σ x):=by
 refine aE func242 ?_;rw[ba au.u h];refine cp.range l.length (λi _ U=>Ext w U/\∀j,j<i->l[j]? ≠σ x) h.le ⟨Ext.refl _,λj s=>Ω⟩ ?_ ?_
 .rintro i _ U k hi ⟨a,e⟩ hk;simp only[aW,ao];refine⟨λ_=>?_,λh=>Ω⟩;obtain⟨y,f⟩:=aJ (l:=l) hi;rw[bp au.u al.i Ψ (h.W a) f];simp only[bl,ao,aT];refine⟨λhe=>⟨a,i,rfl,λq z=>?_⟩,λhe=>hk _ _ ⟨a,λj s=>?_⟩⟩
  .subst he;refine⟨λC=>by
              have:i=q:=Ω
              subst this;exact e,λA=>?_⟩
   rcases Nat.lt_trichotomy i q with h1|h1|h1
   .exact m6 f (A i h1)
   .omega
   .exact m6 z (e q h1)
  .by_cases B:j=i
   .subst B;rw[f];intro h;exact he (Z5 h).symm
   .exact e j Ω
 .rintro _ U k ⟨a,e⟩;simp only[aW,ao];refine⟨λh=>Ω,λ_=>⟨a,-1,rfl,λi hi=>?_⟩⟩;exact m6 hi (e i (x6.1 hi).1)
theorem O8{g:Nat}(j:ak w0 g au [sv])(a:aQ .i64 w0 sv l):
  qi x8 qp [Γ g] l.length (λk vs _=>∃x,l[k]?=σ x/\vs=[Δ x]) (λw=>Ext w0 w):=by
 refine⟨qp.enters,λy az B w C _ q J r=>?_⟩;refine rN func278 ?_;rw[aF Ψ ((j.W J).cell rfl),ba au.u (a.W J)];refine b3.range l.length (λi ab=>az i ab/\Ext w0 ab) a.le ⟨r,J⟩ ?_ ?_
 .rintro i ab k hi ⟨e,f⟩ hk;simp only[aW,ao];refine⟨λ_=>?_,λh=>Ω⟩;obtain⟨x,J⟩:=aJ (l:=l) hi;rw[bp au.u al.i Ψ (a.W f) J];refine⟨rfl,(q i _ ab hi f ⟨x,J,rfl⟩ e).Y ?_⟩;rintro _ E (⟨rfl,s,z⟩|⟨rfl,A⟩)
  .simp only[bR,Y7,bb,aT];exact hk _ ⟨z.1,s⟩
  .simp only[bR,X5,bT];exact .inr ⟨i,hi,A⟩
 .rintro ab k ⟨e,_⟩;simp only[aW,ao];exact⟨λh=>Ω,λ_=>.inl e⟩
theorem x2{K:x4->x5->Prop}(h:aQ .i64 w sv l)(j:l.length<=12)(q:∀v I g m,Ext w I->w.heap.size<=g->m.Perm l->m.Pairwise (·<= ·)->aH .i64 al I g v m->K v I):
  aq x8 Bk [sv] w λt U=>aq x8 Bj [t] U K:=by
 refine OZ.Y ?_;rintro _ U _ ⟨f,g,rfl,B,e⟩;have e:ak U g au [sv]:=by rw[h.cells.1]at e;exact e
 refine(O7 (O8 e (h.W f)) (λ_ _ _ h=>h) (λa b s J=>J.then s (λr C h=>Ω)) (Ext.refl _) rfl j).Y ?_;rintro v ab _ ⟨x,y,m,E,h1,z,A⟩;have:=f.size;exact q v ab y m (f.F x) Ω h1 z A
def O9(w:x5)(an:Λ)(k:Int)(cs a:Λ)(v:x4)(I:x5):Prop:=
 Ext w I/\
  (¬Good a an.length->v= .tuple #[.pointer ν,Δ 1])/\
  (Good a an.length->∃e f h,v= .tuple #[Γ e,Δ 0]/\dp I e f h (fd an a) k (pC an cs a))
theorem Pa{g bD:Nat}{X:x4}{cs z:Λ}(h:dp w g bD sv an k cs)(hk:right k)(aC:aQ .i64 w X z)(cm:z.length<=12)(ae:Good z an.length->aV (fd an z)<=4096):
  aq x8 KM [Γ g,X] w (O9 w an k cs z):=by
 have az:=h;have cn:=h.2.2.1;have cp:=aC.cells;refine jh func243 ?_;refine br λg1 U c5 bG B=>?_;refine br λbH ab c6 a2 A=>?_;have s1:=bG.size;have c7:=a2.size;have c9:=B.lt;have da:=A.lt;have a6:=bG.F a2;have B:=B.W a2;have A:ak ab bH au [X]:=by rw[cp.1]at A;exact A
 rw[aF Ψ (B.cell rfl),dj fl.u];simp only[b9,bb];rw[aF Ψ (A.cell rfl)];have cq:=aC.W a6;have sub:∀{w:x5}{g:Nat}{sv:x4}{k:Int}{bg:x4},ak w g c8 [sv,Δ k,bg]->w.rangeAt g (0+0) [sv]:=λH=>pv H (by
  intro j v ac
  match j,ac with
  |0,ac=>exact ac)
 refine x2 cq cm λeA cr dw m bJ db a7 ct hm=>?_;have cu:=a7.length_eq;rw[ba au.u hm.ls];have cw:=a6.F bJ;refine lH.range m.length (λi _ _ a8=>Ext cr a8/\∀j,j<i->m[j]?=σ (j:Int)) Ω ⟨Ext.refl _,λj bc=>Ω⟩ ?_ ?_
 .rintro i _ _ a8 Y hi ⟨Z,bd⟩ ad;simp only[aW,ao];refine⟨λ_=>?_,λh=>Ω⟩;obtain⟨y,af⟩:=aJ (l:=m) hi;rw[bp au.u al.i Ψ (hm.ls.W Z) af];simp only[bO,ao,aT];refine⟨λag dc cz _=>⟨(cw.F Z).F cz,λ_=>rfl,λbe=>?_⟩,λhe=>ad _ _ _ ⟨Z,λj bc=>?_⟩⟩
  .have:=CC be a7 ct i hi;rw[af]at this;exact m6 (Z5 this).symm ag
  .by_cases cA:j=i
   .subst cA;rw[af];congr 1;omega
   .exact bd j Ω
 .rintro _ _ a8 Y ⟨Z,bd⟩;simp only[aW,ao,et];refine⟨λh=>Ω,λ_ dd cB _ _=>?_⟩;have C:=MP bd a7;have ah:=(bJ.F Z).F cB;have aB:=a6.F ah;have B:=B.W ah;have A:=A.W ah;have cC:=aC.W aB;have cD:=az.W aB;have de:=ah.size;obtain⟨⟨bg,gs,H,aD,bK⟩,_⟩:=id cD;rw[aF Ψ (A.cell rfl),ba au.u cC,aF Ψ (B.cell rfl),b5,aZ c8.p rfl,bI (cs:=[sv]) bL.p bL.i rfl (sub H)];refine(C0 aD.ls).Y ?_;rintro _ df _ ⟨rfl,K⟩;refine⟨.inl K,?_⟩;simp only[bO,ao];refine⟨λag dg cE _=>⟨(aB.F K).F cE,λ_=>rfl,λbe=>m6 (by rw[be.1]) ag⟩,λdh=>?_⟩;have bf:z.length=an.length:=Ω
  have C:Good z an.length:=by rw[<-bf,<-cu];exact C
  have di:=ah.F K;have bh:=aB.F K;have B:=B.W K;have A:=A.W K;have bM:=aC.W bh;rw[aF Ψ (A.cell rfl),ba au.u bM];refine kD au.u al.i Ω Ω λgz cF dk P bN=>?_;have cG:=aH.of (n:=z.length) (b7.full bN Ξ (by simp[maxLen];omega));generalize (x4.slice (σ ⟨gz,0,ν⟩) z.length z.length)=cH at*;have dl:=K.size;have dm:=P.size;have dn:=bN.lt;rw[aF Ψ ((A.W P).cell rfl),ba au.u (bM.W P)];have bP:=bh.F P;have aE:(fd an z).length=z.length:=ug _ _;refine b3.range z.length (λi aG=>ai (λr=>r=gz) cF aG/\aH .i64 al aG gz cH (upto (fd an z) 0 i)) Ω ⟨ai.refl _ _,by rw[qG,aE];exact cG⟩ ?_ ?_
  .rintro i aG Y hi ⟨L,aI⟩ ad;simp only[aW,ao];refine⟨λ_=>?_,λh=>Ω⟩;have aj:=bP.then L (by rintro r M rfl;omega);have aK:=P.then L (by rintro r M rfl;omega);obtain⟨p,bi⟩:=aJ (l:=z) hi;obtain⟨⟨bg,gs,H,aD,bK⟩,_⟩:=az.W aj;rw[bp au.u al.i Ψ (aC.W aj) bi,aF Ψ ((B.W aK).cell rfl),b5,aZ c8.p rfl,bI (cs:=[sv]) bL.p bL.i rfl (sub H)];refine(r6 aD.ls).Y ?_;rintro _ dq _ ⟨rfl,bQ⟩;have bR:=aI.W bQ;have cI:(upto (fd an z) 0 i).length=z.length:=by rw[pA,aE]
   rw[jk rfl au.u al.i bR Ω];refine jl al.i bR Ω λdr cJ _ bS=>?_;simp only[aT];have h1:=(C.2 i p bi).1;have am:(fd an z)[i]?=σ (jq an p):=by
    unfold fd jq;rw[u4,bi,m3 h1.1];rfl
   rw[qI am]at bS;exact ad _ ⟨(L.F (bQ.aa _)).F cJ,bS⟩
  .rintro aG Y ⟨L,aI⟩;simp only[aW,ao];refine⟨λh=>Ω,λ_=>?_⟩;have aj:=bP.then L (by rintro r M rfl;omega);have aK:=P.then L (by rintro r M rfl;omega);rw[<-aE,qH]at aI;obtain⟨⟨bg,gs,H,aD,bK⟩,_⟩:=az.W aj;rw[aF Ψ ((B.W aK).cell rfl),aO c8.p 1 H rfl];have aL:=cn.MR C rfl;have bT:=ae C;have ds:=prod_bound aL;refine(xa aI.ls).Y ?_;rintro _ bU _ ⟨bV,_,_,_,cK⟩;obtain⟨ap,E,Q,rfl,dt,dv,dx,aM⟩:=cK aL bT ⟨hk,Ω,by have:=hk.1;omega⟩;obtain⟨N,aN⟩:∃N:Nat,(aV (fd an z)).toNat=N:=⟨_,rfl⟩;rw[aN]at aM;rw[bA,bB];refine bF fl.i λbW dy dz bX av=>?_;refine bs fl.i rfl rfl av (by simp[x4.cells]) λdA cL dC av=>?_;have dD:=L.size;have dE:=bV.size;have dF:=bX.size;have bj:=bX.then cL (by rintro r M rfl;omega);have bY:=bV.F bj;have cM:=aM.W bj;have dG:=av.lt;obtain⟨⟨bk,bZ,b0,b1,cN⟩,⟨b2,b4,_⟩,_,dH⟩:=id cM;have dI:0<N:=Ω
   have dJ:ap<bU.heap.size:=by obtain⟨⟨_,_,q,_⟩,_⟩:=id aM;exact q.lt
   have dK:E<bU.heap.size:=by obtain⟨⟨_,_,_,_,q⟩,_⟩:=id aM;exact ss q Θ
   rw[aF Ψ (av.cell rfl),b5,aZ c8.p rfl,bI (cs:=[Q]) bL.p bL.i rfl (sub b0)];refine xF.Y ?_;rintro _ O _ ⟨G,aP,rfl,dL,b6⟩;have dM:=bj.size;have dN:=G.size;let S:Nat->Prop:=λr=>r=E;let R:=pC an cs z;have bl:R.length=N:=by simp only[R];rw[CI,aN]
   let cO:x5->Prop:=λI=>ak I g1 fl [Γ g]/\ak I bH au [X]/\ak I bW fl [Γ ap]/\ak I ap c8 [Q,Δ k,bk]/\
    dp I g bD sv an k cs/\aQ .i64 I X z/\aH .i64 al I bZ Q (fd an z)/\ak I aP bL [Q]/\O.heap.size<=I.heap.size
   have V:∀{a:x5},ai S O a->cO a:=by
    intro a J;have bm:=(aK.F bY).F G;have bn:=bm.put J Ω;have b8:=bh.F bn;refine⟨B.W bn,A.W bn,(av.W G).aa J (by show¬(bW=E);omega),(b0.W G).aa J (by show¬(ap=E);exact b2),az.W b8,aC.W b8,bE (b1.W G) J (λr M he=>b4 ((show r=E from he)▸M)),
     b6.aa J (by show¬(aP=E);omega),J.size⟩
   have ca:=xE (g:=aP) (B0:=O.heap.size) (sv:=Q) aL;rw[aN]at ca;refine qj.old ⟨Nat,sp,nu,#[Γ aP],0,_,_,_,λq I=>ai S O I/\aH .i64 ay I E bk (upto R 0 q),λ_ _ _=>False,rfl,ca.s,
    ?_,λ_ _ J h=>⟨h.1.W J,h.2.1.W J,X0 h.2.2 J.size⟩,λ_ _ _ J h=>⟨h.1.F (J.aa S),h.2.W J⟩,λ_ _ _ _ _ h=>h,⟨b6,(b1.W G).ls,o6 _⟩,⟨ai.refl _ _,?_⟩,?_,?_,λ_ _ h=>h.elim,λ_ _ _ h=>h.elim⟩
   .rintro _ _ _ _ ⟨_,_,_,_,rfl,_⟩;rfl
   .rw[qG,bl];exact cN.W G
   .rintro _ aX q _ dO ⟨_,_,dP⟩ ⟨am,rfl,dQ,gt,cP,dR,cQ⟩ ⟨aR,cR⟩;cases cP;let x:=du (fd an z) (q:Int);have cb:x.length=z.length:=by simp only[x];rw[kE,aE]
    intro cS W _ _;have cc:=cQ.W W;rw[ba au.u cc.ls];refine kD au.u al.i (by rw[kE];omega) (by rw[kE];omega) λgo cT dS bo cd=>?_;have cU:=aH.of (n:=(du (fd an z) (q:Int)).length) (b7.full cd Ξ (by rw[kE];simp[maxLen];omega));generalize (x4.slice (σ ⟨go,0,ν⟩) (du (fd an z) (q:Int)).length (du (fd an z) (q:Int)).length)=cV at*;have dT:=aR.size;have dU:=W.size;have dV:=bo.size;have lo:=cd.lt;have cW:ai S O cT:=aR.F ((W.F bo).aa S);have f:=V cW;rw[aF Ψ (f.2.1.cell rfl),ba au.u f.2.2.2.2.2.1];refine b3.range z.length (λj aS=>Ext cS aS/\∃y:Λ,y.length=z.length/\aH .i64 al aS go cV y/\∀(i:Nat)(p:Int),i<j->z[i]?=σ p->y[p.toNat]?=x[i]?) Ω
     ⟨bo,_,by simp[cb,x],cU,λi p hi=>Ω⟩ ?_ ?_
    .rintro j aS Y bc ⟨aw,y,bq,aU,bt⟩ ad;simp only[aW,ao];refine⟨λ_=>?_,λh=>Ω⟩;have f:=V (aR.F ((W.F aw).aa S));obtain⟨p,aY⟩:=aJ (l:=z) bc;obtain⟨u,hu⟩:=aJ (l:=x) (i:=j) Ω;have dW:=(C.2 j p aY).1;rw[bp au.u al.i Ψ f.2.2.2.2.2.1 aY,bp au.u al.i Ψ (cc.W aw).ls hu,jk (i:=p.toNat) Ω au.u al.i aU Ω];refine jl al.i aU Ω λdX cX dY cY=>?_;simp only[aT];refine ad _ ⟨aw.then cX (by rintro r M rfl;omega),_,by simpa using bq,cY,λi a1 hi ax=>?_⟩;by_cases ce:i=j
     .subst ce;rw[aY]at ax;cases ax;rw[Z6 Ω,hu]
     .have dZ:=(C.2 i a1 ax).1;have ag:p.toNat≠a1.toNat:=λhe=>by
       have:p=a1:=Ω
       subst this;exact ce (C.inj ax aY)
      rw[Y8 ag];exact bt i a1 Ω ax
    .rintro aS Y ⟨aw,y,bq,aU,bt⟩;simp only[aW,ao];refine⟨λh=>Ω,λ_ cZ cf _ _=>?_⟩;have af:=CG C (by rw[cb,bf]) (by rw[bq,bf]) λi p cg=>bt i p (x6.1 cg).1 cg;have ch:=aw.F cf;have ci:ai S O cZ:=aR.F ((W.F ch).aa S);obtain⟨f1,f2,f3,f4,f5,f6,f7,f8,f9⟩:=V ci;rw[aF Ψ (f3.cell rfl),aO c8.p 2 f4 rfl,aF Ψ (f1.cell rfl)];refine(xb f5 (aU.ls.W cf)).Y ?_;rintro _ ea _ ⟨rfl,bu⟩;refine⟨.inl bu,?_⟩;obtain⟨e,he⟩:=x1 an y cs;rw[he,bA,bB];have c0:=ci.F (bu.aa S);have cj:=(cR.W ((W.F ch).F bu));have cI:(upto R 0 q).length=N:=by rw[pA,bl]
     rw[jk rfl aA.u ay.i cj Ω];refine jl ay.i cj Ω λc1 c2 eb ck=>?_;have cl:ai S O c1:=c0.F (c2.Y λr _ h=>h);obtain⟨f1,f2,f3,f4,f5,f6,f7,f8,f9⟩:=V cl;have c3:R[q]?=σ (bz an cs y):=by
      simp only[R,pC];rw[u4,List.getElem?_range (by rw[aN];exact am),af];rfl
     rw[qI c3]at ck;exact⟨⟨f8,f7.ls,f9⟩,⟨cl,ck⟩,λh=>by cases h⟩
   .rintro q ec am ⟨bw,bx⟩;rw[show q=N from am]at bx;have f:=V bw;rw[aF Ψ (f.2.2.1.cell rfl)];intro ed bC _;obtain⟨f1,f2,f3,f4,f5,f6,f7,f8,f9⟩:=V (bw.F (bC.aa S));rw[<-bl,qH]at bx;have bm:=(aj.F bY).F G;refine⟨(bm.put bw Ω).F bC,λc4=>m6 C c4,λ_=>⟨ap,E,Q,rfl,⟨bk,bZ,f4,f7,bx.W bC⟩,⟨b2,b4,bT⟩,aL,CI _ _ _⟩⟩
def iC(l:Λ):Prop:=∀(i j:Nat)(x y:Int),i<j->l[i]?=σ x->l[j]?=σ y->x<y
theorem iC.inj(h:iC l){i:Nat}{x:Int}(hi:l[i]?=σ x)(a:l[j]?=σ x):i=j:=by
 rcases Nat.lt_trichotomy i j with h1|h1|h1
 .have:=h i j x x h1 hi a;omega
 .exact h1
 .have:=h j i x x h1 a hi;omega
def dedup(l:Λ):Nat->Λ
 |0=>[]
 |j+1=>if 0<j/\l[j]?=l[j-1]? then dedup l j else dedup l j++[l.getD j 0]
theorem Pb(l:Λ):∀j,(dedup l j).length<=j
 :=by
 intro a;induction a<;>grind [dedup]
theorem x3(a:0<j)(h:l[j]?=l[j-1]?):dedup l (j+1)=dedup l j:=by
 grind [dedup]
theorem x9{x:Int}(J:l[j]?=σ x)(h:0<j->l[j]? ≠l[j-1]?):dedup l (j+1)=dedup l j++[x]:=by
 grind [dedup]
theorem ya:∀{j:Nat},j<=l.length->(∀i,i<j->0<i->l[i]? ≠l[i-1]?)->dedup l j=l.take j
 :=by
 intro a;induction a<;>grind [dedup,x9,u9]
theorem D4{l:Λ}(V:l.Pairwise (·<= ·)):∀{j:Nat},j<=l.length->(iC (dedup l j)/\∀x,x∈dedup l j↔x∈l.take j)
 |0,_=>⟨λi j x y _ h=>by simp[dedup]at h,by grind [dedup]⟩
 |j+1,C=>by
  obtain⟨h1,r⟩:=D4 V (j:=j) Ω;have J:l[j]?=σ l[j]:=v8 Ω;by_cases q:0<j/\l[j]?=l[j-1]?
  .rw[x3 q.1 q.2];refine⟨h1,λx=>?_⟩;rw[r,u9,J];simp only[j4,j9,Y4];refine⟨.inl,λh=>h.elim id λhe=>?_⟩;subst he;have E:(l.take j)[j-1]?=σ l[j]:=by grind
   grind
  .have s:0<j->l[j]? ≠l[j-1]?:=by grind
   rw[x9 J s];have w:∀x∈dedup l j,x<l[j]:=λx F=>by
    grind [List.getElem_of_mem,V8]
   refine⟨λa b x y z f e=>?_,λx=>?_⟩
   .have A:=(x6.1 e).1;simp only[j6,W0,List.length_nil]at A;rw[V9 Ω]at f;by_cases B:b=(dedup l j).length
    .subst B;rw[X3 (o6 _),V7]at e;simp at e;subst e;exact w x (x7 f)
    .rw[V9 Ω]at e;exact h1 a b x y z f e
   grind [u9]
def sw(l:Λ):Prop:=∀(j:Nat)(x:Int),l[j]?=σ x->0<=x/\(0<j->∀y,l[j-1]?=σ y->y<x)
theorem sw.up(h:sw l):iC l:=by
 intro i j x y r J;induction j generalizing y with
 |zero=>omega
 |succ j f=>
  intro e;have s:=(x6.1 e).1;obtain⟨z,a⟩:∃z,l[j]?=σ z:=⟨_,v8 (show j<l.length by omega)⟩;have h1:=(h (j+1) y e).2 Ω z (by simpa using a);by_cases q:i=j
  .subst q;rw[J]at a;cases a;exact h1
  .have:=f z Ω a;omega
theorem Pc(h:iC l)(a:∀x∈l,0<=x):sw l:=λj x J=>⟨a x (x7 J),λf y e=>h (j-1) j y x Ω e J⟩
theorem D5{g E:Nat}{dy:x4}{cs:Λ}(h:dp w g E sv an k cs)(a:aQ .i64 w dy l):
  aq x8 KN [Γ g,dy] w λv I=>Ext w I/\∃c,v= .bool c/\(c=s2↔l.length=an.length/\sw l):=by
 obtain⟨⟨bg,gs,G,hm,f⟩,_⟩:=h;have sub:w.rangeAt g (0+0) [sv]:=pv G (by
  intro j v ac
  match j,ac with
  |0,ac=>exact ac)
 refine aE func244 ?_;rw[ba au.u a,b5,aZ c8.p rfl,bI (cs:=[sv]) bL.p bL.i rfl sub];refine(C0 hm.ls).Y ?_;rintro _ U _ ⟨rfl,q⟩;simp only[bO,ao];refine⟨λH=>⟨q,sp,rfl,(λh=>by cases h),λh=>m6 (by rw[h.1]) H⟩,λB=>?_⟩;have B:l.length=an.length:=Ω
 rw[ba au.u (a.W q)];refine cp.range l.length (λi _ ab=>Ext w ab/\∀(j:Nat)(x:Int),j<i->l[j]?=σ x->0<=x/\(0<j->∀y,l[j-1]?=σ y->y<x)) a.le ⟨q,λj x K=>Ω⟩ ?_ ?_
 .rintro i _ ab L hi ⟨e,r⟩ M;simp only[aW,ao];refine⟨λ_=>?_,λh=>Ω⟩;obtain⟨x,J⟩:=aJ (l:=l) hi;have R:=a.le;rw[bp au.u al.i Ψ (a.W e) J];refine a6 (λv N=>ab=N/\∃c,v= .bool c/\(c=sp↔0<=x/\(0<i->∀y,l[i-1]?=σ y->y<x))) ?_ ?_
  .rintro _ _ ⟨rfl,c,rfl,f⟩;rw[b4];simp only[aT];refine⟨λO=>⟨e,sp,rfl,(λh=>by cases h),λh=>?_⟩,λah=>M _ _ ⟨e,λj P K s=>?_⟩⟩
   .have:=f.2 (h.2 i x J);rw[O]at this;cases this
   .by_cases Q:j=i
    .subst Q;rw[J]at s;cases s;exact f.1 ah
    .exact r j P Ω s
  .intro az z;simp only[aW,bW,dm,ao];refine⟨λS=>z _ _ ⟨rfl,s2,rfl,(λh=>by cases h),λh=>Ω⟩,λV=>⟨λW=>?_,λX=>z _ _ ⟨rfl,sp,rfl,λ_=>⟨Ω,λh=>Ω⟩,λ_=>rfl⟩⟩⟩;obtain⟨y,A⟩:∃y,l[i-1]?=σ y:=⟨_,v8 (show i-1<l.length by omega)⟩;rw[lm Ω Ω,fz (i:=i-1) Ω au.u al.i Ψ (a.W e) A];simp only[cU];refine z _ _ ⟨rfl,_,rfl,?_⟩;rw[decide_eq_false_iff_not];refine⟨λh=>⟨Ω,λ_ Y C=>by rw[A]at C;cases C;omega⟩,λh=>by have:=h.2 Ω y A;omega⟩
 .rintro _ ab L ⟨e,r⟩;simp only[aW,ao];exact⟨λh=>Ω,λ_=>⟨e,s2,rfl,λ_=>⟨B,λj x J=>r j x (x6.1 J).1 J⟩,λ_=>rfl⟩⟩
def iZ(l:Λ)(x:Int):Int:=if x∈l then(l.idxOf x:Int)else-1
theorem D6{i:Nat}{x:Int}(h:iC l)(hi:l[i]?=σ x):iZ l x=i:=by
 have hm:x∈l:=x7 hi;have a:=List.idxOf_lt_length_of_mem hm;have e:=h.inj (by rw[v8 a,List.getElem_idxOf a]) hi;unfold iZ;rw[m3 hm,e]
theorem Pd{x:Int}(h:x∉l):iZ l x= -1:=m5 h
theorem yb{x:Int}(h:aQ .i64 w sv l)(hu:iC l):
  aq x8 Bl [sv,Δ x] w λv I=>v=Δ (iZ l x)/\Ext w I:=by
 refine aE func242 ?_;rw[ba au.u h];refine cp.range l.length (λi _ U=>Ext w U/\∀j,j<i->l[j]? ≠σ x) h.le ⟨Ext.refl _,λj q=>Ω⟩ ?_ ?_
 .rintro i _ U k hi ⟨a,e⟩ hk;simp only[aW,ao];refine⟨λ_=>?_,λh=>Ω⟩;obtain⟨y,f⟩:=aJ (l:=l) hi;rw[bp au.u al.i Ψ (h.W a) f];simp only[bl,ao,aT];refine⟨λhe=>⟨?_,a⟩,λhe=>hk _ _ ⟨a,λj q=>?_⟩⟩
  .subst he;rw[D6 hu f]
  .by_cases r:j=i
   .subst r;rw[f];intro h;exact he (Z5 h).symm
   .exact e j Ω
 .rintro _ U k ⟨a,e⟩;simp only[aW,ao];refine⟨λh=>Ω,λ_=>⟨?_,a⟩⟩;rw[Pd];intro hm;obtain⟨i,hi,he⟩:=List.getElem_of_mem hm;exact e i hi (by rw[v8 hi,he])
def gG(x d9 scope:Λ):Λ:=scope.map λp=>x.getD (d9.idxOf p) 0
theorem Pe(x d9 scope:Λ):(gG x d9 scope).length=scope.length:=by simp[gG]
theorem D7{eO q:x4}{x d9 scope:Λ}(J:aQ .i64 w eO x)(ac:aQ .i64 w q d9)(V:aQ .i64 w sv scope)(hu:iC d9)(B:∀p∈scope,p∈d9)(N:x.length=d9.length)(O:scope.length<=1000):
  aq x8 KS [eO,q,sv] w λv I=>Ext w I/\∃g,w.heap.size<=g/\aH .i64 al I g v (gG x d9 scope):=by
 refine aE func249 ?_;rw[ba au.u V];refine kD au.u al.i Ω Ω λgz U P s C=>?_;have E:=aH.of (n:=scope.length) (b7.full C Ξ (by simp[maxLen];omega));generalize (x4.slice (σ ⟨gz,0,ν⟩) scope.length scope.length)=G at*;rw[ba au.u (V.W s)];have j:=Pe x d9 scope;refine b3.range scope.length (λi ab=>Ext w ab/\aH .i64 al ab gz G (upto (gG x d9 scope) 0 i)) Ω ⟨s,by rw[qG,j];exact E⟩ ?_ ?_
 .rintro i ab H hi ⟨a,hm⟩ K;simp only[aW,ao];refine⟨λ_=>?_,λh=>Ω⟩;obtain⟨p,ae⟩:=aJ (l:=scope) hi;have y:=B p (x7 ae);have Q:=List.idxOf_lt_length_of_mem y;rw[bp au.u al.i Ψ (V.W a) ae];refine(yb (ac.W a) hu).Y ?_;rintro _ R _ ⟨rfl,f⟩;have e:iZ d9 p=(d9.idxOf p:Int):=m3 y;obtain⟨u,z⟩:∃u,x[d9.idxOf p]?=σ u:=⟨_,v8 Ω⟩;have S:(upto (gG x d9 scope) 0 i).length=scope.length:=by rw[pA,j]
  rw[fz (i:=d9.idxOf p) e au.u al.i Ψ (J.W (a.F f)) z,jk rfl au.u al.i (hm.W f) Ω];refine jl al.i (hm.W f) Ω λW L _ A=>?_;simp only[aT];have M:(gG x d9 scope)[i]?=σ u:=by
   unfold gG;rw[u4,ae,Y6,r8,z];rfl
  rw[qI M]at A;exact K _ ⟨(a.F f).then L (by rintro r X rfl;omega),A⟩
 .rintro ab H ⟨a,hm⟩;simp only[aW,ao];refine⟨λh=>Ω,λ_=>⟨a,gz,Ω,?_⟩⟩;rw[<-j,qH]at hm;exact hm
theorem D8(h:t≠[])(hw:∀b∈t,cf b=s2):lex t=([t],s2):=by
 cases t with
 |nil=>exact m6 rfl h
 |cons b q=>
  have a:q.dropWhile cf=[]:=by
   have:∀(q:Λ),(∀x∈q,cf x=s2)->q.dropWhile cf=[]/\q.takeWhile cf=q:=λq a=>by
    induction q with
    |nil=>simp
    |cons x q e=>
     have:=e λy f=>a y (.tail _ f);simp[a x (.head _),this.1,this.2]
   exact(this q λx J=>hw x (.tail _ J)).1
  have j:q.takeWhile cf=q:=by
   have:∀(q:Λ),(∀x∈q,cf x=s2)->q.takeWhile cf=q:=λq a=>by
    induction q with
    |nil=>simp
    |cons x q e=>simp[a x (.head _),e λy f=>a y (.tail _ f)]
   exact this q λx J=>hw x (.tail _ J)
  rw[B9 (hw b (.head _)),a,j]
theorem D9{p:x4}(h:aQ .u8 w p l)(e:Bytes l)(f:l.length<=100000):aq x8 AZ [p] w λv I=>Ext w I/\∃g R,v=Γ g/\w.heap.size<=g/\iV I g R (lex l).1 (lex l).2/\¬R g:=by
 refine(Ch h e f).Y ?_;rintro _ U _ ⟨j,g,rfl,q,s,a⟩;obtain⟨h1,z,A,x,bf,hm⟩:=id a;exact⟨j,g,λr=>r≠g,rfl,q,⟨s,l,0,a,λr y=>cC hm x Φ y,by rw[List.drop_zero]⟩,λh=>h rfl⟩
theorem Pf{p:x4}(h:aQ .u8 w p t)(x:Bytes t)(y:t.length<=100000)(z:t≠[])(hw:∀b∈t,cf b=s2):aq x8 K5 [p] w λv I=>Ext w I/\∃n:Int,v= .tuple #[Δ 1,Δ n,Δ 0]:=by
 have A:=D8 z hw;refine aE func274 ?_;refine(D9 h x y).Y ?_;rintro _ U _ ⟨B,g,R,rfl,G,j,H⟩;rw[A]at j;refine⟨λ_ _ _ a ab=>ai (λr=>r=g) U ab/\((a=Δ 0/\iV ab g R [t] s2)\/(a=Δ 1/\iV ab g R [] s2)),λ_ _ _ a _=>1-(b1 a).toNat,⟨ai.refl _ _,.inl ⟨rfl,j⟩⟩,?_⟩;rintro _ _ _ _ ab ⟨q,⟨rfl,e⟩|⟨rfl,e⟩⟩
 .refine (r3 e).Y ?_;rintro v C _ ⟨f,E,n,rfl⟩;rw[fN,fO,fP,bl,ao];refine⟨λ_=>?_,λh=>m6 rfl h⟩;rw[aT,lm Ω Ω];exact⟨⟨q.F f,.inr ⟨rfl,E⟩⟩,by simp[b1]⟩
 .refine (r3 e).Y ?_;rintro v C _ ⟨f,n,rfl⟩;rw[fN,fO,fP,bl,ao];refine⟨λh=>by simp at h,λ_=>?_⟩;rw[bl,ao];refine⟨λh=>by simp at h,λ_=>?_⟩;have s:=B.then (q.F f) (λr J he=>by have he:r=g:=he;omega);rw[ba cV.u (h.W s)];exact⟨s,_,rfl⟩
theorem Pg(a:Bytes t)(e:t.length<=100000)(f:t≠[])(hw:∀b∈t,cf b=s2):aq x8 KH [ch t] w λv I=>v= .bool s2/\Ext w I:=by
 have y:=D8 f hw;refine aE func234 ?_;refine xf df.u cV.u cT.u a Ω λbv U j z _=>?_;refine(Pf z a e f hw).Y ?_;rintro _ ab _ ⟨q,n,rfl⟩;rw[fN,fO,fP];refine xf df.u cV.u cT.u a Ω λK L s A _=>?_;refine(D9 A a e).Y ?_;rintro _ M _ ⟨B,g,R,rfl,N,x,O⟩;rw[y]at x;refine(r3 x).Y ?_;rintro _ C _ ⟨E,_,m,rfl⟩;rw[fN,fO,fP];have G:=(((j.F q).F (s.F B))).then E (λr P he=>by
  have he:r=g:=he;have:=j.size;have:=q.size;have:=s.size;omega)
 refine a6 (λv H=>C=H/\v= .bool s2) ?_ ?_
 .rintro _ _ ⟨rfl,rfl⟩;exact⟨rfl,G⟩
 .intro az J;rw[bl,ao];refine⟨λ_=>?_,λh=>m6 rfl h⟩;rw[bl,ao];refine⟨λ_=>?_,λh=>m6 rfl h⟩;rw[B5 a a];exact J _ _ ⟨rfl,by rw[ms rfl]⟩
theorem Ph{x:Int}:aq x8 wT [Δ x] w λv I=>v= .bool (decide (¬jM x))/\Ext w I:=by
 refine aE func233 ?_;refine a6 (λv U=>w=U/\v= .bool (decide (¬jM x))) ?_ ?_
 .rintro _ _ ⟨rfl,rfl⟩;exact⟨rfl,Ext.refl _⟩
 .intro az e;rw[aW,ao];refine⟨λh=>e _ _ ⟨rfl,by rw[ms];intro a;have:=a.1;omega⟩,λh=>?_⟩;rw[bW];refine e _ _ ⟨rfl,?_⟩;congr 1;rw[U1,ro,ro];exact⟨λf a=>by have:=a.2;omega,λf=>by
   by_cases j:32<x
   .exact j
   .exact m6 ⟨Ω,Ω⟩ f⟩
theorem Pj(h:aQ .i64 w sv l)(e:∀x∈l,jM x):
  aq x8 wS [sv,.func (.func wT) #[] #[]] w λv I=>v= .bool sp/\Ext w I:=by
 refine aE func231 ?_;refine aq.Y (K:=λv I=>v=Δ (-1)/\Ext w I) ?_ ?_
 .refine aE func136 ?_;rw[ba au.u h];refine cp.range l.length (λ_ _ U=>Ext w U) h.le (Ext.refl _) ?_ ?_
  .rintro i _ U k hi J hk;refine bK Ω ?_;obtain⟨x,a⟩:=aJ (l:=l) hi;rw[bp au.u al.i Ψ (h.W J) a];show aq x8 wT [Δ x] U _;refine Ph.Y ?_;rintro _ ab _ ⟨rfl,f⟩;rw[ao];refine⟨λj=>m6 (e x (x7 a)) j,λ_=>?_⟩;rw[aT];exact hk _ _ (J.F f)
  .rintro _ U k J;rw[aW,ao];exact⟨λh=>Ω,λ_=>⟨rfl,J⟩⟩
 .rintro _ U _ ⟨rfl,J⟩;rw[cU];exact⟨rfl,J⟩
theorem uP{m:Bool}{S R:aj}{d:iB}(h:aw.rep m S R w cs d):∃sv g a aX gs,cs=[sv,Γ g]/\aQ .i64 w sv d.1/\gF w g a aX gs d.2.an d.2.k d.2.o d.2.D:=by
 obtain⟨c,e,A,B,rfl,_,_,_,h1,f⟩:=h;have h1:=h1;obtain⟨u,rfl⟩:=X9.1 (show c.length=1 from aw.len h1);obtain⟨g,m,sv,gs,rfl,j,_⟩:=f;exact⟨u,g,m,sv,gs,rfl,ew h1,j⟩
theorem Pk{V:Nat}{f:cg}{d:iB}{x:cI}{m:Bool}{S R:aj}(af:mO w V f)(ah:fC N f)(ai:x∈f.ho)(am:su f.k x d)(ap:aw.rep m S R w cs d):
  aq x8 K6 [Γ V,.agg cs.toArray] w λv I=>v= .bool s2/\Ext w I:=by
 obtain⟨hv,aK,gz,aL,W,X,_,_⟩:=af;obtain⟨sv,ag,aM,aX,gs,rfl,s,J⟩:=uP ap;obtain⟨ax,Y,ay,aN,aQ,aR⟩:=am;obtain⟨E,aS,aU⟩:=ah.ho x ai;rw[ax]at s;refine aE func276 ?_;refine br λav U aV A G=>?_;have G:ak U av cR [sv,Γ ag]:=by obtain⟨_,_,_,rfl⟩:=dr s;exact G
 refine a6 (λv ab=>Ext U ab/\v= .bool sp) ?_ ?_
 rotate_left
 .intro az K;intro ab q _ _;have z:=G.W q;rw[aP cR.p 1 z rfl,dj fc.u];simp only[b9,bb];rw[aP cR.p 1 z rfl,aO cM.p 1 (W.W (A.F q)) rfl];refine(Ns (J.W (A.F q)).is).Y ?_;rintro _ B _ ⟨rfl,a⟩;refine⟨.inl a,?_⟩;rw[bO,ao];refine⟨λh=>m6 ay h,λ_=>?_⟩;have C:=z.W a;have L:=q.F a;rw[aP cR.p 1 C rfl,aP cR.p 0 C rfl,ba au.u (s.W (A.F L))];refine(Nt (J.W (A.F L)).is).Y ?_;rintro _ H _ ⟨rfl,e⟩;refine⟨.inl e,?_⟩;rw[bO];refine K _ _ ⟨L.F e,?_⟩;rw[rc];intro h;exact h (by rw[Y,E.d6,r9])
 rintro _ ab ⟨q,rfl⟩;rw[bb];have z:=G.W q;have M:=A.F q;rw[aP cR.p 0 z rfl,ba au.u (s.W M)];refine cp.range x.scope.length (λ_ _ B=>Ext ab B) Ω (Ext.refl _) ?_ ?_
 rotate_left
 .rintro _ B k a;rw[aW,ao];exact⟨λh=>Ω,λ_=>⟨rfl,M.F a⟩⟩
 rintro i _ B k hi a hk;obtain⟨v,ac⟩:=aJ (l:=x.scope) hi;have aY:=E.scope.2 v (x7 ac);have O:=M.F a;have C:=z.W a;have Z:=W.W O;have aA:f.d6[v.toNat]?=σ (f.d6.getD v.toNat 0):=by
  rw[r8,v8 Ω];rfl
 refine bK Ω ?_;rw[bp au.u al.i Ψ (s.W O) ac];refine a6 (λb H=>Ext B H/\b= .bool sp) ?_ ?_
 .rintro _ H ⟨e,rfl⟩;rw[bb,aT];exact hk _ _ (a.F e)
 .intro az K;intro H e _ _;have P:=O.F e;refine ck Ω ?_;rw[aO cM.p 2 (Z.W e) rfl,ba au.u (X.ls.W P),cU,ao];refine⟨λh=>Ω,λ_=>?_⟩;rw[aP cR.p 0 (C.W e) rfl];refine(D3 (s.W P)).Y ?_;rintro _ aZ _ ⟨aa,r,rfl,aB⟩;have aC:r=(i:Int):=(aB i ac).2 λj a1 aD=>by have:=lT E.scope.1 aD ac;omega
  subst aC;have ad:=P.F aa;have Q:=e.F aa;rw[bO,ao];refine⟨λh=>m6 rfl h,λ_=>?_⟩;rw[aP cR.p 1 (C.W Q) rfl,aO cM.p 2 (Z.W Q) rfl];refine om (y:=v) (i:=v.toNat) Ω au.u al.i (X.ls.W ad) aA λb o aG=>?_;rw[aF Ψ aG];refine(xI (J.W ad).is).Y ?_;rintro a2 a7 _ ⟨ae,a8,bc,aH⟩;refine⟨.inl ae,?_⟩;have aI:d.2.an[i]?=σ (f.d6.getD v.toNat 0):=by
   rw[Y,E.d6,u4,ac];rfl
  rw[bp au.u al.i Ψ aH.ls aI,bO];exact K _ _ ⟨Q.F ae,by rw[rc (λh=>h rfl)]⟩
theorem Pl{f:cg}{d:iB}{x:cI}{m:Bool}{S R:aj}(q:mO w j f)(r:fC N f)(s:x∈f.ho)(y:su f.k x d)(a:aw.rep m S R w cs d):
  aq x8 wU [Γ j,.agg cs.toArray] w λv I=>v= .bool sp/\Ext w I:=by
 refine aE func237 ?_;refine br λav U C e h=>?_;have z:cs.length=2:=aw.len a;have h:ak U av cR cs:=by
  obtain⟨sv,ag,E,aX,gs,rfl,A,G⟩:=uP a;obtain⟨_,_,_,rfl⟩:=dr A;exact h
 rw[bI cR.p cR.i z h.range];refine(Pk (q.W e) r s y (bD a e)).Y ?_;rintro _ ab _ ⟨rfl,B⟩;rw[bR];exact⟨rfl,e.F B⟩
theorem Pm{e:Nat}{f:cg}{q:x4}{a:List iB}{m:Bool}{S R:aj}(z:mO w e f)(A:fC N f)(j:aw.rep m S R w [q] a)(r:uO f.k f.ho a):
  aq x8 KJ [q,.func (.func wU) #[Γ e] #[]] w λv I=>v= .bool sp/\Ext w I:=by
 refine aE func236 ?_;refine aq.Y (K:=λv I=>v=Δ (-1)/\Ext w I) ?_ ?_
 .refine aE func275 ?_;rw[ij dT.u j];refine cp.range a.length (λ_ _ U=>Ext w U) (pt j) (Ext.refl _) ?_ ?_
  .rintro i _ U k hi J hk;refine bK Ω ?_;obtain⟨d,s⟩:=aJ (l:=a) hi;obtain⟨x,y⟩:∃x,f.ho[i]?=σ x:=⟨_,v8 (by have:=r.1;omega)⟩;refine nH (α:=iB) cR.p rfl dT.u cR.i (bD j J) s λcs B=>?_;show aq x8 wU [Γ e,.agg cs.toArray] U _;refine(Pl (z.W J) A (x7 y) (r.2 i x d y s) B).Y ?_;rintro _ ab _ ⟨rfl,C⟩;rw[bb,aT];exact hk _ _ (J.F C)
  .rintro _ U k J;rw[aW,ao];exact⟨λh=>Ω,λ_=>⟨rfl,J⟩⟩
 .rintro _ U _ ⟨rfl,J⟩;rw[cU];exact⟨rfl,J⟩
def nP(a:List cI):Nat:=(a.map λx=>x.lines.length).sum
theorem Pn{ae:Nat}{f:cg}(af:mO w ae f)(r:fC N f)(be:N<=60000)(S:f.name≠[]/\∀b∈f.name,cf b=s2):
  aq x8 J5 [Γ ae] w λv I=>Ext w I/\∃e:Int,v=Δ e/\(nP f.ho<=16384->e=0):=by
 obtain⟨hv,bf,gz,y,A,V,W,B⟩:=id af;have bg:=r.name;have aB:Bytes f.name:=λb aC=>by
  have:=rs (S.2 b aC);omega
 refine aE func181 ?_;rw[dj wX.u];simp only[b9,bb];refine a6 (λv U=>Ext w U/\v= .bool sp) ?_ ?_
 rotate_left
 .intro az s;rw[aO cM.p 0 A rfl];refine(Pg aB Ω S.1 S.2).Y ?_;rintro _ U _ ⟨rfl,q⟩;rw[bR,Y7,bb];rw[aO cM.p 2 (A.W q) rfl,ba au.u (V.ls.W q),bl,ao];refine⟨λh=>by have:=r.d6.1;omega,λ_=>?_⟩;rw[aO cM.p 2 (A.W q) rfl];refine(Pj (V.ls.W q) r.d6.2.2).Y ?_;rintro _ ab _ ⟨rfl,C⟩;have ah:=q.F C;rw[bb,aO cM.p 1 (A.W ah) rfl];refine BK.Y ?_;rintro _ E _ ⟨rfl,G⟩;have M:=ah.F G;rw[ms (show right f.k from r.k),bR,Y7,bb,aO cM.p 3 (A.W M) rfl,lM];refine(Pm (af.W M) r (bD W M) B).Y ?_;rintro _ ai _ ⟨rfl,aD⟩;exact s _ _ ⟨M.F aD,rfl⟩
 rintro _ U ⟨q,rfl⟩;rw[bb];have O:=A.W q;refine a6 (λv ab=>U=ab/\v= .bool sp) ?_ ?_
 rotate_left
 .intro az s;rw[aO cM.p 0 O rfl,px df.u,bW,ao];refine⟨λh=>Ω,λ_=>?_⟩;rw[aO cM.p 2 O rfl,ba au.u (V.ls.W q),bW,ao];refine⟨λh=>by have:=r.d6.2.1;omega,λ_=>?_⟩;rw[aO cM.p 3 O rfl,ij dT.u (bD W q),bW];exact s _ _ ⟨rfl,by rw[rc];have:=r.mG;have:=B.1;omega⟩
 rintro _ _ ⟨rfl,rfl⟩;have aj:=bD W q;rw[aO cM.p 3 O rfl,ij dT.u aj];refine⟨λaF aG X ab=>∃i n:Nat,X=Δ (i:Int)/\i<=y.length/\aF=Δ (n:Int)/\aG= .bool sp/\Ext U ab/\n<=nP (f.ho.take i)/\n<=i*60000,λ_ _ X _=>y.length-(b1 X).toNat,
  ⟨0,0,rfl,W3 _,rfl,rfl,Ext.refl _,W3 _,Ω⟩,?_⟩
 rintro _ _ _ ab ⟨i,n,rfl,hi,rfl,rfl,C,aI,bh⟩;have bi:y.length<=256:=by rw[B.1];exact r.mG
 rw[aW,ao];refine⟨λak=>?_,λbj=>?_⟩
 .have ak:i<y.length:=Ω
  obtain⟨d,am⟩:=aJ (l:=y) ak;obtain⟨x,Y⟩:∃x,f.ho[i]?=σ x:=⟨_,v8 (by have:=B.1;omega)⟩;have P:=B.2 i x d Y am;obtain⟨Q,aK,aL⟩:=r.ho x (x7 Y);have bk:=Q.len;refine jF (λa b E=>Ext ab E/\a=Δ ((n+d.2.D.length:Nat):Int)/\b= .bool sp) ?_ ?_
  .rintro _ _ E ⟨G,rfl,rfl⟩;rw[aT,lm Ω Ω];have aM:=P.2.2.2.2.1;refine⟨⟨i+1,n+d.2.D.length,rfl,Ω,rfl,rfl,C.F G,?_,?_⟩,by simp only[b1];omega⟩
   .have e:nP (f.ho.take (i+1))=nP (f.ho.take i)+x.lines.length:=by
     unfold nP;rw[u9,Y,j4,Z0,List.sum_append,List.map_cons,List.map_nil,List.sum_cons,List.sum_nil,Nat.add_zero]
    omega
   .have:(i+1)*60000=i*60000+60000:=Ω
    have bm:d.2.D.length<=60000:=Ω
    omega
  .intro az s;refine nH (α:=iB) cR.p rfl dT.u cR.i (bD aj C) am λcs aN=>?_;obtain⟨sv,ag,bn,aX,gs,rfl,aQ,ap⟩:=uP aN;refine bF cR.i λav E bo G aR=>?_;refine cd (vs:=[sv,Γ ag]) cR.i rfl rfl (by intro v ac;simp at ac;rcases ac with rfl|rfl<;>first|exact aQ.cells.2|rfl) aR λai aS bq aw=>?_;have Z:Ext ab ai:=G.put aS Ω;rw[aP cR.p 1 aw rfl];refine(Nr (ap.W Z).is).Y ?_;rintro _ br _ ⟨rfl,aa⟩;have aM:=P.2.2.2.2.1;rw[aT,lm Ω Ω,aP cR.p 1 (aw.W aa) rfl];refine(xI ((ap.W Z).W aa).is).Y ?_;rintro bs ad _ ⟨aU,bt,bu,ax⟩;rw[ba au.u ax.ls];have bw:d.2.an.length<=6:=by rw[P.2.1,Q.d6,r9];exact aK
   refine cp.range d.2.an.length (λj out R=>Ext ad R/\∃gr,ad.heap.size<=gr/\aH .i64 ay R gr out (d.2.an.take j)) Ω ⟨Ext.refl _,ad.heap.size,o6 _,aH.nil _ _ _ _⟩ ?_ ?_
   .rintro j out R k aV ⟨H,gr,aY,J⟩ hk;obtain⟨z,K⟩:=aJ (l:=d.2.an) aV;refine bK Ω ?_;rw[bp au.u al.i Ψ (ax.ls.W H) K];refine e3 aA.u ay.i rfl λa ga aZ bx L a1=>?_;refine kC aA.u ay.i rfl (J.W L) a1.ls Θ Θ λbz a2 bA bB a7 a8=>?_;have bC:=H.size;have bE:=L.size;rw[aT];refine hk _ _ ⟨(H.F L).put a8 Ω,a2,Ω,?_⟩;rw[u9,K];exact a7
   .rintro out R k ⟨H,gr,aY,J⟩;rw[o9]at J;refine ck Ω ?_;rw[bb];have bc:d.2.an=x.d6:=P.2.1;rw[bc]at J;refine(CX J.ls λz K=>?_).Y ?_
    .rw[Q.d6]at K;obtain⟨v,ac,rfl⟩:=l9.1 K;have bG:=Q.scope.2 v ac;refine(r.d6.2.2 _ ?_).1;rw[r8,v8 Ω];exact S3 _
    .rintro _ aZ _ ⟨rfl,L⟩;refine s _ _ _ ⟨(((Z.F aa).F aU).F H).F L,by congr 1,by rw[aL]⟩
 .have bd:i=y.length:=Ω
  subst bd;rw[B.1,o9]at aI;refine a6 (λv E=>ab=E/\v= .bool (decide (16384<(n:Int)))) ?_ ?_
  .rintro _ _ ⟨rfl,rfl⟩;rw[ao];refine⟨λh=>⟨q.F C,5,rfl,λbH=>Ω⟩,λh=>⟨q.F C,0,rfl,λ_=>rfl⟩⟩
  .intro az s;rw[bb,bW];exact s _ _ ⟨rfl,rfl⟩
theorem uQ:∀{a b:Λ}{i:Nat},(∀(j:Nat)(x y:Int),j<i->a[j]?=σ x->b[j]?=σ y->x=y)->i<=a.length->i<=b.length->jV a b=jV (a.drop i) (b.drop i)
 |_,_,0,_,_,_=>Ξ
 |[],_,i+1,_,h,_=>by simp at h
 |_::_,[],i+1,_,_,h=>by simp at h
 |x::a,y::b,i+1,he,h1,e=>by
  have f:=he 0 x y Ω rfl rfl;subst f;simp only[jV,Int.lt_irrefl,if_false,List.drop_succ_cons];exact uQ (λj u v q hu ac=>he (j+1) u v Ω hu ac) (by simpa using h1) (by simpa using e)
theorem Ea{x:Int}:aq x8 cmp_isNaN_int [Δ x] w λv I=>v= .bool sp/\Ext w I:=by
 refine aE func253 ?_;simp only[bO];exact⟨Ξ,Ext.refl _⟩
theorem Eb{x:Int}:aq x8 Kc [Δ x,Δ y] w λv I=>v=Δ (if x<y then-1 else if y<x then 1 else 0)/\Ext w I:=by
 refine aE func194 ?_;refine Ea.Y ?_;rintro _ U _ ⟨rfl,a⟩;refine Ea.Y ?_;rintro _ ab _ ⟨rfl,e⟩;simp only[bb,aW,bW,ao];exact⟨λh=>⟨by rw[m3 h],a.F e⟩,λh=>⟨λf=>⟨by rw[m5 h,m3 f],a.F e⟩,λf=>⟨by rw[m5 h,m5 f],a.F e⟩⟩⟩
theorem Po{a b:Λ}(s:aQ .i64 w bx a)(A:aQ .i64 w bv b):aq x8 Kd [bx,bv] w λv I=>v=Δ (jV a b)/\Ext w I:=by
 refine aE func195 ?_;have aa:=s.le;rw[ba au.u s];refine⟨λ_ B U=>∃i:Nat,B=Δ (i:Int)/\i<=a.length/\i<=b.length/\Ext w U/\∀(j:Nat)(x y:Int),j<i->a[j]?=σ x->b[j]?=σ y->x=y,λ_ B _=>a.length-(b1 B).toNat,⟨0,rfl,W3 _,W3 _,Ext.refl _,λj x y P=>Ω⟩,?_⟩;rintro _ _ U ⟨i,rfl,Q,R,f,K⟩;have q:=uQ K Q R;simp only[aW,ao];refine⟨λz=>?_,λac=>?_⟩
 .have z:i<a.length:=Ω
  obtain⟨x,J⟩:=aJ (l:=a) z;have L:a.drop i=x::a.drop (i+1):=by rw[X2 z,(x6.1 J).2]
  rw[bp au.u al.i Ψ (s.W f) J,ba au.u (A.W f)];simp only[cU,ao];refine⟨λh=>?_,λh=>?_⟩
  .have:b.drop i=[]:=by rw[List.drop_eq_nil_iff];omega
   rw[this,L]at q;exact⟨by rw[q];rfl,f⟩
  have C:i<b.length:=Ω
  obtain⟨y,E⟩:=aJ (l:=b) C;have S:b.drop i=y::b.drop (i+1):=by rw[X2 C,(x6.1 E).2]
  rw[bp au.u al.i Ψ (A.W f) E];refine Eb.Y ?_;rintro _ ab _ ⟨rfl,M⟩;rw[L,S]at q;simp only[jV]at q;simp only[bO,ao,aT];refine⟨λN=>⟨?_,f.F M⟩,λV=>?_⟩
  .rw[q];by_cases h1:x<y
   .rw[m3 h1,m3 h1]
   .by_cases r:y<x
    .rw[m5 h1,m3 r,m5 h1,m3 r]
    .rw[m5 h1,m5 r]at N;exact m6 rfl N
  .rw[lm Ω Ω];refine⟨⟨i+1,rfl,z,C,f.F M,λj W X P G H=>?_⟩,by simp only[b1];omega⟩;by_cases Y:j=i
   .subst Y;rw[J]at G;rw[E]at H;cases G;cases H;have O:=X1.1 V;by_cases h1:x<y
    .rw[m3 h1]at O;omega
    .by_cases r:y<x
     .rw[m5 h1,m3 r]at O;omega
     .omega
   .exact K j W X Ω G H
 .have Z:i=a.length:=Ω
  subst Z;rw[List.drop_length]at q;rw[ba au.u (s.W f),ba au.u (A.W f)];simp only[aW,ao];refine⟨λh=>⟨?_,f⟩,λh=>⟨?_,f⟩⟩
  .obtain⟨y,l,e⟩:∃y l,b.drop a.length=y::l:=⟨_,_,X2 Ω⟩;rw[q,e];rfl
  .have:b.drop a.length=[]:=by rw[List.drop_eq_nil_iff];omega
   rw[q,this];rfl
theorem Pp{x:Int}{f:x4}(h:aQ .i64 w f [x,y]):aq x8 Kb [f] w λv I=>v=Δ (if x≠0 then x else y)/\Ext w I:=by
 refine aE func193 ?_;rw[ba au.u h];refine cp.range 2 (λi _ U=>Ext w U/\(1<=i->x=0)/\(2<=i->y=0)) Ω ⟨Ext.refl _,Ω,Ω⟩ ?_ ?_
 .rintro i _ U k hi ⟨a,h1,e⟩ hk;rw[aW,ao];refine⟨λ_=>?_,λh=>by simp at h;omega⟩
  match i,hi,h1,e,hk with
  |0,_,h1,e,hk=>
   rw[bp au.u al.i Ψ (h.W a) rfl,bO,ao];refine⟨λj=>⟨by rw[m3 j],a⟩,λhe=>?_⟩;rw[aT];exact hk _ _ ⟨a,λ_=>X1.1 he,λh=>Ω⟩
  |1,_,h1,e,hk=>
   rw[bp au.u al.i Ψ (h.W a) rfl,bO,ao];have q:=h1 (o6 _);refine⟨λj=>⟨by rw[m5 Ω],a⟩,λhe=>?_⟩;rw[aT];exact hk _ _ ⟨a,λ_=>q,λ_=>X1.1 he⟩
 .rintro _ U k ⟨a,h1,e⟩;have q:=h1 Ω;have r:=e Ω;rw[aW,ao];exact⟨λh=>by simp at h,λ_=>⟨by rw[m5 Ω,r],a⟩⟩
structure cF where
 sv:x4
 g:Nat
 sc:Λ
 cs:Λ
def ff(h:cF):List x4:=[h.sv,Γ h.g]
abbrev lk(h:cF):x4:=.agg (ff h).toArray
def sx(h:cF):Int:=dq h.sc
def kl(w:x5)(a:Nat)(h:cF):Prop:=(∃e,aH .i64 al w e h.sv h.sc)/\(∀r,lc h.sv r->r≠a)/\lV h.sc
theorem kl.aa{h:cF}(ax:kl w a h)(J:ai S w I)(e:∀r,lc h.sv r->¬S r):kl I a h:=by
 obtain⟨⟨f,hm⟩,j⟩:=ax;exact⟨⟨f,bE hm J e⟩,j⟩
theorem kl.one{h:cF}(ax:kl w a h):∀u∈ff h,u.oneCell'=s2:=by
 obtain⟨⟨e,hm⟩,_⟩:=ax;intro u hu;simp[ff]at hu;rcases hu with rfl|rfl
 .exact hm.ls.cells.2
 .rfl
def fp(w:x5)(g:Nat)(v:x4)(L:List cF):Prop:=bn ff 2 c7 w g v L/\∀h∈L,kl w g h
theorem fp.W{g:Nat}{L:List cF}(h:fp w g v L)(J:Ext w I):fp I g v L:=⟨h.1.W J,λx a=>(h.2 x a).aa (J.aa λ_=>False) λ_ _ h=>h⟩
theorem fp.at{g:Nat}{L:List cF}(h:fp w g v L){i:Nat}{x:cF}(hi:L[i]?=σ x):kl w g x:=h.2 x (x7 hi)
theorem uR{g:Nat}{L:List cF}{i:Nat}{x:cF}(a:y=(i:Int))(h:fp w g v L)(hi:L[i]?=σ x):
  ad x8 (n9 gQ v (Δ y)) w (λp=>ad x8 (u5 c7 p) w K)=K (lk x):=by
 rw[ct a gQ.u c7.i h.1 (x6.1 hi).1,bI c7.p c7.i rfl (h.1.range hi)]
theorem Pq{g:Nat}{L:List cF}{i:Nat}{x:cF}{K:Unit->x5->Prop}(j:y=(i:Int))(h:fp w g v L)(hi:i<L.length)(hk:kl w g x)(q:∀I,ai (λr=>hx v r) w I->fp I g v (L.set i x)->K () I):ad x8 (n9 gQ v (Δ y)) w λp=>aL x8 (o7 c7 p (lk x)) w K:=by
 rw[ct j gQ.u c7.i h.1 hi];refine xL c7.i h.1 rfl hk.one hi λI e _ be=>q I e ⟨be,λz a=>?_⟩;rcases U5 a with a|rfl
 .exact (h.2 z a).aa e λr f he=>(h.2 z a).2.1 r f (h.1.lc he).1
 .exact hk.aa e λr f he=>hk.2.1 r f (h.1.lc he).1
abbrev Pr:x4:=.func (.func Bd) #[] #[]
def yc(a b:cF):Int:=let c:Int:=if(a.sc.length:Int)<b.sc.length then-1 else if(b.sc.length:Int)<a.sc.length then 1 else 0
 if c≠0 then c else jV a.sc b.sc
theorem Ps{a b:cF}(f:lV a.sc)(j:lV b.sc):yc a b<0↔sx a<sx b:=by
 have aC:=(xV f j).1;unfold sx yc;simp only;generalize q:(if(a.sc.length:Int)<b.sc.length then(-1:Int)else if(b.sc.length:Int)<a.sc.length then 1 else 0)=c;rw[aC,<-q];by_cases h1:(a.sc.length:Int)<b.sc.length
 .rw[m3 h1,m3 Ω];exact⟨λ_=>.inl Ω,λ_=>Ω⟩
 .by_cases e:(b.sc.length:Int)<a.sc.length
  .rw[m5 h1,m3 e,m3 Ω];exact⟨λh=>Ω,λh=>by rcases h with h|h<;>omega⟩
  .rw[m5 h1,m5 e,m5 Ω];exact⟨λh=>.inr ⟨Ω,h⟩,λh=>by rcases h with h|h;omega;exact h.2⟩
theorem Pt{y:Nat}{a b:cF}(A:kl w y a)(B:kl w y b):aq x8 Bd [lk a,lk b] w λv I=>Ext w I/\v=Δ (yc a b):=by
 obtain⟨⟨ga,r⟩,_,L⟩:=A;obtain⟨⟨M,s⟩,_,N⟩:=B;refine aE func192 ?_;refine br λg1 U O C h=>?_;refine br λE ab P z j=>?_;have h:ak U g1 c7 [a.sv,Γ a.g]:=by
  obtain⟨_,_,_,e⟩:=dr r.ls;simp only[lk,ff,e]at h ⊢;exact h
 have j:ak ab E c7 [b.sv,Γ b.g]:=by
  obtain⟨_,_,_,e⟩:=dr s.ls;simp only[lk,ff,e]at j ⊢;exact j
 intro Q x _ _;have f:=(C.F z).F x;have f1:=(h.W z).W x;have f2:=j.W x;rw[aP c7.p 0 f1 rfl,ba au.u (r.ls.W f),aP c7.p 0 f2 rfl,ba au.u (s.ls.W f),
  aP c7.p 0 f1 rfl,aP c7.p 0 f2 rfl]
 refine Eb.Y ?_;rintro _ R _ ⟨rfl,q⟩;refine⟨.inl q,?_⟩;refine(Po ((r.ls.W f).W q) ((s.ls.W f).W q)).Y ?_;rintro _ S _ ⟨rfl,G⟩;refine qB (l:=[if(a.sc.length:Int)<b.sc.length then(-1:Int)else if(b.sc.length:Int)<a.sc.length then 1 else 0,jV a.sc b.sc]) au.u al.i Ω rfl Ψ λV W X Y H J=>?_;refine(Pp J.ls).Y ?_;rintro _ Z _ ⟨rfl,K⟩;exact⟨((((f.F q).F G).F H).F K),rfl⟩
theorem Pu{g:Nat}{L:List cF}(h:fp w g v L)(B:L.length<65536):
  aq x8 Ka [v,Pr] w λ_ I=>ai (λr=>hx v r) w I/\∃M,M.Perm L/\uB sx M 0 M.length/\fp I g v M:=by
 have j:∀{s:x5}{a:cF},ai (λr=>r=g) w s->kl w g a->kl s g a:=λf e=>e.aa f λr z he=>e.2.1 r z he;refine(Dj ND (G:=kl w g) (num:=sx) NH NI (λa e=>e.one) (λa _=>rfl) (λa b e A=>Ps e.2.2 A.2.2) (Enters.of x8 NJ rfl Ψ) h.1 h.2 B λs a b f e A=>Pt (j f e) (j f A)).Y ?_;rintro _ I _ ⟨f,M,ae,hu,hm⟩;have C:ai (λr=>r=g) w I:=f.Y λr _ z=>(h.1.lc z).1;exact⟨f,M,ae,λp q x y _ E _ J H=>hu p q x y E J H,hm,λx J=>j C (h.2 x (ae.mem_iff.1 J))⟩
theorem Pv{m:Λ}(ac:nO l)(f:l.Nodup)(ae:m.Perm l)(V:m.Pairwise (·<= ·)):m=bH l:=by
 refine xX ?_ (xU l) λx=>?_
 .have j:=ae.nodup_iff.2 f;exact(List.Pairwise.and V j).imp λ{a b}h=>by
   obtain⟨h1,e⟩:=h;have e:=e;omega
 .rw[ae.mem_iff,DH ac]
theorem Pw(h:∀z∈l,1<=z/\z<=32)(a:dL l=sp):aV l<=4096:=by
 have:=of_decide_eq_false a;rw[xZ h]at this;omega
theorem Px{f:cg}{d:iB}{x:cI}{m:Bool}{S R:aj}(h:fC N f)(bi:N<=60000)(P:x∈f.ho)(az:su f.k x d)(aA:aw.rep m S R w cs d):
  aq x8 J6 [.agg cs.toArray] w λv I=>Ext w I/\∃sv gs E Q W,v= .tuple #[sv,Γ E]/\w.heap.size<=gs/\aH .i64 al I gs sv (bH x.scope)/\dp I E Q W (b6 f.d6 (bH x.scope)) f.k (jP f.d6 f.k x).2:=by
 obtain⟨sv,ag,bj,aX,bk,rfl,G,aB⟩:=uP aA;obtain⟨aD,aF,aG,bl,bm,aI⟩:=az;obtain⟨a,aK,aL⟩:=h.ho x P;have ac:=uG a h.d6.2.1;have bn:=a.len;rw[aD]at G;have aM:∀z∈x.d6,1<=z/\z<=32:=λz ad=>by
  rw[a.d6]at ad;obtain⟨v,aN,rfl⟩:=l9.1 ad;have bo:=a.scope.2 v aN;refine h.d6.2.2 _ ?_;rw[r8,v8 Ω];exact S3 _
 have aO:=Pw aM aL;have X:=uF ac a.scope.1;have bq:(bH x.scope).length<=6:=by rw[X.length_eq];exact aK
 refine aE func182 ?_;refine br λav U bs af y=>?_;have y:ak U av cR [sv,Γ ag]:=by obtain⟨_,_,_,rfl⟩:=dr G;exact y
 rw[aP cR.p 1 y rfl];refine(DX (aB.W af).is Ω).Y ?_;rintro _ ab _ ⟨Y,_,A⟩;rw[aF]at A;obtain⟨g,bt,bu,aQ,rfl,bw,bx,A,ah⟩:=A aO;rw[aG]at A;rw[bA,bB,aP cR.p 0 (y.W Y) rfl];have B:=af.F Y;refine x2 (G.W B) Ω λv bC gs bD H bE ae V J=>?_;have aR:=Pv ac a.scope.1 ae V;subst aR;have bF:=B.size;rw[ba au.u J.ls];refine kD au.u al.i Ω Ω λgo aS bG K am=>?_;have aU:=aH.of (b7.full (n:=(bH x.scope).length) am Ξ (by simp[maxLen];omega));rw[ba au.u (J.ls.W K)];have bI:=am.lt;have L:(gE x.scope (bH x.scope)).length=(bH x.scope).length:=by simp[gE]
 have aV:=H.F K;have bJ:=B.F aV;refine b3.range (bH x.scope).length (λi M=>ai (λr=>r=go) aS M/\aH .i64 al M go (.slice (σ ⟨go,0,ν⟩) (bH x.scope).length (bH x.scope).length) ((gE x.scope (bH x.scope)).take i++o5 ((bH x.scope).length-i) 0)) Ω ⟨ai.refl _ _,by simpa using aU⟩ ?_ ?_
 .rintro i M k hi ⟨O,C⟩ hk;obtain⟨v,Z⟩:=aJ (l:=(bH x.scope)) hi;have q:=K.put O Ω;have aW:=(B.F H).F q;have aY:v∈x.scope:=X.mem_iff.1 (x7 Z);refine bK Ω ?_;rw[bp au.u al.i Ψ (J.ls.W q) Z];have aZ:=(Y.F H).F q;rw[aP cR.p 0 (y.W aZ) rfl];refine(D3 (G.W aW)).Y ?_;rintro _ a1 _ ⟨s,r,rfl,a2⟩;have an:=uJ aY;have a6:=(a2 _ an).2 λj bL a7=>by have:=lT a.scope.1 a7 an;omega
  rw[jk rfl au.u al.i (C.W s) (by simp[L];omega)];refine jl al.i (C.W s) (by simp[L];omega) λbM a8 bN ao=>?_;rw[aT];refine hk _ ⟨(O.F (s.aa _)).F a8,?_⟩;have aC:(gE x.scope (bH x.scope))[i]?=σ r:=by rw[a6];exact Ov Z
  have e:((gE x.scope (bH x.scope)).take i++o5 ((bH x.scope).length-i) 0).set i r=(gE x.scope (bH x.scope)).take (i+1)++o5 ((bH x.scope).length-(i+1)) 0:=by
   have bb:((gE x.scope (bH x.scope)).take i).length=i:=by rw[Z3,L];omega
   rw[U7 _ _ Ω,bb,V7,show(bH x.scope).length-i=((bH x.scope).length-(i+1))+1 by omega,List.replicate_succ,List.set_cons_zero,u9,aC,j4,T1];rfl
  rw[e]at ao;exact ao
 .rintro M k ⟨O,C⟩;have q:=K.put O Ω;have ap:=H.F q;refine ck Ω ?_;rw[V7,List.replicate_zero,T5,j5 Ω]at C;have bc:∀t,dB x.d6 t->bz x.d6 aQ t=lb x f.k t:=λt bd=>by rw[ah.2 t bd];exact aI t
  obtain⟨ax,be⟩:=Ox h P ah.1 bc;have bf:Good (gE x.scope (bH x.scope)) x.d6.length:=by
   rw[a.d6,r9];exact uK a.scope.1 X
  have bg:=(qW h P);refine(Pa (A.W ap) h.k C.ls (by rw[L];omega) λ_=>?_).Y ?_
  .rw[ax];exact bg.small
  .rintro _ a1 _ ⟨s,_,bh⟩;obtain⟨E,Q,W,rfl,ay⟩:=bh bf;rw[bA,bB];rw[ax,be]at ay;exact⟨(B.F ap).F s,v,gs,E,Q,W,rfl,Ω,(J.W q).W s,ay⟩
theorem Py{P:X8}{t y f:o4}{k A g o cap:Nat}{K:x4->x5->Prop}(h:P.underlying t=σ (.slice e))(hi:aU P e k A z)(B:z.cells.size=k)(h1:∀u∈eb z.cells (n*k),u.oneCell'=s2)(a:ak w g f cs)(J:o+n*k<=cs.length)(q:∀I,ai (λr=>r=g) w I->ak I g f (over cs o (eb z.cells (n*k)))->K (.tuple #[]) I):aL P (Z2.clear_ #[t] y #[.slice (σ ⟨g,o,ν⟩) n cap]) w K:=by
 obtain⟨i,hi,L,rfl,C⟩:=hi;have E:∀w,(zeroValue e).run P w= .ok z w:=λw=>by simp[zeroValue,typeInfo,hi,C]
 have F:(Z2.zeroCells z.cells n).toList=eb z.cells (n*k):=by
  unfold Z2.zeroCells eb;rw[B]
 have s:=run_storeCells_cells (P:=P) g o (eb z.cells (n*k)) 0 w (λj G=>by
   rw[qw]at G;rw[Nat.add_zero,a.cell (v8 (show o+j<cs.length by omega))];rfl) (λj _=>a.frozen _ _) h1
 simp only[Nat.add_zero]at s;obtain⟨H,x⟩:=pq (eb z.cells (n*k)) cs o w a;rcases Nat.eq_zero_or_pos n with rfl|M
 .refine .of (by simp[Z2.clear_,run_underlying h]) (cS.refl _) (q w (ai.refl _ _) ?_);rw[Nat.zero_mul,b8 (qw z.cells 0)];exact a
 .obtain⟨m,rfl⟩:∃m,n=m+1:=⟨n-1,Ω⟩;refine .of (by simp[Z2.clear_,run_underlying h,E,F,s]) (x.cQ a) (q _ x.aa H)
theorem ef{α:Type}{f:α->List x4}{k:Nat}{g:Nat}{L:List α}(h:bn f k e w g v L)(j:hx v r):r=g/\∃cs,ak w g e cs:=by
 obtain⟨_,⟨rfl,_⟩|⟨cap,cs,rfl,q,_⟩⟩:=h.1
 .exact (gC j).elim
 .obtain⟨a,n,c,h1,s⟩:=j;cases h1;exact⟨s.symm,cs,q⟩
theorem Pz{α:Type}{f:α->List x4}{k:Nat}{g:Nat}{L:List α}(h:bn f k e w g v L)(a:L≠[]):∃cs n c,v= .slice (σ ⟨g,0,ν⟩) n c/\ak w g e cs:=by
 obtain⟨_,⟨rfl,j⟩|⟨cap,cs,rfl,q,_⟩⟩:=h.1
 .exact m6 (b8 j) a
 .exact⟨cs,_,_,rfl,q⟩
theorem fp.mk{g:Nat}{L:List cF}(h:bn ff 2 c7 w g v L)(a:∀x∈L,(∃e,aH .i64 al w e x.sv x.sc)/\lV x.sc):fp w g v L:=by
 refine⟨h,λx J=>⟨(a x J).1,λr f=>?_,(a x J).2⟩⟩;obtain⟨cs,n,c,_,j⟩:=Pz h (λq=>by rw[q]at J;cases J);obtain⟨⟨e,hm⟩,_⟩:=a x J;exact cC hm j Φ f
def Sem(w:x5)(k:Int)(d6:Λ)(L:List cF):Prop:=∀x∈L,∃a e,dp w x.g a e (b6 d6 x.sc) k x.cs
theorem yd{g q:Nat}{s:x4}{cs:Λ}(h:dp w g q s an k cs)(e:ai S w I)(f:∀r,S r->∃c,ak w r c7 c):dp I g q s an k cs:=by
 obtain⟨⟨bg,gs,h1,x,y⟩,z⟩:=h;refine⟨⟨bg,gs,h1.aa e λV=>?_,bE x e λr j V=>?_,bE y e λr j V=>?_⟩,z⟩
 .obtain⟨c,a⟩:=f g V;unfold ak at h1 a;rw[h1]at a;have:=(Obj.cells.inj (Z5 a)).2.1;exact m6 this Φ
 .obtain⟨c,a⟩:=f r V;exact cC x a Φ j rfl
 .obtain⟨c,a⟩:=f r V;exact cC y a Φ j rfl
theorem Sem.W{L:List cF}(h:Sem w k d6 L)(J:Ext w I):Sem I k d6 L:=λx a=>by
 obtain⟨e,f,j⟩:=h x a;exact⟨e,f,j.W J⟩
theorem Sem.row{L M:List cF}{g:Nat}(h:Sem w k d6 L)(a:fp w g v M)(e:ai (λr=>hx v r) w I):Sem I k d6 L:=λx f=>by
 obtain⟨j,q,s⟩:=h x f;exact⟨j,q,yd s e λr y=>by obtain⟨rfl,c,z⟩:=ef a.1 y;exact⟨c,z⟩⟩
def eh(h:cF):c0:=(h.sc,h.cs)
theorem PA{c:Int}:aq x8 wQ [Δ c] w λv I=>v= .bool (decide (0<c))/\Ext w I:=by
 refine aE func189 ?_;rw[bW];exact⟨rfl,Ext.refl _⟩
theorem PB(h:aQ .i64 w sv l):
  aq x8 J8 [sv,.func (.func wQ) #[] #[]] w λv I=>v= .bool (l.any λc=>decide (0<c))/\Ext w I:=by
 refine aE func188 ?_;refine aq.Y (K:=λv I=>Ext w I/\∃r:Int,v=Δ r/\(0<=r↔ ∃c∈l,0<c)) ?_ ?_
 .refine aE func250 ?_;rw[ba aA.u h];refine cp.range l.length (λi _ U=>Ext w U/\∀c∈l.take i,¬0<c) h.le ⟨Ext.refl _,λc a=>by simp at a⟩ ?_ ?_
  .rintro i _ U k hi ⟨J,e⟩ hk;refine bK Ω ?_;obtain⟨x,f⟩:=aJ (l:=l) hi;rw[bp aA.u ay.i Ψ (h.W J) f];show aq x8 wQ [Δ x] U _;refine PA.Y ?_;rintro _ ab _ ⟨rfl,j⟩;rw[ao];refine⟨λae=>⟨J.F j,i,rfl,⟨λ_=>⟨x,x7 f,ae⟩,λ_=>Ω⟩⟩,λq=>?_⟩;rw[aT];refine hk _ _ ⟨J.F j,λc a=>?_⟩;rw[u9,f]at a;rcases j9.1 a with a|a
   .exact e c a
   .simp at a;subst a;exact q
  .rintro _ U k ⟨J,e⟩;rw[o9]at e;rw[aW,ao];exact⟨λh=>Ω,λ_=>⟨J,-1,rfl,⟨λh=>Ω,λ⟨c,a,ae⟩=>m6 ae (e c a)⟩⟩⟩
 .rintro _ U _ ⟨J,r,rfl,s⟩;rw[cU];refine⟨?_,J⟩;congr 1;rw[U1,ro,List.any_eq_true,s];exact⟨λ⟨c,a,ae⟩=>⟨c,a,ms ae⟩,λ⟨c,a,ae⟩=>⟨c,a,rs ae⟩⟩
theorem Ec{h:Nat}{x:cF}{q:x4}(J:kl w h x)(r:dp w x.g j q an k x.cs):aq x8 rI [lk x] w λv I=>v= .bool (!gf (eh x))/\Ext w I:=by
 obtain⟨⟨A,hm⟩,_⟩:=J;refine aE func187 ?_;refine br λav U B f a=>?_;have a:ak U av c7 [x.sv,Γ x.g]:=by
  obtain⟨_,_,_,e⟩:=dr hm.ls;simp only[lk,ff,e]at a ⊢;exact a
 rw[aP c7.p 1 a rfl];refine(oy (r.W f)).Y ?_;rintro C ab _ ⟨s,E,G,y⟩;refine(PB y.ls).Y ?_;rintro _ H _ ⟨rfl,z⟩;rw[bR];exact⟨rfl,(f.F s).F z⟩
theorem PC{g:Nat}{L:List cF}(h:fp w g v L)(V:Sem w k d6 L):
  aq x8 Ba [v,.func (.func rI) #[] #[]] w λr I=>Ext w I/\((r=Δ (-1)/\∀x∈L,gf (eh x)=s2)\/∃i:Nat,r=Δ (i:Int)/\i<L.length/\(∀x∈L.take i,gf (eh x)=s2)/\∀x,L[i]?=σ x->gf (eh x)=sp):=by
 refine aE func183 ?_;rw[eF gQ.u h.1];refine cp.range L.length (λi _ U=>Ext w U/\∀x∈L.take i,gf (eh x)=s2) h.1.le ⟨Ext.refl _,λc a=>by simp at a⟩ ?_ ?_
 .rintro i _ U k hi ⟨J,e⟩ hk;refine bK Ω ?_;obtain⟨x,f⟩:=aJ (l:=L) hi;rw[uR rfl (h.W J) f];show aq x8 rI [lk x] U _;obtain⟨A,B,s⟩:=V x (x7 f);refine(Ec ((h.W J).at f) (s.W J)).Y ?_;rintro _ ab _ ⟨rfl,j⟩;rw[b4];refine⟨λae=>⟨J.F j,.inr ⟨i,rfl,hi,e,λy q=>by rw[f]at q;cases q;simpa using ae⟩⟩,λz=>?_⟩;rw[aT];refine hk _ _ ⟨J.F j,λc a=>?_⟩;rw[u9,f]at a;rcases j9.1 a with a|a
  .exact e c a
  .simp at a;subst a;simpa using z
 .rintro _ U k ⟨J,e⟩;rw[o9]at e;rw[aW,ao];exact⟨λh=>Ω,λ_=>⟨J,.inl ⟨rfl,e⟩⟩⟩
def gH(x:cF):Bool:=gf (eh x)
theorem ye{L:List cF}{x:cF}(J:L[j]?=σ x):(L.take (j+1)).filter gH=if gH x=s2 then(L.take j).filter gH++[x]else(L.take j).filter gH:=by
 rw[u9,J,j4,List.filter_append];by_cases h:gH x=s2
 .rw[m3 h];simp[h]
 .rw[m5 h];simp[h]
theorem Ed{z:Array x4}(a:0<z.size)(h:∀u∈z.toList,u.oneCell'=s2):∀u∈eb z n,u.oneCell'=s2:=λu hu=>by
 unfold eb at hu;rw[Array.toList_map,l9]at hu;obtain⟨i,_,rfl⟩:=hu;have e:i % z.size<z.size:=Nat.mod_lt _ a;rw[getElem!_pos z (i % z.size) e];exact h _ Ξ
theorem PD{g:Nat}{L:List cF}(h:fp w g v L)(V:Sem w k d6 L)(bb:L.length<=100000):
  aq x8 J9 [v,.func (.func rI) #[] #[]] w λf I=>ai (λr=>hx v r) w I/\fp I g f (L.filter gH)/\∀r,hx f r->hx v r:=by
 refine aE func190 ?_;refine(PC h V).Y ?_;rintro r U _ ⟨E,q⟩;rcases q with⟨rfl,O⟩|⟨P,rfl,ax,O,ay⟩
 .rw[bl,ao];refine⟨λ_=>⟨E.aa _,?_,λr q=>q⟩,λh=>m6 rfl h⟩;rw[List.filter_eq_self.2 (show∀x∈L,gH x=s2 from O)];exact h.W E
 rw[bl,ao];refine⟨λh=>Ω,λ_=>?_⟩;rw[aT,lm Ω Ω];obtain⟨Q,ae⟩:=aJ (l:=L) ax;refine⟨λR S ab=>∃(i j:Nat)(M:List cF),R=Δ (i:Int)/\S=Δ (j:Int)/\i<j/\j<=L.length/\M.length=L.length/\M.take i=(L.take j).filter gH/\M.drop j=L.drop j/\(∀x∈M,x∈L)/\fp ab g v M/\ai (λr=>hx v r) w ab,
  λ_ S _=>L.length-(b1 S).toNat,⟨P,P+1,L,rfl,by congr 1,Ω,Ω,rfl,?_,rfl,λx J=>J,h.W E,E.aa _⟩,?_⟩
 .have aA:¬gH Q=s2:=by rw[show gH Q=sp from ay Q ae];simp
  rw[ye ae,m5 aA,List.filter_eq_self.2 (show∀x∈L.take P,gH x=s2 from O)]
 rintro _ _ ab ⟨i,j,M,rfl,rfl,bc,bd,af,z,ag,ah,e,G⟩;have aB:Sem ab k d6 L:=V.row h G;rw[eF gQ.u e.1,aW,ao];refine⟨λW=>?_,λbe=>?_⟩
 .have W:j<L.length:=Ω
  obtain⟨x,J⟩:=aJ (l:=L) W;have H:M[j]?=σ x:=by
   have h1:(M.drop j)[0]?=(L.drop j)[0]?:=by rw[ag]
   rw[List.getElem?_drop,List.getElem?_drop,Nat.add_zero]at h1;rw[h1,J]
  have aj:M.drop (j+1)=L.drop (j+1):=by
   have h1:(M.drop j).drop 1=(L.drop j).drop 1:=by rw[ag]
   rw[List.drop_drop,List.drop_drop]at h1;exact h1
  refine a6 (λR K=>∃(B:Nat)(s:List cF),R=Δ (B:Int)/\B<j+1/\s.length=L.length/\s.take B=(L.take (j+1)).filter gH/\s.drop (j+1)=L.drop (j+1)/\(∀x∈s,x∈L)/\fp K g v s/\ai (λr=>hx v r) w K) ?_ ?_
  .rintro _ K ⟨B,s,rfl,h1,X,aC,aD,aF,aG,aH⟩;rw[aT,lm Ω Ω];exact⟨⟨B,j+1,s,rfl,rfl,h1,W,X,aC,aD,aF,aG,aH⟩,by simp only[b1];omega⟩
  .intro az ak;rw[uR rfl e H];refine bF c7.i λav K bf aI aK=>?_;refine cd (vs:=ff x) c7.i rfl rfl (e.at H).one aK λaM aN bg al=>?_;have Y:=aI.put aN Ω;rw[bI c7.p c7.i rfl al.range];show aq x8 rI [lk x] aM _;obtain⟨bh,bi,aO⟩:=aB x (x7 J);refine(Ec ((e.W Y).at H) (aO.W Y)).Y ?_;rintro _ bj _ ⟨rfl,am⟩;have C:=Y.F am;rw[bR,Bool.not_not,b4];refine⟨λhk=>?_,λaP=>?_⟩
   .rw[bI c7.p c7.i rfl (al.W am).range];refine Pq rfl (e.W C) Ω ((e.W C).at H) λbk aQ aR=>?_;rw[aT,lm Ω Ω];refine ak _ _ ⟨i+1,M.set i x,rfl,Ω,by simp[af],?_,?_,λy A=>?_,aR,(G.F (C.aa _)).F aQ⟩
    .have Z:gH x=s2:=hk;rw[ye J,m3 Z,u9,Z6 Ω,j4,List.take_set_of_le (o6 _),z]
    .rw[List.drop_set_of_lt Ω,aj]
    .rcases U5 A with A|rfl
     .exact ah y A
     .exact x7 J
   .have Z:¬gH x=s2:=by rw[show gH x=sp from aP];simp
    exact ak _ _ ⟨i,M,rfl,Ω,af,by rw[ye J,m5 Z,z],aj,ah,e.W C,G.F (C.aa _)⟩
 .have aS:j=L.length:=Ω
  subst aS;rw[o9]at z;obtain⟨⟨bm,aU⟩,an⟩:=e.1;rcases aU with⟨_,bn⟩|⟨cap,cs,ac,aV,bo,aX,aY,aZ⟩
  .omega
  subst ac;have a1:(ad x8 (V5 gQ (.slice (σ ⟨g,0,ν⟩) M.length cap) (σ (Δ (i:Int))) ν ν) ab λa2=>
    aL x8 (Z2.clear_ #[gQ] Lq #[a2]) ab λu N=>
    ad x8 (V5 gQ (.slice (σ ⟨g,0,ν⟩) M.length cap) ν (σ (Δ (i:Int))) ν) N λa7=>
    (λf I=>ai (λr=>hx (.slice (σ ⟨g,0,ν⟩) M.length cap) r) w I/\fp I g f (L.filter gH)/\∀r,hx f r->hx (.slice (σ ⟨g,0,ν⟩) M.length cap) r) a7 N):=by
   rw[iA gQ.u c7.i (pn i _ rfl) k4 fy Ω Ω (o6 _),m5 Ω];simp only[Y6,U8];refine Py gQ.u c7.i rfl ?_ aV Ω λN ap a8=>?_
   .exact Ed Φ Φ
   rw[iA gQ.u c7.i ke (po i _ rfl) fy Ω Ω (o6 _),m5 Ω];simp only[Y6,U8,Nat.zero_mul,V0,Nat.sub_zero];have ba:(eb (x4.agg #[.slice ν 0 0,.pointer ν]).cells ((M.length-i)*2)).length=(M.length-i)*2:=qw _ _;have bp:(M.flatMap ff).length=M.length*2:=jS an;have au:(L.filter gH).length=i:=by rw[<-z,Z3];omega
   have key:(λf I=>ai (λr=>hx (.slice (σ ⟨g,0,ν⟩) M.length cap) r) w I/\fp I g f (L.filter gH)/\∀r,hx f r->hx (.slice (σ ⟨g,0,ν⟩) M.length cap) r) (.slice (σ ⟨g,0,ν⟩) (L.filter gH).length cap) N:=by
    refine⟨G.F (ap.Y λr _ he=>⟨_,_,_,rfl,he.symm⟩),⟨⟨⟨jS (λy _=>rfl),.inr ⟨cap,_,rfl,a8,Ω,aX,by rw[nD,aY],?_⟩⟩,λy _=>rfl⟩,λy A=>?_⟩,λr q=>?_⟩
    .rw[au,<-z,<-sg i an,<-aZ,List.take_take,oi (by rw[ba];omega),T1,List.take_append_of_le_length (by rw[Z3];omega),List.take_take];congr 1;omega
    .have aw:y∈M:=by rw[<-z]at A;exact List.mem_of_mem_take A
     exact(e.2 y aw).aa ap λr q he=>(e.2 y aw).2.1 r q he
    .obtain⟨a,n,c,h1,X⟩:=q;cases h1;exact⟨_,_,_,rfl,X⟩
   rw[au]at key;exact key
  exact a1
theorem sy{k:o8}{g cap:Nat}{b:Option Addr}(h:aH k e w g (.slice b n cap) l)(s:0<l.length):
  b=σ ⟨g,0,ν⟩/\n=l.length/\∃cs,ak w g e cs/\n<=cap/\cap<=maxLen/\cs.length=cap/\cs.take n=ints k l:=by
 obtain⟨_,⟨_,h1⟩|⟨x,cs,h1,a,f,j,q,r⟩⟩:=h
 .omega
 .cases h1;exact⟨rfl,rfl,cs,a,f,j,by simpa using q,by simpa using r⟩
theorem PE{g cap:Nat}(h:aH .i64 al w g (.slice (σ ⟨g,0,ν⟩) n cap) l)(q:j<l.length):aQ .i64 w (.slice (σ ⟨g,j,ν⟩) (n-j) (cap-j)) (l.drop j):=by
 obtain⟨_,r,cs,a,h1,s,x,f⟩:=sy h Ω;have:=L4 (o:=j) (k:=n-j) (c:=cap-j) a Ω Ω Ω;refine aQ.of (n:=n-j) ?_;have e:(cs.drop j).take (n-j)=ints .i64 (l.drop j):=by
  rw[<-List.drop_take,f,ints,ints,List.map_drop]
 rw[e]at this;exact this
theorem PF{g:Nat}(h:aH .i64 al w g sv l)(aU:l.length<=1000):
  aq x8 KO [sv] w λv I=>ai (λr=>r=g) w I/\aH .i64 al I g v (dedup l l.length):=by
 refine aE func245 ?_;rw[ba au.u h.ls];simp only[aW,ao];refine⟨λaV=>⟨ai.refl _ _,?_⟩,λaX=>?_⟩
 .rw[ya (o6 _) (λi hi X=>Ω),o9];exact h
 obtain⟨n,A⟩:∃n,l.length=n:=⟨_,rfl⟩;obtain⟨cap,rfl⟩:∃cap,sv= .slice (σ ⟨g,0,ν⟩) n cap:=by
  obtain⟨_,⟨_,h1⟩|⟨ap,cs,h1,_⟩⟩:=id h
  .omega
  .exact⟨ap,by rw[h1,A]⟩
 obtain⟨_,_,_,_,aY,av,_⟩:=sy h Ω;refine⟨λ_ t U=>∃j:Nat,t=Δ (j:Int)/\1<=j/\j<=n/\Ext w U/\∀i,i<j->0<i->l[i]? ≠l[i-1]?,λ_ t _=>n-(b1 t).toNat,⟨1,rfl,Ω,Ω,Ext.refl _,λi h1 Y=>Ω⟩,?_⟩;rintro aZ _ U ⟨j,rfl,a1,Z,B,K⟩;rw[ba au.u (h.ls.W B)];simp only[aW,ao,et];refine⟨λaw ab ax _ _=>?_,λa2=>⟨B.aa _,?_⟩⟩
 .have aw:j<n:=Ω
  have C:=B.F ax;have ac:=h.ls.W C;obtain⟨a,L⟩:=aJ (l:=l) (i:=j) Ω;obtain⟨b,M⟩:=aJ (l:=l) (i:=j-1) Ω;rw[bp au.u al.i Ψ ac L];simp only[dm];rw[lm Ω Ω,fz (i:=j-1) Ω au.u al.i Ψ ac M];simp only[bl,ao,aT];refine⟨λN=>?_,λN=>?_⟩
  .subst N;rw[iA au.u al.i rQ k4 fy Ω Ω Ω,m5 Ω];have ay:V6 (λx:Addr=>x.add (j*1)) (σ ⟨g,0,ν⟩)=σ ⟨g,j,ν⟩:=by simp[U8]
   rw[ay];have ad:dedup l (j+1)=l.take j:=by rw[x3 Ω (by rw[L,M]),ya Ω K]
   refine⟨λO t P=>∃(q e:Nat)(f:Λ),O=Δ (q:Int)/\t=Δ (e:Int)/\1<=e/\j+e<=n/\ai (λr=>r=g) w P/\aH .i64 al P g (.slice (σ ⟨g,0,ν⟩) n cap) f/\f.length=n/\
     q=(dedup l (j+e)).length/\f.take q=dedup l (j+e)/\q<=j+e-1/\∀i,j+e-1<=i->f[i]?=l[i]?,λ_ t _=>n-(b1 t).toNat,
    ⟨j,1,l,rfl,rfl,Ω,Ω,C.aa _,h.W C,A,by rw[ad,Z3];omega,by rw[ad],Ω,λi _=>rfl⟩,?_⟩
   rintro _ _ P ⟨q,e,f,rfl,rfl,a7,a8,Q,ae,af,ag,E,aA,G⟩;rw[ji au.u];simp only[aW,ao,et];refine⟨λah=>?_,λah=>?_⟩
   .have ah:j+e<n:=Ω
    refine a6 (λO R=>∃(q:Nat)(f:Λ),O=Δ (q:Int)/\ai (λr=>r=g) w R/\aH .i64 al R g (.slice (σ ⟨g,0,ν⟩) n cap) f/\f.length=n/\
     q=(dedup l (j+(e+1))).length/\f.take q=dedup l (j+(e+1))/\q<=j+(e+1)-1/\∀i,j+(e+1)-1<=i->f[i]?=l[i]?) ?_ ?_
    .rintro _ R ⟨q,f,rfl,h1,Y,aB,aC,aD,aF,aG⟩;simp only[aT];rw[lm Ω Ω];exact⟨⟨q,e+1,f,rfl,rfl,Ω,Ω,h1,Y,aB,aC,aD,aF,aG⟩,by simp only[b1];omega⟩
    .intro az aj bb S _ _;have H:=ae.W S;have V:=PE (j:=j) H Ω;obtain⟨y,J⟩:=aJ (l:=l) (i:=j+e) Ω;obtain⟨z,W⟩:=aJ (l:=l) (i:=j+e-1) Ω;have ak:(f.drop j)[e]?=σ y:=by rw[List.getElem?_drop,G _ Ω,J]
     have aI:(f.drop j)[e-1]?=σ z:=by rw[List.getElem?_drop,G _ Ω,<-W];congr 1;omega
     rw[bp au.u al.i Ψ V ak];simp only[dm];rw[lm Ω Ω,fz (i:=e-1) Ω au.u al.i Ψ V aI];simp only[bO,ao,aT];refine⟨λs=>?_,λs=>?_⟩
     .rw[bp au.u al.i Ψ V ak,jk rfl au.u al.i H Ω];refine jl al.i H Ω λbc aK bd aL=>?_;rw[lm Ω Ω];have am:=x9 J (λ_=>by rw[J,W];simpa using s);refine aj _ _ ⟨q+1,_,rfl,(Q.F (S.aa _)).F aK,aL,by simpa using af,?_,?_,Ω,λi hi=>?_⟩
      .rw[<-Nat.add_assoc,am];simp;omega
      .rw[<-Nat.add_assoc,am,u9,Z6 Ω,List.take_set_of_le (o6 _),E];rfl
      .rw[Y8 Ω];exact G i Ω
     .have s:=X1.1 s;have an:dedup l (j+e+1)=dedup l (j+e):=x3 Ω (by rw[J,W,s]);exact aj _ _ ⟨q,f,rfl,Q.F (S.aa _),H,af,by rw[<-Nat.add_assoc,an];exact ag,by rw[<-Nat.add_assoc,an];exact E,Ω,λi hi=>G i Ω⟩
   .have hk:j+e=n:=Ω
    rw[hk]at ag E aA;obtain⟨_,_,cs,aM,_,_,be,aN⟩:=sy ae Ω;simp only[maxLen]at av;rw[iA au.u al.i rQ k4 fy Ω Ω Ω,m5 Ω];have aO:V6 (λx:Addr=>x.add (q*1)) (σ ⟨g,0,ν⟩)=σ ⟨g,q,ν⟩:=by simp[U8]
    rw[aO];refine BY au.u al.i rfl rfl aM Ω Ω λbf aP bg aQ=>?_;rw[iA au.u al.i ke pp fy Ω Ω Ω,m5 Ω];have aR:V6 (λx:Addr=>x.add (0*1)) (σ ⟨g,0,ν⟩)=σ ⟨g,0,ν⟩:=by simp[U8]
    rw[aR,A];refine⟨Q.F aP,?_⟩;rw[<-E];refine aH.of (n:=q) ⟨Θ,.inr ⟨cap,_,Ξ,aQ,Ω,by simp only[maxLen];omega,by rw[nD];omega,?_⟩⟩;rw[U3];apply Y2;intro i;by_cases hi:i<q
    .rw[V1 hi,qv _ _ _ Θ,m5 Ω,ints,u4,V1 hi];have:(cs.take n)[i]?=(ints .i64 f)[i]?:=by rw[aN]
     rw[V1 Ω,ints,u4]at this;exact this
    .rw[W7 Θ,W7 Θ]
  .rw[lm Ω Ω];refine⟨⟨j+1,rfl,Ω,Ω,C,λi hi X=>?_⟩,by simp only[b1];omega⟩;by_cases aS:i=j
   .subst aS;rw[L,M];intro he;exact N (Z5 he)
   .exact K i Ω X
 .have Z:j=n:=Ω
  rw[ya (o6 _) (by rw[A,<-Z];exact K),o9];exact h.W B
theorem PG(z:n<=1000000):aq x8 La [.slice ν 0 0,Δ (n:Int)] w λv I=>Ext w I/\∃g,w.heap.size<=g/\aH .i64 al I g v []:=by
 refine aE func281 ?_;refine dd (λU=>w=U) ?_ ?_
 .rintro _ rfl;refine a6 (λv I=>Ext w I/\∃g,w.heap.size<=g/\aH .i64 al I g v []) (λ_ _ h=>h) λaz a=>?_;rw[BX au.u,ji au.u];simp only[dm];have e:X4.wrap (((0:Nat):Int)-((0:Nat):Int))=0:=Φ
  have f:X4.wrap ((n:Int)-0)=n:=by rw[lm Ω Ω];omega
  rw[e,f];simp only[bW,ao];refine⟨λh=>?_,λh=>a _ _ ⟨Ext.refl _,w.heap.size,o6 _,aH.nil _ _ _ _⟩⟩;rw[BX au.u,iA au.u al.i ke pp fy Ω Ω Ω,m3 rfl];refine L3 (xs:=[]) rfl au.u al.u al.i rfl ⟨rfl,0,0,ν,0,rfl,o6 _,W3 _,λh=>m6 h (Nat.lt_irrefl _),λj v h=>by simp at h⟩ Ω Ω Ω Ω λv g I A J hm=>?_;obtain⟨_,⟨_,B⟩|⟨cap,cs,rfl,q,h1,r,s,C⟩⟩:=hm
  .omega
  rw[ji au.u,iA au.u al.i ke pp fy Ω Ω Ω,m5 Ω];have y:V6 (λx:Addr=>x.add (0*1)) (σ ⟨g,0,ν⟩)=σ ⟨g,0,ν⟩:=by simp[U8]
  rw[y];refine a _ _ ⟨J,g,Ω,aH.of (n:=0) ⟨Ξ,.inr ⟨cap,cs,Ξ,q,Ω,r,s,Ξ⟩⟩⟩
 .intro az a;simp only[aW,ao];exact⟨λh=>Ω,λ_=>a _ rfl⟩
theorem PH{a b:Λ}{K:x4->x5->Prop}(E:aQ .i64 w bx a)(G:aQ .i64 w bv b)(S:a.length<=1000)(V:b.length<=1000)(W:∀v I g,Ext w I->w.heap.size<=g->aH .i64 al I g v (a++b)->K v I):
  aL x8 (Y3 cq 2 #[(0,bx),(1,bv)]) w λt U=>aq x8 KP [t] U K:=by
 obtain⟨⟨H,J,L,X⟩,⟨M,N,O,Y⟩⟩:(∃x n c,bx= .slice x n c)/\(∃x n c,bv= .slice x n c):=by
  obtain⟨_,_,_,x,c,h1,_⟩:=id E;obtain⟨_,_,_,y,d,Z,_⟩:=id G;exact⟨⟨x,_,c,h1⟩,⟨y,_,d,Z⟩⟩
 subst X;subst Y;refine k5 cq.u au.i Ω (cs:=#[.slice H J L,.slice M N O]) Ψ λg U ax s z=>?_;have z:=z;have key:∀i:Nat,i<2->∃v l,[x4.slice H J L,.slice M N O][i]?=σ v/\[a,b][i]?=σ l/\aQ .i64 w v l/\l.length<=1000:=λi hi=>by
  match i,hi with
  |0,_=>exact⟨_,_,rfl,rfl,E,S⟩
  |1,_=>exact⟨_,_,rfl,rfl,G,V⟩
 refine aE func246 ?_;rw[ji cq.u];refine cp.range 2 (λi size ab=>Ext U ab/\∃n:Nat,n<=1000*i/\size=Δ (n:Int)) Ω ⟨Ext.refl _,0,Ω,rfl⟩ ?_ ?_
 .rintro i _ ab aa hi ⟨f,n,ad,rfl⟩ ae;simp only[aW,ao];refine⟨λ_=>?_,λh=>Ω⟩;obtain⟨v,l,ac,P,C,af⟩:=key i hi;refine a6 (λv Q=>ab=Q/\v=Δ ((n+l.length:Nat):Int)) ?_ ?_
  .rintro _ _ ⟨rfl,rfl⟩;simp only[aT];exact ae _ _ ⟨f,_,Ω,rfl⟩
  .intro az ag;rw[e2 cq.u au.i hi (λ_=>rfl),aF Ψ ((z.W f).cell (by rw[<-ac];congr 1;omega)),ba au.u (C.W (s.F f))];simp only[aT,aW,ao];rw[lm Ω Ω];exact⟨λh=>Ω,λ_=>ag _ _ ⟨rfl,by congr 1⟩⟩
 .rintro _ ab aa ⟨f,n,ad,rfl⟩;simp only[aW,ao];refine⟨λh=>Ω,λ_=>?_⟩;refine(PG Ω).Y ?_;rintro v0 Q _ ⟨R,ah,ay,ai⟩;have s1:=s.size;have aA:=f.size;have aB:=R.size;have aj:=f.F R;rw[ji cq.u];refine cp.range 2 (λi v A=>Ext U A/\∃q,U.heap.size<=q/\aH .i64 al A q v (([a,b].take i).flatten)/\(([a,b].take i).flatten).length<=1000*i) Ω ⟨aj,ah,Ω,ai,Ξ⟩ ?_ ?_
  .rintro i v4 A ak hi ⟨j,q,am,B,aC⟩ an;simp only[aW,ao];refine⟨λ_=>?_,λh=>Ω⟩;obtain⟨v,l,ac,P,C,af⟩:=key i hi;rw[e2 cq.u au.i hi (λ_=>rfl),aF Ψ ((z.W j).cell (by rw[<-ac];congr 1;omega))];refine kC au.u al.i rfl B (C.W (s.F j)) Ω Ω λaD ap aG aI av aw=>?_;simp only[aT];have aJ:=j.size;have e:([a,b].take (i+1)).flatten=([a,b].take i).flatten++l:=by rw[u9,P];simp
   refine an _ _ ⟨j.then aw (by rintro r aK rfl;omega),ap,Ω,by rw[e];exact av,by rw[e,j6];omega⟩
  .rintro v4 A ak ⟨j,q,am,B,_⟩;simp only[aW,ao];refine⟨λh=>Ω,λ_=>W _ _ q (s.F j) Ω ?_⟩;have e:([a,b].take 2).flatten=a++b:=Ξ
   rw[e]at B;exact B
def qX(s1 a f e d9:Λ):Prop:=∀p∈d9,p∈a->p∈e->jq s1 (iZ a p)=jq f (iZ e p)
def dQ(s1 a e f d9:Λ):Λ:=d9.map λp=>max (jq s1 (iZ a p)) (jq e (iZ f p))
theorem Ee(s1 a e f d9:Λ):(dQ s1 a e f d9).length=d9.length:=by simp[dQ]
theorem uS{x:Int}:0<=iZ l x↔x∈l:=by
 unfold iZ;by_cases h:x∈l
 .rw[m3 h];exact⟨λ_=>h,λ_=>Ω⟩
 .rw[m5 h];exact⟨λh=>Ω,λa=>m6 a h⟩
theorem PI{g ay W aA:Nat}{C X:x4}{s1 f d9 a e:Λ}{aB:Int}{aC aD:Λ}(h1:dp w g ay sv s1 k aC)(Y:dp w W aA C f aB aD)(ac:aQ .i64 w X d9)(aF:aQ .i64 w bx a)(E:aQ .i64 w bv e)(aG:iC a)(aI:iC e)(bc:d9.length<=1000):
  aq x8 KQ [X,Γ g,bx,Γ W,bv] w λv I=>Ext w I/\
   (¬qX s1 a f e d9->v= .tuple #[.slice ν 0 0,.bool sp])/\
   (qX s1 a f e d9->∃x av,v= .tuple #[x,.bool s2]/\w.heap.size<=av/\aH .i64 al I av x (dQ s1 a f e d9)):=by
 have sub:∀{w:x5}{g:Nat}{sv:x4}{k:Int}{bg:x4},ak w g c8 [sv,Δ k,bg]->w.rangeAt g (0+0) [sv]:=λE=>pv E (by
  intro j v ac
  match j,ac with
  |0,ac=>exact ac)
 refine aE func247 ?_;rw[ba au.u ac];refine kD au.u al.i Ω Ω λgz U bd Z aK=>?_;have aL:=aH.of (n:=d9.length) (b7.full aK Ξ (by simp[maxLen];omega));generalize (x4.slice (σ ⟨gz,0,ν⟩) d9.length d9.length)=aM at*;rw[ba au.u (ac.W Z)];have G:=Ee s1 a f e d9;refine lH.range d9.length (λi _ _ ab=>Ext w ab/\aH .i64 al ab gz aM (upto (dQ s1 a f e d9) 0 i)/\∀(j:Nat)(p:Int),j<i->d9[j]?=σ p->p∈a->p∈e->jq s1 (iZ a p)=jq f (iZ e p)) Ω
  ⟨Z,by rw[qG,G];exact aL,λj p z=>Ω⟩ ?_ ?_
 .rintro i _ _ ab aN hi ⟨q,hm,H⟩ aO;simp only[aW,ao];refine⟨λ_=>?_,λh=>Ω⟩;obtain⟨p,ae⟩:=aJ (l:=d9) hi;rw[bp au.u al.i Ψ (ac.W q) ae];refine(yb (aF.W q) aG).Y ?_;rintro _ be _ ⟨rfl,J⟩;refine(yb (E.W (q.F J)) aI).Y ?_;rintro _ aP _ ⟨rfl,aa⟩;have ad:=(q.F J).F aa;refine a6 (λv af=>Ext aP af/\∃c,v= .bool c/\(c=s2↔p∈a/\p∈e/\jq s1 (iZ a p)≠jq f (iZ e p))) ?_ ?_
  .rintro _ af ⟨ag,c,rfl,ai⟩;have aj:=ad.F ag;rw[b4];refine⟨λaR=>⟨aj,λ_=>by first|rfl|trivial,λz=>?_⟩,λah=>?_⟩
   .obtain⟨s,y,aS⟩:=ai.1 aR;exact m6 (z p (x7 ae) s y) aS
   .simp only[et];intro bf am _ _;have K:=aj.F am;obtain⟨⟨bg,gs,L,M,_⟩,_⟩:=h1.W K;obtain⟨⟨aU,aV,N,O,_⟩,_⟩:=Y.W K;rw[b5,aZ c8.p rfl,bI (cs:=[sv]) bL.p bL.i rfl (sub L),b5,aZ c8.p rfl,bI (cs:=[C]) bL.p bL.i rfl (sub N)];refine(r6 M.ls).Y ?_;rintro _ bh _ ⟨rfl,A⟩;refine⟨.inl A,?_⟩;refine(r6 (O.ls.W A)).Y ?_;rintro _ bi _ ⟨rfl,an⟩;have aX:=(K.F A).F an;have ap:=hm.W ((((J.F aa).F ag).F am).F (A.F an));have bj:(upto (dQ s1 a f e d9) 0 i).length=d9.length:=by rw[pA,G]
    rw[rP,jk rfl au.u al.i ap Ω];refine jl al.i ap Ω λbk aY _ aw=>?_;simp only[aT];have a1:(dQ s1 a f e d9)[i]?=σ (max (jq s1 (iZ a p)) (jq f (iZ e p))):=by
     unfold dQ;rw[u4,ae];rfl
    rw[qI a1]at aw;refine aO _ _ _ ⟨aX.then aY (by rintro r bl rfl;omega),aw,λj a2 z P s y=>?_⟩;by_cases a7:j=i
    .subst a7;rw[ae]at P;cases P;refine Decidable.byContradiction λa8=>?_;have:=ai.2 ⟨s,y,a8⟩;rw[ah]at this;cases this
    .exact H j a2 Ω P s y
  .intro az Q;simp only[et,cU,ao];intro bm B _ _;refine⟨λR=>⟨λS=>?_,λS=>⟨.inl (Ext.refl _),Q _ _ ⟨B,sp,rfl,⟨(λh=>by cases h),λh=>m6 (uS.2 h.2.1) S⟩⟩⟩⟩,λR=>⟨.inl (Ext.refl _),Q _ _ ⟨B,sp,rfl,⟨(λh=>by cases h),λh=>m6 (uS.2 h.1) R⟩⟩⟩⟩;have ax:=ad.F B;obtain⟨⟨bg,gs,L,M,_⟩,_⟩:=h1.W ax;obtain⟨⟨aU,aV,N,O,_⟩,_⟩:=Y.W ax;rw[b5,aZ c8.p rfl,bI (cs:=[sv]) bL.p bL.i rfl (sub L),b5,aZ c8.p rfl,bI (cs:=[C]) bL.p bL.i rfl (sub N)];refine(r6 M.ls).Y ?_;rintro _ bn _ ⟨rfl,V⟩;refine⟨.inl V,?_⟩;refine(r6 (O.ls.W V)).Y ?_;rintro _ bo _ ⟨rfl,bb⟩;simp only[bO];refine Q _ _ ⟨(B.F V).F bb,_,rfl,?_⟩;rw[decide_eq_true_iff];exact⟨λh=>⟨uS.1 R,uS.1 S,h⟩,λh=>h.2.2⟩
 .rintro _ _ ab aN ⟨q,hm,H⟩;simp only[aW,ao];refine⟨λh=>Ω,λ_=>?_⟩;have z:qX s1 a f e d9:=λp ae s y=>by
   obtain⟨i,hi,he⟩:=List.getElem_of_mem ae;exact H i p hi (by rw[v8 hi,he]) s y
  rw[<-G,qH]at hm;exact⟨q,λh=>m6 z h,λ_=>⟨_,gz,rfl,Ω,hm⟩⟩
def yf(a e d9:Λ):Prop:=iC d9/\∀x,x∈d9↔x∈a\/x∈e
def pL(s1 h a e j f d9:Λ)(k:Int):Λ:=
 (Y9 (aV (dQ s1 a e f d9)).toNat).map λ(q:Nat)=>min (bz s1 h (gG (du (dQ s1 a e f d9) q) d9 a)+bz e j (gG (du (dQ s1 a e f d9) q) d9 f)) k
theorem PJ(s1 h a e j f d9:Λ)(k:Int):(pL s1 h a e j f d9 k).length=(aV (dQ s1 a e f d9)).toNat:=by simp[pL]
theorem uT{s cs:Λ}(hk:right k)(h:∀x∈cs,cE x k):cE (bz s cs t) k:=by
 have a:cE 0 k:=⟨hk,T3 _,by have:=hk.1;omega⟩
 grind [bz]
def Fits(s l:Λ):Prop:=l.length=s.length/\sw l
def sz(e:Int):x4:=.tuple #[.pointer ν,.slice ν 0 0,Δ e]
def Ef(w:x5)(s1 r a f s e:Λ)(k h:Int)(v:x4)(I:x5):Prop:=
 Ext w I/\(¬(Fits s1 a/\Fits f e)->v=sz 1)/\
  (Fits s1 a/\Fits f e->∃d9,yf a e d9/\(¬qX s1 a f e d9->v=sz 1)/\(qX s1 a f e d9->(k≠h->v=sz 3)/\
   (k=h->¬cn (dQ s1 a f e d9)->v=sz 1)/\(k=h->cn (dQ s1 a f e d9)->4096<aV (dQ s1 a f e d9)->v=sz 5)/\
   (k=h->cn (dQ s1 a f e d9)->aV (dQ s1 a f e d9)<=4096->∃j x y q,v= .tuple #[Γ j,q,Δ 0]/\
    dp I j x y (dQ s1 a f e d9) k (pL s1 r a f s e d9 k)/\aQ .i64 I q d9)))
theorem PK{g bq ga bt:Nat}{bu:x4}{s1 y f j:Λ}{aT:Int}{E G:Λ}(h1:dp w g bq sv s1 k E)(ad:dp w ga bt bu y aT G)(af:aQ .i64 w bx f)(ag:aQ .i64 w bv j)(hk:right k)(ci:∀x∈E,cE x k)(cj:∀x∈G,cE x aT):
  aq x8 J7 [Γ g,bx,Γ ga,bv] w (Ef w s1 E f y G j k aT):=by
 have ck:=af.cells;have dv:=ag.cells;have cl:=h1.2.2.1;have cm:=ad.2.2.1;have sub:∀{w:x5}{g:Nat}{sv:x4}{k:Int}{bg:x4},ak w g c8 [sv,Δ k,bg]->w.rangeAt g (0+0) [sv]:=by grind [pv]
 refine jh func186 ?_;refine br λg1 U dw bw C=>?_;refine br λbC ab dx aU H=>?_;refine br λbD dz dA aI K=>?_;refine br λbG Q dC aj L=>?_;have dD:=C.lt;have dE:=H.lt;have dF:=K.lt;have dG:=L.lt;have dH:=bw.size;have dI:=aU.size;have dJ:=aI.size;have dK:=aj.size;have R:=((bw.F aU).F aI).F aj;have C:ak Q g1 fl [Γ g]:=((C.W aU).W aI).W aj;have H:ak Q bC au [bx]:=by rw[ck.1]at H;exact(H.W aI).W aj
 have K:ak Q bD fl [Γ ga]:=K.W aj;have L:ak Q bG au [bv]:=by grind
 refine a6 (λv bH=>v= .bool sp/\Q=bH) ?_ ?_
 rotate_left
 .intro az aW;rw[aF Ψ (C.Qz rfl),dj fl.u];simp only[b9,bb];rw[aF Ψ (K.cell rfl),dj fl.u]
  grind
 rintro _ _ ⟨rfl,rfl⟩;simp only[bb];refine a6 (λv bJ=>Ext Q bJ/\∃c,v= .bool c/\(c=s2↔¬(Fits s1 f/\Fits y j))) ?_ ?_
 rotate_left
 .intro az aW;rw[aF Ψ (C.cell rfl),aF Ψ (H.cell rfl)];refine(D5 (h1.W R) (af.W R)).Y ?_;rintro _ bH _ ⟨W,c,rfl,aJ⟩;simp only[bR,b4];refine⟨λcp=>aW _ _ ⟨W,s2,rfl,λ_ h=>?_,λ_=>rfl⟩,λah=>?_⟩
  .have:=aJ.2 h.1;grind
  .have cq:c=s2:=by grind
   rw[aF Ψ ((K.W W).cell rfl),aF Ψ ((L.W W).cell rfl)];refine(D5 ((ad.W R).W W) ((ag.W R).W W)).Y ?_;rintro _ dL _ ⟨cr,d,rfl,bK⟩;simp only[bR];refine aW _ _ ⟨W.F cr,_,rfl,λh ax=>?_,λh=>?_⟩
   .have:=bK.2 ax.2;grind
   .cases d with
    |false=>rfl
    |true=>exact m6 ⟨aJ.1 cq,bK.1 rfl⟩ h
 rintro _ bJ ⟨am,c,rfl,aJ⟩;have aY:=R.F am;rw[b4];refine⟨λcp dM ct _=>⟨aY.F ct,λ_=>rfl,by grind⟩,λah=>?_⟩;have cu:=Classical.byContradiction λh=>by
  have:=aJ.2 h;rw[ah]at this;cases this
 obtain⟨⟨dN,cw⟩,dO,cz⟩:=id cu;have dP:=cl.1;have dR:=cm.1;rw[aF Ψ ((H.W am).cell rfl),aF Ψ ((L.W am).cell rfl)];refine PH (af.W aY) (ag.W aY) Ω Ω λdS dT dU bM dV cA=>?_;refine x2 cA.ls (by grind) λdW dX dY m bN dZ bP cB cC=>?_;have cD:=bP.length_eq;rw[j6]at cD;refine(PF cC Ω).Y ?_;rintro a1 ea _ ⟨cF,a2⟩;have eb:=am.size;have ec:=bM.size;have ed:=bN.size;have bQ:=(bM.F bN).then cF Ω;obtain⟨cG,cH⟩:=D4 cB (o6 _);have ee:=Pb m m.length;have M:yf f j (dedup m m.length):=⟨cG,λx=>by rw[cH,o9,bP.mem_iff,j9]⟩;generalize dedup m m.length=d9 at*;refine bF au.i λbi ef eg bS cI=>?_;refine bs au.i a2.ls.cells.1 a2.ls.cells.2 cI (by simp[x4.cells]) λeh cJ ei an=>?_;have ej:=bQ.size;have ek:=bS.size;have a7:=bS.then cJ Ω;have X:=(am.F bQ).F a7;have ap:=R.F X;have dy:=an.lt;have bU:=a2.ls.W a7;have an:=an;rw[aF Ψ (an.cell rfl),aF Ψ ((C.W X).cell rfl),aF Ψ ((H.W X).cell rfl),aF Ψ ((K.W X).cell rfl),aF Ψ ((L.W X).cell rfl)];refine(PI (h1.W ap) (ad.W ap) bU (af.W ap) (ag.W ap) cw.up cz.up Ω).Y ?_;rintro em en _ ⟨aw,cK,cL⟩;have bV:=ap.F aw;by_cases bW:qX s1 f y j d9
 rotate_left
 .rw[cK bW,bA,bB];simp only[bR,X5,bT];intro eo cM _;exact⟨bV.F cM,by grind,λ_=>⟨d9,M,λ_=>rfl,by grind⟩⟩
 obtain⟨xs,av,rfl,ep,cN⟩:=cL bW;rw[bA,bB];simp only[bR,Y7,bb];intro Y Z _ _;have aK:=(X.F aw).F Z;have ac:=bV.F Z;have C:=C.W aK;have H:=H.W aK;have K:=K.W aK;have L:=L.W aK;have cO:=(an.W aw).W Z;obtain⟨⟨bg,gs,bX,er,_⟩,_⟩:=h1.W ac;obtain⟨⟨es,et,cP,eu,_⟩,_⟩:=ad.W ac;rw[aF Ψ (C.cell rfl),aO c8.p 1 bX rfl,aF Ψ (K.cell rfl),aO c8.p 1 cP rfl];simp only[bO,ao];refine⟨λaL ev cQ _=>⟨ac.F cQ,by grind,λ_=>⟨d9,M,by grind,λ_=>⟨λ_=>rfl,Ω,Ω,Ω⟩⟩⟩,λaL=>?_⟩;have aL:=X1.1 aL;subst aL;rw[aF Ψ (C.cell rfl),aO c8.p 1 bX rfl];have cR:=cN.W Z;refine(xa cR.ls).Y ?_;rintro aX aM _ ⟨bY,ew,ey,_,cS⟩;have ez:=a7.size;have eA:=aw.size;have eB:=Z.size;have eC:=bY.size;obtain⟨aB,e,rfl,eD,a8⟩:∃(aB:Option Addr)(e:Int),aX= .tuple #[.pointer aB,Δ e]/\(e=0->aB≠ν)/\((e=1/\¬cn (dQ s1 f y j d9))\/(e=5/\cn (dQ s1 f y j d9)/\4096<aV (dQ s1 f y j d9))\/(e=0/\cn (dQ s1 f y j d9)/\aV (dQ s1 f y j d9)<=4096/\
   ∃z B A,aB=σ ⟨z,0,ν⟩/\Y.heap.size<=z/\Y.heap.size<=B/\(∀r,lc A r->Y.heap.size<=r)/\dp aM z B A (dQ s1 f y j d9) k (o5 (aV (dQ s1 f y j d9)).toNat 0))):=by
  by_cases V:cn (dQ s1 f y j d9)
  .by_cases ae:aV (dQ s1 f y j d9)<=4096
   .obtain⟨z,B,A,cT,cU,cV,cW,cX⟩:=cS V ae ⟨hk,Ω,by have:=hk.1;omega⟩;exact⟨_,_,cT,by grind,.inr (.inr ⟨rfl,V,ae,z,B,A,rfl,cU,cV,cW,cX⟩)⟩
   grind
  grind
 rw[bA,bB];refine bF fl.i λcY eE eF bZ aC=>?_;refine bs fl.i rfl rfl aC (by simp[x4.cells]) λeH cZ eI aC=>?_;have eJ:=bZ.size;have ba:=bZ.then cZ Ω;have b0:=bY.F ba;have c0:=ac.F b0;have eK:=aC.lt;simp only[bO,ao];refine⟨λeL eM c1 _=>⟨c0.F c1,by grind,λ_=>⟨d9,M,by grind,λ_=>⟨Ω,λ_ V=>?_,λ_ V ae=>?_,λ_ V ae=>?_⟩⟩⟩,λeN=>?_⟩
 .rcases a8 with⟨rfl,_⟩|⟨_,h,_⟩|⟨_,h,_⟩
  .rfl
  all_goals grind
 .rcases a8 with⟨_,h⟩|⟨rfl,_⟩|⟨_,_,h,_⟩
  .grind
  .rfl
  .omega
 .grind
 obtain⟨bc,c2,z,B,A,rfl,eO,eP,eQ,aN⟩:cn (dQ s1 f y j d9)/\aV (dQ s1 f y j d9)<=4096/\
   ∃z B A,aB=σ ⟨z,0,ν⟩/\Y.heap.size<=z/\Y.heap.size<=B/\(∀r,lc A r->Y.heap.size<=r)/\dp aM z B A (dQ s1 f y j d9) k (o5 (aV (dQ s1 f y j d9)).toNat 0):=by
  rcases a8 with⟨h,_⟩|⟨h,_⟩|⟨_,h⟩
  all_goals omega
 obtain rfl:e=0:=Ω
 have eR:(dQ s1 f y j d9).length=d9.length:=Ee _ _ _ _ _;have eS:=prod_bound bc;obtain⟨N,b1⟩:∃N:Nat,(aV (dQ s1 f y j d9)).toNat=N:=⟨_,rfl⟩;rw[b1]at aN;have eU:0<N:=Ω
 have c3:=aN.W ba;obtain⟨⟨bd,b2,b3,b6,c4⟩,⟨c5,c6,_⟩,_,eV⟩:=id c3;have eW:z<aM.heap.size:=by obtain⟨⟨_,_,q,_⟩,_⟩:=id aN;exact q.lt
 have eX:B<aM.heap.size:=by obtain⟨⟨_,_,_,_,q⟩,_⟩:=id aN;exact ss q Θ
 rw[aF Ψ (aC.cell rfl),b5,aZ c8.p rfl,bI (cs:=[A]) bL.p bL.i rfl (sub b3)];refine xF.Y ?_;rintro _ aP _ ⟨O,be,rfl,eY,b7⟩;have eZ:=ba.size;have e0:=O.size;let S:Nat->Prop:=λr=>r=B;let aD:=pL s1 E f y G j d9 k;have bf:aD.length=N:=by grind [PJ]
 have c7:=(bU.W aw).W Z;let c9:x5->Prop:=λI=>ak I g1 fl [Γ g]/\ak I bC au [bx]/\ak I bD fl [Γ ga]/\ak I bG au [bv]/\ak I bi au [a1]/\aQ .i64 I a1 d9/\
  ak I cY fl [Γ z]/\ak I z c8 [A,Δ k,bd]/\dp I g bq sv s1 k E/\dp I ga bt bu y k G/\aQ .i64 I bx f/\aQ .i64 I bv j/\aH .i64 al I b2 A (dQ s1 f y j d9)/\ak I be bL [A]/\aP.heap.size<=I.heap.size
 have b8:=b0.F O;have aE:∀{a:x5},ai S aP a->c9 a:=by
  intro a J;have P:=b8.put J Ω;have aR:=ac.F P;exact⟨C.W P,H.W P,K.W P,L.W P,cO.W P,c7.W P,(aC.W O).aa J Ω,(b3.W O).aa J Ω,h1.W aR,ad.W aR,af.W aR,ag.W aR,
   bE (b6.W O) J (by grind),b7.aa J Ω,J.size⟩
 have ca:=xE (g:=be) (B0:=aP.heap.size) (sv:=A) bc;rw[b1]at ca;refine qj.old ⟨Nat,sp,nu,#[Γ be],0,_,_,_,λq I=>ai S aP I/\aH .i64 ay I B bd (upto aD 0 q),λ_ _ _=>False,rfl,ca.s,
  ?_,λ_ _ J h=>⟨h.1.W J,h.2.1.W J,X0 h.2.2 J.size⟩,λ_ _ _ J h=>⟨h.1.F (J.aa S),h.2.W J⟩,by grind,⟨b7,(b6.W O).ls,o6 _⟩,⟨ai.refl _ _,?_⟩,?_,?_,by grind,by grind⟩
 .rintro _ _ _ _ ⟨_,_,_,_,rfl,_⟩;rfl
 .rw[qG,bf];exact c4.W O
 .rintro _ aX q _ e1 ⟨_,_,e2⟩ ⟨cb,rfl,e3,gt,da,e4,cc⟩ ⟨aS,db⟩;cases da;let x:=du (dQ s1 f y j d9) (q:Int);have cd:x.length=d9.length:=by grind [kE]
  intro e5 dc _ _;intro e6 dd _ _;have bh:=dc.F dd;obtain⟨f1,f2,f3,f4,f5,f6,f7,f8,f9,f10,f11,f12,f13,f14,f15⟩:=aE (aS.F (bh.aa S));rw[aF Ψ (f1.cell rfl),aF Ψ (f5.cell rfl),aF Ψ (f2.cell rfl)];refine(D7 (cc.ls.W bh) f6 f11 M.1 (λp ae=>(M.2 p).2 (.inl ae)) cd Ω).Y ?_;rintro e7 e8 _ ⟨bj,e9,fa,de⟩;refine⟨.inl bj,?_⟩;refine(xb (f9.W bj) de.ls).Y ?_;rintro _ fb _ ⟨rfl,df⟩;obtain⟨fc,dg⟩:=x1 s1 (gG x d9 f) E;have dh:=dg;rw[dh,bA,bB];intro fd di _ _;have bk:=((bh.F bj).F df).F di;obtain⟨f1,f2,f3,f4,f5,f6,f7,f8,f9,f10,f11,f12,f13,f14,f15⟩:=aE (aS.F (bk.aa S));rw[aF Ψ (f3.cell rfl),aF Ψ (f5.cell rfl),aF Ψ (f4.cell rfl)];refine(D7 (cc.ls.W bk) f6 f12 M.1 (λp ae=>(M.2 p).2 (.inr ae)) cd Ω).Y ?_;rintro fe ff _ ⟨bl,fg,fh,dk⟩;refine⟨.inl bl,?_⟩;refine(xb (f10.W bl) dk.ls).Y ?_;rintro _ fi _ ⟨rfl,dl⟩;obtain⟨fj,dm⟩:=x1 y (gG x d9 j) G;have dn:=dm;rw[dn,bA,bB];intro fk dq _ _;have bm:=((bk.F bl).F dl).F dq;obtain⟨f1,f2,f3,f4,f5,f6,f7,f8,f9,f10,f11,f12,f13,f14,f15⟩:=aE (aS.F (bm.aa S));rw[aF Ψ (f7.cell rfl),aO c8.p 2 f8 rfl,aF Ψ (f7.cell rfl),aO c8.p 1 f8 rfl];refine xD.Y ?_;rintro _ fm _ ⟨rfl,bn⟩;refine⟨.inl bn,?_⟩;have dr:pE (bz s1 E (gG x d9 f)) (bz y G (gG x d9 j)) k= .tuple #[Δ (min (bz s1 E (gG x d9 f)+bz y G (gG x d9 j)) k),Δ 0]:=m3 ⟨uT hk ci,uT hk cj⟩;rw[dr,gd (v:=Δ (min (bz s1 E (gG x d9 f)+bz y G (gG x d9 j)) k)) rfl,gd (v:=Δ 0) rfl];have ce:=db.W (bm.F bn);have fo:(upto aD 0 q).length=N:=by rw[pA,bf]
  rw[jk rfl aA.u ay.i ce Ω];refine jl ay.i ce Ω λfp fq fs cf=>?_;have cg:=(aS.F ((bm.F bn).aa S)).F Ω;obtain⟨f1,f2,f3,f4,f5,f6,f7,f8,f9,f10,f11,f12,f13,f14,f15⟩:=aE cg;have ds:aD[q]?=σ (min (bz s1 E (gG x d9 f)+bz y G (gG x d9 j)) k):=by
   simp only[aD,pL];rw[u4,List.getElem?_range Ω];rfl
  rw[qI ds]at cf;exact⟨⟨f14,f13.ls,f15⟩,⟨cg,cf⟩,by grind⟩
 .rintro q ft cb ⟨ch,bo⟩;rw[show q=N from cb]at bo;intro fu bp _ _;obtain⟨f1,f2,f3,f4,f5,f6,f7,f8,f9,f10,f11,f12,f13,f14,f15⟩:=aE (ch.F (bp.aa S));rw[aF Ψ (f7.cell rfl),aF Ψ (f5.cell rfl)];intro fv aG _;rw[<-bf,qH]at bo;have dt:=ac.F b8;refine⟨((dt.put ch Ω).F bp).F aG,by grind,λ_=>⟨d9,M,by grind,λ_=>⟨Ω,by grind,Ω,λ_ _ _=>⟨z,B,A,a1,rfl,⟨⟨bd,b2,f8.W aG,f13.W aG,(bo.W bp).W aG⟩,⟨c5,c6,c2⟩,bc,by grind⟩,f6.W aG⟩⟩⟩⟩
theorem iC.pair(h:iC l):l.Pairwise (·< ·):=V8.2 λi j hi a e=>h i j _ _ e (v8 hi) (v8 a)
theorem PL{m:Λ}(e:iC l)(hm:iC m)(h:∀x,x∈l↔x∈m):l=m:=by
 have f:l.Nodup:=e.pair.imp λh=>Ω
 have j:m.Nodup:=hm.pair.imp λh=>Ω
 exact S0.eq_of_pairwise (le:=(·<= ·)) (λa b _ _ h1 q=>Int.le_antisymm h1 q) (e.pair.imp λh=>Int.le_of_lt h) (hm.pair.imp λh=>Int.le_of_lt h) ((List.perm_ext_iff_of_nodup f j).2 h)
theorem PM{d9:Λ}(h:yf l l d9)(hu:iC l):d9=l:=PL h.1 hu λx=>by rw[h.2];simp
theorem Eg(h:l.Pairwise (·< ·)):iC l:=λi j x y a J e=>by
 grind [V8]
theorem PN{x:Λ}(hu:l.Nodup)(h:x.length=l.length):gG x l l=x:=by
 refine Y2 λi=>?_
 grind [gG]
theorem Eh{s:Λ}(hu:iC l)(h:s.length=l.length):dQ s l s l l=s:=by
 refine Y2 λi=>?_
 grind [dQ,W7,D6,jq]
theorem PO{s a b:Λ}(hu:l.Pairwise (·< ·))(h:s.length=l.length)(V:dU s)(e:a.length=(aV s).toNat)(f:b.length=(aV s).toNat):pL s a l s b l l k=eP k a b:=by
 have j:l.Nodup:=hu.imp Ω
 grind [pL,Eh,Eg,Oy,PN,kE]
theorem PP{s a b:Λ}(hu:l.Pairwise (·< ·))(r:∀x∈l,0<=x)(h:s.length=l.length)(V:cn s)(ae:aV s<=4096)(y:a.length=(aV s).toNat)(z:b.length=(aV s).toNat)(e:Ef w s a l s b l k k v I):
  Ext w I/\∃j A B C,v= .tuple #[Γ j,C,Δ 0]/\dp I j A B s k (eP k a b):=by
 obtain⟨J,_,e⟩:=e;have f:=Eg hu;have q:Fits s l:=⟨h.symm,Pc f r⟩;obtain⟨d9,ac,_,E⟩:=e ⟨q,q⟩;have F:=PM ac f;subst F;obtain⟨_,_,_,G⟩:=E λp H K L=>rfl;rw[Eh f h,PO hu h V.2 y z]at G
 grind
theorem PQ{s:Λ}(V:dU s):(bt s).Nodup:=(DW V).imp λ{a b}h he=>by subst he;omega
theorem PR{s:Λ}{i:Nat}(V:dU s)(hi:(bt s)[i]?=σ t)(a:(bt s)[j]?=σ t):i=j:=lT (PQ V) hi a
theorem PS{s:Λ}(V:dU s)(h:dB s t):∃j:Nat,(bt s)[j]?=σ t:=Y5.1 ((DV V).2 h)
theorem uU{g m:Nat}{d:List (x4×x4)}(h:ak w g e cs)(hm:db w m d)(a:ai (λr=>r=m) w I):ak I g e cs:=h.aa a (λhe=>uL h hm he)
theorem Ei{g m:Nat}{k:o8}{d:List (x4×x4)}(h:aH k e w g v l)(hm:db w m d)(a:ai (λr=>r=m) w I):aH k e I g v l:=bE h a (λ_ f he=>DY h hm f he)
def uV(cs:Λ)(o:Int):Prop:=o∈cs/\∀d∈cs,cs.count d<cs.count o\/(cs.count d=cs.count o/\o<=d)
theorem PT{i:Nat}{x:Int}(h:l[i]?=σ x)(y:Int):(l.take (i+1)).count y=(l.take i).count y+if y=x then 1 else 0:=by
 rw[u9,h,List.count_append];congr 1;simp only[j4,List.count_singleton];by_cases a:y=x
 .subst a;simp
 .rw[m5 a,m5 (by simpa using λh=>a h.symm)]
def ir(p:Int×Int):x4×x4:=(Δ p.1,Δ p.2)
theorem sA:Keys x8 ay λv=>∃n,v=Δ n:=Keys.int ay.u
theorem sB(E:List (Int×Int)):∀p∈E.map ir,∃n,p.1=Δ n:=λp ae=>by
 obtain⟨q,_,rfl⟩:=l9.1 ae;exact⟨_,rfl⟩
def yg(cs:Λ)(E:List (Int×Int)):Prop:=(∀x,x∈E.map (·.1)↔x∈cs)/\∀p∈E,p.2=(cs.count p.1:Nat)
theorem Ej{cs:Λ}{E:List (Int×Int)}(h:yg cs E){x:Int}(J:x∈cs):∃j:Nat,E[j]?=σ (x,((cs.count x:Nat):Int)):=by
 obtain⟨p,ae,rfl⟩:=l9.1 ((h.1 x).2 J);obtain⟨j,a⟩:=Y5.1 ae;exact⟨j,by rw[a,<-h.2 p ae]⟩
theorem Ek{dy:x4}{cs:Λ}(h:aQ .i64 w dy cs)(au:cs≠[])(bf:cs.length<=1000000):aq x8 tJ [dy] w λv I=>Ext w I/\∃o,v=Δ o/\uV cs o:=by
 refine aE func256 ?_;refine aL.cQ (r7 λm U hm V aK bg=>?_);rw[ba aA.u (h.W V)];refine b3.range cs.length (λi ab=>ai (λr=>r=m) U ab/\∃E,db ab m (E.map ir)/\yg (cs.take i) E) Ω ⟨ai.refl _ _,[],aK,by simp[yg]⟩ ?_ ?_
 .rintro i ab aM hi ⟨C,E,z,e⟩ av;obtain⟨x,W⟩:=aJ (l:=cs) hi;have G:Ext w ab:=V.put C Ω;have aN:∀y,(cs.take i).count y<=1000000:=λy=>by
   have:=List.count_le_length (a:=y) (l:=cs.take i);rw[Z3]at this;omega
  refine bK Ω ?_;rw[bp aA.u ay.i Ψ (h.W G) W];have N:=PT W;have aw:∀y,y∈cs.take (i+1)↔y∈cs.take i\/y=x:=λy=>by
   rw[u9,W];simp
  by_cases H:x∈cs.take i
  .obtain⟨j,X⟩:=Ej e H;have O:(E.map ir)[j]?=σ (Δ x,Δ (((cs.take i).count x:Nat):Int)):=by rw[u4,X];rfl
   rw[sa nz.u sA z (sB E) ⟨_,rfl⟩ O];simp only[Bool.false_eq_true,if_false];have:=aN x;rw[aT,lm Ω Ω];refine aL.cQ (qQ nz.u sA z (sB E) ⟨_,rfl⟩ (λP v0 Y Z J aa aO=>?_) (λY Q=>m6 rfl (Q _ (x7 O))));have aP:=z.uniq Z O rfl;subst aP;rw[aT];have ac:(E.map ir).set P (Δ x,Δ ((((cs.take i).count x:Nat):Int)+1))=(E.set P (x,(((cs.take i).count x:Nat):Int)+1)).map ir:=by rw[U2];rfl
   rw[ac]at J;have aR:=(x6.1 X).1;refine av _ ⟨C.F aa,_,J,λy=>?_,λp ae=>?_⟩
   .rw[U2,r1 (by rw[u4,X];rfl),e.1,aw];exact⟨.inl,λh=>h.elim id (λh=>h▸H)⟩
   .obtain⟨q,f⟩:=Y5.1 ae;by_cases af:P=q
    .subst af;rw[Z6 aR]at f;cases f;show _=(((cs.take (i+1)).count x:Nat):Int);rw[N,m3 rfl];omega
    .rw[Y8 af]at f;have ag:p.1≠x:=λhe=>af (z.uniq O (show(E.map ir)[q]?=σ (ir p) by rw[u4,f];rfl) (by rw[ir,he]));rw[e.2 p (x7 f),N,m5 ag,Nat.add_zero]
  .have Q:∀p∈E.map ir,p.1≠V3 .i64 x:=λp ae he=>by
    obtain⟨q,f,rfl⟩:=l9.1 ae;have:q.1=x:=by simpa[ir]using he
    exact H ((e.1 x).1 (l9.2 ⟨q,f,this⟩))
   rw[ut nz.u sA ⟨_,_,al.i⟩ z (sB E) ⟨_,rfl⟩ Q];simp only[Bool.false_eq_true,if_false];rw[aT,lm Ω Ω];refine aL.cQ (qQ nz.u sA z (sB E) ⟨_,rfl⟩ (λP v0 Y Z=>m6 rfl (Q _ (x7 Z))) (λY _ J aa aO=>?_));rw[aT];have ac:E.map ir++[(V3 .i64 x,V3 .i64 (0+1))]=(E++[(x,1)]).map ir:=by rw[Z0];rfl
   rw[ac]at J;have aS:(cs.take i).count x=0:=List.count_eq_zero.2 H;refine av _ ⟨C.F aa,_,J,λy=>?_,λp ae=>?_⟩
   .rw[Z0,j9,e.1,aw];simp
   .rcases j9.1 ae with ae|ae
    .have ag:=λhe=>H ((e.1 x).1 (l9.2 ⟨p,ae,he⟩));rw[e.2 p ae,N,m5 ag,Nat.add_zero]
    .rw[Y4.1 ae];show(1:Int)=(((cs.take (i+1)).count x:Nat):Int);rw[N,m3 rfl,aS];rfl
 rintro ab aM ⟨C,E,z,e⟩;rw[o9]at e;have G:=V.put C Ω;refine ck Ω ?_;refine(M4 (h.W G) au).Y ?_;rintro _ aU bh ⟨rfl,ah⟩;have bi:=G.size;have bj:=ah.size;refine aL.cQ (uu nz.u (z.W ah) λL bk bm aV bn aX bo=>?_);refine⟨λqY B=>∃b A s left ax,qY=Δ b/\b∈cs/\Ext aU B/\io B L m (E.map ir) left ax/\left=s.map ir/\(A++s).Perm E/\∀p∈A,cs.count p.1<cs.count b\/(cs.count p.1=cs.count b/\b<=p.1),λ_ B=>lg B L,
  ⟨xq cs,[],E,E.map ir,ν,rfl,(MJ au).1,aV,aX,rfl,S0.refl _,λp ae=>by cases ae⟩,?_⟩
 rintro _ B ⟨b,A,s,left,ax,rfl,aj,ak,aB,rfl,R,am⟩;refine uv aB (λ_=>by show w.heap.size<=L;omega) (λaY=>?_) (λj p an ae aC bq M=>?_)
 .rw[gd (v:=.bool sp) rfl,bb];have:s=[]:=List.map_eq_nil_iff.1 aY;subst this;rw[T5]at R;refine⟨(G.F ah).F ak,b,rfl,aj,λd aZ=>?_⟩;obtain⟨q,f,rfl⟩:=l9.1 ((e.1 d).2 aZ);exact am q (R.mem_iff.2 f)
 .rw[gd (v:=.bool s2) rfl,bT];refine uw M ?_;obtain⟨q,f,rfl⟩:∃q,s[j]?=σ q/\ir q=p:=by
   rw[u4]at ae;exact Z9.1 ae
  have aD:=R.mem_iff.1 (j9.2 (.inr (x7 f)));have br:=e.2 q aD;have a1:=(e.1 q.1).1 (l9.2 ⟨q,aD,rfl⟩);obtain⟨a2,a7⟩:=Ej e aj;have a8:(E.map ir)[a2]?=σ (Δ b,Δ ((cs.count b:Nat):Int)):=by rw[u4,a7];rfl
  rw[gd (v:=Δ q.1) rfl,gd (v:=Δ q.2) rfl];have aF:(A++[q]++s.eraseIdx j).Perm E:=by
   refine S0.F ?_ R;rw[T1];exact S0.append_left A (sh f)
  have aG:lg an L<lg B L:=by
   rw[oz M,oz aB];have:=uz (x6.1 ae).1;omega
  refine a6 (λv bc=>an=bc/\∃r:Bool,v= .bool r/\(r=s2↔(cs.count b<cs.count q.1\/(cs.count q.1=cs.count b/\q.1<b)))) ?_ ?_
  .rintro _ _ ⟨rfl,r,rfl,S⟩;rw[b4];refine⟨λbd=>?_,λaH=>?_⟩
   .have S:=S.1 bd;refine⟨⟨q.1,A++[q],s.eraseIdx j,_,_,rfl,a1,ak.F aC,M,(mI ir s j),aF,λp ae=>?_⟩,aG⟩;rcases j9.1 ae with ae|ae
    .have:=am p ae;omega
    .rw[Y4.1 ae];exact .inr ⟨rfl,T3 _⟩
   .have S:¬(cs.count b<cs.count q.1\/(cs.count q.1=cs.count b/\q.1<b)):=λh=>by rw[S.2 h]at aH;cases aH
    refine⟨⟨b,A++[q],s.eraseIdx j,_,_,rfl,aj,ak.F aC,M,(mI ir s j),aF,λp ae=>?_⟩,aG⟩;rcases j9.1 ae with ae|ae
    .exact am p ae
    .rw[Y4.1 ae];omega
  .intro az ap;have aI:∀K:x4->Prop,ad x8 (Instr.lookup nz (.map (σ m)) (Δ b) sp) an K=K (Δ ((cs.count b:Nat):Int)):=λK=>by
    rw[sa nz.u sA M.map (sB E) ⟨_,rfl⟩ a8];simp
   rw[aI,bW,ao];refine⟨λh1=>ap _ _ ⟨rfl,s2,rfl,⟨λ_=>.inl Ω,λ_=>rfl⟩⟩,λh1=>?_⟩;rw[aI,bl,ao];refine⟨λbe=>?_,λbe=>ap _ _ ⟨rfl,sp,rfl,⟨λh=>(by cases h),λh=>Ω⟩⟩⟩;rw[aW];refine ap _ _ ⟨rfl,_,rfl,?_⟩;rw[ro];omega
theorem PU{g:Nat}{k:o8}{q:o4}(h:aH k e w g v l)(s:ak w j q cs)(y:e≠q)(x:lc v r):r≠j:=by
 obtain⟨rfl,_⟩:=ca h x;obtain⟨_,⟨rfl,_⟩|⟨_,_,_,f,_⟩⟩:=h
 .obtain⟨a,n,c,h,_⟩:=x;cases h
 .rintro rfl;unfold ak at s f;rw[s]at f;injection f with h1;injection h1 with A z;exact y z.symm
def PV(w:x5)(an:Λ)(k:Int)(cs:Λ)(v:x4)(I:x5):Prop:=Ext w I/\∃g m o D,v=Γ g/\e5 I g m an k o D/\D.length<=(aV an).toNat/\jW an (jR D o) cs/\uV cs o
theorem PW{g bP:Nat}{cs:Λ}(h:dp w g bP sv an k cs)(aG:∀c∈cs,cE c k):aq x8 Ke [Γ g] w (PV w an k cs):=by
 obtain⟨⟨bg,gs,ba,hm,cn⟩,⟨_,_,bc⟩,V,am⟩:=id h;have ae:=prod_bound V;have cp:=V.1;have bd:cs≠[]:=λhe=>by rw[he]at am;simp at am;omega
 refine jh func196 ?_;rw[dj fl.u];simp only[b9,bb];refine(oy h).Y ?_;rintro dy ab _ ⟨P,cq,cr,aH⟩;refine bF aA.i λao ct cu be bf=>?_;have cw:=bf.lt;refine bs aA.i aH.ls.cells.1 aH.ls.cells.2 bf (by simp[x4.cells]) λap bQ cz au=>?_;have au:ak ap ao aA [dy]:=au;have cA:=P.size;have cB:=be.size;have bh:Ext ab ap:=be.put bQ Ω;have bi:=aH.W bh;have Z:=P.F bh;refine a6 (λu av=>∃a G m o L M,u=Γ a/\Ext ap av/\ak av a fc [Γ G]/\ap.heap.size<=m/\gF av G m L M an k o []/\uV cs o) ?_ ?_
 .rintro _ av ⟨a,G,m,o,L,M,rfl,ac,e,cC,B,E⟩;have bR:=h.W (Z.F ac);have bS:=au.W ac;have bT:=bi.W ac;refine(qP bR).Y ?_;rintro _ cD _ ⟨rfl,bU⟩;refine xF.Y ?_;rintro _ aI _ ⟨bV,bj,rfl,cF,bk⟩;have Q:=bU.F bV;have bl:=B.W Q;have bW:=bS.W Q;have bm:=e.W Q;have bX:=bT.W Q;have bn:=hm.W ((Z.F ac).F Q);have S:=bl.2.2.1;have bY:=(Z.F ac).F Q;have cG:=Z.size;have bZ:=xE (g:=bj) (B0:=aI.heap.size) (sv:=sv) V;refine qj.old ⟨Nat,sp,nu,#[Γ bj],_,_,_,_,λi I=>ai (λr=>r=m) aI I/\∃D,D.length<=i/\gF I G m L M an k o D/\∀(j:Nat)t,(bt an)[j]?=σ t->jR D o t=if j<i then bz an cs t else o,λ_ _ _=>False,rfl,bZ.s,
   ?_,λ_ _ J h=>⟨h.1.W J,h.2.1.W J,X0 h.2.2 J.size⟩,λ_ _ _ J ⟨h1,D,b0,b1,bc⟩=>⟨h1.F (J.aa _),D,b0,b1.W J,bc⟩,λ_ _ _ _ _ h=>h,⟨bk,bn.ls,o6 _⟩,⟨ai.refl _ _,[],o6 _,bl,λj t _=>by rw[m5 Ω];rfl⟩,?_,?_,λ_ _ h=>h.elim,λ_ _ _ h=>h.elim⟩
  .rintro _ _ _ _ ⟨_,_,_,_,rfl,_⟩;rfl
  .rintro _ aX i _ b2 ⟨cH,cI,b3⟩ ⟨hi,rfl,cJ,gt,b4,cK,z⟩ ⟨aw,D,bo,aJ,aK⟩;cases b4;have aM:(bt an)[i]?=σ (du an (i:Int)):=r0 V.2 Ω;have b5:=xt V.2 hi;generalize du an (i:Int)=t at*;have bq:=OF V.2 am aM;intro b6 ax _ _;intro b7 b8 _ _;have aB:=ax.F b8;have aC:ai (λr=>r=m) aI b7:=aw.F (aB.aa _);rw[aF Ψ ((uU bm S aC).cell rfl),aF Ψ ((uU bW S aC).cell rfl),bp aA.u ay.i Ψ (Ei bX S aC).ls bq];have aN:=aJ.W aB;refine(Dd aN.is (z.W aB).ls).Y ?_;rintro _ cL _ ⟨_,ca⟩;obtain⟨rfl,aO,D',br,bu⟩:=ca ⟨b5,aG _ (x7 bq)⟩;have aP:=aC.F aO;have cM:=br.2;refine⟨⟨uU bk S aP,(Ei bn S aP).ls,X0 b3 (X0 aB.size aO.size)⟩,⟨aP,D',Ω,aN.put aO bu,λj s N=>?_⟩,λh=>by cases h⟩;rw[br.cost aN.is.nodup bu.nodup];by_cases bw:j=i
   .subst bw;rw[aM]at N;cases N;rw[m3 rfl,m3 Ω]
   .rw[m5 (λ(he:s=t)=>bw (PR V.2 (by rw[<-he];exact N) aM)),aK j s N];by_cases h1:j<i
    .rw[m3 h1,m3 Ω]
    .rw[m5 h1,m5 Ω]
  .rintro i b2 rfl ⟨aw,D,bo,aJ,aK⟩;rw[aF Ψ ((uU bm S aw).cell rfl)];intro b6 ax _;refine⟨(bY.put aw Ω).F ax,G,m,o,D,rfl,aJ.is.W ax,bo,⟨am,λt cb=>?_⟩,E⟩;obtain⟨j,N⟩:=PS V.2 cb;have:=(x6.1 N).1;rw[kF V.2]at this;rw[aK j t N,m3 this]
 intro az bx;intro A af _ _;have aR:=Z.F af;have bC:=af;have aD:=h.W aR;have bD:=bi.W af;have cN:=af.size;rw[aF Ψ ((au.W af).cell rfl)];have bE:∀{a:Nat}{I:x5}{aX:x4}{o:Int},Ext A I->A.heap.size<=a->(∃f,ak I a fc [f])->aQ .i64 I aX an->uV cs o->
   aq x8 qo [aX,Δ k,Δ o] I λC x=>ad x8 (Z7 C 0) x λO=>ad x8 (Z7 C 1) x λ_=>aL x8 (o7 fc (Γ a) O) x λ(_:Unit)H=>az (Γ a) H:=by
  rintro a I aX o y q ⟨f,e⟩ z E;refine(C7 z).Y ?_;rintro _ x _ ⟨aS,_,_,aT⟩;obtain⟨G,m,rfl,cd,ce,B⟩:=aT V (aG _ E.1);obtain⟨L,M,B⟩:=B.at;rw[bA,bB];have cf:=e.lt;have s':=y.size;refine bs fc.i rfl rfl (e.W aS) Ξ λH bG cO cg=>?_;refine bx _ _ ⟨a,G,m,o,L,M,rfl,((bC.F y).F aS).put bG Ω,cg,Ω,B.aa bG (λhe=>by have he:=he;omega) (λhe=>by have he:=he;omega) (λr aU he=>?_),E⟩;exact PU B.2.1 (e.W aS) Φ aU he
 have bH:∀{a:Nat}{I:x5}{aX:x4},Ext A I->A.heap.size<=a->(∃f,ak I a fc [f])->aQ .i64 I aX an->
   aq x8 tJ [dy] I λag ab=>aq x8 qo [aX,Δ k,ag] ab λC x=>ad x8 (Z7 C 0) x λO=>ad x8 (Z7 C 1) x λ_=>aL x8 (o7 fc (Γ a) O) x λ(_:Unit)H=>az (Γ a) H:=by
  rintro a I aX y q ⟨f,e⟩ z;refine(Ek (bD.W y).ls bd Ω).Y ?_;rintro _ ab _ ⟨P,o,rfl,E⟩;exact bE (y.F P) q ⟨f,e.W P⟩ (z.W P) E
 have bI:∀{a:Nat}{I:x5}{aX:x4},Ext A I->A.heap.size<=a->(∃f,ak I a fc [f])->aQ .i64 I aX an->
   aq x8 wV [Γ g] I λaV U=>(Ext A U\/cc x8 (u5 aA (Γ ao)) dy U/\True)/\
    aq x8 tJ [dy] U λag ab=>aq x8 qo [aX,aV,ag] ab λC x=>ad x8 (Z7 C 0) x λO=>ad x8 (Z7 C 1) x λ_=>aL x8 (o7 fc (Γ a) O) x λ(_:Unit)H=>az (Γ a) H:=by
  rintro a I aX y q ⟨f,e⟩ z;refine(CY (aD.W y)).Y ?_;rintro _ U _ ⟨rfl,K⟩;exact⟨.inl (y.F K),bH (y.F K) q ⟨f,e.W K⟩ (z.W K)⟩
 have bJ:an.length<=1000:=Ω
 have bK:∀{a:Nat}{I:x5},Ext A I->A.heap.size<=a->(∃f,ak I a fc [f])->
   aq x8 Bm [.agg #[sv]] I λch w0=>(Ext A w0\/cc x8 (u5 aA (Γ ao)) dy w0/\True)/\
    aq x8 wV [Γ g] w0 λaV U=>(Ext A U\/cc x8 (u5 aA (Γ ao)) dy U/\True)/\
    aq x8 tJ [dy] U λag ab=>aq x8 qo [ch,aV,ag] ab λC x=>ad x8 (Z7 C 0) x λO=>ad x8 (Z7 C 1) x λ_=>aL x8 (o7 fc (Γ a) O) x λ(_:Unit)H=>az (Γ a) H:=by
  rintro a I y q ⟨f,e⟩;refine(CZ (hm.W (aR.F y)).ls bJ).Y ?_;rintro aX U _ ⟨K,_,_,z⟩;exact⟨.inl (y.F K),bI (y.F K) q ⟨f,e.W K⟩ z.ls⟩
 have ah:∀{I:x5}{R:x4->x5->Prop},Ext A I->(∀a aj,A.heap.size<=a->Ext I aj->(∃f,ak aj a fc [f])->R (Γ a) aj)->aL x8 (Instr.alloc fc s2 (.tuple #[])) I R:=λ{I}{R}y ci=>by
  have:=y.size;exact bF fc.i λa aj q cj ba=>ci a aj Ω cj ⟨_,ba⟩
 refine⟨?_,ah (Ext.refl _) λa cP q aE e=>⟨.inl aE,?_⟩⟩
 rotate_left
 .refine (qP (aD.W aE)).Y ?_;rintro _ cQ _ ⟨rfl,aW⟩;obtain⟨f,e⟩:=e;exact⟨.inl (aE.F aW),bK (aE.F aW) q ⟨f,e.W aW⟩⟩
 refine(qP aD).Y ?_;rintro _ cR _ ⟨rfl,W⟩;refine⟨.inl W,?_,ah W λa cS q bL e=>⟨.inl (W.F bL),bK (W.F bL) q e⟩⟩;refine(CZ (hm.W (aR.F W)).ls bJ).Y ?_;rintro aX cT _ ⟨ck,_,_,z⟩;have X:=W.F ck;refine⟨.inl X,?_,ah X λa cU q aY e=>⟨.inl (X.F aY),bI (X.F aY) q e (z.W aY).ls⟩⟩;refine(CY (aD.W X)).Y ?_;rintro _ cV _ ⟨rfl,aZ⟩;have Y:=X.F aZ;refine⟨.inl Y,?_,ah Y λa cW q a1 e=>⟨.inl (Y.F a1),bH (Y.F a1) q e ((z.W aZ).W a1).ls⟩⟩;refine(Ek (bD.W Y).ls bd Ω).Y ?_;rintro _ cX _ ⟨bM,o,rfl,E⟩;have al:=Y.F bM;have bN:=(z.W aZ).W bM;refine⟨?_,ah al λa cY q a2 e=>⟨.inl (al.F a2),bE (al.F a2) q e (bN.W a2).ls E⟩⟩;refine(C7 bN.ls).Y ?_;rintro _ cZ _ ⟨cl,_,_,aT⟩;obtain⟨G,m,rfl,cd,ce,B⟩:=aT V (aG _ E.1);obtain⟨L,M,B⟩:=B.at;rw[bA,bB];have a7:=al.F cl;refine bF fc.i λa c0 q a8 e=>?_;refine⟨.inl (a7.F a8),?_⟩;have cf:=e.lt;obtain⟨c1,c2,t3⟩:=B.r5;have c3:=al.size;have c4:=a7.size;refine bs fc.i rfl rfl e (by simp[x4.cells]) λc5 bO c6 cm=>?_;exact bx _ _ ⟨a,G,m,o,L,M,rfl,((bC.F a7).F a8).put bO Ω,cm,Ω,(B.W a8).aa bO (λhe=>by have he:=he;omega) (λhe=>by have he:=he;omega) (λr aU he=>by have he:r=a:=he;have:=t3 r aU;omega),E⟩
theorem El{acc:List c0}{g:c0}(h:∀x∈acc,x.1≠g.1):jQ k acc g=acc++[g]:=by
 grind [jQ]
theorem PX{acc:List c0}{g h:c0}{i:Nat}(e:kM acc)(hi:acc[i]?=σ h)(he:h.1=g.1):jQ k acc g=acc.set i (h.1,eP k h.2 g.2):=by
 have q:=(x6.1 hi).1;unfold jQ;rw[m3 (l9.2 ⟨h,x7 hi,he⟩)];refine Y2 λj=>?_;rw[u4,X6];by_cases a:i=j
 .grind
 .rw[m5 a];cases r:acc[j]? with
  |none=>rfl
  |some y=>
   have:y.1≠g.1:=λs=>a (by
    have h1:(acc.map (·.1))[i]?=σ g.1:=by grind
    have f:(acc.map (·.1))[j]?=σ g.1:=by grind
    exact lT e h1 f)
   grind
theorem PY{α β:Type}{f:β->α->β}{b:β}{l:List α}{i:Nat}{x:α}(h:l[i]?=σ x):(l.take (i+1)).foldl f b=f ((l.take i).foldl f b) x:=by
 grind [u9]
def oB(w:x5)(k:Int)(d6:Λ)(x:cF):Prop:=(∃a,aH .i64 al w a x.sv x.sc)/\∃m o D,e5 w x.g m (b6 d6 x.sc) k o D/\D.length<=4096/\jW (b6 d6 x.sc) (jR D o) x.cs
theorem oB.W{x:cF}(h:oB w k d6 x)(J:Ext w I):oB I k d6 x:=by
 obtain⟨⟨a,h1⟩,m,o,D,e,f⟩:=h;exact⟨⟨a,h1.W J⟩,m,o,D,e.W J,f⟩
theorem oB.aa{x:cF}(h:oB w k d6 x)(J:ai S w I)(f:∀r,S r->∃e c,ak w r e c/\e≠gb/\e≠al):oB I k d6 x:=by
 obtain⟨⟨s,h1⟩,m,o,D,y,z⟩:=h;obtain⟨sv,gs,a⟩:=y.at;have j:∀{g:Nat}{v:x4}{l:Λ},aH .i64 al w g v l->∀r,lc v r->¬S r:=by grind [cC]
 refine⟨⟨s,bE h1 J (j h1)⟩,m,o,D,(a.aa J (λV=>?_) (λV=>?_) (j a.2.1)).is,z⟩
 .obtain⟨e,c,q,A,_⟩:=f _ V;have B:=a.1
  grind [ak]
 .obtain⟨e,c,q,_,_⟩:=f _ V;exact uL q a.2.2.1 rfl
def sC(w:x5)(g:Nat)(v:x4)(k:Int)(d6:Λ)(L:List cF):Prop:=bn ff 2 cR w g v L/\∀x∈L,oB w k d6 x
theorem sC.W{g:Nat}{L:List cF}(h:sC w g v k d6 L)(J:Ext w I):sC I g v k d6 L:=⟨h.1.W J,λx a=>(h.2 x a).W J⟩
def PZ(w:x5)(B a:Nat)(f:cg):Prop:=∃hv e gz g L,ak w a cM [ch f.name,Δ f.k,hv,e]/\aH .i64 al w gz hv f.d6/\sC w g e f.k f.d6 L/\L.map eh=gh f/\B<=a/\(∀r,lc hv r->B<=r)/\∀x∈L,∀r,lc x.sv r->B<=r
theorem P0{g bf:Nat}{L:List cF}{j:Λ}(h:fp w g v L)(ae:ak w bf au [sv])(V:aQ .i64 w sv j):
  aq x8 Ba [v,.func (.func Bb) #[] #[Γ bf]] w λr I=>Ext w I/\((r=Δ (-1)/\∀x∈L,x.sc≠j)\/∃i:Nat,r=Δ (i:Int)/\∃x,L[i]?=σ x/\x.sc=j):=by
 refine aE func183 ?_;rw[eF gQ.u h.1];refine cp.range L.length (λi _ U=>Ext w U/\∀x∈L.take i,x.sc≠j) h.1.le ⟨Ext.refl _,λc a=>by simp at a⟩ ?_ ?_
 .rintro i _ U k hi ⟨J,q⟩ hk;refine bK Ω ?_;obtain⟨x,s⟩:=aJ (l:=L) hi;rw[uR rfl (h.W J) s];show aq x8 Bb [lk x,Γ bf] U _;obtain⟨⟨B,hm⟩,_⟩:=(h.W J).at s;refine aE func184 ?_;refine br λav ab C f y=>?_;have y:ak ab av c7 [x.sv,Γ x.g]:=by
   obtain⟨_,_,_,e⟩:=dr hm.ls;simp only[lk,ff,e]at y ⊢;exact y
  rw[aP c7.p 0 y rfl,aF Ψ ((ae.W (J.F f)).Qz rfl)];refine(LH (hm.ls.W f) (V.W (J.F f))).Y ?_;rintro _ E _ ⟨rfl,z⟩;rw[ao];refine⟨λhe=>⟨(J.F f).F z,.inr ⟨i,rfl,x,s,he⟩⟩,λA=>?_⟩;rw[aT];refine hk _ _ ⟨(J.F f).F z,λc a=>?_⟩;rw[u9,s]at a;rcases j9.1 a with a|a
  .exact q c a
  .simp at a;subst a;exact A
 .rintro _ U k ⟨J,q⟩;rw[o9]at q;rw[aW,ao];exact⟨λh=>Ω,λ_=>⟨J,.inl ⟨rfl,q⟩⟩⟩
def e7(f:cg)(i:Nat):List c0:=((f.ho.take i).map (jP f.d6 f.k)).foldl (jQ f.k) []
theorem Em{f:cg}(ah:fC N f)(i:Nat):(∀g∈e7 f i,gi f.d6 f.k g)/\kM (e7 f i)/\(e7 f i).length<=i:=by
 have:=xY (d6:=f.d6) (k:=f.k) (by have:=ah.k.1;omega) (l:=(f.ho.take i).map (jP f.d6 f.k)) (acc:=[]) (λh ax=>by cases ax) List.nodup_nil λg e=>by
  obtain⟨x,J,rfl⟩:=l9.1 e;exact qW ah (List.mem_of_mem_take J)
 refine⟨this.1,this.2.1,?_⟩;have a:=this.2.2;rw[List.length_nil,r9,V0,Z3]at a;exact X0 a (Nat.min_le_left _ _)
theorem yh{f:cg}{i:Nat}{x:cI}(h:f.ho[i]?=σ x):e7 f (i+1)=jQ f.k (e7 f i) (jP f.d6 f.k x):=by
 unfold e7;rw[u9,h,j4,Z0,List.foldl_append];rfl
theorem En(f:cg):e7 f f.ho.length=gg f:=by unfold e7 gg;rw[o9]
theorem yi{L:List cF}{i:Nat}{x:cF}{D:List c0}(h:L.map eh=D)(J:L[i]?=σ x):eh x∈D:=by rw[<-h];exact l9.2 ⟨x,x7 J,rfl⟩
def P1(w:x5)(f:cg)(v:x4)(I:x5):Prop:=Ext w I/\((¬nP f.ho<=16384/\∃e:Int,e≠0/\v= .tuple #[.pointer ν,Δ e])\/∃a,v= .tuple #[Γ a,Δ 0]/\PZ I w.heap.size a f)
theorem uW{g:Nat}{sc cs:Λ}(hm:aH .i64 al w g sv sc):∀u∈ff ⟨sv,a,sc,cs⟩,u.oneCell'=s2:=λu hu=>by
 simp[ff]at hu;rcases hu with rfl|rfl
 .exact hm.ls.cells.2
 .rfl
theorem P2{bN:Nat}{f:cg}(bP:mO w bN f)(E:fC N f)(bQ:N<=60000)(c0:f.name≠[]/\∀b∈f.name,cf b=s2):
  aq x8 Jl [Γ bN] w (P1 w f):=by
 have hk:=E.k;refine aE func122 ?_;refine(Pn bP E bQ c0).Y ?_;rintro _ U _ ⟨aK,e,rfl,he⟩;rw[bO,ao];refine⟨λbR=>⟨aK,.inl ⟨λh=>bR (he h),e,bR,rfl⟩⟩,λem=>?_⟩;have bS:=bP.W aK;obtain⟨hv,aL,gz,bd,bT,c1,be,aM⟩:=id bS;have en:bd.length<=256:=by rw[aM.1];exact E.mG
 rw[aO cM.p 3 bT rfl,ij dT.u be];refine cp.range bd.length (λi l ab=>∃g L,Ext U ab/\fp ab g l L/\Sem ab f.k f.d6 L/\L.map eh=e7 f i/\(∀r,hx l r->U.heap.size<=r)/\∀x∈L,∀r,lc x.sv r->U.heap.size<=r) (pt be)
  ⟨0,[],Ext.refl _,⟨bn.nil _ _ _ _ _,λx J=>(by cases J)⟩,λx J=>(by cases J),rfl,λr A=>(gC A).elim,λx J=>(by cases J)⟩ ?_ ?_
 .rintro i l ab c2 hi ⟨g,L,W,ay,aN,G,O,aA⟩ c3;obtain⟨d,bU⟩:=aJ (l:=bd) hi;obtain⟨x,aQ⟩:∃x,f.ho[i]?=σ x:=⟨_,v8 (by have:=aM.1;omega)⟩;have bV:=x7 aQ;have c4:=aM.2 i x d aQ bU;have X:=qW E bV;obtain⟨c5,c6,eo⟩:=Em E i;have c8:L.length<=i:=by have bW:=congrArg List.length G;rw[r9]at bW;omega
  refine bK Ω ?_;refine a6 (λl' aR=>∃P Y,Ext U aR/\fp aR P l' Y/\Sem aR f.k f.d6 Y/\Y.map eh=e7 f (i+1)/\(∀r,hx l' r->U.heap.size<=r)/\∀x∈Y,∀r,lc x.sv r->U.heap.size<=r) ?_ ?_
  .rintro l' aR ⟨P,Y,h1,c9,da,db,dc⟩;rw[aT];exact c3 _ _ ⟨P,Y,h1,c9,da,db,dc⟩
  intro az bX;refine nH (α:=iB) cR.p rfl dT.u cR.i (bD be W) bU λcs bg=>?_;have bY:cs.length=2:=aw.len bg;refine bF cR.i λav ep er dd de=>?_;refine cd (vs:=cs) cR.i bY rfl (aw.one bg) de λdf dg es dh=>?_;have I:Ext ab df:=dd.put dg Ω;rw[bI cR.p cR.i bY dh.range];refine(Px E bQ bV c4 (bD bg I)).Y ?_;rintro _ di _ ⟨dj,sv,gs,bZ,dk,dl,rfl,et,Z,b0⟩;rw[bA,bB];refine bF au.i λbf eu ev dm dq=>?_;refine bs au.i Z.ls.cells.1 Z.ls.cells.2 dq (by simp[x4.cells]) λb1 ds ew aS=>?_;have bh:Ext di b1:=dm.put ds Ω;have aS:ak b1 bf au [sv]:=aS;rw[lM];have bi:=(I.F dj).F bh;have ey:=bi.size;have ez:=W.size;refine(P0 (ay.W bi) aS (Z.ls.W bh)).Y ?_;rintro _ eA _ ⟨aU,A⟩;have aW:=bi.F aU;have b2:=bh.F aU;have bj:=Z.W b2;have b4:=b0.W b2;have b7:=aS.W aU;have b8:=ay.W aW;have bk:=aN.W aW;rcases A with⟨rfl,dt⟩|⟨b9,rfl,y,B,aX⟩
  .refine bK Ω ?_;rw[aF Ψ (b7.Qz rfl),dn (cs:=#[sv,Γ bZ]) (by obtain⟨_,_,_,rfl⟩:=dr Z.ls;kernel_rfl)];let a:cF:=⟨sv,bZ,bH x.scope,(jP f.d6 f.k x).2⟩;have bl:∀u∈ff a,u.oneCell'=s2:=uW bj;refine jr (f:=ff) (a:=a) gQ.u c7.i Ω rfl rfl λeB eC du eD ad dv=>?_;have af:=b8.W ad;refine jT (f:=ff) (a:=a) gQ.u c7.i rfl af.1 (by simpa using dv.sl) bl Ω Ω λaB P eE aC bm aD=>?_;have cb:=bj.W ad;have aY:∀{r:Nat},hx l r->∃c,ak du r c7 c:=λA=>by
    obtain⟨rfl,c,C⟩:=ef af.1 A;exact⟨c,C⟩
   refine bX _ _ ⟨P,L++[a],((W.F aW).F ad).then aD (λr A he=>by have:=O r he;omega),fp.mk aC λz s=>?_,λz s=>?_,?_,λr A=>?_,λz s r A=>?_⟩
   .rcases j9.1 s with s|s
    .have:=(af.2 z s).aa aD λr A he=>(af.2 z s).2.1 r A (af.1.lc he).1;exact⟨this.1,this.2.2⟩
    .rw[Y4.1 s];exact⟨⟨gs,bE cb aD λr A he=>by obtain⟨c,C⟩:=aY he;exact cC cb C Φ A rfl⟩,X.scope⟩
   .rcases j9.1 s with s|s
    .exact (bk.W ad).row af aD z s
    .rw[Y4.1 s];exact⟨dk,dl,yd (b4.W ad) aD λr A=>aY A⟩
   .rw[Z0,G,yh aQ,El]
    .rfl
    .intro c H dw;rw[<-G]at H;obtain⟨z,s,rfl⟩:=l9.1 H;exact dt z s dw
   .rcases bm r A with h|h
    .exact O r h
    .have:=ad.size;have:=aU.size;omega
   .rcases j9.1 s with s|s
    .exact aA z s r A
    .rw[Y4.1 s]at A;have bW:=(ca Z A).1;have:=I.size;omega
  .refine ck Ω ?_;intro eH Q _ _;have bo:=b8.W Q;have cc:=(x6.1 B).1;obtain⟨dx,dy,a1⟩:=(bk.W Q) y (x7 B);have ce:=b7.W Q;have ci:=bj.W Q;have dz:=b4.W Q;rw[ct rfl gQ.u c7.i bo.1 cc,aZ c7.p rfl,aF Ψ (bo.1.range B 1 _ rfl),aF Ψ (ce.Qz rfl),aF Ψ (ce.Qz rfl)];have ah:gi f.d6 f.k (eh y):=c5 _ (yi G B);rw[aX]at a1;have cj:∀{c:Int},0<=c/\c<=f.k->cE c f.k:=λh=>⟨hk,h.1,h.2⟩;refine(PK a1 dz ci.ls ci.ls hk (λc H=>cj (ah.iY c H)) (λc H=>cj (X.iY c H))).Y ?_;intro eI cl _ dA;have dC:y.cs.length=(aV (b6 f.d6 (bH x.scope))).toNat:=by have:=ah.len;rw[show(eh y).1=y.sc from rfl,aX]at this;exact this
   have dD:cn (b6 f.d6 (bH x.scope)):=b0.2.2.1;obtain⟨bp,cm,cq,cr,eJ,rfl,dE⟩:=PP X.up (λv ac=>(X.scope.1 v ac).1) (by simp[b6];rfl) dD X.small dC X.len dA;rw[fN,fO,fP];have R:=bo.W bp;rw[ct rfl gQ.u c7.i R.1 cc,aZ c7.p rfl];let a:cF:=⟨y.sv,cm,y.sc,eP f.k y.cs (jP f.d6 f.k x).2⟩;refine lf (f:=ff) (j:=1) (a:=y) (a':=a) fl.i rfl rfl R.1 B rfl Ω λdF a2 eK dG=>?_;have aY:∀{r:Nat},hx l r->∃c,ak cl r c7 c:=λA=>by
    obtain⟨rfl,c,C⟩:=ef R.1 A;exact⟨c,C⟩
   refine bX _ _ ⟨g,L.set b9 a,((W.F aW).F (Q.F bp)).then a2 (λr A he=>by have:=O r he;omega),fp.mk dG λz s=>?_,λz s=>?_,?_,O,λz s=>?_⟩
   .have cu:∀z∈L,(∃bq,aH .i64 al dF bq z.sv z.sc)/\lV z.sc:=λz s=>by
     have:=(R.2 z s).aa a2 λr A he=>(R.2 z s).2.1 r A (R.1.lc he).1;exact⟨this.1,this.2.2⟩
    rcases U5 s with s|rfl
    .exact cu z s
    .exact cu y (x7 B)
   .rcases U5 s with s|rfl
    .exact ((bk.W Q).W bp).row R a2 z s
    .refine⟨cq,cr,yd ?_ a2 λr A=>aY A⟩;show dp cl cm cq cr (b6 f.d6 y.sc) f.k _;rw[aX];exact dE
   .rw[U2,G,yh aQ,PX (g:=jP f.d6 f.k x) c6 (i:=b9) (h:=eh y) (by rw[<-G,u4,B];rfl) aX];rfl
   .rcases U5 s with s|rfl
    .exact aA z s
    .exact aA y (x7 B)
 .rintro l ab c2 ⟨g,L,W,ay,aN,G,O,aA⟩;refine ck Ω ?_;rw[aM.1,En]at G;have c8:L.length<=256:=by
   have:=(mM E).2.2;rw[<-G,r9]at this;have:=E.mG;omega
  refine(PD ay aN Ω).Y ?_;rintro eL cw _ ⟨cz,cA,dH⟩;have dI:Ext U cw:=W.then cz λr A he=>by have:=O r he;omega
  have dJ:Sem cw f.k f.d6 (L.filter gH):=λz s=>(aN.row ay cz) z (S6.1 s).1;have eM:(L.filter gH).length<=L.length:=List.length_filter_le _ _;refine(Pu cA Ω).Y ?_;rintro _ cB _ ⟨cD,M,a7,dK,cG⟩;have dL:Ext U cB:=dI.then cD λr A he=>by have:=O r (dH r he);omega
  have cH:Sem cB f.k f.d6 M:=λz s=>(dJ.row cA cD) z (a7.mem_iff.1 s);have eN:M.length<=256:=by rw[a7.length_eq];omega
  have dM:∀x∈M,∀r,lc x.sv r->U.heap.size<=r:=λx J=>aA x (S6.1 (a7.mem_iff.1 J)).1;have cI:M.map eh=gh f:=by
   refine Oq E ?_ ?_
   .refine (a7.map eh).F ?_;rw[<-G,List.filter_map];exact .refl _
   .rw[List.pairwise_map];refine V8.2 λp q ae cJ dN=>?_;exact dK p q _ _ (W3 _) dN cJ (v8 ae) (v8 cJ)
  intro eO a8 _ _;have aj:=dL.F a8;have eQ:=bS.W aj;have bt:=bT.W aj;rw[aO cM.p 0 bt rfl,aO cM.p 1 bt rfl,aO cM.p 2 bt rfl];refine(my (c1.ls.W aj) (by have:=E.d6.2.1;omega)).Y ?_;rintro aG cK _ ⟨S,dO,eR,bu⟩;refine⟨.inl S,?_⟩;rw[dn (cs:=#[ch f.name,Δ f.k,aG,.slice ν 0 0]) (by obtain⟨_,_,_,rfl⟩:=dr bu.ls;kernel_rfl)];refine br λV dP eS ba bw=>?_;have bw:ak dP V cM [ch f.name,Δ f.k,aG,.slice ν 0 0]:=bw;have eU:=(aj.F S).F ba;have dQ:=((cG.W a8).W S).W ba;have eV:=((cH.W a8).W S).W ba;rw[eF gQ.u dQ.1];refine b3.range M.length (λi am=>∃aL gr K,Ext cK am/\ak am V cM [ch f.name,Δ f.k,aG,aL]/\sC am gr aL f.k f.d6 K/\K.map eh=(M.take i).map eh/\K.length=i/\(∀r,hx aL r->cK.heap.size<=r)/\∀x∈K,∀r,lc x.sv r->U.heap.size<=r) Ω
   ⟨_,0,[],ba,bw,⟨bn.nil _ _ _ _ _,λx J=>(by cases J)⟩,rfl,rfl,λr A=>(gC A).elim,λx J=>(by cases J)⟩ ?_ ?_
  rotate_left
  .rintro am dR ⟨aI,gr,K,an,ap,bx,bb,_,_,bz⟩;rw[o9,cI]at bb;refine ck Ω ?_;have eW:=aK.size;have eX:=aj.size;have eY:=S.size;exact⟨(aK.F (aj.F S)).F an,.inr ⟨V,rfl,aG,aI,dO,gr,K,ap,bu.W an,bx,bb,Ω,λr A=>by have:=(ca bu A).1;omega,λx J r A=>by have:=bz x J r A;omega⟩⟩
  rintro i am dR hi ⟨aI,gr,K,an,ap,bx,bb,dS,cL,bz⟩ dU;obtain⟨y,B⟩:=aJ (l:=M) hi;have cN:=(a8.F S).F an;have cO:=cG.W cN;have cP:=cO.at B;obtain⟨dx,dy,a1⟩:=(cH.W cN) y (x7 B);have ah:gi f.d6 f.k (eh y):=uH E _ (yi cI B);refine bK Ω ?_;rw[uR rfl cO B];refine bF c7.i λgy eZ e0 dV dW=>?_;refine cd (vs:=ff y) c7.i rfl rfl cP.one dW λdX dY e1 dZ=>?_;have ea:Ext am dX:=dV.put dY Ω;intro e2 cQ _ _;have bC:=ea.F cQ;have cS:=dZ.W cQ;have eb:=ap.W bC;rw[aO cM.p 3 eb rfl,aP c7.p 0 cS rfl,aP c7.p 1 cS rfl];refine(PW (a1.W bC) λc H=>⟨hk,(ah.iY c H).1,(ah.iY c H).2⟩).Y ?_;rintro _ e3 _ ⟨bG,ag,m,o,D,rfl,ec,ed,ee,_⟩;refine⟨.inl bG,?_⟩;have cT:=bC.F bG;obtain⟨⟨bq,cU⟩,_,e4⟩:=cP;have cV:=cU.W cT;rw[dn (cs:=#[y.sv,Γ ag]) (by obtain⟨_,_,_,e⟩:=dr cU.ls;rw[e];kernel_rfl)];let a:cF:=⟨y.sv,ag,y.sc,y.cs⟩;have bl:∀u∈ff a,u.oneCell'=s2:=uW cV;refine jr (f:=ff) (a:=a) dT.u cR.i Ω rfl rfl λv25 e5 bJ e6 I eg=>?_;refine⟨.inl (bG.F I),?_⟩;have ax:=cT.F I;have bc:=bx.W ax;refine jT (f:=ff) (a:=a) dT.u cR.i rfl bc.1 (by simpa using eg.sl) bl Ω Ω λaB P ei aC bm cW=>?_;have e8:=an.size;have e9:=ax.size;have bL:ak ei V cM [ch f.name,Δ f.k,aG,aI]:=(ap.W ax).aa cW λhe=>by
   obtain⟨rfl,c,C⟩:=ef bc.1 he;have h1:=ap.W ax;unfold ak at C h1;rw[h1]at C;exact m6 (Obj.cells.inj (Z5 C)).2.1 Φ
  rw[b5,aZ cM.p rfl];have cX:aB.cells= #[aB]/\aB.oneCell'=s2:=by
   obtain⟨_,_,_,_,_,rfl,_⟩:=aC.sl;exact⟨rfl,rfl⟩
  refine bs dT.i cX.1 cX.2 bL Ξ λej cY fa ek=>?_;rw[aT];have bM:ai (λr=>r=V\/hx aI r) bJ ej:=(cW.Y λr _ h=>.inr h).F (cY.Y λr _ h=>.inl h);have cZ:∀r,(r=V\/hx aI r)->∃e c,ak bJ r e c/\e≠gb/\e≠al:=λr A=>by
   rcases A with rfl|A
   .exact⟨_,_,ap.W ax,Φ,Φ⟩
   .obtain⟨rfl,c,C⟩:=ef bc.1 A;exact⟨_,c,C,Φ,Φ⟩
  refine dU _ ⟨aB,P,K++[a],?_,ek,⟨aC.aa cY λr A he=>?_,λz s=>?_⟩,?_,by rw[j6,dS];rfl,λr A=>?_,λz s=>?_⟩
  .exact (an.F ax).then bM λr A he=>by
    rcases he with rfl|he
    .omega
    .have:=cL r he;omega
  .have he:r=V:=he;subst he;obtain⟨rfl,c,C⟩:=ef aC A;unfold ak at C bL;rw[bL]at C;exact m6 (Obj.cells.inj (Z5 C)).2.1 Φ
  .rcases j9.1 s with s|s
   .exact (bc.2 z s).aa bM cZ
   .rw[Y4.1 s];refine oB.aa (w:=bJ) ⟨⟨bq,cV.W I⟩,m,o,D,ec.W I,?_,ee⟩ bM cZ;have:=ah.small;exact X0 ed (by show(aV (b6 f.d6 (eh y).1)).toNat<=4096;omega)
  .rw[Z0,bb,u9,B,Z0];rfl
  .rcases bm r A with h|h
   .exact cL r h
   .omega
  .rcases j9.1 s with s|s
   .exact bz z s
   .rw[Y4.1 s];exact dM y (x7 B)
theorem fE{a:o4}{c f:List x4}(h:ak w r e c)(be:ak w r a f):e=a:=by
 grind [ak]
theorem cO{α:Type}{f:α->List x4}{k:Nat}{a:o4}{g:Nat}{L:List α}(h:bn f k e w g v L)(r:ak w j a cs)(s:e≠a):¬hx v j:=λq=>by
 obtain⟨rfl,c,x⟩:=ef h q
 grind [fE]
structure mP where
 v:x4
 l:Λ
def sD(h:mP):List x4:=[h.v]
def i7(w:x5)(g:Nat)(v:x4)(a7:List mP):Prop:=bn sD 1 aA w g v a7/\∀h∈a7,∃a,aH .i64 ay w a h.v h.l
theorem i7.W{g:Nat}{a7:List mP}(h:i7 w g v a7)(J:Ext w I):i7 I g v a7:=⟨h.1.W J,λx a=>by
 obtain⟨e,hm⟩:=h.2 x a;exact⟨e,hm.W J⟩⟩
theorem i7.sE{g:Nat}{a7:List mP}(h:i7 w g v a7)(j:ai S w I)(q:∀r,S r->∃e c,ak w r e c/\e≠ay):∀h∈a7,∃a,aH .i64 ay I a h.v h.l:=λx f=>by
 obtain⟨a,hm⟩:=h.2 x f;exact⟨a,by grind [bE,cC]⟩
theorem i7.aa{g:Nat}{a7:List mP}(h:i7 w g v a7)(a:ai S w I)(f:∀r,S r->∃e c,ak w r e c/\e≠ay/\e≠aA):i7 I g v a7:=
 ⟨h.1.aa a λr j V=>by
  obtain⟨e,c,q,_,s⟩:=f r V;exact cO h.1 q (by grind) j,h.sE a (by grind)⟩
def pM(w:x5)(k:Int)(d6:Λ)(x:cF):Prop:=(∃a,aH .i64 al w a x.sv x.sc)/\∃e f,dp w x.g e f (b6 d6 x.sc) k x.cs
theorem pM.W{x:cF}(h:pM w k d6 x)(J:Ext w I):pM I k d6 x:=by
 obtain⟨⟨a,h1⟩,e,f,j⟩:=h;exact⟨⟨a,h1.W J⟩,e,f,j.W J⟩
theorem Eo{g f:Nat}{j:x4}{cs:Λ}(h:dp w g f j an k cs)(a:ai S w I)(z:∀r,S r->∃e c,ak w r e c/\e≠c8/\e≠al/\e≠ay):dp I g f j an k cs:=by
 obtain⟨⟨bg,gs,h1,q,s⟩,x⟩:=h;refine⟨⟨bg,gs,h1.aa a λV=>?_,bE q a λr y V=>?_,bE s a λr y V=>?_⟩,x⟩
 all_goals grind [fE,cC]
theorem pM.aa{x:cF}(h:pM w k d6 x)(a:ai S w I)(f:∀r,S r->∃e c,ak w r e c/\e≠c8/\e≠al/\e≠ay):pM I k d6 x:=by
 obtain⟨⟨j,h1⟩,q,s,y⟩:=h;refine⟨⟨j,bE h1 a λr z V=>?_⟩,q,s,Eo y a f⟩
 grind [cC]
def pN(w:x5)(g:Nat)(v:x4)(k:Int)(d6:Λ)(L:List cF):Prop:=bn ff 2 iS w g v L/\∀x∈L,pM w k d6 x
theorem pN.W{g:Nat}{L:List cF}(h:pN w g v k d6 L)(J:Ext w I):pN I g v k d6 L:=⟨h.1.W J,λx a=>(h.2 x a).W J⟩
theorem pN.aa{g:Nat}{L:List cF}(h:pN w g v k d6 L)(a:ai S w I)(f:∀r,S r->∃e c,ak w r e c/\e≠iS/\e≠c8/\e≠al/\e≠ay):pN I g v k d6 L:=
 ⟨h.1.aa a λr j V=>by
  obtain⟨e,c,q,s,_⟩:=f r V;exact cO h.1 q (by grind) j,λx J=>(h.2 x J).aa a (by grind)⟩
def gI(w:x5)(h:Nat)(n:aI):Prop:=∃a e f j gr a7 L nm hv gz fv2,ak w h gu [Γ a,Δ n.zero,e,f]/\ak w a cM [nm,Δ n.k,hv,fv2]/\aH .i64 al w gz hv n.d6/\
 i7 w j e a7/\a7.map (·.l)=n.unary/\pN w gr f n.k n.d6 L/\L.map eh=n.ho
theorem gI.W{n:aI}(h:gI w a n)(J:Ext w I):gI I a n:=by
 obtain⟨e,f,j,q,gr,a7,L,nm,hv,gz,fv2,h1,r,s,x,y,z,A⟩:=h;exact⟨e,f,j,q,gr,a7,L,nm,hv,gz,fv2,h1.W J,r.W J,s.W J,x.W J,y,z.W J,A⟩
def sF(w:x5)(B:Nat)(k:Int)(d6:Λ)(x:cF):Prop:=(∃f,aH .i64 al w f x.sv x.sc)/\(∃a e,dp w x.g a e (b6 d6 x.sc) k x.cs/\B<=a/\∀r,lc e r->B<=r)/\B<=x.g/\∀r,lc x.sv r->B<=r
theorem sF.aa{x:cF}(h:sF w B k d6 x)(a:ai S w I)(f:∀r,S r->∃e c,ak w r e c/\e≠c8/\e≠al/\e≠ay):sF I B k d6 x:=by
 obtain⟨⟨j,h1⟩,⟨q,s,y,z⟩,A⟩:=h;refine⟨⟨j,bE h1 a λr C V=>?_⟩,⟨q,s,Eo y a f,z⟩,A⟩
 grind [cC]
def nQ(w:x5)(B g:Nat)(v:x4)(k:Int)(d6:Λ)(L:List cF):Prop:=bn ff 2 iS w g v L/\∀x∈L,sF w B k d6 x
theorem nQ.W{g:Nat}{L:List cF}(h:nQ w B g v k d6 L)(J:Ext w I):nQ I B g v k d6 L:=⟨h.1.W J,λx a=>(h.2 x a).aa (J.aa λ_=>False) λ_ h=>h.elim⟩
theorem nQ.aa{g:Nat}{L:List cF}(h:nQ w B g v k d6 L)(a:ai S w I)(f:∀r,S r->∃e c,ak w r e c/\e≠iS/\e≠c8/\e≠al/\e≠ay):nQ I B g v k d6 L:=
 ⟨h.1.aa a λr j V=>by
  obtain⟨e,c,q,s,_⟩:=f r V;exact cO h.1 q (by grind) j,λx J=>(h.2 x J).aa a (by grind)⟩
theorem Ep:∃o:Obj,fW o=sp:=⟨.deferred ν,rfl⟩
theorem ghost(w:x5)(B:Nat):∃w0,Ext w0 w/\ai (λr=>r<B) w w0/\∀r o,w0.heap[r]?=σ o->fW o=s2->B<=r:=by
 obtain⟨cQ,e⟩:=Ep;have f:∀r,(w.heap.mapIdx λr o=>if r<B then cQ else o)[r]?=(w.heap[r]?).map λo=>if r<B then cQ else o:=λr=>Ξ
 refine⟨{w with heap:=w.heap.mapIdx λr o=>if r<B then cQ else o},⟨Ξ,λr o a V=>?_⟩,⟨Ξ,λr o a V h=>?_⟩,λr o a V=>?_⟩
 all_goals grind
def Er(B:Nat)(w:x5)(a:Nat)(n:aI):Prop:=∃w0,gI w0 a n/\Ext w0 w/\∀r o,w0.heap[r]?=σ o->fW o=s2->B<=r
theorem P3{s f y gr gz:Nat}{n:aI}{j q nm hv fv2:x4}{a7:List mP}{L:List cF}(h1:ak w s gu [Γ f,Δ n.zero,j,q])(E:ak w f cM [nm,Δ n.k,hv,fv2])(F:aH .i64 al w gz hv n.d6)(z:i7 w y j a7)(G:a7.map (·.l)=n.unary)(A:nQ w B gr q n.k n.d6 L)(H:L.map eh=n.ho)(I:B<=s)(K:B<=f)(M:∀r,lc hv r->B<=r)(X:∀r,hx j r\/hx q r->B<=r)(Y:∀h∈a7,∀r,lc h.v r->B<=r):Er B w s n:=by
 obtain⟨w0,J,a,N⟩:=ghost w B;have no:∀{r:Nat},B<=r->¬r<B:=Ω
 have C:∀{e:o4}{g:Nat}{v:x4}{l:Λ},aH .i64 e w g v l->(∀r,lc v r->B<=r)->aH .i64 e w0 g v l:=by grind [bE]
 refine⟨w0,⟨f,j,q,y,gr,a7,L,nm,hv,gz,fv2,h1.aa a (no I),E.aa a (no K),C F M,⟨z.1.aa a (by grind),λh ax=>?_⟩,G,⟨A.1.aa a (by grind),λx J=>?_⟩,H⟩,J,N⟩
 .obtain⟨O,hm⟩:=z.2 h ax
  grind
 .obtain⟨⟨O,Z⟩,⟨P,Q,⟨⟨bg,gs,R,S,t3⟩,t4⟩,ab,U⟩,V,ac⟩:=A.2 x J;exact⟨by grind,P,Q,⟨bg,gs,R.aa a (no V),C S U,bE t3 a λr W=>no (by have:=(ca t3 W).1;omega)⟩,t4⟩
def km(n:aI)(g:c0):aI:=match g.1 with
 |[]=>{n with zero:=g.2.getD 0 0}
 |[v]=>{n with unary:=n.unary.set v.toNat g.2}
 |_=>{n with ho:=n.ho++[g]}
def Es(f:cg):aI:=⟨f.k,f.d6,0,f.d6.map λz=>o5 z.toNat 0,[]⟩
theorem P4(f:cg):cA f=(gh f).foldl km (Es f):=rfl
def ei(f:cg)(i:Nat):aI:=((gh f).take i).foldl km (Es f)
theorem yj{f:cg}{i:Nat}{g:c0}(h:(gh f)[i]?=σ g):ei f (i+1)=km (ei f i) g:=PY h
theorem uX(f:cg):ei f (gh f).length=cA f:=by grind [ei,P4]
theorem P5(n:aI)(g:c0):(km n g).k=n.k/\(km n g).d6=n.d6/\(km n g).unary.length=n.unary.length/\(km n g).ho.length<=n.ho.length+1:=by
 grind [km]
theorem qZ(f:cg):∀i,(ei f i).k=f.k/\(ei f i).d6=f.d6/\(ei f i).unary.length=f.d6.length/\(ei f i).ho.length<=i
 |0=>⟨rfl,rfl,by show(f.d6.map _).length=_;simp,W3 _⟩
 |i+1=>by
  have e:=qZ f i;cases a:(gh f)[i]? with
  |none=>
   grind [ei,j5]
  |some g=>
   rw[yj a]
   grind [P5]
def P6(w:x5)(f:cg)(v:x4)(I:x5):Prop:=Ext w I/\((¬nP f.ho<=16384/\∃e:Int,e≠0/\v= .tuple #[.pointer ν,Δ e])\/∃a,v= .tuple #[Γ a,Δ 0]/\Er w.heap.size I a (cA f))
theorem eH{k:Nat}(h:cj w k v n cs):v.cells= #[v]/\v.oneCell'=s2:=by
 obtain⟨_,_,_,_,_,rfl,_⟩:=h;exact⟨rfl,rfl⟩
theorem P7{bS:Nat}{f:cg}(cq:mO w bS f)(R:fC N f)(cr:N<=60000)(cu:f.name≠[]/\∀b∈f.name,cf b=s2):
  aq x8 IK [Γ bS] w (P6 w f):=by
 have hk:=R.k;refine aE func60 ?_;refine(P2 cq R cr cu).Y ?_;rintro _ U _ ⟨an,⟨cw,e,he,rfl⟩|⟨aM,rfl,cz⟩⟩
 .rw[bA,bB,bO,ao];exact⟨λ_=>⟨an,.inl ⟨cw,e,he,rfl⟩⟩,λh=>m6 he h⟩
 rw[bA,bB,bO,ao];refine⟨λh=>m6 rfl h,λ_=>?_⟩;obtain⟨hv,cA,gz,dv,M,bb,bc,bT,aN,cB,cD,cE⟩:=id cz;have dw:M.length<=256:=by
  have h1:=(sr R).2.length_eq;have ag:=(mM R).2.2;have ah:=List.length_filter_le gf (gg f);have aQ:=R.mG;have dx:M.length=(gh f).length:=by rw[<-aN,r9]
  omega
 have dy:=R.d6.2.1;rw[dn (cs:=#[Γ aM,Δ 0,.slice ν 0 0,.slice ν 0 0]) Ψ];refine br λH ab dz bd be=>?_;have be:=be;rw[aO cM.p 2 (bb.W bd) rfl,ba au.u (bc.ls.W bd)];refine b3.range f.d6.length (λi ap=>∃s G a7,Ext U ap/\ak ap H gu [Γ aM,Δ 0,s,.slice ν 0 0]/\i7 ap G s a7/\a7.map (·.l)=(f.d6.take i).map (λz=>o5 z.toNat 0)/\(∀r,hx s r->U.heap.size<=r)/\∀h∈a7,∀r,lc h.v r->U.heap.size<=r) Ω
  ⟨_,0,[],bd,be,⟨bn.nil _ _ _ _ _,λx J=>(by cases J)⟩,rfl,λr q=>(gC q).elim,λx J=>(by cases J)⟩ ?_ ?_
 .rintro i ap cG hi ⟨s,G,a7,ac,aR,bf,aw,aS,K⟩ cH;obtain⟨z,B⟩:=aJ (l:=f.d6) hi;have dA:=R.d6.2.2 z (x7 B);have dC:a7.length=i:=by have:=congrArg List.length aw;simp only[r9,Z3]at this;omega
  refine bK Ω ?_;rw[bp au.u al.i Ψ (bc.ls.W ac) B];intro dD bg _ _;have cI:=aR.W bg;rw[aO gu.p 2 cI rfl];obtain⟨aU,rfl⟩:∃n:Nat,z=n:=⟨z.toNat,Ω⟩;refine kD aA.u ay.i Ω Ω λbU dE dF bh cJ=>?_;refine⟨.inl bh,?_⟩;have bV:=aH.of (b7.full (n:=aU) cJ Ξ (by simp[maxLen];omega));let a:mP:=⟨.slice (σ ⟨bU,0,ν⟩) aU aU,o5 aU 0⟩;refine jr (f:=sD) (a:=a) c4.u aA.i Ω rfl rfl λdG dH bi dI bj cK=>?_;refine⟨.inl (bh.F bj),?_⟩;have aW:=(bg.F bh).F bj;have aX:=bf.W aW;refine jT (f:=sD) (a:=a) c4.u aA.i rfl aX.1 (by simpa using cK.sl) (λu hu=>by rw[Y4.1 (show u∈[a.v]from hu)];rfl) Ω Ω λbk bm dJ O bo bW=>?_;have aB:∀{r:Nat},hx s r->∃c,ak bi r aA c:=λq=>by
   obtain⟨rfl,c,A⟩:=ef aX.1 q;exact⟨c,A⟩
  have bq:=aR.W aW;have bX:=bq.aa bW λhe=>cO aX.1 bq Φ he;rw[b5,aZ gu.p rfl];refine bs c4.i (eH O.sl).1 (eH O.sl).2 bX Ξ λcL bY dK cN=>?_;rw[aT];have bt:ai (λr=>hx s r\/r=H) bi cL:=(bW.Y λr _ h=>.inl h).F (bY.Y λr _ h=>.inr h);have S:∀r,(hx s r\/r=H)->∃e c,ak bi r e c/\e≠ay:=λr q=>by
   rcases q with q|rfl
   .obtain⟨c,A⟩:=aB q;exact⟨_,c,A,Φ⟩
   .exact⟨_,_,bq,Φ⟩
  have bZ:=an.size;have z3:=ac.size;have dL:=aW.size;refine cH _ ⟨bk,bm,a7++[a],(ac.F aW).then bt (λr q he=>?_),cN,⟨O.aa bY λr q he=>?_,λy C=>?_⟩,?_,λr q=>?_,λy C r q=>?_⟩
  .rcases he with he|rfl
   .have:=aS r he;omega
   .omega
  .have he:r=H:=he;subst he;exact cO O bX Φ q
  .rcases j9.1 C with C|C
   .exact aX.sE bt S y C
   .rw[Y4.1 C];have b0:=bV.W bj;exact⟨bU,bE b0 bt λr q V=>by
     obtain⟨e,c,A,cP⟩:=S r V;exact cC b0 A (λhe=>cP he.symm) q rfl⟩
  .rw[Z0,aw,u9,B,j4,Z0];rfl
  .rcases bo r q with h|h
   .exact aS r h
   .omega
  .rcases j9.1 C with C|C
   .exact K y C r q
   .rw[Y4.1 C]at q;have cQ:=(ca bV q).1;have:=bg.size;omega
 .rintro ap cG ⟨s,G,a7,ac,aR,bf,aw,aS,K⟩;refine ck Ω ?_;rw[o9]at aw;have cS:=bb.W ac;have cT:=bT.W ac;rw[aO cM.p 3 cS rfl,eF dT.u cT.1];refine b3.range M.length (λi aj=>∃s E G gr a7 L,Ext U aj/\ak aj H gu [Γ aM,Δ (ei f i).zero,s,E]/\i7 aj G s a7/\a7.map (·.l)=(ei f i).unary/\nQ aj w.heap.size gr E f.k f.d6 L/\L.map eh=(ei f i).ho/\(∀r,hx s r\/hx E r->U.heap.size<=r)/\∀h∈a7,∀r,lc h.v r->U.heap.size<=r) Ω
   ⟨s,_,G,0,a7,[],ac,aR,bf,aw,⟨bn.nil _ _ _ _ _,λx J=>(by cases J)⟩,rfl,λr q=>q.elim (aS r) λh=>(gC h).elim,K⟩ ?_ ?_
  rotate_left
  .rintro aj cU ⟨s,E,G,gr,a7,L,P,aY,bu,ad,bw,ae,W,K⟩;refine ck Ω ?_;have cV:M.length=(gh f).length:=by rw[<-aN,r9]
   have aC:=qZ f M.length;rw[cV,uX]at aY ad ae aC;have bZ:=an.size;refine⟨an.F P,.inr ⟨H,rfl,P3 (gr:=gr) (nm:=ch f.name) (hv:=hv) (gz:=gz) (fv2:=cA) aY ?_ ?_ bu ad ?_ ae Ω cB cD (λr q=>by have:=W r q;omega) λh ax r q=>by have:=K h ax r q;omega⟩⟩
   .rw[aC.1];exact bb.W P
   .rw[aC.2.1];exact bc.W P
   .rw[aC.1,aC.2.1];exact bw
  rintro i aj cU hi ⟨s,E,G,gr,a7,L,P,aY,bu,ad,bw,ae,W,K⟩ cW;obtain⟨y,C⟩:=aJ (l:=M) hi;have cX:(gh f)[i]?=σ (eh y):=by rw[<-aN,u4,C];rfl
  have a1:=uH R _ (yi aN C);have bx:=bT.W P;obtain⟨dM,dN,dO,dP⟩:=qZ f i;refine bK Ω ?_;refine dd (λaD=>∃s E G gr a7 L,Ext U aD/\ak aD H gu [Γ aM,Δ (ei f (i+1)).zero,s,E]/\i7 aD G s a7/\a7.map (·.l)=(ei f (i+1)).unary/\nQ aD w.heap.size gr E f.k f.d6 L/\L.map eh=(ei f (i+1)).ho/\(∀r,hx s r\/hx E r->U.heap.size<=r)/\∀h∈a7,∀r,lc h.v r->U.heap.size<=r) ?_ ?_
  .rintro aD h;rw[aT];exact cW _ h
  intro az bz;have cY:=bx.2 y (x7 C);obtain⟨⟨cZ,bC⟩,m,o,D,c0,dQ,c1⟩:=cY;rw[ct rfl dT.u cR.i bx.1 hi,bI cR.p cR.i rfl (bx.1.range C)];refine bF cR.i λav dR dS c2 c3=>?_;refine cd (vs:=ff y) cR.i rfl rfl (uW bC) c3 λdV c5 dW b1=>?_;have bD:=c2.put c5 Ω;rw[aP cR.p 1 b1 rfl];refine(DX (c0.W bD) Ω).Y ?_;rintro _ dX _ ⟨b2,_,am⟩;obtain⟨g,c6,c7,dY,rfl,dZ,c9,am,da⟩:=am a1.small;have db:dU (b6 f.d6 y.sc):=am.2.2.1.2;have dc:=jW.eq db da c1;subst dc;have X:=bD.F b2;have bG:=b1.W b2;have bH:=bC.W X;rw[bA,bB,aP cR.p 0 bG rfl,ba au.u bH.ls];have bZ:=an.size;have z9:=P.size;have ea:=X.size;have bJ:=aY.W X;have bL:=bu.W X;have bM:=bw.W X;have bN:=yj cX;rw[bl,ao];refine⟨λeb=>?_,λec=>?_⟩
  .
   have af:y.sc=[]:=b8 Ω;have I:ei f (i+1)={ei f i with zero:=y.cs.getD 0 0}:=by rw[bN];unfold km;simp only[eh,af]
   refine(oy am).Y ?_;rintro b4 de _ ⟨a2,ed,ee,df⟩;have eg:y.cs.length=1:=by have:=a1.len;simpa[eh,af,b6,aV]using this
   have dg:y.cs[0]?=σ (y.cs.getD 0 0):=by rw[r8,v8 Ω];rfl
   rw[fz (y:=0) (i:=0) rfl aA.u ay.i Ψ df.ls dg,b5,aZ gu.p rfl];have b9:=bJ.W a2;refine bs ay.i rfl rfl b9 Ξ λej bP ek dh=>?_;have S:∀r,r=H->∃e c,ak de r e c/\e≠iS/\e≠c8/\e≠al/\e≠ay/\e≠aA:=λr q=>by
    subst q;exact⟨_,_,b9,Φ,Φ,Φ,Φ,Φ⟩
   refine bz _ ⟨s,E,G,gr,a7,L,((P.F X).F a2).put bP Ω,?_,(bL.W a2).aa bP (λr q=>?_),by rw[I];exact ad,(bM.W a2).aa bP (λr q=>?_),by rw[I];exact ae,W,K⟩
   .rw[I];exact dh
   .obtain⟨e,c,A,_,_,_,h1,ag⟩:=S r q;exact⟨e,c,A,h1,ag⟩
   .obtain⟨e,c,A,h1,ag,ah,aQ,_⟩:=S r q;exact⟨e,c,A,h1,ag,ah,aQ⟩
  rw[bl,ao];refine⟨λh1=>?_,λem=>?_⟩
  .
   obtain⟨v,af⟩:∃v,y.sc=[v]:=X9.1 Ω;have en:=a1.scope.1 v (by show v∈y.sc;rw[af];exact .head _);have eo:=a1.d9 v (by show v∈y.sc;rw[af];exact .head _);have I:ei f (i+1)={ei f i with unary:=(ei f i).unary.set v.toNat y.cs}:=by rw[bN];unfold km;simp only[eh,af]
   intro ep Y _ _;have cb:=bJ.W Y;have di:=bG.W Y;rw[aO gu.p 2 cb rfl,aP cR.p 0 di rfl];refine om rfl au.u al.i (bH.ls.W Y) (show y.sc[0]?=σ v by rw[af];rfl) λb o dj=>?_;rw[aF Ψ dj];refine(oy (am.W Y)).Y ?_;rintro b4 dk _ ⟨aG,dl,er,aI⟩;refine⟨.inl aG,?_⟩;have aK:=(bL.W Y).W aG;have es:a7.length=f.d6.length:=by have:=congrArg List.length ad;rw[r9]at this;omega
   obtain⟨u,hu⟩:=aJ (l:=a7) (i:=v.toNat) Ω;rw[ct (i:=v.toNat) Ω c4.u aA.i aK.1 Ω];let a:mP:=⟨b4,y.cs⟩;refine lf (j:=0) (a:=u) (a':=a) aA.i aI.ls.cells.1 aI.ls.cells.2 aK.1 hu rfl Ω λet aL eu dm=>?_;have cc:=cb.W aG;have aB:∀{r:Nat},hx s r->∃c,ak dk r aA c:=λq=>by
    obtain⟨rfl,c,A⟩:=ef aK.1 q;exact⟨c,A⟩
   refine bz _ ⟨s,E,G,gr,a7.set v.toNat a,L,(((P.F X).F Y).F aG).then aL (λr q he=>by have:=W r (.inl he);omega),?_,⟨dm,λz B=>?_⟩,?_,((bM.W Y).W aG).aa aL (λr q=>?_),by rw[I];exact ae,W,λz B r q=>?_⟩
   .rw[I];exact cc.aa aL λhe=>cO aK.1 cc Φ he
   .rcases U5 B with B|rfl
    .exact aK.sE aL (λr q=>by obtain⟨c,A⟩:=aB q;exact⟨_,c,A,Φ⟩) z B
    .exact⟨dl,bE aI aL λr q V=>by
      obtain⟨c,A⟩:=aB V;exact cC aI A Φ q rfl⟩
   .rw[I,U2,ad]
   .obtain⟨c,A⟩:=aB q;exact⟨_,c,A,Φ,Φ,Φ,Φ⟩
   .rcases U5 B with B|rfl
    .exact K z B r q
    .have cQ:=(ca aI q).1;have:=Y.size;omega
  .
   have I:ei f (i+1)={ei f i with ho:=(ei f i).ho++[eh y]}:=by
    rw[bN];unfold km;have ce:2<=(eh y).1.length:=by show 2<=y.sc.length;omega
    generalize eh y=g at ce ⊢;obtain⟨sc,cs⟩:=g
    match sc,ce with
    |_::_::_,_=>rfl
   intro ev Z _ _;have ci:=bJ.W Z;have dp:=bG.W Z;have cj:=bH.W Z;rw[aO gu.p 3 ci rfl,aP cR.p 0 dp rfl,dn (cs:=#[y.sv,Γ g]) (by obtain⟨_,_,_,e⟩:=dr bC.ls;rw[e];kernel_rfl)];let a:cF:=⟨y.sv,g,y.sc,y.cs⟩;refine jr (f:=ff) (a:=a) mn.u iS.i Ω rfl rfl λew ey bQ ez Q dq=>?_;refine⟨.inl Q,?_⟩;have a6:=(bM.W Z).W Q;have ds:=(bL.W Z).W Q;have bR:=ci.W Q;have eA:L.length<=256:=by have:=congrArg List.length ae;rw[r9]at this;omega
   refine jT mn.u iS.i rfl a6.1 (by simpa using dq.sl) (uW (cj.W Q)) Ω Ω λbk bm eB O bo cl=>?_;have cm:=bR.aa cl λhe=>cO a6.1 bR Φ he;rw[b5,aZ gu.p rfl];refine bs mn.i (eH O.sl).1 (eH O.sl).2 cm Ξ λdt cn eC du=>?_;have a8:ai (λr=>hx E r\/r=H) bQ dt:=(cl.Y λr _ h=>.inl h).F (cn.Y λr _ h=>.inr h);have S:∀r,(hx E r\/r=H)->∃e c,ak bQ r e c/\e≠c8/\e≠al/\e≠ay/\e≠aA:=λr q=>by
    rcases q with q|rfl
    .obtain⟨rfl,c,A⟩:=ef a6.1 q;exact⟨_,c,A,Φ,Φ,Φ,Φ⟩
    .exact⟨_,_,bR,Φ,Φ,Φ,Φ⟩
   have eD:=(Z.F Q).size;refine bz _ ⟨s,bk,G,bm,a7,L++[a],(((P.F X).F Z).F Q).then a8 (λr q he=>?_),?_,ds.aa a8 (λr q=>?_),by rw[I];exact ad,⟨O.aa cn λr q he=>?_,λz B=>?_⟩,?_,λr q=>?_,K⟩
   .rcases he with he|rfl
    .have:=W r (.inr he);omega
    .omega
   .rw[I];exact du
   .obtain⟨e,c,A,_,_,ah,aQ⟩:=S r q;exact⟨e,c,A,ah,aQ⟩
   .have he:r=H:=he;subst he;exact cO O cm Φ q
   .have cp:∀r,(hx E r\/r=H)->∃e c,ak bQ r e c/\e≠c8/\e≠al/\e≠ay:=λr q=>by
     obtain⟨e,c,A,h1,ag,ah,_⟩:=S r q;exact⟨e,c,A,h1,ag,ah⟩
    rcases j9.1 B with B|B
    .exact (a6.2 z B).aa a8 cp
    .rw[Y4.1 B];have eE:=bD.size;refine sF.aa ⟨⟨cZ,cj.W Q⟩,⟨c6,c7,?_,Ω,λr q=>by have:=c9.2 r q;omega⟩,by show w.heap.size<=g;omega,cE y (x7 C)⟩ a8 cp;exact(am.W Z).W Q
   .rw[I,Z0,ae];rfl
   .rcases q with q|q
    .exact W r (.inl q)
    .rcases bo r q with h|h
     .exact W r (.inr h)
     .omega
theorem Et{z:Array x4}{k:Nat}(a:z.size=k):(Z2.zeroCells z n).toList=eb z (n*k):=by
 grind [Z2.zeroCells,eb]
theorem P8{P:X8}{t q x:o4}{A kn:o8}{b g k m:Nat}{xs:List x4}{K:x4->x5->Prop}(T:y=(m:Int))(J:P.underlying t=σ (.slice e))(L:P.underlying q=σ (.int kn))(hi:aU P e k b z)(U:z.cells.size=k)(au:0<k)(h1:∀u∈eb z.cells (m*k),u.oneCell'=s2)(h:b7 w g e k v n xs)(V:0<m)(W:(n+m)*b<=140737488355328)(av:n+m<=9223372036854775807)(M:∀C X I,b7 I X e k C (n+m) (xs++eb z.cells (m*k))->(∀r,hx C r->hx v r\/w.heap.size<=r)->ai (λr=>hx v r) w I->K C I):aL P (c9 #[t,q] x #[v,.int A y]) w K:=by
 subst T;obtain⟨i,hi,Y,rfl,N⟩:=hi;obtain⟨aw,hm⟩:=h;have Z:=qw z.cells (m*k);have ab:m*i.bytes<=281474976710656:=by
  grind
 have grow:∀(base:Option Addr)(cap:Nat),v= .slice base n cap->(Z2.firstCells i.size n (.slice base n cap)).run P w.drew= .ok xs.toArray w.drew->cap<n+m->aL P (c9 #[t,q] x #[v,.int A (m:Int)]) w K:=λbase cap ac ad f=>by
  subst ac;have E:=Lib.run_append_grow_zeros (P:=P) w t q x e i z A kn J L hi N base n cap xs ad m V Ω f Ω ab (growslice_fits f W);have O:n+m<=grownCap w (n+m) cap e:=grownCap_ge w _ _ _;have ae:grownCap w (n+m) cap e<=maxLen:=by grind [grownCap_le_maxLen,maxLen]
  have ax:=qw z.cells ((grownCap w (n+m) cap e-(n+m))*k);have ay:(n+m)*k<=grownCap w (n+m) cap e*k:=V4 _ O;have af:(n+m)*k=n*k+m*k:=T7 _ _ _;have az:(grownCap w (n+m) cap e-(n+m))*k=grownCap w (n+m) cap e*k-(n+m)*k:=Nat.sub_mul _ _ _;refine .of E ((rn w _ (Nat.le_succ _)).F (rq _ _)) (M _ w.heap.size _ ⟨by grind,.inr ⟨_,xs++eb z.cells (m*k)++eb z.cells ((grownCap w (n+m) cap e-(n+m))*k),rfl,?_,O,ae,?_,?_⟩⟩ (λr F=>?_) (((tb w _).F (rp _ _)).aa _))
  .have:=heap_alloc_new w.drew (.cells (xs.toArray++Z2.zeroCells z.cells m++Z2.zeroCells z.cells (grownCap w (n+m) cap e-(n+m))) e);unfold ak;rw[show w.drew.heap.size=w.heap.size from rfl]at this;rw[this];congr 2
   grind [Et]
  .grind
  .grind
  .obtain⟨a,ag,c,G,B⟩:=F
   grind
 rcases hm with⟨rfl,ah⟩|⟨cap,cs,rfl,s,G,B,Q,aj⟩
 .subst ah;have:xs=[]:=by grind
  subst this;exact grow ν 0 rfl (by grind [run_firstCells_none]) Ω
 .by_cases f:n+m<=cap
  .have al:(n+m)*k<=cs.length:=by rw[Q];exact V4 _ f
   have af:(n+m)*k=n*k+m*k:=T7 _ _ _;have H:=run_storeCells_cells (P:=P) g (0+n*k) (eb z.cells (m*k)) 0 w (λj R=>by
    rw[Z]at R;rw[Nat.add_zero,V0,s.cell (v8 Ω)];rfl) (λj _=>s.frozen _ _) h1
   simp only[Nat.add_zero]at H;have hw:X4.wrap (m:Int)=m:=by rw[o8.wrap_i64];omega
   have am:¬((m:Int)<0):=Ω
   have an:¬(281474976710656<(m:Int)*(i.bytes:Int)):=Ω
   have ao:¬(m*i.size=0):=by grind [Nat.mul_ne_zero]
   have ap:(Z2.zeroCells z.cells m).toList=eb z.cells (m*k):=Et U;have E:(c9 #[t,q] x #[.slice (σ ⟨g,0,ν⟩) n cap,.int A (m:Int)]).run P w= .ok (.slice (σ ⟨g,0,ν⟩) (n+m) cap) (w.setCells g (0+n*k) (eb z.cells (m*k))):=by
    simp[c9,run_underlying J,run_underlying L,sizeOf,typeInfo,zeroValue,hi,N,asInt,asIntOf,hw,f,am,ao,an,ap,Addr.add_lit,Y];simp only[V0]at H;rw[H];simp
    grind
   obtain⟨aq,S⟩:=pq (eb z.cells (m*k)) cs (0+n*k) w s;refine .of E (S.cQ s) (M _ g _ ⟨by grind,.inr ⟨cap,_,rfl,aq,f,B,by rw[nD,Q],?_⟩⟩ (λr F=>.inl ?_) (S.aa.Y λr _ he=>⟨_,_,_,rfl,he.symm⟩))
   .grind [oi]
   .obtain⟨a,ag,c,G,B⟩:=F;cases G;exact⟨_,_,_,rfl,B⟩
  .refine grow _ cap rfl ?_ Ω;have al:n*k<=cs.length:=by grind
   refine run_firstCells_some w.drew i.size n _ n cap xs (by grind) λj u hu=>?_;rw[U8,V0];have R:=(x6.1 hu).1;rw[<-aj,V1 Ω]at hu;exact s.cell hu
def kO(c:Cell):List x4:=[Δ c.v,.int .u64 (c.st:Int)]
def sG(o:mA):List x4:=[Δ (o.i:Int),Δ o.c.v,.int .u64 (o.c.st:Int)]
def q0(m:tX):List x4:=[Δ (m.olds:Int),Δ (m.cells:Int),.int .u64 (m.st:Int)]
def dF(w:x5)(ag:Nat)(A:aj)(t:aB):Prop:=A ag/\∃e go dw bg a eA,ak w ag gP [bg,a,eA,.int .u64 (t.kH:Int)]/\bn kO 2 fb w e bg t.cells/\bn sG 3 ny w go a t.olds/\bn q0 3 ih w dw eA t.marks/\
 ∀r,hx bg r\/hx a r\/hx eA r->A r
theorem dF.aa{S A:aj}{t:aB}(h:dF w ag A t)(a:ai S w I)(f:∀r,A r->¬S r):dF I ag A t:=by
 obtain⟨e,j,go,dw,bg,q,eA,h1,s,x,y,z⟩:=h;exact⟨e,j,go,dw,bg,q,eA,h1.aa a (f _ e),s.aa a (by grind),x.aa a (by grind),y.aa a (by grind),z⟩
theorem dF.W{A:aj}{t:aB}(h:dF w ag A t)(J:Ext w I):dF I ag A t:=h.aa (J.aa λ_=>False) λ_ _ h=>h
theorem dF.Y{A B:aj}{t:aB}(h:dF w ag A t)(a:∀r,A r->B r):dF w ag B t:=by
 obtain⟨e,f,go,dw,bg,j,eA,h1,q,s,x,y⟩:=h;exact⟨a _ e,f,go,dw,bg,j,eA,h1,q,s,x,λr z=>a r (y r z)⟩
def Grow(A:aj)(w:x5)(aR:aj)(I:x5):Prop:=ai A w I/\(∀r,aR r->A r\/w.heap.size<=r)/\∀r,A r->aR r
theorem Grow.refl(A:aj)(w:x5):Grow A w A w:=⟨ai.refl _ _,λ_ h=>.inl h,λ_ h=>h⟩
theorem Grow.W{A:aj}(h:Ext w I):Grow A w A I:=⟨h.aa _,by grind,λ_ h=>h⟩
theorem Grow.F{A aR e:aj}{f:x5}(h:Grow A w aR I)(k:Grow aR I e f):Grow A w e f:=
 ⟨⟨X0 h.1.size k.1.size,λr o a V j=>k.1.a8 r o (h.1.a8 r o a V j) V λq=>(h.2.1 r q).elim j λs=>by
  grind⟩,λr a=>by
  rcases k.2.1 r a with h1|h1
  .exact h.2.1 r h1
  .have:=h.1.size;omega,λr a=>k.2.2 r (h.2.2 r a)⟩
theorem Eu{A:aj}{t:aB}(h:dF w ag A t):aq x8 JM [Γ ag] w λv I=>v=Δ (t.cells.length:Int)/\Ext w I:=by
 obtain⟨e,f,go,dw,bg,j,eA,h1,a,q,r,s⟩:=h;refine aE func155 ?_;rw[dj rJ.u];simp only[b9,bb];rw[aO gP.p 0 h1 rfl,eF jI.u a];exact⟨rfl,Ext.refl _⟩
theorem Ev{A:aj}{t:aB}{i:Int}(h:dF w ag A t):aq x8 I7 [Γ ag,Δ i] w λv I=>v= .bool (decide (0<=i/\i<t.cells.length))/\Ext w I:=by
 refine aE func86 ?_;refine a6 (λv U=>v= .bool (decide (0<=i/\i<t.cells.length))/\Ext w U) (λ_ _ h=>h) ?_;intro az a;rw[cU,ao];refine⟨λe=>?_,λe=>a _ _ ⟨by rw[rc];omega,Ext.refl _⟩⟩;refine(Eu h).Y ?_;rintro _ U _ ⟨rfl,J⟩;rw[aW];refine a _ _ ⟨?_,J⟩;congr 1;rw[U1,ro,ro];exact⟨λh=>⟨Ω,h⟩,λh=>h.2⟩
theorem P9{A:aj}{t:aB}{i:Nat}{c:Cell}(h:dF w ag A t)(f:y=(i:Int))(a:t.cells[i]?=σ c):aq x8 AW [Γ ag,Δ y] w λv I=>v=Δ c.v/\Ext w I:=by
 have j:=(x6.1 a).1;refine aE func38 ?_;refine(Ev h).Y ?_;rintro _ U _ ⟨rfl,J⟩;rw[ms Ω,bR,Y7,bb];obtain⟨q,r,go,dw,bg,s,eA,h1,e,x,z,B⟩:=h.W J;rw[aO gP.p 0 h1 rfl,ct f jI.u fb.i e j,aZ fb.p rfl,aF Ψ (e.range a 0 _ rfl)];exact⟨rfl,J⟩
theorem pO{A:aj}{t:aB}{i:Nat}{x:Int}(h:dF w ag A t)(e:y=(i:Int))(a:t.cb[i]?=σ x):aq x8 AW [Γ ag,Δ y] w λv I=>v=Δ x/\Ext w I:=by
 unfold aB.cb at a;rw[u4]at a;obtain⟨c,f,rfl⟩:=Z9.1 a;exact P9 h e f
def oC(t:aB):Prop:=t.cells.length<=100000000/\t.olds.length<=100000000/\t.marks.length<=100000000
theorem uY{s go dw:Nat}{bg a eA:x4}{t:aB}{x:x4}(h1:ak w ag gP [bg,a,eA,x])(f:bn kO 2 fb w s bg t.cells)(h:bn sG 3 ny w go a t.olds)(j:bn q0 3 ih w dw eA t.marks):
  (¬hx bg ag/\¬hx a ag/\¬hx eA ag)/\(∀r,hx bg r->¬hx a r/\¬hx eA r)/\∀r,hx a r->¬hx bg r/\¬hx eA r:=by
 refine⟨⟨cO f h1 Φ,cO h h1 Φ,cO j h1 Φ⟩,λr q=>?_,λr q=>?_⟩
 .obtain⟨rfl,c,e⟩:=ef f q;exact⟨cO h e Φ,cO j e Φ⟩
 .obtain⟨rfl,c,e⟩:=ef h q;exact⟨cO f e Φ,cO j e Φ⟩
theorem uZ{A:aj}{t:aB}{i:Nat}{x:Int}(h:dF w ag A t)(bk:y=(i:Int))(N:i<t.cells.length)(ap:oC t):aq x8 A4 [Γ ag,Δ y,Δ x] w λv I=>v=Δ 0/\∃aR,Grow A w aR I/\dF I ag aR (t.set i x):=by
 subst bk;obtain⟨c,C⟩:=aJ (l:=t.cells) N;refine aE func126 ?_;rw[dj rJ.u];simp only[b9,bb];refine(Ev h).Y ?_;rintro _ U _ ⟨rfl,J⟩;rw[ms Ω,bR,Y7,bb];obtain⟨aT,O,go,dw,bg,P,eA,h1,aU,au,X,Y⟩:=id (h.W J);have bl:∀{ab:x5}{aR:aj}{bu:aB}{st:Nat}{K:x5->Prop},dF ab ag aR bu->bu.cells[i]?=σ ⟨c.v,st⟩->
   (∀q,ai aR ab q->dF q ag aR {bu with cells:=bu.cells.set i ⟨x,st⟩}->K q)->
   (ad x8 (b0 (Γ ag)) ab λt77=>
   ad x8 (u6 gP t77 0) ab λbm=>
   ad x8 (u5 jI bm) ab λbn=>
   ad x8 (n9 jI bn (Δ (i:Int))) ab λbo=>
   ad x8 (u6 fb bo 0) ab λbp=>
   aL x8 (o7 ay bp (Δ x)) ab λ(_:Unit)q=>
   K q):=by
  intro ab aR bu st K aw Z bq;obtain⟨ax,O,go,dw,bg,P,eA,E,G,Q,R,S⟩:=aw;have br:=(x6.1 Z).1;rw[aO gP.p 0 E rfl,ct rfl jI.u fb.i G br,aZ fb.p rfl];obtain⟨⟨V,aA,aC⟩,H,_⟩:=uY E G Q R;refine lf (f:=kO) (j:=0) (a:=⟨c.v,st⟩) (a':=⟨x,st⟩) ay.i rfl rfl G Z rfl Ω λq B bt bw=>?_;exact bq q (B.Y λr _ e=>S r (.inl e)) ⟨ax,O,go,dw,bg,P,eA,E.aa B V,bw,Q.aa B λr e he=>(H r he).1 e,R.aa B λr e he=>(H r he).2 e,S⟩
 refine dd (λab=>∃aR bu st,Grow A U aR ab/\dF ab ag aR bu/\bu.cells[i]?=σ ⟨c.v,st⟩/\t.set i x={bu with cells:=bu.cells.set i ⟨x,st⟩}) ?_ ?_
 .rintro ab ⟨aR,bu,st,bx,aw,Z,aD⟩;refine bl aw Z λq B au=>⟨by trivial,aR,?_,by rw[aD];exact au⟩;exact(Grow.W J).F (bx.F ⟨B,λ_ h=>.inl h,λ_ h=>h⟩)
 intro az aG;rw[aO gP.p 2 h1 rfl,eF tL.u X,bW,ao];have aV:∀(hm:t.marks.getLast? =ν\/∃m,t.marks.getLast? =σ m/\¬(c.st<m.st/\i<m.cells)),t.set i x={t with cells:=t.cells.set i ⟨x,c.st⟩}:=λhm=>by
  unfold aB.set;rw[C];rcases hm with hm|⟨m,hm,bz⟩
  .simp only[hm]
  .simp only[hm];rw[m5 bz]
 refine⟨λbX=>?_,λbY=>aG _ ⟨A,t,c.st,Grow.refl _ _,h.W J,C,aV (.inl ?_)⟩⟩
 rotate_left
 .rw[List.getLast?_eq_none_iff];exact b8 Ω
 obtain⟨m,hm⟩:=aJ (l:=t.marks) (i:=t.marks.length-1) Ω;have aX:t.marks.getLast? =σ m:=by rw[List.getLast?_eq_getElem?];exact hm
 have bZ:=ap.2.2;rw[aO gP.p 2 h1 rfl,dm,lm Ω Ω,ct (i:=t.marks.length-1) Ω tL.u ih.i X Ω,bI ih.p ih.i rfl (X.range hm)];refine bF ih.i λav ab b1 aY bA=>?_;refine cd (vs:=q0 m) ih.i rfl rfl (by intro v ac;simp[q0]at ac;rcases ac with rfl|rfl|rfl<;>rfl) bA λq B bt bB=>?_;have a1:=aY.put B Ω;have ae:∀{I:x5},Ext q I->ak I av ih (q0 m):=λJ=>bB.W J;refine a6 (λv aH=>v= .bool (decide (c.st<m.st/\i<m.cells))/\Ext q aH) ?_ ?_
 rotate_left
 .intro b2 a2;intro aH s _ _;have L:=a1.F s;have a7:=ae s;have M:=aU.W L;rw[aO gP.p 0 (h1.W L) rfl,ct rfl jI.u fb.i M N,aZ fb.p rfl,aF Ψ (M.range C 1 _ rfl),aP ih.p 2 a7 rfl,aW,ao];refine⟨λa8=>?_,λba=>a2 _ _ ⟨by rw[rc];omega,s⟩⟩;rw[aP ih.p 1 a7 rfl,aW];refine a2 _ _ ⟨?_,s⟩;congr 1;rw[U1,ro,ro];exact⟨λh=>⟨Ω,Ω⟩,λh=>Ω⟩
 rintro _ aH ⟨rfl,s⟩;have L:=a1.F s;rw[ao];refine⟨λa8=>?_,λba=>aG _ ⟨A,t,c.st,Grow.W L,(h.W J).W L,C,aV (.inr ⟨m,aX,ba⟩)⟩⟩;intro b3 af _ _;have W:=L.F af;have aI:=h1.W W;have M:=aU.W W;have bC:=au.W W;have bD:=X.W W;rw[b5,aZ gP.p rfl,aF Ψ (aI.cell rfl),b5,aZ gP.p rfl,aF Ψ (aI.cell rfl),ct rfl jI.u fb.i M N,bI fb.p fb.i rfl (M.range C)];rw[dn (cs:=#[Δ (i:Int),Δ c.v,.int .u64 (c.st:Int)]) Ψ];let a:mA:=⟨i,c⟩;have bE:∀u∈sG a,u.oneCell'=s2:=by intro v ac;simp[sG]at ac;rcases ac with rfl|rfl|rfl<;>rfl
 refine jr (f:=sG) (a:=a) pk.u ny.i Ω rfl rfl λb4 b6 bc b7 z bG=>?_;refine⟨.inl z,?_⟩;have bd:=W.F z;have aK:=aI.W z;have be:=M.W z;have aM:=bC.W z;have bf:=bD.W z;obtain⟨⟨V,aA,aC⟩,H,bH⟩:=uY aK be aM bf;refine jT pk.u ny.i rfl aM (by simpa using bG.sl) bE (by have:=ap.2.1;omega) (by have:=ap.2.1;omega) λbJ bK ca ah bL bh=>?_;rw[b5,aZ gP.p rfl];have bi:=aK.aa bh aA;refine bs pk.i (eH ah.sl).1 (eH ah.sl).2 bi Ξ λal bj cb aN=>?_;have aN:=aN;have am:ai (λr=>hx P r\/r=ag) bc al:=(bh.Y λr _ h=>.inl h).F (bj.Y λr _ h=>.inr h);have bM:=be.aa am λr e he=>he.elim (λhe=>(H r e).1 he) λhe=>V (he▸e);have bN:=bf.aa am λr e he=>he.elim (λhe=>(bH r he).2 e) λhe=>aC (he▸e);have bO:=ah.aa bj λr e he=>by
  have he:r=ag:=he;subst he;exact cO ah bi Φ e
 have cc:=bd.size;have ce:=aY.size;let aQ:aj:=λr=>A r\/bc.heap.size<=r;have bP:Grow A U aQ al:=⟨(bd.aa A).F (am.Y λr _ he=>he.elim (λhe=>Y r (.inr (.inl he))) λhe=>he▸aT),λr e=>e.imp id λe=>Ω,λr e=>.inl e⟩;have bQ:dF al ag aQ {t with olds:=t.olds++[a]}:=⟨.inl aT,O,bK,dw,bg,bJ,eA,aN,bM,bO,bN,λr e=>by
  rcases e with e|e|e
  .exact .inl (Y r (.inl e))
  .rcases bL r e with h|h
   .exact .inl (Y r (.inr (.inl h)))
   .exact .inr h
  .exact .inl (Y r (.inr (.inr e)))⟩
 have bS:ak al av ih (q0 m):=(ae ((s.F af).F z)).aa am λhe=>by
  rcases he with he|he
  .obtain⟨rfl,cf,bT⟩:=ef aM he;exact m6 (fE bT (ae ((s.F af).F z))) Φ
  .subst he;exact m6 (fE aK (ae ((s.F af).F z))) Φ
 intro cg aS _ _;have bU:=bQ.W aS;obtain⟨ax,O,go,dw,bg,P,eA,E,G,Q,R,S⟩:=bU;rw[aO gP.p 0 E rfl,aP ih.p 2 (bS.W aS) rfl,ct rfl jI.u fb.i G N,aZ fb.p rfl];obtain⟨⟨V,aA,aC⟩,H,_⟩:=uY E G Q R;refine lf (a':=⟨c.v,m.st⟩) fZ.i rfl rfl G C rfl Ω λch an ci bV=>?_;have aD:t.set i x={t with olds:=t.olds++[a],cells:=t.cells.set i ⟨x,m.st⟩}:=by
  unfold aB.set;rw[C];simp only[aX];rw[m3 a8]
 refine aG _ ⟨aQ,{t with olds:=t.olds++[a],cells:=t.cells.set i ⟨c.v,m.st⟩},m.st,bP.F ((Grow.W aS).F ⟨an.Y λr _ e=>S r (.inl e),λ_ h=>.inl h,λ_ h=>h⟩),⟨ax,O,go,dw,bg,P,eA,E.aa an V,bV,Q.aa an λr e he=>(H r he).1 e,R.aa an λr e he=>(H r he).2 e,S⟩,?_,?_⟩
 .show (t.cells.set i _)[i]?=_;rw[Z6 N]
 .rw[aD];simp only[List.set_set]
theorem Ew(n:Nat):eb (#[Δ 0,.int .u64 0]:Array x4) (n*2)=(o5 n (⟨0,0⟩:Cell)).flatMap kO:=by
 have:∀n,eb (#[Δ 0,.int .u64 0]:Array x4) (n*2)=(o5 n (⟨0,0⟩:Cell)).flatMap kO:=by
  intro n;apply Y2;intro j;have r:((o5 n (⟨0,0⟩:Cell)).flatMap kO).length=n*2:=by simp[kO]
  by_cases e:j<n*2
  .have q:(eb (#[Δ 0,.int .u64 0]:Array x4) (n*2))[j]?=σ (if j % 2=0 then Δ 0 else .int .u64 0):=by
    unfold eb;rw[Array.getElem?_toList,Array.getElem?_map,Array.getElem?_range,m3 e];rcases Nat.mod_two_eq_zero_or_one j with h|h<;>simp[h]
   have ah:=qS (f:=kO) (k:=2) (L:=o5 n (⟨0,0⟩:Cell)) (i:=j / 2) (j:=j % 2) (a:=⟨0,0⟩) (v:=if j % 2=0 then Δ 0 else .int .u64 0) (λa _=>rfl) (by rw[List.getElem?_replicate,m3 Ω]) (by rcases Nat.mod_two_eq_zero_or_one j with h|h<;>simp[h,kO]);rw[show j / 2*2+j % 2=j by omega]at ah;rw[q,ah]
  .rw[W7 (by rw[qw];omega),W7 Ω]
 exact this n
theorem Qa{A:aj}{t:aB}(h:dF w ag A t)(Q:oC t)(ac:n<=100000000):aq x8 Ki [Γ ag,Δ (n:Int)] w λv I=>v=Δ (t.cells.length:Int)/\∃aR,Grow A w aR I/\dF I ag aR (t.grow n):=by
 refine aE func201 ?_;refine(Eu h).Y ?_;rintro _ U _ ⟨rfl,J⟩;refine dd (λab=>∃aR,Grow A w aR ab/\dF ab ag aR (t.grow n)) (λab h=>⟨rfl,h⟩) ?_;intro az x;refine a6 (λv ab=>v= .bool (decide (0<n))/\U=ab) ?_ ?_
 rotate_left
 .intro ad R;rw[w3 rJ.u];simp only[b9,X5,bT];rw[bW];refine R _ _ ⟨?_,rfl⟩;congr 1;rw[U1,ro,ro];omega
 rintro _ _ ⟨rfl,rfl⟩;rw[ao];refine⟨λy=>?_,λy=>x _ ⟨A,Grow.W J,?_⟩⟩
 rotate_left
 .have:n=0:=Ω
  subst this;have e:t.grow 0=t:=by unfold aB.grow;simp
  rw[e];exact h.W J
 obtain⟨B,ae,go,dw,bg,S,eA,h1,C,E,G,f⟩:=id (h.W J);rw[aO gP.p 0 h1 rfl];obtain⟨⟨V,W,X⟩,H,af⟩:=uY h1 C E G;have ah:=Q.1;refine P8 (k:=2) rfl jI.u al.u fb.i rfl Ω (λu hu=>?_) C.1 y Ω Ω λK L ab M Y N=>?_
 .exact Ed Φ Φ u hu
 rw[b5,aZ gP.p rfl];have j:bn kO 2 fb ab L K (t.cells++o5 n ⟨0,0⟩):=by
  refine⟨?_,λ_ _=>rfl⟩;have e:(x4.agg #[Δ 0,.int .u64 0]).cells= #[Δ 0,.int .u64 0]:=rfl;rw[e,Ew]at M;rw[j6,List.length_replicate,List.flatMap_append];exact M
 have O:=h1.aa N V;refine bs jI.i (eH j.sl).1 (eH j.sl).2 O Ξ λZ P ak q=>?_;have q:=q;have s:ai (λr=>hx bg r\/r=ag) U Z:=(N.Y λr _ h=>.inl h).F (P.Y λr _ h=>.inr h);have z:=J.size;refine x _ ⟨λr=>A r\/U.heap.size<=r,(Grow.W J).F ⟨s.Y λr _ he=>he.elim (λhe=>f r (.inl he)) λhe=>he▸B,λr a=>a,λr a=>.inl a⟩,.inl B,L,go,dw,K,S,eA,q,j.aa P λr a he=>?_,E.aa s λr a he=>he.elim (λhe=>(H r he).1 a) λhe=>W (he▸a),G.aa s λr a he=>he.elim (λhe=>(H r he).2 a) λhe=>X (he▸a),λr a=>?_⟩
 .have he:r=ag:=he;subst he;exact cO j O Φ a
 .rcases a with a|a|a
  .exact (Y r a).imp (λh=>f r (.inl h)) id
  .exact .inl (f r (.inr (.inl a)))
  .exact .inl (f r (.inr (.inr a)))
theorem Qb(x:n<=1000):aq x8 Jo [Δ (n:Int)] w λv I=>Ext w I/\∃ag,v=Γ ag/\dF I ag (e4 w.heap.size) ⟨o5 n ⟨0,0⟩,[],[],0⟩:=by
 refine aE func125 ?_;rw[rP,Int.max_eq_left Ω];refine BC jI.u fb.i Ω Ω λg U y h f=>?_;rw[dn (cs:=#[.slice (σ ⟨g,0,ν⟩) n n,.slice ν 0 0,.slice ν 0 0,.int .u64 0]) Ψ];refine br λag ab z j s=>?_;have A:=h.size;have e:(x4.agg #[Δ 0,.int .u64 0]).cells= #[Δ 0,.int .u64 0]:=rfl;have f:ak U g fb ((o5 n (⟨0,0⟩:Cell)).flatMap kO):=by rw[<-Ew,<-e];exact f
 have q:bn kO 2 fb U g (.slice (σ ⟨g,0,ν⟩) n n) (o5 n ⟨0,0⟩):=by
  refine⟨?_,λ_ _=>rfl⟩;rw[List.length_replicate];exact b7.full f (by simp[kO]) (by simp[maxLen];omega)
 refine⟨h.F j,ag,rfl,by show w.heap.size<=ag;omega,g,0,0,_,_,_,s,q.W j,bn.nil _ _ _ _ _,bn.nil _ _ _ _ _,λr a=>?_⟩;rcases a with a|a|a
 .have:=(q.lc a).1;show w.heap.size<=r;omega
 .exact (gC a).elim
 .exact (gC a).elim
theorem ps{α β:Type}{f:α->List β}:∀{L:List α}{i j:Nat}{a:α},L[i]?=σ a->j<(f a).length->(L.flatMap f)[((L.take i).flatMap f).length+j]?=(f a)[j]?
 |x::L,0,j,a,h,e=>by
  grind
 |x::L,i+1,j,a,h,e=>by
  have h:L[i]?=σ a:=by grind
  rw[List.take_succ_cons,T0,T0,j6,Nat.add_assoc,X3 Ω,Nat.add_sub_cancel_left,ps h e]
theorem yk{α β:Type}{f:α->List β}:∀{L:List α}{i j:Nat}{a b:α}{x:β},L[i]?=σ a->j<(f a).length->f b=(f a).set j x->(L.flatMap f).set (((L.take i).flatMap f).length+j) x=(L.set i b).flatMap f
 |y::L,0,j,a,b,x,h,e,q=>by
  grind
 |y::L,i+1,j,a,b,x,h,e,q=>by
  have h:L[i]?=σ a:=by grind
  rw[List.take_succ_cons,T0,T0,j6,Nat.add_assoc,U7 _ _ Ω,Nat.add_sub_cancel_left,yk h e q,List.set_cons_succ,T0]
theorem Ex{α β:Type}{f:α->List β}{L:List α}{i:Nat}{a:α}(h:L[i]?=σ a)(e:j<(f a).length):((L.take i).flatMap f).length+j<(L.flatMap f).length:=by
 have h1:=ps (f:=f) h e
 grind
structure bo where
 gone:Int
 mask:Int
 un:Λ
structure bP where
 sc:Λ
 an:Λ
 live:Int
 cs:Λ
structure yl where
 v:Int
 sc:Λ
 qY:Λ
structure am where
 zero:Int
 d9:List bo
 ho:List bP
 eJ:List yl
def js(x:bo):Λ:=x.gone::x.mask::x.un
def i9(x:bP):Λ:=x.live::x.cs
def lX(s:am):Λ:=[s.zero,(s.ho.length:Int),(s.eJ.length:Int)]
def am.cells(s:am):Λ:=lX s++(s.d9.flatMap js++s.ho.flatMap i9)
def iD(s:am)(i:Nat):Nat:=3+((s.d9.take i).flatMap js).length
def fF(s:am)(j:Nat):Nat:=3+((s.d9.flatMap js).length+((s.ho.take j).flatMap i9).length)
theorem Qc(s:am):s.cells[0]?=σ s.zero:=rfl
theorem sH{s:am}{i:Nat}{x:bo}(h:s.d9[i]?=σ x)(a:j<x.un.length+2):s.cells[iD s i+j]?=(js x)[j]?:=by
 have e:j<(js x).length:=a;unfold am.cells iD
 grind [lX,Ex,ps]
theorem ym{s:am}{i:Nat}{x:bP}(h:s.ho[i]?=σ x)(a:j<x.cs.length+1):s.cells[fF s i+j]?=(i9 x)[j]?:=by
 have e:j<(i9 x).length:=a;unfold am.cells fF;rw[Nat.add_assoc,Nat.add_assoc,X3 (by simp[lX]),show(lX s).length=3 from rfl,Nat.add_sub_cancel_left,X3 Ω,Nat.add_sub_cancel_left,ps h e]
theorem Qd(s:am)(c:Int):s.cells.set 0 c=({s with zero:=c}:am).cells:=rfl
theorem Ey{s:am}{i:Nat}{x y:bo}{c:Int}(h:s.d9[i]?=σ x)(a:j<x.un.length+2)(e:js y=(js x).set j c):s.cells.set (iD s i+j) c=({s with d9:=s.d9.set i y}:am).cells:=by
 have f:j<(js x).length:=a;unfold am.cells iD
 grind [lX,Ex,yk]
theorem Qe{s:am}{i:Nat}{x y:bP}{c:Int}(h:s.ho[i]?=σ x)(a:j<x.cs.length+1)(e:i9 y=(i9 x).set j c):s.cells.set (fF s i+j) c=({s with ho:=s.ho.set i y}:am).cells:=by
 have f:j<(i9 x).length:=a;unfold am.cells fF;rw[Nat.add_assoc,Nat.add_assoc,U7 _ _ (by simp[lX]),show(lX s).length=3 from rfl,Nat.add_sub_cancel_left,U7 _ _ Ω,Nat.add_sub_cancel_left,yk h f e]
 grind [lX]
theorem Qf{s:am}(x:bP):(s.cells++i9 x).set 1 ((s.ho.length+1:Nat):Int)=({s with ho:=s.ho++[x]}:am).cells:=by
 grind [am.cells,lX]
theorem yn(s:am):s.cells.length=3+((s.d9.flatMap js).length+(s.ho.flatMap i9).length):=by
 unfold am.cells;rw[j6,j6];rfl
def ko(a sc:Λ):Λ:=sc.map λv=>a.getD v.toNat 0
def mQ(k:Int)(a:Int)(p:bo×Int):Int:=if p.1.gone≠0 then a else min (a+p.1.un.getD p.2.toNat 0) k
def lY(k:Int)(a:Λ)(e:Int)(f:bP):Int:=if f.live≠0 then min (e+bz f.an f.cs (ko a f.sc)) k else e
def dropped(mask:Int)(v:Int):Bool:=mask.toNat.testBit v.toNat
def gj(p:bo×Int):Bool:=decide (p.1.gone≠0)|| !dropped p.1.mask p.2
def ej(k:Int)(s:am)(a:Λ):Int:=if(s.d9.zip a).all gj then s.ho.foldl (lY k a) ((s.d9.zip a).foldl (mQ k) s.zero)else k
def iE(s:am)(a:Λ):Prop:=a.length=s.d9.length/\∀(i:Nat)x v,s.d9[i]?=σ x->a[i]?=σ v->x.gone≠0\/(0<=v/\v<x.un.length)
structure bc(k:Int)(d6:Λ)(s:am):Prop where
 eI:1<=k/\k<=2147483648
 eQ:1<=d6.length/\d6.length<=64/\∀z∈d6,1<=z/\z<=32
 zero:0<=s.zero/\s.zero<=k
 d9:s.d9.length=d6.length
 var:∀(i:Nat)x z,s.d9[i]?=σ x->d6[i]?=σ z->x.un.length=z.toNat/\(∀c∈x.un,0<=c/\c<=k)/\0<=x.mask/\x.mask<4294967296
 ho:∀f∈s.ho,gi d6 k (f.sc,f.cs)/\f.an=b6 d6 f.sc/\2<=f.sc.length
def newVar(u:Λ):bo:=⟨0,0,u⟩
def mR(d6:Λ)(g:c0):bP:=⟨g.1,b6 d6 g.1,1,g.2⟩
def cY(n:aI):am:=⟨n.zero,n.unary.map newVar,n.ho.map (mR n.d6),[]⟩
theorem Qg{n:aI}(h:kN n):bc n.k n.d6 (cY n):=by
 refine⟨h.k,h.d6,h.zero,by simp[cY,h.lW],λi x z J e=>?_,λf ah=>?_⟩
 .have J:(n.unary.map newVar)[i]?=σ x:=J;rw[u4]at J;obtain⟨u,hu,rfl⟩:=Z9.1 J;obtain⟨h1,a⟩:=h.unary i z u e hu;exact⟨h1,a,T3 _,by show(0:Int)<_;omega⟩
 .obtain⟨g,j,rfl⟩:=l9.1 ah;obtain⟨h1,a⟩:=h.ho g j;exact⟨h1,rfl,a⟩
theorem yo{n:aI}(h:gI w a n):aq x8 I9 [Γ a] w λv I=>v=Δ (n.d6.length:Int)/\Ext w I:=by
 obtain⟨j,q,r,s,gr,a7,L,nm,hv,gz,fv2,h1,e,f,x,y,z,A⟩:=h;refine aE func93 ?_;rw[dj oe.u];simp only[b9,bb];rw[aO gu.p 0 h1 rfl,aO cM.p 2 e rfl,ba au.u f.ls];exact⟨rfl,Ext.refl _⟩
theorem Qh{n:aI}(h:gI w a n):aq x8 Kw [Γ a] w λv I=>v=Δ n.k/\Ext w I:=by
 obtain⟨f,j,q,r,gr,a7,L,nm,hv,gz,fv2,h1,e,s,x,y,z,A⟩:=h;refine aE func218 ?_;rw[dj oe.u];simp only[b9,bb];rw[aO gu.p 0 h1 rfl,aO cM.p 1 e rfl];exact⟨rfl,Ext.refl _⟩
theorem Qi{n:aI}(h:gI w a n):aq x8 Jp [Γ a] w λv I=>v=Δ n.zero/\Ext w I:=by
 obtain⟨e,f,j,q,gr,a7,L,nm,hv,gz,fv2,h1,r,s,x,y,z,A⟩:=h;refine aE func127 ?_;rw[dj oe.u];simp only[b9,bb];rw[aO gu.p 1 h1 rfl];exact⟨rfl,Ext.refl _⟩
theorem Ez{n:aI}(h:gI w a n):aq x8 A6 [Γ a] w λv I=>v=Δ (n.ho.length:Int)/\Ext w I:=by
 obtain⟨j,q,r,s,gr,a7,L,nm,hv,gz,fv2,h1,x,y,z,A,e,f⟩:=h;refine aE func130 ?_;rw[dj oe.u];simp only[b9,bb];rw[aO gu.p 3 h1 rfl,eF mn.u e.1];exact⟨by rw[<-f,r9],Ext.refl _⟩
theorem EA{s:Nat}{n:aI}{i:Int}(h:gI w s n)(f:kN n):aq x8 Jq [Γ s,Δ i] w λv I=>Ext w I/\(¬(0<=i/\i<n.d6.length)->v= .slice ν 0 0)/\
  ∀u,0<=i->n.unary[i.toNat]?=σ u->∃g,w.heap.size<=g/\aH .i64 ay I g v u:=by
 refine aE func128 ?_;have K:=f.lW;refine a6 (λv U=>v= .bool (decide (¬(0<=i/\i<n.d6.length)))/\Ext w U) ?_ ?_
 .rintro _ U ⟨rfl,e⟩;rw[ao];refine⟨λC=>⟨e,λ_=>rfl,λu E hu=>?_⟩,λj=>?_⟩
  .have:=(x6.1 hu).1;exact m6 ⟨E,Ω⟩ C
  have j:=X1.1 j;obtain⟨M,N,O,P,gr,a7,L,nm,hv,gz,fv2,h1,Q,R,q,x,S,V⟩:=h.W e;have W:a7.length=n.unary.length:=by rw[<-x,r9]
  obtain⟨a,r⟩:=aJ (l:=a7) (i:=i.toNat) Ω;obtain⟨X,hm⟩:=q.2 a (x7 r);rw[aO gu.p 2 h1 rfl,ct (i:=i.toNat) Ω c4.u aA.i q.1 Ω,aF (o:=i.toNat*1) Ψ (q.1.range r 0 _ rfl)];have y:n.unary[i.toNat]?=σ a.l:=by rw[<-x,u4,r];rfl
  have Y:a.l.length<=32:=by
   obtain⟨z,A⟩:=aJ (l:=n.d6) (i:=i.toNat) Ω;have Z:=(f.unary i.toNat z a.l A y).1;have aa:=f.d6.2.2 z (x7 A);omega
  refine(w8 hm.ls Ω).Y ?_;rintro v ab _ ⟨G,g,ac,H⟩;refine⟨e.F G,λJ=>m6 j J,λu _ hu=>⟨g,by have:=e.size;omega,?_⟩⟩;rw[y]at hu;cases hu;exact H
 .intro az B;rw[aW,ao];refine⟨λad=>B _ _ ⟨by rw[ms];omega,Ext.refl _⟩,λae=>?_⟩;refine(yo h).Y ?_;rintro _ U _ ⟨rfl,e⟩;rw[cU];refine B _ _ ⟨?_,e⟩;congr 1;rw[U1,ro,ro];omega
theorem EB{n:aI}{i:Int}(h:gI w j n)(a:kN n):aq x8 IQ [Γ j,Δ i] w λv I=>Ext w I/\v=Δ (if 0<=i then n.d6.getD i.toNat 0 else 0):=by
 refine aE func66 ?_;refine(EA h a).Y ?_;rintro v U _ ⟨q,s,x⟩;by_cases e:0<=i/\i<n.d6.length
 .have y:=a.lW;obtain⟨u,hu⟩:=aJ (l:=n.unary) (i:=i.toNat) Ω;obtain⟨z,f⟩:=aJ (l:=n.d6) (i:=i.toNat) Ω;obtain⟨g,_,hm⟩:=x u e.1 hu;rw[ba aA.u hm.ls];refine⟨q,?_⟩;have A:=(a.unary i.toNat z u f hu).1;have B:=a.d6.2.2 z (x7 f);rw[m3 e.1,r8,f];congr 1;simp only[Option.getD_some];omega
 .rw[s e,ji aA.u];refine⟨q,?_⟩;by_cases r:0<=i
  .rw[m3 r,r8,W7 Ω];rfl
  .rw[m5 r];rfl
theorem EC{n:aI}{j:Int}(h:gI w a n){K:x4->x5->Prop}(f:∀I,Ext w I->K (.bool (decide (¬(0<=j/\j<n.ho.length)))) I):
  ad x8 (aS .lss al sp s2 (Δ j) (Δ 0)) w λr=>Split r (K (.bool s2) w) (aq x8 A6 [Γ a] w λs q=>ad x8 (aS .geq al sp sp (Δ j) s) q λx=>K x q):=by
 rw[aW,ao];refine⟨λz=>?_,λA=>?_⟩
 .have:=f w (Ext.refl _);rw[ms (show¬(0<=j/\j<n.ho.length) by omega)]at this;exact this
 .refine (Ez h).Y ?_;rintro _ U _ ⟨rfl,y⟩;rw[cU];have:=f U y;have e:decide ((n.ho.length:Int)<=j)=decide (¬(0<=j/\j<n.ho.length)):=by
   rw[U1,ro,ro];omega
  rw[<-e]at this;exact this
theorem Qj{s:Nat}{n:aI}{g:c0}(h:gI w s n)(z:kN n)(e:n.ho[j]?=σ g):aq x8 Js [Γ s,Δ (j:Int)] w λv I=>Ext w I/\∃gs,w.heap.size<=gs/\aH .i64 al I gs v g.1:=by
 refine aE func132 ?_;have E:=(x6.1 e).1;refine a6 (λv U=>v= .bool (decide (¬(0<=(j:Int)/\(j:Int)<n.ho.length)))/\Ext w U) ?_ λaz A=>EC h λI J=>A _ _ ⟨rfl,J⟩;rintro _ U ⟨rfl,f⟩;rw[rc Ω,bb];obtain⟨G,H,K,M,gr,a7,L,nm,hv,gz,fv2,h1,N,O,P,Q,q,x⟩:=h.W f;have R:L.length=n.ho.length:=by rw[<-x,r9]
 obtain⟨a,r⟩:=aJ (l:=L) (i:=j) Ω;have y:eh a=g:=by rw[<-x,u4,r]at e;exact Z5 e
 obtain⟨⟨S,hm⟩,_⟩:=q.2 a (x7 r);rw[aO gu.p 3 h1 rfl,ct rfl mn.u iS.i q.1 Ω,aZ iS.p rfl,aF Ψ (q.1.range r 0 _ rfl)];have V:a.sc.length<=6:=by
  have:=(z.ho g (x7 e)).1.scope.2;rw[<-y]at this;exact this
 refine(my hm.ls Ω).Y ?_;rintro v ab _ ⟨B,gs,W,C⟩;refine⟨f.F B,gs,by have:=f.size;omega,?_⟩;rw[<-y];exact C
theorem Qk{g:Nat}{cs:Λ}(h:dp w g B sv an k cs):aq x8 Kk [Γ g] w λv I=>Ext w I/\∃a e,v=Γ a/\w.heap.size<=a/\w.heap.size<=e/\dp I a e sv an k cs:=by
 obtain⟨⟨bg,gs,C,hm,E⟩,⟨h1,J,ae⟩,V,x⟩:=h;refine aE func203 ?_;rw[dj fl.u];simp only[b9,bb];intro U f _ _;have r:=C.W f;have K:=prod_bound V;rw[b5,aZ c8.p rfl,bI (cs:=[sv]) bL.p bL.i rfl (pv r (by
  intro j v ac
  match j,ac with
  |0,ac=>exact ac)),aO c8.p 1 r rfl,aO c8.p 2 r rfl]
 refine(w8 (E.ls.W f) Ω).Y ?_;rintro y ab _ ⟨s,e,L,q⟩;refine⟨.inl s,?_⟩;rw[dn (cs:=#[sv,Δ k,y]) (by obtain⟨_,_,_,rfl⟩:=dr hm.ls;obtain⟨_,_,_,rfl⟩:=dr q.ls;kernel_rfl)];refine br λa M N z G=>?_;have O:=f.size;have P:=s.size;have Q:=q;have A:=(f.F s).F z;refine⟨A,a,e,rfl,Ω,Ω,⟨y,gs,G,hm.W A,q.W z⟩,⟨?_,?_,ae⟩,V,x⟩
 .have:=ss q (by rw[x];omega);omega
 .intro H;obtain⟨R,S⟩:=ca hm H;omega
theorem Ql{z:Nat}{n:aI}{g:c0}(A:gI w0 z n)(B:Ext w0 w)(f:n.ho[j]?=σ g):aq x8 Jt [Γ z,Δ (j:Int)] w λv I=>Ext w I/\∃gt q sv,v=Γ gt/\w.heap.size<=gt/\w.heap.size<=q/\dp I gt q sv (b6 n.d6 g.1) n.k g.2/\∀r,lc sv r->∃c,ak w0 r al c:=by
 have h:=A.W B;refine aE func133 ?_;have V:=(x6.1 f).1;refine a6 (λv U=>v= .bool (decide (¬(0<=(j:Int)/\(j:Int)<n.ho.length)))/\Ext w U) ?_ λaz K=>EC h λI J=>K _ _ ⟨rfl,J⟩;rintro _ U ⟨rfl,s⟩;rw[rc Ω,bb];have e:=B.F s;obtain⟨W,X,Y,Z,gr,a7,L,nm,hv,gz,fv2,h1,aa,ad,ae,af,x,C⟩:=A;have ag:L.length=n.ho.length:=by rw[<-C,r9]
 obtain⟨a,y⟩:=aJ (l:=L) (i:=j) Ω;have M:eh a=g:=by rw[<-C,u4,y]at f;exact Z5 f
 obtain⟨_,q,N,E⟩:=x.2 a (x7 y);rw[aO gu.p 3 (h1.W e) rfl,ct rfl mn.u iS.i (x.1.W e) Ω,aZ iS.p rfl,aF Ψ ((x.1.W e).range y 1 _ rfl)];refine(Qk (E.W e)).Y ?_;rintro v ab _ ⟨O,gt,P,rfl,ah,ai,Q⟩;have aj:=s.size;refine⟨s.F O,gt,P,N,rfl,Ω,Ω,?_,λr G=>?_⟩
 .rw[<-M];exact Q
 .obtain⟨⟨_,_,_,hm,_⟩,_⟩:=E;obtain⟨R,_⟩:=ca hm G;rcases hm.2 with⟨ac,_⟩|⟨_,cs,_,S,_⟩
  .obtain⟨_,_,_,H,am⟩:=G;rw[ac]at H;cases H
  .exact⟨cs,R▸S⟩
structure q1 where
 a1:x4
 hv:x4
 at_:Nat
def q2(x:q1):List x4:=[x.a1,x.hv,Δ (x.at_:Int)]
structure sI where
 v:Int
 a1:x4
 bv:x4
def Qm(x:sI):List x4:=[Δ x.v,x.a1,x.bv]
def jX(s:am):Λ:=(Y9 s.d9.length).map λi=>(iD s i:Int)
def kp(R:aj)(w:x5)(v:x4)(l:Λ):Prop:=(∃g,aH .i64 al w g v l)/\∀r,lc v r->R r
theorem kp.ls{R:aj}(h:kp R w v l):aQ .i64 w v l:=by
 obtain⟨⟨g,h⟩,_⟩:=h;exact h.ls
theorem kp.aa{R S:aj}(h:kp R w v l)(f:ai S w I)(j:∀r,r<w.heap.size->R r->¬S r):kp R I v l:=by
 obtain⟨⟨g,h1⟩,a⟩:=h;exact⟨⟨g,bE h1 f λr e=>j r (by obtain⟨q,s⟩:=ca h1 e;omega) (a r e)⟩,a⟩
theorem kp.Y{R R':aj}(h:kp R w v l)(a:∀r,R r->R' r):kp R' w v l:=⟨h.1,λr e=>a r (h.2 r e)⟩
def mS(R:aj)(w:x5)(L:List q1)(s:am):Prop:=L.length=s.ho.length/\∀(j:Nat)x f,L[j]?=σ x->s.ho[j]?=σ f->kp R w x.a1 f.sc/\kp R w x.hv f.an/\x.at_=fF s j
def nR(R:aj)(w:x5)(E:List sI)(s:am):Prop:=E.length=s.eJ.length/\∀(j:Nat)x e,E[j]?=σ x->s.eJ[j]?=σ e->x.v=e.v/\kp R w x.a1 e.sc/\kp R w x.bv e.qY
theorem mS.aa{R S:aj}{L:List q1}{s:am}(h:mS R w L s)(a:ai S w I)(e:∀r,r<w.heap.size->R r->¬S r):mS R I L s:=⟨h.1,λj x f J ah=>by
 obtain⟨h1,q,y⟩:=h.2 j x f J ah;exact⟨h1.aa a e,q.aa a e,y⟩⟩
theorem nR.aa{R S:aj}{E:List sI}{s:am}(h:nR R w E s)(a:ai S w I)(e:∀r,r<w.heap.size->R r->¬S r):nR R I E s:=⟨h.1,λj x f J ah=>by
 obtain⟨h1,q,y⟩:=h.2 j x f J ah;exact⟨h1,q.aa a e,y.aa a e⟩⟩
theorem mS.Y{R R':aj}{L:List q1}{s:am}(h:mS R w L s)(a:∀r,R r->R' r):mS R' w L s:=⟨h.1,λj x f J ah=>by
 obtain⟨h1,e,q⟩:=h.2 j x f J ah;exact⟨h1.Y a,e.Y a,q⟩⟩
theorem nR.Y{R R':aj}{E:List sI}{s:am}(h:nR R w E s)(a:∀r,R r->R' r):nR R' w E s:=⟨h.1,λj x f J ah=>by
 obtain⟨h1,e,q⟩:=h.2 j x f J ah;exact⟨h1,e.Y a,q.Y a⟩⟩
theorem u0{a b c:x5}(h:Ext a b)(k:ai S b c)(f:∀r o,a.heap[r]?=σ o->fW o=s2->¬S r):Ext a c:=
 ⟨X0 h.size k.size,λr o e V=>k.a8 r o (h.a8 r o e V) V (f r o e V)⟩
theorem dF.cut{A:aj}{t:aB}(h:dF w ag A t):dF w ag (λr=>A r/\r<w.heap.size) t:=by
 obtain⟨x,y,go,dw,bg,z,eA,h1,e,f,j,B⟩:=h;refine⟨⟨x,h1.lt⟩,y,go,dw,bg,z,eA,h1,e,f,j,λr a=>⟨B r a,?_⟩⟩;rcases a with a|a|a
 .obtain⟨q,s⟩:=e.lc a;omega
 .obtain⟨q,s⟩:=f.lc a;omega
 .obtain⟨q,s⟩:=j.lc a;omega
def e8(w:x5)(af ag j:Nat)(e f h:x4)(A R:aj)(n:aI)(s:am)(t:aB):Prop:=
 (A af/\(∀r,A r->¬R r)/\(∀r,R r->r<w.heap.size)/\∀r,A r->r<w.heap.size)/\∃bi q ge,∃(L:List q1)(E:List sI)(a:aj)(w0:x5),
  ak w af cX [Γ j,Γ ag,e,f,h]/\(gI w0 j n/\Ext w0 w/\∀r o,w0.heap[r]?=σ o->fW o=s2->R r)/\
  (dF w ag a t/\(∀r,a r->A r)/\¬a af/\∀r,lc e r\/hx f r\/hx h r->A r/\¬a r)/\aH .i64 al w bi e (jX s)/\
  (bn q2 3 gq w q f L/\mS R w L s)/\bn Qm 3 wW w ge h E/\nR R w E s
theorem e8.aa{S:aj}{q x y:x4}{A R:aj}{n:aI}{s:am}{t:aB}(h:e8 w af ag j q x y A R n s t)(a:ai S w I)(f:∀r,r<w.heap.size->A r\/R r->¬S r):e8 I af ag j q x y A R n s t:=by
 obtain⟨⟨h1,ak,al,an⟩,bi,B,ge,L,E,C,w0,F,⟨G,H,J⟩,⟨K,M,N,O⟩,P,⟨Q,T⟩,U,W⟩:=h;have z:=a.size;refine⟨by grind,bi,B,ge,L,E,C,w0,F.aa a (by grind),⟨G,u0 H a λr o e aC V=>f r (by grind) (by grind) V,J⟩,
  ⟨?_,M,N,O⟩,bE P a λr e V=>f r ?_ (by grind) V,⟨Q.aa a λr e V=>f r ?_ (by grind) V,T.aa a (by grind)⟩,U.aa a λr e V=>f r ?_ (by grind) V,W.aa a (by grind)⟩
 .obtain⟨X,Y,go,dw,bg,Z,eA,ab,ac,ad,ae,ah⟩:=K;refine⟨X,Y,go,dw,bg,Z,eA,ab.aa a (by grind),ac.aa a λr e V=>?_,ad.aa a λr e V=>?_,ae.aa a λr e V=>?_,ah⟩
  all_goals grind
 all_goals grind
theorem e8.W{e f j:x4}{A R:aj}{n:aI}{s:am}{t:aB}(h:e8 w af ag a e f j A R n s t)(J:Ext w I):e8 I af ag a e f j A R n s t:=h.aa (J.aa λ_=>False) λ_ _ _ h=>h
theorem e8.sJ{x:Nat}{y C:x4}{A R:aj}{n:aI}{s:am}{t:aB}(h:e8 w af ag x y z C A R n s t):∃j,dF w ag j t/\∀f I bu,Grow j w f I->dF I ag f bu->∃aR,Grow A w aR I/\e8 I af ag x y z C aR R n s bu:=by
 obtain⟨⟨h1,ae,F,G⟩,bi,M,ge,L,E,j,w0,N,⟨O,P,Q⟩,⟨S,H,T,ah⟩,U,⟨V,W⟩,X,Y⟩:=h;refine⟨j,S,λJ I bu q Z=>?_⟩;have K:=Z.cut;have e:Grow j w (λr=>J r/\r<I.heap.size) I:=⟨q.1,λr a=>q.2.1 r a.1,λr a=>⟨q.2.2 r a,by have:=G r (H r a);have:=q.1.size;omega⟩⟩;obtain⟨f,ab⟩:∃B:aj,B=λr=>J r/\r<I.heap.size:=⟨_,rfl⟩;rw[<-ab]at K e;have ai:∀r,f r->r<I.heap.size:=by grind
 refine⟨λr=>A r\/f r,⟨e.1.Y (by grind),λr a=>?_,by grind⟩,⟨.inl h1,λr a ac=>?_,λr a=>?_,λr a=>?_⟩,bi,M,ge,L,E,f,w0,N.aa e.1 T,⟨O,u0 P e.1 (by grind),Q⟩,
  ⟨K,by grind,λa=>?_,λr a=>⟨by grind,λad=>?_⟩⟩,bE U e.1 (by grind),⟨V.aa e.1 (by grind),W.aa e.1 (by grind)⟩,X.aa e.1 (by grind),Y.aa e.1 (by grind)⟩
 .rcases a with a|a
  .grind
  .exact (e.2.1 r a).imp (H r) id
 .have:=F r ac;rcases a with a|a
  .grind
  .rcases e.2.1 r a with h|h
   all_goals grind
 .have:=F r a;have:=e.1.size;omega
 .rcases a with a|a
  .have:=G r a;have:=e.1.size;omega
  grind
 .rcases e.2.1 _ a with h|h
  all_goals grind
 .rcases e.2.1 r ad with h|h
  all_goals grind
def StateM(w:x5)(af ag:Nat)(A R:aj)(n:aI)(s:am)(t:aB):Prop:=∃a e f h,e8 w af ag a e f h A R n s t
theorem StateM.aa{S:aj}{A R:aj}{n:aI}{s:am}{t:aB}(h:StateM w af ag A R n s t)(a:ai S w I)(e:∀r,r<w.heap.size->A r\/R r->¬S r):StateM I af ag A R n s t:=by
 obtain⟨f,j,q,x,h⟩:=h;exact⟨f,j,q,x,h.aa a e⟩
theorem StateM.W{A R:aj}{n:aI}{s:am}{t:aB}(h:StateM w af ag A R n s t)(J:Ext w I):StateM I af ag A R n s t:=h.aa (J.aa λ_=>False) λ_ _ _ h=>h
theorem StateM.sJ{A R:aj}{n:aI}{s:am}{t:aB}(h:StateM w af ag A R n s t):∃a,dF w ag a t/\∀e I bu,Grow a w e I->dF I ag e bu->∃aR,Grow A w aR I/\StateM I af ag aR R n s bu:=by
 obtain⟨f,j,q,r,h⟩:=h;obtain⟨a,h1,x⟩:=h.sJ;exact⟨a,h1,λe I bu y z=>by
  obtain⟨aR,B,C⟩:=x e I bu y z;exact⟨aR,B,f,j,q,r,C⟩⟩
def pP(s s':am):Prop:=jX s'=jX s/\s'.ho.length=s.ho.length/\(∀(j:Nat)a,s'.ho[j]?=σ a->∃f,s.ho[j]?=σ f/\a.sc=f.sc/\a.an=f.an/\fF s' j=fF s j)/\s'.eJ=s.eJ
theorem e8.same{e q r:x4}{A R:aj}{n:aI}{s s':am}{t:aB}(h:e8 w af ag a e q r A R n s t)(V:pP s s'):e8 w af ag a e q r A R n s' t:=by
 obtain⟨ax,bi,z,ge,L,E,B,w0,C,F,G,T,⟨H,y⟩,I,U⟩:=h;obtain⟨W,K,M,X⟩:=V;refine⟨ax,bi,z,ge,L,E,B,w0,C,F,G,by grind,⟨H,y.1.F K.symm,λj x N J O=>?_⟩,I,?_⟩
 .obtain⟨f,ah,P,Q,S⟩:=M j N O;rw[P,Q,S];exact y.2 j x f J ah
 grind [nR]
theorem StateM.same{A R:aj}{n:aI}{s s':am}{t:aB}(h:StateM w af ag A R n s t)(V:pP s s'):StateM w af ag A R n s' t:=by
 obtain⟨a,e,f,j,h⟩:=h;exact⟨a,e,f,j,h.same V⟩
theorem u1{α β:Type}{f:α->List β}:∀{L:List α}{i j:Nat}{a b:α},L[i]?=σ a->(f b).length=(f a).length->(((L.set i b).take j).flatMap f).length=((L.take j).flatMap f).length
 |[],_,_,_,_,h,_=>by simp at h
 |x::L,0,j,a,b,h,e=>by
  cases h;cases j<;>grind
 |x::L,i+1,j,a,b,h,e=>by
  have h:L[i]?=σ a:=by grind
  cases j with
  |zero=>rfl
  |succ j=>
   rw[List.set_cons_succ,List.take_succ_cons,List.take_succ_cons,T0,T0,j6,j6,u1 h e]
theorem ED(s:am)(c:Int):pP s {s with zero:=c}:=⟨rfl,rfl,λj f h=>⟨f,h,rfl,rfl,rfl⟩,rfl⟩
theorem EE{s:am}{i:Nat}{x y:bo}(J:s.d9[i]?=σ x)(a:y.un.length=x.un.length):pP s {s with d9:=s.d9.set i y}:=by
 have ah:(js y).length=(js x).length:=by simp[js,a]
 refine⟨?_,rfl,λj f h=>⟨f,h,rfl,rfl,?_⟩,rfl⟩
 .grind [jX,iD,u1]
 .unfold fF;have:=u1 (j:=s.d9.length) J ah
  grind [j5]
theorem Qn{s:am}{i:Nat}{x y:bP}(J:s.ho[i]?=σ x)(a:y.cs.length=x.cs.length)(h1:y.sc=x.sc)(e:y.an=x.an):pP s {s with ho:=s.ho.set i y}:=by
 have ah:(i9 y).length=(i9 x).length:=by simp[i9,a]
 refine⟨rfl,Y0,λj f h=>?_,rfl⟩
 grind [fF,u1]
theorem aB.yp(t:aB)(i:Nat)(x:Int):(t.set i x).marks=t.marks:=by
 grind [aB.set]
theorem aB.EF(t:aB)(i:Nat)(x:Int):(t.set i x).kH=t.kH:=by
 grind [aB.set]
theorem aB.EG(t:aB)(i:Nat)(x:Int):(t.set i x).cells.length=t.cells.length:=by
 grind [aB.rU,aB.cb,r9]
theorem aB.EH(t:aB)(i:Nat)(x:Int):(t.set i x).olds.length<=t.olds.length+1:=by
 unfold aB.set
 grind
theorem aB.yq{t:aB}(h:t.marks=[])(i:Nat)(x:Int):(t.set i x).olds=t.olds:=by
 grind [aB.set]
def gX(t:aB)(l:Λ):Nat->aB
 |0=>t.grow l.length
 |i+1=>(gX t l i).set (t.cells.length+i) (l.getD i 0)
def oD(t:aB)(l:Λ):aB:=gX t l l.length
theorem sK(t:aB)(l:Λ):∀i,(gX t l i).marks=t.marks
 |0=>rfl
 |i+1=>(aB.yp _ _ _).F (sK t l i)
theorem EI(t:aB)(l:Λ):∀i,(gX t l i).kH=t.kH
 |0=>rfl
 |i+1=>(aB.EF _ _ _).F (EI t l i)
theorem EJ(t:aB)(l:Λ):∀i,(gX t l i).cells.length=t.cells.length+l.length
 :=by
 intro a;induction a<;>grind [gX,aB.grow,aB.EG]
theorem yr(t:aB)(l:Λ):∀i,(gX t l i).olds.length<=t.olds.length+i
 |0=>o6 _
 |i+1=>by have:=aB.EH (gX t l i) (t.cells.length+i) (l.getD i 0);have:=yr t l i;show(aB.set _ _ _).olds.length<=_;omega
theorem EK{t:aB}(h:t.marks=[])(l:Λ):∀i,(gX t l i).olds=t.olds
 |0=>rfl
 |i+1=>(aB.yq ((sK t l i).F h) _ _).F (EK h l i)
theorem EL(t:aB)(l:Λ):∀i,i<=l.length->(gX t l i).cb=t.cb++(l.take i++o5 (l.length-i) 0)
 |0,_=>by rw[List.take_zero,List.nil_append];exact aB.L0
 |i+1,h=>by
  have a:=EL t l i Ω;show(aB.set _ _ _).cb=_;have e:t.cb.length=t.cells.length:=by simp[aB.cb]
  rw[aB.rU,a,U7 _ _ Ω,e,Nat.add_sub_cancel_left,U7 _ _ (by rw[Z3];omega),Z3,Nat.min_eq_left Ω,V7,show l.length-i=(l.length-(i+1))+1 by omega,List.replicate_succ,List.set_cons_zero,u9,r8,v8 Ω]
  grind
theorem EM(t:aB)(l:Λ):(oD t l).cb=t.cb++l:=by
 grind [oD,EL]
theorem iT.gX{h:List aB}{t:aB}(hk:iT t h)(l:Λ):∀i,iT (gX t l i) h
 |0=>hk.grow
 |i+1=>(iT.gX hk l i).set
theorem mK{s:Go.Sem x4}{x:x4}(h:ad x8 s w (λv=>v=x)):cc x8 s x w:=by
 obtain⟨v,h,rfl⟩:=h;exact h
theorem u2{z:Nat}{f:o4}{x:x4}(h:ak w af e cs)(ae:∀(K:x4->Prop),ad x8 (u6 cX (Γ af) z) w K=K (.pointer (σ ⟨af,0+a,ν⟩)))(j:k3 x8 f=s2)(q:cs[0+a]?=σ x):
  cc x8 (u5 f (.pointer (σ ⟨af,0+a,ν⟩))) x w/\cc x8 (u6 cX (Γ af) z) (.pointer (σ ⟨af,0+a,ν⟩)) w/\cc x8 (b0 (Γ af)) (Γ af) w/\True:=
 ⟨tZ j (h.cell q),mK (by rw[ae]),mK (by rw[b5]),trivial⟩
def EN(w:x5)(r:Nat):Prop:=∃e c,ak w r e c/\(e=gP\/e=fb\/e=ny\/e=ih\/e=cX\/e=gq\/e=wW)
def eR(w:x5)(r:Nat):Prop:=EN w r\/∀o,w.heap[r]?=σ o->fW o≠s2
theorem oE{U:x5}(hk:∀o,w.heap[r]?=σ o->fW o=s2->¬eR w r->U.heap[r]?=σ o)(h:eR U r):eR w r:=by
 by_cases a:eR w r
 .exact a
 .refine m6 (.inr λo aC V=>?_) a;have h1:=hk o aC V a;rcases h with⟨e,c,f,he⟩|j
  .refine a (.inl ⟨e,c,?_,he⟩)
   grind [ak]
  grind
theorem iF{U ab:x5}(J:Ext w U)(a:ai (eR U) U ab):ai (eR w) w ab:=(J.aa _).F (a.Y λr _ h=>oE (λo aC V _=>J.a8 r o aC V) h)
theorem u3{U ab:x5}(h:ai (eR w) w U)(a:ai (eR U) U ab):ai (eR w) w ab:=h.F (a.Y λr _ e=>oE (λo aC V f=>h.a8 r o aC V f) e)
theorem dF.min{A:aj}{t:aB}(h:dF w ag A t):dF w ag (λr=>A r/\EN w r) t:=by
 obtain⟨s,x,go,dw,bg,y,eA,h1,f,j,q,z⟩:=h;refine⟨⟨s,_,_,h1,.inl rfl⟩,x,go,dw,bg,y,eA,h1,f,j,q,λr a=>⟨z r a,?_⟩⟩;rcases a with a|a|a
 .obtain⟨rfl,c,e⟩:=ef f a;exact⟨_,c,e,.inr (.inl rfl)⟩
 .obtain⟨rfl,c,e⟩:=ef j a;exact⟨_,c,e,.inr (.inr (.inl rfl))⟩
 .obtain⟨rfl,c,e⟩:=ef q a;exact⟨_,c,e,.inr (.inr (.inr (.inl rfl)))⟩
theorem e8.ys{f:Nat}{j q x:x4}{A R:aj}{n:aI}{s:am}{t:aB}(h:e8 w af ag f j q x A R n s t):∃a,dF w ag a t/\∀y I bu,Grow a w y I->dF I ag y bu->ai (eR w) w I/\∃aR,Grow A w aR I/\e8 I af ag f j q x aR R n s bu:=by
 obtain⟨a,z,B⟩:=h.sJ;refine⟨_,z.min,λC U bu e E=>⟨e.1.Y λr _ h=>.inl h.2,?_⟩⟩;exact B (λr=>a r\/C r) U _ ⟨e.1.Y λr _ h=>h.1,λr F=>F.elim .inl λh=>(e.2.1 r h).imp (λh=>h.1) id,by grind⟩ (E.Y (by grind))
theorem EO{q:Nat}{y B:x4}{A R:aj}{n:aI}{s:am}{t:aB}{dy:x4}(h:e8 w af ag q y z B A R n s t)(C:aQ .i64 w dy l)(P:∀r,lc dy r->¬A r)(aF:t.cells.length+l.length<=100000000)(aC:t.olds.length+l.length<=100000000)(hm:t.marks.length<=100000000):
  aq x8 A5 [Γ af,dy] w λv I=>v=Δ (t.cells.length:Int)/\ai (eR w) w I/\∃aR,Grow A w aR I/\e8 I af ag q y z B aR R n s (oD t l):=by
 refine aE func129 ?_;obtain⟨_,bi,Q,ge,L,E,_,w0,G,_⟩:=id h;obtain⟨S,H,K⟩:=h.ys;rw[aO cX.p 1 G rfl,ba aA.u C];refine(Qa H ⟨Ω,Ω,hm⟩ Ω).Y ?_;rintro _ U _ ⟨rfl,V,W,X⟩;obtain⟨Y,Z,N,aa⟩:=K V U _ W X;have O:∀{aR:aj}{I:x5},Grow A w aR I->aQ .i64 I dy l:=λad=>jm C ad.1 λr ae a ah c ac ak=>P r ⟨a,ah,c,ac,ak⟩ ae;rw[ba aA.u (O N)];have al:=C.le;refine b3.range l.length (λi ab=>ai (eR w) w ab/\∃e,Grow A w e ab/\e8 ab af ag q y z B e R n s (gX t l i)) al ⟨Y,Z,N,aa⟩ ?_ ?_
 .rintro i ab k hi ⟨M,e,f,j⟩ hk;refine bK Ω ?_;obtain⟨x,J⟩:=aJ (l:=l) hi;rw[bp aA.u ay.i Ψ (O f) J];obtain⟨_,bi,Q,ge,L,E,_,w0,G,_⟩:=id j;obtain⟨S,H,K⟩:=j.ys;have aG:=EJ t l i;have aH:=yr t l i;have an:=sK t l i;rw[aO cX.p 1 G rfl,aT,lm Ω Ω];refine(uZ (i:=t.cells.length+i) H Ω Ω ⟨Ω,Ω,by rw[an];exact hm⟩).Y ?_;rintro _ ap _ ⟨rfl,au,av,aw⟩;obtain⟨ax,az,aD,aK⟩:=K au ap _ av aw;rw[aT];refine hk _ ⟨u3 M ax,az,f.F aD,?_⟩
  grind [gX]
 .rintro ab k ⟨M,e,f,j⟩;rw[aW,ao];exact⟨λh=>Ω,λ_=>⟨rfl,M,e,f,j⟩⟩
def kq(s:am)(sc an cs:Λ):am:={s with ho:=s.ho++[⟨sc,an,1,cs⟩]}
def pQ(s:am)(t:aB)(cs:Λ):aB:=(oD t (1::cs)).set 1 ((s.ho.length+1:Nat):Int)
theorem Qo{s:am}{t:aB}{sc cs:Λ}(h:t.cb=s.cells):(pQ s t cs).cb=(kq s sc an cs).cells:=by
 unfold pQ kq;rw[aB.rU,EM,h,<-Qf];rfl
theorem Qp{bp:Nat}{bq aN br:x4}{A R:aj}{n:aI}{s:am}{t:aB}{a1:x4}{sc cs:Λ}{g bO:Nat}{Z:x4}(h:e8 w af ag bp bq aN br A R n s t)(ac:t.cb=s.cells)(ce:aQ .i64 w a1 sc)(dl:∀r,lc a1 r->¬A r)(bt:dp w g bO Z an k cs)(bP:¬A g/\¬A bO/\∀r,lc Z r->¬A r)(dq:sc.length<=1000)(aW:t.cells.length+cs.length+1<=100000000)(aC:t.olds.length+cs.length+1<=100000000)(hm:t.marks.length<=100000000)(ah:s.ho.length<=1000000):
  aq x8 Jr [Γ af,a1,Γ g] w λv I=>v=Δ (s.ho.length:Int)/\ai (eR w) w I/\∃aR R' bu,Grow A w aR I/\e8 I af ag bp bq bu br aR R' n (kq s sc an cs) (pQ s t cs)/\(∀r,R r->R' r)/\∀r,R' r->R r\/lc Z r\/w.heap.size<=r:=by
 have ds:t.cells.length=s.cells.length:=by rw[<-ac];simp[aB.cb]
 have dt:=yn s;have cf:fF (kq s sc an cs) s.ho.length=t.cells.length:=by
  unfold fF kq;simp only[List.take_left];omega
 have cg:∀j,j<s.ho.length->fF (kq s sc an cs) j=fF s j:=λj bw=>by
  unfold fF kq;simp only[List.take_append_of_le_length (show j<=s.ho.length by omega)]
 have ch:jX (kq s sc an cs)=jX s:=rfl;refine aE func131 ?_;refine dd (λU=>ai (eR w) w U/\∃aR R' bu,Grow A w aR U/\e8 U af ag bp bq bu br aR R' n (kq s sc an cs) (oD t (1::cs))/\(∀r,R r->R' r)/\∀r,R' r->R r\/lc Z r\/w.heap.size<=r) ?_ ?_
 .rintro U ⟨ci,du,cj,ck,cl,cm,cn,cp⟩;intro ab bx _ _;have bQ:=cm.W bx;obtain⟨_,bi,bz,ge,L,E,_,w0,ao,_,_,_,⟨a7,bg⟩,_⟩:=id bQ;have bh:L.length=s.ho.length+1:=by rw[bg.1];simp[kq]
  rw[aO cX.p 1 ao rfl,aO cX.p 3 ao rfl,eF gp.u a7];obtain⟨bR,cq,cr⟩:=bQ.ys;have ct:=EJ t (1::cs) (1::cs).length;have cu:=yr t (1::cs) (1::cs).length;have cw:=sK t (1::cs) (1::cs).length;simp only[W0]at ct cu;refine(uZ cq rfl (by show 1<(gX _ _ _).cells.length;simp only[W0];omega) ⟨by show(gX _ _ _).cells.length<=_;simp only[W0];omega,by show(gX _ _ _).olds.length<=_;simp only[W0];omega,by show(gX _ _ _).marks.length<=_;rw[cw];exact hm⟩).Y ?_;rintro _ cz _ ⟨rfl,cA,cB,cD⟩;obtain⟨cE,cF,cG,bS⟩:=cr cA cz _ cB cD;obtain⟨_,bi,bz,ge,cH,E,_,w0,ao,_,_,_,⟨a7,cI⟩,_⟩:=id bS;have dv:cH.length=s.ho.length+1:=by rw[cI.1];simp[kq]
  rw[aO cX.p 3 ao rfl,eF gp.u a7,dm,lm Ω Ω];refine⟨by congr 1;omega,u3 ci (iF bx cE),cF,cj,ck,cl.F ((Grow.W bx).F cG),?_,cn,cp⟩;have e:pQ s t cs=(oD t (1::cs)).set 1 (L.length:Int):=by unfold pQ;rw[bh]
  rw[e];exact bS
 intro az cJ;intro aP aS _ _;have bT:=h.W aS;obtain⟨_,bi,bz,ge,L,E,_,w0,ao,_⟩:=id bT;rw[aO cX.p 3 ao rfl];have z4:=aS.size;have bj:∀{C:x5}{ae Q:x4}{a8 W:Nat},Ext aP C->w.heap.size<=a8->w.heap.size<=W->aH .i64 al C a8 ae sc->aH .i64 ay C W Q (1::cs)->(∀r,lc ae r\/lc Q r->¬A r)->
   aq x8 A5 [Γ af,Q] C λcK aD=>
    (Ext aP aD\/cc x8 (u5 gp (.pointer (σ ⟨af,0+3,ν⟩))) aN aD/\cc x8 (u6 cX (Γ af) 3) (.pointer (σ ⟨af,0+3,ν⟩)) aD/\cc x8 (b0 (Γ af)) (Γ af) aD/\True)/\
    ad x8 (Instr.build gq #[(0,ae),(1,.agg #[Z]),(2,cK)]) aD λt22=>
    aL x8 (Y3 gp 1 #[(0,t22)]) aD λcL ap=>
     (Ext aP ap\/cc x8 (u5 gp (.pointer (σ ⟨af,0+3,ν⟩))) aN ap/\cc x8 (u6 cX (Γ af) 3) (.pointer (σ ⟨af,0+3,ν⟩)) ap/\cc x8 (b0 (Γ af)) (Γ af) ap/\True)/\
    aL x8 (c9 #[gp,gp] gp #[aN,cL]) ap λcM bk=>
     ad x8 (b0 (Γ af)) bk λt25=>
     ad x8 (u6 cX t25 3) bk λcN=>
     aL x8 (o7 gp cN cM) bk λ(_:Unit)aX=>
      az aX:=by
  intro C ae Q a8 W B bU S G M bA;have cP:=bT.W B;refine(EO cP M.ls (λr y=>bA r (.inr y)) (by simp only[W0];omega) (by simp only[W0];omega) hm).Y ?_;rintro _ aD _ ⟨rfl,cQ,ba,aY,cR⟩;obtain⟨⟨bV,bW,cS,bX⟩,bi,bz,ge,L,E,bR,w0,ao,⟨cT,cU,bY⟩,⟨cV,bZ,b1,aJ⟩,bB,⟨a7,bg⟩,bC,cW⟩:=id cR;have aF:=bE G aY.1 λr y=>bA r (.inl y);have bl:=((Classical.choose_spec (show∃gs,aH .i64 al w gs Z an from by obtain⟨⟨_,gs,_,q,_⟩,_⟩:=bt;exact⟨gs,q⟩)).W aS).W B;have cY:=bE bl aY.1 bP.2.2;refine⟨.inr (u2 ao (λK=>by rw[aZ cX.p rfl]) Ψ rfl),?_⟩;rw[dn (cs:=#[ae,Z,Δ (t.cells.length:Int)]) (by obtain⟨_,_,_,rfl⟩:=dr G.ls;obtain⟨_,_,_,rfl⟩:=dr bl.ls;kernel_rfl)];let a:q1:=⟨ae,Z,t.cells.length⟩;have cZ:∀u∈q2 a,u.oneCell'=s2:=by
   intro u hu;simp[q2]at hu;rcases hu with rfl|rfl|rfl
   .exact G.ls.cells.2
   .exact bl.ls.cells.2
   .rfl
  refine jr (f:=q2) (a:=a) gp.u gq.i Ω rfl rfl λdw dx ap dy H c0=>?_;refine⟨.inr (u2 (ao.W H) (λK=>by rw[aZ cX.p rfl]) Ψ rfl),?_⟩;have bb:=a7.W H;have bh:=bg.1;refine jT gp.u gq.i rfl bb (by simpa using c0.sl) cZ Ω Ω λc1 c2 bk bc c3 b2=>?_;have bd:=ao.W H;have b3:=bd.aa b2 λhe=>cO bb bd Φ he;rw[b5,aZ cX.p rfl];refine bs gp.i (eH bc.sl).1 (eH bc.sl).2 b3 Ξ λaX bD dz bF=>?_;have bF:=bF;have au:ai (λr=>hx aN r\/r=af) ap aX:=(b2.Y λr _ h=>.inl h).F (bD.Y λr _ h=>.inr h);have z9:=B.size;have dA:=aY.1.size;have dC:=H.size;have dD:=au.size;have bG:∀r,(hx aN r\/r=af)->ba r:=λr y=>y.elim (λy=>(aJ r (.inr (.inl y))).1) λy=>y▸bV;have bH:∀r,(hx aN r\/r=af)->¬R r:=λr y=>bW r (bG r y);have c4:ai (eR w) w aX:=u3 (iF (aS.F B) cQ) (iF H (au.Y λr _ y=>by
   rcases y with y|rfl
   .obtain⟨_,c,aW⟩:=ef bb y;exact .inl ⟨_,c,‹r=_› ▸aW,Φ⟩
   .exact .inl ⟨_,_,bd,Φ⟩))
  let c5:aj:=λr=>ba r\/(ap.heap.size<=r/\r<aX.heap.size);let bI:aj:=λr=>R r\/(lc Z r/\r<aD.heap.size)\/(lc ae r/\r<aD.heap.size);have dE:∀r,r<w.heap.size->ba r->A r:=λr y h=>(aY.2.1 r h).elim id λh=>Ω
  have bJ:∀r,lc ae r->w.heap.size<=r/\r<C.heap.size:=λr y=>by obtain⟨h1,a2⟩:=ca G y;omega
  have b4:∀r,lc Z r->r<C.heap.size:=λr y=>by obtain⟨h1,a2⟩:=ca bl y;omega
  have bm:∀r,lc ae r\/lc Z r->¬ba r:=λr y c6=>by
   rcases aY.2.1 r c6 with h|h
   .rcases y with y|y
    .exact bA r (.inl y) h
    .exact bP.2.2 r y h
   .rcases y with y|y
    .have:=bJ r y;omega
    .have:=b4 r y;omega
  refine cJ _ ⟨c4,c5,bI,c1,(Grow.W (aS.F B)).F (aY.F ((Grow.W H).F ⟨au.Y λr _ y=>bG r y,λr y=>y.imp id And.left,λr y=>.inl y⟩)),?_,λr y=>.inl y,λr y=>?_⟩
  rotate_left
  .rcases y with y|y|y
   .exact .inl y
   .exact .inr (.inl y.1)
   .exact .inr (.inr (bJ r y.1).1)
  have b6:∀{v:x4}{be:Nat}{l:Λ},aH .i64 al ap be v l->(∀r,lc v r->¬ba r)->aH .i64 al aX be v l:=λhm c7=>bE hm au λr y V=>c7 r y (bG r V);have b7:∀r,bI r->r<ap.heap.size:=λr y=>by
   rcases y with y|y|y
   .have:=cS r y;omega
   .omega
   .omega
  refine⟨⟨.inl bV,λr y aK=>?_,λr y=>by have:=b7 r y;omega,λr y=>y.elim (λy=>by have:=bX r y;omega) And.right⟩,bi,c2,ge,L++[a],E,bR,w0,bF,⟨cT,u0 (cU.F H) au λr o y aC V=>bH r V (bY r o y aC),λr o y aC=>.inl (bY r o y aC)⟩,⟨(cV.W H).aa au λr y V=>?_,λr y=>.inl (bZ r y),b1,λr y=>?_⟩,?_,⟨bc.aa bD λr y he=>?_,?_⟩,(bC.W H).aa au λr y V=>?_,?_⟩
  .have:=b7 r aK;rcases y with y|y
   .rcases aK with aK|aK|aK
    .exact bW r y aK
    .exact bm r (.inr aK.1) y
    .exact bm r (.inl aK.1) y
   .omega
  .rcases V with V|rfl
   .exact (aJ r (.inr (.inl V))).2 y
   .exact b1 y
  .rcases y with y|y|y
   .exact⟨.inl (aJ r (.inl y)).1,(aJ r (.inl y)).2⟩
   .obtain⟨h1,a2⟩:=bc.lc y;rcases c3 r y with h|h
    .exact⟨.inl (aJ r (.inr (.inl h))).1,(aJ r (.inr (.inl h))).2⟩
    .refine⟨.inr ⟨h,by have:=bD.size;omega⟩,λc8=>?_⟩;have:=bX r (bZ r c8);omega
   .exact⟨.inl (aJ r (.inr (.inr y))).1,(aJ r (.inr (.inr y))).2⟩
  .rw[ch];exact bE (bB.W H) au λr y V=>by
    rcases V with V|rfl
    .obtain⟨rfl,c,aW⟩:=ef bb V;exact cC (bB.W H) aW Φ y rfl
    .exact cC (bB.W H) bd Φ y rfl
  .have he:r=af:=he;subst he;exact cO bc b3 Φ y
  .refine⟨by rw[j6,bh];simp[kq],λj x f J aT=>?_⟩;have aT:(s.ho++[⟨sc,an,1,cs⟩])[j]?=σ f:=aT;by_cases bw:j<s.ho.length
   .rw[V9 Ω]at J;rw[V9 bw]at aT;obtain⟨da,db,dc⟩:=((((mS.aa bg (H.aa λ_=>False) λ_ _ _ h=>h).aa au λr _ y V=>bH r V y).Y (R':=bI) λr y=>.inl y)).2 j x f J aT;exact⟨da,db,by rw[cg j bw];exact dc⟩
   .have bK:j=s.ho.length:=by have:=(x6.1 aT).1;simp at this;omega
    rw[X3 Ω,bh,bK,V7]at J;rw[X3 Ω,bK,V7]at aT;cases J;cases aT;refine⟨⟨⟨_,b6 (aF.W H) λr y=>bm r (.inl y)⟩,λr y=>.inr (.inr ⟨y,?_⟩)⟩,⟨⟨_,b6 (cY.W H) λr y=>bm r (.inr y)⟩,λr y=>.inr (.inl ⟨y,?_⟩)⟩,?_⟩
    .have:=bJ r y;omega
    .have:=b4 r y;omega
    .rw[bK,cf]
  .rcases V with V|rfl
   .obtain⟨rfl,c,aW⟩:=ef bb V;exact cO (bC.W H) aW Φ y
   .exact cO (bC.W H) bd Φ y
  .exact ((nR.aa cW (H.aa λ_=>False) λ_ _ _ h=>h).aa au λr _ y V=>bH r V y).Y λr y=>.inl y
 have a6:=bt.W aS;have b8:=ce.W aS;have de:∀r,A r->r<w.heap.size:=h.1.2.2.2;obtain⟨_,⟨_,_,dF⟩,dG,dH⟩:=id bt;have dI:cs.length<=4096:=Ω
 have bn:∀{av:x5}{aU aV:x4}{X:Nat}{K:x4->x5->Prop},Ext aP av->aP.heap.size<=X->aH .i64 ay av X aU [1]->aQ .i64 av aV cs->
   (∀Q W C,Ext aP C->ai (λr=>r=X) av C->w.heap.size<=W->aH .i64 ay C W Q (1::cs)->(Ext aP C->K Q C))->aL x8 (c9 #[aA,aA] aA #[aU,aV]) av K:=by
  intro av aU aV X K z bo aw aG df;refine kC aA.u ay.i rfl aw aG Θ Θ λQ W C S M ax=>?_;have B:=z.put ax Ω;have dg:=z.size;exact df Q W C B ax Ω M B
 have aM:∀{v:x4}{be:Nat}{dh:o8}{e:o4}{di:x5}{l:Λ},aH dh e di be v l->w.heap.size<=be->∀r,lc v r->¬A r:=λhm dJ r y dj=>by
  obtain⟨h1,_⟩:=ca hm y;have:=de r dj;omega
 refine⟨?_,?_⟩
 .refine (my b8 Ω).Y ?_;rintro ae dk _ ⟨N,a8,bU,G⟩;have z5:=N.size;refine⟨.inl N,?_,?_⟩
  .refine (qP (a6.W N)).Y ?_;rintro _ b9 _ ⟨rfl,O⟩;have Y:=N.F O;have dK:=Y.size;have dL:=O.size;have cd:=(a6.W N).W O;refine⟨.inl Y,?_,?_⟩
   .refine e3 aA.u ay.i rfl λaU X av bo z aw=>?_;refine⟨.inl (Y.F z),?_⟩;refine(oy (cd.W z)).Y ?_;rintro aV bL _ ⟨P,bM,bN,aG⟩;have ak:=(Y.F z).F P;refine⟨.inl ak,?_⟩;refine bn ak Ω (aw.W P) aG.ls λQ W C B ax S M _=>⟨.inl B,?_⟩;have aF:=bE (((G.W O).W z).W P) ax λr y he=>by have he:r=X:=he;obtain⟨h1,a2⟩:=ca G y;omega
    exact bj B Ω S aF M λr y=>y.elim (aM G Ω r) (aM M S r)
   .refine (oy cd).Y ?_;rintro aV av _ ⟨z,bM,bN,aG⟩;refine⟨.inl (Y.F z),?_⟩;have dg:=z.size;refine e3 aA.u ay.i rfl λaU X bL bo P aw=>?_;have ak:=(Y.F z).F P;refine⟨.inl ak,?_⟩;refine bn ak Ω aw (aG.ls.W P) λQ W C B ax S M _=>⟨.inl B,?_⟩;have aF:=bE (((G.W O).W z).W P) ax λr y he=>by have he:r=X:=he;obtain⟨h1,a2⟩:=ca G y;omega
    exact bj B Ω S aF M λr y=>y.elim (aM G Ω r) (aM M S r)
  .refine e3 aA.u ay.i rfl λaU X b9 bo O aw=>?_;have Y:=N.F O;refine⟨.inl Y,?_⟩;refine(qP ((a6.W N).W O)).Y ?_;rintro _ av _ ⟨rfl,z⟩;have bf:=Y.F z;refine⟨.inl bf,?_⟩;refine(oy (((a6.W N).W O).W z)).Y ?_;rintro aV bL _ ⟨P,bM,bN,aG⟩;have ak:=bf.F P;refine⟨.inl ak,?_⟩;refine bn ak Ω ((aw.W z).W P) aG.ls λQ W C B ax S M _=>⟨.inl B,?_⟩;have aF:=bE (((G.W O).W z).W P) ax λr y he=>by have he:r=X:=he;obtain⟨h1,a2⟩:=ca G y;omega
   exact bj B Ω S aF M λr y=>y.elim (aM G Ω r) (aM M S r)
 .refine e3 aA.u ay.i rfl λaU X dk bo N aw=>?_;refine⟨.inl N,?_⟩;have z5:=N.size;have dM:=ss aw Ξ;refine(my (b8.W N) Ω).Y ?_;rintro ae b9 _ ⟨O,a8,bU,G⟩;have Y:=N.F O;refine⟨.inl Y,?_⟩;refine(qP ((a6.W N).W O)).Y ?_;rintro _ av _ ⟨rfl,z⟩;have bf:=Y.F z;refine⟨.inl bf,?_⟩;refine(oy (((a6.W N).W O).W z)).Y ?_;rintro aV bL _ ⟨P,bM,bN,aG⟩;have ak:=bf.F P;refine⟨.inl ak,?_⟩;refine bn ak Ω (((aw.W O).W z).W P) aG.ls λQ W C B ax S M _=>⟨.inl B,?_⟩;have aF:=bE ((G.W z).W P) ax λr y he=>by have he:r=X:=he;obtain⟨h1,a2⟩:=ca G y;omega
  exact bj B Ω S aF M λr y=>y.elim (aM G Ω r) (aM M S r)
theorem jt{P:X8}{t F:o4}{k:o8}{b g:Nat}{x:x4}{m:Λ}{K:x4->x5->Prop}(y:P.underlying t=σ (.slice e))(hi:aU P e 1 b z)(A:z.cells.size=1)(h:aH k e w g v l)(J:aQ k w x m)(B:(l.length+m.length)*b<=140737488355328)(C:l.length+m.length<=9223372036854775807)(E:∀a f I,aH k e I f a (l++m)->(∀r,lc a r->lc v r\/w.heap.size<=r)->ai (λr=>lc v r) w I->K a I):aL P (c9 #[t,t] F #[v,x]) w K:=by
 rcases h.2 with⟨ac,G⟩|⟨cap,cs,ac,M,N⟩
 .have H:=b8 G;subst H;have be:aH k e w w.heap.size v []:=by grind [aH.nil]
  refine kC y hi A be J B C λa f I j hm s=>E a f I hm (λr q=>.inr ?_) (s.Y Ω);obtain⟨L,_⟩:=ca hm q;omega
 .refine kC y hi A h J B C λa f I j hm s=>E a f I hm (λr q=>?_) (s.Y λr q he=>⟨_,_,_,ac,he.symm⟩);obtain⟨L,_⟩:=ca hm q;rcases j with j|j
  .exact .inl ⟨_,_,_,ac,by show g=r;omega⟩
  omega
def addVar(s:am)(u:Λ):am:={s with d9:=s.d9++[newVar u]}
theorem Qq(s:am)(u:Λ):jX (addVar s u)=jX s++[((3+(s.d9.flatMap js).length:Nat):Int)]:=by
 unfold jX addVar;rw[j6,List.length_singleton,List.range_succ,Z0]
 grind [List.map_congr_left,iD]
theorem Qr{s:am}{u:Λ}(ah:s.ho=[]):(addVar s u).cells=s.cells++(0::0::u):=by
 unfold am.cells addVar lX;simp only[ah,List.flatMap_nil,T5,List.flatMap_append,List.flatMap_singleton,T1];rfl
def fq(n:aI)(i j:Nat):am:=⟨n.zero,(n.unary.take i).map newVar,(n.ho.take j).map (mR n.d6),[]⟩
theorem EP{n:aI}{i:Nat}{u:Λ}(h:n.unary[i]?=σ u):fq n (i+1) 0=addVar (fq n i 0) u:=by
 grind [fq,addVar,u9]
theorem Qs{n:aI}{i:Nat}{g:c0}(h:n.ho[j]?=σ g):fq n i (j+1)=kq (fq n i j) g.1 (b6 n.d6 g.1) g.2:=by
 unfold fq kq;simp only[u9,h,j4,Z0,List.map_singleton];rfl
theorem yt(n:aI):fq n n.unary.length n.ho.length=cY n:=by
 grind [fq,cY]
theorem EQ{α β:Type}{f:α->List β}{b:Nat}:∀{L:List α},(∀x∈L,(f x).length<=b)->(L.flatMap f).length<=L.length*b
 :=by
 intro a;induction a<;>grind [T7]
theorem va{n:aI}(a:kN n)(ah:n.ho.length<=256)(i j:Nat):(fq n i j).cells.length<=2000000:=by
 rw[yn];have h1:=EQ (f:=js) (b:=34) (L:=(fq n i j).d9) λx J=>by
  obtain⟨u,hu,rfl⟩:=l9.1 (show x∈(n.unary.take i).map newVar from J);obtain⟨p,ae⟩:=Y5.1 (List.mem_of_mem_take hu);have s:=a.lW;have w:=(x6.1 ae).1;obtain⟨z,h⟩:=aJ (l:=n.d6) (i:=p) Ω;have q:=(a.unary p z u h ae).1;have e:=a.d6.2.2 z (x7 h);show u.length+2<=34;omega
 have q:=EQ (f:=i9) (b:=4097) (L:=(fq n i j).ho) λx J=>by
  obtain⟨g,r,rfl⟩:=l9.1 (show x∈(n.ho.take j).map (mR n.d6)from J);have e:=(a.ho g (List.mem_of_mem_take r)).1;have y:=e.len;have A:=e.small;show g.2.length+1<=4097;omega
 have e:(fq n i j).d9.length<=64:=by
  show((n.unary.take i).map newVar).length<=64;rw[r9,Z3];have:=a.lW;have:=a.d6.2.1;omega
 grind [fq]
def Plain(t:aB):Prop:=t.marks=[]/\t.olds=[]/\iT t []/\t.kH=0
theorem Plain.set{t:aB}(h:Plain t)(i:Nat)(x:Int):Plain (t.set i x):=⟨(aB.yp _ _ _).F h.1,(aB.yq h.1 _ _).F h.2.1,h.2.2.1.set,(aB.EF _ _ _).F h.2.2.2⟩
theorem Plain.lay{t:aB}(h:Plain t)(l:Λ):Plain (oD t l):=⟨(sK _ _ _).F h.1,(EK h.1 _ _).F h.2.1,h.2.2.1.gX l _,(EI _ _ _).F h.2.2.2⟩
theorem Plain.put{s:am}{t:aB}(h:Plain t)(cs:Λ):Plain (pQ s t cs):=(h.lay _).set _ _
def Qt(w:x5)(R0:aj)(n:aI)(v:x4)(I:x5):Prop:=Ext w I/\∃af ag A R t,v=Γ af/\StateM I af ag A R n (cY n) t/\t.cb=(cY n).cells/\Plain t/\(∀r,A r->w.heap.size<=r)/\∀r,R r->R0 r\/w.heap.size<=r
theorem Qu{R0:aj}{z:Nat}{n:aI}(aw:gI w0 z n)(Z:Ext w0 w)(aU:∀r o,w0.heap[r]?=σ o->fW o=s2->R0 r)(cA:∀r,R0 r->r<w.heap.size)(B:kN n)(ah:n.ho.length<=256):aq x8 AX [Γ z] w (Qt w R0 n):=by
 have h:=aw.W Z;have cB:=B.lW;have cD:=B.d6.2.1;refine aE func61 ?_;rw[dj oe.u];simp only[b9,bb];refine(Qb (n:=3) Ω).Y ?_;rintro _ U _ ⟨ac,ag,rfl,bw⟩;rw[dn (cs:=#[Γ z,Γ ag,.slice ν 0 0,.slice ν 0 0,.slice ν 0 0]) Ψ];refine br λaf ab cE I M=>?_;have M:=M;have cF:=ac.size;have cG:=I.size;have cH:=M.lt;have bx:e8 ab af ag z (.slice ν 0 0) (.slice ν 0 0) (.slice ν 0 0) (λr=>r=af\/(w.heap.size<=r/\r<U.heap.size)) R0 n ⟨0,[],[],[]⟩ ⟨o5 3 ⟨0,0⟩,[],[],0⟩:=by
  refine⟨⟨.inl rfl,λr q bz=>?_,λr q=>?_,λr q=>?_⟩,0,0,0,[],[],λr=>w.heap.size<=r/\r<U.heap.size,w0,M,⟨aw,Z.F (ac.F I),aU⟩,⟨(bw.cut).W I,Ω,λq=>?_,λr q=>?_⟩,aH.nil _ _ _ _,⟨bn.nil _ _ _ _ _,rfl,by grind⟩,bn.nil _ _ _ _ _,rfl,by grind⟩
  .grind
  .grind
  .omega
  .omega
  .rcases q with q|q|q
   .obtain⟨a,cI,c,ax,cJ⟩:=q;cases ax
   all_goals grind [gC]
 intro cK N _ _;have bA:=bx.W N;rw[aO cX.p 1 (M.W N) rfl];refine(Qi (h.W ((ac.F I).F N))).Y ?_;rintro _ cL _ ⟨rfl,ad⟩;refine⟨.inl ad,?_⟩;have bB:=bA.W ad;obtain⟨az,bC,bD⟩:=bB.sJ;refine(uZ bC rfl Φ ⟨Ξ,Ξ,Ξ⟩).Y ?_;rintro _ bF _ ⟨_,bG,bH,bI⟩;obtain⟨bJ,aV,aC⟩:=bD bG bF _ bH bI;have aC:=aC.same (ED ⟨0,[],[],[]⟩ n.zero);have z3:=N.size;have z4:=ad.size;have bL:=((ac.F I).F N).F ad;have aW:=bL.then aV.1 Ω;refine(yo (h.W aW)).Y ?_;rintro _ cM _ ⟨rfl,aX⟩;refine b3.range n.d6.length (λi ae=>∃A C t,Ext w ae/\e8 ae af ag z C (.slice ν 0 0) (.slice ν 0 0) A R0 n (fq n i 0) t/\t.cb=(fq n i 0).cells/\Plain t/\∀r,A r->w.heap.size<=r) Ω
  ⟨bJ,_,_,aW.F aX,aC.W aX,?_,?_,λr q=>?_⟩ ?_ ?_
 .rw[aB.rU];rfl
 .exact Plain.set ⟨rfl,rfl,⟨rfl,rfl,λc s=>by rw[(List.mem_replicate.1 s).2];exact o6 _,W3 _⟩,rfl⟩ _ _
 .rcases aV.2.1 r q with he|he
  all_goals omega
 .rintro i ae bM hi ⟨A,C,t,H,aD,aY,O,aF⟩ bN;obtain⟨u,hu⟩:=aJ (l:=n.unary) (i:=i) Ω;obtain⟨a2,a6⟩:=aJ (l:=n.d6) (i:=i) Ω;have cN:u.length<=32:=by
   have cO:=(B.unary i a2 u a6 hu).1;have cP:=B.d6.2.2 a2 (x7 a6);omega
  refine bK Ω ?_;refine(EA (h.W H) B).Y ?_;rintro cQ cR _ ⟨bO,_,bP⟩;obtain⟨cS,cT,bQ⟩:=bP u Ω (by rw[u7];exact hu);intro a7 a8 _ _;have aG:=bO.F a8;have ba:=aD.W aG;obtain⟨⟨_,_,_,bc⟩,bi,bd,ge,L,E,az,w0,ak,_⟩:=id ba;have cU:=aG.size;have cV:=H.size;rw[aO cX.p 2 ak rfl];refine qB (l:=[0,0]) aA.u ay.i Ω rfl Ψ λbR cW cZ c0 am be=>?_;refine⟨.inl am,?_⟩;refine jt aA.u ay.i rfl be ((bQ.W a8).ls.W am) Θ Θ λbS c1 c2 bT bU bV=>?_;have c3:∀r,lc bR r->a7.heap.size<=r:=λr q=>by obtain⟨ax,_⟩:=ca be q;omega
  have an:=am.then bV (by grind);refine⟨.inl an,?_⟩;have bW:=ba.W an;have c4:∀r,lc bS r->a7.heap.size<=r:=λr q=>by
   rcases bU r q with h|h
   .grind
   .have:=am.size;omega
  have bX:t.cells.length<=2000000:=by
   grind [va,aB.cb]
  have bY:t.olds.length=0:=by rw[O.2.1];rfl
  have bZ:t.marks.length=0:=by rw[O.1];rfl
  refine(EO bW bT.ls (by grind) Θ Θ Ω).Y ?_;rintro _ c5 _ ⟨rfl,_,aK,aL,b0⟩;obtain⟨⟨b1,c6,c7,c8⟩,bi,bd,ge,L,E,az,w0,ak,⟨b2,b4,b6⟩,⟨b7,c9,b8,da⟩,cc,⟨cd,ce⟩,cf,cg⟩:=id b0;refine⟨.inr (u2 ak (λK=>by rw[aZ cX.p rfl]) Ψ rfl),?_⟩;refine e3 au.u al.i rfl λdb dc bf dd y ch=>?_;have aM:=ak.W y;refine⟨.inr (u2 aM (λK=>by rw[aZ cX.p rfl]) Ψ rfl),?_⟩;have de:(jX (fq n i 0)).length=i:=by
   grind [jX,fq]
  have bg:=cc.W y;refine jt au.u al.i rfl bg ch.ls (by grind) (by grind) λci cj df P dg bh=>?_;have bj:=aM.aa bh λhe=>cC bg aM Φ he rfl;rw[b5,aZ cX.p rfl];refine bs au.i P.ls.cells.1 P.ls.cells.2 bj Ξ λbk bl dh aN=>?_;have aN:=aN;rw[aT];have s:ai (λr=>lc C r\/r=af) bf bk:=(bh.Y (by grind)).F (bl.Y Ω);have di:=an.size;have z12:=aL.1.size;have dk:=y.size;have dl:=s.size;have dm:∀r,aK r->w.heap.size<=r:=λr q=>(aL.2.1 r q).elim (aF r) Ω;have dp:∀r,(lc C r\/r=af)->aK r:=by grind
  have dq:(fq n (i+1) 0).cells=(fq n i 0).cells++(0::0::u):=by rw[EP hu];exact Qr rfl
  have cl:t.cells.length=3+((fq n i 0).d9.flatMap js).length:=by
   grind [yn,aB.cb,fq]
  refine bN _ ⟨λr=>aK r\/(bf.heap.size<=r/\r<bk.heap.size),ci,oD t ([0,0]++u),?_,⟨⟨.inl b1,λr q bz=>?_,by grind,λr q=>?_⟩,cj,bd,ge,L,E,az,w0,aN,⟨b2,u0 (b4.F y) s (by grind),b6⟩,⟨(b7.W y).aa s λr q V=>?_,by grind,b8,λr q=>?_⟩,?_,⟨(cd.W y).aa s λr q V=>?_,?_⟩,(cf.W y).aa s λr q V=>?_,?_⟩,?_,O.lay _,λr q=>?_⟩
  .exact ((H.F (aG.F an)).then aL.1 (by grind)).F y |>.then s (by grind)
  .grind
  .grind
  .grind
  .rcases q with q|q|q
   .have dr:=(ca P q)
    grind
   all_goals grind
  .rw[EP hu,Qq,<-cl];exact bE P bl λr q he=>by
    have he:r=af:=he;subst he;exact cC P bj Φ q rfl
  .grind [gC]
  .refine⟨ce.1,λj x f J aP=>?_⟩;have aP:((n.ho.take 0).map (mR n.d6))[j]?=σ f:=aP;simp at aP
  .grind [gC]
  .refine⟨cg.1,λj x e J he=>?_⟩;have he:([]:List yl)[j]?=σ e:=he;simp at he
  all_goals grind [EM]
 .rintro ae bM ⟨A,C,t,H,aD,aY,O,aF⟩;refine ck Ω ?_;refine(Ez (h.W H)).Y ?_;rintro _ ds _ ⟨rfl,bm⟩;refine b3.range n.ho.length (λj Q=>∃A R ao t,Ext w Q/\e8 Q af ag z C ao (.slice ν 0 0) A R n (fq n n.d6.length j) t/\t.cb=(fq n n.d6.length j).cells/\Plain t/\(∀r,A r->w.heap.size<=r)/\∀r,R r->R0 r\/w.heap.size<=r) Ω
   ⟨A,_,_,t,H.F bm,aD.W bm,aY,O,aF,by grind⟩ ?_ ?_
  .rintro j Q cm cn ⟨A,R,ao,t,G,S,ap,W,bo,bp⟩ cp;obtain⟨g,av⟩:=aJ (l:=n.ho) cn;have aQ:=(B.ho g (x7 av)).1;refine bK Ω ?_;refine(Qj (h.W G) B av).Y ?_;rintro a1 dt _ ⟨X,gs,du,bq⟩;refine(Ql aw (Z.F (G.F X)) av).Y ?_;rintro _ dv _ ⟨Y,gt,dw,cq,rfl,dx,dy,cr,bt⟩;have z0:=Z.size;have dz:∀r,lc cq r->r<w.heap.size:=λr q=>by obtain⟨c,aS⟩:=bt r q;have:=aS.lt;omega
   have ct:=(S.W X).W Y;have bc:∀r,A r->r<Q.heap.size:=S.1.2.2.2;have dA:=X.size;have bX:t.cells.length<=2000000:=by
    grind [va,aB.cb]
   have bY:t.olds.length=0:=by rw[W.2.1];rfl
   have bZ:t.marks.length=0:=by rw[W.1];rfl
   have dC:g.2.length<=4096:=by have:=aQ.len;have:=aQ.small;omega
   have dD:=aQ.scope.2;refine(Qp (sc:=g.1) ct ap (bq.ls.W Y) (λr q cu=>by have:=bc r cu;obtain⟨ax,_⟩:=ca bq q;omega) cr (by grind) Ω Ω Ω Ω ?_).Y ?_
   .show ((n.ho.take j).map (mR n.d6)).length<=_
    grind
   rintro _ dE _ ⟨rfl,_,aR,R',cw,bu,dF,dG,cz⟩;rw[aT];have dH:=Qs (i:=n.d6.length) av;refine cp _ ⟨aR,R',cw,pQ (fq n n.d6.length j) t g.2,((G.F X).F Y).then bu.1 (by grind),?_,?_,W.put _,λr q=>?_,λr q=>?_⟩
   .grind
   .grind [Qo]
   .rcases bu.2.1 r q with h|h
    .grind
    .have:=G.size;have:=Y.size;omega
   .rcases cz r q with h|h|h
    .grind
    .exact .inl (by obtain⟨c,aS⟩:=bt r h;exact aU r _ aS rfl)
    .exact .inr (by have:=G.size;have:=X.size;have:=Y.size;omega)
  .rintro Q cm ⟨A,R,ao,t,G,S,ap,W,bo,bp⟩;refine ck Ω ?_;have e:fq n n.d6.length n.ho.length=cY n:=by grind [yt]
   rw[e]at S ap;exact⟨G,af,ag,A,R,t,rfl,⟨z,C,ao,_,S⟩,ap,W,bo,bp⟩
theorem Qv(M:Bytes l)(W:l.length<=100000):aq x8 J4 [ch l] w λv I=>v=lQ l/\Ext w I:=by
 refine aE func179 ?_;refine jF (λae af U=>Ext w U/\∃(m:Λ)(s:Int),ae=ch m/\af=Δ s/\Bytes m/\m.length<=100000/\qK l m s) ?_ ?_
 .rintro _ _ U ⟨N,m,s,rfl,rfl,H,ax,K⟩;rw[px df.u,bl,ao];refine⟨λO=>?_,λO=>?_⟩
  .have P:m=[]:=b8 Ω;exact⟨by rw[uh K (by rw[P];rfl)],N⟩
  have P:m≠[]:=λh=>O (by rw[h];rfl);refine ry.range m.length (λi _ _ Q R f=>Ext U f/\∃(n:Int)(a:Bool),Q= .int .u64 n/\R= .bool a/\ol n a ((m.take i).foldl fQ 0)/\(m.take i).all gS=s2) Ω ⟨Ext.refl _,0,sp,rfl,rfl,LS,rfl⟩ ?_ ?_
  .rintro i ag t3 _ _ f ai hi ⟨B,n,a,rfl,rfl,q,C⟩ aj;obtain⟨b,r⟩:=aJ (l:=m) hi;have aA:=H b (x7 r);rw[px df.u];refine bK Ω ?_;refine B2 (λ_ _ Q R j=>Ext U j/\∃(n:Int)(a:Bool),Q= .int .u64 n/\R= .bool a/\ol n a ((m.take (i+1)).foldl fQ 0)/\(m.take (i+1)).all gS=s2) ?_ ?_
   .rintro aB aC a3 a4 j ak;rw[aT];exact aj _ _ _ _ _ ak
   intro az z;refine a6 (λv j=>f=j/\v= .bool (!gS b)) ?_ ?_
   rotate_left
   .intro S e;rw[rV rfl df.u H r,aW,ao];refine⟨λh=>e _ _ ⟨rfl,by unfold gS;rw[rc Ω];rfl⟩,λh=>?_⟩;rw[rV rfl df.u H r,bW];refine e _ _ ⟨rfl,?_⟩;unfold gS;congr 1;by_cases X:57<b
    .rw[ms X,rc Ω];rfl
    .rw[rc X,ms Ω];rfl
   rintro _ _ ⟨rfl,rfl⟩;cases V:gS b with
   |false=>
    rw[X5,bT];exact⟨by rw[uh K (CO r V)],N.F B⟩
   |true=>
    rw[Y7,bb];have al:=rs V;have L:=LR q al;rw[CM r,CL r,C,V]at z;have am:=q.1;have an:=q.2.1;refine a6 (λv j=>f=j/\v= .bool (a||decide (461168601842738790<n))) ?_ ?_
    rotate_left
    .intro S e;rw[bW,ao];refine⟨λh=>e _ _ ⟨rfl,by rw[ms h,Bool.or_true]⟩,λh=>e _ _ ⟨rfl,by rw[rc h,Bool.or_false]⟩⟩
    rintro _ _ ⟨rfl,rfl⟩;by_cases E:a=s2\/461168601842738790<n
    .have ah:(a||decide (461168601842738790<n))=s2:=by rcases E with h|h<;>simp[h]
     rw[m3 E,ah]at L;rw[ah,bR,Y7,bb];exact z _ _ _ _ _ ⟨B,n,s2,rfl,rfl,L,rfl⟩
    .have ah:(a||decide (461168601842738790<n))=sp:=by
      cases a with
      |true=>exact m6 (.inl rfl) E
      |false=>simp;omega
     rw[m5 E,ah]at L;have aD:¬461168601842738790<n:=λh=>E (.inr h);rw[ah,bR,X5,bT,fL,rV rfl df.u H r,dm,wrap_u8 Ω Ω,fM cT.u fZ.u,lw Ω Ω,lw Ω Ω,aT,lw Ω Ω];exact z _ _ _ _ _ ⟨B,_,sp,rfl,rfl,L,rfl⟩
  .rintro ag t3 _ _ f ai ⟨B,n,a,rfl,rfl,q,C⟩;rw[o9]at C q;rw[px df.u];refine ck Ω ?_;have Y:=LU q;have am:=q.1;have an:=q.2.1;have ap:∀{x:Int},x=m.foldl fQ 0->0<=x->x<=4611686018427387904->(ad x8 (convert fZ ay (.int .u64 x)) f λau=>
     ad x8 (aS .mul ay sp sp (Δ s) au) f λav=>(λv I=>v=lQ l/\Ext w I) (.tuple #[av,(Δ 0)]) f):=by
    intro x J O h1;rw[fM fZ.u ay.u,lm Ω Ω,fL];have hw:X4.wrap (s*x)=s*x:=by
     rcases K.1 with rfl|rfl<;>exact lm Ω Ω
    rw[hw];refine⟨?_,N.F B⟩;rw[CR K (CN P C),J]
   refine a6 (λv j=>f=j/\v= .int .u64 (m.foldl fQ 0)) ?_ ?_
   .rintro _ _ ⟨rfl,rfl⟩;have Z:=xc C ⟨T3 _,Φ⟩;exact ap rfl Z.1 Z.2
   intro S e;refine a6 (λv j=>f=j/\v= .bool (a||decide (4611686018427387904<n))) ?_ ?_
   .rintro _ _ ⟨rfl,rfl⟩;rw[b4];refine⟨λh=>e _ _ ⟨rfl,?_⟩,λh=>e _ _ ⟨rfl,?_⟩⟩
    .have be:a=s2\/4611686018427387904<n:=by simpa using h
     rw[Y,m3 be]
    .have be:¬(a=s2\/4611686018427387904<n):=by
      intro G;rcases G with G|G
      .simp[G]at h
      .simp[G]at h
     rw[Y,m5 be]
   .intro aF aa;cases a with
    |true=>rw[bT];exact aa _ _ ⟨rfl,rfl⟩
    |false=>rw[bb,bW];exact aa _ _ ⟨rfl,by rw[Bool.false_or]⟩
 .intro az z;refine a6 (λv ab=>w=ab/\∃c:Bool,v= .bool c/\(c=s2↔l[0]?=σ 45)) ?_ ?_
  .rintro _ _ ⟨rfl,c,rfl,ac⟩;rw[b4];refine⟨λaw=>?_,λah=>?_⟩
   .obtain⟨m,rfl⟩:∃m,l=45::m:=by
     have:=ac.1 aw;cases l with
     |nil=>simp at this
     |cons x m=>exact⟨m,by simp at this;rw[this]⟩
    rw[B6 (y:=1) (i:=1) rfl df.u Ξ];exact z _ _ _ ⟨Ext.refl _,m,-1,rfl,rfl,λb A=>M b (.tail _ A),by simp at W;omega,CP⟩
   .refine z _ _ _ ⟨Ext.refl _,l,1,rfl,rfl,M,W,CQ λb A he=>?_⟩;subst he;have:=ac.2 A;rw[ah]at this;cases this
  .intro S e;rw[px df.u,bW,ao];refine⟨λh=>?_,λh=>e _ _ ⟨rfl,sp,rfl,?_⟩⟩
   .obtain⟨b,A⟩:=aJ (l:=l) (i:=0) Ω;rw[rV (y:=0) rfl df.u M A,bl];refine e _ _ ⟨rfl,_,rfl,?_⟩;rw[ro,A];exact⟨λh=>by rw[h],λh=>Z5 h⟩
   .have:l=[]:=b8 Ω;subst this;simp
theorem Qw{s:Go.Sem x4}(h:ad x8 s w λu=>u=v)(hk:K v):ad x8 s w K:=by
 obtain⟨u,h1,rfl⟩:=h;exact⟨u,h1,hk⟩
abbrev ja:Type:=Λ×Int
def iu(x:ja):List x4:=[ch x.1,Δ x.2]
theorem yu(x:ja):∀u∈iu x,u.oneCell'=s2:=by
 intro u hu;simp[iu]at hu;rcases hu with rfl|rfl<;>rfl
def kr(w:x5)(v:x4)(L:List ja):Prop:=cj w 2 v L.length (L.flatMap iu)
theorem yv{g:Nat}{L:List ja}(h:bn iu 2 cH w g v L):kr w v L:=h.sl
theorem ER{L:List ja}{a:o4}(h:kr w v L):ad x8 (X7 #[fK] a #[v]) w K=K (Δ (L.length:Int)):=by
 obtain⟨_,_,_,_,_,rfl,_⟩:=h;exact ji fK.u
theorem Qx{k:Nat}(h:cj w k v n cs)(f:ai S w I)(q:∀r,hx v r->¬S r):cj I k v n cs:=by
 obtain⟨h1,b,o,base,cap,rfl,s,x,e,y⟩:=h;refine⟨h1,b,o,base,cap,rfl,s,x,e,?_⟩;rcases Nat.eq_zero_or_pos n with a|a
 .have:cs=[]:=b8 (by rw[h1,a,Nat.zero_mul]);subst this;intro j v ac;simp at ac
 .have z:=e a;exact iz f (q b ⟨⟨b,o,ν⟩,n,cap,by rw[z],rfl⟩) y
theorem kr.aa{L:List ja}(h:kr w v L)(a:ai S w I)(e:∀r,hx v r->¬S r):kr I v L:=Qx h a e
theorem ES{x:ja}{L:List ja}(h:kr w v (x::L))(a:∀b o,w.rangeAt b o (iu x)->K (.pointer (σ ⟨b,o,ν⟩))):ad x8 (n9 fK v (Δ 0)) w K:=by
 obtain⟨_,b,o,base,cap,rfl,_,_,e,f⟩:=h;have:=e2 (P:=x8) (w:=w) (K:=K) (k:=.i64) (c:=cap) fK.u cH.i (show 0<(x::L).length by simp) e;rw[show((0:Nat):Int)=0 from rfl]at this;rw[this];refine a _ _ λj u hu=>?_;have q:=(x6.1 hu).1;rw[Nat.zero_mul,Nat.add_zero];exact f j u (by rw[T0,V9 q];exact hu)
theorem Qy{x:ja}{L:List ja}(h:kr w v (x::L))(y:∀j,(∀I,kr I v (x::L)->kr I j L)->(∀r,hx j r->hx v r)->K j):ad x8 (V5 fK v (σ (Δ 1)) ν ν) w K:=by
 have C:=h;obtain⟨_,b,o,base,cap,rfl,E,_⟩:=h;rw[iA fK.u cH.i (pn 1 1 rfl) k4 fy Ξ Ω (o6 _)];refine y _ (λI z=>?_) λr A=>?_
 .have:=cj.part (l:=1) (h:=(x::L).length) (m:=cap) z Ξ (o6 _) Ω (o6 _);have e:(((x::L).flatMap iu).drop (1*2)).take (((x::L).length-1)*2)=L.flatMap iu:=by
   rw[T0];have B:(L.flatMap iu).length=L.length*2:=jS λ_ _=>rfl;show(L.flatMap iu).take _=_;rw[j5 (by rw[B,W0,Nat.add_sub_cancel];exact o6 _)]
  rw[e]at this;exact this
 .obtain⟨a,n,c,f,s⟩:=A;split at f
  .cases f;exact⟨_,_,_,rfl,s⟩
  .cases base with
   |none=>cases f
   |some q=>cases f;exact⟨_,_,_,rfl,s⟩
theorem Qz{g:Nat}{L:List ja}(z:y=(n:Int))(h:bn iu 2 cH w g v L)(A:n<=L.length)(B:∀s,kr w s (L.take n)->(∀r,hx s r->hx v r)->K s):ad x8 (V5 fK v ν (σ (Δ y)) ν) w K:=by
 have C:=yv h;obtain⟨_,b,o,base,cap,rfl,G,_⟩:=h.sl;rw[iA fK.u cH.i ke (po n y z) fy (W3 _) Ω (o6 _)];refine B _ ?_ λr E=>?_
 .have:=cj.part (l:=0) (h:=n) (m:=cap) C (W3 _) A Ω (o6 _);have e:((L.flatMap iu).drop (0*2)).take ((n-0)*2)=(L.take n).flatMap iu:=by
   rw[Nat.zero_mul,List.drop_zero,Nat.sub_zero,sg (f:=iu) n λ_ _=>rfl]
  rw[e]at this;have F:(L.take n).length=n-0:=by rw[Z3];omega
  unfold kr;rw[F];exact this
 .obtain⟨a,n,c,j,x⟩:=E;split at j
  .cases j;exact⟨_,_,_,rfl,x⟩
  .cases base with
   |none=>cases j
   |some q=>cases j;exact⟨_,_,_,rfl,x⟩
def QA(w:x5)(pl:Λ)(v:x4)(I:x5):Prop:=Ext w I/\∃a L,∃bad:Int,v= .tuple #[a,Δ bad]/\kr I a L/\L.map (·.1)=(lex pl).1/\(0<=bad↔(lex pl).2=sp)/\(∀r,hx a r->w.heap.size<=r)/\∀r,hx a r->∃c,ak I r cH c
theorem QB{p:x4}{pl:Λ}(ae:aQ .u8 w p pl)(ax:Bytes pl)(a7:pl.length<=65536):aq x8 Jj [p] w (QA w pl):=by
 refine aE func116 ?_;rw[ba cV.u ae];refine ry.range pl.length (λi _ _ z H U=>Ext w U/\∃g L,∃(j:List (Λ))(A:Λ)(op:Bool),H= .bool op/\bn iu 2 cH U g z L/\L.map (·.1)=(if op then j++[A]else j)/\(op=s2->A.length<=i)/\L.length<=i/\kg (pl.drop i) j A op=lex pl/\∀r,hx z r->w.heap.size<=r) ae.le
  ⟨Ext.refl _,0,[],[],[],sp,rfl,bn.nil _ _ _ _ _,rfl,(λh=>by cases h),o6 _,Mh pl,λr B=>(gC B).elim⟩ ?_ ?_
 rotate_left
 .rintro ay t3 z H U aA ⟨E,g,L,j,A,op,rfl,C,y,_,_,q,G⟩;refine ck Ω ?_;rw[List.drop_length]at q;have q:(if op then j++[A]else j,s2)=lex pl:=q;exact⟨E,z,L,-1,rfl,yv C,by rw[y,<-q],by rw[<-q];simp,G,λr B=>by obtain⟨rfl,c,W⟩:=ef C B;exact⟨c,W⟩⟩
 rintro i ay t3 z H U aA hi ⟨E,g,L,j,A,op,rfl,C,y,aj,a8,q,G⟩ aB;obtain⟨b,X⟩:=aJ (l:=pl) hi;have bc:=ax b (x7 X);have ak:pl.drop i=b::pl.drop (i+1):=by rw[X2 hi,(x6.1 X).2]
 rw[ak]at q;unfold kg at q;refine bK Ω ?_;refine B2 (λ_ _ z H Y=>Ext w Y/\∃g L,∃(j:List (Λ))(A:Λ)(op:Bool),H= .bool op/\bn iu 2 cH Y g z L/\L.map (·.1)=(if op then j++[A]else j)/\(op=s2->A.length<=i+1)/\L.length<=i+1/\kg (pl.drop (i+1)) j A op=lex pl/\∀r,hx z r->w.heap.size<=r) ?_ ?_
 .rintro bd be a3 a4 Y aC;rw[aT];exact aB _ _ _ _ _ aC
 intro az al;rw[bp cV.u cT.i Ψ (ae.W E) X];refine a6 (λv I=>U=I/\v= .bool (cZ b)) ?_ ?_
 rotate_left
 .intro Z s;unfold cZ at s;rw[bl,ao];refine⟨λh=>s _ _ ⟨rfl,by rw[ms (.inl h)]⟩,λh1=>?_⟩;rw[bl,ao];refine⟨λh=>s _ _ ⟨rfl,by rw[ms (.inr (.inl h))]⟩,λQ=>?_⟩;rw[bl,ao];refine⟨λh=>s _ _ ⟨rfl,by rw[ms (.inr (.inr (.inl h)))]⟩,λaD=>?_⟩;rw[bl];refine s _ _ ⟨rfl,?_⟩;congr 1;rw[U1,ro,ro];exact⟨λh=>.inr (.inr (.inr h)),λh=>by rcases h with h|h|h|h;exact m6 h h1;exact m6 h Q;exact m6 h aD;exact h⟩
 rintro _ _ ⟨rfl,rfl⟩;cases V:cZ b with
 |true=>
  rw[bT];rw[m3 V]at q;exact al _ _ _ _ _ ⟨E,g,L,_,[],sp,rfl,C,y,(λh=>by cases h),Ω,q,G⟩
 |false=>
  rw[bb];rw[m5 (by rw[V];simp)]at q;refine a6 (λv I=>U=I/\v= .bool (!cf b)) ?_ ?_
  rotate_left
  .intro Z s;unfold cf at s;rw[aW,ao];refine⟨λh=>s _ _ ⟨rfl,by rw[rc Ω];rfl⟩,λh=>?_⟩;rw[bW];refine s _ _ ⟨rfl,?_⟩;by_cases Q:126<b
   .rw[ms Q,rc Ω];rfl
   .rw[rc Q,ms Ω];rfl
  rintro _ _ ⟨rfl,rfl⟩;cases hw:cf b with
  |false=>
   rw[X5,bT];rw[m5 (by rw[hw];simp)]at q;refine a6 (λv I=>U=I/\∃R,kr U v R/\R.map (·.1)=j/\(∀r,hx v r->w.heap.size<=r)/\∀r,hx v r->hx z r) ?_ ?_
   .rintro v _ ⟨rfl,R,aa,aG,S,aH⟩;exact⟨E,v,R,(i:Int),rfl,aa,by rw[aG,<-q],by rw[<-q];simp,S,λr B=>by obtain⟨rfl,c,W⟩:=ef C (aH r B);exact⟨c,W⟩⟩
   .intro Z s;cases op with
    |false=>
     rw[bb];rw[m5 Ξ]at y;exact s _ _ ⟨rfl,L,yv C,y,G,λ_ h=>h⟩
    |true=>
     rw[bT];rw[m3 rfl]at y;have ab:L.length=j.length+1:=by have:=congrArg List.length y;simpa using this
     rw[eF fK.u C,dm,lm Ω Ω];refine Qz (n:=j.length) Ω C Ω λN aa S=>s _ _ ⟨rfl,_,aa,?_,λr B=>G r (S r B),S⟩;rw[List.map_take,y,List.take_left]
  |true=>
   rw[Y7,bb];rw[m3 hw]at q;refine a6 (λz ac=>Ext w ac/\∃g M,∃x:ja,bn iu 2 cH ac g z (M++[x])/\M.map (·.1)=j/\x.1=(if op then A else[])/\(M++[x]).length<=i+1/\∀r,hx z r->w.heap.size<=r) ?_ ?_
   .rintro bf ac ⟨am,aI,M,x,aK,aL,J,aM,an⟩;intro af ag _ _;have O:=aK.W ag;have ap:(M++[x])[M.length]?=σ x:=Ξ
    have bg:(M++[x]).length=M.length+1:=Ξ
    rw[eF fK.u O,dm,lm Ω Ω,ct (i:=M.length) Ω fK.u cH.i O Ω,aZ cH.p rfl,aF (o:=M.length*2+0) Ψ (O.range ap 0 _ rfl),aT,lm Ω Ω];obtain⟨bh,au⟩:∃N,aQ .u8 af N [b]/\ad x8 (V5 cV p (σ (Δ (i:Int))) (σ (Δ ((i:Int)+1))) ν) af (λv=>v=N):=by
     have aN:=ae.W (am.F ag);have:=tY (P:=x8) (low:=σ (Δ (i:Int))) (high:=σ (Δ ((i:Int)+1))) (K:=λv=>aQ .u8 af v [b]) cV.u cT.i aN (pn i _ rfl) (po (i+1) ((i:Int)+1) Ω) Ω Ω λN av=>by
      have e:((ints .u8 pl).drop (i*1)).take ((i+1-i)*1)=ints .u8 [b]:=by
       simp only[U3,show i+1-i=1 by omega];rw[ints,<-List.map_drop,<-List.map_take,ak];rfl
      rw[e]at av;exact aQ.of av
     obtain⟨v,aO,aP⟩:=this;exact⟨v,aP,v,aO,rfl⟩
    refine Qw au.2 ?_;have bi:x.1.length<=65536:=by
     rw[J];cases op with
     |true=>rw[m3 rfl];have:=aj rfl;omega
     |false=>simp
    rw[xe cV.u cT.u df.u au.1,xd Θ,ct (i:=M.length) Ω fK.u cH.i O Ω,aZ cH.p rfl];refine lf (a':=(x.1++[b],x.2)) df.i rfl rfl O ap rfl Ω λbj aR bk aw=>?_;have e:(M++[x]).set M.length (x.1++[b],x.2)=M++[(x.1++[b],x.2)]:=by
     rw[U7 _ _ (o6 _),V7];rfl
    rw[e]at aw;refine al _ _ _ _ _ ⟨(am.F ag).then aR (λr B he=>by have:=an r he;omega),aI,_,j,x.1++[b],s2,rfl,aw,by rw[Z0,aL];rfl,λ_=>?_,by simp at aM ⊢;omega,?_,an⟩
    .rw[j6,J];cases op with
     |true=>rw[m3 rfl];have:=aj rfl;simp;omega
     |false=>simp
    .rw[<-q,J];cases op with
     |true=>rfl
     |false=>rfl
   .intro Z s;cases op with
    |true=>
     rw[bR,Y7,bb];rw[m3 rfl]at y;have ab:L.length=j.length+1:=by have:=congrArg List.length y;simpa using this
     obtain⟨M,x,rfl⟩:∃M x,L=M++[x]:=by
      have:L≠[]:=λh=>by rw[h]at ab;simp at ab
      exact⟨L.dropLast,L.getLast this,(List.dropLast_concat_getLast this).symm⟩
     rw[Z0]at y;obtain⟨aS,ah⟩:=List.append_inj' y Ξ;refine s _ _ ⟨E,g,M,x,C,aS,?_,Ω,G⟩;rw[m3 rfl];have ah:[x.1]=[A]:=ah;exact(List.cons.inj ah).1
    |false=>
     rw[bR,X5,bT];rw[m5 Ξ]at y;rw[dn (cs:=#[ch [],Δ (i:Int)]) Ψ];refine jr (f:=iu) (a:=(([],(i:Int)):ja)) fK.u cH.i Ω rfl rfl λv9 bm bo bq ai aU=>?_;have aV:=C.W ai;refine jT fK.u cH.i rfl aV (by simpa using aU.sl) (yu _) Ω Ω λN aX br aY a1 a2=>?_;have bs:=E.size;have z9:=ai.size;refine s _ _ ⟨(E.F ai).then a2 (λr B he=>by have:=G r he;omega),aX,L,_,aY,y,rfl,Θ,λr B=>?_⟩;rcases a1 r B with h|h
     .exact G r h
     .omega
structure yw where
 v:x4
 t:Λ
 c:Int
def pR(y:yw):List x4:=[y.v,Δ y.c]
def lZ(w:x5)(g:Nat)(v:x4)(l:List (Λ×Int)):Prop:=∃L:List yw,bn pR 2 cv w g v L/\(∀y∈L,∃gy,aH .i64 ay w gy y.v y.t)/\L.map (λy=>(y.t,y.c))=l
structure ks where
 a1:x4
 hv:x4
 o:Int
 cw:x4
def fS(h:ks):List x4:=[h.a1,h.hv,Δ h.o,h.cw]
def iv(w:x5)(h:ks)(x:cI):Prop:=(∃g,aH .i64 ay w g h.a1 x.scope)/\(∃g,aH .i64 ay w g h.hv x.d6)/\h.o=x.other/\∃g,lZ w g h.cw x.lines
def iG(w:x5)(r:Nat):Prop:=∃e c,ak w r e c/\e≠ay/\e≠cv
theorem eZ{g:Nat}(h:aH .i64 ay w g v l)(f:ai S w I)(j:∀r,S r->iG w r\/w.heap.size<=r):aH .i64 ay I g v l:=bE h f λr a V=>by
 rcases j r V with⟨e,c,q,s,_⟩|x
 .exact cC h q (λhe=>s he.symm) a rfl
 .obtain⟨y,z⟩:=ca h a;omega
theorem yx{α:Type}{f:α->List x4}{k:Nat}{g:Nat}{L:List α}(h:bn f k e w g v L)(q:ai S w I)(s:∀r,S r->(∃a c,ak w r a c/\a≠e)\/w.heap.size<=r):bn f k e I g v L:=h.aa q λr j V=>by
 rcases s r V with⟨a,c,x,y⟩|z
 .exact cO h x (λhe=>y he.symm) j
 .obtain⟨A,B⟩:=h.lc j;omega
theorem lZ.dV{g:Nat}{l:List (Λ×Int)}(h:lZ w g v l)(a:ai S w I)(f:∀r,S r->iG w r\/w.heap.size<=r):lZ I g v l:=by
 obtain⟨L,h1,j,q⟩:=h;refine⟨L,yx h1 a λr s=>(f r s).imp (λ⟨e,c,x,_,z⟩=>⟨e,c,x,z⟩) id,λy A=>?_,q⟩;obtain⟨gy,hm⟩:=j y A;exact⟨gy,eZ hm a f⟩
theorem iv.dV{h:ks}{x:cI}(ax:iv w h x)(a:ai S w I)(e:∀r,S r->iG w r\/w.heap.size<=r):iv I h x:=by
 obtain⟨⟨g1,h1⟩,⟨f,j⟩,q,s,y⟩:=ax;exact⟨⟨g1,eZ h1 a e⟩,⟨f,eZ j a e⟩,q,s,y.dV a e⟩
theorem iv.W{h:ks}{x:cI}(ax:iv w h x)(J:Ext w I):iv I h x:=ax.dV (J.aa λ_=>False) λ_ h=>h.elim
theorem iv.one{h:ks}{x:cI}(ax:iv w h x):∀u∈fS h,u.oneCell'=s2:=by
 obtain⟨⟨g1,h1⟩,⟨f,a⟩,j,q,L,e,_⟩:=ax;intro u hu;simp[fS]at hu;rcases hu with rfl|rfl|rfl|rfl
 .exact h1.ls.cells.2
 .exact a.ls.cells.2
 .rfl
 .exact (eH e.sl).2
def oF(w:x5)(a:x4)(e:List ja)(gs:Nat)(sv:x4)(L:List ks)(X:List cI):Prop:=(kr w a e/\∀r,hx a r->∃c,ak w r cH c)/\bn fS 4 bj w gs sv L/\X.length=L.length/\∀(i:Nat)h x,L[i]?=σ h->X[i]?=σ x->iv w h x
theorem oF.dV{q:x4}{z:List ja}{L:List ks}{X:List cI}(h:oF w q z gs sv L X)(j:ai S w I)(s:∀r,S r->(∃e c,ak w r e c/\e≠ay/\e≠cv/\e≠cH/\¬hx sv r)\/w.heap.size<=r):oF I q z gs sv L X:=by
 obtain⟨⟨h1,A⟩,B,E,F⟩:=h;have hw:∀r,hx q r->¬S r:=λr a V=>by
  obtain⟨c,f⟩:=A r a;rcases s r V with⟨e,G,C,_,_,y,_⟩|H
  .exact y (fE C f)
  .have:=f.lt;omega
 refine⟨⟨h1.aa j hw,λr a=>?_⟩,B.aa j λr a V=>?_,E,λi ax x hi J=>(F i ax x hi J).dV j λr a=>(s r a).imp (λ⟨e,c,f,K,M,_⟩=>⟨e,c,f,K,M⟩) id⟩
 .obtain⟨c,f⟩:=A r a;exact⟨c,f.aa j (hw r a)⟩
 .rcases s r V with⟨e,G,C,_,_,_,y⟩|H
  .exact y a
  .obtain⟨N,O⟩:=B.lc a;omega
def jb(a:x4)(e f bad h big j m1:Int)(sv:x4):List x4:=[a,Δ e,Δ f,Δ bad,Δ h,Δ big,Δ j,Δ m1,sv]
def QC(N:Nat)(so:Option aN)(a:List ja)(e bad big m1:Int)(L:List ks)(X:List cI):Prop:=match so with
 |some s=>bad=0/\e≠0/\(big≠0↔s.big=s2)/\(s.big=sp->m1=s.m1)/\True/\a.map (·.1)=s.hp/\(∀t∈s.hp,Bytes t/\t.length<=65536)/\X.map (λx=>(x.d6,x.lines))=s.m2/\L.length+a.length<=100000
 |none=>bad≠0/\L.length<=N
def bX(w:x5)(g B:Nat)(H:aj)(N:Nat)(so:Option aN):Prop:=100000<=N/\∃w0 a e gs sv L X,∃(h f bad j big q m1:Int),w0.heap.size=B/\ai (λr=>r=g) w0 w/\(∃c,ak w0 g bN c)/\ak w g bN (jb a h f bad j big q m1 sv)/\oF w0 a e gs sv L X/\(∀r,hx sv r->H r)/\QC N so e f bad big m1 L X
theorem oF.g{g:Nat}{e:x4}{f:List ja}{L:List ks}{X:List cI}(h:oF w e f gs sv L X)(q:ai (λr=>r=g) w I)(s:∃c,ak w g bN c):oF I e f gs sv L X:=
 h.dV q λr a=>.inl (by
  have a:r=g:=a;subst a;obtain⟨c,j⟩:=s;exact⟨_,c,j,Φ,Φ,Φ,λx=>cO h.2.1 j Φ x⟩)
theorem bX.new{g:Nat}{H:aj}{so:Option aN}(h:bX w g B H N so)(a:ai S w I)(e:∀r,S r->B<=r):bX I g B H N so:=by
 obtain⟨x,w0,y,z,gs,sv,L,X,A,C,bad,E,big,F,m1,h1,f,j,G,J,K,M⟩:=h;have q:g<w0.heap.size:=by obtain⟨c,O⟩:=j;exact O.lt
 exact⟨x,w0,y,z,gs,sv,L,X,A,C,bad,E,big,F,m1,h1,⟨X0 f.size a.size,λr o s V q=>a.a8 r o (f.a8 r o s V q) V λP=>by
  have:=e r P;have:=(Y1.1 s).1;omega⟩,j,G.aa a λV=>by have:=e g V;omega,J,K,M⟩
theorem bX.W{g:Nat}{H:aj}{so:Option aN}(h:bX w g B H N so)(J:Ext w I):bX I g B H N so:=h.new (J.aa λ_=>False) λ_ h=>h.elim
theorem bX.base{g:Nat}{H:aj}{so:Option aN}(h:bX w g B H N so):bX w g w.heap.size H N so:=by
 obtain⟨e,w0,f,j,gs,sv,L,X,q,r,bad,s,big,x,m1,h1,y,z,a,A,C,E⟩:=h;exact⟨e,w,f,j,gs,sv,L,X,q,r,bad,s,big,x,m1,rfl,ai.refl _ _,⟨_,a⟩,a,A.g y z,C,E⟩
theorem bX.dV{g:Nat}{H:aj}{so:Option aN}(h:bX w g B H N so)(j:ai S w I)(q:∀r,S r->(∃e c,ak w r e c/\e≠ay/\e≠cv/\e≠cH/\e≠bN/\¬H r)\/w.heap.size<=r):bX I g I.heap.size H N so:=by
 obtain⟨x,w0,y,z,gs,sv,L,X,A,C,bad,E,big,F,m1,h1,G,J,f,K,s,M⟩:=h.base;have O:=K.g G J;have a:=f.aa j λV=>by
  rcases q g V with⟨e,c,a,_,_,_,P,_⟩|ab
  .exact P (fE a f)
  .have:=f.lt;omega
 refine⟨x,I,y,z,gs,sv,L,X,A,C,bad,E,big,F,m1,rfl,ai.refl _ _,⟨_,a⟩,a,O.dV j λr Q=>(q r Q).imp (λ⟨e,c,a,R,U,W,_,Y⟩=>⟨e,c,a,R,U,W,λZ=>Y (s r Z)⟩) id,s,M⟩
theorem bX.lt{g:Nat}{H:aj}{so:Option aN}(h:bX w g B H N so):g<B/\B<=w.heap.size:=by
 obtain⟨f,w0,j,q,gs,sv,L,X,r,s,bad,x,big,y,m1,h1,a,⟨c,e⟩,_⟩:=h;have:=e.lt;have:=a.size;omega
theorem ju{g:Nat}{H:aj}{so:Option aN}(h:bX w g B H N so):∃a,∃(e f bad j big q m1:Int),∃sv,ak w g bN (jb a e f bad j big q m1 sv)/\(so.isSome=s2↔bad=0):=by
 obtain⟨y,w0,a,z,gs,sv,L,X,e,f,bad,j,big,q,m1,h1,A,C,x,E,F,r⟩:=h;refine⟨a,e,f,bad,j,big,q,m1,sv,x,?_⟩;cases so with
 |none=>exact⟨(λh=>by cases h),λh=>m6 h r.1⟩
 |some s=>exact⟨λ_=>r.1,λ_=>rfl⟩
theorem mT{g:Nat}{H:aj}{so:Option aN}(h:bX w g B H N so):ad x8 (b0 (Γ g)) w (λa=>ad x8 (u6 bN a 3) w λt45=>ad x8 (u5 al t45) w λt46=>ad x8 (aS .eql al sp s2 t46 (Δ 0)) w K)=K (.bool so.isSome):=by
 obtain⟨f,j,q,bad,r,big,s,m1,sv,e,hi⟩:=ju h;rw[aO bN.p 3 e rfl,bl];congr 2;rw[U1,ro];exact hi.symm
theorem sL{g:Nat}{H:aj}{so:Option aN}(h:bX w g B H N so):ad x8 (b0 (Γ g)) w (λf=>ad x8 (u6 bN f 3) w λt45=>ad x8 (u5 al t45) w λt46=>ad x8 (aS .neq al sp s2 t46 (Δ 0)) w K)=K (.bool (!so.isSome)):=by
 obtain⟨q,r,s,bad,x,big,y,m1,sv,j,hi⟩:=ju h;rw[aO bN.p 3 j rfl,bO];congr 2;cases e:so.isSome with
 |true=>have a:=hi.1 e;simp[a]
 |false=>
  have a:bad≠0:=λa=>by rw[hi.2 a]at e;cases e
  simp[a]
def q3(w:x5)(g B:Nat)(H:aj)(N:Nat)(so:Option aN)(I:x5):Prop:=ai (λr=>r=g) w I/\bX I g B H N so
theorem pS{g:Nat}{H:aj}{so:Option aN}{e at_:Int}(h:bX w g B H N so)(he:e≠0):aq x8 pe [Γ g,Δ e,Δ at_] w λ_ I=>q3 w g B H N ν I:=by
 refine aE func121 ?_;rw[mT h];cases so with
 |none=>rw[S4,bb];exact⟨ai.refl _ _,h⟩
 |some s=>
  rw[T8,bT];obtain⟨j,w0,q,r,gs,sv,L,X,x,y,bad,Q,big,z,m1,h1,A,C,E,G,J,K⟩:=h;rw[b5,aZ bN.p rfl];refine bs (g:=g) (o:=3) al.i rfl rfl E (by simp[jb]) λU M R O=>?_;rw[b5,aZ bN.p rfl];refine bs (g:=g) (o:=4) al.i rfl rfl O (by simp[jb]) λab P S a=>?_;have a:=a;have f:=M.F P;obtain⟨_,_,_,_,_,_,_,_,V⟩:=K;exact⟨f,j,w0,q,r,gs,sv,L,X,x,y,e,at_,big,z,m1,h1,A.F f,C,a,G,J,he,Ω⟩
theorem oG{g:Nat}{H:aj}{so:Option aN}{b:Bool}{at_:Int}(h:bX w g B H N so):aq x8 tG [Γ g,.bool b,Δ at_] w λ_ I=>q3 w g B H N (so.map (bm b)) I:=by
 refine aE func118 ?_;obtain⟨A,w0,C,E,gs,sv,L,X,G,J,bad,K,big,W,m1,h1,M,O,e,P,Q,f⟩:=id h;refine a6 (λv U=>w=U/\v= .bool (b&&decide (big=0)&&so.isSome)) ?_ ?_
 .rintro _ _ ⟨rfl,rfl⟩;rw[b4];refine⟨λR=>?_,λah=>⟨ai.refl _ _,A,w0,C,E,gs,sv,L,X,G,J,bad,K,big,W,m1,h1,M,O,e,P,Q,?_⟩⟩
  .rw[T9,T9]at R;obtain⟨⟨Y,ae⟩,Z⟩:=R;rw[b5,aZ bN.p rfl];refine bs (g:=g) (o:=5) al.i rfl rfl e (by simp[jb]) λU aa af ac=>?_;rw[b5,aZ bN.p rfl];refine bs (g:=g) (o:=6) al.i rfl rfl ac (by simp[jb]) λab ad ag j=>?_;have j:=j;have S:=aa.F ad;refine⟨S,A,w0,C,E,gs,sv,L,X,G,J,bad,K,5,at_,m1,h1,M.F S,O,j,P,Q,?_⟩;cases so with
   |none=>cases Z
   |some s=>
    obtain⟨q,r,V,x,y⟩:=f;exact⟨q,r,⟨λ_=>by show(s.big||b)=s2;rw[Y,Bool.or_true],λ_=>Ω⟩,λax=>x (T4.1 ax).1,y⟩
  .cases so with
   |none=>exact f
   |some s=>
    obtain⟨q,r,V,x,y⟩:=f;refine⟨q,r,?_,λax=>x (T4.1 ax).1,y⟩;show big≠0↔(s.big||b)=s2;cases b with
    |false=>rw[Bool.or_false];exact V
    |true=>
     have a:big≠0:=by simpa using ah
     simp[a]
 .intro az z;cases b with
  |false=>rw[bb];exact z _ _ ⟨rfl,Ξ⟩
  |true=>
   rw[bT,aO bN.p 5 e rfl,bl,ao];refine⟨λa=>?_,λa=>z _ _ ⟨rfl,by rw[rc a];simp⟩⟩;rw[mT h];exact z _ _ ⟨rfl,by rw[ms a];simp⟩
def kP(so:Option aN):Option (Λ×aN):=so.bind ec
theorem ET{g:Nat}{H:aj}{so:Option aN}(h:bX w g B H N so):aq x8 Jk [Γ g] w λv I=>q3 w g B H N ((kP so).map (·.2)) I/\∃(t:Λ)(n:Int),v= .agg #[ch t,Δ n]/\Bytes t/\t.length<=65536/\∀q,kP so=σ q->t=q.1:=by
 have az:=h.lt;refine aE func117 ?_;refine bF cH.i λe U bj y z=>?_;have h1:=h.W y;have zero:∀{f:x5},q3 U g B H N ν f->ak f e cH [.string ⟨#[]⟩,Δ 0]->kP so=ν->(ad x8 (Instr.build cH #[]) f λt9=>
   aL x8 (o7 cH (Γ e) t9) f λ(_:Unit)ab=>
   ad x8 (do loadVar cH (<-asAddr (Γ e))) ab λaA=>(λv I=>q3 w g B H N ((kP so).map (·.2)) I/\∃(t:Λ)(n:Int),v= .agg #[ch t,Δ n]/\Bytes t/\t.length<=65536/\∀q,kP so=σ q->t=q.1) aA ab):=by
  intro f j G P;rw[dn (cs:=#[.string ⟨#[]⟩,Δ 0]) Ψ];refine cd (vs:=[.string ⟨#[]⟩,Δ 0]) cH.i rfl rfl (by intro v ac;simp at ac;rcases ac with rfl|rfl<;>rfl) G λaB W bk aC=>?_;rw[fA cH.p cH.i rfl aC.range,P];have aD:=y.size;have bm:=az;refine⟨⟨iU ((y.aa _).F j.1) W λr a he=>?_,j.2.new W λr a=>?_⟩,[],0,rfl,(λb aF=>by cases aF),Ξ,λq Q=>by cases Q⟩
  .have he:r=e:=he;omega
  .have a:r=e:=a;omega
 rw[sL h1];cases so with
 |none=>
  rw[S4,X5,bT];exact zero ⟨ai.refl _ _,h1⟩ z rfl
 |some s=>
 rw[T8,Y7,bb];obtain⟨aG,w0,bn,R,gs,sv,L,X,aH,aI,bad,aJ,big,aK,m1,aM,Y,Z,A,J,aP,aQ⟩:=id h1;have aR:=J.g Y Z;obtain⟨⟨K,bo⟩,_⟩:=id aR;obtain⟨aS,ae,aT,aU,aV,af,ag,aW,aX⟩:=id aQ;rw[aO bN.p 0 A rfl,ER K,bl,ao];refine⟨λah=>?_,λah=>?_⟩
 .have aY:R=[]:=b8 Ω;have C:s.hp=[]:=by rw[<-af,aY];rfl
  have P:kP (σ s)=ν:=by show ec s=ν;unfold ec;rw[C]
  intro f M _ _;have G:=A.W M;rw[aO bN.p 2 G rfl,aO bN.p 1 G rfl];refine(pS (h1.W M) ae).Y ?_;rintro _ aB _ j;have a1:=z.lt;exact zero ⟨(M.aa _).F j.1,j.2⟩ ((z.W M).aa j.1 λhe=>by have he:=he;omega) P
 .obtain⟨x,E,rfl⟩:∃x l,R=x::l:=by
   cases R with
   |nil=>exact m6 rfl ah
   |cons x l=>exact⟨x,l,rfl⟩
  have C:s.hp=x.1::E.map (·.1):=by rw[<-af];rfl
  have a2:kP (σ s)=σ (x.1,{s with hp:=E.map (·.1)}):=by show ec s=_;unfold ec;rw[C]
  have al:=ag x.1 (by rw[C];exact .head _);rw[aO bN.p 0 A rfl];refine ES K λb o a6=>?_;rw[bI cH.p cH.i rfl a6];refine bF cH.i λbp bq br a7 a8=>?_;refine cd (vs:=iu x) cH.i rfl rfl (yu x) a8 λbt ba bu am=>?_;have O:=a7.put ba Ω;have an:=A.W O;rw[aO bN.p 0 an rfl];refine Qy (K.aa (O.aa λ_=>False) λ_ _ h=>h) λap au bc=>?_;have av:=au U K;rw[b5,aZ bN.p rfl];refine bs (g:=g) (o:=0) fK.i (eH av).1 (eH av).2 an (by simp[jb]) λaw S bw V=>?_;have V:=V;have a1:=A.lt;have bx:=am.lt;have bz:=z.lt;have aD:=y.size;have bd:=am.aa S λhe=>by have he:=he;omega
  rw[bI cH.p cH.i rfl bd.range];have be:ak aw e cH [.string ⟨#[]⟩,Δ 0]:=(ak.W z O).aa S λhe=>by have he:=he;omega
  refine cd (vs:=iu x) cH.i rfl rfl (yu x) be λbA ax bB bf=>?_;rw[fA cH.p cH.i rfl bf.range];have ay:=(O.aa _).F S;rw[a2];refine⟨⟨iU ((y.aa _).F ay) ax λr a he=>?_,?_⟩,x.1,x.2,rfl,al.1,al.2,λq Q=>by cases Q;rfl⟩
  .have he:r=e:=he;omega
  .have bg:oF w0 ap E gs sv L X:=⟨⟨au w0 J.1.1,λr a=>J.1.2 r (bc r a)⟩,J.2⟩;have bh:bX aw g B H N (σ {s with hp:=E.map (·.1)}):=⟨aG,w0,ap,E,gs,sv,L,X,aH,aI,bad,aJ,big,aK,m1,aM,Y.F ay,Z,V,bg,aP,aS,ae,aT,aU,aV,rfl,λt bi=>ag t (by rw[C];exact .tail _ bi),aW,by simp at aX;omega⟩;refine bh.new ax λr a=>?_;have a:r=e:=a;omega
end Go.Proofs.YtlcdcbgoaljiiaaGreatDoor
