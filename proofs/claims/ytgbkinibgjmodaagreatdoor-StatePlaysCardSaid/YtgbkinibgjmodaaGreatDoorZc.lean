/- own texts, made small by a tool (wip/ holds them as they were written): no statement of the seat. -/
import Derived.Test.YtgbkinibgjmodaaGreatDoorZb
set_option linter.unusedVariables false
set_option linter.unusedSimpArgs false
set_option linter.unnecessarySimpa false
open Array renaming getElem?_eq_some_iff→j4,getElem?_toList→S3
open BitVec renaming ofInt→U5
open Bool renaming not_true→Y1,not_false→X4,eq_iff_iff→V8,and_eq_true→U1,true_and→U7,or_eq_false_iff→S0
open Decidable renaming not_not→X2
open Go renaming Value→x1,World→x2,TypeId→u9,IntKind→o5,Builtin→l5,Program→W5,Oper→U8,Operand→T8
open Go.Addr renaming add_mid→U4
open Go.Builtin renaming append_→l7,len_→Y3
open Go.Instr renaming loadAt→x5,fieldAt→x7,storeAt→o4,indexAt→n0,buildSlice→Z7,extract→Z8,sliceAt→W3,alloc→S6
open Go.IntKind renaming i64→Y5,u64→U3
open Go.Proofs.Tryz renaming prog→x3
open Go.Result renaming andThen→W0
open Go.Sem renaming run_bind→X8,run_pure→W9
open Go.Sort renaming Holds→T9
open Go.Value renaming int→V2
open Int renaming toNat_natCast→j9
open List renaming getElem?_eq_getElem→y0,getElem?_eq_some_iff→x4,mem_of_getElem?→x6,getElem?_map→x8,getD_eq_getElem?_getD→u4,length_map→u5,length_append→r8,take_add_one→r9,replicate→o6,length_take→o7,take_length→o9,mem_append→n9,mem_singleton→l9,getElem?_append_left→j0,length_cons→j5,take_of_length_le→Z0,getElem?_append_right→Z1,eq_nil_of_length_eq_zero→Z2,map_append→Z4,mem_map→Z5,getElem?_take_of_lt→Y2,getElem?_eq_none→Y4,mem_iff_getElem?→Y7,length_set→X1,getElem?_set→X5,ext_getElem?→X6,length_eq_one_iff→X7,range→X9,getElem?_set_ne→W6,drop_eq_getElem_cons→W8,pairwise_iff_getElem→V0,mem_or_eq_of_mem_set→V3,append_nil→V4,getElem?_set_self→V5,flatMap_cons→V6,append_assoc→V9,set_append_right→U6,mem_cons→U9,map_set→T0,length_singleton→T1,mem_of_mem_take→T2,map_cons→S2,length→S9,length_drop→R0,getElem_mem→R2
open Nat renaming le_refl→o8,zero_le→Y9,le_trans→X0,mul_le_mul_right→X3,sub_self→W7,zero_add→V1,add_mul→U2,beq→T3,mul_one→T4,min_eq_left→T5,pow_le_pow_right→S4,le_succ→S5,add_assoc→S7,add_sub_cancel_left→S8
open Ne renaming symm→T7
open Option renaming isNone_some→j6,some→Z3,toList_some→Z9,map_some→Y0,map_eq_some_iff→Y8,map→V7,getD_some→S1
open Option.some renaming inj→Z6,injEq→Y6
open Prod.mk renaming injEq→T6
set_option maxHeartbeats 16000000
open Option renaming some→σ,none→ν
variable {w w':x2}{N gs j m n:Nat}{I a all l scope sizes szs t:List Int}{c k o y:Int}{S:Nat->Prop}{clean:Bool}{bv db sv v:x1}{cs:List x1}{e:u9}{K:x1->x2->Prop}
namespace Go.Proofs.YtgbkinibgjmodaaGreatDoor
open Go Go.Vc Go.RowKit Go.Proofs Go.Proofs.Tryz
set_option maxRecDepth 100000
theorem HM {acc:List (List Int×Int)} {ok:Prop} {K:Unit->x2->Prop} (V:i9 w m) (ad:ok->jH w m acc/\(∀p∈acc,∀x∈p.1,0<=x)/\(∀x∈t,0<=x)/\t∉acc.map (·.1))
  (W:∀w',af (λr=>r=m) w w'->i9 w' m->(ok->jH w' m (acc++[(t,c)]))->K () w'):
  J x3 (Instr.lookup fY (.map (σ m)) (bw (dI t)) false) w λae=>
  J x3 (aB .add ab false true ae (Δ 1)) w λag=>
  az x3 (Instr.mapUpdate fY (.map (σ m)) (bw (dI t)) ag) w K:=by
 by_cases X:ok
 .obtain⟨h1,Y,aa,ac⟩:=ad X;rw[zi h1 Y aa,if_neg ac,aN,wrap_i64 Ω Ω];exact HL (c:=c) h1 Y aa ac λw' U I=>W w' U I.any λ_=>I
 .refine HJ V λah=>?_;rw[aN];exact HK V λw' U I=>W w' U I λh=>absurd h X
def eS {α:Type} (f:List α->aG->Option (α×aG)) (n:Nat) (acc:List α) (o:Option aG):Option (List α×aG):=o.bind (cz f n acc)
theorem i9.V (h:i9 w m) (I:af S w w') (J:¬S m):i9 w' m:=by
 obtain⟨d,h1,U⟩:=h;exact⟨d,h1.V I J,U⟩
theorem c3.words {g:Nat} {A:ai} {B:ai} {s:aG} (h:c3 w g gs A B clean (σ s)):s.toks.length<=100000:=by
 have h:cZ w g gs A B s clean:=h;exact h.2.1.words.1
theorem zj {acc:List (List Int×Int)} {st:aG} (U:∀q,eG sizes [] (σ st)=σ q->t=q.1) (I:∀q,aZ 0 av ((eG sizes [] (σ st)).map (·.2))=σ q->c=q.1):
  (aZ 0 av ((eG sizes [] (σ st)).map (·.2))=ν->dw sizes acc st=ν)/\ ∀q,aZ 0 av ((eG sizes [] (σ st)).map (·.2))=σ q->dw sizes acc st=if t∈acc.map (·.1) then ν else σ ((t,c),q.2):=by
 have e:eG sizes [] (σ st)=hB sizes [] st:=rfl;rw[e] at U I ⊢;unfold dw;cases h1:hB sizes [] st with
 |none=>exact⟨λ_=>rfl,λq J=>(by cases J)⟩
 |some q=>
  obtain⟨X,s1⟩:=q;rw[h1] at U I;have:=U _ rfl;subst this;have V:aZ 0 av ((σ (t,s1)).map (·.2))=ba 0 av s1:=rfl;rw[V] at I ⊢;simp only;cases W:ba 0 av s1 with
  |none=>exact⟨λ_=>rfl,λq J=>(by cases J)⟩
  |some q=>
   obtain⟨Y,aa⟩:=q;rw[W] at I;have:=I _ rfl;subst this;exact⟨λh=>(by cases h),λq J=>(by cases J;rfl)⟩
theorem HN {g:Nat} {A B:ai} {s:Option aG} {Q:x1->x2->Prop}
  (h:c3 w g gs A B clean s) (cc:aI .i64 w sv sizes) (bk:∀r,leads sv r->¬bq g gs A r/\r<w.heap.size) (cd:∀z∈sizes,1<=z/\z<=av) (ce:sizes.length<=100001) (cg:eM w) (h1:cn g gs A B 1) (ch:(N:Int)<=av)
  (bQ:∀v w' l,fe w g gs A B clean ((eS (dw sizes) N [] s).map (·.2)) w'->bf (et w.heap.size) bp w' [v] (show List (List Int×Int) from l)->(∀q,eS (dw sizes) N [] s=σ q->l=q.1)->Q v w'):
  az x3 (Instr.makeMap fY ν) w λbl W=>
 bC (.slice ν 0 0) (Δ 0) W λout i ah k=>
  bx (α:=x1->x2->Prop) (λ(ci:x1) (aE:x2)=>
   Split ci (az x3 (S6 dH true (.tuple #[])) aE λx U=>
  J x3 (Y3 #[ax] ab #[sv]) U λcj=>
  bC (.string ⟨#[]⟩) (Δ 0) U λkey bm aF ck=>
   J x3 (aB .lss ab false false bm cj) aF λcl=>
   Split cl (J x3 (n0 ax sv bm) aF λcm=>
   J x3 (x5 an cm) aF λcp=>
   J x3 (aB .sub an false true cp (Δ 1)) aF λcq=>
   aj x3 lI [Γ g,(Δ 0),cq] aF λbR aM=>
   J x3 (Z8 bR 0) aM λbS=>
   J x3 (Z8 bR 1) aM λdK=>
   J x3 (x7 dH x 0) aM λcr=>
   J x3 (x5 ax cr) aM λct=>
   az x3 (Z7 ax 1 #[(0,bS)]) aM λcu al=>
   az x3 (l7 #[ax,ax] ax #[ct,cu]) al λcw bT=>
   J x3 (x7 dH x 0) bT λcz=>
   az x3 (o4 ax cz cw) bT λ(_:Unit) cA=>
   aj x3 sK [bS] cA λcB a2=>
   J x3 (aB .add cK false true cB (.string ⟨#[32]⟩)) a2 λcC=>
   J x3 (aB .add cK false false key cC) a2 λcD=>
   J x3 (aB .add ab false true bm (Δ 1)) a2 λcE=>
   ck cD cE a2)
    (aj x3 lI [Γ g,(Δ 0),(Δ 4611686018427387904)] aF λbU a6=>
  J x3 (Z8 bU 0) a6 λcF=>
  J x3 (Z8 bU 1) a6 λcG=>
  J x3 (x7 dH x 1) a6 λcH=>
  az x3 (o4 an cH cF) a6 λ(_:Unit) cI=>
  bx (α:=x2->Prop) (λ(aH:x2)=>
   J x3 (Instr.lookup fY bl key false) aH λcJ=>
   J x3 (aB .add ab false true cJ (Δ 1)) aH λcL=>
   az x3 (Instr.mapUpdate fY bl key cL) aH λ(_:Unit) aO=>
   J x3 (x5 dH x) aO λcM=>
   az x3 (Z7 hr 1 #[(0,cM)]) aO λcO aW=>
   az x3 (l7 #[hr,hr] hr #[out,cO]) aW λcP a7=>
   J x3 (aB .add an false true i (Δ 1)) a7 λcQ=>
  k cP cQ a7) λbV=>
  bx (α:=x1->x2->Prop) (λ(cR:x1) (ay:x2)=>
   Split cR (aj x3 lJ [Γ g,(Δ 4),cG] ay λdL bW=>
    bV bW)
    (bV ay)) λbX=>
  aj x3 jt [Γ g] cI λcS aR=>
  Split cS (J x3 (Instr.lookup fY bl key false) aR λcT=>
  J x3 (aB .gtr ab false true cT (Δ 0)) aR λcU=>
  bX cU aR)
   (bX (.bool false) aR)))
    (Q out aE)) λbY=>
  J x3 (aB .lss an false false i (Δ (N:Int))) ah λcV=>
  Split cV (aj x3 jt [Γ g] ah λcW cX=>
  bY cW cX)
   (bY (.bool false) ah):=by
 obtain⟨dM,dN,dO,cY,a8⟩:=h.side;have ag:∀r,bq g gs A r->r<w.heap.size:=cY;unfold av at ch;refine q0 λX W dP bo br=>?_;have dQ:=bo.size;have dR:=br.lt;generalize Y:eS (dw sizes) N [] s=bZ at bQ;refine⟨λout bu ah=>∃ (i:Nat) (acc:List (List Int×Int)) (so:Option aG),bu=Δ (i:Int)/\i<=N/\af (bq g gs A) w ah/\W.heap.size<=ah.heap.size/\bf (et W.heap.size) bp ah [out] acc/\c3 ah g gs A B clean so/\
   bZ=eS (dw sizes) (N-i) acc so/\i9 ah X/\acc.length<=100001/\ ∀st,so=σ st->jH ah X acc/\(∀p∈acc,∀x∈p.1,0<=x)/\acc.length+st.toks.length<=100000,
  λ_ bu _=>N-(bL bu).toNat,⟨0,[],s,rfl,Y9 _,bo.V _,o8 _,fs,h.ext bo,Y.symm,⟨[],br,λp aw=>(by cases aw)⟩,Ξ,λst cZ=>⟨br,λp aw=>(by cases aw),?_⟩⟩,?_⟩
 .subst cZ;have:=h.words;simpa using this
 rintro out _ ah ⟨i,acc,so,rfl,dS,b0,z9,b1,bw,ba,c0,dT,bz⟩;refine aP (λv aE=>Ext ah aE/\((v= .bool true/\i<N/\ ∃st,so=σ st)\/(v= .bool false/\(so=ν\/i=N)))) ?_ ?_
 rotate_left
 .intro dU bA;rw[ao,ad];refine⟨λc1=>?_,λdV=>bA _ _ ⟨Ext.refl _,.inr ⟨rfl,.inr Ω⟩⟩⟩;refine (nB bw).mono ?_;rintro _ aE _ ⟨rfl,aA⟩;cases so with
  |none=>exact bA _ _ ⟨aA,.inr ⟨rfl,.inl rfl⟩⟩
  |some st=>exact bA _ _ ⟨aA,.inl ⟨rfl,Ω,st,rfl⟩⟩
 rintro _ aE ⟨aA,c2⟩;rcases c2 with⟨rfl,c1,st,rfl⟩|⟨rfl,c4⟩
 rotate_left
 .rw[aQ];have b2:bZ=so.map λst=>(acc,st):=by
   rcases c4 with rfl|rfl
   .exact ba
   .rw[W7] at ba;rw[ba];cases so <;> rfl
  refine bQ out aE acc (fe.mk (b0.trans (aA.V _)) ?_) (be (ak.mono b1 (λr _ h=>by have h:W.heap.size<=r:=h;show w.heap.size<=r;omega) λ_ _ h=>h) aA) (λq ap=>?_)
  .rw[b2,Option.map_map];have e:V7 ((λx=>x.2)∘λst=>(acc,st)) so=so:=by cases so <;> rfl
   rw[e];exact bw.ext aA
  .rw[b2] at ap;cases so with
   |none=>cases ap
   |some st=>cases ap;rfl
 rw[bO];obtain⟨bz,bB,dW⟩:=bz st rfl;have dX:=aA.size;refine bt dH.i λam U dY b3 b4=>?_;have aX:=aA.trans b3;have bD:af (bq g gs A) w U:=b0.trans (aX.V _);have b5:aI .i64 U sv sizes:=io cc bD λr I a n c c5 c6=>(bk r ⟨a,n,c,c5,c6⟩).1 I;rw[aS ax.u b5];have bb:¬bq g gs A am:=λY=>by have:=ag _ Y;omega
 refine HG (s:=σ st) (bw.ext aX) b5 (λr I=>⟨(bk r I).1,by have:=(bk r I).2;omega⟩) cd ce (cg.V bD h1.1) h1 b4 bb (λc7=>by have:=a8 _ c7;omega) λt aF aD bc dZ c8 b6 c9 da db dc dd=>?_;have ea:=b3.size;have z12:=b6.size;have eb:=b4.lt;have bE:∀x∈t,0<=x:=λx de=>(c8 x de).1;refine (ky dc).mono ?_;rintro _ aM _ ⟨bF,c,df,rfl,dg,ec⟩;obtain⟨bd,dh⟩:=bF.of;have ed:=bd.size;rw[aK (v:=Δ c) rfl,aK (v:=Δ df) rfl,aa dH.p rfl];refine bj (g:=am) (o:=1) an.i rfl rfl (c9.V bd bb) Ξ λal bg ee bG=>?_;have bG:ae al am dH [aD,Δ c]:=bG;have di:aq .i64 an al bc aD t:=(da.V bd (λ_ Y=>by have:=ag _ Y;omega)).V bg (λ_ he=>by have he:bc=am:=he;omega);have bH:af (λr=>bq g gs A r\/r=am) U al:=(b6.trans (bd.mono λr _ h=>.inl h)).trans (bg.mono λr _ h=>.inr h);have aJ:c3 al g gs A B clean ((aZ 0 av ((eG sizes [] (σ st)).map (·.2))).map (·.2)):=dh.V bg (λr I he=>by have he:r=am:=he;exact bb (he▸I)) (λr I he=>by have:=a8 r I.2;have he:r=am:=he;omega);have b7:¬(λr=>bq g gs A r\/r=am) X:=λh=>h.elim (λh=>by have:=ag _ h;omega) (λh=>Ω);have dj:i9 al X:=(c0.V (aX.V (λ_=>False)) (λh=>h)).V bH b7;have b8:jH al X acc:=(cN.ext bz aX).V bH b7;obtain⟨bI,bJ⟩:=zj (acc:=acc) dd dg;refine dt (λaH=>af (bq g gs A) al aH/\c3 aH g gs A B clean ((dw sizes acc st).map (·.2))) ?_ ?_
 .rintro aH ⟨aT,dk⟩;have bK:¬bq g gs A X:=λh=>by have:=ag _ h;omega
  have ef:=bg.size;have eg:=aT.size;refine HM (acc:=acc) (t:=t) (c:=c) (ok:=∃q,dw sizes acc st=σ q) (dj.V aT bK) (λ⟨q,ap⟩=>⟨cN.V b8 aT bK,bB,bE,λaC=>?_⟩) λaO aY dl dm=>?_
  .cases au:aZ 0 av ((eG sizes [] (σ st)).map (·.2)) with
   |none=>rw[bI au] at ap;cases ap
   |some aU=>rw[bJ aU au,if_pos aC] at ap;cases ap
  have eh:=aY.size;have dn:ae aO am dH [aD,Δ c]:=(bG.V aT bb).V aY (λhe=>by have he:am=X:=he;omega);have dp:aq .i64 an aO bc aD t:=(di.V aT (λ_ Y=>by have:=ag _ Y;omega)).V aY (λ_ he=>by have he:bc=X:=he;omega);rw[bn dH.p dH.i rfl dn.range];have b9:bf (et U.heap.size) bp aO [aD,Δ c] (t,c):=⟨[aD],[Δ c],et U.heap.size,bp,rfl,λ_ h=>h,λ_ h=>h.elim,λ_ _ _ h=>h,ak.mono (lZ dp) (λr _ h=>by subst h;exact db) (λ_ _ h=>h),rfl⟩;refine gK (α:=List Int×Int) (a:=(t,c)) (cs:=[aD,Δ c]) (A:=et U.heap.size) (R:=bp) hr.u dH.i Φ rfl b9 λu aW aV _ dq=>?_;have z22:=aV.size;have dr:bf (λr=>et W.heap.size r/\r<U.heap.size/\r≠am) bp U [out] acc:=be (ak.mono (ko b1) (λr _ h=>⟨h.1,by have:=h.2;omega,by have:=h.2;omega⟩) λ_ _ h=>h) aX;have ca:af (λr=>bq g gs A r\/r=am\/r=X) U aW:=(((bH.mono λr _ h=>h.elim .inl λh=>.inr (.inl h)).trans (aT.mono λr _ h=>.inl h)).trans (aY.mono λr _ h=>.inr (.inr h))).trans (aV.V _);have ds:=ak.V dr ca λr I h Y=>by
   rcases h with h|h
   .have bh:W.heap.size<=r:=h.1;rcases Y with Y|Y|Y
    .have:=ag _ Y;omega
    .exact h.2.2 Y
    .omega
   .exact h
  refine lY (α:=List Int×Int) (a:=(t,c)) (A:=et U.heap.size) hr.u dH.i rfl ds dq (be b9 aV) (λr _ h h'=>?_) Ω Ω λei a7 du a1=>?_
  .rcases h' with h'|h'
   .have:=h.2;have:U.heap.size<=r:=h';omega
   .exact h'
  have ej:=a1.size;rw[aN,wrap_i64 Ω Ω];have dv:af (bq g gs A) w aW:=gb bD ca λr I h=>by
   rcases h with h|h|h
   .exact h
   .omega
   .omega
  have dx:af (bq g gs A) w a7:=gb dv a1 λr I h=>by have bh:W.heap.size<=r:=h.1;omega
  have dy:c3 aW g gs A B clean ((dw sizes acc st).map (·.2)):=(dk.V aY (λr I he=>by have he:r=X:=he;exact bK (he▸I)) (λr I he=>by have:=a8 r I.2;have he:r=X:=he;omega)).ext aV;have dz:∀r,bq g gs A r->¬(et W.heap.size r/\r<U.heap.size/\r≠am):=λr I he=>by have:=ag _ I;have bh:W.heap.size<=r:=he.1;omega
  have dA:∀r,cn g gs A B r->¬(et W.heap.size r/\r<U.heap.size/\r≠am):=λr I he=>by have:=a8 r I.2;have bh:W.heap.size<=r:=he.1;omega
  have cb:¬(et W.heap.size X/\X<U.heap.size/\X≠am):=λhe=>by have bh:W.heap.size<=X:=he.1;omega
  refine⟨⟨i+1,acc++[(t,c)],(dw sizes acc st).map (·.2),rfl,Ω,dx,Ω,?_,dy.V a1 dz dA,?_,(dl.V (aV.V (λ_=>False)) (λh=>h)).V a1 cb,Θ,λdC dD=>?_⟩,by simp only[bL];omega⟩
  .refine ak.mono du (λr _ h=>?_) λ_ _ h=>h;show W.heap.size<=r;rcases h with h|h|h
   .exact h.1
   .have h:U.heap.size<=r:=h;omega
   .omega
  .rw[ba,show N-i=(N-(i+1))+1 by omega];cases ac:dw sizes acc st with
   |none=>exact nw ac
   |some q=>
    obtain⟨a,dC⟩:=q;have dE:a=(t,c):=by
     cases au:aZ 0 av ((eG sizes [] (σ st)).map (·.2)) with
     |none=>rw[bI au] at ac;cases ac
     |some aU=>
      rw[bJ aU au] at ac;split at ac
      .cases ac
      .cases ac;rfl
    subst dE;exact qX ac
  .obtain⟨q,ap,rfl⟩:=Y8.1 dD;have ek:=(nt ap).2.2.2.1;refine⟨cN.V ((cN.ext (dm ⟨q,ap⟩) aV)) a1 cb,λp aw=>?_,by simp only[r8,T1];omega⟩;rcases n9.1 aw with aw|aw
   .exact bB p aw
   .rw[l9.1 aw];exact bE
 .intro em bM;cases au:aZ 0 av ((eG sizes [] (σ st)).map (·.2)) with
  |none=>
   rw[au] at aJ;have ac:=bI au;refine aP (λv ay=>Ext al ay/\v= .bool false) ?_ ?_
   .rintro _ ay ⟨aL,rfl⟩;rw[aQ];exact bM _ ⟨aL.V _,by rw[ac];exact aJ.ext aL⟩
   .intro dF bN;refine (nB aJ).mono ?_;rintro _ aR _ ⟨rfl,bi⟩;rw[show ((ν:Option (Int×aG)).map (·.2)).isSome=false from rfl,aQ];exact bN _ _ ⟨bi,rfl⟩
  |some aU=>
   rw[au] at aJ;have ac:=bJ aU au;refine aP (λv ay=>Ext al ay/\v= .bool (decide (t∈acc.map (·.1)))) ?_ ?_
   .rintro _ ay ⟨aL,rfl⟩;rw[ad];refine⟨λaC=>?_,λdG=>?_⟩
    .refine (HF (aJ.ext aL) Ω).mono ?_;rintro _ bW _ bF;obtain⟨dI,dJ⟩:=bF.of;exact bM _ ⟨(aL.V _).trans dI,by rw[ac,if_pos aC];exact dJ⟩
    .exact bM _ ⟨aL.V _,by rw[ac,if_neg dG];exact aJ.ext aL⟩
   .intro dF bN;refine (nB aJ).mono ?_;rintro _ aR _ ⟨rfl,bi⟩;rw[show ((σ aU:Option (Int×aG)).map (·.2)).isSome=true from rfl,bO,zi (cN.ext b8 bi) bB bE,bP];refine bN _ _ ⟨bi,?_⟩;congr 1;by_cases aC:t∈acc.map (·.1)
    .rw[if_pos aC,decide_eq_true aC];rfl
    .rw[if_neg aC,decide_eq_false aC];rfl
theorem zk (sizes:List Int) (s:Option aG):hG sizes s=match aZ (-av) av s with
 |none=>ν
 |some (n,s)=>
  if n<0 then match s.shared[(-n-1).toNat]? with
   |none=>ν
   |some (z,l)=>if z=sizes then σ (l,s) else ν
  else cz (dw sizes) n.toNat [] (ix n s):=by
 cases s with
 |none=>rfl
 |some s=>
  show dx sizes s=_;unfold dx;show _=match ba (-av) av s with
   |none=>ν
   |some (n,s)=>
    if n<0 then match s.shared[(-n-1).toNat]? with
     |none=>ν
     |some (z,l)=>if z=sizes then σ (l,s) else ν
    else cz (dw sizes) n.toNat [] (ix n s)
  cases ba (-av) av s <;> rfl
theorem zl {m:Bool} {S R:ai} {a:hD} (h:ak.rep (α:=hD) m S R w cs a):∃u v,cs=[u,v]/\ak.rep (α:=List Int) false bp R w [u] a.1/\ak.rep (α:=List (List Int×Int)) false bp R w [v] a.2:=by
 obtain⟨c,d,J,U,rfl,_,_,_,h1,I⟩:=h;have h1:ak.rep (α:=List Int) false bp R w c a.1:=h1;have I:ak.rep (α:=List (List Int×Int)) false bp R w d a.2:=I;obtain⟨u,rfl⟩:=X7.1 (show c.length=1 from ak.len h1);obtain⟨v,rfl⟩:=X7.1 (show d.length=1 from ak.len I);exact⟨u,v,rfl,h1,I⟩
theorem HO {g:Nat} {A B:ai} {s:Option aG}
  (h:c3 w g gs A B clean s) (hi:∀t,s=σ t->dy t) (aV:aI .i64 w sv sizes) (am:∀r,leads sv r->¬bq g gs A r/\r<w.heap.size) (aW:∀z∈sizes,1<=z/\z<=av) (aX:sizes.length<=100001) (aY:eM w) (h1:cn g gs A B 1):
  aj x3 DX [Γ g,sv] w λv w'=>fe w g gs A B clean ((hG sizes s).map (·.2)) w'/\ ∃l,Seen (λr=>cn g gs A B r\/w.heap.size<=r) w' [v] (show List (List Int×Int) from l)/\ ∀q,hG sizes s=σ q->l=q.1:=by
 have a1:=h.side;obtain⟨bB,bC,bD,a2,bE⟩:=id a1;have ag:∀r,bq g gs A r->r<w.heap.size:=a2;refine aA func201 ?_;refine (ky (lo:=-av) (hi:=av) h).mono ?_;rintro _ U _ ⟨a6,n,at_,rfl,ay,a7⟩;obtain⟨an,aL⟩:=a6.of;have bF:=an.size;have J:=zk sizes s;rw[aK (v:=Δ n) rfl,aK (v:=Δ at_) rfl];have aM:aI .i64 U sv sizes:=io aV an λr ab a n c ap az=>(am r ⟨a,n,c,ap,az⟩).1 ab;have bG:∀r,leads sv r->¬bq g gs A r/\r<U.heap.size:=λr ab=>⟨(am r ab).1,by have:=(am r ab).2;omega⟩;have rest:∀Y,Ext U Y->(∀q,aZ (-av) av s=σ q->¬n<0)-> ∀N:Nat,n=(N:Int)->(N:Int)<=av-> ∀X,af (bq g gs A) Y X->c3 X g gs A B clean (((aZ (-av) av s).map (·.2)).map (ix n))->
   ∀v w' l,fe X g gs A B clean ((eS (dw sizes) N [] (((aZ (-av) av s).map (·.2)).map (ix n))).map (·.2)) w'->bf (et X.heap.size) bp w' [v] (show List (List Int×Int) from l)->(∀q,eS (dw sizes) N [] (((aZ (-av) av s).map (·.2)).map (ix n))=σ q->l=q.1)->
   fe w g gs A B clean ((hG sizes s).map (·.2)) w'/\ ∃l,Seen (λr=>cn g gs A B r\/w.heap.size<=r) w' [v] (show List (List Int×Int) from l)/\ ∀q,hG sizes s=σ q->l=q.1:=by
  intro Y W aq N aB aC X ah aD v w' l a8 ba bb;obtain⟨bc,bd⟩:=a8.of;have bh:=W.size;have z3:=ah.size;have e:hG sizes s=eS (dw sizes) N [] (((aZ (-av) av s).map (·.2)).map (ix n)):=by
   rw[J];cases I:aZ (-av) av s with
   |none=>rfl
   |some q=>
    obtain⟨bi,s1⟩:=q;have:=ay _ I;subst this;simp only;rw[if_neg (aq _ I),aB,j9];rfl
  rw[e];refine⟨fe.mk (((an.trans (W.V _)).trans ah).trans bc) bd,l,ou ba λr _ h=>?_,bb⟩;rcases h with h|h
  .have h:X.heap.size<=r:=h;exact .inr Ω
  .exact h.elim
 refine aP (λv Y=>Ext U Y/\v= .bool (decide (n<0/\(aZ (-av) av s).isSome=true))) ?_ ?_
 rotate_left
 .intro bj ax;refine (nB aL).mono ?_;rintro _ Y _ ⟨rfl,W⟩;cases I:aZ (-av) av s with
  |none=>
   rw[show ((ν:Option (Int×aG)).map (·.2)).isSome=false from rfl,aQ];exact ax _ _ ⟨W,by rw[decide_eq_false];rintro⟨_,h⟩;rw[I] at h;cases h⟩
  |some q=>
   rw[show ((σ q:Option (Int×aG)).map (·.2)).isSome=true from rfl,bO,ao];exact ax _ _ ⟨W,by congr 1;rw[V8,decide_eq_true_eq,decide_eq_true_eq,I];exact⟨λh=>⟨h,rfl⟩,λh=>h.1⟩⟩
 rintro _ Y ⟨W,rfl⟩;have ak:=aL.ext W;have bh:=W.size;rw[ad];refine⟨λaq=>?_,λbk=>?_⟩
 rotate_left
 .have aq:∀q,aZ (-av) av s=σ q->¬n<0:=λq I h=>bk ⟨h,by rw[I];rfl⟩;obtain⟨N,aB,aC⟩:∃N:Nat,n=(N:Int)/\(N:Int)<=av:=by
   cases I:aZ (-av) av s with
   |none=>rw[a7 I];exact⟨0,rfl,by unfold av;omega⟩
   |some q=>
    have h1:=aq q I;have bl:=li (n:=q.1) (s':=q.2) I;have bm:=ay q I;exact⟨n.toNat,Ω,Ω⟩
  refine HI (at_:=at_) ak (λt bn=>?_) λX ah aD=>?_
  .obtain⟨q,I,rfl⟩:=Y8.1 bn;have bl:=li (n:=q.1) (s':=q.2) I;have bm:=ay q I;refine⟨Ω,Ω,?_⟩;cases s with
   |none=>cases I
   |some s0=>
    have aN:=(dh (n:=q.1) (s':=q.2) I).eqs;have aO:=hi s0 rfl;intro aR;rw[aN.1];rw[aN.2.1] at aR;exact aO aR
  .have z3:=ah.size;have bo:af (bq g gs A) w X:=(an.trans (W.V _)).trans ah;subst aB;refine HN (N:=N) aD ((io (aM.ext W) ah λr ab a n c ap az=>(am r ⟨a,n,c,ap,az⟩).1 ab)) (λr ab=>⟨(am r ab).1,by have:=(am r ab).2;omega⟩) aW aX (aY.V bo h1.1) h1 aC λv w' l a b c=>?_;exact rest Y W aq N rfl aC X ah aD v w' l a b c
 .obtain⟨br,bt⟩:=aq;obtain⟨⟨bi,s1⟩,I⟩:=Option.isSome_iff_exists.1 bt;have:=ay _ I;subst this;have bH:=li I;rw[I] at J ak;simp only at J;rw[if_pos br] at J;have ak:cZ Y g gs A B s1 clean:=ak;obtain⟨_,aO,bI,big,bJ,bK,told,bL,aE,bM,aF⟩:=id ak;have bN:av=4611686018427387904:=rfl;refine aP (λv X=>Ext Y X/\v= .bool (decide (hG sizes s=ν))) ?_ ?_
  .rintro _ X ⟨ae,rfl⟩;rw[ad];refine⟨λbu=>?_,λaS=>?_⟩
   .refine (qT (ak.ext ae) Ω).mono ?_;rintro _ bQ _ ⟨bw,bx⟩;rw[bu];refine⟨fe.mk (((an.trans (W.V _)).trans (ae.V _)).trans (bw.mono λr _ h=>.inl h)) bx,[],fs,λq I=>by cases I⟩
   .cases au:s1.shared[(-n-1).toNat]? with
    |none=>rw[au] at J;exact absurd J aS
    |some q=>
     obtain⟨z,l⟩:=q;rw[au] at J;simp only at J;have bz:z=sizes:=by
      by_cases al:z=sizes
      .exact al
      .rw[if_neg al] at J;exact absurd J aS
     rw[if_pos bz] at J;rw[aw,aa b4.p rfl,ac Ψ ((aE.ext ae).cell (o:=0+6) rfl),ki,wrap_i64 Ω Ω,cX,wrap_i64 Ω Ω];refine jz (α:=hD) (m:=true) (S:=A) (R:=cn g gs A B) (i:=(-n-1).toNat) (a:=(z,l)) Ω gr.u ij.i (be aF ae) au λb o cs aH aJ=>?_;obtain⟨u,v,rfl,hu,ap⟩:=zl aJ;rw[aa ij.p rfl,ac Ψ (aH 1 v rfl)];rw[J];refine⟨fe.mk ((an.trans (W.V _)).trans (ae.V _)) (ak.ext ae),l,ou ap λr _ h=>?_,λq I=>by cases I;rfl⟩;rcases h with h|h
     .exact h.elim
     .exact .inl h
  .intro bj ax;rw[ki,wrap_i64 Ω Ω,aw,aa b4.p rfl,ac Ψ (aE.cell (o:=0+6) rfl),eK gr.u aF,bP,ad];refine⟨λaT=>ax _ _ ⟨Ext.refl _,?_⟩,λaU=>?_⟩
   .have aT:(s1.shared.length:Int)<0-n:=aT;rw[Y4 Ω] at J;rw[decide_eq_true J]
   .have aU:¬(s1.shared.length:Int)<0-n:=aU;have bA:(-n-1).toNat<s1.shared.length:=Ω
    obtain⟨⟨z,l⟩,au⟩:∃q,s1.shared[(-n-1).toNat]? =σ q:=⟨_,y0 bA⟩;rw[aw,aa b4.p rfl,ac Ψ (aE.cell (o:=0+6) rfl),ki,wrap_i64 Ω Ω,cX,wrap_i64 Ω Ω];refine jz (α:=hD) (m:=true) (S:=A) (R:=cn g gs A B) (i:=(-n-1).toNat) (a:=(z,l)) Ω gr.u ij.i aF au λb o cs aH aJ=>?_;obtain⟨u,v,rfl,hu,ap⟩:=zl aJ;rw[aa ij.p rfl,ac Ψ (aH 0 u rfl)];refine (Fg (dR hu) (aM.ext W)).mono ?_;rintro _ X _ ⟨rfl,ae⟩;rw[bg];refine ax _ _ ⟨ae,?_⟩;rw[au] at J;simp only at J;by_cases al:z=sizes
    .rw[if_pos al] at J;rw[decide_eq_true al,decide_eq_false (by rw[J];simp)];rfl
    .rw[if_neg al] at J;rw[decide_eq_false al,decide_eq_true J];rfl
abbrev nC (n:Nat):ai:=λr=>r<n
def o1 (n:Int) (k:Nat) (s:Option aG):Option (List Int×aG):=s.bind (eE n k)
theorem HP {g k:Nat} {A B:ai} {s:Option aG} {m:Int} (h:c3 w g gs A B clean s) (X:k<=4611686018427387904) (hm:0<=m/\m<=1000000):
  aj x3 wN [Γ g,Δ (k:Int),Δ m] w λv w'=>fe w g gs A B clean ((o1 m k s).map (·.2)) w'/\
   ∃Y l,aq .i64 an w' Y v l/\(∀r,leads v r->w.heap.size<=r)/\l.length<=100001/\ ∀q,o1 m k s=σ q->l=q.1:=by
 cases s with
 |some s=>exact GC (s:=s) h X hm
 |none=>
  have h:eb w g gs A B:=h;refine aA func199 ?_;refine⟨λout aa U=>w=U/\out= .slice ν 0 0/\aa=Δ 0,λ_ _ _=>0,⟨rfl,rfl,rfl⟩,?_⟩;rintro _ _ _ ⟨rfl,rfl,rfl⟩;refine aP (λv J=>Ext w J/\v= .bool false) ?_ ?_
  .rintro _ J ⟨I,rfl⟩;rw[aQ];exact⟨fe.mk (I.V _) (h.ext I),0,[],aq.nil _ _ _ _,λr ab=>absurd ab (λh=>by obtain⟨a,n,c,h,_⟩:=h;cases h),Ξ,λq ac=>by cases ac⟩
  .intro ae W;rw[ao,ad];refine⟨λ_=>?_,λ_=>W _ _ ⟨Ext.refl _,rfl⟩⟩;refine (md h).mono ?_;rintro _ J _ ⟨rfl,I⟩;exact W _ _ ⟨I,rfl⟩
def q9 (z:List Int) (l:List (List Int×Int)) (s:aG):aG:={s with shared:=s.shared++[(z,l)]}
def zm (w:x2) (g gs:Nat):Prop:=∃ (e big I J told:Int) (sv:x1),ae w g b4 (e2 gs e big I J told sv)/\e≠0
def gf (w:x2) (g gs:Nat) (A:ai) (B:ai) (clean:Bool) (s:Option aG):Prop:=match s with
 |some s=>cZ w g gs A B s clean
 |none=>zm w g gs
theorem c3.q {g:Nat} {A:ai} {B:ai} {s:Option aG} (h:c3 w g gs A B clean s):gf w g gs A B clean s:=by
 cases s with
 |some s=>exact h
 |none=>
  obtain⟨_,e,big,I,J,told,sv,l,U,V,_⟩:=h;exact⟨e,big,I,J,told,sv,U,V.1⟩
theorem gf.V {g:Nat} {A:ai} {B:ai} {s:Option aG} (h:gf w g gs A B clean s) (I:af S w w') (U:¬S g) (W:∀r,bq g gs A r->r<w.heap.size->¬S r) (X:∀r,cn g gs A B r->¬S r):gf w' g gs A B clean s:=by
 cases s with
 |some s=>
  have h:cZ w g gs A B s clean:=h;exact cZ.V h I (λr J=>W r J (h.1.2.2.2.1 r J)) X
 |none=>
  obtain⟨e,big,Y,aa,told,sv,ab,ac⟩:=h;exact⟨e,big,Y,aa,told,sv,ab.V I U,ac⟩
theorem gf.ext {g:Nat} {A:ai} {B:ai} {s:Option aG} (h:gf w g gs A B clean s) (I:Ext w w'):gf w' g gs A B clean s:=h.V (I.V λ_=>False) (λh=>h) (λ_ _ _ h=>h) (λ_ _ h=>h)
theorem zn {g:Nat} {A:ai} {B:ai} {s:Option aG} (h:gf w g gs A B clean s):aj x3 jt [Γ g] w λv w'=>v= .bool s.isSome/\Ext w w':=by
 cases s with
 |none=>
  obtain⟨e,big,W,X,told,sv,I,J⟩:=h;refine (tn I).mono ?_;rintro _ U _ ⟨rfl,V⟩;exact⟨by rw[decide_eq_false J];rfl,V⟩
 |some s=>exact nv h
theorem gx.a7 {g:Nat} {R R':Nat->Prop} {toks:List (List Int)} (h:gx w g R toks clean) (J:af S w w') (W:¬S g) (X:∀r,R r->¬S r) (Y:∀r,R r->R' r):gx w' g R' toks clean:=by
 obtain⟨aa,p,a,⟨h1,ab,ac,ad,ae,ag⟩,U,ah⟩:=h;exact⟨aa,p,a,⟨h1,ab,ac,ad.V J W,ae,bb ag J λr I=>X r (U r I)⟩,λr I=>Y r (U r I),ah⟩
theorem kz {α:Type} [ak α] {m:Bool} {S R:ai} {l:List α} (h:ak.rep m S R w [v] l):∃a n c,v= .slice a n c:=by
 obtain⟨vs,J,F,U,he,I,hm⟩:=fZ h;obtain⟨V,b,o,base,cap,rfl,_⟩:=I;exact⟨_,_,_,rfl⟩
def jI (w:x2) (g gs:Nat) (A:ai) (B:ai) (R:ai) (clean:Bool) (s:Option aG):Prop:=match s with
 |some s=>jE w g gs A B/\gx w gs R s.toks clean/\(0<=s.told/\s.told<=av/\s.shared.length+s.toks.length<=100000)/\
  ∃big I J told sv,ae w g b4 (e2 gs 0 big I J told sv)/\((s.big=true↔big≠0)/\(s.big=false->told=s.told))/\bf A R w [sv] (show List hD from s.shared)
 |none=>zm w g gs
theorem jI.V {g:Nat} {A R:ai} {B:ai} {s:Option aG} (h:jI w g gs A B R clean s) (I:af S w w') (Y:¬S g) (aa:∀r,bq g gs A r->r<w.heap.size->¬S r) (ab:∀r,R r->¬S r):jI w' g gs A B R clean s:=by
 cases s with
 |some s=>
  obtain⟨h1,ac,ad,big,J,U,told,sv,W,X,ae⟩:=h;have ag:=h1.2.2.2.1;exact⟨h1.V I,ac.V I (aa gs (.inr (.inl rfl)) (ag _ (.inr (.inl rfl)))) ab,ad,big,J,U,told,sv,W.V I Y,X,ak.V ae I λr ah h=>h.elim (λh=>aa r (.inr (.inr h)) ah) (ab r)⟩
 |none=>
  obtain⟨e,big,J,U,told,sv,W,X⟩:=h;exact⟨e,big,J,U,told,sv,W.V I Y,X⟩
theorem jI.out {g:Nat} {A R B I:ai} {s:Option aG} (h:jI w g gs A B R clean s) (J:∀r,R r->cn g gs A I r) (U:∀r,I r->r<w.heap.size):gf w g gs A I clean s:=by
 cases s with
 |some s=>
  obtain⟨⟨V,W,X,Y,an⟩,⟨aa,p,a,ab,ac,ad⟩,ae,big,af,ag,told,sv,ah,aj,al⟩:=h;exact⟨⟨V,W,X,Y,U⟩,⟨aa,p,a,ab,λr am=>J r (ac r am),ad⟩,ae,big,af,ag,told,sv,ah,aj,ak.mono al (λ_ _ h=>h) λr _ h=>J r h⟩
 |none=>exact h
theorem c3.qr {g:Nat} {A R:ai} {B:ai} {s:Option aG} (h:c3 w g gs A B clean s) (W:∀r,cn g gs A B r->R r):jI w g gs A B R clean s:=by
 cases s with
 |some s=>
  obtain⟨h1,⟨X,p,a,Y,aa,ab⟩,ac,big,I,J,told,sv,U,V,ad⟩:=h;exact⟨h1,⟨X,p,a,Y,λr ae=>W r (aa r ae),ab⟩,ac,big,I,J,told,sv,U,V,ak.mono ad (λ_ _ h=>h) λr _ h=>W r h⟩
 |none=>
  obtain⟨_,e,big,I,J,told,sv,l,U,V,_⟩:=h;exact⟨e,big,I,J,told,sv,U,V.1⟩
theorem HQ {g aq:Nat} {A B R:ai} {s:Option aG} {ay aV u:x1} {z:List Int} {l:List (List Int×Int)} {K:x2->Prop} (h:c3 w g gs A B clean s) (au:∀r,cn g gs A B r->R r) (aK:∀r,R r->cn g gs A (nC w.heap.size) r)
  (aL:∀t,s=σ t->t.shared.length+1+t.toks.length<=100000) (aM:ae w aq bX [ay,u,aV,v])
  (hu:ak.rep (α:=List Int) false bp R w [u] z) (aN:ak.rep (α:=List (List Int×Int)) false bp R w [v] l)
  (aW:∀w' X,af (bq g gs A) w w'->(∀r,X r->A r\/w.heap.size<=r)->jI w' g gs X (nC w.heap.size) R clean (s.map (q9 z l))->K w'):
  J x3 (aX (Γ g)) w λav=>
  J x3 (x7 b4 av 3) w λaA=>
  J x3 (x5 gr aA) w λaO=>
  J x3 (x7 bX (Γ aq) 1) w λt76=>
  J x3 (x5 ax t76) w λt77=>
  J x3 (x7 bX (Γ aq) 3) w λaY=>
  J x3 (x5 hr aY) w λaZ=>
  J x3 (Instr.build ij #[(0,t77),(1,aZ)]) w λa1=>
  az x3 (Z7 gr 1 #[(0,a1)]) w λa2 aj=>
   (Ext w aj\/bk x3 (x5 gr aA) aO aj/\bk x3 (x7 b4 av 3) aA aj/\bk x3 (aX (Γ g)) av aj/\True)/\
   az x3 (l7 #[gr,gr] gr #[aO,a2]) aj λa6 aB=>
    J x3 (aX (Γ g)) aB λa8=>
    J x3 (x7 b4 a8 3) aB λba=>
    az x3 (o4 gr ba a6) aB λ(_:Unit) bb=>K bb:=by
 obtain⟨bc,e,big,Y,ab,told,sv,am,ad,an,bu,bd⟩:jE w g gs A B/\ ∃e big Y ab told sv,∃am:List hD,ae w g b4 (e2 gs e big Y ab told sv)/\bf A R w [sv] am/\am.length<=100000/\
   ∀w' X ag,jE w' g gs X (nC w.heap.size)->af (λr=>A r\/r=g) w w'->ae w' g b4 (e2 gs e big Y ab told ag)->bf X R w' [ag] (am++[((z,l):hD)])->jI w' g gs X (nC w.heap.size) R clean (s.map (q9 z l)):=by
  cases s with
  |none=>
   obtain⟨h1,e,big,Y,ab,told,sv,l',aC,ao,aD⟩:=h;exact⟨h1,e,big,Y,ab,told,sv,l',aC,ak.mono aD (λ_ _ h=>h) λr _ h=>au r h,ao.2,λw' X ag I _ ad an=>⟨e,big,Y,ab,told,ag,ad,ao.1⟩⟩
  |some s=>
   obtain⟨h1,bg,aP,big,Y,ab,told,sv,aC,ao,aD⟩:=h;have aL:=aL s rfl;refine⟨h1,0,big,Y,ab,told,sv,s.shared,aC,ak.mono aD (λ_ _ h=>h) λr _ h=>au r h,(show s.shared.length<=100000 by omega),λw' X ag I bh ad an=>⟨I,?_,⟨aP.1,aP.2.1,?_⟩,big,Y,ab,told,ag,ad,ao,an⟩⟩
   .exact gx.a7 bg bh (λhe=>he.elim h1.2.2.1 λh=>h1.1 h.symm) (λr W he=>he.elim (λh=>W.1 (.inr (.inr h))) λh=>W.1 (.inl h)) au
   .show (s.shared++[(z,l)]).length+s.toks.length<=100000;simp;omega
 obtain⟨bi,aE,bl,aQ,bw⟩:=id bc;rw[aw,aa b4.p rfl,ac Ψ (ad.cell (o:=0+6) rfl),aa bX.p rfl,ac Ψ (aM.cell (o:=0+1) rfl),aa bX.p rfl,ac Ψ (aM.cell (o:=0+3) rfl)];rw[cR (cs:=#[u,v]) (by obtain⟨_,_,_,rfl⟩:=kz hu;obtain⟨_,_,_,rfl⟩:=kz aN;kernel_rfl)];have aR:bf (λ_=>False) R w [u,v] ((z,l):hD):=⟨[u],[v],bp,bp,rfl,λ_ h=>h,λ_ h=>h,λ_ _ h _=>h,hu,aN⟩;refine gK (α:=hD) (a:=(z,l)) (cs:=[u,v]) (A:=λ_=>False) (R:=R) gr.u ij.i Φ rfl aR λx U ah _ bm=>?_;have bx:=ah.size;refine⟨.inl ah,?_⟩;refine lY (α:=hD) (a:=(z,l)) (A:=λ_=>False) (R:=R) gr.u ij.i rfl (be an ah) bm (be aR ah) (λr _ bn al=>?_) Ω Ω λaS bo aF aI=>?_
 .rcases al with al|al
  .exact al
  .exact (aK r al).1 (.inr (.inr bn))
 have bz:=aI.size;have br:=(ad.ext ah).V aI aE;rw[aw,aa b4.p rfl];refine bj (g:=g) (o:=6) gr.i (jy aF) (ga aF) br (by simp[e2]) λap aT bA aJ=>?_;have aJ:ae ap g b4 (e2 gs e big Y ab told aS):=aJ;have aU:af (λr=>A r\/r=g) w ap:=((ah.V _).trans (aI.mono λr _ h=>.inl h)).trans (aT.mono λr _ h=>.inr h);let X:ai:=λr=>(A r\/w.heap.size<=r)/\r<bo.heap.size;have bB:g<w.heap.size:=aQ g (.inl rfl);have bC:gs<w.heap.size:=aQ gs (.inr (.inl rfl));have bt:=ak.mono (S':=X) (R':=R) aF (λr W h=>⟨h.elim .inl λh=>h.elim False.elim λh=>.inr Ω,W⟩) (λr W h=>h);refine aW ap X (aU.mono λr _ h=>h.elim (λh=>.inr (.inr h)) .inl) (λr W=>W.1) (bd ap X aS ⟨bi,λh=>h.1.elim aE λh=>Ω,λh=>h.1.elim bl λh=>Ω,λr W=>?_,?_⟩ aU aJ (ak.V bt aT λr W aH he=>?_))
 .rcases W with rfl|rfl|W
  .omega
  .omega
  .have:=W.2;omega
 .intro r W;have W:r<w.heap.size:=W;omega
 .have he:r=g:=he;subst he;rcases aH with aH|aH
  .exact aH.1.elim aE λh=>Ω
  .exact (aK _ aH).1 (.inl rfl)
theorem HR {I:Nat} {ay aj:x1} {aF:x2->Prop} (aG:ae w I bX [ay,.slice ν 0 0,Δ 0,.slice ν 0 0]) (aH:aI .i64 w ay scope) (aS:∀r,leads ay r->r≠I)
  (aT:aI .i64 w aj all) (aV:∀r,leads aj r->r≠I) (aW:∀v∈scope,0<=v/\v<all.length) (bl:scope.length<=100001)
  (aX:∀w' au W,af (λr=>r=I) w w'->ae w' I bX [ay,au,Δ 0,.slice ν 0 0]->aq .i64 an w' W au (scope.map λv=>all.getD v.toNat 0)->w.heap.size<=W->aF w'):
 bZ (Δ 0) w λav ah k=>
  J x3 (aB .lss ab false false av (Δ (scope.length:Int))) ah λaY=>
  Split aY (J x3 (n0 ax ay av) ah λaZ=>
  J x3 (x5 an aZ) ah λa1=>
  cj ah λX=>
  J x3 (x7 bX (Γ I) 1) X λt39=>
  J x3 (x5 ax t39) X λaJ=>
  J x3 (n0 ax aj a1) X λa2=>
  J x3 (x5 an a2) X λa6=>
  az x3 (Z7 ax 1 #[(0,a6)]) X λt45 ak=>
   (Ext X ak\/bk x3 (x5 ax t39) aJ ak/\bk x3 (x7 bX (Γ I) 1) t39 ak/\True)/\
  az x3 (l7 #[ax,ax] ax #[aJ,t45]) ak λt46 aK=>
   J x3 (x7 bX (Γ I) 1) aK λa7=>
   az x3 (o4 ax a7 t46) aK λ(_:Unit) aL=>
    J x3 (aB .add ab false true av (Δ 1)) aL λa8=>
  k a8 aL) (aF ah):=by
 have bm:=aG.lt;refine bZ.range scope.length (λi U=>af (λr=>r=I) w U/\ ∃au W,ae U I bX [ay,au,Δ 0,.slice ν 0 0]/\aq .i64 an U W au ((scope.take i).map λv=>all.getD v.toNat 0)/\w.heap.size<=W) aH.le ⟨af.refl _ _,_,w.heap.size,aG,aq.nil _ _ _ _,o8 _⟩ ?_ ?_
 rotate_left
 .rintro U ba ⟨Y,au,W,al,am,aM⟩;rw[o9] at am;rw[ao,ad];exact⟨λh=>Ω,λ_=>aX U au W Y al am aM⟩
 rintro i U ba hi ⟨Y,au,W,al,am,aM⟩ bb;obtain⟨v,aw⟩:∃v,scope[i]? =σ v:=⟨_,y0 hi⟩;have bn:=aW v (x6 aw);have bd:all[v.toNat]? =σ (all.getD v.toNat 0):=by
  rw[u4,y0 Ω];rfl
 have be:aI .i64 U ay scope:=io aH Y λr ap a n c aA aC=>aS r ⟨a,n,c,aA,aC⟩ ap;have bf:aI .i64 U aj all:=io aT Y λr ap a n c aA aC=>aV r ⟨a,n,c,aA,aC⟩ ap;rw[ao,ad];refine⟨λ_=>?_,λh=>Ω⟩;rw[bc ax.u an.i Ψ be aw];intro bo ag _ _;have bp:=Y.size;have bq:=ag.size;rw[aa bX.p rfl,ac Ψ ((al.ext ag).cell (o:=0+1) rfl)];rw[dZ (y:=v) (i:=v.toNat) Ω ax.u an.i Ψ (bf.ext ag) bd];refine dJ ax.u an.i rfl λa aU br bt ai bg=>?_;refine⟨.inl ai,?_⟩;have z3:=ai.size;refine hy ax.u an.i rfl ((am.ext ag).ext ai) bg.ls Θ Θ λaO aP bu bw aD aQ=>?_;rw[aa bX.p rfl];have bh:=((al.ext ag).ext ai).V aQ (λhe=>by have he:I=W:=he;omega);refine bj (g:=I) (o:=1) ax.i aD.ls.cells.1 aD.ls.cells.2 bh Ξ λbi aR bx aE=>?_;have aE:ae bi I bX [ay,aO,Δ 0,.slice ν 0 0]:=aE;rw[aN];refine bb _ ⟨(gb (Y.trans ((ag.trans ai).V _)) aQ λr ap he=>by have he:r=W:=he;omega).trans aR,aO,aP,aE,?_,Ω⟩;rw[r9,aw,Z9,Z4];exact aD.V aR (λ_ he=>by have he:aP=I:=he;omega)
abbrev gB:Type:=Rd (List Int)×Rd (List Int)×Int×Rd (List (List Int×Int))
def gg (f:cd):gB:=(f.scope,f.sizes,f.other,f.lines)
theorem zo {R:ai} {ay au bV:x1} {sc:List Int} {l:List (List Int×Int)} (h1:ak.rep (α:=List Int) false bp R w [ay] sc) (J:ak.rep (α:=List Int) false bp R w [au] I) (U:ak.rep (α:=List (List Int×Int)) false bp R w [bV] l):
  Seen R w [ay,au,Δ o,bV] ((sc,I,o,l):gB):=
 ⟨[ay],[au,Δ o,bV],bp,bp,rfl,λ_ h=>h,λ_ h=>h,λ_ _ h _=>h,h1,[au],[Δ o,bV],bp,bp,rfl,λ_ h=>h,λ_ h=>h,λ_ _ h _=>h,J,[Δ o],[bV],bp,bp,rfl,λ_ h=>h,λ_ h=>h,λ_ _ h _=>h,rfl,U⟩
theorem kA {R:ai} {g:Nat} (h:aq .i64 e w g v l) (W:∀r,leads v r->R r):ak.rep (α:=List Int) false bp R w [v] l:=by
 have h1:bf (λr=>r=g) bp w [v] l:=lZ h;obtain⟨vs,X,F,af,he,I,hm⟩:=fZ h1;refine⟨v,rfl,vs,X,λ_ _=>False,⟨λ_ _ h=>h,λh=>(by cases h),λh=>by cases h⟩,⟨he.1,λi c a Y aa=>?_⟩,?_,λh=>by cases h⟩
 .exact he.2 i c a Y aa
 .obtain⟨J,b,o,base,cap,rfl,ab,ac,U,ag,ad⟩:=I;refine⟨J,b,o,base,cap,rfl,ab,ac,U,λV=>.inr (W b ?_),ad⟩;have ae:0<l.length:=by
   rw[J] at V;rcases Nat.eq_zero_or_pos l.length with h|h
   .rw[h,Nat.zero_mul] at V;omega
   .exact h
  exact⟨⟨b,o,ν⟩,l.length,cap,by rw[U ae],rfl⟩
theorem zp {α:Type} [ak α] {R R':ai} {a:α} (h:Seen R w cs a) (I:∀r,r<w.heap.size->R r->R' r):Seen R' w cs a:=ak.mono h (λ_ _ h=>h) I
theorem zq {V I:Nat} (U:cs.length=4) (h1:∀v∈cs,v.oneCell'=true) (Y:ae w V bX cs) {W:List x1} (aa:W.length=4) (ab:ae w I bX W)
  (ac:∀w',af (λr=>r=I) w w'->K (.agg cs.toArray) w'):
  J x3 (x5 bX (Γ V)) w λad=>
  az x3 (o4 bX (Γ I) ad) w λ(_:Unit) X=>
  J x3 (do loadVar bX (<-asAddr (Γ I))) X λag=>K ag X:=by
 rw[bn bX.p bX.i U Y.range];refine bJ bX.i U aa h1 ab λw' ah _ ai=>?_;rw[eJ bX.p bX.i U ai.range];exact ac w' ah
theorem zr {s s':aG} {l:List (List Int×Int)} (h:dx sizes s=σ (l,s')):s'.shared=s.shared/\s'.toks.length<=s.toks.length:=by
 unfold dx at h;cases J:ba (-av) av s with
 |none=>rw[J] at h;cases h
 |some q=>
  obtain⟨n,s1⟩:=q;rw[J] at h;simp only at h;have h1:=dh J;obtain⟨X,Y,U⟩:=h1.eqs;split at h
  .cases I:s1.shared[(-n-1).toNat]? with
   |none=>rw[I] at h;cases h
   |some q=>
    obtain⟨z,l'⟩:=q;rw[I] at h;simp only at h;split at h
    .simp only[Y6,T6] at h;obtain⟨rfl,rfl⟩:=h;exact⟨U,by have:=h1.1;omega⟩
    .cases h
  .have:=iX (f:=dw sizes) (λacc t=>t.shared=s.shared/\t.toks.length<=s.toks.length) (λacc t a aa ⟨W,ab⟩ g=>by
    obtain⟨ac,ad,ae,V⟩:=nt g;obtain⟨f1,f2,f3⟩:=V.eqs;exact⟨by rw[f3,W],by have:=V.1;omega⟩) n.toNat [] (a1 (decide (16384<min (s1.told+n) av)) {s1 with told:=min (s1.told+n) av}) l s' ⟨U,by have:=h1.1;show s1.toks.length<=_;omega⟩ h
   exact this.1
theorem HS {g:Nat} {A B:ai} {s:aG} {a6:x1} (h:cZ w g gs A B s clean) (hi:dy s) (b9:aI .i64 w a6 all) (bG:∀r,leads a6 r->¬bq g gs A r/\r<w.heap.size)
  (cK:∀z∈all,1<=z/\z<=av) (dN:all.length<=100001) (cL:eM w) (h1:cn g gs A B 1):
  aj x3 wJ [Γ g,a6] w λv w'=>∃am aH cs,∃ca:gB,v= .agg cs.toArray/\cs.length=4/\af (bq g gs A) w w'/\(∀r,am r->A r\/w.heap.size<=r)/\(∀r,aH r->(B r\/w.heap.size<=r)/\r<w'.heap.size)/\(∀r,B r->aH r)/\gf w' g gs am aH clean ((cS all s).map (·.2))/\
   Seen (cn g gs am aH) w' cs ca/\ ∀q,cS all s=σ q->ca=gg q.1:=by
 have cM:=h.1;obtain⟨dO,dP,bI,cN,aJ⟩:=id cM;have ag:∀r,bq g gs A r->r<w.heap.size:=cN;have dQ:av=4611686018427387904:=rfl;have dR:s.shared.length+s.toks.length<=100000:=h.2.2.1.2.2;refine aA func151 ?_;refine bt bX.i λX U dS bK bk=>?_;have bk:ae U X bX [.slice ν 0 0,.slice ν 0 0,Δ 0,.slice ν 0 0]:=bk;have dT:=bK.size;have dU:=bk.lt;have az:¬bq g gs A X:=λW=>by have:=ag _ W;omega
 refine (tp (lo:=-av) (hi:=av) (h.ext bK)).mono ?_;rintro _ bL _ ⟨aL,a,at_,rfl,cb,cO⟩;obtain⟨bM,bN⟩:=aL.of;have dV:=bM.size;rw[aK (v:=Δ a) rfl,aK (v:=Δ at_) rfl,ao,ki];have dW: -av<=a/\a<=av:=by
  cases Y:ba (-av) av s with
  |none=>rw[cO Y];unfold av;omega
  |some q=>rw[cb q Y];exact (gN (n:=q.1) (s':=q.2) Y).1
 rw[wrap_i64 Ω Ω,qy,show max a (0-a)=((a.natAbs:Nat):Int) by omega];have cc:af (bq g gs A) w bL:=(bK.V _).trans bM;have cP:aI .i64 bL a6 all:=io b9 cc λr I a n c ah bO=>(bG r ⟨a,n,c,ah,bO⟩).1 I;rw[aS ax.u cP];refine (HP (k:=a.natAbs) (m:=(all.length:Int)) bN Ω Ω).mono ?_;rintro ay dX _ ⟨aL,bQ,scope,a7,cQ,dY,cT⟩;obtain⟨bR,cU⟩:=aL.of;have z3:=bR.size;rw[cR (cs:=#[ay,.slice ν 0 0,Δ 0,.slice ν 0 0]) (by obtain⟨_,_,_,_,_,rfl,_⟩:=a7.ls;kernel_rfl)];refine bt bX.i λJ cV dZ a8 bl=>?_;have bl:ae cV J bX [.slice ν 0 0,.slice ν 0 0,Δ 0,.slice ν 0 0]:=bl;have z4:=a8.size;have ea:=bl.lt;have bS:=a7.ls.cells;refine bJ (vs:=[ay,.slice ν 0 0,Δ 0,.slice ν 0 0]) bX.i rfl rfl (by intro v ah;simp at ah;rcases ah with rfl|rfl|rfl|rfl <;> first|exact bS.2|rfl) bl λbm bc eb cW=>?_;have aT:¬bq g gs A J:=λW=>by have:=ag _ W;omega
 have ce:c3 bm g gs A B clean ((o1 all.length a.natAbs ((ba (-av) av s).map (·.2))).map (·.2)):=(cU.ext a8).V bc (λr I he=>by have he:r=J:=he;exact aT (he▸I)) (λr I he=>by have:=aJ r I.2;have he:r=J:=he;omega);have cg:af (bq g gs A) w bm:=gb ((cc.trans bR).trans (a8.V _)) bc λr I he=>by have he:r=J:=he;omega
 have cX:ae bm X bX [.slice ν 0 0,.slice ν 0 0,Δ 0,.slice ν 0 0]:=(((bk.V bM az).V bR az).ext a8).V bc (λhe=>by have he:X=J:=he;omega);have cY:aq .i64 an bm bQ ay scope:=bb (a7.ext a8) bc λr I he=>by
  obtain⟨c0,bN⟩:=bA a7 I;have he:r=J:=he;omega
 refine (nB ce).mono ?_;rintro _ bn _ ⟨rfl,aM⟩;have aU:=ce.ext aM;have bd:=cY.ext aM;have bT:=cW.ext aM;have ch:=cX.ext aM;have ec:=aM.size;have z5:=bc.size;have aE:∀r,leads ay r->bL.heap.size<=r/\r≠J/\r≠X:=λr I=>by
  obtain⟨c0,bN⟩:=bA a7 I;have:=cQ r I;exact⟨this,Ω,Ω⟩
 have aw:cS all s=match o1 all.length a.natAbs ((ba (-av) av s).map (·.2)) with
   |none=>ν
   |some (sc,al)=>(hG (sc.map λv=>all.getD v.toNat 0) ((aZ 0 av (σ (a1 (decide (6<a.natAbs)||c6 (sc.map λv=>all.getD v.toNat 0)) al))).map (·.2))).map λq=>((⟨sc,sc.map λv=>all.getD v.toNat 0,((ba 0 av (a1 (decide (6<a.natAbs)||c6 (sc.map λv=>all.getD v.toNat 0)) al)).map (·.1)).getD 0,q.1⟩:cd),if a<0 then q9 (sc.map λv=>all.getD v.toNat 0) q.1 q.2 else q.2):=by
  unfold cS;cases Y:ba (-av) av s with
  |none=>rfl
  |some q=>
   obtain⟨a',s1⟩:=q;have:=cb _ Y;subst this;simp only;show _=match eE all.length a.natAbs s1 with
    |none=>ν
    |some (sc,al)=>_
   cases eE all.length a.natAbs s1 with
   |none=>rfl
   |some q=>
    obtain⟨sc,al⟩:=q;simp only;show _=V7 _ (hG _ ((ba 0 av _).map (·.2)));cases ba 0 av (a1 (decide (6<a.natAbs)||c6 (sc.map λv=>all.getD v.toNat 0)) al) with
    |none=>rfl
    |some q=>
     obtain⟨o,ab⟩:=q;simp only;show _=V7 _ (dx _ ab);cases dx (sc.map λv=>all.getD v.toNat 0) ab with
     |none=>rfl
     |some q=>rfl
 rw[bg,bH];cases aN:o1 all.length a.natAbs ((ba (-av) av s).map (·.2)) with
 |none=>
  rw[aN] at aU aw;simp only at aw;refine⟨λ_=>?_,λh=>by simp at h⟩;refine zq rfl (by intro v ah;simp at ah;rcases ah with rfl|rfl|rfl|rfl <;> first|exact bS.2|rfl) bT rfl ch λaO aB=>?_;have c1:=aB.size;refine⟨A,λr=>(B r\/w.heap.size<=r)/\r<aO.heap.size,_,(scope,[],0,[]),rfl,rfl,gb (cg.trans (aM.V _)) aB λr I he=>by have he:r=X:=he;omega,λr I=>.inl I,λr I=>I,λr I=>⟨.inl I,by have:=aJ r I;omega⟩,?_,?_,λq Y=>by rw[aw] at Y;cases Y⟩
  .rw[aw];have c2:gf aO g gs A B clean (V7 (λx=>x.2) (ν:Option (List Int×aG))):=aU.q.V aB (λhe=>by have:=ag g (.inl rfl);have he:g=X:=he;omega) (λr I _ he=>by have he:r=X:=he;exact az (he▸I)) (λr I he=>by have:=aJ r I.2;have he:r=X:=he;omega);exact c2
  .refine zo (kA (bb bd aB λr I he=>(aE r I).2.2 he) λr I=>?_) fs fs;have aC:=aE r I;have aV:=(bA bd I);exact⟨λW=>by have:=ag _ W;omega,.inr Ω,Ω⟩
 |some q=>
  obtain⟨sc,al⟩:=q;have:=cT _ aN;subst this;rw[aN] at aU aw;simp only at aw;refine⟨λh=>by simp at h,λ_=>?_⟩;have aU:cZ bn g gs A B al clean:=aU;obtain⟨s1,c4,c5⟩:∃s1,(ba (-av) av s).map (·.2)=σ s1/\eE all.length a.natAbs s1=σ (scope,al):=by
   cases Y:(ba (-av) av s).map (·.2) with
   |none=>rw[Y] at aN;cases aN
   |some s1=>rw[Y] at aN;exact⟨s1,rfl,aN⟩
  obtain⟨ci,c7,rfl⟩:=Y8.1 c4;have cj:=dh (n:=ci.1) (s':=ci.2) c7;obtain⟨ck,ed,ee,cl⟩:=tl c5;have bU:=cj.eqs;have bW:=ck.eqs;have c8:dy al:=λaF=>by rw[bW.1,bU.1];rw[bW.2.1,bU.2.1] at aF;exact hi aF
  have c9:al.shared.length+1+al.toks.length<=100000:=by rw[bW.2.2,bU.2.2];have:=cj.1;have:=ck.1;omega
  generalize bY:(scope.map λv=>all.getD v.toNat 0)=sizes at aw;have cm:∀z∈sizes,1<=z/\z<=av:=λz bo=>by
   rw[<-bY] at bo;obtain⟨v,ah,rfl⟩:=Z5.1 bo;have:=cl v ah;refine cK _ ?_;rw[u4,y0 Ω];exact R2 _
  have ef:sizes.length=scope.length:=by rw[<-bY,u5]
  have cp:af (bq g gs A) w bn:=cg.trans (aM.V _);have da:aI .i64 bn a6 all:=io b9 cp λr I a n c ah bO=>(bG r ⟨a,n,c,ah,bO⟩).1 I;rw[aa bX.p rfl,ac Ψ (bT.cell (o:=0+0) rfl),aS ax.u bd.ls];refine HR bT bd.ls (λr I=>(aE r I).2.1) da (λr I=>by have:=(bG r I).2;omega) cl Ω λaO au cq aB cr br eg=>?_;rw[bY] at br;have c1:=aB.size;have bZ:∀r,cn g gs A B r->¬(λr=>r=J) r:=λr I he=>by have:=aJ r I.2;have he:r=J:=he;omega
  have b0:∀r,bq g gs A r->¬(λr=>r=J) r:=λr I he=>by have he:r=J:=he;exact aT (he▸I)
  have ct:=aU.V aB b0 bZ;have db:af (bq g gs A) w aO:=gb cp aB λr I he=>by have he:r=J:=he;omega
  refine dt (λbu=>af (bq g gs A) aO bu/\cZ bu g gs A B (a1 (decide (6<a.natAbs)||c6 sizes) al) clean) ?_ ?_
  rotate_left
  .intro dc bf;rw[bP,ad];refine⟨λeh=>?_,λei=>?_⟩
   .refine (qU ct).mono ?_;rintro _ dd _ ⟨de,df⟩;refine bf _ ⟨de.mono λr _ h=>.inl h,?_⟩;rw[decide_eq_true Ω,Bool.true_or];exact df
   .rw[aa bX.p rfl,ac Ψ (cr.cell (o:=0+1) rfl)];refine (yC br.ls λz bo=>(cm z bo).1).mono ?_;rintro _ dd _ ⟨rfl,cu⟩;refine (qU (ct.ext cu)).mono ?_;rintro _ ej _ ⟨dg,di⟩;refine bf _ ⟨(cu.V _).trans (dg.mono λr _ h=>.inl h),?_⟩;rw[decide_eq_false Ω,Bool.false_or];exact di
  rintro bu ⟨bw,bx⟩;have ek:=bw.size;generalize bI:a1 (decide (6<a.natAbs)||c6 sizes) al=ab at aw bx;have dj:dy ab:=λaF=>by
   subst bI;have aF:(al.big||_)=false:=aF;exact c8 (S0.1 aF).1
  have em:ab.shared.length+1+ab.toks.length<=100000:=by subst bI;exact c9
  have bx:c3 bu g gs A B clean (σ ab):=bx;refine (ky (lo:=0) (hi:=av) bx).mono ?_;rintro _ cw _ ⟨aL,o,dk,rfl,dl,en⟩;obtain⟨bz,dm⟩:=aL.of;have eo:=bz.size;rw[aK (v:=Δ o) rfl,aK (v:=Δ dk) rfl,aa bX.p rfl];have dn:=(cr.V bw aT).V bz aT;refine bj (g:=J) (o:=2) an.i rfl rfl dn Ξ λbB aW ep bC=>?_;have bC:ae bB J bX [ay,au,Δ o,.slice ν 0 0]:=bC;rw[aa bX.p rfl,ac Ψ (bC.cell (o:=0+1) rfl)];have dp:=dm.V aW b0 bZ;have b1:af (bq g gs A) aO cw:=bw.trans bz;have dq:af (bq g gs A) w cw:=db.trans b1;have cz:af (bq g gs A) w bB:=gb dq aW λr I he=>by have he:r=J:=he;omega
  have aP:∀r,leads au r->bn.heap.size<=r/\r<aO.heap.size:=λr I=>by have:=bA br I;omega
  have cA:aq .i64 an bB cq au sizes:=bb (bb br b1 λr I W=>by have:=ag _ W;have:=aP r I;omega) aW λr I he=>by have he:r=J:=he;have:=aP r I;omega
  have dr:aq .i64 an bB bQ ay scope:=bb (bb (bb bd aB λr I he=>(aE r I).2.1 he) b1 λr I W=>by have:=ag _ W;have:=aE r I;omega) aW λr I he=>(aE r I).2.1 he;have er:=aW.size;refine (HO dp (λt b2=>?_) cA.ls (λr I=>⟨λW=>by have:=ag _ W;have:=aP r I;omega,by have:=aP r I;omega⟩) cm Ω (cL.V cz h1.1) h1).mono ?_
  .obtain⟨q,Y,rfl⟩:=Y8.1 b2;have cB:=(dh (n:=q.1) (s':=q.2) Y).eqs;intro aF;rw[cB.1];rw[cB.2.1] at aF;exact dj aF
  rintro bV ds _ ⟨aL,l,b3,cC⟩;obtain⟨aX,du⟩:=aL.of;have es:=aX.size;have b4:bV.cells= #[bV]/\bV.oneCell'=true:=⟨jy b3,ga b3⟩;rw[aa bX.p rfl];have dv:=bC.V aX aT;refine bj (g:=J) (o:=3) hr.i b4.1 b4.2 dv Ξ λap aQ et bD=>?_;have bD:ae ap J bX [ay,au,Δ o,bV]:=bD;have eu:=aQ.size;have cD:=du.V aQ b0 bZ;have dw:af (bq g gs A) w ds:=cz.trans aX;have dz:af (bq g gs A) w ap:=gb dw aQ λr I he=>by have he:r=J:=he;omega
  have cE:aq .i64 an ap bQ ay scope:=bb (bb dr aX λr I W=>by have:=ag _ W;have:=aE r I;omega) aQ λr I he=>(aE r I).2.1 he;have bE:aq .i64 an ap cq au sizes:=bb (bb cA aX λr I W=>by have:=ag _ W;have:=aP r I;omega) aQ λr I he=>by have he:r=J:=he;have:=aP r I;omega
  have dA:ae ap X bX [.slice ν 0 0,.slice ν 0 0,Δ 0,.slice ν 0 0]:=((((((ch.V aB (λhe=>by have he:X=J:=he;omega)).V bw az).V bz az).V aW (λhe=>by have he:X=J:=he;omega)).V aX az).V aQ (λhe=>by have he:X=J:=he;omega));let aD:ai:=λr=>(B r\/w.heap.size<=r)/\r<ap.heap.size;have cF:ak.rep (α:=List (List Int×Int)) false bp (λr=>cn g gs A aD r/\r≠J/\r≠X) ap [bV] l:=by
   refine zp (ak.V b3 aQ λr I h he=>?_) λr I h=>?_
   .have he:r=J:=he;rcases h with h|h
    .exact h
    .rcases h with h|h
     .have:=aJ r h.2;omega
     .omega
   .rcases h with h|h
    .have:=aJ r h.2;exact⟨⟨h.1,.inl h.2,I⟩,Ω,Ω⟩
    .exact⟨⟨λW=>by have:=ag _ W;omega,.inr Ω,I⟩,Ω,Ω⟩
  have dC:∀r,leads ay r->cn g gs A aD r/\r≠J/\r≠X:=λr I=>by
   have aC:=aE r I;have aV:=(bA cE I);exact⟨⟨λW=>by have:=ag _ W;omega,.inr Ω,Ω⟩,aC.2⟩
  have cG:∀r,leads au r->cn g gs A aD r/\r≠J/\r≠X:=λr I=>by
   have aC:=aP r I;have aV:=(bA bE I);exact⟨⟨λW=>by have:=ag _ W;omega,.inr Ω,Ω⟩,Ω,Ω⟩
  have dD:Seen (λr=>cn g gs A aD r/\r≠J/\r≠X) ap [ay,au,Δ o,bV] ((scope,sizes,o,l):gB):=zo (kA cE dC) (kA bE cG) cF;have dE:∀q,cS all s=σ q->((scope,sizes,o,l):gB)=gg q.1:=λq Y=>by
   rw[aw] at Y;obtain⟨ev,b5,rfl⟩:=Y8.1 Y;have aC:=cC _ b5;cases aY:ba 0 av ab with
   |none=>have e:aZ 0 av (σ ab)=ν:=aY;rw[e] at b5;cases b5
   |some aR=>
    have aV:=dl aR aY;rw[aC,aV];rfl
  have dF:∀v∈[ay,au,V2 .i64 o,bV],v.oneCell'=true:=by
   intro v ah;simp at ah;rcases ah with rfl|rfl|rfl|rfl
   .exact bS.2
   .exact bE.ls.cells.2
   .rfl
   .exact b4.2
  have cH:∀r,cn g gs A B r->cn g gs A aD r/\r≠J/\r≠X:=λr I=>by
   have:=aJ r I.2;exact⟨⟨I.1,.inl I.2,Ω⟩,Ω,Ω⟩
  refine dt (λb6=>∃am,af (bq g gs A) ap b6/\(∀r,am r->A r\/ap.heap.size<=r)/\ ∃aH,jI b6 g gs am aH (λr=>cn g gs A aD r/\r≠J/\r≠X) clean ((cS all s).map (·.2))) ?_ ?_
  .rintro b6 ⟨am,bh,bi,aH,dG⟩;have ew:=bh.size;refine zq rfl dF (bD.V bh aT) rfl (dA.V bh az) λb7 bF=>?_;have ey:=bF.size;have cI:∀r,bq g gs am r->¬(λr=>r=X) r:=λr I he=>by
    have he:r=X:=he;subst he;rcases I with I|I|I
    .exact az (.inl I)
    .exact az (.inr (.inl I))
    .rcases bi _ I with I|I
     .exact az (.inr (.inr I))
     .omega
   have cJ:∀r,(cn g gs A aD r/\r≠J/\r≠X)->cn g gs am (λr=>(B r\/w.heap.size<=r)/\r<b7.heap.size/\(r<ap.heap.size\/B r)) r:=λr h=>⟨λW=>h.1.1 (W.imp id (Or.imp id λW=>(bi r W).elim id λh'=>by have:=h.1.2.2;omega)),h.1.2.1,by have:=h.1.2.2;omega,.inl h.1.2.2⟩;have dH:jI b7 g gs am aH (λr=>cn g gs A aD r/\r≠J/\r≠X) clean ((cS all s).map (·.2)):=dG.V bF (cI g (.inl rfl)) (λr I _=>cI r I) (λr I=>I.2.2);refine⟨am,λr=>(B r\/w.heap.size<=r)/\r<b7.heap.size/\(r<ap.heap.size\/B r),_,(scope,sizes,o,l),rfl,rfl,gb (dz.trans bh) bF λr I he=>by have he:r=X:=he;omega,λr I=>(bi r I).imp id λh=>Ω,λr I=>⟨I.1,I.2.1⟩,λr I=>⟨.inl I,by have:=aJ r I;omega,.inr I⟩,dH.out cJ λr I=>I.2.1,?_,dE⟩;refine zp (ak.V (ak.V dD bh λr _ h W=>?_) bF λr _ h he=>?_) λr _ h=>cJ r h
   .rcases h with h|h
    .exact h
    .exact h.1.1 W
   .rcases h with h|h
    .exact h
    .exact h.2.2 he
  .intro dc bf;rw[ad];refine⟨λdI=>?_,λdJ=>?_⟩
   .intro b8 a2 _ _;have ez:=a2.size;have dK:∀r,(cn g gs A aD r/\r≠J/\r≠X)->cn g gs A (nC b8.heap.size) r:=λr h=>⟨h.1.1,by have:=h.1.2.2;show r<b8.heap.size;omega⟩;refine HQ (R:=λr=>cn g gs A aD r/\r≠J/\r≠X) (z:=sizes) (l:=l) (cD.ext a2) cH dK (λt b2=>?_) (bD.ext a2) (kA (bE.ext a2) cG) (be cF a2) λeA am dL bi dM=>?_
    .obtain⟨q,Y,rfl⟩:=Y8.1 b2;cases aY:ba 0 av ab with
     |none=>have e:aZ 0 av (σ ab)=ν:=aY;rw[e] at Y;cases Y
     |some aR=>
      have e:aZ 0 av (σ ab)=σ aR:=aY;rw[e] at Y;have h1:q.2.shared=aR.2.shared/\q.2.toks.length<=aR.2.toks.length:=zr (l:=q.1) (s':=q.2) Y;have aC:=dh (n:=aR.1) (s':=aR.2) aY;have aV:=aC.eqs.2.2;have eB:=aC.1;rw[h1.1,aV];have:=h1.2;omega
    .refine bf _ ⟨am,(a2.V _).trans dL,λr I=>(bi r I).imp id λh=>Ω,nC b8.heap.size,?_⟩;have e:(cS all s).map (·.2)=((hG sizes ((aZ 0 av (σ ab)).map (·.2))).map (·.2)).map (q9 sizes l):=by
      rw[aw];cases Y:hG sizes ((aZ 0 av (σ ab)).map (·.2)) with
      |none=>rfl
      |some q=>
       have aC:=cC _ Y;simp only[Y0,if_pos dI,aC]
     rw[e];exact dM
   .refine bf _ ⟨A,af.refl _ _,λr I=>.inl I,B,?_⟩;have e:(cS all s).map (·.2)=(hG sizes ((aZ 0 av (σ ab)).map (·.2))).map (·.2):=by
     rw[aw];cases Y:hG sizes ((aZ 0 av (σ ab)).map (·.2)) with
     |none=>rfl
     |some q=>simp only[Y0,if_neg dJ]
    rw[e];exact cD.qr cH
def ja (l:List Int):Prop:=∀v∈l,0<=v/\v<64
theorem o2 (h:ja l) {v:Int}:v∈bh l↔v∈l:=by
 unfold bh;rw[List.mem_filter,decide_eq_true_eq];refine⟨λh=>h.2,λI=>⟨?_,I⟩⟩;obtain⟨h1,J⟩:=h v I;exact Z5.2 ⟨v.toNat,List.mem_range.2 Ω,Ω⟩
theorem HT (l:List Int):ja (bh l):=λv I=>by
 obtain⟨n,J,rfl⟩:=Z5.1 (List.mem_filter.1 I).1;have:=List.mem_range.1 J;omega
theorem tI (l:List Int):(bh l).Pairwise (·< ·):=by
 unfold bh;refine List.Pairwise.filter _ ?_;rw[List.pairwise_map];exact List.pairwise_lt_range.imp λh=>Ω
theorem zs (l:List Int):(bh l).Nodup:=(tI l).imp λh=>Ω
where
 nodup_le' {a b:List Int} (h:a.Nodup) (I:∀x∈a,x∈b):a.length<=b.length:=by
  induction a generalizing b with
  |nil=>exact Y9 _
  |cons x a ih=>
   have h':=List.nodup_cons.1 h;have hx:=I x (.head _);have:=ih (b:=b.erase x) h'.2 λy hy=>(List.mem_erase_of_ne (λ(he:y=x)=>h'.1 (by rw[<-he];exact hy))).2 (I y (.tail _ hy));rw[List.length_erase_of_mem hx] at this;have:=List.length_pos_of_mem hx;rw[j5];omega
theorem zt (n:Nat):(0:Int)<64 ^ n:=Int.pow_pos Ω
theorem ra:∀ (l:List Int),ja l->0<=h5 l/\h5 l<64 ^ l.length
 |[],_=>by simp[h5]
 |x::l,h=>by
  have U:=ra l λy I=>h y (.tail _ I);have J:=h x (.head _);have V:=zt l.length;simp only[h5,j5];have e:(64:Int) ^ (l.length+1)=64*64 ^ l.length:=by rw[Int.pow_succ,Int.mul_comm]
  have h1:x*64 ^ l.length<=63*64 ^ l.length:=Int.mul_le_mul_of_nonneg_right Ω Ω;have W:0<=x*64 ^ l.length:=Int.mul_nonneg J.1 Ω;rw[e];omega
def ff:List Int->List Int->Int
 |x::a,y::b=>if x<y then-1 else if y<x then 1 else ff a b
 |[],[]=>0
 |[],_::_=>-1
 |_::_,[]=>1
theorem zu:∀ (a b:List Int),a.length=b.length->ja a->ja b->(ff a b<0↔h5 a<h5 b)/\(ff a b=0↔a=b)/\(h5 a=h5 b->a=b)
 |[],[],_,_,_=>by simp[ff]
 |[],_::_,h,_,_=>by simp at h
 |_::_,[],h,_,_=>by simp at h
 |x::a,y::b,h,Y,aa=>by
  have V:a.length=b.length:=by simpa using h
  have W:ja a:=λz I=>Y z (.tail _ I);have X:ja b:=λz I=>aa z (.tail _ I);have J:=zu a b V W X;have ab:=ra a W;have ad:=ra b X;have ae:=zt b.length;simp only[ff,h5];rw[V] at ab ⊢;have step:∀u v:Int,u<v->u*64 ^ b.length+64 ^ b.length<=v*64 ^ b.length:=λu v af=>by
   have:=Int.mul_le_mul_of_nonneg_right (show u+1<=v by omega) (show (0:Int)<=64 ^ b.length by omega);rw[Int.add_mul,Int.one_mul] at this;exact this
  by_cases h1:x<y
  .rw[if_pos h1];have:=step x y h1;exact⟨⟨λ_=>Ω,λ_=>Ω⟩,⟨λh=>Ω,λh=>by have:=(List.cons.inj h).1;omega⟩,λh=>Ω⟩
  .rw[if_neg h1];by_cases U:y<x
   .rw[if_pos U];have:=step y x U;exact⟨⟨λh=>Ω,λh=>Ω⟩,⟨λh=>Ω,λh=>by have:=(List.cons.inj h).1;omega⟩,λh=>Ω⟩
   .rw[if_neg U];have ac:x=y:=Ω
    subst ac;exact⟨J.1.trans ⟨λh=>Ω,λh=>Ω⟩,J.2.1.trans ⟨λh=>by rw[h],λh=>(List.cons.inj h).2⟩,λh=>by rw[J.2.2 Ω]⟩
def h6 (l:List Int):Prop:=ja l/\l.length<=6
theorem zv (h:h6 l):0<=h5 l/\h5 l<64 ^ 6:=by
 have:=ra l h.1;have J:(64:Int) ^ l.length<=64 ^ 6:=by
  have I:=h.2
  match l.length,I with
  |0,_=>decide
  |1,_=>decide
  |2,_=>decide
  |3,_=>decide
  |4,_=>decide
  |5,_=>decide
  |6,_=>decide
  |n+7,h=>omega
 omega
theorem tJ {b:List Int} (J:h6 a) (U:h6 b):(cT a<cT b↔a.length<b.length\/(a.length=b.length/\ff a b<0))/\(cT a=cT b->a=b):=by
 have h1:=zv J;have V:=zv U;have e:(64:Int) ^ 6=68719476736:=Φ
 rw[e] at h1 V;unfold cT;rw[e];by_cases I:a.length=b.length
 .have:=zu a b I J.1 U.1;rw[I];exact⟨⟨λh=>.inr ⟨rfl,this.1.2 Ω⟩,λh=>by
   rcases h with h|⟨_,h⟩
   .omega
   .have:=this.1.1 h;omega⟩,λh=>this.2.2 Ω⟩
 .exact⟨⟨λh=>.inl Ω,λh=>by
   rcases h with h|⟨h,_⟩
   .omega
   .exact absurd h I⟩,λh=>Ω⟩
theorem rb (g:ct):∀l:List ct,(gy g l).Perm (g::l)
 |[]=>List.Perm.refl _
 |h::l=>by
  unfold gy;split
  .exact ((rb g l).cons h).trans (List.Perm.swap g h l)
  .exact List.Perm.refl _
theorem zw {g:ct}:∀ {l:List ct},l.Pairwise (λa b=>cT a.1<cT b.1)->(∀h∈l,cT h.1≠cT g.1)->(gy g l).Pairwise (λa b=>cT a.1<cT b.1)
 |[],_,_=>by simp[gy]
 |h::l,U,V=>by
  have J:=List.pairwise_cons.1 U;unfold gy;split
  .rename_i W;refine List.pairwise_cons.2 ⟨λx I=>?_,zw J.2 λx I=>V x (.tail _ I)⟩;rcases U9.1 ((rb g l).mem_iff.1 I) with rfl|I
   .exact W
   .exact J.1 x I
  .rename_i X;have:=V h (.head _);refine List.pairwise_cons.2 ⟨λx I=>?_,U⟩;rcases U9.1 I with rfl|I
   .omega
   .have:=J.1 x I;omega
theorem zx:∀ (l acc:List ct),acc.Pairwise (λa b=>cT a.1<cT b.1)->l.Pairwise (λa b=>cT a.1≠cT b.1)->(∀a∈acc,∀b∈l,cT a.1≠cT b.1)->
  (l.foldl (λl g=>gy g l) acc).Pairwise (λa b=>cT a.1<cT b.1)/\(l.foldl (λl g=>gy g l) acc).Perm (acc++l)
 |[],acc,h,_,_=>⟨h,Ξ⟩
 |g::l,acc,h,W,J=>by
  have U:=List.pairwise_cons.1 W;have:=zx l (gy g acc) (zw h λa I=>J a I g (.head _)) U.2 λa I b V=>by
   rcases U9.1 ((rb g acc).mem_iff.1 I) with rfl|I
   .exact U.1 b V
   .exact J a I b (.tail _ V)
  refine⟨this.1,this.2.trans ?_⟩;exact ((rb g acc).append_right l).trans (List.perm_middle (a:=g) (l₁:=acc) (l₂:=l)).symm
theorem tK {α:Type} {f:α->Int}:∀ {L M:List α},L.Pairwise (λa b=>f a<f b)->M.Pairwise (λa b=>f a<f b)->(∀x,x∈L↔x∈M)->L=M
 |[],M,_,_,h=>by
  cases M with
  |nil=>rfl
  |cons y M=>exact absurd ((h y).2 (.head _)) Ξ
 |x::L,[],_,_,h=>absurd ((h x).1 (.head _)) Ξ
 |x::L,y::M,h1,V,h=>by
  have J:=List.pairwise_cons.1 h1;have U:=List.pairwise_cons.1 V;have W:x=y:=by
   rcases U9.1 ((h x).1 (.head _)) with he|hm
   .exact he
   .rcases U9.1 ((h y).2 (.head _)) with he|X
    .exact he.symm
    .have a:=U.1 x hm;have b:=J.1 y X;omega
  subst W;rw[tK J.2 U.2 λz=>⟨λI=>?_,λI=>?_⟩]
  .rcases U9.1 ((h z).1 (.tail _ I)) with he|hm
   .subst he;have:=J.1 z I;omega
   .exact hm
  .rcases U9.1 ((h z).2 (.tail _ I)) with he|hm
   .subst he;have:=U.1 z I;omega
   .exact hm
structure e3 (sizes:List Int) (k:Int) (g:ct):Prop where
 scope:h6 g.1
 up:g.1.Pairwise (·< ·)
 vars:∀v∈g.1,v<sizes.length
 len:g.2.length=(aL (bD sizes g.1)).toNat
 small:aL (bD sizes g.1)<=4096
 h7:∀c∈g.2,0<=c/\c<=k
theorem nD {sc:List Int} (J:∀z∈sizes,1<=z/\z<=32) (U:∀v∈sc,0<=v/\v<sizes.length):∀z∈bD sizes sc,1<=z/\z<=32:=λz h=>by
 obtain⟨v,V,rfl⟩:=Z5.1 h;obtain⟨h1,W⟩:=U v V;have I:v.toNat<sizes.length:=Ω
 rw[u4,y0 I];exact J _ (R2 I)
theorem HU {b:List Int} (h:a.Perm b):aL a=aL b:=by
 induction h with
 |nil=>rfl
 |cons x _ I=>simp only[aL,I]
 |swap x y l=>simp only[aL];rw[<-Int.mul_assoc,<-Int.mul_assoc,Int.mul_comm y x]
 |trans _ _ h1 J=>exact h1.trans J
theorem HV {b:List Int} (h:a.length=b.length):(dC k a b).length=b.length:=by simp[dC,h]
theorem HW {b:List Int} (W:0<=k) (J:∀c∈a,0<=c/\c<=k) (U:∀c∈b,0<=c/\c<=k):∀c∈dC k a b,0<=c/\c<=k:=by
 induction a generalizing b with
 |nil=>intro c I;simp[dC] at I
 |cons x a V=>
  cases b with
  |nil=>intro c I;simp[dC] at I
  |cons y b=>
   intro c I;have X:=J x (.head _);have Y:=U y (.head _);rcases U9.1 (show c∈min (x+y) k::dC k a b from I) with rfl|I
   .omega
   .exact V (λc h=>J c (.tail _ h)) (λc h=>U c (.tail _ h)) c I
def hI (l:List ct):Prop:=(l.map (·.1)).Nodup
theorem HX {acc:List ct} {g:ct} (X:0<=k) (U:∀h∈acc,e3 sizes k h) (V:hI acc) (I:e3 sizes k g):(∀h∈hf k acc g,e3 sizes k h)/\hI (hf k acc g)/\(hf k acc g).length<=acc.length+1:=by
 unfold hf;split
 .refine⟨λh aH=>?_,?_,Ξ⟩
  .obtain⟨J,hm,rfl⟩:=Z5.1 aH;have h1:=U J hm;split
   .rename_i he;have Y:J.2.length=g.2.length:=by rw[h1.len,I.len,he]
    exact⟨h1.scope,h1.up,h1.vars,by show (dC k J.2 g.2).length=_;rw[HV Y,I.len,he],h1.small,HW X h1.h7 I.h7⟩
   .exact h1
  .unfold hI;rw[List.map_map];have e:((λx:ct=>x.1)∘λh:ct=>if h.1=g.1 then (h.1,dC k h.2 g.2) else h)=λx:ct=>x.1:=by
    funext h;simp only[Function.comp];split <;> rfl
   rw[e];exact V
 .rename_i aa;refine⟨λh aH=>?_,?_,Ξ⟩
  .rcases n9.1 aH with aH|aH
   .exact U h aH
   .rw[l9.1 aH];exact I
  .unfold hI;rw[Z4];exact List.nodup_append.2 ⟨V,Ξ,λx ab y W he=>by
    simp only[S2,List.map_nil,l9] at W;subst W;subst he;exact aa ab⟩
theorem tL {sizes:List Int} {k:Int} (U:0<=k):∀ {l acc:List ct},(∀h∈acc,e3 sizes k h)->hI acc->(∀g∈l,e3 sizes k g)->(∀h∈l.foldl (hf k) acc,e3 sizes k h)/\hI (l.foldl (hf k) acc)/\(l.foldl (hf k) acc).length<=acc.length+l.length
 |[],acc,I,J,_=>⟨I,J,Ξ⟩
 |g::l,acc,I,J,V=>by
  obtain⟨h1,W,ab⟩:=HX U I J (V g (.head _));obtain⟨X,Y,ac⟩:=tL U h1 W λx aa=>V x (.tail _ aa);exact⟨X,Y,by simp only[List.foldl_cons,j5];omega⟩
theorem zy {α:Type} [DecidableEq α]:∀ {a b:List α},a.Nodup->b.Nodup->(∀x,x∈a↔x∈b)->a.Perm b
 |[],b,_,_,h=>by
  cases b with
  |nil=>exact .refl _
  |cons y b=>exact absurd ((h y).2 (.head _)) Ξ
 |x::a,b,V,J,h=>by
  have W:=(h x).1 (.head _);have U:=List.nodup_cons.1 V;refine .trans ?_ (List.perm_cons_erase W).symm;refine .cons x (zy U.2 (J.erase x) λy=>?_);rw[J.mem_erase_iff];refine⟨λI=>⟨λhe=>U.1 (he▸I),(h y).1 (.tail _ I)⟩,λ⟨X,I⟩=>?_⟩;rcases U9.1 ((h y).2 I) with he|hm
  .exact absurd he X
  .exact hm
theorem re (h:ja l) (I:l.Nodup):(bh l).Perm l:=zy (zs l) I λ_=>o2 h
theorem tM:∀ {l:List Int},(∀z∈l,1<=z/\z<=32)->l.map (λz=>min z 4097)=l
 |[],_=>rfl
 |z::l,h=>by
  have J:=h z (.head _);rw[S2,tM λx I=>h x (.tail _ I)];congr 1;omega
theorem HY {x:cd} (U:0<=k) (V:0<=x.other) (I:∀p∈x.lines,0<=p.2):0<=ir x k t/\ir x k t<=k:=by
 unfold ir;cases J:x.lines.find? (λp=>decide (p.1=t)) with
 |none=>simp only;omega
 |some p=>have:=I p (List.mem_of_find?_eq_some J);simp only;omega
theorem rf {x:cd} (h:qQ all N x) (J:all.length<=64):ja x.scope:=λv I=>by
 have:=h.scope.2 v I;omega
theorem nE {f:bY} {x:cd} (I:eL N f) (Y:x∈f.funs):e3 f.sizes f.k (gO f.sizes f.k x):=by
 obtain⟨h1,aa,U⟩:=I.funs x Y;have ab:=I.sizes.2.1;have V:=rf h1 ab;have J:=re V h1.scope.1;have W:∀v∈bh x.scope,0<=v/\v<f.sizes.length:=λv hm=>h1.scope.2 v ((o2 V).1 hm);have ac:=nD I.sizes.2.2 W;have ad:aL (bD f.sizes (bh x.scope))=aL x.sizes:=by rw[h1.sizes];exact HU (J.map _)
 refine⟨⟨HT _,?_⟩,tI _,λv hm=>(W v hm).2,?_,?_,λc ae=>?_⟩
 .show (bh x.scope).length<=6;rw[J.length_eq];exact aa
 .show ((bu _).map _).length=_;rw[u5,h2 ac];rfl
 .show aL (bD f.sizes (bh x.scope))<=4096;have af:∀z∈x.sizes,1<=z/\z<=32:=λz X=>by
   rw[h1.sizes] at X;exact nD I.sizes.2.2 (λv hm=>h1.scope.2 v hm) z X
  unfold c6 at U;rw[tM af,decide_eq_false_iff_not] at U;rw[ad];omega
 .obtain⟨t,_,rfl⟩:=Z5.1 ae;exact HY (by have:=I.k.1;omega) h1.other λp J=>(h1.lines.2 p J).2
theorem jJ {f:bY} (I:eL N f):(∀g∈eR f,e3 f.sizes f.k g)/\hI (eR f)/\(eR f).length<=f.funs.length:=by
 have:=tL (sizes:=f.sizes) (k:=f.k) (by have:=I.k.1;omega) (l:=f.funs.map (gO f.sizes f.k)) (acc:=[]) (λh aH=>by cases aH) List.nodup_nil λg U=>by
  obtain⟨x,V,rfl⟩:=Z5.1 U;exact nE I V
 refine⟨this.1,this.2.1,?_⟩;have J:=this.2.2;rw[List.length_nil,u5,V1] at J;exact J
theorem zz {l:List ct} (I:∀g∈l,e3 sizes k g) (J:hI l):l.Pairwise λa b=>cT a.1≠cT b.1:=by
 have h1:l.Pairwise λa b=>a.1≠b.1:=by
  unfold hI List.Nodup at J;rwa [List.pairwise_map] at J
 exact h1.imp_of_mem λ{a b} U V W he=>W ((tJ (I a U).scope (I b V).scope).2 he)
theorem o3 {f:bY} (J:eL N f):(e1 f).Pairwise (λa b=>cT a.1<cT b.1)/\(e1 f).Perm ((eR f).filter e0):=by
 obtain⟨h1,U,_⟩:=jJ J;have V:∀g∈(eR f).filter e0,e3 f.sizes f.k g:=λg W=>h1 g (List.mem_filter.1 W).1;have X:hI ((eR f).filter e0):=(List.Sublist.map _ List.filter_sublist).nodup U;have:=zx ((eR f).filter e0) [] List.Pairwise.nil (zz V X) λa Y=>by cases Y
 refine⟨this.1,?_⟩;have I:=this.2;rw[List.nil_append] at I;exact I
theorem rg {f:bY} (I:eL N f):∀g∈e1 f,e3 f.sizes f.k g:=λg J=>(jJ I).1 g (List.mem_filter.1 ((o3 I).2.mem_iff.1 J)).1
theorem HZ {f:bY} (J:eL N f) {M:List ct} (U:M.Perm ((eR f).filter e0)) (I:M.Pairwise λa b=>cT a.1<=cT b.1):M=e1 f:=by
 obtain⟨h1,V⟩:=o3 J;have W:hI ((eR f).filter e0):=(List.Sublist.map _ List.filter_sublist).nodup (jJ J).2.1;have X:hI M:=(U.map (λg:ct=>g.1)).nodup_iff.2 W;have Y:∀g∈M,e3 f.sizes f.k g:=λg aa=>(jJ J).1 g (List.mem_filter.1 (U.mem_iff.1 aa)).1;have ab:=zz Y X;refine tK (f:=λg:ct=>cT g.1) ?_ h1 λx=>by rw[U.mem_iff,V.mem_iff]
 exact I.imp₂ (λa b h1 V=>Int.lt_iff_le_and_ne.2 ⟨h1,V⟩) ab
structure iy (n:aV):Prop where
 k:1<=n.k/\n.k<=2147483648
 sizes:1<=n.sizes.length/\n.sizes.length<=64/\ ∀z∈n.sizes,1<=z/\z<=32
 zero:0<=n.zero/\n.zero<=n.k
 jb:n.unary.length=n.sizes.length
 unary:∀ (i:Nat) (z:Int) (u:List Int),n.sizes[i]? =σ z->n.unary[i]? =σ u->u.length=z.toNat/\ ∀c∈u,0<=c/\c<=n.k
 funs:∀g∈n.funs,e3 n.sizes n.k g/\2<=g.1.length
theorem H0 (z:Int):aL [z]=z:=by simp[aL]
theorem rh:∀ {l:List ct} {n:aV},iy n->(∀g∈l,e3 n.sizes n.k g)->iy (l.foldl (λn g=>match g.1 with
 |[]=>{n with zero:=g.2.getD 0 0}
 |[v]=>{n with unary:=n.unary.set v.toNat g.2}
 |_=>{n with funs:=n.funs++[g]}) n)/\(l.foldl (λn g=>match g.1 with
 |[]=>{n with zero:=g.2.getD 0 0}
 |[v]=>{n with unary:=n.unary.set v.toNat g.2}
 |_=>{n with funs:=n.funs++[g]}) n).sizes=n.sizes
 |[],n,h,_=>⟨h,rfl⟩
 |g::l,n,h,V=>by
  have I:=V g (.head _);have U:∀x∈l,e3 n.sizes n.k x:=λx J=>V x (.tail _ J);rw[List.foldl_cons];obtain⟨sc,cs⟩:=g
  match sc,I with
  |[],I=>
   have X:=I.len;refine rh (n:={n with zero:=cs.getD 0 0}) ⟨h.k,h.sizes,?_,h.jb,h.unary,h.funs⟩ U;have h1:cs.length=1:=by simpa[bD,aL] using X
   have Y:cs[0]? =σ (cs.getD 0 0):=by rw[u4,y0 Ω];rfl
   exact I.h7 _ (x6 Y)
  |[v],I=>
   have ab:=I.scope.1 v (.head _);have ac:=I.vars v (.head _);refine rh (n:={n with unary:=n.unary.set v.toNat cs}) ⟨h.k,h.sizes,h.zero,by show (n.unary.set _ _).length=_;rw[X1];exact h.jb,λi z u W hu=>?_,h.funs⟩ U;by_cases hi:v.toNat=i
   .subst hi;have ad:=h.jb;rw[V5 Ω] at hu;cases hu;have aa:bD n.sizes [v]=[z]:=by
     simp only[bD,S2,List.map_nil];rw[u4,W];rfl
    refine⟨?_,I.h7⟩;have:=I.len;rw[aa,H0] at this;exact this
   .rw[W6 hi] at hu;exact h.unary i z u W hu
  |a::b::r,I=>
   refine rh (n:={n with funs:=n.funs++[(a::b::r,cs)]}) ⟨h.k,h.sizes,h.zero,h.jb,h.unary,λx J=>?_⟩ U;rcases n9.1 J with J|J
   .exact h.funs x J
   .rw[l9.1 J];exact⟨I,Ξ⟩
theorem zA {f:bY} (I:eL N f):iy (cC f)/\(cC f).sizes=f.sizes:=by
 unfold cC;have U:=I.sizes;refine rh (n:=⟨f.k,f.sizes,0,f.sizes.map λz=>o6 z.toNat 0,[]⟩) ⟨I.k,U,⟨by show (0:Int)<=0;omega,by show (0:Int)<=f.k;have:=I.k.1;omega⟩,Ξ,λi z u h1 J=>?_,λg V=>by cases V⟩ (rg I);have J:(f.sizes.map λz=>o6 z.toNat (0:Int))[i]? =σ u:=J;have h1:f.sizes[i]? =σ z:=h1;rw[x8,h1] at J;cases J;refine⟨Ξ,λc W=>?_⟩;rw[(List.mem_replicate.1 W).2];have:=I.k.1;exact⟨Int.le_refl _,by show (0:Int)<=f.k;omega⟩
def jK (x:cd) (k:Int) (i:Nat) (t:List Int):Int:=match (x.lines.take i).find? (λp=>decide (p.1=t)) with
 |some p=>min p.2 k
 |none=>min x.other k
theorem zB (x:cd) (k:Int) (t:List Int):jK x k 0 t=min x.other k:=by simp[jK]
theorem zC (x:cd) (k:Int) (t:List Int):jK x k x.lines.length t=ir x k t:=by
 unfold jK ir;rw[o9];cases x.lines.find? (λp=>decide (p.1=t)) <;> rfl
theorem zD {x:cd} {i:Nat} {p:List Int×Int} (aa:(x.lines.map (·.1)).Nodup) (hi:x.lines[i]? =σ p) (t:List Int):jK x k (i+1) t=if t=p.1 then min p.2 k else jK x k i t:=by
 unfold jK;rw[r9,hi,Z9,List.find?_append];by_cases I:t=p.1
 .subst I;have ab:(x.lines.take i).find? (λq=>decide (q.1=p.1))=ν:=by
   rw[List.find?_eq_none];intro q J he;have he:q.1=p.1:=by simpa using he
   obtain⟨j,U⟩:=Y7.1 J;have V:j<i:=by have:=(x4.1 U).1;rw[o7] at this;omega
   rw[Y2 V] at U;have W:=x4.1 U;have X:=x4.1 hi;have Y:=V0.1 aa j i (by rw[u5];exact W.1) (by rw[u5];exact X.1) V;rw[List.getElem_map,List.getElem_map,W.2,X.2] at Y;exact Y he
  rw[ab,if_pos rfl];simp
 .rw[if_neg I];have:[p].find? (λq=>decide (q.1=t))=ν:=by
   rw[List.find?_eq_none];intro q J he;rw[l9.1 J] at he;exact I (of_decide_eq_true he).symm
  rw[this,Option.or_none]
theorem nF {v:Int} (h:v∈l):l[l.idxOf v]? =σ v:=by
 have:=List.idxOf_lt_length_iff.2 h;rw[y0 this,List.getElem_idxOf this]
theorem pa {i:Nat} {v:Int} (V:l.Nodup) (h:l[i]? =σ v):l.idxOf v=i:=by
 have hm:=x6 h;have h1:=nF hm;have I:=x4.1 h1;have J:=x4.1 h;rcases Nat.lt_trichotomy (l.idxOf v) i with U|he|U
 .exact absurd (I.2.trans J.2.symm) (V0.1 V _ _ I.1 J.1 U)
 .exact he
 .exact absurd (J.2.trans I.2.symm) (V0.1 V _ _ J.1 I.1 U)
def fg (scope I:List Int):List Int:=I.map λv=>((scope.idxOf v:Nat):Int)
theorem ri {J:List Int} (Y:scope.Nodup) (I:J.Perm scope):Good (fg scope J) scope.length:=by
 have W:J.Nodup:=I.nodup_iff.2 Y;refine⟨by simp[fg,I.length_eq],λi p U=>?_⟩;unfold fg at U;rw[x8] at U;obtain⟨v,X,rfl⟩:=Y8.1 U;have hm:v∈scope:=I.mem_iff.1 (x6 X);have ac:=List.idxOf_lt_length_iff.2 hm;refine⟨⟨Ω,Ω⟩,λj ad V=>?_⟩;unfold fg at V;rw[x8] at V;obtain⟨u,hu,he⟩:=Y8.1 V;have aa:u∈scope:=I.mem_iff.1 (x6 hu);have e:scope.idxOf u=scope.idxOf v:=Ω
 have h1:=nF aa;rw[e,nF hm] at h1;have ab:v=u:=Z6 h1;subst ab;have ae:=pa W hu;have af:=pa W X;omega
theorem zE {v:Int} (J:I[j]? =σ v):(fg scope I)[j]? =σ ((scope.idxOf v:Nat):Int):=by
 unfold fg;rw[x8,J];rfl
theorem H1 (W:scope.Nodup) (U:I.Perm scope):dM (bD sizes scope) (fg scope I)=bD sizes I:=by
 refine X6 λj=>?_;cases J:I[j]? with
 |none=>
  have V:=List.getElem?_eq_none_iff.1 J;rw[Y4 (by rw[qN];simp[fg];exact V),Y4 (by simp[bD];exact V)]
 |some v=>
  have hm:v∈scope:=U.mem_iff.1 (x6 J);have X:=ri W U;rw[ym X (by simp[bD]) (zE J),j9];unfold bD;rw[x8,x8,nF hm,J]
theorem zF (W:scope.Nodup) (J:I.Perm scope) (X:t.length=scope.length):kx (fg scope I) t=nu scope I t:=by
 have Y:=ri W J;refine (yl Y X (by simp[nu]) λj p U=>?_).symm;unfold fg at U;rw[x8] at U;obtain⟨v,V,rfl⟩:=Y8.1 U;have hm:v∈scope:=J.mem_iff.1 (x6 V);have aa:I.Nodup:=J.nodup_iff.2 W;have ab:=(x4.1 V).1;have ac:=J.length_eq;unfold nu;rw[j9,x8,nF hm,Y0,pa aa V,u4,y0 (show j<t.length by omega)];rfl
theorem H2 {f:bY} {x:cd} {cs:List Int} (U:eL N f) (ab:x∈f.funs) (ai:cs.length=(aL x.sizes).toNat) (ac:∀t,c0 x.sizes t->cW x.sizes cs t=ir x f.k t):
  dM x.sizes (fg x.scope (bh x.scope))=bD f.sizes (bh x.scope)/\mc x.sizes cs (fg x.scope (bh x.scope))=(gO f.sizes f.k x).2:=by
 obtain⟨h1,aj,ak⟩:=U.funs x ab;have W:=rf h1 U.sizes.2.1;have I:=re W h1.scope.1;have X:x.sizes=bD f.sizes x.scope:=h1.sizes;have V:dM x.sizes (fg x.scope (bh x.scope))=bD f.sizes (bh x.scope):=by rw[X];exact H1 h1.scope.1 I
 have ad:=ri h1.scope.1 I;have ae:∀v∈bh x.scope,0<=v/\v<f.sizes.length:=λv hm=>h1.scope.2 v ((o2 W).1 hm);have J:dS (bD f.sizes (bh x.scope)):=nD U.sizes.2.2 ae;refine⟨V,?_⟩;have af:x.sizes.length=x.scope.length:=by rw[X];simp[bD]
 unfold mc;rw[V];show _=(bu (bD f.sizes (bh x.scope))).map λt=>ir x f.k (nu x.scope (bh x.scope) t);refine X6 λq=>?_;rw[x8,x8];have al:=kw J;by_cases Y:q<(aL (bD f.sizes (bh x.scope))).toNat
 .have ag:=oI J (i:=q) Ω;rw[ag,List.getElem?_range Y];simp only[Y0];have ah:=th J Y;have aa:(cH (bD f.sizes (bh x.scope)) q).length=x.scope.length:=by rw[h0];simp[bD,I.length_eq]
  rw[zF h1.scope.1 I aa,ac];have:=Gq (s:=x.sizes) ad af (by rw[V];exact ah);rw[zF h1.scope.1 I aa] at this;exact this
 .rw[Y4 Θ,Y4 (by rw[h2 J];omega)];rfl
theorem H3 {J U:List Int} (I:dS szs) (h1:J.length=(aL szs).toNat) (V:U.length=(aL szs).toNat):
  dC k J U=(X9 (aL szs).toNat).map λ(q:Nat)=>min (cW szs J (cH szs q)+cW szs U (cH szs q)) k:=by
 conv=>lhs;rw[qM I h1,qM I V]
 unfold dC;rw[List.zipWith_map,List.zipWith_self]
theorem H4 {a8:Nat} {d:List (x1×x1)} {KS:List (List Int)} (V:ae w a8 ht [.map (σ m)]) (hm:cN w m d) (W:d.map (·.1)=KS.map dD) (J:nA KS) (af:KS.length<65536):
  aj x3 Ey [.func (.func kf) #[] #[Γ a8],y5] w λv w'=>Ext w w'/\ ∃g M,M.Perm KS/\q7 fx M 0 M.length/\mh w' g v M:=by
 refine aA func266 ?_;refine (Ha V hm W (λks h=>(J ks h).1) Ω).mono ?_;rintro v U _ ⟨X,g,L,Y,I,aa⟩;refine (Hn aa (J.perm I) (by rw[I.length_eq];omega)).mono ?_;rintro _ ag _ ⟨ab,M,ac,hu,ad⟩;exact⟨X.then ab (λr ah h=>by have:=Y r h;omega),g,M,ac.trans I,hu,ad⟩
theorem zG {α β:Type} {f:α->β}:∀ {M:List β} {D:List α},M.Perm (D.map f)-> ∃L:List α,L.Perm D/\L.map f=M
 |[],D,h=>by
  have h1:=h.length_eq;simp at h1;have:D=[]:=Z2 h1.symm;exact⟨[],by rw[this],rfl⟩
 |x::M,D,h=>by
  have I:x∈D.map f:=h.mem_iff.1 (.head _);obtain⟨p,J,rfl⟩:=Z5.1 I;obtain⟨A,B,rfl⟩:=List.append_of_mem J;have U:(f p::M).Perm (f p::(A++B).map f):=h.trans (by
   rw[Z4,S2,Z4];exact List.perm_middle)
  obtain⟨L,V,W⟩:=zG (List.Perm.cons_inv U);exact⟨p::L,(V.cons p).trans List.perm_middle.symm,by rw[S2,W]⟩
theorem zH {g:Nat} {ks:List Int} (X:ks.length=6) (Y:n<=6) (J:cs=ints .i8 ks) (U:ae w g cm cs):aI .i8 w (.slice (σ (if 6=0 then⟨g,0,ν⟩ else⟨g,0+0*1,ν⟩)) (n-0) (6-0)) (ks.take n):=by
 subst J;rw[if_neg Ω];unfold aI;have V:(ks.take n).length=n:=by rw[o7];omega
 rw[V];refine⟨Θ,g,0,_,6,rfl,Ω,by simp[maxLen],λ_=>rfl,λj v I=>?_⟩;have W:=(x4.1 I).1;refine U.range j v ?_;rw[ints,List.map_take,Y2 (by simp[ints] at W;omega)] at I;exact I
def H5 (D L:Told):Prop:=L.Perm D/\q7 (λp=>fx (pad p.1)) L 0 L.length
theorem H6 {g:Nat} {D:Told} (h:eh w g m szs k o D) (bB:D.length<65536):aj x3 Eb [Γ g] w λv w'=>Ext w w'/\ ∃L:Told,H5 D L/\bf (et w.heap.size) bp w' [v] L:=by
 obtain⟨⟨sv,gs,aJ,hm⟩,bD,I,cd,aZ⟩:=id h;have bE:nA (D.map λp=>pad p.1):=λks bF=>by
  obtain⟨p,bG,rfl⟩:=Z5.1 bF;exact oT I (aZ p bG).1
 refine aA func222 ?_;rw[cA ep.u];simp only[j6,aQ];rw[aw,aa eY.p rfl,ac Ψ (aJ.cell (o:=0+3) rfl)];refine G8.mono ?_;rintro _ U _ ⟨aK,a8,rfl,ce,bH⟩;refine (H4 (KS:=D.map λp=>pad p.1) bH (bD.ext aK) (by rw[List.map_map,List.map_map];rfl) bE (by simpa using bB)).mono ?_;rintro cg au _ ⟨a1,ch,M,bI,bK,a2⟩;obtain⟨L,aL,az⟩:=zG bI;have a6:M.length=L.length:=by rw[<-az];simp
 have ci:=aL.length_eq;have s1:=aK.size;have cj:=a1.size;have a7:=aK.trans a1;rw[dc hY.u a2];refine bC.range L.length (λi out J=>Ext au J/\bf (et au.heap.size) bp J [out] (L.take i)) Ω ⟨Ext.refl _,by rw[List.take_zero];exact fs⟩ ?_ ?_
 rotate_left
 .rintro out J bL ⟨al,aB⟩;rw[a6];simp only[ao,ad];refine⟨λh=>Ω,λ_=>⟨a7.trans al,L,⟨aL,λp q x y h1 bM ck bN bO=>?_⟩,?_⟩⟩
  .exact bK p q (pad x.1) (pad y.1) h1 bM Ω (by rw[<-az,x8,bN];rfl) (by rw[<-az,x8,bO];rfl)
  .rw[o9] at aB;exact ak.mono aB (λr _ h=>by have h:au.heap.size<=r:=h;show w.heap.size<=r;omega) λ_ _ h=>h
 rintro i out J bL hi ⟨al,aB⟩ bP;obtain⟨⟨t,c⟩,aM⟩:∃p,L[i]? =σ p:=⟨_,y0 hi⟩;have aO:(t,c)∈D:=aL.mem_iff.1 (x6 aM);have aP:=(aZ _ aO).1;have ba:=tv I aP;have aR:t.length=szs.length:=ba.1;have bb:=I.1;have bQ:jF (pad t):=oT I aP;have aC:=bQ.1;have bR:M[i]? =σ (pad t):=by rw[<-az,x8,aM];rfl
 rw[a6];simp only[ao,ad];refine⟨λ_=>?_,λh=>Ω⟩;rw[Hm rfl (a2.ext al) bR];refine bt cm.i λam cl cn bd bg=>?_;refine oS aC rfl bg λbS bT cp aE=>?_;have cq:=bd.size;have cr:=bg.lt;have bU:Ext J bS:=bd.then bT (λr aF he=>by have he:r=am:=he;omega);intro bh av _ _;have aT:=bU.trans av;have aV:=(a7.trans al).trans aT;have bi:=h.ext aV;obtain⟨⟨ct,cu,cw,cz⟩,cB,_⟩:=id bi;have cC:=aT.size;rw[aw,aa eY.p rfl,ac Ψ ((aJ.ext aV).cell (o:=0+3) rfl),mf aC (aE.ext av).range];refine G2 bi aP (λW bV=>?_) (λbW=>absurd rfl (bW _ aO));have bX:W=c:=by
  have:=yR h.nodup bV aO rfl;exact congrArg Prod.snd this
 subst bX;simp only[Bool.false_eq_true,if_false];rw[cR (cs:=#[.slice ν 0 0,Δ W]) Ψ];refine bt fo.i λY cD cE aW bk=>?_;refine⟨.inl aW,?_⟩;refine bJ (vs:=[.slice ν 0 0,Δ W]) fo.i rfl rfl (by intro v bl;simp at bl;rcases bl with rfl|rfl <;> rfl) bk λan bY cF bm=>?_;have cG:=aW.size;have cH:=bk.lt;have aG:Ext bh an:=aW.then bY (λr aF he=>by have he:r=Y:=he;omega);have bo:=aT.trans aG;have bq:=aV.trans aG;rw[aw,aa eY.p rfl,ac Ψ ((aJ.ext bq).cell (o:=0+0) rfl),aS ah.u (hm.ls.ext bq)];rw[qA cm.u fb.i (l:=0) (h:=szs.length) (m:=6) hv (lQ _ _ rfl) er Ω Ω Ω];have br:=zH aC bb rfl ((aE.ext av).ext aG);rw[<-aR,yM] at br;rw[<-aR,aS jv.u br];have b0:=(aE.ext av).ext aG;have cI:am<bh.heap.size:=(aE.ext av).lt;have cJ:Y<an.heap.size:=bm.lt;refine bZ.range t.length (λj X=>af (λr=>r=Y\/an.heap.size<=r) an X/\ ∃aD ap,an.heap.size<=ap/\ae X Y fo [aD,Δ W]/\aq .i64 ab X ap aD (t.take j)) Ω ⟨af.refl _ _,_,an.heap.size,o8 _,bm,aq.nil _ _ _ _⟩ ?_ ?_
 .rintro j X b1 b2 ⟨ag,aD,ap,b3,aH,aI⟩ b4;obtain⟨x,aX⟩:∃x,t[j]? =σ x:=⟨_,y0 b2⟩;have cK:=ba.2 x (x6 aX);have cL:Ext J X:=bo.then ag (λr aF he=>by rcases he with rfl|he <;> omega);have bu:=zH aC bb rfl (b0.V ag (λhe=>by rcases he with he|he <;> omega));rw[<-aR,yM] at bu;simp only[ao,ad];refine⟨λ_=>?_,λh=>Ω⟩;rw[bc jv.u fb.i Ψ bu aX,aa fo.p rfl,ac Ψ (aH.cell (o:=0+0) rfl),eZ fb.u ab.u,wrap_i64 Ω Ω];refine dJ ah.u ab.i rfl λa aU b5 cM ai b6=>?_;refine hy ah.u ab.i rfl (aI.ext ai) b6.ls Θ Θ λbw bx b7 cN ax ay=>?_;have b8:=ag.size;have b9:=ai.size;have cO:=ay.size;rw[aa fo.p rfl];refine bj (g:=Y) (o:=0) ah.i ax.ls.cells.1 ax.ls.cells.2 ((aH.ext ai).V ay (λhe=>by have he:Y=ap:=he;omega)) Ξ λcP bz cQ ca=>?_;simp only[aN];refine b4 _ ⟨((ag.trans (ai.V _)).trans (ay.mono λr _ he=>.inr (by have he:r=ap:=he;omega))).trans (bz.mono λr _ he=>.inl he),bw,bx,Ω,ca,?_⟩;rw[r9,aX];exact ax.V bz (λ_ he=>by have he:bx=Y:=he;omega)
 .rintro X b1 ⟨ag,aD,ap,b3,aH,aI⟩;simp only[ao,ad];refine⟨λh=>Ω,λ_=>?_⟩;rw[o9] at aI;rw[bn fo.p fo.i rfl aH.range];have b8:=ag.size;have cb:Ext J X:=bo.then ag (λr aF he=>by rcases he with rfl|he <;> omega);have bA:bf (et J.heap.size) bp X [aD,Δ W] (t,W):=⟨[aD],[Δ W],et J.heap.size,bp,rfl,λ_ h=>h,λ_ h=>h.elim,λ_ _ _ h=>h,ak.mono (lZ aI) (λr _ h=>by subst h;show J.heap.size<=r;omega) (λ_ _ h=>h),rfl⟩;refine gK (α:=List Int×Int) (a:=(t,W)) (cs:=[aD,Δ W]) (A:=et J.heap.size) (R:=bp) mZ.u fo.i Φ rfl bA λu b5 ai _ cc=>?_;have aY:=cb.trans ai;have b9:=aY.size;refine lY (α:=List Int×Int) (a:=(t,W)) (A:=et J.heap.size) mZ.u fo.i rfl (be (ko aB) aY) cc (be bA ai) (λr _ h h'=>?_) Θ Θ λbw b7 ax ay=>?_
  .rcases h' with h'|h'
   .have:=h.2;have:J.heap.size<=r:=h';omega
   .exact h'
  simp only[aN];have cS:=al.size;refine bP _ _ ⟨(al.trans aY).then ay (λr aF h=>by have h:=h.1;have h:au.heap.size<=r:=h;omega),?_⟩;rw[r9,aM];refine ak.mono ax (λr _ h=>?_) λ_ _ h=>h;show au.heap.size<=r;rcases h with h|h|h
  .exact h.1
  .have h:J.heap.size<=r:=h;omega
  .omega
theorem zI {s:List Int} (I:dS s):t∈bu s↔c0 s t:=by
 refine⟨λh=>?_,λ⟨n,h⟩=>x6 (oG I h)⟩;obtain⟨i,hi⟩:=Y7.1 h;exact⟨_,oF I hi⟩
theorem zJ:∀ {s:List Int},dS s->(bu s).Pairwise λa b=>fx a<fx b
 |[],_=>by simp[bu]
 |k::s,I=>by
  have ab:=zJ I.tail;have U:∀t∈bu s,0<=fx t/\fx t<32 ^ s.length:=λt W=>by
   have ac:=(zI I.tail).1 W;have h1:=mb.1 ac;have Y:=q6 t λx X=>by
    obtain⟨i,hi,rfl⟩:=List.getElem_of_mem X;obtain⟨a,J⟩:∃a,s[i]? =σ a:=⟨_,y0 Ω⟩;have ae:=h1.2 i a _ J (y0 hi);have af:=(I.tail a (x6 J)).2;omega
   rw[h1.1];exact Y
  have V:∀t∈bu s,t.length=s.length:=λt W=>sU W;show ((X9 k.toNat).flatMap λ(v:Nat)=>(bu s).map λt=>(v:Int)::t).Pairwise _;rw[List.pairwise_flatMap];refine⟨λv _=>?_,?_⟩
  .rw[List.pairwise_map];refine ab.imp_of_mem λ{a b} J U h=>?_;simp only[fx,V a J,V b U];omega
  .refine List.pairwise_lt_range.imp λ{u v} ag x X y ad=>?_;obtain⟨a,J,rfl⟩:=Z5.1 X;obtain⟨b,aa,rfl⟩:=Z5.1 ad;simp only[fx,V a J,V b aa];have h1:=U a J;have Y:=U b aa;have:=Int.mul_le_mul_of_nonneg_right (show (u:Int)+1<=v by omega) (show (0:Int)<=32 ^ s.length by have:=tA s.length;omega);rw[Int.add_mul,Int.one_mul] at this;omega
theorem H7 {D L:Told} (U:(D.map (·.1)).Nodup) (I:L.Perm D) (t:List Int):hg L o t=hg D o t:=by
 have W:(L.map (·.1)).Nodup:=(I.map (·.1)).nodup_iff.2 U;by_cases he:∃p∈D,p.1=t
 .obtain⟨p,V,rfl⟩:=he;rw[oU U (c:=p.2) V,oU W (c:=p.2) (I.mem_iff.2 V)]
 .rw[oV λp h1 J=>he ⟨p,h1,J⟩,oV λp h1 J=>he ⟨p,I.mem_iff.1 h1,J⟩]
def hj (szs:List Int) (f:List Int->Int) (cs:List Int):Prop:=cs.length=(aL szs).toNat/\ ∀t,c0 szs t->cW szs cs t=f t
theorem hj.eq {f:List Int->Int} {cs J:List Int} (I:dS szs) (h1:hj szs f cs) (U:hj szs f J):cs=J:=Gf I h1.1 U.1 λt V=>by rw[h1.2 t V,U.2 t V]
theorem hj.congr {f I:List Int->Int} {cs:List Int} (h:hj szs f cs) (he:∀t,c0 szs t->f t=I t):hj szs I cs:=⟨h.1,λt J=>by rw[h.2 t J,he t J]⟩
theorem tN (I:dS szs) (h:c0 szs t):∃n:Nat,cq szs t 0=σ (n:Int)/\n<(aL szs).toNat:=by
 obtain⟨n,J⟩:=h;have:=l0 I J;simp only[Int.zero_mul,Int.zero_add,Int.one_mul] at this;exact⟨n.toNat,by rw[J];congr 1;omega,Ω⟩
theorem H8 (I:dS szs) (c:Int):hj szs (λ_=>c) (o6 (aL szs).toNat c):=⟨Ξ,λt J=>by
 obtain⟨n,U,V⟩:=tN I J;unfold cW;rw[U];simp only[j9,u4,List.getElem?_replicate,V,if_true,S1]⟩
theorem hj.put {f:List Int->Int} {cs:List Int} (I:dS szs) (h:hj szs f cs) (X:c0 szs t) (Y:cL c k):hj szs (λs=>if s=t then c else f s) (nb szs t k c cs):=by
 obtain⟨n,U,aa⟩:=tN I X;unfold nb;rw[U];simp only[Y,if_true,j9];refine⟨by simp[h.1],λs W=>?_⟩;obtain⟨m,hm,ab⟩:=tN I W;have J:=h.2 s W;unfold cW at J ⊢;rw[hm] at J ⊢;simp only[j9] at J ⊢;by_cases he:s=t
 .subst he;rw[U] at hm;have V:n=m:=by have:=Z6 hm;omega
  subst V;rw[if_pos rfl,u4,V5 (by rw[h.1];exact aa)];rfl
 .rw[if_neg he,u4,W6 (λV=>he ?_),<-u4,J];subst V;rw[<-yf I hm,<-yf I U]
def H9 (w:x2) (szs:List Int) (k o:Int) (D:Told) (v:x1) (w':x2):Prop:=Ext w w'/\(4096<aL szs->v= .tuple #[.pointer ν,Δ 5])/\
 (aL szs<=4096-> ∃g I sv cs,v= .tuple #[Γ g,Δ 0]/\w.heap.size<=g/\w.heap.size<=I/\cM w' g I sv szs k cs/\hj szs (hg D o) cs)
theorem zK {g:Nat} {D:Told} (h:eh w g m szs k o D) (aH:D.length<65536):aj x3 Dz [Γ g] w (H9 w szs k o D):=by
 obtain⟨⟨sv,gs,aI,hm⟩,bq,I,aM,aO⟩:=id h;have ax:=h.nodup;refine aA func163 ?_;rw[cA ep.u];simp only[j6,aQ];intro U J _ _;have al:=aI.ext J;rw[aw,aa eY.p rfl,ac Ψ (al.cell (o:=0+0) rfl),aw,aa eY.p rfl,ac Ψ (al.cell (o:=0+1) rfl),aw,aa eY.p rfl,ac Ψ (al.cell (o:=0+2) rfl)];refine (qC (hm.ls.ext J)).mono ?_;rintro _ ay _ ⟨ab,_,aP,_,aR⟩;by_cases ae:aL szs<=4096
 rotate_left
 .have:=aP I Ω;subst this;rw[aK (v:=.pointer ν) rfl,aK (v:=Δ 5) rfl];simp only[bB,ad];exact⟨λ_=>⟨J.trans ab,λ_=>rfl,λh=>absurd h ae⟩,λh=>by simp at h⟩
 obtain⟨am,W,aD,rfl,br,bu,_,az⟩:=aR I ae aM;rw[aK (v:=Γ am) rfl,aK (v:=Δ 0) rfl];simp only[bB,ad];refine⟨λh=>absurd rfl h,λ_=>?_⟩;have s1:=J.size;have bw:=ab.size;refine (H6 ((h.ext J).ext ab) aH).mono ?_;rintro bx aS _ ⟨an,L,ag,aB⟩;have bz:=an.size;have bA:W<ay.heap.size:=by
  obtain⟨⟨aJ,bC,_,_,aT⟩,⟨_,_,bD⟩,aU,aV⟩:=id az;have bE:=kw aU.2;obtain⟨_,⟨_,aW⟩|⟨cap,cs,_,aX,_⟩⟩:=aT
  .rw[aV] at aW;omega
  .exact aX.lt
 have bF:=ag.1.length_eq;rw[eK mZ.u aB];refine bZ.range L.length (λi X=>af (λr=>r=W) aS X/\ ∃cs,cM X am W aD szs k cs/\hj szs (hg (L.take i) o) cs) Ω ⟨af.refl _ _,_,az.ext an,by rw[List.take_zero];exact H8 I.2 o⟩ ?_ ?_
 .rintro i X aY hi ⟨ah,cs,ap,ai⟩ aZ;simp only[ao,ad];refine⟨λ_=>?_,λh=>Ω⟩;obtain⟨⟨t,c⟩,Y⟩:∃p,L[i]? =σ p:=⟨_,y0 hi⟩;have a1:(t,c)∈D:=ag.1.mem_iff.1 (x6 Y);obtain⟨a2,a6,a7⟩:=aO _ a1;have a8:=ak.V aB ah λr aC ba he=>by
   have he:r=W:=he;rcases ba with h|h
   .have h:ay.heap.size<=r:=h;omega
   .exact h
  refine im (α:=List Int×Int) fo.p rfl mZ.u fo.i a8 Y λus bb=>?_;obtain⟨bG,bc,A,B,rfl,bH,bI,_,h1,bd⟩:=bb;have be:bc=[Δ c]:=bd;subst be;obtain⟨bf,rfl,_⟩:=id h1;have hu:=dR h1;refine bt fo.i λbg bK bL bh aE=>?_;refine bJ (vs:=[bf,Δ c]) fo.i rfl rfl (by intro v aF;simp at aF;rcases aF with rfl|rfl;exact hu.cells.2;rfl) aE λbi bj bM aG=>?_;have bN:=aE.lt;have aq:Ext X bi:=bh.then bj (λr aC he=>by have he:r=bg:=he;omega);rw[aa fo.p rfl,ac Ψ (aG.cell (o:=0+0) rfl),aa fo.p rfl,ac Ψ (aG.cell (o:=0+1) rfl)];refine (xp (ap.ext aq) (hu.ext aq)).mono ?_;rintro _ bO _ ⟨rfl,bk,bl⟩;simp only[aN];refine aZ _ ⟨(ah.trans (aq.V _)).trans bk,_,bl,(ai.put I.2 a2 a6).congr λs bP=>?_⟩;rw[r9,Y];have au:(L.map (·.1)).Nodup:=(ag.1.map (·.1)).nodup_iff.2 ax;have bm:∀p∈L.take i,p.1≠t:=λp ae he=>by
   obtain⟨j,av⟩:=Y7.1 ae;have bn:j<i:=by have:=(x4.1 av).1;rw[o7] at this;omega
   rw[Y2 bn] at av;have:=i7 au (i:=j) (j:=i) (x:=t) (by rw[x8,av,Y0,he]) (by rw[x8,Y];rfl);omega
  have bo:((L.take i).map (·.1)).Nodup:=by rw[List.map_take];exact (List.take_sublist _ _).nodup au
  have bp:((L.take i++[(t,c)]).map (·.1)).Nodup:=by
   have e:L.take i++[(t,c)]=L.take (i+1):=by rw[r9,Y];rfl
   rw[e,List.map_take];exact (List.take_sublist _ _).nodup au
  exact ((yS bm a7).cost bo bp s).symm
 .rintro X aY ⟨ah,cs,ap,ai⟩;simp only[ao,ad];refine⟨λh=>Ω,λ_=>?_⟩;rw[o9] at ai;exact⟨((J.trans ab).trans an).then ah (λr aC he=>by have he:r=W:=he;omega),λh=>Ω,λ_=>⟨am,W,aD,cs,rfl,Ω,Ω,ap,ai.congr λs _=>H7 ax ag.1 s⟩⟩
theorem Ia {s cs:List Int} (I:dS s) (J:cs.length=(aL s).toNat) {i:Nat} (h:(bu s)[i]? =σ t):cs[i]? =σ (cW s cs t):=by
 have hi:=(x4.1 h).1;rw[h2 I,<-J] at hi;unfold cW;rw[oF I h];simp only[j9,u4,y0 hi,S1]
theorem nG {k:o5} {g:Nat} (h:aq k e w g v l) (J:0<l.length):g<w.heap.size:=by
 obtain⟨_,⟨_,h1⟩|⟨_,_,_,I,_⟩⟩:=h
 .omega
 .exact I.lt
def e4 (w:x2) (g m:Nat) (sv:x1) (gs:Nat) (szs:List Int) (k o:Int) (D:Told):Prop:=
 ae w g eY [sv,Δ k,Δ o,.map (σ m)]/\aq .i64 ab w gs sv szs/\cN w m (D.map iu)/\bR szs/\cL o k/\ ∀p∈D,c0 szs p.1/\cL p.2 k/\p.2≠o
theorem e4.is {g:Nat} {D:Told} (h:e4 w g m sv gs szs k o D):eh w g m szs k o D:=⟨⟨sv,gs,h.1,h.2.1⟩,h.2.2⟩
theorem eh.at {g:Nat} {D:Told} (h:eh w g m szs k o D):∃sv gs,e4 w g m sv gs szs k o D:=by
 obtain⟨⟨sv,gs,h1,I⟩,J⟩:=h;exact⟨sv,gs,h1,I,J⟩
theorem e4.ext {g:Nat} {D:Told} (h:e4 w g m sv gs szs k o D) (I:Ext w w'):e4 w' g m sv gs szs k o D:=by
 obtain⟨h1,J,U,V⟩:=h;exact⟨h1.ext I,J.ext I,U.ext I,V⟩
theorem e4.V {g:Nat} {D:Told} (h:e4 w g m sv gs szs k o D) (J:af S w w') (U:¬S g) (hm:¬S m) (I:∀r,leads sv r->¬S r):e4 w' g m sv gs szs k o D:=by
 obtain⟨h1,W,X,Y⟩:=h;exact⟨h1.V J U,bb W J I,X.V J hm,Y⟩
theorem rj {g:Nat} {d:List (x1×x1)} (h:ae w g e cs) (hm:cN w m d):g≠m:=by
 rintro rfl;obtain⟨I,c,h1,_⟩:=hm;unfold ae at h;rw[h1] at h;cases h
theorem zL {g:Nat} {k:o5} {d:List (x1×x1)} (h:aq k e w g v l) (hm:cN w m d) {r:Nat} (I:leads v r):r≠m:=by
 obtain⟨rfl,_⟩:=bA h I;obtain⟨_,⟨rfl,_⟩|⟨_,_,_,J,_⟩⟩:=h
 .obtain⟨a,n,c,h,_⟩:=I;cases h
 .exact rj J hm
theorem e4.put {g:Nat} {D I:Told} (h:e4 w g m sv gs szs k o D) (J:af (λr=>r=m) w w') (h':eh w' g m szs k o I):e4 w' g m sv gs szs k o I:=
 ⟨h.1.V J (λhe=>rj h.1 h.2.2.1 he),bb h.2.1 J (λr U he=>zL h.2.1 h.2.2.1 U he),h'.2⟩
theorem e4.oN {g:Nat} {D:Told} (h:e4 w g m sv gs szs k o D):g<w.heap.size/\m<w.heap.size/\ ∀r,leads sv r->r<w.heap.size:=
 ⟨h.1.lt,h.2.2.1.lt,λr I=>by obtain⟨rfl,J⟩:=bA h.2.1 I;exact J⟩
instance (s t:List Int):Decidable (c0 s t):=decidable_of_iff ((cq s t 0).isSome=true) ⟨λh=>by
 cases I:cq s t 0 with
 |none=>rw[I] at h;cases h
 |some n=>exact⟨n,I⟩,λ⟨n,h⟩=>by rw[h];rfl⟩
theorem rk (h:aI .i64 w sv l) (ap:l.length<=1000000):aj x3 wK [sv] w λv w'=>Ext w w'/\ ∃g,w.heap.size<=g/\aq .i64 ab w' g v l:=by
 refine aA func154 ?_;rw[aS ax.u h];refine iS (k:=.i64) ah.u ab.i Ω Ω λg U au W X=>?_;have ac:aq .i64 ab U g (.slice (σ ⟨g,0,ν⟩) l.length l.length) (o6 l.length 0):=by
  have:=bQ.full (k:=1) (n:=l.length) X Ξ (by simp[maxLen];omega);exact aq.of this
 rw[aS ax.u (h.ext W)];have av:=X.lt;refine bZ.range l.length (λi I=>af (λr=>r=g) U I/\aq .i64 ab I g (.slice (σ ⟨g,0,ν⟩) l.length l.length) (l.take i++o6 (l.length-i) 0)) h.le ⟨af.refl _ _,by simpa using ac⟩ ?_ ?_
 rotate_left
 .rintro I ae ⟨V,J⟩;rw[ao,ad];rw[o9,W7,List.replicate_zero,V4] at J;exact⟨λh=>Ω,λ_=>⟨W.then V (λr ag he=>by have he:r=g:=he;omega),g,Ω,J⟩⟩
 rintro i I ae hi ⟨V,J⟩ ai;obtain⟨x,Y⟩:∃x,l[i]? =σ x:=⟨_,y0 hi⟩;have ak:Ext w I:=W.then V (λr ag he=>by have he:r=g:=he;omega);rw[ao,ad];refine⟨λ_=>?_,λh=>Ω⟩;rw[bc ax.u an.i Ψ (h.ext ak) Y];rw[ha rfl ah.u ab.i J Θ];refine hb ab.i J Θ λaw al ay aa=>?_;rw[aN];refine ai _ ⟨V.trans al,?_⟩;have e:(l.take i++o6 (l.length-i) 0).set i x=l.take (i+1)++o6 (l.length-(i+1)) 0:=by
  have am:(l.take i).length=i:=by rw[o7];omega
  rw[U6 _ _ Ω,am,W7,show l.length-i=(l.length-(i+1))+1 by omega,List.replicate_succ,List.set_cons_zero,r9,Y,Z9,V9];rfl
 rw[e] at aa;exact aa
def Ib (w:x2) (l:List Int) (k o:Int) (v:x1) (w':x2):Prop:=
 Ext w w'/\(¬bR l->v= .tuple #[.pointer ν,Δ 1])/\(bR l->¬cL o k->v= .tuple #[.pointer ν,Δ 3])/\
  (bR l->cL o k-> ∃g m sv gs,v= .tuple #[Γ g,Δ 0]/\w.heap.size<=g/\w.heap.size<=m/\(∀r,leads sv r->w.heap.size<=r)/\e4 w' g m sv gs l k o [])
theorem Ic (h:aI .i64 w sv l):aj x3 mV [sv,Δ k,Δ o] w (Ib w l k o):=by
 refine aA func205 ?_;refine aP (λv U=>Ext w U/\ ∃c,v= .bool c/\(c=true↔¬bR l)) ?_ ?_
 .rintro _ U ⟨V,c,rfl,W⟩;rw[bH];refine⟨λab=>⟨V,λ_=>rfl,λh=>absurd h (W.1 ab),λh=>absurd h (W.1 ab)⟩,λaf=>?_⟩;have I:bR l:=Classical.byContradiction λh=>by have:=W.2 h;rw[af] at this;cases this
  have ao:=I.1;refine kq.mono ?_;rintro _ ag _ ⟨rfl,J⟩;by_cases hi:cL o k
  rotate_left
  .simp only[hi,decide_false,bg,X4,bO];exact⟨V.trans J,λh=>absurd I h,λ_ _=>rfl,λ_ h=>absurd h hi⟩
  simp only[hi,decide_true,bg,Y1,aQ];refine (hA ((h.ext V).ext J) Ω).mono ?_;rintro aD ap _ ⟨ac,ai,aq,hm⟩;have au:=hm.ls.cells;refine q0 λm av aw X ak=>?_;rw[cR (cs:=#[aD,Δ k,Δ o,.map (σ m)]) (by obtain⟨_,_,_,_,_,rfl,_⟩:=hm.ls;kernel_rfl)];refine bM λg ax ay Y al=>?_;have s1:=V.size;have az:=J.size;have aB:=ac.size;have aC:=X.size;exact⟨((((V.trans J).trans ac).trans X).trans Y),λh=>absurd I h,λ_ h=>absurd hi h,λ_ _=>⟨g,m,aD,ai,rfl,Ω,Ω,λr am=>by have:=(bA hm am).1;omega,al,(hm.ext X).ext Y,ak.ext Y,I,hi,λp an=>by cases an⟩⟩
 .intro aE ae;rw[aS ah.u h];simp only[bP,ad];refine⟨λaF=>ae _ _ ⟨Ext.refl _,true,rfl,λ_ I=>by have:=I.1;omega,λ_=>rfl⟩,λaG=>?_⟩;refine (yN h).mono ?_;rintro _ ag _ ⟨rfl,J⟩;refine ae _ _ ⟨J,_,rfl,?_⟩;rw[decide_eq_true_eq];exact⟨λaa I=>aa I.2,λaa I=>aa ⟨Ω,I⟩⟩
structure zM where
 szs:List Int
 k:Int
 o:Int
 D:Told
instance MM:ak zM where
 n:=1
 rep _ _ R w cs a:=∃g m sv gs,cs=[Γ g]/\e4 w g m sv gs a.szs a.k a.o a.D/\R g/\R m/\ ∀r,leads sv r->R r
 len:=by rintro _ _ _ _ _ _ ⟨_,_,_,_,rfl,_⟩;rfl
 one:=by rintro _ _ _ _ _ _ ⟨_,_,_,_,rfl,_⟩ u hu;simp at hu;subst hu;rfl
 V:=by
  rintro _ _ R T w w' _ a ⟨g,m,sv,gs,rfl,h1,J,U,W⟩ ad X;obtain⟨Y,aa,ab⟩:=h1.oN;exact⟨g,m,sv,gs,rfl,h1.V ad (X g Y (.inr J)) (X m aa (.inr U)) λr I=>X r (ab r I) (.inr (W r I)),J,U,W⟩
 mono:=by
  rintro _ _ _ R R' w _ a ⟨g,m,sv,gs,rfl,h1,J,U,W⟩ _ ac;obtain⟨Y,aa,ab⟩:=h1.oN;exact⟨g,m,sv,gs,rfl,h1,ac g Y J,ac m aa U,λr I=>ac r (ab r I) (W r I)⟩
 gG:=by
  rintro _ _ R w _ a ⟨g,m,sv,gs,rfl,h1,J,U,W⟩;exact⟨g,m,sv,gs,rfl,h1,.inr J,.inr U,λr I=>.inr (W r I)⟩
abbrev gh:Type:=Rd (List Int)×zM
def pb (k:Int) (x:cd) (f:gh):Prop:=f.1=x.scope/\f.2.szs=x.sizes/\f.2.k=k/\f.2.o=min x.other k/\f.2.D.length<=x.lines.length/\ ∀t,hg f.2.D f.2.o t=ir x k t
theorem Ie {m:Bool} {S R:ai} {x:cd} (h:ak.rep m S R w cs (gg x)):∃ay au bV,cs=[ay,au,Δ x.other,bV]/\ak.rep (α:=List Int) false bp R w [ay] x.scope/\ak.rep (α:=List Int) false bp R w [au] x.sizes/\ak.rep (α:=List (List Int×Int)) false bp R w [bV] x.lines:=by
 obtain⟨V,d1,Y,aa,rfl,_,_,_,h1,W,d2,ab,ac,rfl,_,_,_,I,X,d3,ad,ae,rfl,_,_,_,U,J⟩:=h;have h1:ak.rep (α:=List Int) false bp R w V x.scope:=h1;have I:ak.rep (α:=List Int) false bp R w W x.sizes:=I;have U:X=[Δ x.other]:=U;have J:ak.rep (α:=List (List Int×Int)) false bp R w d3 x.lines:=J;obtain⟨u,rfl⟩:=X7.1 (show V.length=1 from ak.len h1);obtain⟨v,rfl⟩:=X7.1 (show W.length=1 from ak.len I);obtain⟨y,rfl⟩:=X7.1 (show d3.length=1 from ak.len J);subst U;exact⟨u,v,y,rfl,h1,I,J⟩
theorem If {m:Bool} {S R:ai} {p:List Int×Int} (h:ak.rep m S R w cs p):∃aD,cs=[aD,Δ p.2]/\aI .i64 w aD p.1:=by
 obtain⟨J,d1,U,V,rfl,_,_,_,h1,I⟩:=h;obtain⟨u,rfl⟩:=X7.1 (show J.length=1 from ak.len h1);have I:d1=[Δ p.2]:=I;subst I;exact⟨u,rfl,dR h1⟩
structure rl (k:Int) (x:cd):Prop where
 k:right k
 sizes:bR x.sizes
 other:0<=x.other
 lines:lf x.sizes x.lines
 len:x.lines.length<=60000
 scope:x.scope.length<=100001
theorem b0 {k:o5} (h:aI k w v l):∃a n c,v= .slice a n c:=by
 obtain⟨_,b,o,base,cap,rfl,_⟩:=h;exact⟨_,_,_,rfl⟩
theorem Ig {aV:Nat} {bm bn bo:x1} {K:Int} {R:ai} {x:cd} (aW:ae w aV cp [bm,Δ K,bn,bo]) (bq:Seen R w cs (gg x)) (br:rl K x):
  aj x3 sH [Γ aV,.agg cs.toArray] w λv w'=>Ext w w'/\ ∃bl,∃f:gh,v= .agg bl.toArray/\bl.length=2/\Seen (et w.heap.size) w' bl f/\pb K x f:=by
 obtain⟨ay,au,bV,rfl,h1,aX,aJ⟩:=Ie bq;obtain⟨aB,aL,b2,aY,b3,b4⟩:=br;have b5:x.sizes.length<=6:=aL.1;refine aA func155 ?_;refine bM λam U b6 aZ X=>?_;have X:ae U am bX [ay,au,Δ x.other,bV]:=by
  obtain⟨_,_,_,rfl⟩:=kz h1;obtain⟨_,_,_,rfl⟩:=kz aX;obtain⟨_,_,_,rfl⟩:=kz aJ;exact X
 refine bt ck.i λY a1 b7 aM aC=>?_;have aC:ae a1 Y ck [.slice ν 0 0,.pointer ν]:=aC;intro b8 aE _ _;have aO:=(aZ.trans aM).trans aE;have aP:=aM.trans aE;have b9:=aZ.size;have ca:=aM.size;have z3:=aE.size;have cb:=aC.lt;have a2:=aW.ext aO;rw[aa bX.p rfl,ac Ψ ((X.ext aP).cell (o:=0+1) rfl),aw,aa cp.p rfl,ac Ψ (a2.cell (o:=0+1) rfl),
  aa bX.p rfl,ac Ψ ((X.ext aP).cell (o:=0+2) rfl),aw,aa cp.p rfl,ac Ψ (a2.cell (o:=0+1) rfl),ik]
 refine (rk ((dR aX).ext aO) Ω).mono ?_;rintro cc ce _ ⟨al,cg,ch,bu⟩;refine⟨.inl al,?_⟩;have z4:=al.size;have bw:cL (min x.other K) K:=⟨aB,by have:=aB.1;omega,Ω⟩;refine (Ic bu.ls).mono ?_;rintro _ bx _ ⟨aF,_,_,bz⟩;obtain⟨ag,m,sv,gs,rfl,ci,cj,a6,bB⟩:=bz aL bw;rw[aK (v:=Γ ag) rfl,aK (v:=Δ 0) rfl];have z5:=aF.size;have aQ:=(aO.trans al).trans aF;have a7:=(aP.trans al).trans aF;rw[aa bX.p rfl,ac Ψ ((X.ext a7).cell (o:=0+3) rfl)];have a8:=be aJ aQ;rw[eK hr.u a8];refine bZ.range x.lines.length (λi J=>af (λr=>r=m) bx J/\ ∃D,D.length<=i/\e4 J ag m sv gs x.sizes K (min x.other K) D/\ ∀t,hg D (min x.other K) t=jK x K i t) (m8 a8) ⟨af.refl _ _,[],o8 _,bB,λt=>by rw[zB];rfl⟩ ?_ ?_
 .rintro i J bC hi ⟨W,D,ba,an,aR⟩ bD;obtain⟨p,aS⟩:∃p,x.lines[i]? =σ p:=⟨_,y0 hi⟩;have bc:=aY.2 p (x6 aS);have ap:Ext w J:=aQ.then W (λr I he=>by have he:r=m:=he;omega);have bE:=W.size;have bF:ak.rep (α:=List (List Int×Int)) false bp R J [bV] x.lines:=be aJ ap;rw[ao,ad];refine⟨λ_=>?_,λh=>Ω⟩;refine im dH.p rfl hr.u dH.i bF aS λcl bG=>?_;obtain⟨aD,rfl,bd⟩:=If bG;refine bt dH.i λbH cm cn bf bI=>?_;have cq:=bf.size;refine bJ (vs:=[aD,Δ p.2]) dH.i rfl rfl (by intro v av;simp at av;rcases av with rfl|rfl <;> first|exact bd.cells.2|rfl) bI λbK bL cr bg=>?_;have bN:Ext J bK:=bf.then bL (λr I he=>by have he:r=bH:=he;omega);intro ct aT _ _;have ah:=bN.trans aT;have z9:=ah.size;rw[aa dH.p rfl,ac Ψ ((bg.ext aT).cell (o:=0+0) rfl),aa dH.p rfl,ac Ψ ((bg.ext aT).cell (o:=0+1) rfl),aw,aa cp.p rfl,ac Ψ (((aW.ext ap).ext ah).cell (o:=0+1) rfl),ik];have cu:=tv aL bc.1;refine (rk (bd.ext ah) Ω).mono ?_;rintro cw cz _ ⟨ax,cA,cB,bO⟩;refine⟨.inl ax,?_⟩;have cC:=ax.size;refine (yV (c:=min p.2 K) ((an.ext ah).ext ax).is bO.ls).mono ?_;rintro _ cD _ ⟨_,bP⟩;have bQ:cL (min p.2 K) K:=⟨aB,by have:=aB.1;omega,Ω⟩;obtain⟨rfl,bh,bR,bi,bj⟩:=bP ⟨bc.1,bQ⟩;rw[aN];refine bD _ ⟨(W.trans ((ah.trans ax).V _)).trans bh,bR,by have:=bi.2;omega,e4.put ((an.ext ah).ext ax) bh bj,λt=>?_⟩;rw[zD aY.1 aS,bi.cost an.is.nodup bj.nodup];by_cases aG:t=p.1
  .rw[if_pos aG,if_pos aG]
  .rw[if_neg aG,if_neg aG,aR]
 .rintro J bC ⟨W,D,ba,an,aR⟩;have ap:Ext w J:=aQ.then W (λr I he=>by have he:r=m:=he;omega);have bS:Ext U J:=a7.then W (λr I he=>by have he:r=m:=he;omega);have bE:=W.size;rw[ao,ad];refine⟨λh=>Ω,λ_=>?_⟩;rw[aa bX.p rfl,ac Ψ ((X.ext bS).cell (o:=0+0) rfl)];refine (rk ((dR h1).ext ap) Ω).mono ?_;rintro aH cE _ ⟨aI,bT,cF,az⟩;have z12:=aI.size;rw[cR (cs:=#[aH,Γ ag]) (by obtain⟨_,_,_,rfl⟩:=b0 az.ls;kernel_rfl)];have bU:Ext a1 J:=((aE.trans al).trans aF).then W (λr I he=>by have he:r=m:=he;omega);refine bJ (vs:=[aH,Γ ag]) ck.i rfl rfl (by intro v av;simp at av;rcases av with rfl|rfl <;> first|exact az.ls.cells.2|rfl) ((aC.ext bU).ext aI) λbk aU cG bW=>?_;rw[eJ ck.p ck.i rfl bW.range];have bY:e4 bk ag m sv gs x.sizes K (min x.other K) D:=(an.ext aI).V aU (λhe=>by have he:ag=Y:=he;omega) (λhe=>by have he:m=Y:=he;omega) (λr I he=>by have he:r=Y:=he;have:=a6 r I;omega);have b1:aq .i64 ab bk bT aH x.scope:=bb az aU λr I he=>by have he:r=Y:=he;have:=(bA az I).1;omega
  refine⟨(ap.trans aI).then aU (λr I he=>by have he:r=Y:=he;omega),_,(x.scope,⟨x.sizes,K,min x.other K,D⟩),rfl,rfl,?_,rfl,rfl,rfl,rfl,ba,λt=>?_⟩
  .exact⟨[aH],[Γ ag],bp,bp,rfl,λ_ h=>h,λ_ h=>h,λ_ _ h _=>h,kA b1 λr I=>by have:=(bA az I).1;show w.heap.size<=r;omega,
    ⟨ag,m,sv,gs,rfl,bY,by show w.heap.size<=ag;omega,by show w.heap.size<=m;omega,λr I=>by have:=a6 r I;show w.heap.size<=r;omega⟩⟩
  .rw[aR,zC]
theorem Ih {S R:ai} {f:gh} (h:ak.rep false S R w cs f):ak.rep (α:=gh) true bp R w cs f:=by
 obtain⟨c,d,A,B,rfl,h1,U,_,I,J⟩:=h;exact⟨c,d,bp,bp,rfl,λ_ h=>h,λ_ h=>h,λ_ _ h _=>h,I,J⟩
def rm (k:Int) (I:List cd) (bI:List gh):Prop:=bI.length=I.length/\ ∀ (i:Nat) x f,I[i]? =σ x->bI[i]? =σ f->pb k x f
theorem Ii {I:Nat} {m:Bool} {S R:ai} {aE au aM:x1} {K:Int} {W:List cd} {a1:x2->Prop} (a2:ae w I cp [aE,Δ K,au,.slice ν 0 0])
  (bo:ak.rep m S R w [aM] (show List gB from W.map gg)) (bq:∀r,S r\/R r->r≠I) (br:∀x∈W,rl K x) (cb:W.length<=256)
  (bu:∀w' Y,∀bI:List gh,af (λr=>r=I) w w'->ae w' I cp [aE,Δ K,au,Y]->Seen (λr=>w.heap.size<=r) w' [Y] bI->rm K W bI->a1 w'):
  bZ (Δ 0) w λaO al bw=>
   J x3 (aB .lss ab false false aO (Δ (W.length:Int))) al λbx=>
   Split bx (J x3 (n0 hX aM aO) al λbz=>
   J x3 (x5 bX bz) al λbA=>
   az x3 (S6 bX true (.tuple #[])) al λx bB=>
   az x3 (o4 bX x bA) bB λ(_:Unit) bC=>
   cj bC λah=>
   J x3 (aX (Γ I)) ah λan=>
   J x3 (x7 cp an 3) ah λap=>
   J x3 (x5 dm ap) ah λaP=>
   J x3 (x5 bX x) ah λbD=>
   aj x3 sH [(Γ I),bD] ah λbE aq=>
    (Ext ah aq\/bk x3 (x5 dm ap) aP aq/\bk x3 (x7 cp an 3) ap aq/\bk x3 (aX (Γ I)) an aq/\True)/\
   az x3 (Z7 dm 1 #[(0,bE)]) aq λbF av=>
    (Ext ah av\/bk x3 (x5 dm ap) aP av/\bk x3 (x7 cp an 3) ap av/\bk x3 (aX (Γ I)) an av/\True)/\
    az x3 (l7 #[dm,dm] dm #[aP,bF]) av λbG aQ=>
     J x3 (aX (Γ I)) aQ λbH=>
     J x3 (x7 cp bH 3) aQ λbK=>
     az x3 (o4 dm bK bG) aQ λ(_:Unit) a6=>
     J x3 (aB .add ab false true aO (Δ 1)) a6 λbL=>
   bw bL a6) (a1 al):=by
 have cc:=a2.lt;have ce:(W.map gg).length=W.length:=Ξ
 refine bZ.range W.length (λi U=>af (λr=>r=I) w U/\ ∃Y,∃bI:List gh,∃A R':ai,ae U I cp [aE,Δ K,au,Y]/\bf A R' U [Y] bI/\(∀r,A r->w.heap.size<=r/\r<U.heap.size)/\(∀r,R' r->w.heap.size<=r/\¬A r/\r<U.heap.size)/\rm K (W.take i) bI) Ω
  ⟨af.refl _ _,_,[],bp,bp,a2,fs,λ_ h=>h.elim,λ_ h=>h.elim,rfl,λi x f h=>by simp at h⟩ ?_ ?_
 rotate_left
 .rintro U bM ⟨ax,Y,bI,A,R',ay,aR,ag,aA,aF⟩;rw[o9] at aF;rw[ao,ad];refine⟨λh=>Ω,λ_=>bu U Y bI ax ay (ou aR λr _ h=>?_) aF⟩;exact h.elim (λh=>(ag r h).1) λh=>(aA r h).1
 rintro i U bM hi ⟨ax,Y,bI,A,R',ay,aR,ag,aA,a7,aF⟩ bN;obtain⟨x,aS⟩:∃x,W[i]? =σ x:=⟨_,y0 hi⟩;have bO:=br x (x6 aS);have cg:=ax.size;rw[o7] at a7;have bP:ak.rep m S R U [aM] (show List gB from W.map gg):=ak.V bo ax λr _ h he=>bq r h he;rw[ao,ad];refine⟨λ_=>?_,λh=>Ω⟩;refine im (α:=gB) (a:=gg x) bX.p rfl hX.u bX.i bP (by show (W.map gg)[i]? =_;rw[x8,aS];rfl) λcs aT=>?_;have a8:cs.length=4:=ak.len aT;have bQ:Seen (λr=>S r\/R r) U cs (gg x):=ou aT λr _ h=>h;refine bt bX.i λam ch ci ba bR=>?_;have cl:=ba.size;refine bJ (vs:=cs) bX.i a8 rfl (ak.one aT) bR λbS bT cm bU=>?_;have bV:Ext U bS:=ba.then bT (λr X he=>by have he:r=am:=he;omega);intro aG bb _ _;have aC:=bV.trans bb;have z4:=aC.size;rw[aw,aa cp.p rfl,ac Ψ ((ay.ext aC).cell (o:=0+3) rfl),bn bX.p bX.i a8 (bU.ext bb).range];refine (Ig (ay.ext aC) (be bQ aC) bO).mono ?_;rintro _ aH _ ⟨aI,bl,f,rfl,cn,bc,bW⟩;have z5:=aI.size;refine⟨.inl aI,?_⟩;have bd:=Ih bc;have bY:=aC.trans aI;refine gK (α:=gh) (a:=f) (cs:=bl) (A:=bp) (R:=et aG.heap.size) dm.u ck.i Φ (by
  obtain⟨c,d,cq,cr,he,_,_,_,aJ,b0⟩:=bc;have aJ:ak.rep (α:=List Int) false bp _ aH c f.1:=aJ;obtain⟨u,rfl⟩:=X7.1 (show c.length=1 from ak.len aJ);obtain⟨ct,cu,cw,cz,rfl,_⟩:=b0;obtain⟨_,_,_,rfl⟩:=kz aJ;cases he;rfl) bd λu aU aK _ hu=>?_
 have cA:=aK.size;refine⟨.inl (aI.trans aK),?_⟩;have aV:=bY.trans aK;have b1:bf A (λr=>R' r\/(aG.heap.size<=r/\r<aH.heap.size)) aU [Y] bI:=be (ak.mono aR (λ_ _ h=>h) λ_ _ h=>.inl h) aV;have b2:bf bp (λr=>R' r\/(aG.heap.size<=r/\r<aH.heap.size)) aU bl f:=be (ak.mono bd (λ_ _ h=>h) λr X h=>.inr ⟨h,X⟩) aK;refine lY (α:=gh) (a:=f) (A:=bp) dm.u ck.i rfl b1 hu b2 (λr _ bg h=>?_) Ω Ω λbh b3 aW aY=>?_
 .rcases h with h|h|h
  .exact h
  .exact (aA r h).2.1 bg
  .have:=(ag r bg).2;omega
 have cB:=aY.size;rw[aw,aa cp.p rfl];have b4:=(ay.ext aV).V aY (λhe=>by have:=(ag _ he).1;omega);refine bj (g:=I) (o:=3) dm.i (jy aW) (ga aW) b4 Ξ λb5 bi cC aZ=>?_;have aZ:ae b5 I cp [aE,Δ K,au,bh]:=aZ;rw[aN];have b6:=ko aW;refine bN _ ⟨(gb (ax.trans (aV.V _)) aY λr X he=>by have:=(ag _ he).1;omega).trans bi,bh,bI++[f],λr=>((A r\/bp r\/aU.heap.size<=r)/\r<b3.heap.size),λr=>R' r\/(aG.heap.size<=r/\r<aH.heap.size),aZ,ak.V b6 bi λr _ h he=>?_,λr X=>?_,λr X=>?_,?_,λj b7 b8 aL aD=>?_⟩
 .have he:r=I:=he;rcases h with h|h|h
  .rcases h.1 with h1|h1|h1
   .have:=(ag _ h1).1;omega
   .exact h1
   .omega
  .have:=(aA r h).1;omega
  .omega
 .have cD:=X.2;rcases X.1 with h1|h1|h1
  .have:=(ag _ h1).1;omega
  .exact h1.elim
  .omega
 .rcases X with X|X
  .have bm:=aA r X;refine⟨bm.1,λh=>?_,Ω⟩;rcases h.1 with h1|h1|h1
   .exact bm.2.1 h1
   .exact h1
   .omega
  .refine⟨Ω,λh=>?_,Ω⟩;rcases h.1 with h1|h1|h1
   .have:=(ag _ h1).2;omega
   .exact h1
   .omega
 .rw[r8,o7,a7];simp;omega
 .have b9:=(x4.1 aD).1;rw[r8,T1] at b9;rw[Y2 Ω] at aL;by_cases ca:j<bI.length
  .rw[j0 ca] at aD;exact aF j b7 b8 (by rw[Y2 Ω];exact aL) aD
  .rw[Z1 Ω,show j-bI.length=0 by omega] at aD;rw[show j=i by omega,aS] at aL;cases aD;cases aL;exact bW
def jL (w:x2) (J:Nat) (f:bY):Prop:=∃au I U,∃bI:List gh,ae w J cp [bw f.name,Δ f.k,au,I]/\aq .i64 ab w U au f.sizes/\Seen ea w [I] bI/\rm f.k f.funs bI
theorem jL.ext {J:Nat} {f:bY} (h:jL w J f) (I:Ext w w'):jL w' J f:=by
 obtain⟨au,U,V,bI,h1,W,X,Y⟩:=h;exact⟨au,U,V,bI,h1.ext I,W.ext I,be X I,Y⟩
def zN (w:x2) (res:Option bY) (v:x1) (w':x2):Prop:=Ext w w'/\match res with
 |none=>∃n e:Int,v= .tuple #[.pointer ν,Δ n,Δ e]/\e≠0
 |some f=>∃I,∃n:Int,v= .tuple #[Γ I,Δ n,Δ 0]/\jL w' I f
structure Ij (clean:Bool) (so:Option aG) (name:List Int) (k:Int) (sizes:List Int) (acc:List gB) (res:Option bY):Prop where
 nx:∀s,so=σ s->s.toks=[]->clean=true->s.big=false-> ∃fs,acc=fs.map gg/\res=σ ⟨name,k,sizes,fs⟩/\(∀x∈fs,rl k x)/\fs.length<=256/\sizes.length<=1000000
 bad:res≠ν-> ∃s,so=σ s/\s.toks=[]/\clean=true/\s.big=false
theorem Ik {w0:x2} {g:Nat} {A B S R:ai} {m:Bool} {so:Option aG} {name:List Int} {acc:List gB} {res:Option bY} {au aT p:x1} {pl:List Int} {Q:x1->x2->Prop}
  (a2:gf w g gs A B clean so) (av:Ij clean so name k sizes acc res) (bL:aI .i64 w au sizes) (bN:∀r,leads au r->r≠g/\r≠gs) (bP:ak.rep m S R w [aT] acc) (bq:∀r,S r\/R r->r≠g/\r≠gs/\r<w.heap.size)
  (dj:so=ν->True) (dk:g<w.heap.size) (dl:gs<w.heap.size) (bQ:af (λr=>w0.heap.size<=r) w0 w) (dn:w0.heap.size<=g) (dp:w0.heap.size<=gs) (bR:aI .u8 w0 p pl)
  (aE:∀v w',zN w0 res v w'->Q v w'):
  bx (α:=x2->Prop) (λ(I:x2)=>
  J x3 (aX (Γ g)) I λbS=>
  J x3 (x7 b4 bS 1) I λbT=>
  J x3 (x7 eC bT 0) I λbU=>
  J x3 (x5 eB bU) I λbV=>
  J x3 (aB .neq eB false true bV (Δ 0)) I λbW=>
  Split bW (cj I λal=>
   J x3 (aX (Γ g)) al λb1=>
   J x3 (x7 b4 b1 1) al λb2=>
   J x3 (x7 eC b2 2) al λb3=>
   J x3 (x5 ab b3) al λb5=>
   J x3 (aX (Γ g)) al λb6=>
   J x3 (x7 b4 b6 1) al λb7=>
   J x3 (x7 eC b7 0) al λb8=>
   J x3 (x5 eB b8) al λb9=>
   Q (.tuple #[(.pointer ν),b5,b9]) al)
   (J x3 (aX (Γ g)) I λca=>
   J x3 (x7 b4 ca 1) I λcb=>
   J x3 (x7 eC cb 1) I λcc=>
   J x3 (x5 eB cc) I λcd=>
   J x3 (aB .neq eB false true cd (Δ 0)) I λce=>
   Split ce (cj I λam=>
   J x3 (aX (Γ g)) am λcg=>
   J x3 (x7 b4 cg 1) am λch=>
   J x3 (x7 eC ch 3) am λci=>
   J x3 (x5 ab ci) am λck=>
   J x3 (aX (Γ g)) am λcl=>
   J x3 (x7 b4 cl 1) am λcm=>
   J x3 (x7 eC cm 1) am λcn=>
   J x3 (x5 eB cn) am λcq=>
   Q (.tuple #[(.pointer ν),ck,cq]) am)
   (aj x3 wK [au] I λcr br=>
  J x3 (Instr.build cp #[(0,bw name),(1,Δ k),(2,cr)]) br λct=>
  az x3 (Instr.box cp ct) br λax bt=>
  J x3 (Y3 #[hX] ab #[aT]) bt λcu=>
  bZ (Δ 0) bt λa6 ay cz=>
   J x3 (aB .lss ab false false a6 cu) ay λcA=>
   Split cA (J x3 (n0 hX aT a6) ay λcB=>
   J x3 (x5 bX cB) ay λcC=>
   az x3 (S6 bX true (.tuple #[])) ay λx cD=>
   az x3 (o4 bX x cC) cD λ(_:Unit) cE=>
   cj cE λaq=>
   J x3 (aX ax) aq λaF=>
   J x3 (x7 cp aF 3) aq λaH=>
   J x3 (x5 dm aH) aq λa7=>
   J x3 (x5 bX x) aq λcF=>
   aj x3 sH [ax,cF] aq λcG aJ=>
    (Ext aq aJ\/bk x3 (x5 dm aH) a7 aJ/\bk x3 (x7 cp aF 3) aH aJ/\bk x3 (aX ax) aF aJ/\True)/\
   az x3 (Z7 dm 1 #[(0,cG)]) aJ λcH aL=>
    (Ext aq aL\/bk x3 (x5 dm aH) a7 aL/\bk x3 (x7 cp aF 3) aH aL/\bk x3 (aX ax) aF aL/\True)/\
    az x3 (l7 #[dm,dm] dm #[a7,cH]) aL λcI a8=>
     J x3 (aX ax) a8 λcJ=>
     J x3 (x7 cp cJ 3) a8 λcK=>
     az x3 (o4 dm cK cI) a8 λ(_:Unit) bu=>
     J x3 (aB .add ab false true a6 (Δ 1)) bu λcL=>
   cz cL bu)
    (J x3 (Y3 #[cw] ab #[p]) ay λcM=>
  Q (.tuple #[ax,cM,(Δ 0)]) ay)))) λaU=>
 aj x3 jt [(Γ g)] w λcN aM=>
 Split cN (J x3 (aX (Γ g)) aM λcO=>
  J x3 (x7 b4 cO 0) aM λcP=>
  J x3 (x5 qu cP) aM λcQ=>
  aj x3 sG [cQ] aM λba ap=>
  J x3 (Z8 ba 0) ap λdq=>
  J x3 (Z8 ba 1) ap λbz=>
  J x3 (Z8 ba 2) ap λbb=>
  J x3 (aB .eql eB false true bb (Δ 0)) ap λcS=>
  Split cS (aj x3 lJ [(Γ g),(Δ 4),bz] ap λdr cT=>
  aU cT)
  (J x3 (aB .eql eB false true bb (Δ 11)) ap λcU=>
  Split cU (aj x3 lJ [(Γ g),bb,bz] ap λds cV=>
   aU cV)
   (aU ap)))
  (aU aM):=by
 refine dt (λI=>af (λr=>r=g\/r=gs) w I/\ ∃ (e big an ao told:Int) (sv:x1),ae I g b4 (e2 gs e big an ao told sv)/\((e≠0/\res=ν)\/(e=0/\ ∃s,so=σ s/\s.toks=[]/\clean=true/\(s.big=true↔big≠0)))) ?_ ?_
 rotate_left
 .intro cW bc;refine (zn a2).mono ?_;rintro _ U _ ⟨rfl,aN⟩;cases so with
  |none=>
   rw[show (ν:Option aG).isSome=false from rfl,aQ];obtain⟨e,big,an,ao,told,sv,X,bd⟩:=a2.ext aN;refine bc _ ⟨aN.V _,e,big,an,ao,told,sv,X,.inl ⟨bd,?_⟩⟩;cases ah:res with
   |none=>rfl
   |some f=>obtain⟨s,h,_⟩:=av.bad (by rw[ah];simp);cases h
  |some s=>
   rw[show (σ s:Option aG).isSome=true from rfl,bO];have cX:cZ U g gs A B s clean:=a2.ext aN;obtain⟨aV,cY,c0,big,an,ao,told,sv,X,bd,c1⟩:=id cX;rw[aw,aa b4.p rfl,ac Ψ (X.cell (o:=0+0) rfl)];refine (oL cY).mono ?_;rintro v aO _ ⟨aA,aC⟩;have c2:(s.toks≠[]\/clean=false)->res=ν:=λW=>by
    cases ah:res with
    |none=>rfl
    |some f=>
     obtain⟨s',h,aP,bA,_⟩:=av.bad (by rw[ah];simp);cases h;rcases W with W|W
     .exact absurd aP W
     .rw[W] at bA;cases bA
   have aW:∀Y,af (λr=>r=g) aO Y->eb Y g gs A B->(s.toks≠[]\/clean=false)->cW Y:=λY aR aW W=>by
    obtain⟨_,e,big,an,ao,told,sv,l,c3,c4,_⟩:=aW;exact bc _ ⟨((aN.V _).trans (aA.mono λr _ h=>.inr h)).trans (aR.mono λr _ h=>.inl h),e,big,an,ao,told,sv,c3,.inl ⟨c4.1,c2 W⟩⟩
   have bf:=X.V aA aV.1;have bC:=ak.V c1 aA λr _ h aP=>by
    have aP:r=gs:=aP;subst aP;rcases h with h|h
    .exact aV.2.2.1 h
    .exact h.1 (.inr (.inl rfl))
   have bD:s.shared.length<=100000:=by have:=c0.2.2;omega
   cases aD:s.toks with
   |cons t l=>
    rw[aD] at aC;obtain⟨du,n,rfl⟩:=aC;rw[aK (v:=bw t) rfl,aK (v:=Δ n) rfl,aK (v:=Δ 0) rfl,bi,ad];refine⟨λ_=>?_,λh=>absurd rfl h⟩;refine (qS (aV.V aA) bf bC Ω bD).mono ?_;rintro _ Y _ ⟨aR,bg⟩;exact aW Y aR bg (.inl (by rw[aD];simp))
   |nil=>
    rw[aD] at aC;obtain⟨n,rfl⟩:=aC;rw[aK (v:=bw []) rfl,aK (v:=Δ n) rfl,aK (v:=Δ (if clean then 2 else 11)) rfl,bi,ad];refine⟨λh=>by cases clean <;> simp at h,λ_=>?_⟩;rw[bi,ad];cases aY:clean with
    |true=>
     subst aY;refine⟨λh=>by simp at h,λ_=>bc _ ⟨(aN.V _).trans (aA.mono λr _ h=>.inr h),0,big,an,ao,told,sv,bf,.inr ⟨rfl,s,rfl,aD,rfl,bd.1⟩⟩⟩
    |false=>
     subst aY;refine⟨λ_=>?_,λh=>absurd rfl h⟩;refine (qS (aV.V aA) bf bC Ξ bD).mono ?_;rintro _ Y _ ⟨aR,bg⟩;exact aW Y aR bg (.inr rfl)
 .rintro U ⟨aZ,e,big,an,ao,told,sv,X,c5⟩;have dv:=aZ.size;have bh:Ext w0 U:=(bQ.ext λr ah h=>Ω).then aZ (λr ah h=>by rcases h with h|h <;> omega);rw[aw,aa b4.p rfl,aa eC.p rfl,ac Ψ (X.cell (o:=0+1+0) rfl),bB,ad];rcases c5 with⟨he,bj⟩|⟨rfl,s,rfl,aD,aY,bE⟩
  .refine⟨λ_=>?_,λh=>absurd he h⟩;intro aO ag _ _;rw[aw,aa b4.p rfl,aa eC.p rfl,ac Ψ ((X.ext ag).cell (o:=0+1+2) rfl),aw,aa b4.p rfl,aa eC.p rfl,ac Ψ ((X.ext ag).cell (o:=0+1+0) rfl)];rw[bj] at aE;exact aE _ _ ⟨bh.trans ag,an,e,rfl,he⟩
  .refine⟨λh=>absurd rfl h,λ_=>?_⟩;rw[aw,aa b4.p rfl,aa eC.p rfl,ac Ψ (X.cell (o:=0+1+1) rfl),bB,ad];refine⟨λW=>?_,λW=>?_⟩
   .have bj:res=ν:=by
     cases ah:res with
     |none=>rfl
     |some f=>
      obtain⟨s',h,_,_,bF⟩:=av.bad (by rw[ah];simp);cases h;rw[bE.2 W] at bF;cases bF
    intro aO ag _ _;rw[aw,aa b4.p rfl,aa eC.p rfl,ac Ψ ((X.ext ag).cell (o:=0+1+3) rfl),aw,aa b4.p rfl,aa eC.p rfl,ac Ψ ((X.ext ag).cell (o:=0+1+1) rfl)];rw[bj] at aE;exact aE _ _ ⟨bh.trans ag,ao,big,rfl,W⟩
   .have c6:s.big=false:=by
     cases c7:s.big with
     |false=>rfl
     |true=>exact absurd (bE.1 c7) W
    obtain⟨bl,rfl,rfl,c8,c9,da⟩:=av.nx s rfl aD aY c6;have db:aI .i64 U au sizes:=io bL aZ λr ah a n c aC av=>by
     have:=bN r ⟨a,n,c,aC,av⟩;exact ah.elim this.1 this.2
    refine (rk db da).mono ?_;rintro bm aO _ ⟨ag,dc,dw,bn⟩;have dx:=ag.size;rw[cR (cs:=#[bw name,Δ k,bm,.slice ν 0 0]) (by obtain⟨_,_,_,rfl⟩:=b0 bn.ls;kernel_rfl)];refine bM λbo Y dy bp a1=>?_;have a1:ae Y bo cp [bw name,Δ k,bm,.slice ν 0 0]:=by obtain⟨_,_,_,rfl⟩:=b0 bn.ls;exact a1
    have bG:ak.rep m S R Y [aT] (show List gB from bl.map gg):=be (be (ak.V bP aZ λr _ h he=>by have:=bq r h;exact he.elim this.1 this.2.1) ag) bp;have dd:(bl.map gg).length=bl.length:=Ξ
    rw[eK hX.u bG,dd];refine Ii a1 bG (λr h=>by have:=bq r h;omega) c8 c9 λbH de bI df dg dh di=>?_;have dz:=a1.lt;have z3:=bp.size;have bJ:Ext aO bH:=bp.then df (λr ah h=>by have h:r=bo:=h;omega);have bK:Ext w0 bH:=(bh.trans ag).trans bJ;rw[aS cw.u (bR.ext bK)];exact aE _ _ ⟨bK,bo,_,rfl,bm,de,dc,bI,dg,bn.ext bJ,hz dh,di⟩
theorem zO {α:Type} {f:List α->aG->Option (α×aG)} {acc:List α} {s:aG}:eS f (n+1) acc (σ s)=match f acc s with
  |none=>ν
  |some (a,s')=>eS f n (acc++[a]) (σ s'):=by
 show cz f (n+1) acc s=_;simp only[cz];cases f acc s <;> rfl
theorem Il {g:Nat} {A B:ai} {s:Option aG} {most:Int} {aA:x1->x2->Prop} (h:c3 w g gs A B clean s) (a2:(N:Int)<=av)
  (aC:∀au w' l so I,af (bq g gs A) w w'->c3 w' g gs A B clean so->aq .i64 an w' I au l->w.heap.size<=I->l.length<=100001->(∀q,eS (fd most) N [] s=σ q->so=σ q.2/\l=q.1)->(eS (fd most) N [] s=ν->so=ν)->aA au w'):
 bC (.slice ν 0 0) (Δ 0) w λsizes i ae k=>
  bx (α:=x1->x2->Prop) (λ(a6:x1) (aD:x2)=>
   Split a6 (aj x3 lI [Γ g,(Δ 1),Δ most] aD λaE aa=>
  J x3 (Z8 aE 0) aa λaF=>
  J x3 (Z8 aE 1) aa λa7=>
  J x3 (aB .gtr an false true aF (Δ 32)) aa λa8=>
  aj x3 oj [Γ g,a8,a7] aa λbT bc=>
  az x3 (Z7 ax 1 #[(0,aF)]) bc λbd be=>
  az x3 (l7 #[ax,ax] ax #[sizes,bd]) be λbf aH=>
  J x3 (aB .add an false true i (Δ 1)) aH λbg=>
  k bf bg aH) (aA sizes aD)) λah=>
  J x3 (aB .lss an false false i (Δ (N:Int))) ae λbh=>
  Split bh (aj x3 jt [Γ g] ae λbi bj=>
  ah bi bj)
   (ah (.bool false) ae):=by
 obtain⟨bU,aI,bV,bk,bl⟩:=h.side;have ag:∀r,bq g gs A r->r<w.heap.size:=bk;unfold av at a2;generalize bm:eS (fd most) N [] s=aJ at aC;refine⟨λout ak U=>∃ (i:Nat) (l:List Int) (so:Option aG) (I:Nat),ak=Δ (i:Int)/\i<=N/\af (bq g gs A) w U/\aq .i64 an U I out l/\w.heap.size<=I/\c3 U g gs A B clean so/\aJ=eS (fd most) (N-i) l so/\l.length<=100001/\ ∀st,so=σ st->l.length+st.toks.length<=100000,
  λ_ ak _=>N-(bL ak).toNat,⟨0,[],s,w.heap.size,rfl,Y9 _,af.refl _ _,aq.nil _ _ _ _,o8 _,h,bm.symm,Ξ,λst bn=>?_⟩,?_⟩
 .subst bn;have:=h.words;simpa using this
 rintro out _ U ⟨i,l,so,I,rfl,bW,al,aL,bo,aM,ab,bp,aO⟩;refine aP (λv aR=>Ext U aR/\((v= .bool true/\i<N/\ ∃st,so=σ st)\/(v= .bool false/\(so=ν\/i=N)))) ?_ ?_
 rotate_left
 .intro ah am;rw[ao,ad];refine⟨λbr=>?_,λbX=>am _ _ ⟨Ext.refl _,.inr ⟨rfl,.inr Ω⟩⟩⟩;refine (nB aM).mono ?_;rintro _ aR _ ⟨rfl,aS⟩;cases so with
  |none=>exact am _ _ ⟨aS,.inr ⟨rfl,.inl rfl⟩⟩
  |some st=>exact am _ _ ⟨aS,.inl ⟨rfl,Ω,st,rfl⟩⟩
 rintro _ bt ⟨Y,bu⟩;have aT:=aL.ext Y;have aV:=aM.ext Y;rcases bu with⟨rfl,br,st,rfl⟩|⟨rfl,bw⟩
 rotate_left
 .rw[aQ];have aW:aJ=so.map λst=>(l,st):=by
   rcases bw with rfl|rfl
   .exact ab
   .rw[W7] at ab;rw[ab];cases so <;> rfl
  refine aC out bt l so I (al.trans (Y.V _)) aV aT bo bp (λq W=>?_) λaX=>?_
  .rw[aW] at W;cases so with
   |none=>cases W
   |some st=>cases W;exact⟨rfl,rfl⟩
  .rw[aW] at aX;cases so with
   |none=>rfl
   |some st=>cases aX
 rw[bO];have aO:=aO st rfl;refine (ky (s:=σ st) aV).mono ?_;rintro _ bY _ ⟨ap,z,at_,rfl,bz,bZ⟩;obtain⟨aw,bB⟩:=ap.of;rw[aK (v:=Δ z) rfl,aK (v:=Δ at_) rfl,bP];refine (o0 bB).mono ?_;rintro _ b0 _ ap;obtain⟨ay,bD⟩:=ap.of;refine dJ ax.u an.i rfl λa aU bE b1 ac bF=>?_;have b2:=al.size;have b3:=Y.size;have z3:=aw.size;have z4:=ay.size;have z5:=ac.size;have aY:∀r,leads out r->¬bq g gs A r:=λr X bG=>by have:=ag r bG;have:=(bA aL X).1;omega
 have bH:=bb (bb aT aw aY) ay aY;refine hy ax.u an.i rfl (bH.ext ac) bF.ls Θ Θ λb4 bI bJ b5 bK a1=>?_;rw[aN,wrap_i64 Ω Ω];have bM:af (bq g gs A) w bE:=((((al.trans (Y.V _)).trans aw).trans ay).trans (ac.V _));have bN:af (bq g gs A) w bJ:=gb bM a1 λr X he=>by have he:r=I:=he;omega
 have bQ:∀r,bq g gs A r->¬(λr=>r=I) r:=λr X he=>by have:=ag r X;have he:r=I:=he;omega
 have bR:∀r,cn g gs A B r->¬(λr=>r=I) r:=λr X he=>by have:=bl r X.2;have he:r=I:=he;omega
 refine⟨⟨i+1,l++[z],_,bI,rfl,Ω,bN,bK,Ω,(bD.ext ac).V a1 bQ bR,?_,Θ,λb6 bS=>?_⟩,by simp only[bL];omega⟩
 .rw[ab,show N-i=(N-(i+1))+1 by omega,zO];unfold fd;cases W:ba 1 most st with
  |none=>have e:aZ 1 most (σ st)=ν:=W;rw[e];rfl
  |some q=>
   have e:aZ 1 most (σ st)=σ q:=W;have:=bz q e;subst this;rw[e];rfl
 .obtain⟨b7,aI,rfl⟩:=Y8.1 bS;obtain⟨q,W,rfl⟩:=Y8.1 aI;have h1:=(dh (n:=q.1) (s':=q.2) W).1;simp only[r8,T1];show l.length+1+q.2.toks.length<=100000;omega
theorem Im {acc:List (List Int×Int)} {s s':aG} {a:List Int×Int} (h:dw sizes acc s=σ (a,s')):s'.told=s.told/\s'.big=s.big:=by
 obtain⟨_,_,_,I⟩:=nt h;exact⟨I.eqs.1,I.eqs.2.1⟩
theorem In {s s':aG} {l:List (List Int×Int)} (hi:dy s) (h:dx sizes s=σ (l,s')):dy s'/\(s.big=true->s'.big=true):=by
 have e:=zk sizes (σ s);rw[show hG sizes (σ s)=dx sizes s from rfl,h] at e;cases V:aZ (-av) av (σ s) with
 |none=>rw[V] at e;cases e
 |some q=>
  obtain⟨n,s1⟩:=q;rw[V] at e;simp only at e;have h1:=(dh (n:=n) (s':=s1) V).eqs;have X:dy s1:=λJ=>by rw[h1.1];rw[h1.2.1] at J;exact hi J
  split at e
  .cases I:s1.shared[(-n-1).toNat]? with
   |none=>rw[I] at e;cases e
   |some q=>
    obtain⟨z,l'⟩:=q;rw[I] at e;simp only at e;split at e
    .cases e;exact⟨X,λJ=>by rw[h1.2.1];exact J⟩
    .cases e
  .have:=iX (f:=dw sizes) (λacc t=>t.told=(ix n s1).told/\t.big=(ix n s1).big) (λacc t a Y ⟨W,U⟩ g=>by
    have:=Im g;exact⟨by rw[this.1,W],by rw[this.2,U]⟩) n.toNat [] _ l s' ⟨rfl,rfl⟩ e.symm
   obtain⟨⟨W,U⟩,_⟩:=this;refine⟨λJ=>by rw[W];rw[U] at J;exact HH n s1 J,λJ=>?_⟩;rw[U];show (s1.big||_)=true;rw[h1.2.1,J];rfl
theorem Io {s s':aG} {x:cd} (hi:dy s) (h:cS all s=σ (x,s')):dy s'/\s'.toks.length<s.toks.length:=by
 unfold cS at h;cases V:ba (-av) av s with
 |none=>rw[V] at h;cases h
 |some q=>
 obtain⟨a,s1⟩:=q;rw[V] at h;simp only at h;have t0:=dh V;cases h1:eE all.length a.natAbs s1 with
 |none=>rw[h1] at h;cases h
 |some q=>
 obtain⟨sc,J⟩:=q;rw[h1] at h;simp only at h;obtain⟨W,_⟩:=tl h1;generalize sc.map (λv=>all.getD v.toNat 0)=sizes at h;cases X:ba 0 av (a1 (decide (6<a.natAbs)||c6 sizes) J) with
 |none=>rw[X] at h;cases h
 |some q=>
 obtain⟨other,Y⟩:=q;rw[X] at h;simp only at h;have aa:=dh X;have ae:dy Y:=λI=>by
  rw[aa.eqs.1];rw[aa.eqs.2.1] at I;have I:(J.big||_)=false:=I;have ac:=(S0.1 I).1;show J.told<=16384;rw[W.eqs.1,t0.eqs.1];rw[W.eqs.2.1,t0.eqs.2.1] at ac;exact hi ac
 cases U:dx sizes Y with
 |none=>rw[U] at h;cases h
 |some q=>
 obtain⟨lines,ab⟩:=q;rw[U] at h;simp only[Y6,T6] at h;obtain⟨_,rfl⟩:=h;have af:=In ae U;have ai:=zr U;have aj:=t0.1;have ak:=W.1;have al:J.toks.length=Y.toks.length+1:=aa.1;have ad:∀t:aG,t.told=ab.told/\t.big=ab.big/\t.toks=ab.toks->dy t/\t.toks.length<s.toks.length:=λt ⟨ag,ah,a3⟩=>⟨λI=>by rw[ag];rw[ah] at I;exact af.1 I,by rw[a3];omega⟩;split
 .exact ad _ ⟨rfl,rfl,rfl⟩
 .exact ad _ ⟨rfl,rfl,rfl⟩
theorem Ip {S R:ai} {x:gB} (h:ak.rep false S R w cs x):ak.rep (α:=gB) true bp R w cs x/\(x1.agg cs.toArray).cells=cs.toArray:=by
 obtain⟨V,d1,Y,aa,rfl,_,_,_,h1,W,d2,ab,ac,rfl,_,_,_,I,X,d3,ad,ae,rfl,_,_,_,U,J⟩:=h;have h1:ak.rep (α:=List Int) false bp R w V x.1:=h1;have I:ak.rep (α:=List Int) false bp R w W x.2.1:=I;have U:X=[Δ x.2.2.1]:=U;have J:ak.rep (α:=List (List Int×Int)) false bp R w d3 x.2.2.2:=J;refine⟨⟨V,_,bp,bp,rfl,λ_ h=>h,λ_ h=>h,λ_ _ h _=>h,h1,W,_,bp,bp,rfl,λ_ h=>h,λ_ h=>h,λ_ _ h _=>h,I,X,d3,bp,bp,rfl,λ_ h=>h,λ_ h=>h,λ_ _ h _=>h,U,J⟩,?_⟩;obtain⟨u,rfl⟩:=X7.1 (show V.length=1 from ak.len h1);obtain⟨v,rfl⟩:=X7.1 (show W.length=1 from ak.len I);obtain⟨y,rfl⟩:=X7.1 (show d3.length=1 from ak.len J);obtain⟨_,_,_,rfl⟩:=kz h1;obtain⟨_,_,_,rfl⟩:=kz I;obtain⟨_,_,_,rfl⟩:=kz J;subst U;rfl
theorem Iq {w0:x2} {g c:Nat} {A B:ai} {o:Option aG} {aq:x1} {a7:x1->x2->Prop} (a8:gf w g gs A B clean o) (hi:∀s,o=σ s->dy s) (bS:(c:Int)<=av)
  (bT:aI .i64 w aq all) (ba:∀r,leads aq r->r≠g/\r≠gs/\r<w.heap.size/\(o≠ν->¬A r)) (bU:o≠ν-> ∀z∈all,1<=z/\z<=av) (bV:all.length<=100001) (bW:eM w) (h1:1<w0.heap.size/\(o≠ν->cn g gs A B 1))
  (bb:af (λr=>w0.heap.size<=r) w0 w) (bY:w0.heap.size<=g) (bZ:w0.heap.size<=gs) (cK:g<w.heap.size/\gs<w.heap.size) (b0:o≠ν-> ∀r,A r->w0.heap.size<=r)
  (bc:∀au w' acc so ac aa bd bg,af (λr=>w0.heap.size<=r) w0 w'->w.heap.size<=w'.heap.size->gf w' g gs ac aa clean so->ak.rep (α:=List gB) true bd bg w' [au] acc->(∀r,bd r\/bg r->r≠g/\r≠gs/\r<w'.heap.size)->aI .i64 w' aq all->
   (∀q,eS (λ_ s=>cS all s) c [] o=σ q->so=σ q.2/\acc=q.1.map gg)->(eS (λ_ s=>cS all s) c [] o=ν->so=ν)->a7 au w'):
 bC (.slice ν 0 0) (Δ 0) w λfuns bh aS b1=>
  bx (α:=x1->x2->Prop) (λ(b2:x1) (bi:x2)=>
   Split b2 (aj x3 wJ [Γ g,aq] bi λb3 b4=>
  az x3 (Z7 hX 1 #[(0,b3)]) b4 λb5 b6=>
  az x3 (l7 #[hX,hX] hX #[funs,b5]) b6 λb7 bj=>
  J x3 (aB .add an false true bh (Δ 1)) bj λb8=>
  b1 b7 b8 bj) (a7 funs bi)) λbk=>
  J x3 (aB .lss an false false bh (Δ (c:Int))) aS λb9=>
  Split b9 (aj x3 jt [Γ g] aS λca cb=>
  bk ca cb)
   (bk (.bool false) aS):=by
 unfold av at bS;generalize X:eS (λ_ s=>cS all s) c [] o=bl at bc;have bm:∀s,o=σ s->o≠ν:=λs h=>by rw[h];simp
 refine⟨λau aT U=>∃ (i:Nat) (acc:List gB) (ah:List cd) (so:Option aG) (ab am ae aw:ai),aT=Δ (i:Int)/\i<=c/\af (λr=>w0.heap.size<=r) w0 U/\w.heap.size<=U.heap.size/\gf U g gs ab am clean so/\ak.rep true ae aw U [au] acc/\
   aI .i64 U aq all/\eM U/\bl=eS (λ_ s=>cS all s) (c-i) ah so/\(∀r,ae r->w.heap.size<=r/\r<U.heap.size)/\(∀r,aw r->r≠g/\r≠gs/\¬ae r)/\
   ∀s,so=σ s->acc=ah.map gg/\dy s/\ah.length+s.toks.length<=100000/\o≠ν/\(∀r,ab r->A r\/w.heap.size<=r)/\(∀r,ab r->w0.heap.size<=r)/\(∀r,B r->am r)/\(∀r,ae r->¬am r/\¬ab r)/\(∀r,aw r->cn g gs ab am r),
  λ_ aT _=>c-(bL aT).toNat,⟨0,[],[],o,A,B,bp,bp,rfl,Y9 _,bb,o8 _,a8,fs,bT,bW,X.symm,λ_ h=>h.elim,λ_ h=>h.elim,λs I=>⟨rfl,hi s I,?_,bm s I,λr W=>.inl W,b0 (bm s I),λr W=>W,λ_ h=>h.elim,λ_ h=>h.elim⟩⟩,?_⟩
 .subst I;have aU:cZ w g gs A B s clean:=a8;have:=aU.2.1.words.1;simpa using this
 rintro au _ U ⟨i,acc,ah,so,ab,am,ae,aw,rfl,cL,cc,cM,bn,ce,aV,bo,aJ,ag,cg,br⟩;refine aP (λv bt=>Ext U bt/\((v= .bool true/\i<c/\ ∃st,so=σ st)\/(v= .bool false/\(so=ν\/i=c)))) ?_ ?_
 rotate_left
 .intro cN aW;rw[ao,ad];refine⟨λbu=>?_,λcO=>aW _ _ ⟨Ext.refl _,.inr ⟨rfl,.inr Ω⟩⟩⟩;refine (zn bn).mono ?_;rintro _ bt _ ⟨rfl,bw⟩;cases so with
  |none=>exact aW _ _ ⟨bw,.inr ⟨rfl,.inl rfl⟩⟩
  |some st=>exact aW _ _ ⟨bw,.inl ⟨rfl,Ω,st,rfl⟩⟩
 rintro _ ax ⟨ap,ch⟩;have cP:=ap.size;have aD:=bn.ext ap;have bz:=be ce ap;have bA:af (λr=>w0.heap.size<=r) w0 ax:=cc.trans (ap.V _);rcases ch with⟨rfl,bu,st,rfl⟩|⟨rfl,ci⟩
 rotate_left
 .rw[aQ];have bB:bl=so.map λst=>(ah,st):=by
   rcases ci with rfl|rfl
   .exact aJ
   .rw[W7] at aJ;rw[aJ];cases so <;> rfl
  refine bc au ax acc so ab am ae (λr=>aw r/\r<ax.heap.size) bA Ω aD (ak.mono bz (λ_ _ h=>h) λr W h=>⟨h,W⟩) (λr W=>?_) (aV.ext ap) (λq al=>?_) λbD=>?_
  .rcases W with W|W
   .have:=ag r W;exact⟨Ω,Ω,Ω⟩
   .have:=cg r W.1;exact⟨this.1,this.2.1,W.2⟩
  .rw[bB] at al;cases so with
   |none=>cases al
   |some st=>cases al;exact⟨rfl,(br _ rfl).1⟩
  .rw[bB] at bD;cases so with
   |none=>rfl
   |some st=>cases bD
 rw[bO];obtain⟨rfl,bE,cQ,aK,bF,aX,bG,aL,bH⟩:=br st rfl;have aD:cZ ax g gs ab am st clean:=aD;obtain⟨cR,cT,cU,cV,cW⟩:=aD.1;have cj:=h1.2 aK;have bI:cn g gs ab am 1:=⟨λX=>by
  rcases X with X|X|X
  .omega
  .omega
  .have:=aX 1 X;omega,bG 1 cj.2⟩
 have bJ:∀r,leads aq r->¬bq g gs ab r/\r<ax.heap.size:=λr W=>by
  obtain⟨ck,cl,cm,cp⟩:=ba r W;refine⟨λX=>?_,Ω⟩;rcases X with X|X|X
  .exact ck X
  .exact cl X
  .rcases bF r X with h|h
   .exact cp aK h
   .omega
 refine (HS aD bE (aV.ext ap) bJ (bU aK) bV (bo.ext ap) bI).mono ?_;rintro _ cq _ ⟨ac,aa,cs,aY,rfl,cX,aE,aF,aZ,bK,bM,cr,ct⟩;have z3:=aE.size;obtain⟨bN,cu⟩:=Ip cr;refine gK (α:=gB) (a:=aY) (cs:=cs) (A:=bp) (R:=cn g gs ac aa) hX.u bX.i Φ cu bN λu aM ay _ hu=>?_;have z4:=ay.size;have cw:∀r,r<ax.heap.size->ae r\/aw r->¬bq g gs ab r:=λr W h X=>by
  rcases h with h|h
  .have Y:=ag r h;rcases X with X|X|X
   .omega
   .omega
   .exact (aL r h).2 X
  .exact (bH r h).1 X
 have cz:∀r,r<ax.heap.size->cn g gs ab am r->cn g gs ac aa r:=λr W h=>⟨λX=>h.1 (X.imp id (Or.imp id λX=>(aF r X).elim id λh'=>Ω)),bK r h.2⟩;have cA:bf ae (cn g gs ac aa) aM [au] (ah.map gg):=be (ak.V (ak.mono (S':=ae) (R':=λr=>cn g gs ac aa r/\aw r) bz (λ_ _ h=>h) λr W h=>⟨cz r W (bH r h),h⟩) aE λr W h=>cw r W (h.imp id λh=>h.2) |> λh=>h) ay |> λh=>ak.mono h (λ_ _ h=>h) λ_ _ h=>h.1;have aO:∀r,ae r->¬aa r:=λr h aR=>by
  have Y:=ag r h;rcases (aZ r aR).1 with aA|aA
  .exact (aL r h).1 aA
  .have a1:=(ag r h).2;omega
 have cY:(ah.map gg).length=ah.length:=Ξ
 refine lY (α:=gB) (a:=aY) (A:=bp) hX.u bX.i rfl cA hu (be bN ay) (λr _ cB h=>?_) Ω Ω λc0 aC cC aH=>?_
 .rcases h with h|h
  .exact h
  .exact aO r cB h.2
 have z5:=aH.size;rw[aN,wrap_i64 Ω Ω];have cD:af (λr=>w0.heap.size<=r) w0 aM:=(bA.trans (aE.mono λr _ X=>by
  rcases X with rfl|rfl|X
  .exact bY
  .exact bZ
  .exact aX r X)).trans (ay.V _)
 have z0:=bb.size;have cE:af (λr=>w0.heap.size<=r) w0 aC:=cD.trans (aH.mono λr _ h=>by have:=(ag r h).1;omega);have cF:aI .i64 aM aq all:=(io (aV.ext ap) aE λr W a n c a2 a6=>(bJ r ⟨a,n,c,a2,a6⟩).1 W).ext ay;have cG:aI .i64 aC aq all:=io cF aH λr W a n c a2 a6=>by
  have cm:=(ba r ⟨a,n,c,a2,a6⟩).2.2.1;have:=(ag r W).1;omega
 have cH:eM aC:=(((bo.ext ap).V aE bI.1).ext ay).V aH λh=>by have:=(ag 1 h).1;omega
 have bP:gf aC g gs ac aa clean ((cS all st).map (·.2)):=by
  refine gf.V (bM.ext ay) aH (λh=>by have:=ag _ h;omega) (λr W c1 h=>?_) (λr W h=>aO r h W.2);have Y:=ag r h;rcases W with rfl|rfl|W
  .omega
  .omega
  .rcases aF r W with aA|aA
   .exact (aL r h).2 aA
   .omega
 have cI:=ko cC;refine⟨⟨i+1,(ah.map gg)++[aY],ah++((cS all st).map (·.1)).toList,(cS all st).map (·.2),ac,aa,λr=>(ae r\/bp r\/aM.heap.size<=r)/\r<aC.heap.size,cn g gs ac aa,rfl,Ω,cE,Ω,bP,cI,cG,cH,?_,λr W=>⟨?_,W.2⟩,λr W=>⟨λh=>W.1 (.inl h),λh=>W.1 (.inr (.inl h)),λh=>?_⟩,λs' cJ=>?_⟩,by simp only[bL];omega⟩
 .rw[aJ,show c-i=(c-(i+1))+1 by omega,zO];cases al:cS all st with
  |none=>rfl
  |some q=>rfl
 .rcases W.1 with h|h|h
  .exact (ag r h).1
  .exact h.elim
  .omega
 .rcases h.1 with Y|Y|Y
  .exact aO r Y W.2
  .exact Y
  .have:=(aZ r W.2).2;omega
 .obtain⟨q,al,rfl⟩:=Y8.1 cJ;have Y:=Io (s':=q.2) (x:=q.1) bE al;have aA:=ct q al;refine⟨?_,Y.1,?_,aK,λr W=>?_,λr W=>?_,λr W=>bK r (bG r W),λr W=>⟨λaR=>?_,λbQ=>?_⟩,λr W=>W⟩
  .rw[al,aA];simp
  .rw[al];simp only[Y0,Z9,r8,T1];omega
  .rcases aF r W with h|h
   .exact bF r h
   .exact .inr Ω
  .rcases aF r W with h|h
   .exact aX r h
   .omega
  .rcases W.1 with Y|Y|Y
   .exact aO r Y aR
   .exact Y
   .have:=(aZ r aR).2;omega
  .have c2:gf aC g gs ac aa clean ((cS all st).map (·.2)):=bP;have bR:=bM;rw[al] at bR;have aU:cZ cq g gs ac aa q.2 clean:=bR;have bu:=aU.1.2.2.2.1 r (.inr (.inr bQ));rcases W.1 with Y|Y|Y
   .rcases aF r bQ with a1|a1
    .exact (aL r Y).2 a1
    .have:=(ag r Y).2;omega
   .exact Y
   .omega
theorem dy.num {lo hi n:Int} {s s':aG} (J:dy s) (h:ba lo hi s=σ (n,s')):dy s':=λI=>by
 have h1:=(dh h).eqs;rw[h1.1];rw[h1.2.1] at I;exact J I
theorem dy.big {b:Bool} {s:aG} (h:dy s):dy (a1 b s):=λI=>by
 have I:(s.big||b)=false:=I;exact h (S0.1 I).1
theorem dy.word {w:List Int} {s s':aG} (h:dy s) (hw:dv s=σ (w,s')):dy s':=λI=>by
 have h1:=(qP hw).2;rw[h1] at I ⊢;exact h I
theorem Ir {most:Int} {s s':aG} (hi:dy s) (hm:most<=av) (h:cz (fd most) N [] s=σ (l,s')):dy s'/\(∀z∈l,1<=z/\z<=av)/\l.length+s'.toks.length<=s.toks.length:=by
 have:=iX (f:=fd most) (λacc t=>dy t/\(∀z∈acc,1<=z/\z<=av)/\acc.length+t.toks.length<=s.toks.length) (λacc t a X ⟨h1,U,Y⟩ g=>by
  unfold fd at g;cases I:ba 1 most t with
  |none=>rw[I] at g;cases g
  |some q=>
   obtain⟨z,V⟩:=q;rw[I] at g;simp only[Y6,T6] at g;obtain⟨rfl,rfl⟩:=g;have aa:=(gN I).1;have ab:=(dh I).1;refine⟨(h1.num I).big,λx J=>?_,?_⟩
   .rcases n9.1 J with J|J
    .exact U x J
    .rw[l9.1 J];omega
   .simp only[r8,T1];show acc.length+1+V.toks.length<=_;omega) N [] s l s' ⟨hi,λz W=>(by cases W),Ξ⟩ h
 exact this.1
theorem Is {s0:aG} {name:List Int} {n most cnt:Int} {so6:Option aG}
  (h1:∀q,dv s0=σ q->name=q.1)
  (Y:∀q,aZ 1 av (((dv s0).map (·.2)).map (a1 (decide (64<(name.length:Int)))))=σ q->n=q.1)
  (X:∀q,aZ 1 av (((aZ 1 av (((dv s0).map (·.2)).map (a1 (decide (64<(name.length:Int)))))).map (·.2)).map (a1 (decide (64<n))))=σ q->most=q.1)
  (W:∀q,aZ 0 av ((aZ 1 av (((aZ 1 av (((dv s0).map (·.2)).map (a1 (decide (64<(name.length:Int)))))).map (·.2)).map (a1 (decide (64<n))))).map (·.2))=σ q->cnt=q.1)
  (V:∀q,aZ 1 av (((aZ 0 av ((aZ 1 av (((aZ 1 av (((dv s0).map (·.2)).map (a1 (decide (64<(name.length:Int)))))).map (·.2)).map (a1 (decide (64<n))))).map (·.2))).map (·.2)).map (a1 (decide (256<cnt))))=σ q->k=q.1)
  (U:∀q,eS (fd most) n.toNat [] (((aZ 1 av (((aZ 0 av ((aZ 1 av (((aZ 1 av (((dv s0).map (·.2)).map (a1 (decide (64<(name.length:Int)))))).map (·.2)).map (a1 (decide (64<n))))).map (·.2))).map (·.2)).map (a1 (decide (256<cnt))))).map (·.2)).map (a1 (decide (2147483648<k))))=σ q->so6=σ q.2/\sizes=q.1)
  (J:eS (fd most) n.toNat [] (((aZ 1 av (((aZ 0 av ((aZ 1 av (((aZ 1 av (((dv s0).map (·.2)).map (a1 (decide (64<(name.length:Int)))))).map (·.2)).map (a1 (decide (64<n))))).map (·.2))).map (·.2)).map (a1 (decide (256<cnt))))).map (·.2)).map (a1 (decide (2147483648<k))))=ν->so6=ν):
  gL s0=(eS (λ_ s=>cS sizes s) cnt.toNat [] so6).map λq=>((⟨name,k,sizes,q.1⟩:bY),q.2):=by
 unfold gL;cases ae:dv s0 with
 |none=>
  rw[ae] at J;rw[J rfl];rfl
 |some ao=>
 obtain⟨aF,s1⟩:=ao;rw[ae] at h1 Y X W V U J;have:=h1 _ rfl;subst this;have ap:decide (64<(name.length:Int))=decide (64<name.length):=by rw[V8,decide_eq_true_eq,decide_eq_true_eq];omega
 rw[ap] at Y X W V U J;simp only[Y0] at Y X W V U J ⊢;generalize a1 (decide (64<name.length)) s1=ab at*;cases af:ba 1 av ab with
 |none=>
  rw[show aZ 1 av (σ ab)=ν from af] at J;rw[J rfl];rfl
 |some aq=>
 obtain⟨au,ag⟩:=aq;rw[show aZ 1 av (σ ab)=σ (au,ag) from af] at Y X W V U J;have:=Y _ rfl;subst this;simp only[Y0] at X W V U J ⊢;generalize a1 (decide (64<n)) ag=ac at*;cases ah:ba 1 av ac with
 |none=>
  rw[show aZ 1 av (σ ac)=ν from ah] at J;rw[J rfl];rfl
 |some aw=>
 obtain⟨ax,aa⟩:=aw;rw[show aZ 1 av (σ ac)=σ (ax,aa) from ah] at X W V U J;have:=X _ rfl;subst this;simp only[Y0] at W V U J ⊢;cases ai:ba 0 av aa with
 |none=>
  rw[show aZ 0 av (σ aa)=ν from ai] at J;rw[J rfl];rfl
 |some ay=>
 obtain⟨az,aj⟩:=ay;rw[show aZ 0 av (σ aa)=σ (az,aj) from ai] at W V U J;have:=W _ rfl;subst this;simp only[Y0] at V U J ⊢;generalize a1 (decide (256<cnt)) aj=ad at*;cases ak:ba 1 av ad with
 |none=>
  rw[show aZ 1 av (σ ad)=ν from ak] at J;rw[J rfl];rfl
 |some aA=>
 obtain⟨aB,al⟩:=aA;rw[show aZ 1 av (σ ad)=σ (aB,al) from ak] at V U J;have:=V _ rfl;subst this;simp only[Y0] at U J ⊢;generalize a1 (decide (2147483648<k)) al=aC at*;cases am:cz (fd most) n.toNat [] aC with
 |none=>
  rw[J am];rfl
 |some aD=>
 obtain⟨aH,an⟩:=aD;obtain⟨I,aE⟩:=U _ am;subst aE;rw[I];simp only;show _=V7 _ (cz (λ_ s=>cS sizes s) cnt.toNat [] an);cases cz (λ_ s=>cS sizes s) cnt.toNat [] an <;> rfl
theorem It {f:bY} (I:eL N f) (X:N<=60000):∀x∈f.funs,rl f.k x:=λx U=>by
 obtain⟨h1,V,Y⟩:=I.funs x U;refine⟨I.k,⟨?_,λz J=>?_⟩,h1.other,h1.lines,by have:=h1.len;omega,Ω⟩
 .rw[h1.sizes,u5];exact V
 .rw[h1.sizes] at J;obtain⟨v,W,rfl⟩:=Z5.1 J;have:=h1.scope.2 v W;refine I.sizes.2.2 _ ?_;rw[u4,y0 Ω];exact R2 _
theorem Iu {p:x1} {pl:List Int} (ao:aI .u8 w p pl) (bb:Bytes pl) (cc:pl.length<=60000) (aE:eM w):aj x3 CX [p] w (zN w (fK pl)):=by
 have bc:1<w.heap.size:=by
  have:=aE 0 (.int .u64 1) rfl;obtain⟨c,e,f,bd,_⟩:=sP this;exact (j4.1 bd).1
 have cd:av=4611686018427387904:=rfl;refine aA func67 ?_;rw[aS cw.u ao,bP,ad];refine⟨λh=>Ω,λ_=>?_⟩;refine (xM ao bb Ω).mono ?_;rintro _ U _ ⟨aF,gs,rfl,ce,be,ap⟩;rw[cR (cs:=#[Γ gs,Δ 0,Δ 0,Δ 0,Δ 0,Δ 0,.slice ν 0 0]) Ψ];refine bM λg ah cg aq aH=>?_;have ch:=aF.size;have ci:=aq.size;have bf:=aH.lt;have cj:gs<U.heap.size:=ap.2.2.2.1.lt;have ck:=oy _ pl (o8 _);let s0:aG:=⟨(lex pl).1,0,false,[]⟩;let B0:ai:=λr=>r<U.heap.size;have bg:cZ ah g gs bp B0 s0 (lex pl).2:=by
  refine⟨⟨Ω,λh=>h,λh=>h,λr W=>?_,λr W=>by have W:r<U.heap.size:=W;omega⟩,⟨be,pl,0,ap.ext aq,λr W=>?_,by rw[List.drop_zero]⟩,⟨by show (0:Int)<=0;omega,by show (0:Int)<=av;omega,by show (([]:List (List Int×List (List Int×Int))).length+(lex pl).1.length<=100000);simp;omega⟩,0,0,0,0,.slice ν 0 0,aH,⟨by simp[s0],λ_=>rfl⟩,fs (α:=hD)⟩
  .rcases W with rfl|rfl|W
   .exact bf
   .omega
   .exact W.elim
  .obtain⟨_,_,_,ak,cl,hm⟩:=ap;have ac:=bA hm W;have ae:=bU hm ak Φ W;exact⟨λaa=>by
    rcases aa with aa|aa|aa
    .omega
    .exact ae aa
    .exact aa,by show r<U.heap.size;omega⟩
 have aw:∀r,bq g gs bp r->w.heap.size<=r:=λr W=>by
  rcases W with rfl|rfl|W
  .omega
  .omega
  .exact W.elim
 refine (yB bg).mono ?_;rintro _ cm _ ⟨Y,name,bh,rfl,cn,cp,bi⟩;obtain⟨bj,bk⟩:=fe.of Y;rw[aK (v:=bw name) rfl,aK (v:=Δ bh) rfl,l6 cK.u,bP];refine (o0 bk).mono ?_;rintro _ cq _ Y;obtain⟨bl,bm⟩:=Y.of;refine (ky (lo:=1) (hi:=av) bm).mono ?_;rintro _ cr _ ⟨Y,n,bn,rfl,aJ,bo⟩;obtain⟨br,bt⟩:=Y.of;rw[aK (v:=Δ n) rfl,aK (v:=Δ bn) rfl,bP];refine (o0 bt).mono ?_;rintro _ ct _ Y;obtain⟨bu,bx⟩:=Y.of;refine (ky (lo:=1) (hi:=av) bx).mono ?_;rintro _ cu _ ⟨Y,most,bz,rfl,aL,bB⟩;obtain⟨bC,bD⟩:=Y.of;rw[aK (v:=Δ most) rfl,aK (v:=Δ bz) rfl];refine (ky (lo:=0) (hi:=av) bD).mono ?_;rintro _ cz _ ⟨Y,cnt,bE,rfl,aM,bF⟩;obtain⟨bG,bH⟩:=Y.of;rw[aK (v:=Δ cnt) rfl,aK (v:=Δ bE) rfl,bP];refine (o0 bH).mono ?_;rintro _ cA _ Y;obtain⟨bI,bJ⟩:=Y.of;refine (ky (lo:=1) (hi:=av) bJ).mono ?_;rintro _ cB _ ⟨Y,k,bK,rfl,bL,cC⟩;obtain⟨bN,bO⟩:=Y.of;rw[aK (v:=Δ k) rfl,aK (v:=Δ bK) rfl,bP];refine (o0 bO).mono ?_;rintro _ aN _ Y;obtain⟨bQ,ax⟩:=Y.of;have aO:af (bq g gs bp) ah aN:=(((((((bj.trans bl).trans br).trans bu).trans bC).trans bG).trans bI).trans bN).trans bQ;have ay:∀ {lo:Int} {o:Option aG} {x:Int},0<=lo->lo<=1->(∀q,aZ lo av o=σ q->x=q.1)->(aZ lo av o=ν->x=0)->0<=x/\x<=av:=λ{lo o x} cD h1 I bR=>by
  cases J:aZ lo av o with
  |none=>rw[bR J];omega
  |some q=>
   have ac:=li (n:=q.1) (s':=q.2) J;rw[I q J];omega
 have cE:=ay Ω Ω aJ bo;have cF:=ay Ω Ω aM bF;have cG:=ay Ω Ω aL bB;obtain⟨N,bS⟩:∃N:Nat,n=(N:Int):=⟨n.toNat,Ω⟩;obtain⟨C,bT⟩:∃C:Nat,cnt=(C:Int):=⟨cnt.toNat,Ω⟩;have bV:n.toNat=N:=Ω
 have bW:cnt.toNat=C:=Ω
 have bX:dy s0:=λ_=>by show (0:Int)<=16384;omega
 have al:∀ {o:Option aG} {b:Bool},(∀s,o=σ s->dy s)-> ∀s,o.map (a1 b)=σ s->dy s:=λh s I=>by
  obtain⟨t,az,rfl⟩:=Y8.1 I;exact (h t az).big
 have am:∀ {o:Option aG} {lo hi:Int},(∀s,o=σ s->dy s)-> ∀s,(aZ lo hi o).map (·.2)=σ s->dy s:=λ{o lo hi} h s I=>by
  obtain⟨q,J,rfl⟩:=Y8.1 I;cases o with
  |none=>cases J
  |some t=>exact (h t rfl).num (n:=q.1) (s':=q.2) J
 have bZ:∀s,(dv s0).map (·.2)=σ s->dy s:=λs I=>by
  obtain⟨q,J,rfl⟩:=Y8.1 I;exact bX.word (w:=q.1) (s':=q.2) J
 have aP:=al (b:=decide (2147483648<k)) (am (lo:=1) (hi:=av) (al (b:=decide (256<cnt)) (am (lo:=0) (hi:=av) (am (lo:=1) (hi:=av) (al (b:=decide (64<n)) (am (lo:=1) (hi:=av) (al (b:=decide (64<(name.length:Int))) bZ)))))));have X:=λ(sizes:List Int) (so6:Option aG)=>Is (s0:=s0) (name:=name) (sizes:=sizes) (n:=n) (most:=most) (cnt:=cnt) (k:=k) (so6:=so6) bi aJ aL aM bL;rw[bV] at X;generalize cH:V7 (a1 (decide (2147483648<k))) (V7 (λx=>x.2) (aZ 1 av (V7 (a1 (decide (256<cnt))) (V7 (λx=>x.2) (aZ 0 av (V7 (λx=>x.2) (aZ 1 av (V7 (a1 (decide (64<n))) (V7 (λx=>x.2) (aZ 1 av (V7 (a1 (decide (64<(name.length:Int)))) (V7 (λx=>x.2) (dv s0)))))))))))))=aQ at aP ax X;rw[bS];refine Il (N:=N) (most:=most) ax Ω λau aB sizes so6 cI b0 aR aT cJ b1 aU aV=>?_;have X:=X sizes so6 aU aV;rw[bW] at X;have aC:af (bq g gs bp) ah aB:=aO.trans b0;have z12:=aC.size;have aW:Ext w ah:=aF.trans aq;have b2:af (λr=>w.heap.size<=r) w aB:=(aW.V _).trans (aC.mono λr _ h=>aw r h);have cL:=aR.side;have aX:∀ag,so6=σ ag->dy ag/\(∀z∈sizes,1<=z/\z<=av)/\sizes.length<=100000:=λag aD=>by
  cases J:eS (fd most) N [] aQ with
  |none=>rw[aV J] at aD;cases aD
  |some q=>
   obtain⟨ac,ae⟩:=aU q J;cases aD.symm.trans ac;subst ae;cases aQ with
   |none=>cases J
   |some b3=>
    obtain⟨b4,b5,cM⟩:=Ir (l:=q.1) (s':=q.2) (aP b3 rfl) Ω J;exact⟨b4,b5,by have:=ax.words;omega⟩
 rw[bT];have aY:∀r,leads au r->aN.heap.size<=r/\r<aB.heap.size:=λr W=>by have:=bA aT W;omega
 have cN:=aO.size;refine Iq (w0:=w) (c:=C) (all:=sizes) aR.q (λs I=>(aX s I).1) Ω aT.ls (λr W=>?_) (λan=>?_) b1 ((aE.ext aW).V aC λaa=>by have:=aw 1 aa;omega) ⟨bc,λ_=>⟨λaa=>by have:=aw 1 aa;omega,by show 1<U.heap.size;omega⟩⟩
  b2 Ω Ω ⟨Ω,Ω⟩ (λ_ r h=>h.elim) λcO cP acc so cQ cT cU cV a2 cW b6 b7 b8 b9 a6 ca=>?_
 .have:=aY r W;exact⟨Ω,Ω,Ω,λ_ h=>h⟩
 .cases a7:so6 with
  |none=>exact absurd a7 an
  |some ag=>exact (aX ag a7).2.1
 have cX:=a2.size;have ab:fK pl=match gL s0 with
   |none=>ν
   |some (f,s)=>if s.toks=[]/\(lex pl).2=true/\s.big=false then σ f else ν:=by
  unfold fK;rw[if_neg Ω];have e:gL ⟨(lex pl).1,0,false,[]⟩=gL s0:=rfl;rw[e];cases gL s0 <;> rfl
 refine Ik (w0:=w) (sizes:=sizes) (res:=fK pl) b6 ⟨λs I az cb ak=>?_,λan=>?_⟩ b9 (λr W=>by have:=aY r W;exact⟨Ω,Ω⟩) b7 b8 (λ_=>trivial) Ω Ω a2 Ω Ω ao λv w' h=>h
 .cases J:eS (λ_ s=>cS sizes s) C [] so6 with
  |none=>rw[ca J] at I;cases I
  |some q=>
   obtain⟨ac,ae⟩:=a6 q J;cases I.symm.trans ac;rw[J] at X;have X:gL s0=σ ((⟨name,k,sizes,q.1⟩:bY),q.2):=X;have a8:=(yy rfl X ak).1;rw[X] at ab;simp only at ab;rw[if_pos ⟨az,cb,ak⟩] at ab;exact⟨q.1,ae,ab,It a8 (by show (lex pl).1.length<=60000;omega),a8.jD,Ω⟩
 .cases J:eS (λ_ s=>cS sizes s) C [] so6 with
  |none=>
   rw[J] at X;have X:gL s0=ν:=X;rw[X] at ab;exact absurd ab an
  |some q=>
   obtain⟨ac,ae⟩:=a6 q J;rw[J] at X;have X:gL s0=σ ((⟨name,k,sizes,q.1⟩:bY),q.2):=X;rw[X] at ab;simp only at ab;by_cases ba:q.2.toks=[]/\(lex pl).2=true/\q.2.big=false
   .exact⟨q.2,ac,ba⟩
   .rw[if_neg ba] at ab;exact absurd ab an
theorem tO (s t cs:List Int):∃e,na s t cs= .tuple #[Δ (cW s cs t),Δ e]:=by
 unfold na cW;cases cq s t 0 with
 |none=>exact⟨3,rfl⟩
 |some n=>exact⟨0,rfl⟩
theorem Iv:aj x3 wT [sv] w λr w'=>Ext w w'/\ ∃g,r= .func (.func mX) #[] #[Γ g]/\w.heap.size<=g/\ae w' g ah sv.cells.toList:=by
 refine aA func253 ?_;refine bM λg U V I J=>?_;rw[kj];exact⟨I,g,rfl,Ω,J⟩
theorem Iw {f:FuncId} {cap:Array x1} {ai:Nat->List x1->x2->Prop} {I:x2->Prop} {L:List Int} (ay:lC x3 f cap.toList n ai I) (ak:∀k vs w,ai k vs w-> ∃x,L[k]? =σ x/\vs=[Δ x])
  (hI:∀a b,af (λr=>w.heap.size<=r) a b->I a->I b) (az:I w) (aA:n=L.length) (aP:L.length<=1000000):
  aj x3 DM [.slice ν 0 0,.func (.func f) #[] cap] w λv w'=>Ext w w'/\ ∃g,w.heap.size<=g/\aq .i64 ab w' g v L:=by
 refine lL func183 ?_;refine bM λgs U aQ al W=>?_;have W:ae U gs ah [.slice ν 0 0]:=W;have aR:=W.lt;have am:∀ {a b:x2},Ext a b->I a->I b:=λJ=>hI _ _ (J.V _);refine oc.old ⟨Nat,false,f,cap,0,_,_,I,λk w'=>af (λr=>w.heap.size<=r) w w'/\ ∃v g,gs<g/\ae w' gs ah [v]/\aq .i64 ab w' g v (L.take k),λ_ _ _=>False,rfl,ay.s,?_,λ_ _ J h=>am J h,
  λ_ _ _ J h=>⟨h.1.trans (J.V _),by obtain⟨v,g,h1,aB,aC⟩:=h.2;exact⟨v,g,h1,aB.ext J,aC.ext J⟩⟩,λ_ _ _ _ _ h=>h,am al az,⟨al.V _,_,gs+1,Ω,W,aq.nil _ _ _ _⟩,?_,?_,λ_ _ h=>h.elim,λ_ _ _ h=>h.elim⟩
 .rintro k vs aS w' ⟨_,_,h⟩;obtain⟨x,_,rfl⟩:=ak k vs w' h;rfl
 .rintro a k _ an haD ⟨X,rfl,aE⟩ ⟨aF,v,g,aG,ao,Y⟩;obtain⟨x,J,aH⟩:=ak k _ an aE;cases aH;intro aT aa _ _;have ap:=ao.ext aa;rw[ac Ψ (ap.cell (o:=0) rfl)];refine dJ ah.u ab.i rfl λa aU aV aW ad aI=>?_;have aX:(L.take k).length<=1000000:=Θ
  refine hy ah.u ab.i rfl ((Y.ext aa).ext ad) aI.ls (by simp only[j5,List.length_nil];omega) (by simp only[j5,List.length_nil];omega) λaJ aK aY aZ ag au=>?_;have a1:=ao.lt;have a2:=aa.size;have a6:=ad.size;refine bj ah.i ag.ls.cells.1 ag.ls.cells.2 (((ap.ext ad).V au Ω)) Ξ λaL av a7 aM=>?_;have aw:af (λr=>w.heap.size<=r) an aL:=(((aa.trans ad).V _).trans (au.mono λr _ h=>by show w.heap.size<=r;omega)).trans (av.mono λr _ h=>by show w.heap.size<=r;omega);refine⟨hI _ _ aw haD,⟨aF.trans aw,aJ,aK,Ω,aM,?_⟩,λh=>by cases h⟩;rw[r9,J];exact ag.V av (λ_=>Ω)
 .rintro k a8 X ⟨aN,v,g,aG,aO,Y⟩;have X:k=n:=X;subst X;rw[ac Ψ (aO.cell (o:=0) rfl)];intro ba ax _;rw[aA,o9] at Y;exact⟨(aN.ext λr bb h=>by have:w.heap.size<=r:=h;omega).trans ax,g,Ω,Y.ext ax⟩
theorem zP {f:FuncId} {cap:Array x1} {J:Nat->List x1->x2->Prop} {I:x2->Prop} {L:List Int} (U:lC x3 f cap.toList n J I) (V:∀k vs w,J k vs w-> ∃x,L[k]? =σ x/\vs=[Δ x])
  (hI:∀a b,af (λr=>w.heap.size<=r) a b->I a->I b) (W:I w) (X:n=L.length) (Y:L.length<=1000000):
  aj x3 Dd [.func (.func f) #[] cap] w λv w'=>Ext w w'/\ ∃g,w.heap.size<=g/\aq .i64 ab w' g v L:=by
 refine aA func117 ?_;exact (Iw U V hI W X Y).mono λ_ _ _ h=>h
theorem Ix {x:Int}:aj x3 cmp_Less_int [Δ x,Δ y] w λv w'=>v= .bool (decide (x<y))/\Ext w w':=by
 refine aA func322 ?_;refine aP (λv U=>v= .bool (decide (x<y))/\Ext w U) (λ_ _ h=>h) λW I=>?_;have J:∀ {z:Int} {w:x2},aj x3 cmp_isNaN_int [Δ z] w λv w'=>v= .bool false/\Ext w w':=λ{z w}=>by
  refine aA func182 ?_;simp only[bB];exact⟨Ξ,Ext.refl _⟩
 refine J.mono ?_;rintro _ X _ ⟨rfl,V⟩;rw[aQ];simp only[ao];exact I _ _ ⟨rfl,V⟩
theorem Iy {P:W5} {t:u9} {cx cy:Bool} {k:o5} {a b:Int}:bk P (aB .sub t cx cy (.int k a) (.int k b)) (.int k (k.wrap (a-b))) w:=λw' _=>by simp[aB,eqGuard,binOp,Op.intArith]
theorem Iz {g:Nat} (h:aq .i64 ab w g sv l) (aL:l.length<=1000000):
  aj x3 EW [sv,Δ 0,Δ l.length] w λ_ w'=>af (λr=>r=g) w w'/\ ∃m,m.Perm l/\m.Pairwise (·<= ·)/\aq .i64 ab w' g sv m:=by
 refine aA func316 ?_;simp only[aN];refine⟨λt U=>∃ (i:Nat) (m:List Int),t=Δ i/\1<=i/\(i<=l.length\/i=1)/\m.Perm l/\oK m i/\af (λr=>r=g) w U/\aq .i64 ab U g sv m,λt _=>l.length+1-(bL t).toNat,
  ⟨1,l,by congr 1,Ω,.inr rfl,.refl _,λp q x y h1 ax=>Ω,af.refl _ _,h⟩,?_⟩
 rintro _ U ⟨i,m,rfl,aM,aO,W,ak,al,hm⟩;have ay:=W.length_eq;simp only[ao,ad];refine⟨λaz=>?_,λaQ=>?_⟩
 .have az:i<l.length:=Ω
  refine⟨λt Y=>∃ (j:Nat) (m:List Int),t=Δ j/\j<=i/\m.Perm l/\nr m i j/\af (λr=>r=g) w Y/\aq .i64 ab Y g sv m,λt _=>(bL t).toNat,⟨i,m,rfl,o8 _,W,Gh ak,al,hm⟩,?_⟩;rintro _ Y ⟨j,m,rfl,aB,W,ae,am,hm⟩;have ay:=W.length_eq;refine aP (λv an=>Ext Y an/\ ∃c,v= .bool c/\(c=true->0<j/\ ∃a b,m[j-1]? =σ a/\m[j]? =σ b/\b<a)/\(c=false->j=0\/0<j/\ ∃a b,m[j-1]? =σ a/\m[j]? =σ b/\a<=b)) ?_ ?_
  .rintro _ an ⟨aa,c,rfl,aC,aD⟩;rw[bH];refine⟨λh=>?_,λh=>?_⟩
   .obtain⟨X,a,b,I,J,ag⟩:=aC h;intro aR ap _ _;have ac:=(hm.ext aa).ext ap;have e:Y5.wrap ((j:Int)-1)=((j-1:Nat):Int):=by rw[wrap_i64 Ω Ω];omega
    simp only[cX,e];rw[bc ah.u ab.i Ψ ac.ls I,bc ah.u ab.i Ψ ac.ls J,ha rfl ah.u ab.i ac Ω];refine hb ab.i ac Ω λaE aF aS au=>⟨.inr ⟨by have:=Iy (P:=x3) (w:=aE) (t:=ab) (cx:=false) (cy:=true) (k:=.i64) (a:=(j:Int)) (b:=1);rwa [e] at this,trivial⟩,?_⟩;rw[ha rfl ah.u ab.i au Θ];refine hb ab.i au Θ λaT aG aU aH=>?_;refine⟨⟨j-1,_,rfl,Ω,(swap_perm Ω I J).trans W,Gk ae X aB I J ag,((am.trans ((aa.trans ap).V _)).trans aF).trans aG,aH⟩,?_⟩;simp only[bL];omega
   .simp only[aN];rw[wrap_i64 Ω Ω];refine⟨⟨i+1,m,rfl,Ω,.inl Ω,W,?_,am.trans (aa.V _),hm.ext aa⟩,?_⟩
    .rcases aD h with rfl|⟨X,a,b,I,J,ag⟩
     .exact Gi ae
     .exact Gj ae X I J ag
    .simp only[bL];omega
  .intro aV av aW ai _ _;have aw:=hm.ext ai;simp only[bP,ad];refine⟨λX=>?_,λX=>av _ _ ⟨ai,false,rfl,(λh=>by cases h),λ_=>.inl Ω⟩⟩;have e:Y5.wrap ((j:Int)-1)=((j-1:Nat):Int):=by rw[wrap_i64 Ω Ω];omega
   obtain⟨b,J⟩:∃b,m[j]? =σ b:=⟨_,y0 Ω⟩;obtain⟨a,I⟩:∃a,m[j-1]? =σ a:=⟨_,y0 Ω⟩;rw[bc ah.u ab.i Ψ aw.ls J];simp only[cX,e];rw[bc ah.u ab.i Ψ aw.ls I];refine Ix.mono ?_;rintro _ aX _ ⟨rfl,aI⟩;refine av _ _ ⟨ai.trans aI,_,rfl,λh=>⟨Ω,a,b,I,J,by simpa using h⟩,λh=>.inr ⟨Ω,a,b,I,J,by simpa using h⟩⟩
 .refine⟨al,m,W,Gl λp q x y h1 ax aJ aK=>ak p q x y h1 Ω aJ aK,hm⟩
theorem IA {P:W5} {t:u9} {k:o5} {s:ByteArray} {i:Nat} {K:x1->Prop} (I:P.underlying t=σ .string) (hi:i<s.size) (U:∀b:Nat,b<256->K (.int .u8 b)):
  J P (Instr.index t (.string s) (.int k (i:Int))) w K:=by
 have V:s[i]? =σ s[i]:=by simp[hi]
 have:J P (Instr.index t (.string s) (.int k (i:Int))) w K=K (.int .u8 s[i].toNat):=J.of λw' _=>by
  simp[Instr.index,asIntOf,run_underlying I,hi]
 rw[this];exact U _ (UInt8.toNat_lt _)
theorem IB (I:n<256):aj x3 DL [.int .u64 (n:Int)] w λv w'=>(∃r,v=Δ r)/\Ext w w':=by
 refine aA func181 ?_;refine aj.mono (K:=λv w'=>(∃r,v=Δ r)/\Ext w w') ?_ (λ_ _ _ h=>h);refine aA func238 ?_;simp only[bx,cb,ad];refine⟨λh=>Ω,λ_=>⟨λh=>Ω,λ_=>⟨λh=>Ω,λ_=>?_⟩⟩⟩;rw[eZ eo.u cr.u,wrap_u8 Ω Ω];refine IA cK.u (by exact Nat.lt_of_lt_of_le I Φ) λb J=>?_;rw[eZ cr.u ab.u];simp only[aN];exact⟨⟨_,rfl⟩,Ext.refl _⟩
theorem IC {g:Nat} (h:aq .i64 ab w g sv l) (W:l.length<=12):
  aj x3 EF [sv] w λ_ w'=>af (λr=>r=g) w w'/\ ∃m,m.Perm l/\m.Pairwise (·<= ·)/\aq .i64 ab w' g sv m:=by
 refine aA func282 ?_;rw[aS ah.u h.ls,eZ ab.u mY.u,wrap_u64 Ω Ω];refine (IB (n:=l.length) Ω).mono ?_;rintro _ U _ ⟨⟨r,rfl⟩,I⟩;refine aj.mono (K:=λ_ w'=>af (λr=>r=g) U w'/\ ∃m,m.Perm l/\m.Pairwise (·<= ·)/\aq .i64 ab w' g sv m) ?_ (λ_ _ _ h=>⟨(I.V _).trans h.1,h.2⟩);refine aA func305 ?_;refine⟨λa b _ _ _ J=>a=Δ 0/\b=Δ l.length/\U=J,λ_ _ _ _ _ _=>0,⟨rfl,rfl,rfl⟩,?_⟩;rintro _ _ _ _ _ _ ⟨rfl,rfl,rfl⟩;simp only[cX,lN,ad];rw[wrap_i64 Ω Ω];refine⟨λ_=>?_,λh=>Ω⟩;refine (Iz (h.ext I) Ω).mono ?_;exact λ_ _ _ h=>h
theorem ID {f:FuncId} {cap:Array x1} {J:Nat->List x1->x2->Prop} {I:x2->Prop} {L:List Int} (V:lC x3 f cap.toList n J I) (W:∀k vs w,J k vs w-> ∃x,L[k]? =σ x/\vs=[Δ x])
  (hI:∀a b,af (λr=>w.heap.size<=r) a b->I a->I b) (X:I w) (Y:n=L.length) (aa:L.length<=12):
  aj x3 wS [.func (.func f) #[] cap] w λv w'=>Ext w w'/\ ∃g m,w.heap.size<=g/\m.Perm L/\m.Pairwise (·<= ·)/\aq .i64 ab w' g v m:=by
 refine aA func252 ?_;refine (zP V W hI X Y Ω).mono ?_;rintro v U _ ⟨ac,g,ad,ae⟩;refine (IC ae aa).mono ?_;rintro _ ak _ ⟨ag,m,h1,ah,ai⟩;exact⟨ac.then ag (by rintro r al rfl;omega),g,m,ad,h1,ah,ai⟩
theorem zQ {x:Int} (h:aI .i64 w sv l):
  aj x3 sE [sv,Δ x] w λv w'=>Ext w w'/\ ∃r:Int,v=Δ r/\ ∀i:Nat,l[i]? =σ x->(r=i↔ ∀j,j<i->l[j]? ≠σ x):=by
 refine aA func103 ?_;rw[aS ah.u h];refine bC.range l.length (λi _ U=>Ext w U/\ ∀j,j<i->l[j]? ≠σ x) h.le ⟨Ext.refl _,λj W=>Ω⟩ ?_ ?_
 .rintro i _ U k hi ⟨I,J⟩ X;simp only[ao,ad];refine⟨λ_=>?_,λh=>Ω⟩;obtain⟨y,V⟩:∃y,l[i]? =σ y:=⟨_,y0 hi⟩;rw[bc ah.u ab.i Ψ (h.ext I) V];simp only[bi,ad,aN];refine⟨λhe=>⟨I,i,rfl,λq Y=>?_⟩,λhe=>X _ _ ⟨I,λj W=>?_⟩⟩
  .subst he;refine⟨λae=>by
              have:i=q:=Ω
              subst this;exact J,λaa=>?_⟩
   rcases Nat.lt_trichotomy i q with h1|h1|h1
   .exact absurd V (aa i h1)
   .omega
   .exact absurd Y (J q h1)
  .by_cases ac:j=i
   .subst ac;rw[V];intro h;exact he (Z6 h).symm
   .exact J j Ω
 .rintro _ U k ⟨I,J⟩;simp only[ao,ad];refine⟨λh=>Ω,λ_=>⟨I,-1,rfl,λi hi=>?_⟩⟩;exact absurd hi (J i (x4.1 hi).1)
theorem IE {g:Nat} {w0:x2} (X:ae w0 g ah [sv]) (U:aI .i64 w0 sv l):
  lC x3 mX [Γ g] l.length (λk vs _=>∃x,l[k]? =σ x/\vs=[Δ x]) (λw=>Ext w0 w):=by
 refine⟨mX.enters,λy Y al w am _ aa I af=>?_⟩;refine om func283 ?_;rw[ac Ψ ((X.ext I).cell (o:=0) rfl),aS ah.u (U.ext I)];refine bZ.range l.length (λi J=>Y i J/\Ext w0 J) U.le ⟨af,I⟩ ?_ ?_
 .rintro i J k hi ⟨V,W⟩ ag;simp only[ao,ad];refine⟨λ_=>?_,λh=>Ω⟩;obtain⟨x,I⟩:∃x,l[i]? =σ x:=⟨_,y0 hi⟩;rw[bc ah.u ab.i Ψ (U.ext W) I];refine⟨rfl,(aa i _ J hi W ⟨x,I,rfl⟩ V).mono ?_⟩;rintro _ an (⟨rfl,ai,aj⟩|⟨rfl,ak⟩)
  .simp only[bg,Y1,aQ,aN];exact ag _ ⟨aj.1,ai⟩
  .simp only[bg,X4,bO];exact .inr ⟨i,hi,ak⟩
 .rintro J k ⟨V,_⟩;simp only[ao,ad];exact⟨λh=>Ω,λ_=>.inl V⟩
theorem tP (h:aI .i64 w sv l) (V:l.length<=12)
  (W:∀v w' g m,Ext w w'->w.heap.size<=g->m.Perm l->m.Pairwise (·<= ·)->aq .i64 ab w' g v m->K v w'):
  aj x3 wT [sv] w λt U=>aj x3 wS [t] U K:=by
 refine Iv.mono ?_;rintro _ U _ ⟨J,g,rfl,ai,I⟩;have I:ae U g ah [sv]:=by rw[h.cells.1] at I;exact I
 refine (ID (IE I (h.ext J)) (λ_ _ _ h=>h) (λa b X Y=>Y.then X (λr ak h=>Ω)) (Ext.refl _) rfl V).mono ?_;rintro v aa _ ⟨ac,ad,m,al,h1,af,ag⟩;have:=J.size;exact W v aa ad m (J.trans ac) Ω h1 af ag
def IF (w:x2) (szs:List Int) (k:Int) (cs I:List Int) (v:x1) (w':x2):Prop:=
 Ext w w'/\
  (¬Good I szs.length->v= .tuple #[.pointer ν,Δ 1])/\
  (Good I szs.length-> ∃J U V,v= .tuple #[Γ J,Δ 0]/\cM w' J U V (dM szs I) k (mc szs cs I))
theorem IG {g bY:Nat} {aG:x1} {cs:List Int} (h:cM w g bY sv szs k cs) (b0:right k) (ay:aI .i64 w aG I) (cN:I.length<=12) (cO:Good I szs.length->aL (dM szs I)<=4096):
  aj x3 Ep [Γ g,aG] w (IF w szs k cs I):=by
 have a1:=h;have cP:=h.2.2.1;have cR:=ay.cells;refine lL func254 ?_;refine bM λb1 U du b2 X=>?_;refine bM λb3 b4 dv br J=>?_;have s1:=b2.size;have dw:=br.size;have dx:=X.lt;have dy:=J.lt;have bu:=b2.trans br;have X:ae b4 b1 eg [Γ g]:=X.ext br;have J:ae b4 b3 ah [aG]:=by rw[cR.1] at J;exact J
 rw[ac Ψ (X.cell (o:=0) rfl),cA eg.u];simp only[j6,aQ];rw[ac Ψ (J.cell (o:=0) rfl)];have cS:=ay.ext bu;have sub:∀ {w:x2} {g:Nat} {sv:x1} {k:Int} {aJ:x1},ae w g cQ [sv,Δ k,aJ]->w.rangeAt g (0+0) [sv]:=λap=>l1 ap (by
  intro j v bw
  match j,bw with
  |0,bw=>exact bw)
 refine tP cS cN λbN cT a8 m b5 dz bx cU hm=>?_;have cV:=bx.length_eq;rw[aS ah.u hm.ls];have cX:=bu.trans b5;refine kX.range m.length (λi _ _ bz=>Ext cT bz/\ ∀j,j<i->m[j]? =σ (j:Int)) Ω ⟨Ext.refl _,λj bA=>Ω⟩ ?_ ?_
 .rintro i _ _ bz aH hi ⟨aM,bC⟩ aO;simp only[ao,ad];refine⟨λ_=>?_,λh=>Ω⟩;obtain⟨y,aP⟩:∃y,m[i]? =σ y:=⟨_,y0 hi⟩;rw[bc ah.u ab.i Ψ (hm.ls.ext aM) aP];simp only[bB,ad,aN];refine⟨λaR dA cY _=>⟨(cX.trans aM).trans cY,λ_=>rfl,λbD=>?_⟩,λhe=>aO _ _ _ ⟨aM,λj bA=>?_⟩⟩
  .have:=yh bD bx cU i hi;rw[aP] at this;exact absurd (Z6 this).symm aR
  .by_cases cZ:j=i
   .subst cZ;rw[aP];congr 1;omega
   .exact bC j Ω
 .rintro _ _ bz aH ⟨aM,bC⟩;simp only[ao,ad,cj];refine⟨λh=>Ω,λ_ dC c0 _ _=>?_⟩;have Y:Good I m.length:=Gm bC bx;have aT:=(b5.trans aM).trans c0;have a2:=bu.trans aT;have X:=X.ext aT;have J:=J.ext aT;have c1:=ay.ext a2;have c2:=a1.ext a2;have dD:=aT.size;obtain⟨⟨aJ,gs,ap,a6,b6⟩,_⟩:=id c2;rw[ac Ψ (J.cell (o:=0) rfl),aS ah.u c1,ac Ψ (X.cell (o:=0) rfl),aw,aa cQ.p rfl,bn (cs:=[sv]) bo.p bo.i rfl (sub ap)];refine (yG a6.ls).mono ?_;rintro _ a7 _ ⟨rfl,au⟩;refine⟨.inl au,?_⟩;simp only[bB,ad];refine⟨λaR dE c3 _=>⟨(a2.trans au).trans c3,λ_=>rfl,λbD=>absurd (by rw[bD.1]) aR⟩,λdF=>?_⟩;have bE:I.length=szs.length:=Ω
  have Y:Good I szs.length:=by rw[<-bE,<-cV];exact Y
  have dG:=aT.trans au;have bF:=a2.trans au;have X:=X.ext au;have J:=J.ext au;have b7:=ay.ext bF;rw[ac Ψ (J.cell (o:=0) rfl),aS ah.u b7];refine iS ah.u ab.i Ω Ω λaU b8 dH az b9=>?_;have c4:aq .i64 ab b8 aU (.slice (σ ⟨aU,0,ν⟩) I.length I.length) (o6 I.length 0):=aq.of (n:=I.length) (bQ.full b9 Ξ (by simp[maxLen];omega));generalize (x1.slice (σ ⟨aU,0,ν⟩) I.length I.length)=c5 at*;have dI:=au.size;have dJ:=az.size;have dK:=b9.lt;rw[ac Ψ ((J.ext az).cell (o:=0) rfl),aS ah.u (b7.ext az)];have ca:=bF.trans az;have ba:(dM szs I).length=I.length:=qN _ _;refine bZ.range I.length (λi al=>af (λr=>r=aU) b8 al/\aq .i64 ab al aU c5 (upto (dM szs I) 0 i)) Ω ⟨af.refl _ _,by rw[nm,ba];exact c4⟩ ?_ ?_
  .rintro i al aH hi ⟨av,bd⟩ aO;simp only[ao,ad];refine⟨λ_=>?_,λh=>Ω⟩;have aV:Ext w al:=ca.then av (by rintro r ai rfl;omega);have be:Ext a7 al:=az.then av (by rintro r ai rfl;omega);obtain⟨p,bG⟩:∃p,I[i]? =σ p:=⟨_,y0 hi⟩;obtain⟨⟨aJ,gs,ap,a6,b6⟩,_⟩:=a1.ext aV;rw[bc ah.u ab.i Ψ (ay.ext aV) bG,ac Ψ ((X.ext be).cell (o:=0) rfl),aw,aa cQ.p rfl,bn (cs:=[sv]) bo.p bo.i rfl (sub ap)];refine (oP a6.ls).mono ?_;rintro _ dL _ ⟨rfl,cb⟩;have cc:=bd.ext cb;have c6:(upto (dM szs I) 0 i).length=I.length:=by rw[oJ,ba]
   rw[ha rfl ah.u ab.i cc Ω];refine hb ab.i cc Ω λdN c7 _ cd=>?_;simp only[aN];have h1:=(Y.2 i p bG).1;have aW:(dM szs I)[i]? =σ (gP szs p):=by
    unfold dM gP;rw[x8,bG,if_pos h1.1];rfl
   rw[np aW] at cd;exact aO _ ⟨(av.trans (cb.V _)).trans c7,cd⟩
  .rintro al aH ⟨av,bd⟩;simp only[ao,ad];refine⟨λh=>Ω,λ_=>?_⟩;have aV:Ext w al:=ca.then av (by rintro r ai rfl;omega);have be:Ext a7 al:=az.then av (by rintro r ai rfl;omega);rw[<-ba,nn] at bd;obtain⟨⟨aJ,gs,ap,a6,b6⟩,_⟩:=a1.ext aV;rw[ac Ψ ((X.ext be).cell (o:=0) rfl),aw,aa cQ.p rfl,ac Ψ (ap.cell (o:=0+1) rfl)];have bf:bR (dM szs I):=cP.Gp Y rfl;have ce:=cO Y;have dO:=prod_bound bf;refine (qC bd.ls).mono ?_;rintro _ bH _ ⟨cg,_,_,_,c8⟩;obtain⟨aA,ag,aB,rfl,dP,dQ,dR,bg⟩:=c8 bf ce ⟨b0,Ω,by have:=b0.1;omega⟩;obtain⟨N,bh⟩:∃N:Nat,(aL (dM szs I)).toNat=N:=⟨_,rfl⟩;rw[bh] at bg;rw[aK (v:=Γ aA) rfl,aK (v:=Δ 0) rfl];refine bt eg.i λch dS dT ci aX=>?_;refine bj eg.i rfl rfl aX (by simp[x1.cells]) λc9 da dU aX=>?_;have dV:=av.size;have dW:=cg.size;have dX:=ci.size;have bI:Ext bH c9:=ci.then da (by rintro r ai rfl;omega);have ck:=cg.trans bI;have db:=bg.ext bI;have dY:=aX.lt;obtain⟨⟨bJ,cl,cm,cn,dc⟩,⟨cp,cq,_⟩,_,dZ⟩:=id db;have ea:0<N:=Ω
   have eb:aA<bH.heap.size:=by obtain⟨⟨_,_,q,_⟩,_⟩:=id bg;exact q.lt
   have ec:ag<bH.heap.size:=by obtain⟨⟨_,_,_,_,q⟩,_⟩:=id bg;exact nG q Θ
   rw[ac Ψ (aX.cell (o:=0) rfl),aw,aa cQ.p rfl,bn (cs:=[aB]) bo.p bo.i rfl (sub cm)];refine tt.mono ?_;rintro _ ak _ ⟨am,bi,rfl,ed,cr⟩;have ee:=bI.size;have ef:=am.size;let S:Nat->Prop:=λr=>r=ag;let aC:=mc szs cs I;have bK:aC.length=N:=by simp only[aC];rw[yn,bh]
   let dd:x2->Prop:=λw'=>ae w' b1 eg [Γ g]/\ae w' b3 ah [aG]/\ae w' ch eg [Γ aA]/\ae w' aA cQ [aB,Δ k,bJ]/\
    cM w' g bY sv szs k cs/\aI .i64 w' aG I/\aq .i64 ab w' cl aB (dM szs I)/\ae w' bi bo [aB]/\ak.heap.size<=w'.heap.size
   have aE:∀ {a:x2},af S ak a->dd a:=by
    intro a W;have bL:Ext a7 ak:=(be.trans ck).trans am;have bO:Ext a7 a:=bL.then W (λr ai he=>by have he:r=ag:=he;omega);have ct:Ext w a:=bF.trans bO;refine⟨X.ext bO,J.ext bO,(aX.ext am).V W (by show ¬(ch=ag);omega),(cm.ext am).V W (by show ¬(aA=ag);exact cp),a1.ext ct,ay.ext ct,bb (cn.ext am) W (λr ai he=>cq ((show r=ag from he)▸ai)),
     cr.V W (by show ¬(bi=ag);omega),W.size⟩
   have cu:=ts (g:=bi) (B0:=ak.heap.size) (sv:=aB) bf;rw[bh] at cu;refine lD.old ⟨Nat,false,ke,#[Γ bi],0,_,_,_,λq w'=>af S ak w'/\aq .i64 an w' ag bJ (upto aC 0 q),λ_ _ _=>False,rfl,cu.s,
    ?_,λ_ _ W h=>⟨h.1.ext W,h.2.1.ext W,X0 h.2.2 W.size⟩,λ_ _ _ W h=>⟨h.1.trans (W.V S),h.2.ext W⟩,λ_ _ _ _ _ h=>h,⟨cr,(cn.ext am).ls,o8 _⟩,⟨af.refl _ _,?_⟩,?_,?_,λ_ _ h=>h.elim,λ_ _ _ h=>h.elim⟩
   .rintro _ _ _ _ ⟨_,_,_,_,rfl,_⟩;rfl
   .rw[nm,bK];exact dc.ext am
   .rintro _ aD q _ eh ⟨_,_,ei⟩ ⟨aW,rfl,ej,ek,de,em,df⟩ ⟨bk,dg⟩;cases de;let x:=cH (dM szs I) (q:Int);have cw:x.length=I.length:=by simp only[x];rw[h0,ba]
    intro dh aF _ _;have cz:=df.ext aF;rw[aS ah.u cz.ls];refine iS ah.u ab.i (by rw[h0];omega) (by rw[h0];omega) λgo cB en bP cC=>?_;have di:aq .i64 ab cB go (.slice (σ ⟨go,0,ν⟩) (cH (dM szs I) (q:Int)).length (cH (dM szs I) (q:Int)).length) (o6 (cH (dM szs I) (q:Int)).length 0):=aq.of (n:=(cH (dM szs I) (q:Int)).length) (bQ.full cC Ξ (by rw[h0];simp[maxLen];omega));generalize (x1.slice (σ ⟨go,0,ν⟩) (cH (dM szs I) (q:Int)).length (cH (dM szs I) (q:Int)).length)=dj at*;have eo:=bk.size;have ep:=aF.size;have er:=bP.size;have lo:=cC.lt;have dk:af S ak cB:=bk.trans ((aF.trans bP).V S);have f:=aE dk;rw[ac Ψ (f.2.1.cell (o:=0) rfl),aS ah.u f.2.2.2.2.2.1];refine bZ.range I.length (λj bl=>Ext dh bl/\ ∃y:List Int,y.length=I.length/\aq .i64 ab bl go dj y/\ ∀ (i:Nat) (p:Int),i<j->I[i]? =σ p->y[p.toNat]? =x[i]?) Ω
     ⟨bP,_,by simp[cw,x],di,λi p hi=>Ω⟩ ?_ ?_
    .rintro j bl aH bA ⟨aY,y,bS,bm,bT⟩ aO;simp only[ao,ad];refine⟨λ_=>?_,λh=>Ω⟩;have f:=aE (bk.trans ((aF.trans aY).V S));obtain⟨p,bp⟩:∃p,I[j]? =σ p:=⟨_,y0 bA⟩;obtain⟨u,hu⟩:∃u,x[j]? =σ u:=⟨_,y0 Ω⟩;have es:=(Y.2 j p bp).1;rw[bc ah.u ab.i Ψ f.2.2.2.2.2.1 bp,bc ah.u ab.i Ψ (cz.ext aY).ls hu,ha (i:=p.toNat) Ω ah.u ab.i bm Ω];refine hb ab.i bm Ω λet dl eu dm=>?_;simp only[aN];refine aO _ ⟨aY.then dl (by rintro r ai rfl;omega),_,by simpa using bS,dm,λi bq hi aZ=>?_⟩;by_cases cD:i=j
     .subst cD;rw[bp] at aZ;cases aZ;rw[V5 Ω,hu]
     .have ev:=(Y.2 i bq aZ).1;have aR:p.toNat≠bq.toNat:=λhe=>by
       have:p=bq:=Ω
       subst this;exact cD (Y.inj aZ bp)
      rw[W6 aR];exact bT i bq Ω aZ
    .rintro bl aH ⟨aY,y,bS,bm,bT⟩;simp only[ao,ad];refine⟨λh=>Ω,λ_ dn cE _ _=>?_⟩;have aP:y=kx I x:=yl Y (by rw[cw,bE]) (by rw[bS,bE]) λi p cF=>bT i p (x4.1 cF).1 cF;have cG:=aY.trans cE;have cI:af S ak dn:=bk.trans ((aF.trans cG).V S);obtain⟨f1,f2,f3,f4,f5,f6,f7,f8,f9⟩:=aE cI;rw[ac Ψ (f3.cell (o:=0) rfl),aw,aa cQ.p rfl,ac Ψ (f4.cell (o:=0+2) rfl),ac Ψ (f1.cell (o:=0) rfl)];refine (sY f5 (bm.ls.ext cE)).mono ?_;rintro _ ew _ ⟨rfl,bU⟩;refine⟨.inl bU,?_⟩;obtain⟨e,he⟩:=tO szs y cs;rw[he,aK (v:=Δ (cW szs cs y)) rfl,aK (v:=Δ e) rfl];have dp:=cI.trans (bU.V S);have cJ:=(dg.ext ((aF.trans cG).trans bU));have c6:(upto aC 0 q).length=N:=by rw[oJ,bK]
     rw[ha rfl ax.u an.i cJ Ω];refine hb an.i cJ Ω λdq dr ey cK=>?_;have cL:af S ak dq:=dp.trans (dr.mono λr _ h=>h);obtain⟨f1,f2,f3,f4,f5,f6,f7,f8,f9⟩:=aE cL;have ds:aC[q]? =σ (cW szs cs y):=by
      simp only[aC,mc];rw[x8,List.getElem?_range (by rw[bh];exact aW),aP];rfl
     rw[np ds] at cK;exact⟨⟨f8,f7.ls,f9⟩,⟨cL,cK⟩,λh=>by cases h⟩
   .rintro q ez aW ⟨bV,bW⟩;rw[show q=N from aW] at bW;have f:=aE bV;rw[ac Ψ (f.2.2.1.cell (o:=0) rfl)];intro eA bX _;obtain⟨f1,f2,f3,f4,f5,f6,f7,f8,f9⟩:=aE (bV.trans (bX.V S));rw[<-bK,nn] at bW;have bL:Ext w ak:=(aV.trans ck).trans am;refine⟨(bL.then bV (λr ai he=>by have he:r=ag:=he;omega)).trans bX,λdt=>absurd Y dt,λ_=>⟨aA,ag,aB,rfl,⟨bJ,cl,f4,f7,bW.ext bX⟩,⟨cp,cq,ce⟩,bf,yn _ _ _⟩⟩
def gi (l:List Int):Prop:=∀ (i j:Nat) (x y:Int),i<j->l[i]? =σ x->l[j]? =σ y->x<y
theorem gi.inj (h:gi l) {i:Nat} {x:Int} (hi:l[i]? =σ x) (I:l[j]? =σ x):i=j:=by
 rcases Nat.lt_trichotomy i j with h1|h1|h1
 .have:=h i j x x h1 hi I;omega
 .exact h1
 .have:=h j i x x h1 I hi;omega
def dedup (l:List Int):Nat->List Int
 |0=>[]
 |j+1=>if 0<j/\l[j]? =l[j-1]? then dedup l j else dedup l j++[l.getD j 0]
theorem zR (l:List Int):∀j,(dedup l j).length<=j
 |0=>o8 _
 |j+1=>by
  have:=zR l j;unfold dedup;split
  .omega
  .simp;omega
theorem tQ (I:0<j) (h:l[j]? =l[j-1]?):dedup l (j+1)=dedup l j:=by
 rw[dedup,if_pos ⟨I,h⟩]
theorem tR {x:Int} (J:l[j]? =σ x) (h:0<j->l[j]? ≠l[j-1]?):dedup l (j+1)=dedup l j++[x]:=by
 rw[dedup,if_neg (λI=>h I.1 I.2),u4,J];rfl
theorem rn {l:List Int}:∀ {j:Nat},j<=l.length->(∀i,i<j->0<i->l[i]? ≠l[i-1]?)->dedup l j=l.take j
 |0,_,_=>by simp[dedup]
 |j+1,U,h=>by
  have I:l[j]? =σ l[j]:=y0 Ω;rw[tR I (h j Ω),rn Ω (λi hi J=>h i Ω J),r9,I];rfl
theorem zS {l:List Int} (I:l.Pairwise (·<= ·)):∀ {j:Nat},j<=l.length->(gi (dedup l j)/\ ∀x,x∈dedup l j↔x∈l.take j)
 |0,_=>⟨λi j x y _ h=>by simp[dedup] at h,λx=>by simp[dedup]⟩
 |j+1,aj=>by
  obtain⟨h1,W⟩:=zS I (j:=j) Ω;have U:l[j]? =σ l[j]:=y0 Ω;by_cases V:0<j/\l[j]? =l[j-1]?
  .rw[tQ V.1 V.2];refine⟨h1,λx=>?_⟩;rw[W,r9,U];simp only[Z9,n9,l9];refine⟨.inl,λh=>h.elim id λhe=>?_⟩;subst he;have Y:(l.take j)[j-1]? =σ l[j]:=by rw[Y2 Ω,<-V.2,U]
   exact x6 Y
  .have aa:0<j->l[j]? ≠l[j-1]?:=λad he=>V ⟨ad,he⟩;rw[tR U aa];have ae:∀x∈dedup l j,x<l[j]:=λx af=>by
    obtain⟨i,hi,he⟩:=List.getElem_of_mem ((W x).1 af);have ak:i<j:=by rw[o7] at hi;omega
    rw[List.getElem_take] at he;subst he;have Y:l[i]<=l[j-1]:=by
     by_cases ab:i=j-1
     .subst ab;exact Int.le_refl _
     .exact V0.1 I i (j-1) Ω Ω Ω
    have ab:=V0.1 I (j-1) j Ω Ω Ω;have ac:=aa Ω;rw[U,y0 (show j-1<l.length by omega)] at ac;have al:l[j]≠l[j-1]:=λh=>ac (by rw[h]);omega
   refine⟨λa b x y ag X J=>?_,λx=>?_⟩
   .have ah:=(x4.1 J).1;simp only[r8,j5,List.length_nil] at ah;rw[j0 Ω] at X;by_cases ai:b=(dedup l j).length
    .subst ai;rw[Z1 (o8 _),W7] at J;simp at J;subst J;exact ae x (x6 X)
    .rw[j0 Ω] at J;exact h1 a b x y ag X J
   .rw[r9,U];simp only[Z9,n9,l9,W]
def pc (l:List Int):Prop:=∀ (j:Nat) (x:Int),l[j]? =σ x->0<=x/\(0<j-> ∀y,l[j-1]? =σ y->y<x)
theorem pc.up (h:pc l):gi l:=by
 intro i j x y X U;induction j generalizing y with
 |zero=>omega
 |succ j V=>
  intro J;have Y:=(x4.1 J).1;obtain⟨z,I⟩:∃z,l[j]? =σ z:=⟨_,y0 (show j<l.length by omega)⟩;have h1:=(h (j+1) y J).2 Ω z (by simpa using I);by_cases W:i=j
  .subst W;rw[U] at I;cases I;exact h1
  .have:=V z Ω I;omega
theorem IH (h:gi l) (J:∀x∈l,0<=x):pc l:=λj x I=>⟨J x (x6 I),λV y U=>h (j-1) j y x Ω U I⟩
theorem zT {g an:Nat} {ak:x1} {cs:List Int} (h:cM w g an sv szs k cs) (I:aI .i64 w ak l):
  aj x3 Er [Γ g,ak] w λv w'=>Ext w w'/\ ∃c,v= .bool c/\(c=true↔l.length=szs.length/\pc l):=by
 obtain⟨⟨aJ,gs,ap,hm,X⟩,_⟩:=h;have sub:w.rangeAt g (0+0) [sv]:=l1 ap (by
  intro j v Y
  match j,Y with
  |0,Y=>exact Y)
 refine aA func255 ?_;rw[aS ah.u I,aw,aa cQ.p rfl,bn (cs:=[sv]) bo.p bo.i rfl sub];refine (yG hm.ls).mono ?_;rintro _ U _ ⟨rfl,ac⟩;simp only[bB,ad];refine⟨λaq=>⟨ac,false,rfl,(λh=>by cases h),λh=>absurd (by rw[h.1]) aq⟩,λal=>?_⟩;have al:l.length=szs.length:=Ω
 rw[aS ah.u (I.ext ac)];refine bC.range l.length (λi _ W=>Ext w W/\ ∀ (j:Nat) (x:Int),j<i->l[j]? =σ x->0<=x/\(0<j-> ∀y,l[j-1]? =σ y->y<x)) I.le ⟨ac,λj x au=>Ω⟩ ?_ ?_
 .rintro i _ W av hi ⟨J,ae⟩ ax;simp only[ao,ad];refine⟨λ_=>?_,λh=>Ω⟩;obtain⟨x,V⟩:∃x,l[i]? =σ x:=⟨_,y0 hi⟩;have aE:=I.le;rw[bc ah.u ab.i Ψ (I.ext J) V];refine aP (λv ay=>W=ay/\ ∃c,v= .bool c/\(c=false↔0<=x/\(0<i-> ∀y,l[i-1]? =σ y->y<x))) ?_ ?_
  .rintro _ _ ⟨rfl,c,rfl,X⟩;rw[bH];simp only[aN];refine⟨λaz=>⟨J,false,rfl,(λh=>by cases h),λh=>?_⟩,λaB=>ax _ _ ⟨J,λj aC au af=>?_⟩⟩
   .have:=X.2 (h.2 i x V);rw[az] at this;cases this
   .by_cases aD:j=i
    .subst aD;rw[V] at af;cases af;exact X.1 aB
    .exact ae j aC Ω af
  .intro aF ag;simp only[ao,bP,cX,ad];refine⟨λaG=>ag _ _ ⟨rfl,true,rfl,(λh=>by cases h),λh=>Ω⟩,λaH=>⟨λaK=>?_,λaL=>ag _ _ ⟨rfl,false,rfl,λ_=>⟨Ω,λh=>Ω⟩,λ_=>rfl⟩⟩⟩;obtain⟨y,ai⟩:∃y,l[i-1]? =σ y:=⟨_,y0 (show i-1<l.length by omega)⟩;rw[wrap_i64 Ω Ω,dZ (i:=i-1) Ω ah.u ab.i Ψ (I.ext J) ai];simp only[cb];refine ag _ _ ⟨rfl,_,rfl,?_⟩;rw[decide_eq_false_iff_not];refine⟨λh=>⟨Ω,λ_ aM am=>by rw[ai] at am;cases am;omega⟩,λh=>by have:=h.2 Ω y ai;omega⟩
 .rintro _ W av ⟨J,ae⟩;simp only[ao,ad];exact⟨λh=>Ω,λ_=>⟨J,true,rfl,λ_=>⟨al,λj x V=>ae j x (x4.1 V).1 V⟩,λ_=>rfl⟩⟩
def gC (l:List Int) (x:Int):Int:=if x∈l then (l.idxOf x:Int) else-1
theorem zU {i:Nat} {x:Int} (h:gi l) (hi:l[i]? =σ x):gC l x=i:=by
 have hm:x∈l:=x6 hi;have I:=List.idxOf_lt_length_of_mem hm;have J:l.idxOf x=i:=h.inj (by rw[y0 I,List.getElem_idxOf I]) hi;unfold gC;rw[if_pos hm,J]
theorem II {x:Int} (h:x∉l):gC l x= -1:=if_neg h
theorem tS {x:Int} (h:aI .i64 w sv l) (hu:gi l):
  aj x3 sE [sv,Δ x] w λv w'=>v=Δ (gC l x)/\Ext w w':=by
 refine aA func103 ?_;rw[aS ah.u h];refine bC.range l.length (λi _ U=>Ext w U/\ ∀j,j<i->l[j]? ≠σ x) h.le ⟨Ext.refl _,λj W=>Ω⟩ ?_ ?_
 .rintro i _ U k hi ⟨I,J⟩ X;simp only[ao,ad];refine⟨λ_=>?_,λh=>Ω⟩;obtain⟨y,V⟩:∃y,l[i]? =σ y:=⟨_,y0 hi⟩;rw[bc ah.u ab.i Ψ (h.ext I) V];simp only[bi,ad,aN];refine⟨λhe=>⟨?_,I⟩,λhe=>X _ _ ⟨I,λj W=>?_⟩⟩
  .subst he;rw[zU hu V]
  .by_cases Y:j=i
   .subst Y;rw[V];intro h;exact he (Z6 h).symm
   .exact J j Ω
 .rintro _ U k ⟨I,J⟩;simp only[ao,ad];refine⟨λh=>Ω,λ_=>⟨?_,I⟩⟩;rw[II];intro hm;obtain⟨i,hi,he⟩:=List.getElem_of_mem hm;exact J i hi (by rw[y0 hi,he])
def ei (x vars scope:List Int):List Int:=scope.map λp=>x.getD (vars.idxOf p) 0
theorem IJ (x vars scope:List Int):(ei x vars scope).length=scope.length:=by simp[ei]
theorem zV {jC ac:x1} {x vars:List Int} (ak:aI .i64 w jC x) (al:aI .i64 w ac vars) (I:aI .i64 w sv scope) (hu:gi vars) (am:∀p∈scope,p∈vars) (az:x.length=vars.length) (aB:scope.length<=1000):
  aj x3 Ew [jC,ac,sv] w λv w'=>Ext w w'/\ ∃g,w.heap.size<=g/\aq .i64 ab w' g v (ei x vars scope):=by
 refine aA func260 ?_;rw[aS ah.u I];refine iS ah.u ab.i Ω Ω λV U aC ae an=>?_;have ap:aq .i64 ab U V (.slice (σ ⟨V,0,ν⟩) scope.length scope.length) (o6 scope.length 0):=aq.of (n:=scope.length) (bQ.full an Ξ (by simp[maxLen];omega));generalize (x1.slice (σ ⟨V,0,ν⟩) scope.length scope.length)=au at*;rw[aS ah.u (I.ext ae)];have Y:=IJ x vars scope;refine bZ.range scope.length (λi W=>Ext w W/\aq .i64 ab W V au (upto (ei x vars scope) 0 i)) Ω ⟨ae,by rw[nm,Y];exact ap⟩ ?_ ?_
 .rintro i W av hi ⟨J,hm⟩ aw;simp only[ao,ad];refine⟨λ_=>?_,λh=>Ω⟩;obtain⟨p,aa⟩:∃p,scope[i]? =σ p:=⟨_,y0 hi⟩;have af:=am p (x6 aa);have aD:=List.idxOf_lt_length_of_mem af;rw[bc ah.u ab.i Ψ (I.ext J) aa];refine (tS (al.ext J) hu).mono ?_;rintro _ aE _ ⟨rfl,X⟩;have e:gC vars p=(vars.idxOf p:Int):=if_pos af;obtain⟨u,ag⟩:∃u,x[vars.idxOf p]? =σ u:=⟨_,y0 Ω⟩;have aF:(upto (ei x vars scope) 0 i).length=scope.length:=by rw[oJ,Y]
  rw[dZ (i:=vars.idxOf p) e ah.u ab.i Ψ (ak.ext (J.trans X)) ag,ha rfl ah.u ab.i (hm.ext X) Ω];refine hb ab.i (hm.ext X) Ω λaG ax _ ai=>?_;simp only[aN];have ay:(ei x vars scope)[i]? =σ u:=by
   unfold ei;rw[x8,aa,Y0,u4,ag];rfl
  rw[np ay] at ai;exact aw _ ⟨(J.trans X).then ax (by rintro r aH rfl;omega),ai⟩
 .rintro W av ⟨J,hm⟩;simp only[ao,ad];refine⟨λh=>Ω,λ_=>⟨J,V,Ω,?_⟩⟩;rw[<-Y,nn] at hm;exact hm
theorem zW (W:t≠[]) (hw:∀b∈t,bF b=true):lex t=([t],true):=by
 cases t with
 |nil=>exact absurd rfl W
 |cons b q=>
  have I:q.dropWhile bF=[]:=by
   have:∀ (q:List Int),(∀x∈q,bF x=true)->q.dropWhile bF=[]/\q.takeWhile bF=q:=λq I=>by
    induction q with
    |nil=>simp
    |cons x q J=>
     have:=J λy U=>I y (.tail _ U);simp[I x (.head _),this.1,this.2]
   exact (this q λx V=>hw x (.tail _ V)).1
  have X:q.takeWhile bF=q:=by
   have:∀ (q:List Int),(∀x∈q,bF x=true)->q.takeWhile bF=q:=λq I=>by
    induction q with
    |nil=>simp
    |cons x q J=>simp[I x (.head _),J λy U=>I y (.tail _ U)]
   exact this q λx V=>hw x (.tail _ V)
  rw[xE (hw b (.head _)),I,X]
theorem zX {p:x1} (h:aI .u8 w p l) (J:Bytes l) (V:l.length<=100000):aj x3 wH [p] w λv w'=>Ext w w'/\ ∃g R,v=Γ g/\w.heap.size<=g/\gx w' g R (lex l).1 (lex l).2/\¬R g:=by
 refine (xM h J V).mono ?_;rintro _ U _ ⟨W,g,rfl,X,Y,I⟩;obtain⟨h1,ac,ad,aa,ae,hm⟩:=id I;exact⟨W,g,λr=>r≠g,rfl,X,⟨Y,l,0,I,λr ab=>bU hm aa Φ ab,by rw[List.drop_zero]⟩,λh=>h rfl⟩
theorem IK {p:x1} (h:aI .u8 w p t) (ac:Bytes t) (ae:t.length<=100000) (ag:t≠[]) (hw:∀b∈t,bF b=true):aj x3 ED [p] w λv w'=>Ext w w'/\ ∃n:Int,v= .tuple #[Δ 1,Δ n,Δ 0]:=by
 have ah:=zW ag hw;refine aA func279 ?_;refine (zX h ac ae).mono ?_;rintro _ U _ ⟨ai,g,R,rfl,al,X,am⟩;rw[ah] at X;refine⟨λ_ _ _ I J=>af (λr=>r=g) U J/\((I=Δ 0/\gx J g R [t] true)\/(I=Δ 1/\gx J g R [] true)),λ_ _ _ I _=>1-(bL I).toNat,⟨af.refl _ _,.inl ⟨rfl,X⟩⟩,?_⟩;rintro _ _ _ _ J ⟨Y,⟨rfl,V⟩|⟨rfl,V⟩⟩
 .refine (oL V).mono ?_;rintro v aa _ ⟨W,ak,n,rfl⟩;rw[aK (v:=bw t) rfl,aK (v:=Δ n) rfl,aK (v:=Δ 0) rfl,bi,ad];refine⟨λ_=>?_,λh=>absurd rfl h⟩;rw[aN,wrap_i64 Ω Ω];exact⟨⟨Y.trans W,.inr ⟨rfl,ak⟩⟩,by simp[bL]⟩
 .refine (oL V).mono ?_;rintro v aa _ ⟨W,n,rfl⟩;rw[aK (v:=bw []) rfl,aK (v:=Δ n) rfl,aK (v:=Δ (if true then 2 else 11)) rfl,bi,ad];refine⟨λh=>by simp at h,λ_=>?_⟩;rw[bi,ad];refine⟨λh=>by simp at h,λ_=>?_⟩;have ab:Ext w aa:=ai.then (Y.trans W) (λr an he=>by have he:r=g:=he;omega);rw[aS cw.u (h.ext ab)];exact⟨ab,_,rfl⟩
theorem IL (I:Bytes t) (J:t.length<=100000) (V:t≠[]) (hw:∀b∈t,bF b=true):aj x3 El [bw t] w λv w'=>v= .bool true/\Ext w w':=by
 have ac:=zW V hw;refine aA func247 ?_;refine s9 cK.u cw.u cr.u I Ω λbv U W ae _=>?_;refine (IK ae I J V hw).mono ?_;rintro _ am _ ⟨X,n,rfl⟩;rw[aK (v:=Δ 1) rfl,aK (v:=Δ n) rfl,aK (v:=Δ 0) rfl];refine s9 cK.u cw.u cr.u I Ω λan ao Y af _=>?_;refine (zX af I J).mono ?_;rintro _ ap _ ⟨ag,g,R,rfl,aq,aa,au⟩;rw[ac] at aa;refine (oL aa).mono ?_;rintro _ ab _ ⟨ah,_,m,rfl⟩;rw[aK (v:=bw t) rfl,aK (v:=Δ m) rfl,aK (v:=Δ 0) rfl];have ai:Ext w ab:=(((W.trans X).trans (Y.trans ag))).then ah (λr av he=>by
  have he:r=g:=he;have:=W.size;have:=X.size;have:=Y.size;omega)
 refine aP (λv ak=>ab=ak/\v= .bool true) ?_ ?_
 .rintro _ _ ⟨rfl,rfl⟩;exact⟨rfl,ai⟩
 .intro aw al;rw[bi,ad];refine⟨λ_=>?_,λh=>absurd rfl h⟩;rw[bi,ad];refine⟨λ_=>?_,λh=>absurd rfl h⟩;rw[xA I I];exact al _ _ ⟨rfl,by rw[decide_eq_true rfl]⟩
theorem IM {x:Int}:aj x3 sL [Δ x] w λv w'=>v= .bool (decide (¬gZ x))/\Ext w w':=by
 refine aA func246 ?_;refine aP (λv U=>w=U/\v= .bool (decide (¬gZ x))) ?_ ?_
 .rintro _ _ ⟨rfl,rfl⟩;exact⟨rfl,Ext.refl _⟩
 .intro X J;rw[ao,ad];refine⟨λh=>J _ _ ⟨rfl,by rw[decide_eq_true];intro I;have:=I.1;omega⟩,λh=>?_⟩;rw[bP];refine J _ _ ⟨rfl,?_⟩;congr 1;rw[V8,decide_eq_true_eq,decide_eq_true_eq];exact⟨λV I=>by have:=I.2;omega,λV=>by
   by_cases W:32<x
   .exact W
   .exact absurd ⟨Ω,Ω⟩ V⟩
theorem IN (h:aI .i64 w sv l) (V:∀x∈l,gZ x):
  aj x3 qn [sv,.func (.func sL) #[] #[]] w λv w'=>v= .bool false/\Ext w w':=by
 refine aA func196 ?_;refine aj.mono (K:=λv w'=>v=Δ (-1)/\Ext w w') ?_ ?_
 .refine aA func170 ?_;rw[aS ah.u h];refine bC.range l.length (λ_ _ U=>Ext w U) h.le (Ext.refl _) ?_ ?_
  .rintro i _ U k hi I W;rw[ao,ad];refine⟨λ_=>?_,λh=>Ω⟩;obtain⟨x,J⟩:∃x,l[i]? =σ x:=⟨_,y0 hi⟩;rw[bc ah.u ab.i Ψ (h.ext I) J];show aj x3 sL [Δ x] U _;refine IM.mono ?_;rintro _ aa _ ⟨rfl,X⟩;rw[ad];refine⟨λY=>absurd (V x (x6 J)) Y,λ_=>?_⟩;rw[aN];exact W _ _ (I.trans X)
  .rintro _ U k I;rw[ao,ad];exact⟨λh=>Ω,λ_=>⟨rfl,I⟩⟩
 .rintro _ U _ ⟨rfl,I⟩;rw[cb];exact⟨rfl,I⟩
theorem rp {m:Bool} {S R:ai} {d:gh} (h:ak.rep m S R w cs d):∃sv g I aD gs,cs=[sv,Γ g]/\aI .i64 w sv d.1/\e4 w g I aD gs d.2.szs d.2.k d.2.o d.2.D:=by
 obtain⟨c,e,A,B,rfl,_,_,_,h1,J⟩:=h;have h1:ak.rep (α:=List Int) false bp R w c d.1:=h1;obtain⟨u,rfl⟩:=X7.1 (show c.length=1 from ak.len h1);obtain⟨g,m,sv,gs,rfl,U,_⟩:=J;exact⟨u,g,m,sv,gs,rfl,dR h1,U⟩
theorem IP {aH:Nat} {f:bY} {d:gh} {x:cd} {m:Bool} {S R:ai} (aT:jL w aH f) (aU:eL N f) (aV:x∈f.funs) (aW:pb f.k x d) (aX:ak.rep m S R w cs d):
  aj x3 EE [Γ aH,.agg cs.toArray] w λv w'=>v= .bool true/\Ext w w':=by
 obtain⟨au,bf,bg,bI,aI,aJ,_,_⟩:=aT;obtain⟨sv,ag,bh,aD,gs,rfl,W,ay⟩:=rp aX;obtain⟨aY,aK,aZ,bi,bj,bk⟩:=aW;obtain⟨ap,bl,bm⟩:=aU.funs x aV;rw[aY] at W;refine aA func281 ?_;refine bM λam U bn Y aq=>?_;have aq:ae U am ck [sv,Γ ag]:=by obtain⟨_,_,_,rfl⟩:=b0 W;exact aq
 refine aP (λv av=>Ext U av/\v= .bool false) ?_ ?_
 rotate_left
 .intro a1 az;intro av V _ _;have X:=aq.ext V;rw[aa ck.p rfl,ac Ψ (X.cell (o:=0+1) rfl),cA ep.u];simp only[j6,aQ];rw[aa ck.p rfl,ac Ψ (X.cell (o:=0+1) rfl),aw,aa cp.p rfl,ac Ψ ((aI.ext (Y.trans V)).cell (o:=0+1) rfl)];refine (G4 (ay.ext (Y.trans V)).is).mono ?_;rintro _ af _ ⟨rfl,I⟩;refine⟨.inl I,?_⟩;rw[bB,ad];refine⟨λh=>absurd aZ h,λ_=>?_⟩;have al:=X.ext I;have aB:=V.trans I;rw[aa ck.p rfl,ac Ψ (al.cell (o:=0+1) rfl),aa ck.p rfl,ac Ψ (al.cell (o:=0+0) rfl),aS ah.u (W.ext (Y.trans aB))];refine (G5 (ay.ext (Y.trans aB)).is).mono ?_;rintro _ ax _ ⟨rfl,J⟩;refine⟨.inl J,?_⟩;rw[bB];refine az _ _ ⟨aB.trans J,?_⟩;rw[decide_eq_false];intro h;exact h (by rw[aK,ap.sizes,u5])
 rintro _ av ⟨V,rfl⟩;rw[aQ];have X:=aq.ext V;have aC:=Y.trans V;rw[aa ck.p rfl,ac Ψ (X.cell (o:=0+0) rfl),aS ah.u (W.ext aC)];refine bC.range x.scope.length (λ_ _ af=>Ext av af) Ω (Ext.refl _) ?_ ?_
 rotate_left
 .rintro _ af k I;rw[ao,ad];exact⟨λh=>Ω,λ_=>⟨rfl,aC.trans I⟩⟩
 rintro i _ af k hi I a2;obtain⟨v,an⟩:∃v,x.scope[i]? =σ v:=⟨_,y0 hi⟩;have bo:=ap.scope.2 v (x6 an);have aE:=aC.trans I;have al:=X.ext I;have aL:=aI.ext aE;have a6:f.sizes[v.toNat]? =σ (f.sizes.getD v.toNat 0):=by
  rw[u4,y0 Ω];rfl
 rw[ao,ad];refine⟨λ_=>?_,λh=>Ω⟩;rw[bc ah.u ab.i Ψ (W.ext aE) an];refine aP (λb ax=>Ext af ax/\b= .bool false) ?_ ?_
 .rintro _ ax ⟨J,rfl⟩;rw[aQ,aN];exact a2 _ _ (I.trans J)
 .intro a1 az;intro ax J _ _;have aF:=aE.trans J;rw[ao,ad];refine⟨λh=>Ω,λ_=>?_⟩;rw[aw,aa cp.p rfl,ac Ψ ((aL.ext J).cell (o:=0+2) rfl),aS ah.u (aJ.ls.ext aF),cb,ad];refine⟨λh=>Ω,λ_=>?_⟩;rw[aa ck.p rfl,ac Ψ ((al.ext J).cell (o:=0+0) rfl)];refine (zQ (W.ext aF)).mono ?_;rintro _ bp _ ⟨aM,r,rfl,a7⟩;have a8:r=(i:Int):=(a7 i an).2 λj bq ba=>by have:=i7 ap.scope.1 ba an;omega
  subst a8;have aO:=aF.trans aM;have aG:=J.trans aM;rw[bB,ad];refine⟨λh=>absurd rfl h,λ_=>?_⟩;rw[aa ck.p rfl,ac Ψ ((al.ext aG).cell (o:=0+1) rfl),aw,aa cp.p rfl,ac Ψ ((aL.ext aG).cell (o:=0+2) rfl)];refine s5 (y:=v) (i:=v.toNat) Ω ah.u ab.i (aJ.ls.ext aO) a6 λb o bb=>?_;rw[ac Ψ bb];refine (tw (ay.ext aO).is).mono ?_;rintro br bt _ ⟨aR,bu,bw,bd⟩;refine⟨.inl aR,?_⟩;have be:d.2.szs[i]? =σ (f.sizes.getD v.toNat 0):=by
   rw[aK,ap.sizes,x8,an];rfl
  rw[bc ah.u ab.i Ψ bd.ls be,bB];exact az _ _ ⟨aG.trans aR,by rw[decide_eq_false (λh=>h rfl)]⟩
theorem IQ {W:Nat} {f:bY} {d:gh} {x:cd} {m:Bool} {S R:ai} (X:jL w W f) (Y:eL N f) (aa:x∈f.funs) (ab:pb f.k x d) (I:ak.rep m S R w cs d):
  aj x3 sM [Γ W,.agg cs.toArray] w λv w'=>v= .bool false/\Ext w w':=by
 refine aA func249 ?_;refine bM λam U ah J V=>?_;have ac:cs.length=2:=ak.len I;have V:ae U am ck cs:=by
  obtain⟨sv,ag,al,aD,gs,rfl,ad,an⟩:=rp I;obtain⟨_,_,_,rfl⟩:=b0 ad;exact V
 rw[bn ck.p ck.i ac V.range];refine (IP (X.ext J) Y aa ab (be I J)).mono ?_;rintro _ ao _ ⟨rfl,af⟩;rw[bg];exact⟨rfl,J.trans af⟩
theorem IR {J:Nat} {f:bY} {W:x1} {bI:List gh} {m:Bool} {S R:ai} (ab:jL w J f) (ac:eL N f) (V:ak.rep m S R w [W] bI) (X:rm f.k f.funs bI):
  aj x3 Em [W,.func (.func sM) #[Γ J] #[]] w λv w'=>v= .bool false/\Ext w w':=by
 refine aA func248 ?_;refine aj.mono (K:=λv w'=>v=Δ (-1)/\Ext w w') ?_ ?_
 .refine aA func280 ?_;rw[eK dm.u V];refine bC.range bI.length (λ_ _ U=>Ext w U) (m8 V) (Ext.refl _) ?_ ?_
  .rintro i _ U k hi I ae;rw[ao,ad];refine⟨λ_=>?_,λh=>Ω⟩;obtain⟨d,Y⟩:∃d,bI[i]? =σ d:=⟨_,y0 hi⟩;obtain⟨x,aa⟩:∃x,f.funs[i]? =σ x:=⟨_,y0 (by have:=X.1;omega)⟩;refine im (α:=gh) ck.p rfl dm.u ck.i (be V I) Y λcs af=>?_;show aj x3 sM [Γ J,.agg cs.toArray] U _;refine (IQ (ab.ext I) ac (x6 aa) (X.2 i x d aa Y) af).mono ?_;rintro _ ah _ ⟨rfl,ag⟩;rw[aQ,aN];exact ae _ _ (I.trans ag)
  .rintro _ U k I;rw[ao,ad];exact⟨λh=>Ω,λ_=>⟨rfl,I⟩⟩
 .rintro _ U _ ⟨rfl,I⟩;rw[cb];exact⟨rfl,I⟩
def kB (I:List cd):Nat:=(I.map λx=>x.lines.length).sum
theorem IS {aV:Nat} {f:bY} (aW:jL w aV f) (J:eL N f) (bM:N<=60000) (aH:f.name≠[]/\ ∀b∈f.name,bF b=true):
  aj x3 D3 [Γ aV] w λv w'=>Ext w w'/\ ∃e:Int,v=Δ e/\(kB f.funs<=16384->e=0):=by
 obtain⟨au,bN,bO,bI,X,aI,aJ,Y⟩:=id aW;have bQ:=J.name;have ba:Bytes f.name:=λb bb=>by
  have:=of_decide_eq_true (aH.2 b bb);omega
 refine aA func209 ?_;rw[cA sN.u];simp only[j6,aQ];refine aP (λv U=>Ext w U/\v= .bool false) ?_ ?_
 rotate_left
 .intro aK W;rw[aw,aa cp.p rfl,ac Ψ (X.cell (o:=0+0) rfl)];refine (IL ba Ω aH.1 aH.2).mono ?_;rintro _ U _ ⟨rfl,I⟩;rw[bg,Y1,aQ];rw[aw,aa cp.p rfl,ac Ψ ((X.ext I).cell (o:=0+2) rfl),aS ah.u (aI.ls.ext I),bi,ad];refine⟨λh=>by have:=J.sizes.1;omega,λ_=>?_⟩;rw[aw,aa cp.p rfl,ac Ψ ((X.ext I).cell (o:=0+2) rfl)];refine (IN (aI.ls.ext I) J.sizes.2.2).mono ?_;rintro _ V _ ⟨rfl,ae⟩;have aX:=I.trans ae;rw[aQ,aw,aa cp.p rfl,ac Ψ ((X.ext aX).cell (o:=0+1) rfl)];refine xg.mono ?_;rintro _ af _ ⟨rfl,ai⟩;have az:=aX.trans ai;rw[decide_eq_true (show right f.k from J.k),bg,Y1,aQ,aw,aa cp.p rfl,ac Ψ ((X.ext az).cell (o:=0+3) rfl),kj];refine (IR (aW.ext az) J (be aJ az) Y).mono ?_;rintro _ aY _ ⟨rfl,bd⟩;exact W _ _ ⟨az.trans bd,rfl⟩
 rintro _ U ⟨I,rfl⟩;rw[aQ];have aB:=X.ext I;refine aP (λv V=>U=V/\v= .bool false) ?_ ?_
 rotate_left
 .intro aK W;rw[aw,aa cp.p rfl,ac Ψ (aB.cell (o:=0+0) rfl),l6 cK.u,bP,ad];refine⟨λh=>Ω,λ_=>?_⟩;rw[aw,aa cp.p rfl,ac Ψ (aB.cell (o:=0+2) rfl),aS ah.u (aI.ls.ext I),bP,ad];refine⟨λh=>by have:=J.sizes.2.1;omega,λ_=>?_⟩;rw[aw,aa cp.p rfl,ac Ψ (aB.cell (o:=0+3) rfl),eK dm.u (be aJ I),bP];exact W _ _ ⟨rfl,by rw[decide_eq_false];have:=J.jD;have:=Y.1;omega⟩
 rintro _ _ ⟨rfl,rfl⟩;have aZ:=be aJ I;rw[aw,aa cp.p rfl,ac Ψ (aB.cell (o:=0+3) rfl),eK dm.u aZ];refine⟨λbf bh aL V=>∃i n:Nat,aL=Δ (i:Int)/\i<=bI.length/\bf=Δ (n:Int)/\bh= .bool false/\Ext U V/\n<=kB (f.funs.take i)/\n<=i*60000,λ_ _ aL _=>bI.length-(bL aL).toNat,
  ⟨0,0,rfl,Y9 _,rfl,rfl,Ext.refl _,Y9 _,Ω⟩,?_⟩
 rintro _ _ _ V ⟨i,n,rfl,hi,rfl,rfl,ae,bj,bR⟩;have bS:bI.length<=256:=by rw[Y.1];exact J.jD
 rw[ao,ad];refine⟨λa1=>?_,λbT=>?_⟩
 .have a1:i<bI.length:=Ω
  obtain⟨d,a2⟩:∃d,bI[i]? =σ d:=⟨_,y0 a1⟩;obtain⟨x,aM⟩:∃x,f.funs[i]? =σ x:=⟨_,y0 (by have:=Y.1;omega)⟩;have aC:=Y.2 i x d aM a2;obtain⟨aE,bk,bl⟩:=J.funs x (x6 aM);have bU:=aE.len;refine hW (λa b af=>Ext V af/\a=Δ ((n+d.2.D.length:Nat):Int)/\b= .bool false) ?_ ?_
  .rintro _ _ af ⟨ai,rfl,rfl⟩;rw[aN,wrap_i64 Ω Ω];have bm:=aC.2.2.2.2.1;refine⟨⟨i+1,n+d.2.D.length,rfl,Ω,rfl,rfl,ae.trans ai,?_,?_⟩,by simp only[bL];omega⟩
   .have e:kB (f.funs.take (i+1))=kB (f.funs.take i)+x.lines.length:=by
     unfold kB;rw[r9,aM,Z9,Z4,List.sum_append,S2,List.map_nil,List.sum_cons,List.sum_nil,Nat.add_zero]
    omega
   .have:(i+1)*60000=i*60000+60000:=Ω
    have bV:d.2.D.length<=60000:=Ω
    omega
  .intro aK W;refine im (α:=gh) ck.p rfl dm.u ck.i (be aZ ae) a2 λcs bn=>?_;obtain⟨sv,ag,bW,aD,gs,rfl,bo,a6⟩:=rp bn;refine bt ck.i λam af bX ai bp=>?_;refine bJ (vs:=[sv,Γ ag]) ck.i rfl rfl (by intro v aF;simp at aF;rcases aF with rfl|rfl <;> first|exact bo.cells.2|rfl) bp λaY bq bZ a7=>?_;have aO:Ext V aY:=ai.then bq (λr br he=>by have he:r=am:=he;omega);rw[aa ck.p rfl,ac Ψ (a7.cell (o:=0+1) rfl)];refine (G3 (a6.ext aO).is).mono ?_;rintro _ b0 _ ⟨rfl,aR⟩;have bm:=aC.2.2.2.2.1;rw[aN,wrap_i64 Ω Ω,aa ck.p rfl,ac Ψ ((a7.ext aR).cell (o:=0+1) rfl)];refine (tw ((a6.ext aO).ext aR).is).mono ?_;rintro b1 aT _ ⟨bu,b2,b3,a8⟩;rw[aS ah.u a8.ls];have b4:d.2.szs.length<=6:=by rw[aC.2.1,aE.sizes,u5];exact bk
   refine bC.range d.2.szs.length (λj out aG=>Ext aT aG/\ ∃ak,aT.heap.size<=ak/\aq .i64 an aG ak out (d.2.szs.take j)) Ω ⟨Ext.refl _,aT.heap.size,o8 _,aq.nil _ _ _ _⟩ ?_ ?_
   .rintro j out aG k bw ⟨al,ak,bx,ap⟩ bz;obtain⟨z,av⟩:∃z,d.2.szs[j]? =σ z:=⟨_,y0 bw⟩;rw[ao,ad];refine⟨λ_=>?_,λh=>Ω⟩;rw[bc ah.u ab.i Ψ (a8.ls.ext al) av];refine dJ ax.u an.i rfl λa aU bA b5 ay bB=>?_;refine hy ax.u an.i rfl (ap.ext ay) bB.ls Θ Θ λb6 bD b7 b8 bE bG=>?_;have b9:=al.size;have ca:=ay.size;rw[aN];refine bz _ _ ⟨(al.trans ay).then bG (λr br he=>by have he:r=ak:=he;omega),bD,Ω,?_⟩;rw[r9,av];exact bE
   .rintro out aG k ⟨al,ak,bx,ap⟩;rw[o9] at ap;rw[ao,ad];refine⟨λh=>Ω,λ_=>?_⟩;rw[aQ];have bH:d.2.szs=x.sizes:=aC.2.1;rw[bH] at ap;refine (yC ap.ls λz av=>?_).mono ?_
    .rw[aE.sizes] at av;obtain⟨v,aF,rfl⟩:=Z5.1 av;have cb:=aE.scope.2 v aF;refine (J.sizes.2.2 _ ?_).1;rw[u4,y0 Ω];exact R2 _
    .rintro _ bA _ ⟨rfl,ay⟩;refine W _ _ _ ⟨(((aO.trans aR).trans bu).trans al).trans ay,by congr 1,by rw[bl]⟩
 .have bK:i=bI.length:=Ω
  subst bK;rw[Y.1,o9] at bj;refine aP (λv af=>V=af/\v= .bool (decide (16384<(n:Int)))) ?_ ?_
  .rintro _ _ ⟨rfl,rfl⟩;rw[ad];refine⟨λh=>⟨I.trans ae,5,rfl,λcc=>Ω⟩,λh=>⟨I.trans ae,0,rfl,λ_=>rfl⟩⟩
  .intro aK W;rw[aQ,bP];exact W _ _ ⟨rfl,rfl⟩
theorem rq:∀ {a b:List Int} {i:Nat},(∀ (j:Nat) (x y:Int),j<i->a[j]? =σ x->b[j]? =σ y->x=y)->i<=a.length->i<=b.length->ff a b=ff (a.drop i) (b.drop i)
 |_,_,0,_,_,_=>Ξ
 |[],_,i+1,_,h,_=>by simp at h
 |_::_,[],i+1,_,_,h=>by simp at h
 |x::a,y::b,i+1,he,h1,I=>by
  have J:=he 0 x y Ω rfl rfl;subst J;simp only[ff,Int.lt_irrefl,if_false,List.drop_succ_cons];exact rq (λj u v V hu U=>he (j+1) u v Ω hu U) (by simpa using h1) (by simpa using I)
theorem zY {x:Int}:aj x3 cmp_isNaN_int [Δ x] w λv w'=>v= .bool false/\Ext w w':=by
 refine aA func182 ?_;simp only[bB];exact⟨Ξ,Ext.refl _⟩
theorem zZ {x:Int}:aj x3 Db [Δ x,Δ y] w λv w'=>v=Δ (if x<y then-1 else if y<x then 1 else 0)/\Ext w w':=by
 refine aA func114 ?_;refine zY.mono ?_;rintro _ U _ ⟨rfl,I⟩;refine zY.mono ?_;rintro _ W _ ⟨rfl,J⟩;simp only[aQ,ao,bP,ad];exact⟨λh=>⟨by rw[if_pos h],I.trans J⟩,λh=>⟨λV=>⟨by rw[if_neg h,if_pos V],I.trans J⟩,λV=>⟨by rw[if_neg h,if_neg V],I.trans J⟩⟩⟩
theorem IT {b:List Int} (W:aI .i64 w db a) (Y:aI .i64 w bv b):aj x3 D9 [db,bv] w λv w'=>v=Δ (ff a b)/\Ext w w':=by
 refine aA func220 ?_;have aD:=W.le;rw[aS ah.u W];refine⟨λ_ aa U=>∃i:Nat,aa=Δ (i:Int)/\i<=a.length/\i<=b.length/\Ext w U/\ ∀ (j:Nat) (x y:Int),j<i->a[j]? =σ x->b[j]? =σ y->x=y,λ_ aa _=>a.length-(bL aa).toNat,⟨0,rfl,Y9 _,Y9 _,Ext.refl _,λj x y aq=>Ω⟩,?_⟩;rintro _ _ U ⟨i,rfl,au,av,I,ak⟩;have J:ff a b=ff (a.drop i) (b.drop i):=rq ak au av;simp only[ao,ad];refine⟨λX=>?_,λaE=>?_⟩
 .have X:i<a.length:=Ω
  obtain⟨x,ac⟩:∃x,a[i]? =σ x:=⟨_,y0 X⟩;have al:a.drop i=x::a.drop (i+1):=by rw[W8 X,(x4.1 ac).2]
  rw[bc ah.u ab.i Ψ (W.ext I) ac,aS ah.u (Y.ext I)];simp only[cb,ad];refine⟨λh=>?_,λh=>?_⟩
  .have:b.drop i=[]:=by rw[List.drop_eq_nil_iff];omega
   rw[this,al] at J;exact⟨by rw[J];rfl,I⟩
  have ae:i<b.length:=Ω
  obtain⟨y,af⟩:∃y,b[i]? =σ y:=⟨_,y0 ae⟩;have aw:b.drop i=y::b.drop (i+1):=by rw[W8 ae,(x4.1 af).2]
  rw[bc ah.u ab.i Ψ (Y.ext I) af];refine zZ.mono ?_;rintro _ aF _ ⟨rfl,am⟩;rw[al,aw] at J;simp only[ff] at J;simp only[bB,ad,aN];refine⟨λan=>⟨?_,I.trans am⟩,λax=>?_⟩
  .rw[J];by_cases h1:x<y
   .rw[if_pos h1,if_pos h1]
   .by_cases V:y<x
    .rw[if_neg h1,if_pos V,if_neg h1,if_pos V]
    .rw[if_neg h1,if_neg V] at an;exact absurd rfl an
  .rw[wrap_i64 Ω Ω];refine⟨⟨i+1,rfl,X,ae,I.trans am,λj ay az aq ag ai=>?_⟩,by simp only[bL];omega⟩;by_cases aB:j=i
   .subst aB;rw[ac] at ag;rw[af] at ai;cases ag;cases ai;have ap:=X2.1 ax;by_cases h1:x<y
    .rw[if_pos h1] at ap;omega
    .by_cases V:y<x
     .rw[if_neg h1,if_pos V] at ap;omega
     .omega
   .exact ak j ay az Ω ag ai
 .have aC:i=a.length:=Ω
  subst aC;rw[List.drop_length] at J;rw[aS ah.u (W.ext I),aS ah.u (Y.ext I)];simp only[ao,ad];refine⟨λh=>⟨?_,I⟩,λh=>⟨?_,I⟩⟩
  .obtain⟨y,l,e⟩:∃y l,b.drop a.length=y::l:=⟨_,_,W8 Ω⟩;rw[J,e];rfl
  .have:b.drop a.length=[]:=by rw[List.drop_eq_nil_iff];omega
   rw[J,this];rfl
theorem IU {x:Int} {W:x1} (h:aI .i64 w W [x,y]):aj x3 Da [W] w λv w'=>v=Δ (if x≠0 then x else y)/\Ext w w':=by
 refine aA func113 ?_;rw[aS ah.u h];refine bC.range 2 (λi _ U=>Ext w U/\(1<=i->x=0)/\(2<=i->y=0)) Ω ⟨Ext.refl _,Ω,Ω⟩ ?_ ?_
 .rintro i _ U k hi ⟨I,h1,J⟩ V;rw[ao,ad];refine⟨λ_=>?_,λh=>by simp at h;omega⟩
  match i,hi,h1,J,V with
  |0,_,h1,J,V=>
   rw[bc (i:=0) ah.u ab.i Ψ (h.ext I) rfl,bB,ad];refine⟨λX=>⟨by rw[if_pos X],I⟩,λhe=>?_⟩;rw[aN];exact V _ _ ⟨I,λ_=>X2.1 he,λh=>Ω⟩
  |1,_,h1,J,V=>
   rw[bc (i:=1) ah.u ab.i Ψ (h.ext I) rfl,bB,ad];have Y:=h1 (o8 _);refine⟨λX=>⟨by rw[if_neg Ω],I⟩,λhe=>?_⟩;rw[aN];exact V _ _ ⟨I,λ_=>Y,λ_=>X2.1 he⟩
 .rintro _ U k ⟨I,h1,J⟩;have Y:=h1 Ω;have aa:=J Ω;rw[ao,ad];exact⟨λh=>by simp at h,λ_=>⟨by rw[if_neg Ω,aa],I⟩⟩
structure cv where
 sv:x1
 g:Nat
 sc:List Int
 cs:List Int
def ej (h:cv):List x1:=[h.sv,Γ h.g]
abbrev iz (h:cv):x1:=.agg (ej h).toArray
def pd (h:cv):Int:=cT h.sc
def hJ (w:x2) (I:Nat) (h:cv):Prop:=(∃J,aq .i64 ab w J h.sv h.sc)/\(∀r,leads h.sv r->r≠I)/\h6 h.sc
theorem hJ.V {I:Nat} {h:cv} (aH:hJ w I h) (J:af S w w') (U:∀r,leads h.sv r->¬S r):hJ w' I h:=by
 obtain⟨⟨W,hm⟩,X⟩:=aH;exact⟨⟨W,bb hm J U⟩,X⟩
theorem hJ.one {I:Nat} {h:cv} (aH:hJ w I h):∀u∈ej h,u.oneCell'=true:=by
 obtain⟨⟨J,hm⟩,_⟩:=aH;intro u hu;simp[ej] at hu;rcases hu with rfl|rfl
 .exact hm.ls.cells.2
 .rfl
def eH (w:x2) (g:Nat) (v:x1) (L:List cv):Prop:=a6 ej 2 cG w g v L/\ ∀h∈L,hJ w g h
theorem eH.ext {g:Nat} {L:List cv} (h:eH w g v L) (I:Ext w w'):eH w' g v L:=⟨h.1.ext I,λx J=>(h.2 x J).V (I.V λ_=>False) λ_ _ h=>h⟩
theorem eH.at {g:Nat} {L:List cv} (h:eH w g v L) {i:Nat} {x:cv} (hi:L[i]? =σ x):hJ w g x:=h.2 x (x6 hi)
theorem rr {g:Nat} {L:List cv} {i:Nat} {x:cv} {K:x1->Prop} (I:y=(i:Int)) (h:eH w g v L) (hi:L[i]? =σ x):
  J x3 (n0 fm v (Δ y)) w (λp=>J x3 (x5 cG p) w K)=K (iz x):=by
 rw[cO I fm.u cG.i h.1 (x4.1 hi).1,bn cG.p cG.i rfl (h.1.range hi)]
theorem IV {g:Nat} {L:List cv} {i:Nat} {x:cv} {K:Unit->x2->Prop} (Y:y=(i:Int)) (h:eH w g v L) (hi:i<L.length) (U:hJ w g x)
  (aa:∀w',af (λr=>leadsTo v r) w w'->eH w' g v (L.set i x)->K () w'):J x3 (n0 fm v (Δ y)) w λp=>az x3 (o4 cG p (iz x)) w K:=by
 rw[cO Y fm.u cG.i h.1 hi];refine yW (f:=ej) cG.i h.1 rfl U.one hi λw' W _ h'=>aa w' W ⟨h',λz I=>?_⟩;rcases V3 I with I|rfl
 .exact (h.2 z I).V W λr X he=>(h.2 z I).2.1 r X (h.1.leads he).1
 .exact U.V W λr X he=>U.2.1 r X (h.1.leads he).1
abbrev IW:x1:=.func (.func wQ) #[] #[]
def rt (a b:cv):Int:=let c:Int:=if (a.sc.length:Int)<b.sc.length then-1 else if (b.sc.length:Int)<a.sc.length then 1 else 0
 if c≠0 then c else ff a.sc b.sc
theorem IX {a b:cv} (J:h6 a.sc) (U:h6 b.sc):rt a b<0↔pd a<pd b:=by
 have V:=(tJ J U).1;unfold pd rt;simp only;generalize W:(if (a.sc.length:Int)<b.sc.length then (-1:Int) else if (b.sc.length:Int)<a.sc.length then 1 else 0)=c;rw[V,<-W];by_cases h1:(a.sc.length:Int)<b.sc.length
 .rw[if_pos h1,if_pos Ω];exact⟨λ_=>.inl Ω,λ_=>Ω⟩
 .by_cases I:(b.sc.length:Int)<a.sc.length
  .rw[if_neg h1,if_pos I,if_pos Ω];exact⟨λh=>Ω,λh=>by rcases h with h|h <;> omega⟩
  .rw[if_neg h1,if_neg I,if_neg Ω];exact⟨λh=>.inr ⟨Ω,h⟩,λh=>by rcases h with h|h;omega;exact h.2⟩
theorem IY {af:Nat} {a b:cv} (ai:hJ w af a) (ak:hJ w af b):aj x3 wQ [iz a,iz b] w λv w'=>Ext w w'/\v=Δ (rt a b):=by
 obtain⟨⟨aU,X⟩,_,aw⟩:=ai;obtain⟨⟨ax,Y⟩,_,ay⟩:=ak;refine aA func219 ?_;refine bM λal U az am J=>?_;refine bM λan ao aB ag V=>?_;have J:ae U al cG [a.sv,Γ a.g]:=by
  obtain⟨_,_,_,e⟩:=b0 X.ls;simp only[iz,ej,e] at J ⊢;exact J
 have V:ae ao an cG [b.sv,Γ b.g]:=by
  obtain⟨_,_,_,e⟩:=b0 Y.ls;simp only[iz,ej,e] at V ⊢;exact V
 intro aC ad _ _;have I:=(am.trans ag).trans ad;have f1:=(J.ext ag).ext ad;have f2:=V.ext ad;rw[aa cG.p rfl,ac Ψ (f1.cell (o:=0+0) rfl),aS ah.u (X.ls.ext I),aa cG.p rfl,ac Ψ (f2.cell (o:=0+0) rfl),aS ah.u (Y.ls.ext I),
  aa cG.p rfl,ac Ψ (f1.cell (o:=0+0) rfl),aa cG.p rfl,ac Ψ (f2.cell (o:=0+0) rfl)]
 refine zZ.mono ?_;rintro _ aD _ ⟨rfl,W⟩;refine⟨.inl W,?_⟩;refine (IT ((X.ls.ext I).ext W) ((Y.ls.ext I).ext W)).mono ?_;rintro _ aE _ ⟨rfl,ap⟩;refine oz (l:=[if (a.sc.length:Int)<b.sc.length then (-1:Int) else if (b.sc.length:Int)<a.sc.length then 1 else 0,ff a.sc b.sc]) ah.u ab.i Ω rfl Ψ λaF aG aH aI aq au=>?_;refine (IU au.ls).mono ?_;rintro _ aJ _ ⟨rfl,av⟩;exact⟨((((I.trans W).trans ap).trans aq).trans av),rfl⟩
theorem IZ {g:Nat} {L:List cv} (h:eH w g v L) (ac:L.length<65536):
  aj x3 D8 [v,IW] w λ_ w'=>af (λr=>leadsTo v r) w w'/\ ∃M,M.Perm L/\q7 pd M 0 M.length/\eH w' g v M:=by
 have U:∀ {W:x2} {a:cv},af (λr=>r=g) w W->hJ w g a->hJ W g a:=λJ I=>I.V J λr X he=>I.2.1 r X he;refine (y4 Hf (G:=hJ w g) (num:=pd) (cf:=rt) (cap:=#[]) Hj Hk (λa I=>I.one) (λa _=>rfl) (λa b I Y=>IX I.2.2 Y.2.2) (Enters.of x3 Hl rfl Ψ) h.1 h.2 ac λW a b J I Y=>IY (U J I) (U J Y)).mono ?_;rintro _ w' _ ⟨J,M,ab,hu,hm⟩;have ad:af (λr=>r=g) w w':=J.mono λr _ X=>(h.1.leads X).1;exact⟨J,M,ab,λp q x y _ ae _ aa ag=>hu p q x y ae aa ag,hm,λx aa=>U ad (h.2 x (ab.mem_iff.1 aa))⟩
theorem I0 {m:List Int} (V:ja l) (W:l.Nodup) (J:m.Perm l) (I:m.Pairwise (·<= ·)):m=bh l:=by
 refine tK (f:=λx=>x) ?_ (tI l) λx=>?_
 .have X:m.Nodup:=J.nodup_iff.2 W;exact (List.Pairwise.and I X).imp λ{a b} h=>by
   obtain⟨h1,U⟩:=h;have U:a≠b:=U;omega
 .rw[J.mem_iff,o2 V]
theorem I1 (h:∀z∈l,1<=z/\z<=32) (I:c6 l=false):aL l<=4096:=by
 have:=of_decide_eq_false I;rw[tM h] at this;omega
theorem I2 {f:bY} {d:gh} {x:cd} {m:Bool} {S R:ai} (X:eL N f) (bK:N<=60000) (aF:x∈f.funs) (a2:pb f.k x d) (a6:ak.rep m S R w cs d):
  aj x3 D4 [.agg cs.toArray] w λv w'=>Ext w w'/\ ∃sv gs an aG aH,v= .tuple #[sv,Γ an]/\w.heap.size<=gs/\aq .i64 ab w' gs sv (bh x.scope)/\cM w' an aG aH (bD f.sizes (bh x.scope)) f.k (gO f.sizes f.k x).2:=by
 obtain⟨sv,ag,bL,aD,bN,rfl,ax,a7⟩:=rp a6;obtain⟨a8,ba,bb,bO,bP,bd⟩:=a2;obtain⟨J,be,bf⟩:=X.funs x aF;have aO:=rf J X.sizes.2.1;have bR:=J.len;rw[a8] at ax;have bg:∀z∈x.sizes,1<=z/\z<=32:=λz aP=>by
  rw[J.sizes] at aP;obtain⟨v,bi,rfl⟩:=Z5.1 aP;have bS:=J.scope.2 v bi;refine X.sizes.2.2 _ ?_;rw[u4,y0 Ω];exact R2 _
 have bj:=I1 bg bf;have aI:=re aO J.scope.1;have bT:(bh x.scope).length<=6:=by rw[aI.length_eq];exact be
 refine aA func210 ?_;refine bM λam U bU aQ ap=>?_;have ap:ae U am ck [sv,Γ ag]:=by obtain⟨_,_,_,rfl⟩:=b0 ax;exact ap
 rw[aa ck.p rfl,ac Ψ (ap.cell (o:=0+1) rfl)];refine (zK (a7.ext aQ).is Ω).mono ?_;rintro _ bk _ ⟨aJ,_,au⟩;rw[ba] at au;obtain⟨g,bV,bW,bl,rfl,bX,b1,au,aR⟩:=au bj;rw[bb] at au;rw[aK (v:=Γ g) rfl,aK (v:=Δ 0) rfl,aa ck.p rfl,ac Ψ ((ap.ext aJ).cell (o:=0+0) rfl)];have av:=aQ.trans aJ;refine tP (ax.ext av) Ω λv aT gs b2 ay b3 bm I az=>?_;have bn:=I0 aO J.scope.1 bm I;subst bn;have b4:=av.size;rw[aS ah.u az.ls];refine iS (k:=.i64) ah.u ab.i Ω Ω λgo aU b5 aB aV=>?_;have bo:aq .i64 ab aU go (.slice (σ ⟨go,0,ν⟩) (bh x.scope).length (bh x.scope).length) (o6 (bh x.scope).length 0):=aq.of (bQ.full (k:=1) (n:=(bh x.scope).length) aV Ξ (by simp[maxLen];omega));rw[aS ah.u (az.ls.ext aB)];have b6:=aV.lt;have aC:(fg x.scope (bh x.scope)).length=(bh x.scope).length:=by simp[fg]
 have bp:=ay.trans aB;have b7:=av.trans bp;refine bZ.range (bh x.scope).length (λi W=>af (λr=>r=go) aU W/\aq .i64 ab W go (.slice (σ ⟨go,0,ν⟩) (bh x.scope).length (bh x.scope).length) ((fg x.scope (bh x.scope)).take i++o6 ((bh x.scope).length-i) 0)) Ω ⟨af.refl _ _,by simpa using bo⟩ ?_ ?_
 .rintro i W k hi ⟨aE,aw⟩ bq;obtain⟨v,aL⟩:∃v,(bh x.scope)[i]? =σ v:=⟨_,y0 hi⟩;have Y:Ext aT W:=aB.then aE (λr aM he=>by have he:r=go:=he;omega);have br:Ext w W:=(av.trans ay).trans Y;have bt:v∈x.scope:=aI.mem_iff.1 (x6 aL);rw[ao,ad];refine⟨λ_=>?_,λh=>Ω⟩;rw[bc ah.u ab.i Ψ (az.ls.ext Y) aL];have bu:Ext U W:=(aJ.trans ay).trans Y;rw[aa ck.p rfl,ac Ψ ((ap.ext bu).cell (o:=0+0) rfl)];refine (zQ (ax.ext br)).mono ?_;rintro _ bw _ ⟨al,r,rfl,aM⟩;have aW:=nF bt;have bx:r=((x.scope.idxOf v:Nat):Int):=(aM _ aW).2 λj b8 bz=>by have:=i7 J.scope.1 bz aW;omega
  rw[ha rfl ah.u ab.i (aw.ext al) (by simp[aC];omega)];refine hb ab.i (aw.ext al) (by simp[aC];omega) λb9 bA ca aX=>?_;rw[aN];refine bq _ ⟨(aE.trans (al.V _)).trans bA,?_⟩;have bB:(fg x.scope (bh x.scope))[i]? =σ r:=by rw[bx];exact zE aL
  have e:((fg x.scope (bh x.scope)).take i++o6 ((bh x.scope).length-i) 0).set i r=(fg x.scope (bh x.scope)).take (i+1)++o6 ((bh x.scope).length-(i+1)) 0:=by
   have bC:((fg x.scope (bh x.scope)).take i).length=i:=by rw[o7,aC];omega
   rw[U6 _ _ Ω,bC,W7,show (bh x.scope).length-i=((bh x.scope).length-(i+1))+1 by omega,List.replicate_succ,List.set_cons_zero,r9,bB,Z9,V9];rfl
  rw[e] at aX;exact aX
 .rintro W k ⟨aE,aw⟩;have Y:Ext aT W:=aB.then aE (λr aM he=>by have he:r=go:=he;omega);have aY:Ext bk W:=ay.trans Y;rw[ao,ad];refine⟨λh=>Ω,λ_=>?_⟩;rw[W7,List.replicate_zero,V4,Z0 Ω] at aw;have bE:∀t,c0 x.sizes t->cW x.sizes bl t=ir x f.k t:=λt bF=>by rw[aR.2 t bF];exact bd t
  obtain⟨aZ,bG⟩:=H2 X aF aR.1 bE;have bH:Good (fg x.scope (bh x.scope)) x.sizes.length:=by
   rw[J.sizes,u5];exact ri J.scope.1 aI
  have bI:=(nE X aF);refine (IG (au.ext aY) X.k aw.ls (by rw[aC];omega) λ_=>?_).mono ?_
  .rw[aZ];exact bI.small
  .rintro _ bw _ ⟨al,_,bJ⟩;obtain⟨an,aG,aH,rfl,a1⟩:=bJ bH;rw[aK (v:=Γ an) rfl,aK (v:=Δ 0) rfl];rw[aZ,bG] at a1;exact⟨(av.trans aY).trans al,v,gs,an,aG,aH,rfl,Ω,(az.ext Y).ext al,a1⟩
theorem I3 {P:W5} {t aa J:u9} {k ab g o cap:Nat} {z:x1} (U:P.underlying t=σ (.slice e)) (hi:aM P e k ab z) (ac:z.cells.size=k) (h1:∀u∈du z.cells (n*k),u.oneCell'=true)
  (I:ae w g J cs) (ak:o+n*k<=cs.length) (W:∀w',af (λr=>r=g) w w'->ae w' g J (over cs o (du z.cells (n*k)))->K (.tuple #[]) w'):az P (l5.clear_ #[t] aa #[.slice (σ ⟨g,o,ν⟩) n cap]) w K:=by
 obtain⟨i,hi,al,rfl,ad⟩:=hi;have ag:∀w,(zeroValue e).run P w= .ok z w:=λw=>by simp[zeroValue,typeInfo,hi,ad]
 have ah:(l5.zeroCells z.cells n).toList=du z.cells (n*k):=by
  unfold l5.zeroCells du;rw[ac]
 have X:=run_storeCells_cells (P:=P) g o (du z.cells (n*k)) 0 w (λj ai=>by
   rw[m7] at ai;rw[Nat.add_zero,I.cell (y0 (show o+j<cs.length by omega))];rfl) (λj _=>I.frozen _ _) h1
 simp only[Nat.add_zero] at X;obtain⟨aj,Y⟩:=lT (du z.cells (n*k)) cs o w I;rcases Nat.eq_zero_or_pos n with rfl|am
 .refine .of (v:=.tuple #[]) (w':=w) (by simp[l5.clear_,run_underlying U]) (cI.refl _) (W w (af.refl _ _) ?_);rw[Nat.zero_mul,Z2 (m7 z.cells 0)];exact I
 .obtain⟨m,rfl⟩:∃m,n=m+1:=⟨n-1,Ω⟩;refine .of (v:=.tuple #[]) (w':=_) (by simp[l5.clear_,run_underlying U,ag,ah,X]) (Y.ds I) (W _ Y.V aj)
theorem di {α:Type} {f:α->List x1} {k:Nat} {g:Nat} {L:List α} (h:a6 f k e w g v L) {r:Nat} (I:leadsTo v r):r=g/\ ∃cs,ae w g e cs:=by
 obtain⟨_,⟨rfl,_⟩|⟨cap,cs,rfl,J,_⟩⟩:=h.1
 .exact (eF I).elim
 .obtain⟨a,n,c,h1,U⟩:=I;cases h1;exact⟨U.symm,cs,J⟩
theorem z1 {α:Type} {f:α->List x1} {k:Nat} {g:Nat} {L:List α} (h:a6 f k e w g v L) (I:L≠[]):∃cs n c,v= .slice (σ ⟨g,0,ν⟩) n c/\ae w g e cs:=by
 obtain⟨_,⟨rfl,J⟩|⟨cap,cs,rfl,U,_⟩⟩:=h.1
 .exact absurd (Z2 J) I
 .exact⟨cs,_,_,rfl,U⟩
theorem eH.mk {g:Nat} {L:List cv} (h:a6 ej 2 cG w g v L) (J:∀x∈L,(∃U,aq .i64 ab w U x.sv x.sc)/\h6 x.sc):eH w g v L:=by
 refine⟨h,λx I=>⟨(J x I).1,λr V=>?_,(J x I).2⟩⟩;obtain⟨cs,n,c,_,W⟩:=z1 h (λX=>by rw[X] at I;cases I);obtain⟨⟨U,hm⟩,_⟩:=J x I;exact bU hm W Φ V
def Sem (w:x2) (k:Int) (sizes:List Int) (L:List cv):Prop:=∀x∈L,∃I J,cM w x.g I J (bD sizes x.sc) k x.cs
theorem tT {g Y:Nat} {aa:x1} {cs:List Int} (h:cM w g Y aa szs k cs) (U:af S w w') (W:∀r,S r-> ∃c,ae w r cG c):cM w' g Y aa szs k cs:=by
 obtain⟨⟨aJ,gs,h1,ab,ac⟩,ad⟩:=h;refine⟨⟨aJ,gs,h1.V U λI=>?_,bb ab U λr X I=>?_,bb ac U λr X I=>?_⟩,ad⟩
 .obtain⟨c,J⟩:=W g I;unfold ae at h1 J;rw[h1] at J;have:=(Obj.cells.inj (Z6 J)).2.1;exact absurd this Φ
 .obtain⟨c,J⟩:=W r I;exact bU ab J Φ X rfl
 .obtain⟨c,J⟩:=W r I;exact bU ac J Φ X rfl
theorem Sem.ext {L:List cv} (h:Sem w k sizes L) (I:Ext w w'):Sem w' k sizes L:=λx J=>by
 obtain⟨U,V,W⟩:=h x J;exact⟨U,V,W.ext I⟩
theorem Sem.row {L M:List cv} {g:Nat} (h:Sem w k sizes L) (I:eH w g v M) (J:af (λr=>leadsTo v r) w w'):Sem w' k sizes L:=λx U=>by
 obtain⟨V,W,X⟩:=h x U;exact⟨V,W,tT X J λr Y=>by obtain⟨rfl,c,aa⟩:=di I.1 Y;exact⟨c,aa⟩⟩
def dE (h:cv):ct:=(h.sc,h.cs)
theorem I4:aj x3 sJ [Δ c] w λv w'=>v= .bool (decide (0<c))/\Ext w w':=by
 refine aA func216 ?_;rw[bP];exact⟨rfl,Ext.refl _⟩
theorem I5 (h:aI .i64 w sv l):
  aj x3 D6 [sv,.func (.func sJ) #[] #[]] w λv w'=>v= .bool (l.any λc=>decide (0<c))/\Ext w w':=by
 refine aA func215 ?_;refine aj.mono (K:=λv w'=>Ext w w'/\ ∃r:Int,v=Δ r/\(0<=r↔ ∃c∈l,0<c)) ?_ ?_
 .refine aA func261 ?_;rw[aS ax.u h];refine bC.range l.length (λi _ U=>Ext w U/\ ∀c∈l.take i,¬0<c) h.le ⟨Ext.refl _,λc I=>by simp at I⟩ ?_ ?_
  .rintro i _ U k hi ⟨J,W⟩ aa;rw[ao,ad];refine⟨λ_=>?_,λh=>Ω⟩;obtain⟨x,X⟩:∃x,l[i]? =σ x:=⟨_,y0 hi⟩;rw[bc ax.u an.i Ψ (h.ext J) X];show aj x3 sJ [Δ x] U _;refine I4.mono ?_;rintro _ ae _ ⟨rfl,Y⟩;rw[ad];refine⟨λV=>⟨J.trans Y,i,rfl,⟨λ_=>⟨x,x6 X,V⟩,λ_=>Ω⟩⟩,λab=>?_⟩;rw[aN];refine aa _ _ ⟨J.trans Y,λc I=>?_⟩;rw[r9,X] at I;rcases n9.1 I with I|I
   .exact W c I
   .simp at I;subst I;exact ab
  .rintro _ U k ⟨J,W⟩;rw[o9] at W;rw[ao,ad];exact⟨λh=>Ω,λ_=>⟨J,-1,rfl,⟨λh=>Ω,λ⟨c,I,V⟩=>absurd V (W c I)⟩⟩⟩
 .rintro _ U _ ⟨J,r,rfl,ac⟩;rw[cb];refine⟨?_,J⟩;congr 1;rw[V8,decide_eq_true_eq,List.any_eq_true,ac];exact⟨λ⟨c,I,V⟩=>⟨c,I,decide_eq_true V⟩,λ⟨c,I,V⟩=>⟨c,I,of_decide_eq_true V⟩⟩
theorem z6 {V W:Nat} {x:cv} {X:x1} (Y:hJ w V x) (ab:cM w x.g W X szs k x.cs):aj x3 ol [iz x] w λv w'=>v= .bool (!e0 (dE x))/\Ext w w':=by
 obtain⟨⟨ah,hm⟩,_⟩:=Y;refine aA func214 ?_;refine bM λam U ai J I=>?_;have I:ae U am cG [x.sv,Γ x.g]:=by
  obtain⟨_,_,_,e⟩:=b0 hm.ls;simp only[iz,ej,e] at I ⊢;exact I
 rw[aa cG.p rfl,ac Ψ (I.cell (o:=0+1) rfl)];refine (lg (ab.ext J)).mono ?_;rintro ak al _ ⟨ad,an,ao,af⟩;refine (I5 af.ls).mono ?_;rintro _ ap _ ⟨rfl,ag⟩;rw[bg];exact⟨rfl,(J.trans ad).trans ag⟩
theorem I6 {g:Nat} {L:List cv} (h:eH w g v L) (I:Sem w k sizes L):
  aj x3 wO [v,.func (.func ol) #[] #[]] w λr w'=>Ext w w'/\((r=Δ (-1)/\ ∀x∈L,e0 (dE x)=true)\/ ∃i:Nat,r=Δ (i:Int)/\i<L.length/\(∀x∈L.take i,e0 (dE x)=true)/\ ∀x,L[i]? =σ x->e0 (dE x)=false):=by
 refine aA func211 ?_;rw[dc fm.u h.1];refine bC.range L.length (λi _ U=>Ext w U/\ ∀x∈L.take i,e0 (dE x)=true) h.1.le ⟨Ext.refl _,λc J=>by simp at J⟩ ?_ ?_
 .rintro i _ U k hi ⟨V,W⟩ ab;rw[ao,ad];refine⟨λ_=>?_,λh=>Ω⟩;obtain⟨x,X⟩:∃x,L[i]? =σ x:=⟨_,y0 hi⟩;rw[rr rfl (h.ext V) X];show aj x3 ol [iz x] U _;obtain⟨ag,ah,ac⟩:=I x (x6 X);refine (z6 ((h.ext V).at X) (ac.ext V)).mono ?_;rintro _ ai _ ⟨rfl,Y⟩;rw[bH];refine⟨λae=>⟨V.trans Y,.inr ⟨i,rfl,hi,W,λy aa=>by rw[X] at aa;cases aa;simpa using ae⟩⟩,λaf=>?_⟩;rw[aN];refine ab _ _ ⟨V.trans Y,λc J=>?_⟩;rw[r9,X] at J;rcases n9.1 J with J|J
  .exact W c J
  .simp at J;subst J;simpa using af
 .rintro _ U k ⟨V,W⟩;rw[o9] at W;rw[ao,ad];exact⟨λh=>Ω,λ_=>⟨V,.inl ⟨rfl,W⟩⟩⟩
def fh (x:cv):Bool:=e0 (dE x)
theorem tU {L:List cv} {x:cv} (I:L[j]? =σ x):(L.take (j+1)).filter fh=if fh x=true then (L.take j).filter fh++[x] else (L.take j).filter fh:=by
 rw[r9,I,Z9,List.filter_append];by_cases h:fh x=true
 .rw[if_pos h];simp[h]
 .rw[if_neg h];simp[h]
theorem z7 {z:Array x1} (I:0<z.size) (h:∀u∈z.toList,u.oneCell'=true):∀u∈du z n,u.oneCell'=true:=λu hu=>by
 unfold du at hu;rw[Array.toList_map,Z5] at hu;obtain⟨i,_,rfl⟩:=hu;have J:i % z.size<z.size:=Nat.mod_lt _ I;rw[getElem!_pos z (i % z.size) J];exact h _ Ξ
theorem I7 {g:Nat} {L:List cv} (h:eH w g v L) (I:Sem w k sizes L) (bz:L.length<=100000):
  aj x3 D7 [v,.func (.func ol) #[] #[]] w λX w'=>af (λr=>leadsTo v r) w w'/\eH w' g X (L.filter fh)/\ ∀r,leadsTo X r->leadsTo v r:=by
 refine aA func217 ?_;refine (I6 h I).mono ?_;rintro r U _ ⟨ak,Y⟩;rcases Y with⟨rfl,av⟩|⟨al,rfl,aU,av,aV⟩
 .rw[bi,ad];refine⟨λ_=>⟨ak.V _,?_,λr Y=>Y⟩,λh=>absurd rfl h⟩;rw[List.filter_eq_self.2 (show ∀x∈L,fh x=true from av)];exact h.ext ak
 rw[bi,ad];refine⟨λh=>Ω,λ_=>?_⟩;rw[aN,wrap_i64 Ω Ω];obtain⟨aw,aF⟩:∃x,L[al]? =σ x:=⟨_,y0 aU⟩;refine⟨λax ay aa=>∃ (i j:Nat) (M:List cv),ax=Δ (i:Int)/\ay=Δ (j:Int)/\i<j/\j<=L.length/\M.length=L.length/\M.take i=(L.take j).filter fh/\M.drop j=L.drop j/\(∀x∈M,x∈L)/\eH aa g v M/\af (λr=>leadsTo v r) w aa,
  λ_ ay _=>L.length-(bL ay).toNat,⟨al,al+1,L,rfl,by congr 1,Ω,Ω,rfl,?_,rfl,λx ab=>ab,h.ext ak,ak.V _⟩,?_⟩
 .have aW:¬fh aw=true:=by rw[show fh aw=false from aV aw aF];simp
  rw[tU aF,if_neg aW,List.filter_eq_self.2 (show ∀x∈L.take al,fh x=true from av)]
 rintro _ _ aa ⟨i,j,M,rfl,rfl,bA,bB,aG,ae,aH,aI,W,an⟩;have aX:Sem aa k sizes L:=I.row h an;rw[dc fm.u W.1,ao,ad];refine⟨λaB=>?_,λbC=>?_⟩
 .have aB:j<L.length:=Ω
  obtain⟨x,ab⟩:∃x,L[j]? =σ x:=⟨_,y0 aB⟩;have ap:M[j]? =σ x:=by
   have h1:(M.drop j)[0]? =(L.drop j)[0]?:=by rw[aH]
   rw[List.getElem?_drop,List.getElem?_drop,Nat.add_zero] at h1;rw[h1,ab]
  have aJ:M.drop (j+1)=L.drop (j+1):=by
   have h1:(M.drop j).drop 1=(L.drop j).drop 1:=by rw[aH]
   rw[List.drop_drop,List.drop_drop] at h1;exact h1
  refine aP (λax aq=>∃ (ah:Nat) (ac:List cv),ax=Δ (ah:Int)/\ah<j+1/\ac.length=L.length/\ac.take ah=(L.take (j+1)).filter fh/\ac.drop (j+1)=L.drop (j+1)/\(∀x∈ac,x∈L)/\eH aq g v ac/\af (λr=>leadsTo v r) w aq) ?_ ?_
  .rintro _ aq ⟨ah,ac,rfl,h1,aC,aY,aZ,a1,a2,a6⟩;rw[aN,wrap_i64 Ω Ω];exact⟨⟨ah,j+1,ac,rfl,rfl,h1,aB,aC,aY,aZ,a1,a2,a6⟩,by simp only[bL];omega⟩
  .intro bD aK;rw[rr rfl W ap];refine bt cG.i λam aq bE a7 a8=>?_;refine bJ (vs:=ej x) cG.i rfl rfl (W.at ap).one a8 λaL ba bF aM=>?_;have aD:Ext aa aL:=a7.then ba (λr Y he=>by have he:r=am:=he;omega);rw[bn cG.p cG.i rfl aM.range];show aj x3 ol [iz x] aL _;obtain⟨bG,bI,bb⟩:=aX x (x6 ab);refine (z6 ((W.ext aD).at ap) (bb.ext aD)).mono ?_;rintro _ bK _ ⟨rfl,aO⟩;have ai:=aD.trans aO;rw[bg,Bool.not_not,bH];refine⟨λbc=>?_,λbd=>?_⟩
   .rw[bn cG.p cG.i rfl (aM.ext aO).range];refine IV rfl (W.ext ai) Ω ((W.ext ai).at ap) λbM be bf=>?_;rw[aN,wrap_i64 Ω Ω];refine aK _ _ ⟨i+1,M.set i x,rfl,Ω,by simp[aG],?_,?_,λy ag=>?_,bf,(an.trans (ai.V _)).trans be⟩
    .have aE:fh x=true:=bc;rw[tU ab,if_pos aE,r9,V5 Ω,Z9,List.take_set_of_le (o8 _),ae]
    .rw[List.drop_set_of_lt Ω,aJ]
    .rcases V3 ag with ag|rfl
     .exact aI y ag
     .exact x6 ab
   .have aE:¬fh x=true:=by rw[show fh x=false from bd];simp
    exact aK _ _ ⟨i,M,rfl,Ω,aG,by rw[tU ab,if_neg aE,ae],aJ,aI,W.ext ai,an.trans (ai.V _)⟩
 .have bh:j=L.length:=Ω
  subst bh;rw[o9] at ae;obtain⟨⟨bN,bj⟩,aQ⟩:=W.1;rcases bj with⟨_,bO⟩|⟨cap,cs,bk,bl,bP,bm,bo,bp⟩
  .omega
  subst bk;have bq:(J x3 (W3 fm (.slice (σ ⟨g,0,ν⟩) M.length cap) (σ (Δ (i:Int))) ν ν) aa λbr=>
    az x3 (l5.clear_ #[fm] EX #[br]) aa λu au=>
    J x3 (W3 fm (.slice (σ ⟨g,0,ν⟩) M.length cap) ν (σ (Δ (i:Int))) ν) au λbu=>
    (λX w'=>af (λr=>leadsTo (.slice (σ ⟨g,0,ν⟩) M.length cap) r) w w'/\eH w' g X (L.filter fh)/\ ∀r,leadsTo X r->leadsTo (.slice (σ ⟨g,0,ν⟩) M.length cap) r) bu au):=by
   rw[fq (l:=i) (h:=M.length) (m:=cap) fm.u cG.i (lP i _ rfl) hx er Ω Ω (o8 _),if_neg Ω];simp only[Y0,U4];refine I3 (g:=g) (o:=0+i*2) (n:=M.length-i) (k:=2) fm.u cG.i rfl ?_ bl Ω λau aR bw=>?_
   .exact z7 Φ Φ
   rw[fq (l:=0) (h:=i) (m:=cap) fm.u cG.i hv (lQ i _ rfl) er Ω Ω (o8 _),if_neg Ω];simp only[Y0,U4,Nat.zero_mul,V1,Nat.sub_zero];have bx:(du (x1.agg #[.slice ν 0 0,.pointer ν]).cells ((M.length-i)*2)).length=(M.length-i)*2:=m7 _ _;have bQ:(M.flatMap ej).length=M.length*2:=fw aQ;have aS:(L.filter fh).length=i:=by rw[<-ae,o7];omega
   have key:(λX w'=>af (λr=>leadsTo (.slice (σ ⟨g,0,ν⟩) M.length cap) r) w w'/\eH w' g X (L.filter fh)/\ ∀r,leadsTo X r->leadsTo (.slice (σ ⟨g,0,ν⟩) M.length cap) r) (.slice (σ ⟨g,0,ν⟩) (L.filter fh).length cap) au:=by
    refine⟨an.trans (aR.mono λr _ he=>⟨_,_,_,rfl,he.symm⟩),⟨⟨⟨fw (k:=2) (λy _=>rfl),.inr ⟨cap,_,rfl,bw,Ω,bm,by rw[km,bo],?_⟩⟩,λy _=>rfl⟩,λy ag=>?_⟩,λr Y=>?_⟩
    .rw[aS,<-ae,<-oW i aQ,<-bp,List.take_take,k6 (by rw[bx];omega),V9,List.take_append_of_le_length (by rw[o7];omega),List.take_take];congr 1;omega
    .have aT:y∈M:=by rw[<-ae] at ag;exact T2 ag
     exact (W.2 y aT).V aR λr Y he=>(W.2 y aT).2.1 r Y he
    .obtain⟨a,n,c,h1,aC⟩:=Y;cases h1;exact⟨_,_,_,rfl,aC⟩
   rw[aS] at key;exact key
  exact bq
theorem pe {k:o5} {g cap:Nat} {b:Option Addr} (h:aq k e w g (.slice b n cap) l) (X:0<l.length):
  b=σ ⟨g,0,ν⟩/\n=l.length/\ ∃cs,ae w g e cs/\n<=cap/\cap<=maxLen/\cs.length=cap/\cs.take n=ints k l:=by
 obtain⟨_,⟨_,h1⟩|⟨Y,cs,h1,I,J,U,V,W⟩⟩:=h
 .omega
 .cases h1;exact⟨rfl,rfl,cs,I,J,U,by simpa using V,by simpa using W⟩
theorem I8 {g cap:Nat} (h:aq .i64 ab w g (.slice (σ ⟨g,0,ν⟩) n cap) l) (U:j<l.length):aI .i64 w (.slice (σ ⟨g,j,ν⟩) (n-j) (cap-j)) (l.drop j):=by
 obtain⟨_,V,cs,I,h1,W,X,J⟩:=pe h Ω;have:=Fy (o:=j) (k:=n-j) (c:=cap-j) I Ω Ω Ω;refine aI.of (n:=n-j) ?_;have e:(cs.drop j).take (n-j)=ints .i64 (l.drop j):=by
  rw[<-List.drop_take,J,ints,ints,List.map_drop]
 rw[e] at this;exact this
theorem I9 {g:Nat} (h:aq .i64 ab w g sv l) (bk:l.length<=1000):
  aj x3 Es [sv] w λv w'=>af (λr=>r=g) w w'/\aq .i64 ab w' g v (dedup l l.length):=by
 refine aA func256 ?_;rw[aS ah.u h.ls];simp only[ao,ad];refine⟨λbl=>⟨af.refl _ _,?_⟩,λbm=>?_⟩
 .rw[rn (o8 _) (λi hi aB=>Ω),o9];exact h
 obtain⟨n,X⟩:∃n,l.length=n:=⟨_,rfl⟩;obtain⟨cap,rfl⟩:∃cap,sv= .slice (σ ⟨g,0,ν⟩) n cap:=by
  obtain⟨_,⟨_,h1⟩|⟨aQ,cs,h1,_⟩⟩:=id h
  .omega
  .exact⟨aQ,by rw[h1,X]⟩
 obtain⟨_,_,_,_,bn,aR,_⟩:=pe h Ω;refine⟨λ_ t U=>∃j:Nat,t=Δ (j:Int)/\1<=j/\j<=n/\Ext w U/\ ∀i,i<j->0<i->l[i]? ≠l[i-1]?,λ_ t _=>n-(bL t).toNat,⟨1,rfl,Ω,Ω,Ext.refl _,λi h1 aC=>Ω⟩,?_⟩;rintro bo _ U ⟨j,rfl,bp,aD,Y,ak⟩;rw[aS ah.u (h.ls.ext Y)];simp only[ao,ad,cj];refine⟨λaT bq aU _ _=>?_,λbr=>⟨Y.V _,?_⟩⟩
 .have aT:j<n:=Ω
  have aa:=Y.trans aU;have aE:=h.ls.ext aa;obtain⟨a,al⟩:∃a,l[j]? =σ a:=⟨_,y0 Ω⟩;obtain⟨b,am⟩:∃b,l[j-1]? =σ b:=⟨_,y0 Ω⟩;rw[bc ah.u ab.i Ψ aE al];simp only[cX];rw[wrap_i64 Ω Ω,dZ (i:=j-1) Ω ah.u ab.i Ψ aE am];simp only[bi,ad,aN];refine⟨λan=>?_,λan=>?_⟩
  .subst an;rw[fq ah.u ab.i (l:=j) (h:=n) (m:=cap) lO hx er Ω Ω Ω,if_neg Ω];have aV:V7 (λx:Addr=>x.add (j*1)) (σ ⟨g,0,ν⟩)=σ ⟨g,j,ν⟩:=by simp[U4]
   rw[aV];have aF:dedup l (j+1)=l.take j:=by rw[tQ Ω (by rw[al,am]),rn Ω ak]
   refine⟨λap t au=>∃ (q I:Nat) (J:List Int),ap=Δ (q:Int)/\t=Δ (I:Int)/\1<=I/\j+I<=n/\af (λr=>r=g) w au/\aq .i64 ab au g (.slice (σ ⟨g,0,ν⟩) n cap) J/\J.length=n/\
     q=(dedup l (j+I)).length/\J.take q=dedup l (j+I)/\q<=j+I-1/\ ∀i,j+I-1<=i->J[i]? =l[i]?,λ_ t _=>n-(bL t).toNat,
    ⟨j,1,l,rfl,rfl,Ω,Ω,aa.V _,h.ext aa,X,by rw[aF,o7];omega,by rw[aF],Ω,λi _=>rfl⟩,?_⟩
   rintro _ _ au ⟨q,I,J,rfl,rfl,bt,bu,av,aG,aH,aI,ac,aW,ae⟩;rw[gv ah.u];simp only[ao,ad,cj];refine⟨λaJ=>?_,λaJ=>?_⟩
   .have aJ:j+I<n:=Ω
    refine aP (λap aw=>∃ (q:Nat) (J:List Int),ap=Δ (q:Int)/\af (λr=>r=g) w aw/\aq .i64 ab aw g (.slice (σ ⟨g,0,ν⟩) n cap) J/\J.length=n/\
     q=(dedup l (j+(I+1))).length/\J.take q=dedup l (j+(I+1))/\q<=j+(I+1)-1/\ ∀i,j+(I+1)-1<=i->J[i]? =l[i]?) ?_ ?_
    .rintro _ aw ⟨q,J,rfl,h1,aC,aX,aY,aZ,a1,a2⟩;simp only[aN];rw[wrap_i64 Ω Ω];exact⟨⟨q,I+1,J,rfl,rfl,Ω,Ω,h1,aC,aX,aY,aZ,a1,a2⟩,by simp only[bL];omega⟩
    .intro bw aK bx ax _ _;have ag:=aG.ext ax;have ay:=I8 (j:=j) ag Ω;obtain⟨y,ai⟩:∃y,l[j+I]? =σ y:=⟨_,y0 Ω⟩;obtain⟨z,az⟩:∃z,l[j+I-1]? =σ z:=⟨_,y0 Ω⟩;have aL:(J.drop j)[I]? =σ y:=by rw[List.getElem?_drop,ae _ Ω,ai]
     have a6:(J.drop j)[I-1]? =σ z:=by rw[List.getElem?_drop,ae _ Ω,<-az];congr 1;omega
     rw[bc ah.u ab.i Ψ ay aL];simp only[cX];rw[wrap_i64 Ω Ω,dZ (i:=I-1) Ω ah.u ab.i Ψ ay a6];simp only[bB,ad,aN];refine⟨λW=>?_,λW=>?_⟩
     .rw[bc ah.u ab.i Ψ ay aL,ha rfl ah.u ab.i ag Ω];refine hb ab.i ag Ω λbz a7 bA a8=>?_;rw[wrap_i64 Ω Ω];have aM:dedup l (j+I+1)=dedup l (j+I)++[y]:=tR ai (λ_=>by rw[ai,az];simpa using W);refine aK _ _ ⟨q+1,_,rfl,(av.trans (ax.V _)).trans a7,a8,by simpa using aH,?_,?_,Ω,λi hi=>?_⟩
      .rw[<-S7,aM];simp;omega
      .rw[<-S7,aM,r9,V5 Ω,List.take_set_of_le (o8 _),ac];rfl
      .rw[W6 Ω];exact ae i Ω
     .have W:y=z:=X2.1 W;have aO:dedup l (j+I+1)=dedup l (j+I):=tQ Ω (by rw[ai,az,W]);exact aK _ _ ⟨q,J,rfl,av.trans (ax.V _),ag,aH,by rw[<-S7,aO];exact aI,by rw[<-S7,aO];exact ac,Ω,λi hi=>ae i Ω⟩
   .have ba:j+I=n:=Ω
    rw[ba] at aI ac aW;obtain⟨_,_,cs,bb,_,_,bC,bd⟩:=pe aG Ω;simp only[maxLen] at aR;rw[fq ah.u ab.i (l:=q) (h:=n) (m:=cap) lO hx er Ω Ω Ω,if_neg Ω];have be:V7 (λx:Addr=>x.add (q*1)) (σ ⟨g,0,ν⟩)=σ ⟨g,q,ν⟩:=by simp[U4]
    rw[be];refine xv ah.u ab.i rfl rfl bb Ω Ω λbD bf bE bg=>?_;rw[fq ah.u ab.i (l:=0) (h:=q) (m:=cap) hv lR er Ω Ω Ω,if_neg Ω];have bh:V7 (λx:Addr=>x.add (0*1)) (σ ⟨g,0,ν⟩)=σ ⟨g,0,ν⟩:=by simp[U4]
    rw[bh,X];refine⟨av.trans bf,?_⟩;rw[<-ac];refine aq.of (n:=q) ⟨Θ,.inr ⟨cap,_,Ξ,bg,Ω,by simp only[maxLen];omega,by rw[km];omega,?_⟩⟩;rw[T4];apply X6;intro i;by_cases hi:i<q
    .rw[Y2 hi,lS _ _ _ Θ,if_neg Ω,ints,x8,Y2 hi];have:(cs.take n)[i]? =(ints .i64 J)[i]?:=by rw[bd]
     rw[Y2 Ω,ints,x8] at this;exact this
    .rw[Y4 Θ,Y4 Θ]
  .rw[wrap_i64 Ω Ω];refine⟨⟨j+1,rfl,Ω,Ω,aa,λi hi aB=>?_⟩,by simp only[bL];omega⟩;by_cases bj:i=j
   .subst bj;rw[al,am];intro he;exact an (Z6 he)
   .exact ak i Ω aB
 .have aD:j=n:=Ω
  rw[rn (o8 _) (by rw[X,<-aD];exact ak),o9];exact h.ext Y
theorem Ja (af:n<=1000000):aj x3 EI [.slice ν 0 0,Δ (n:Int)] w λv w'=>Ext w w'/\ ∃g,w.heap.size<=g/\aq .i64 ab w' g v []:=by
 refine aA func286 ?_;refine dt (λU=>w=U) ?_ ?_
 .rintro _ rfl;refine aP (λv w'=>Ext w w'/\ ∃g,w.heap.size<=g/\aq .i64 ab w' g v []) (λ_ _ h=>h) λJ I=>?_;rw[xu ah.u,gv ah.u];simp only[cX];have V:Y5.wrap (((0:Nat):Int)-((0:Nat):Int))=0:=Φ
  have W:Y5.wrap ((n:Int)-0)=n:=by rw[wrap_i64 Ω Ω];omega
  rw[V,W];simp only[bP,ad];refine⟨λh=>?_,λh=>I _ _ ⟨Ext.refl _,w.heap.size,o8 _,aq.nil _ _ _ _⟩⟩;rw[xu ah.u,fq ah.u ab.i (l:=0) (h:=0) (m:=0) hv lR er Ω Ω Ω,if_pos rfl];refine Fx (k:=n) (xs:=[]) rfl ah.u ab.u ab.i rfl ⟨rfl,0,0,ν,0,rfl,o8 _,Y9 _,λh=>absurd h (Nat.lt_irrefl _),λj v h=>by simp at h⟩ Ω Ω Ω Ω λv g w' ag X hm=>?_;obtain⟨_,⟨_,ai⟩|⟨cap,cs,rfl,Y,h1,aa,ac,ak⟩⟩:=hm
  .omega
  rw[gv ah.u,fq ah.u ab.i (l:=0) (h:=0) (m:=cap) hv lR er Ω Ω Ω,if_neg Ω];have ae:V7 (λx:Addr=>x.add (0*1)) (σ ⟨g,0,ν⟩)=σ ⟨g,0,ν⟩:=by simp[U4]
  rw[ae];refine I _ _ ⟨X,g,Ω,aq.of (n:=0) ⟨Ξ,.inr ⟨cap,cs,Ξ,Y,Ω,aa,ac,Ξ⟩⟩⟩
 .intro J I;simp only[ao,ad];exact⟨λh=>Ω,λ_=>I _ rfl⟩
theorem Jb {b:List Int} (av:aI .i64 w db a) (aw:aI .i64 w bv b) (aC:a.length<=1000) (aD:b.length<=1000)
  (aE:∀v w' g,Ext w w'->w.heap.size<=g->aq .i64 ab w' g v (a++b)->K v w'):
  az x3 (Z7 cu 2 #[(0,db),(1,bv)]) w λt U=>aj x3 Et [t] U K:=by
 obtain⟨⟨ag,ai,ak,aF⟩,⟨al,am,an,aG⟩⟩:(∃x n c,db= .slice x n c)/\(∃x n c,bv= .slice x n c):=by
  obtain⟨_,_,_,x,c,h1,_⟩:=id av;obtain⟨_,_,_,y,d,aH,_⟩:=id aw;exact⟨⟨x,_,c,h1⟩,⟨y,_,d,aH⟩⟩
 subst aF;subst aG;refine il cu.u ah.i Ω (cs:=#[.slice ag ai ak,.slice al am an]) Ψ λg U a1 W X=>?_;have X:ae U g ah [.slice ag ai ak,.slice al am an]:=X;have key:∀i:Nat,i<2-> ∃v l,[x1.slice ag ai ak,.slice al am an][i]? =σ v/\[a,b][i]? =σ l/\aI .i64 w v l/\l.length<=1000:=λi hi=>by
  match i,hi with
  |0,_=>exact⟨_,_,rfl,rfl,av,aC⟩
  |1,_=>exact⟨_,_,rfl,rfl,aw,aD⟩
 refine aA func257 ?_;rw[gv cu.u];refine bC.range 2 (λi size Y=>Ext U Y/\ ∃n:Nat,n<=1000*i/\size=Δ (n:Int)) Ω ⟨Ext.refl _,0,Ω,rfl⟩ ?_ ?_
 .rintro i _ Y aJ hi ⟨I,n,aK,rfl⟩ aL;simp only[ao,ad];refine⟨λ_=>?_,λh=>Ω⟩;obtain⟨v,l,ap,ax,au,aM⟩:=key i hi;refine aP (λv ay=>Y=ay/\v=Δ ((n+l.length:Nat):Int)) ?_ ?_
  .rintro _ _ ⟨rfl,rfl⟩;simp only[aN];exact aL _ _ ⟨I,_,Ω,rfl⟩
  .intro a2 aO;rw[fc (b:=g) (o:=0) cu.u ah.i hi (λ_=>rfl),ac Ψ ((X.ext I).cell (o:=0+i*1) (by rw[<-ap];congr 1;omega)),aS ah.u (au.ext (W.trans I))];simp only[aN,ao,ad];rw[wrap_i64 Ω Ω];exact⟨λh=>Ω,λ_=>aO _ _ ⟨rfl,by congr 1⟩⟩
 .rintro _ Y aJ ⟨I,n,aK,rfl⟩;simp only[ao,ad];refine⟨λh=>Ω,λ_=>?_⟩;refine (Ja (n:=n) Ω).mono ?_;rintro v0 ay _ ⟨aB,aQ,a6,aR⟩;have s1:=W.size;have a7:=I.size;have a8:=aB.size;have aT:=I.trans aB;rw[gv cu.u];refine bC.range 2 (λi v aa=>Ext U aa/\ ∃V,U.heap.size<=V/\aq .i64 ab aa V v (([a,b].take i).flatten)/\(([a,b].take i).flatten).length<=1000*i) Ω ⟨aT,aQ,Ω,aR,Ξ⟩ ?_ ?_
  .rintro i v4 aa aU hi ⟨J,V,aV,af,ba⟩ aW;simp only[ao,ad];refine⟨λ_=>?_,λh=>Ω⟩;obtain⟨v,l,ap,ax,au,aM⟩:=key i hi;rw[fc (b:=g) (o:=0) cu.u ah.i hi (λ_=>rfl),ac Ψ ((X.ext J).cell (o:=0+i*1) (by rw[<-ap];congr 1;omega))];refine hy ah.u ab.i rfl af (au.ext (W.trans J)) Ω Ω λbb aX bc bd aY aZ=>?_;simp only[aN];have be:=J.size;have e:([a,b].take (i+1)).flatten=([a,b].take i).flatten++l:=by rw[r9,ax];simp
   refine aW _ _ ⟨J.then aZ (by rintro r bf rfl;omega),aX,Ω,by rw[e];exact aY,by rw[e,r8];omega⟩
  .rintro v4 aa aU ⟨J,V,aV,af,_⟩;simp only[ao,ad];refine⟨λh=>Ω,λ_=>aE _ _ V (W.trans J) Ω ?_⟩;have e:([a,b].take 2).flatten=a++b:=Ξ
   rw[e] at af;exact af
def nH (s1 I U J vars:List Int):Prop:=∀p∈vars,p∈I->p∈J->gP s1 (gC I p)=gP U (gC J p)
def c7 (s1 I J U vars:List Int):List Int:=vars.map λp=>max (gP s1 (gC I p)) (gP J (gC U p))
theorem z8 (s1 I J U vars:List Int):(c7 s1 I J U vars).length=vars.length:=by simp[c7]
theorem ru {x:Int}:0<=gC l x↔x∈l:=by
 unfold gC;by_cases h:x∈l
 .rw[if_pos h];exact⟨λ_=>h,λ_=>Ω⟩
 .rw[if_neg h];exact⟨λh=>Ω,λI=>absurd I h⟩
theorem Jc {g a8 aM ba:Nat} {ap aO:x1} {s1 V vars J:List Int} {bb:Int} {bd be:List Int} (h1:cM w g a8 sv s1 k bd) (aQ:cM w aM ba ap V bb be) (W:aI .i64 w aO vars) (bf:aI .i64 w db I) (au:aI .i64 w bv J) (bg:gi I) (bh:gi J) (bG:vars.length<=1000):
  aj x3 Eu [aO,Γ g,db,Γ aM,bv] w λv w'=>Ext w w'/\
   (¬nH s1 I V J vars->v= .tuple #[.slice ν 0 0,.bool false])/\
   (nH s1 I V J vars-> ∃x am,v= .tuple #[x,.bool true]/\w.heap.size<=am/\aq .i64 ab w' am x (c7 s1 I V J vars)):=by
 have sub:∀ {w:x2} {g:Nat} {sv:x1} {k:Int} {aJ:x1},ae w g cQ [sv,Δ k,aJ]->w.rangeAt g (0+0) [sv]:=λau=>l1 au (by
  intro j v W
  match j,W with
  |0,W=>exact W)
 refine aA func258 ?_;rw[aS ah.u W];refine iS ah.u ab.i Ω Ω λag U bI aR bi=>?_;have bj:aq .i64 ab U ag (.slice (σ ⟨ag,0,ν⟩) vars.length vars.length) (o6 vars.length 0):=aq.of (n:=vars.length) (bQ.full bi Ξ (by simp[maxLen];omega));generalize (x1.slice (σ ⟨ag,0,ν⟩) vars.length vars.length)=bk at*;rw[aS ah.u (W.ext aR)];have av:=z8 s1 I V J vars;refine kX.range vars.length (λi _ _ ak=>Ext w ak/\aq .i64 ab ak ag bk (upto (c7 s1 I V J vars) 0 i)/\ ∀ (j:Nat) (p:Int),j<i->vars[j]? =σ p->p∈I->p∈J->gP s1 (gC I p)=gP V (gC J p)) Ω
  ⟨aR,by rw[nm,av];exact bj,λj p ai=>Ω⟩ ?_ ?_
 .rintro i _ _ ak bl hi ⟨X,hm,ax⟩ bm;simp only[ao,ad];refine⟨λ_=>?_,λh=>Ω⟩;obtain⟨p,Y⟩:∃p,vars[i]? =σ p:=⟨_,y0 hi⟩;rw[bc ah.u ab.i Ψ (W.ext X) Y];refine (tS (bf.ext X) bg).mono ?_;rintro _ bJ _ ⟨rfl,ay⟩;refine (tS (au.ext (X.trans ay)) bh).mono ?_;rintro _ bp _ ⟨rfl,aT⟩;have aU:=(X.trans ay).trans aT;refine aP (λv aV=>Ext bp aV/\ ∃c,v= .bool c/\(c=true↔p∈I/\p∈J/\gP s1 (gC I p)≠gP V (gC J p))) ?_ ?_
  .rintro _ aV ⟨aW,c,rfl,aX⟩;have aY:=aU.trans aW;rw[bH];refine⟨λbq=>⟨aY,λ_=>by first|rfl|trivial,λai=>?_⟩,λbr=>?_⟩
   .obtain⟨ac,af,bt⟩:=aX.1 bq;exact absurd (ai p (x6 Y) ac af) bt
   .simp only[cj];intro bK aZ _ _;have az:=aY.trans aZ;obtain⟨⟨aJ,gs,aB,aC,_⟩,_⟩:=h1.ext az;obtain⟨⟨bu,bw,aD,aE,_⟩,_⟩:=aQ.ext az;rw[aw,aa cQ.p rfl,bn (cs:=[sv]) bo.p bo.i rfl (sub aB),aw,aa cQ.p rfl,bn (cs:=[ap]) bo.p bo.i rfl (sub aD)];refine (oP aC.ls).mono ?_;rintro _ bL _ ⟨rfl,al⟩;refine⟨.inl al,?_⟩;refine (oP (aE.ls.ext al)).mono ?_;rintro _ bM _ ⟨rfl,a1⟩;have bx:=(az.trans al).trans a1;have a2:=hm.ext ((((ay.trans aT).trans aW).trans aZ).trans (al.trans a1));have bN:(upto (c7 s1 I V J vars) 0 i).length=vars.length:=by rw[oJ,av]
    rw[qy,ha rfl ah.u ab.i a2 Ω];refine hb ab.i a2 Ω λbO bz _ a6=>?_;simp only[aN];have bA:(c7 s1 I V J vars)[i]? =σ (max (gP s1 (gC I p)) (gP V (gC J p))):=by
     unfold c7;rw[x8,Y];rfl
    rw[np bA] at a6;refine bm _ _ _ ⟨bx.then bz (by rintro r bP rfl;omega),a6,λj bC ai aF ac af=>?_⟩;by_cases bD:j=i
    .subst bD;rw[Y] at aF;cases aF;refine Decidable.byContradiction λbE=>?_;have:=aX.2 ⟨ac,af,bE⟩;rw[br] at this;cases this
    .exact ax j bC Ω aF ac af
  .intro bR aG;simp only[cj,cb,ad];intro bS an _ _;refine⟨λaH=>⟨λaK=>?_,λaK=>⟨.inl (Ext.refl _),aG _ _ ⟨an,false,rfl,⟨(λh=>by cases h),λh=>absurd (ru.2 h.2.1) aK⟩⟩⟩⟩,λaH=>⟨.inl (Ext.refl _),aG _ _ ⟨an,false,rfl,⟨(λh=>by cases h),λh=>absurd (ru.2 h.1) aH⟩⟩⟩⟩;have a7:=aU.trans an;obtain⟨⟨aJ,gs,aB,aC,_⟩,_⟩:=h1.ext a7;obtain⟨⟨bu,bw,aD,aE,_⟩,_⟩:=aQ.ext a7;rw[aw,aa cQ.p rfl,bn (cs:=[sv]) bo.p bo.i rfl (sub aB),aw,aa cQ.p rfl,bn (cs:=[ap]) bo.p bo.i rfl (sub aD)];refine (oP aC.ls).mono ?_;rintro _ bT _ ⟨rfl,aL⟩;refine⟨.inl aL,?_⟩;refine (oP (aE.ls.ext aL)).mono ?_;rintro _ bU _ ⟨rfl,bF⟩;simp only[bB];refine aG _ _ ⟨(an.trans aL).trans bF,_,rfl,?_⟩;rw[decide_eq_true_iff];exact⟨λh=>⟨ru.1 aH,ru.1 aK,h⟩,λh=>h.2.2⟩
 .rintro _ _ ak bl ⟨X,hm,ax⟩;simp only[ao,ad];refine⟨λh=>Ω,λ_=>?_⟩;have ai:nH s1 I V J vars:=λp Y ac af=>by
   obtain⟨i,hi,he⟩:=List.getElem_of_mem Y;exact ax i p hi (by rw[y0 hi,he]) ac af
  rw[<-av,nn] at hm;exact⟨X,λh=>absurd ai h,λ_=>⟨_,ag,rfl,Ω,hm⟩⟩
def tV (I J vars:List Int):Prop:=gi vars/\ ∀x,x∈vars↔x∈I\/x∈J
def mm (s1 V I J W U vars:List Int) (k:Int):List Int:=
 (X9 (aL (c7 s1 I J U vars)).toNat).map λ(q:Nat)=>min (cW s1 V (ei (cH (c7 s1 I J U vars) q) vars I)+cW J W (ei (cH (c7 s1 I J U vars) q) vars U)) k
theorem Aa (s1 V I J W U vars:List Int) (k:Int):(mm s1 V I J W U vars k).length=(aL (c7 s1 I J U vars)).toNat:=by simp[mm]
theorem Ab {s cs:List Int} (I:right k) (h:∀x∈cs,cL x k):cL (cW s cs t) k:=by
 have J:cL 0 k:=⟨I,Int.le_refl _,by have:=I.1;omega⟩;unfold cW;split
 .rename_i n _;rw[u4];cases U:cs[n.toNat]? with
  |none=>exact J
  |some x=>exact h x (x6 U)
 .exact J
def Fits (s l:List Int):Prop:=l.length=s.length/\pc l
def pf (e:Int):x1:=.tuple #[.pointer ν,.slice ν 0 0,Δ e]
def Ac (w:x2) (s1 Y I U aa J:List Int) (k V:Int) (v:x1) (w':x2):Prop:=
 Ext w w'/\(¬(Fits s1 I/\Fits U J)->v=pf 1)/\
  (Fits s1 I/\Fits U J-> ∃vars,tV I J vars/\(¬nH s1 I U J vars->v=pf 1)/\(nH s1 I U J vars->(k≠V->v=pf 3)/\
   (k=V->¬bR (c7 s1 I U J vars)->v=pf 1)/\(k=V->bR (c7 s1 I U J vars)->4096<aL (c7 s1 I U J vars)->v=pf 5)/\
   (k=V->bR (c7 s1 I U J vars)->aL (c7 s1 I U J vars)<=4096-> ∃W ab ac X,v= .tuple #[Γ W,X,Δ 0]/\
    cM w' W ab ac (c7 s1 I U J vars) k (mm s1 Y I U aa J vars k)/\aI .i64 w' X vars)))
theorem Jd {g b2 aU b3:Nat} {b4:x1} {s1 X J W:List Int} {bl:Int} {ak al:List Int} (h1:cM w g b2 sv s1 k ak) (aZ:cM w aU b3 b4 X bl al) (a1:aI .i64 w db J) (aB:aI .i64 w bv W)
  (bm:right k) (cT:∀x∈ak,cL x k) (cU:∀x∈al,cL x bl):
  aj x3 D5 [Γ g,db,Γ aU,bv] w (Ac w s1 ak J X al W k bl):=by
 have cV:=a1.cells;have cX:=aB.cells;have cY:=h1.2.2.1;have cZ:=aZ.2.2.1;have sub:∀ {w:x2} {g:Nat} {sv:x1} {k:Int} {aJ:x1},ae w g cQ [sv,Δ k,aJ]->w.rangeAt g (0+0) [sv]:=λaB=>l1 aB (by
  intro j v bG
  match j,bG with
  |0,bG=>exact bG)
 refine lL func213 ?_;refine bM λb5 U ed b6 ap=>?_;refine bM λb7 ee ef bI au=>?_;refine bM λb8 eh ej bp av=>?_;refine bM λb9 aM ek a2 ay=>?_;have em:=ap.lt;have en:=au.lt;have eo:=av.lt;have ep:=ay.lt;have er:=b6.size;have es:=bI.size;have et:=bp.size;have eu:=a2.size;have aN:=((b6.trans bI).trans bp).trans a2;have ap:ae aM b5 eg [Γ g]:=((ap.ext bI).ext bp).ext a2;have au:ae aM b7 ah [db]:=by rw[cV.1] at au;exact (au.ext bp).ext a2
 have av:ae aM b8 eg [Γ aU]:=av.ext a2;have ay:ae aM b9 ah [bv]:=by rw[cX.1] at ay;exact ay
 refine aP (λv ca=>v= .bool false/\aM=ca) ?_ ?_
 rotate_left
 .intro c0 bq;rw[ac Ψ (ap.cell (o:=0) rfl),cA eg.u];simp only[j6,aQ];rw[ac Ψ (av.cell (o:=0) rfl),cA eg.u];exact bq _ _ ⟨rfl,rfl⟩
 rintro _ _ ⟨rfl,rfl⟩;simp only[aQ];refine aP (λv bJ=>Ext aM bJ/\ ∃c,v= .bool c/\(c=true↔¬(Fits s1 J/\Fits X W))) ?_ ?_
 rotate_left
 .intro c0 bq;rw[ac Ψ (ap.cell (o:=0) rfl),ac Ψ (au.cell (o:=0) rfl)];refine (zT (h1.ext aN) (a1.ext aN)).mono ?_;rintro _ ca _ ⟨aO,c,rfl,a6⟩;simp only[bg,bH];refine⟨λbr=>bq _ _ ⟨aO,true,rfl,λ_ h=>?_,λ_=>rfl⟩,λcb=>?_⟩
  .have:=a6.2 h.1;rw[this] at br;cases br
  .have c1:c=true:=by cases c <;> simp_all
   rw[ac Ψ ((av.ext aO).cell (o:=0) rfl),ac Ψ ((ay.ext aO).cell (o:=0) rfl)];refine (zT ((aZ.ext aN).ext aO) ((aB.ext aN).ext aO)).mono ?_;rintro _ ev _ ⟨c2,d,rfl,cc⟩;simp only[bg];refine bq _ _ ⟨aO.trans c2,_,rfl,λh aH=>?_,λh=>?_⟩
   .have:=cc.2 aH.2;rw[this] at h;cases h
   .cases d with
    |false=>rfl
    |true=>exact absurd ⟨a6.1 c1,cc.1 rfl⟩ h
 rintro _ bJ ⟨a7,c,rfl,a6⟩;have bK:=aN.trans a7;rw[bH];refine⟨λbr ew c3 _=>⟨bK.trans c3,λ_=>rfl,λh=>absurd h (a6.1 br)⟩,λcb=>?_⟩;have a8:Fits s1 J/\Fits X W:=Classical.byContradiction λh=>by
  have:=a6.2 h;rw[cb] at this;cases this
 obtain⟨⟨ey,c4⟩,ez,c5⟩:=id a8;have eA:=cY.1;have eB:=cZ.1;rw[ac Ψ ((au.ext a7).cell (o:=0) rfl),ac Ψ ((ay.ext a7).cell (o:=0) rfl)];refine Jb (a1.ext bK) (aB.ext bK) Ω Ω λeC eD eE cd eF c6=>?_;refine tP c6.ls (by rw[r8];omega) λeH eI eJ m ce eK cg c8 c9=>?_;have da:=cg.length_eq;rw[r8] at da;refine (I9 c9 Ω).mono ?_;rintro bu ch _ ⟨dc,bL⟩;have eL:=a7.size;have eM:=cd.size;have eN:=ce.size;have ci:Ext bJ ch:=(cd.trans ce).then dc (by rintro r aR rfl;omega);obtain⟨dd,de⟩:=zS c8 (j:=m.length) (o8 _);have eO:=zR m m.length;have az:tV J W (dedup m m.length):=⟨dd,λx=>by rw[de,o9,cg.mem_iff,n9]⟩;generalize dedup m m.length=vars at*;refine bt ah.i λcj eP eQ ck df=>?_;refine bj ah.i bL.ls.cells.1 bL.ls.cells.2 df (by simp[x1.cells]) λcl dg eR ba=>?_;have eS:=ci.size;have eU:=ck.size;have bN:Ext ch cl:=ck.then dg (by rintro r aR rfl;omega);have aS:=(a7.trans ci).trans bN;have bc:=aN.trans aS;have eV:=ba.lt;have cm:=bL.ls.ext bN;have ba:ae cl cj ah [bu]:=ba;rw[ac Ψ (ba.cell (o:=0) rfl),ac Ψ ((ap.ext aS).cell (o:=0) rfl),ac Ψ ((au.ext aS).cell (o:=0) rfl),ac Ψ ((av.ext aS).cell (o:=0) rfl),ac Ψ ((ay.ext aS).cell (o:=0) rfl)];refine (Jc (h1.ext bc) (aZ.ext bc) cm (a1.ext bc) (aB.ext bc) c4.up c5.up Ω).mono ?_;rintro eW eX _ ⟨bd,dh,di⟩;have cn:=bc.trans bd;by_cases aT:nH s1 J X W vars
 rotate_left
 .rw[dh aT,aK (v:=.slice ν 0 0) rfl,aK (v:=.bool false) rfl];simp only[bg,X4,bO];intro eY dj _;exact⟨cn.trans dj,λh=>absurd a8 h,λ_=>⟨vars,az,λ_=>rfl,λh=>absurd h aT⟩⟩
 obtain⟨xs,am,rfl,eZ,dk⟩:=di aT;rw[aK (v:=xs) rfl,aK (v:=.bool true) rfl];simp only[bg,Y1,aQ];intro aC aV _ _;have bw:=(aS.trans bd).trans aV;have aW:=cn.trans aV;have ap:=ap.ext bw;have au:=au.ext bw;have av:=av.ext bw;have ay:=ay.ext bw;have dl:=(ba.ext bd).ext aV;obtain⟨⟨aJ,gs,cp,e0,_⟩,_⟩:=h1.ext aW;obtain⟨⟨e1,e2,dm,e3,_⟩,_⟩:=aZ.ext aW;rw[ac Ψ (ap.cell (o:=0) rfl),aw,aa cQ.p rfl,ac Ψ (cp.cell (o:=0+1) rfl),ac Ψ (av.cell (o:=0) rfl),aw,aa cQ.p rfl,ac Ψ (dm.cell (o:=0+1) rfl)];simp only[bB,ad];refine⟨λaE e4 dn _=>⟨aW.trans dn,λh=>absurd a8 h,λ_=>⟨vars,az,λh=>absurd aT h,λ_=>⟨λ_=>rfl,λh=>absurd h aE,λh=>absurd h aE,λh=>absurd h aE⟩⟩⟩,λaE=>?_⟩;have aE:k=bl:=X2.1 aE;subst aE;rw[ac Ψ (ap.cell (o:=0) rfl),aw,aa cQ.p rfl,ac Ψ (cp.cell (o:=0+1) rfl)];have dp:=dk.ext aV;refine (qC dp.ls).mono ?_;rintro aD be _ ⟨cq,dq,dr,_,ds⟩;have e5:=bN.size;have e6:=bd.size;have e7:=aV.size;have e8:=cq.size;obtain⟨aX,e,rfl,e9,bx⟩:∃ (aX:Option Addr) (e:Int),aD= .tuple #[.pointer aX,Δ e]/\(e=0->aX≠ν)/\((e=1/\¬bR (c7 s1 J X W vars))\/(e=5/\bR (c7 s1 J X W vars)/\4096<aL (c7 s1 J X W vars))\/(e=0/\bR (c7 s1 J X W vars)/\aL (c7 s1 J X W vars)<=4096/\
   ∃ag Y ai,aX=σ ⟨ag,0,ν⟩/\aC.heap.size<=ag/\aC.heap.size<=Y/\(∀r,leads ai r->aC.heap.size<=r)/\cM be ag Y ai (c7 s1 J X W vars) k (o6 (aL (c7 s1 J X W vars)).toNat 0))):=by
  by_cases I:bR (c7 s1 J X W vars)
  .by_cases aA:aL (c7 s1 J X W vars)<=4096
   .obtain⟨ag,Y,ai,dt,du,dv,dw,dx⟩:=ds I aA ⟨bm,Ω,by have:=bm.1;omega⟩;exact⟨_,_,dt,(λ_ h=>by cases h),.inr (.inr ⟨rfl,I,aA,ag,Y,ai,rfl,du,dv,dw,dx⟩)⟩
   .exact⟨_,_,dr I Ω,(λh=>Ω),.inr (.inl ⟨rfl,I,Ω⟩)⟩
  .exact⟨_,_,dq I,(λh=>Ω),.inl ⟨rfl,I⟩⟩
 rw[aK (v:=.pointer aX) rfl,aK (v:=Δ e) rfl];refine bt eg.i λcr fa fb ct bf=>?_;refine bj eg.i rfl rfl bf (by simp[x1.cells]) λdy dz fc bf=>?_;have fd:=ct.size;have bP:Ext be dy:=ct.then dz (by rintro r aR rfl;omega);have cu:=cq.trans bP;have dA:=aW.trans cu;have fe:=bf.lt;simp only[bB,ad];refine⟨λdC ff dD _=>⟨dA.trans dD,λh=>absurd a8 h,λ_=>⟨vars,az,λh=>absurd aT h,λ_=>⟨λh=>absurd rfl h,λ_ I=>?_,λ_ I aA=>?_,λ_ I aA=>?_⟩⟩⟩,λfg=>?_⟩
 .rcases bx with⟨rfl,_⟩|⟨_,h,_⟩|⟨_,h,_⟩
  .rfl
  .exact absurd h I
  .exact absurd h I
 .rcases bx with⟨_,h⟩|⟨rfl,_⟩|⟨_,_,h,_⟩
  .exact absurd I h
  .rfl
  .omega
 .rcases bx with⟨_,h⟩|⟨_,_,h⟩|⟨h,_⟩
  .exact absurd I h
  .omega
  .exact absurd h dC
 obtain⟨bz,dE,ag,Y,ai,rfl,fh,fi,fj,bA⟩:bR (c7 s1 J X W vars)/\aL (c7 s1 J X W vars)<=4096/\
   ∃ag Y ai,aX=σ ⟨ag,0,ν⟩/\aC.heap.size<=ag/\aC.heap.size<=Y/\(∀r,leads ai r->aC.heap.size<=r)/\cM be ag Y ai (c7 s1 J X W vars) k (o6 (aL (c7 s1 J X W vars)).toNat 0):=by
  rcases bx with⟨h,_⟩|⟨h,_⟩|⟨_,h⟩
  .omega
  .omega
  .exact h
 obtain rfl:e=0:=Ω
 have dF:(c7 s1 J X W vars).length=vars.length:=z8 _ _ _ _ _;have fk:=prod_bound bz;obtain⟨N,bC⟩:∃N:Nat,(aL (c7 s1 J X W vars)).toNat=N:=⟨_,rfl⟩;rw[bC] at bA;have fm:0<N:=Ω
 have dG:=bA.ext bP;obtain⟨⟨bQ,cw,cz,cB,dH⟩,⟨cC,cD,_⟩,_,fo⟩:=id dG;have fp:ag<be.heap.size:=by obtain⟨⟨_,_,q,_⟩,_⟩:=id bA;exact q.lt
 have fq:Y<be.heap.size:=by obtain⟨⟨_,_,_,_,q⟩,_⟩:=id bA;exact nG q Θ
 rw[ac Ψ (bf.cell (o:=0) rfl),aw,aa cQ.p rfl,bn (cs:=[ai]) bo.p bo.i rfl (sub cz)];refine tt.mono ?_;rintro _ bh _ ⟨aF,bD,rfl,fs,cE⟩;have ft:=bP.size;have fu:=aF.size;let S:Nat->Prop:=λr=>r=Y;let aY:=mm s1 ak J X al W vars k;have bS:aY.length=N:=by simp only[aY];rw[Aa,bC]
 have dI:=(cm.ext bd).ext aV;let dJ:x2->Prop:=λw'=>ae w' b5 eg [Γ g]/\ae w' b7 ah [db]/\ae w' b8 eg [Γ aU]/\ae w' b9 ah [bv]/\ae w' cj ah [bu]/\aI .i64 w' bu vars/\
  ae w' cr eg [Γ ag]/\ae w' ag cQ [ai,Δ k,bQ]/\cM w' g b2 sv s1 k ak/\cM w' aU b3 b4 X k al/\aI .i64 w' db J/\aI .i64 w' bv W/\aq .i64 ab w' cw ai (c7 s1 J X W vars)/\ae w' bD bo [ai]/\bh.heap.size<=w'.heap.size
 have cF:=cu.trans aF;have bi:∀ {a:x2},af S bh a->dJ a:=by
  intro a ao;have aG:Ext aC a:=cF.then ao (λr aR he=>by have he:r=Y:=he;omega);have bE:=aW.trans aG;exact⟨ap.ext aG,au.ext aG,av.ext aG,ay.ext aG,dl.ext aG,dI.ext aG,(bf.ext aF).V ao (by show ¬(cr=Y);omega),(cz.ext aF).V ao (by show ¬(ag=Y);exact cC),h1.ext bE,aZ.ext bE,a1.ext bE,aB.ext bE,
   bb (cB.ext aF) ao (λr aR he=>cD ((show r=Y from he)▸aR)),cE.V ao (by show ¬(bD=Y);omega),ao.size⟩
 have cG:=ts (g:=bD) (B0:=bh.heap.size) (sv:=ai) bz;rw[bC] at cG;refine lD.old ⟨Nat,false,ke,#[Γ bD],0,_,_,_,λq w'=>af S bh w'/\aq .i64 an w' Y bQ (upto aY 0 q),λ_ _ _=>False,rfl,cG.s,
  ?_,λ_ _ ao h=>⟨h.1.ext ao,h.2.1.ext ao,X0 h.2.2 ao.size⟩,λ_ _ _ ao h=>⟨h.1.trans (ao.V S),h.2.ext ao⟩,λ_ _ _ _ _ h=>h,⟨cE,(cB.ext aF).ls,o8 _⟩,⟨af.refl _ _,?_⟩,?_,?_,λ_ _ h=>h.elim,λ_ _ _ h=>h.elim⟩
 .rintro _ _ _ _ ⟨_,_,_,_,rfl,_⟩;rfl
 .rw[nm,bS];exact dH.ext aF
 .rintro _ aD q _ fv ⟨_,_,fw⟩ ⟨bT,rfl,fx,fy,dK,fz,cI⟩ ⟨bF,dL⟩;cases dK;let x:=cH (c7 s1 J X W vars) (q:Int);have cJ:x.length=vars.length:=by simp only[x];rw[h0,dF]
  intro fA dM _ _;intro fB dN _ _;have bU:=dM.trans dN;obtain⟨f1,f2,f3,f4,f5,f6,f7,f8,f9,f10,f11,f12,f13,f14,f15⟩:=bi (bF.trans (bU.V S));rw[ac Ψ (f1.cell (o:=0) rfl),ac Ψ (f5.cell (o:=0) rfl),ac Ψ (f2.cell (o:=0) rfl)];refine (zV (cI.ls.ext bU) f6 f11 az.1 (λp aA=>(az.2 p).2 (.inl aA)) cJ Ω).mono ?_;rintro fC fD _ ⟨bV,fE,fF,dO⟩;refine⟨.inl bV,?_⟩;refine (sY (f9.ext bV) dO.ls).mono ?_;rintro _ fG _ ⟨rfl,dP⟩;obtain⟨cK,dQ⟩:=tO s1 (ei x vars J) ak;have dR:na s1 (ei (cH (c7 s1 J X W vars) (q:Int)) vars J) ak= .tuple #[Δ (cW s1 ak (ei x vars J)),Δ cK]:=dQ;rw[dR,aK (v:=Δ (cW s1 ak (ei x vars J))) rfl,aK (v:=Δ cK) rfl];intro fH dS _ _;have bW:=((bU.trans bV).trans dP).trans dS;obtain⟨f1,f2,f3,f4,f5,f6,f7,f8,f9,f10,f11,f12,f13,f14,f15⟩:=bi (bF.trans (bW.V S));rw[ac Ψ (f3.cell (o:=0) rfl),ac Ψ (f5.cell (o:=0) rfl),ac Ψ (f4.cell (o:=0) rfl)];refine (zV (cI.ls.ext bW) f6 f12 az.1 (λp aA=>(az.2 p).2 (.inr aA)) cJ Ω).mono ?_;rintro fI fJ _ ⟨bX,fK,fL,dT⟩;refine⟨.inl bX,?_⟩;refine (sY (f10.ext bX) dT.ls).mono ?_;rintro _ fM _ ⟨rfl,dU⟩;obtain⟨cN,dV⟩:=tO X (ei x vars W) al;have dW:na X (ei (cH (c7 s1 J X W vars) (q:Int)) vars W) al= .tuple #[Δ (cW X al (ei x vars W)),Δ cN]:=dV;rw[dW,aK (v:=Δ (cW X al (ei x vars W))) rfl,aK (v:=Δ cN) rfl];intro fN dX _ _;have bY:=((bW.trans bX).trans dU).trans dX;obtain⟨f1,f2,f3,f4,f5,f6,f7,f8,f9,f10,f11,f12,f13,f14,f15⟩:=bi (bF.trans (bY.V S));rw[ac Ψ (f7.cell (o:=0) rfl),aw,aa cQ.p rfl,ac Ψ (f8.cell (o:=0+2) rfl),ac Ψ (f7.cell (o:=0) rfl),aw,aa cQ.p rfl,ac Ψ (f8.cell (o:=0+1) rfl)];refine yF.mono ?_;rintro _ fO _ ⟨rfl,bZ⟩;refine⟨.inl bZ,?_⟩;have dY:oO (cW s1 ak (ei x vars J)) (cW X al (ei x vars W)) k= .tuple #[Δ (min (cW s1 ak (ei x vars J)+cW X al (ei x vars W)) k),Δ 0]:=if_pos ⟨Ab bm cT,Ab bm cU⟩;rw[dY,aK (v:=Δ (min (cW s1 ak (ei x vars J)+cW X al (ei x vars W)) k)) rfl,aK (v:=Δ 0) rfl];have cO:=dL.ext (bY.trans bZ);have fP:(upto aY 0 q).length=N:=by rw[oJ,bS]
  rw[ha rfl ax.u an.i cO Ω];refine hb an.i cO Ω λdZ ea fQ cP=>?_;have cR:af S bh dZ:=(bF.trans ((bY.trans bZ).V S)).trans (ea.mono λr _ h=>h);obtain⟨f1,f2,f3,f4,f5,f6,f7,f8,f9,f10,f11,f12,f13,f14,f15⟩:=bi cR;have eb:aY[q]? =σ (min (cW s1 ak (ei x vars J)+cW X al (ei x vars W)) k):=by
   simp only[aY,mm];rw[x8,List.getElem?_range (by rw[bC];exact bT)];rfl
  rw[np eb] at cP;exact⟨⟨f14,f13.ls,f15⟩,⟨cR,cP⟩,λh=>by cases h⟩
 .rintro q fR bT ⟨cS,b0⟩;rw[show q=N from bT] at b0;intro fS b1 _ _;obtain⟨f1,f2,f3,f4,f5,f6,f7,f8,f9,f10,f11,f12,f13,f14,f15⟩:=bi (cS.trans (b1.V S));rw[ac Ψ (f7.cell (o:=0) rfl),ac Ψ (f5.cell (o:=0) rfl)];intro fU bk _;rw[<-bS,nn] at b0;have ec:=aW.trans cF;refine⟨((ec.then cS (λr aR he=>by have he:r=Y:=he;omega)).trans b1).trans bk,λh=>absurd a8 h,λ_=>⟨vars,az,λh=>absurd aT h,λ_=>⟨λh=>absurd rfl h,λ_ h=>absurd bz h,λ_ _ h=>Ω,λ_ _ _=>⟨ag,Y,ai,bu,rfl,⟨⟨bQ,cw,f8.ext bk,f13.ext bk,(b0.ext b1).ext bk⟩,⟨cC,cD,dE⟩,bz,Aa _ _ _ _ _ _ _ _⟩,f6.ext bk⟩⟩⟩⟩
theorem gi.pair (h:gi l):l.Pairwise (·< ·):=V0.2 λi j hi I J=>h i j _ _ J (y0 hi) (y0 I)
theorem Je {m:List Int} (I:gi l) (hm:gi m) (h:∀x,x∈l↔x∈m):l=m:=by
 have J:l.Nodup:=I.pair.imp λh=>Ω
 have U:m.Nodup:=hm.pair.imp λh=>Ω
 exact List.Perm.eq_of_pairwise (le:=(·<= ·)) (λa b _ _ h1 V=>Int.le_antisymm h1 V) (I.pair.imp λh=>Int.le_of_lt h) (hm.pair.imp λh=>Int.le_of_lt h) ((List.perm_ext_iff_of_nodup J U).2 h)
theorem Jf {vars:List Int} (h:tV l l vars) (hu:gi l):vars=l:=Je h.1 hu λx=>by rw[h.2];simp
theorem Ad (h:l.Pairwise (·< ·)):gi l:=λi j x y J U V=>by
 have h1:=x4.1 U;have I:=x4.1 V;have:=V0.1 h i j h1.1 I.1 J;rw[h1.2,I.2] at this;exact this
theorem Jg {x:List Int} (hu:l.Nodup) (h:x.length=l.length):ei x l l=x:=by
 refine X6 λi=>?_;unfold ei;cases I:l[i]? with
 |none=>rw[x8,I,Y4 (by have:=List.getElem?_eq_none_iff.1 I;omega)];rfl
 |some v=>
  have hi:=(x4.1 I).1;rw[x8,I,Y0,pa hu I,u4,y0 (show i<x.length by omega)];rfl
theorem Ae {s:List Int} (hu:gi l) (h:s.length=l.length):c7 s l s l l=s:=by
 refine X6 λi=>?_;unfold c7;cases I:l[i]? with
 |none=>rw[x8,I,Y4 (by have:=List.getElem?_eq_none_iff.1 I;omega)];rfl
 |some v=>
  have hi:=(x4.1 I).1;rw[x8,I,Y0,zU hu I,Int.max_self,y0 (show i<s.length by omega)];unfold gP;rw[if_pos Ω,u4,j9,y0 (show i<s.length by omega)];rfl
theorem Jh {s b:List Int} (hu:l.Pairwise (·< ·)) (h:s.length=l.length) (I:dS s) (J:a.length=(aL s).toNat) (U:b.length=(aL s).toNat):mm s a l s b l l k=dC k a b:=by
 have V:l.Nodup:=hu.imp λh=>Ω
 unfold mm;rw[Ae (Ad hu) h,H3 I J U];apply List.map_congr_left;intro q _;rw[Jg V (by rw[h0,h])]
theorem Ji {s b:List Int} (hu:l.Pairwise (·< ·)) (ac:∀x∈l,0<=x) (h:s.length=l.length) (I:bR s) (ad:aL s<=4096) (ae:a.length=(aL s).toNat) (af:b.length=(aL s).toNat) (U:Ac w s a l s b l k k v w'):
  Ext w w'/\ ∃J V W X,v= .tuple #[Γ J,X,Δ 0]/\cM w' J V W s k (dC k a b):=by
 obtain⟨ag,_,U⟩:=U;have Y:=Ad hu;have aa:Fits s l:=⟨h.symm,IH Y ac⟩;obtain⟨vars,ah,_,ai⟩:=U ⟨aa,aa⟩;have aj:=Jf ah Y;subst aj;obtain⟨_,_,_,ab⟩:=ai λp al am an=>rfl;rw[Ae Y h,Jh hu h I.2 ae af] at ab;obtain⟨J,V,W,X,rfl,ak,_⟩:=ab rfl I ad;exact⟨ag,J,V,W,X,rfl,ak⟩
theorem Jj {s:List Int} (I:dS s):(bu s).Nodup:=(zJ I).imp λ{a b} h he=>by subst he;omega
theorem Jk {s:List Int} {i:Nat} (I:dS s) (hi:(bu s)[i]? =σ t) (J:(bu s)[j]? =σ t):i=j:=i7 (Jj I) hi J
theorem Jl {s:List Int} (I:dS s) (h:c0 s t):∃j:Nat,(bu s)[j]? =σ t:=Y7.1 ((zI I).2 h)
theorem rv {g:Nat} {d:List (x1×x1)} (h:ae w g e cs) (hm:cN w m d) (I:af (λr=>r=m) w w'):ae w' g e cs:=h.V I (λhe=>rj h hm he)
theorem Af {g:Nat} {k:o5} {d:List (x1×x1)} (h:aq k e w g v l) (hm:cN w m d) (I:af (λr=>r=m) w w'):aq k e w' g v l:=bb h I (λ_ J he=>zL h hm J he)
def rx (cs:List Int) (o:Int):Prop:=o∈cs/\ ∀d∈cs,cs.count d<cs.count o\/(cs.count d=cs.count o/\o<=d)
theorem Jm {i:Nat} {x:Int} (h:l[i]? =σ x) (y:Int):(l.take (i+1)).count y=(l.take i).count y+if y=x then 1 else 0:=by
 rw[r9,h,List.count_append];congr 1;simp only[Z9,List.count_singleton];by_cases I:y=x
 .subst I;simp
 .rw[if_neg I,if_neg (by simpa using λh=>I h.symm)]
def fO (p:Int×Int):x1×x1:=(Δ p.1,Δ p.2)
theorem pg:Keys x3 an λv=>∃n,v=Δ n:=Keys.int an.u
theorem ph (E:List (Int×Int)):∀p∈E.map fO,∃n,p.1=Δ n:=λp I=>by
 obtain⟨q,_,rfl⟩:=Z5.1 I;exact⟨_,rfl⟩
def tW (cs:List Int) (E:List (Int×Int)):Prop:=(∀x,x∈E.map (·.1)↔x∈cs)/\ ∀p∈E,p.2=(cs.count p.1:Nat)
theorem Ag {cs:List Int} {E:List (Int×Int)} (h:tW cs E) {x:Int} (J:x∈cs):∃j:Nat,E[j]? =σ (x,((cs.count x:Nat):Int)):=by
 obtain⟨p,I,rfl⟩:=Z5.1 ((h.1 x).2 J);obtain⟨j,U⟩:=Y7.1 I;exact⟨j,by rw[U,<-h.2 p I]⟩
theorem Ah {aW:x1} {cs:List Int} (h:aI .i64 w aW cs) (aX:cs≠[]) (bB:cs.length<=1000000):aj x3 qs [aW] w λv w'=>Ext w w'/\ ∃o,v=Δ o/\rx cs o:=by
 refine aA func263 ?_;refine az.ds (q0 λm U hm aB be bC=>?_);rw[aS ax.u (h.ext aB)];refine bZ.range cs.length (λi ac=>af (λr=>r=m) U ac/\ ∃E,cN ac m (E.map fO)/\tW (cs.take i) E) Ω ⟨af.refl _ _,[],be,by simp[tW]⟩ ?_ ?_
 .rintro i ac bf hi ⟨ah,E,Y,V⟩ aY;obtain⟨x,aC⟩:∃x,cs[i]? =σ x:=⟨_,y0 hi⟩;have ai:Ext w ac:=aB.then ah (λr ae he=>by have he:r=m:=he;omega);have bg:∀y,(cs.take i).count y<=1000000:=λy=>by
   have:=List.count_le_length (a:=y) (l:=cs.take i);rw[o7] at this;omega
  rw[ao,ad];refine⟨λ_=>?_,λh=>Ω⟩;rw[bc ax.u an.i Ψ (h.ext ai) aC];have au:=Jm aC;have aZ:∀y,y∈cs.take (i+1)↔y∈cs.take i\/y=x:=λy=>by
   rw[r9,aC];simp
  by_cases ak:x∈cs.take i
  .obtain⟨j,aD⟩:=Ag V ak;have av:(E.map fO)[j]? =σ (Δ x,Δ (((cs.take i).count x:Nat):Int)):=by rw[x8,aD];rfl
   rw[oQ kg.u pg Y (ph E) ⟨_,rfl⟩ av];simp only[Bool.false_eq_true,if_false];have:=bg x;rw[aN,wrap_i64 Ω Ω];refine az.ds (oR kg.u pg Y (ph E) ⟨_,rfl⟩ (λal v0 aE aF am aG bh=>?_) (λaE aw=>absurd rfl (aw _ (x6 av))));have bj:al=j:=Y.uniq aF av rfl;subst bj;rw[aN];have aH:(E.map fO).set al (Δ x,Δ ((((cs.take i).count x:Nat):Int)+1))=(E.set al (x,(((cs.take i).count x:Nat):Int)+1)).map fO:=by rw[T0];rfl
   rw[aH] at am;have bk:=(x4.1 aD).1;refine aY _ ⟨ah.trans aG,_,am,λy=>?_,λp I=>?_⟩
   .rw[T0,nq (by rw[x8,aD];rfl),V.1,aZ];exact⟨.inl,λh=>h.elim id (λh=>h▸ak)⟩
   .obtain⟨q,W⟩:=Y7.1 I;by_cases aJ:al=q
    .subst aJ;rw[V5 bk] at W;cases W;show _=(((cs.take (i+1)).count x:Nat):Int);rw[au,if_pos rfl];omega
    .rw[W6 aJ] at W;have aL:p.1≠x:=λhe=>aJ (Y.uniq av (show (E.map fO)[q]? =σ (fO p) by rw[x8,W];rfl) (by rw[fO,he]));rw[V.2 p (x6 W),au,if_neg aL,Nat.add_zero]
  .have aw:∀p∈E.map fO,p.1≠V2 .i64 x:=λp I he=>by
    obtain⟨q,W,rfl⟩:=Z5.1 I;have:q.1=x:=by simpa[fO] using he
    exact ak ((V.1 x).1 (Z5.2 ⟨q,W,this⟩))
   rw[q1 kg.u pg ⟨_,_,ab.i⟩ Y (ph E) ⟨_,rfl⟩ aw];simp only[Bool.false_eq_true,if_false];rw[aN,wrap_i64 Ω Ω];refine az.ds (oR kg.u pg Y (ph E) ⟨_,rfl⟩ (λal v0 aE aF=>absurd rfl (aw _ (x6 aF))) (λaE _ am aG bh=>?_));rw[aN];have aH:E.map fO++[(V2 .i64 x,V2 .i64 (0+1))]=(E++[(x,1)]).map fO:=by rw[Z4];rfl
   rw[aH] at am;have bl:(cs.take i).count x=0:=List.count_eq_zero.2 ak;refine aY _ ⟨ah.trans aG,_,am,λy=>?_,λp I=>?_⟩
   .rw[Z4,n9,V.1,aZ];simp
   .rcases n9.1 I with I|I
    .have aL:p.1≠x:=λhe=>ak ((V.1 x).1 (Z5.2 ⟨p,I,he⟩));rw[V.2 p I,au,if_neg aL,Nat.add_zero]
    .rw[l9.1 I];show (1:Int)=(((cs.take (i+1)).count x:Nat):Int);rw[au,if_pos rfl,bl];rfl
 rintro ac bf ⟨ah,E,Y,V⟩;rw[o9] at V;have ai:Ext w ac:=aB.then ah (λr ae he=>by have he:r=m:=he;omega);rw[ao,ad];refine⟨λh=>Ω,λ_=>?_⟩;refine (GG (h.ext ai) aX).mono ?_;rintro _ bm bD ⟨rfl,aM⟩;have bE:=ai.size;have bF:=aM.size;refine az.ds (yH kg.u (Y.ext aM) λap bG bI bn bJ bo bK=>?_);refine⟨λec ag=>∃b aa X left a1,ec=Δ b/\b∈cs/\Ext bm ag/\gz ag ap m (E.map fO) left a1/\left=X.map fO/\(aa++X).Perm E/\ ∀p∈aa,cs.count p.1<cs.count b\/(cs.count p.1=cs.count b/\b<=p.1),λ_ ag=>nz ag ap,
  ⟨tg cs,[],E,E.map fO,ν,rfl,(Gg aX).1,bn,bo,rfl,List.Perm.refl _,λp I=>by cases I⟩,?_⟩
 rintro _ ag ⟨b,aa,X,left,a1,rfl,aO,aR,a2,rfl,ay,aT⟩;refine yJ a2 (λ_=>by show w.heap.size<=ap;omega) (λbp=>?_) (λj p aU I a6 bL aq=>?_)
 .rw[aK (v:=.bool false) rfl,aQ];have:X=[]:=List.map_eq_nil_iff.1 bp;subst this;rw[V4] at ay;refine⟨(ai.trans aM).trans aR,b,rfl,aO,λd bq=>?_⟩;obtain⟨q,W,rfl⟩:=Z5.1 ((V.1 d).2 bq);exact aT q (ay.mem_iff.2 W)
 .rw[aK (v:=.bool true) rfl,bO];refine yK aq ?_;obtain⟨q,W,rfl⟩:∃q,X[j]? =σ q/\fO q=p:=by
   rw[x8] at I;exact Y8.1 I
  have a7:q∈E:=ay.mem_iff.1 (n9.2 (.inr (x6 W)));have bM:=V.2 q a7;have br:q.1∈cs:=(V.1 q.1).1 (Z5.2 ⟨q,a7,rfl⟩);obtain⟨bt,bu⟩:=Ag V aO;have bw:(E.map fO)[bt]? =σ (Δ b,Δ ((cs.count b:Nat):Int)):=by rw[x8,bu];rfl
  rw[aK (v:=Δ q.1) rfl,aK (v:=Δ q.2) rfl];have a8:(aa++[q]++X.eraseIdx j).Perm E:=by
   refine List.Perm.trans ?_ ay;rw[V9];exact List.Perm.append_left aa (tz W)
  have ba:nz aU ap<nz ag ap:=by
   rw[q5 aq,q5 a2];have:=yX (x4.1 I).1;omega
  refine aP (λv bx=>aU=bx/\ ∃r:Bool,v= .bool r/\(r=true↔(cs.count b<cs.count q.1\/(cs.count q.1=cs.count b/\q.1<b)))) ?_ ?_
  .rintro _ _ ⟨rfl,r,rfl,ae⟩;rw[bH];refine⟨λbz=>?_,λbb=>?_⟩
   .have ae:=ae.1 bz;refine⟨⟨q.1,aa++[q],X.eraseIdx j,_,_,rfl,br,aR.trans a6,aq,(lh fO X j),a8,λp I=>?_⟩,ba⟩;rcases n9.1 I with I|I
    .have:=aT p I;omega
    .rw[l9.1 I];exact .inr ⟨rfl,Int.le_refl _⟩
   .have ae:¬(cs.count b<cs.count q.1\/(cs.count q.1=cs.count b/\q.1<b)):=λh=>by rw[ae.2 h] at bb;cases bb
    refine⟨⟨b,aa++[q],X.eraseIdx j,_,_,rfl,aO,aR.trans a6,aq,(lh fO X j),a8,λp I=>?_⟩,ba⟩;rcases n9.1 I with I|I
    .exact aT p I
    .rw[l9.1 I];omega
  .intro bN aV;have bd:∀K:x1->Prop,J x3 (Instr.lookup kg (.map (σ m)) (Δ b) false) aU K=K (Δ ((cs.count b:Nat):Int)):=λK=>by
    rw[oQ kg.u pg aq.map (ph E) ⟨_,rfl⟩ bw];simp
   rw[bd,bP,ad];refine⟨λh1=>aV _ _ ⟨rfl,true,rfl,⟨λ_=>.inl Ω,λ_=>rfl⟩⟩,λh1=>?_⟩;rw[bd,bi,ad];refine⟨λbA=>?_,λbA=>aV _ _ ⟨rfl,false,rfl,⟨λh=>(by cases h),λh=>Ω⟩⟩⟩;rw[ao];refine aV _ _ ⟨rfl,_,rfl,?_⟩;rw[decide_eq_true_eq];omega
theorem Jn {g J:Nat} {k:o5} {U:u9} (h:aq k e w g v l) (V:ae w J U cs) (X:e≠U) {r:Nat} (W:leads v r):r≠J:=by
 obtain⟨rfl,_⟩:=bA h W;obtain⟨_,⟨rfl,_⟩|⟨_,_,_,I,_⟩⟩:=h
 .obtain⟨a,n,c,h,_⟩:=W;cases h
 .rintro rfl;unfold ae at V I;rw[V] at I;injection I with h1;injection h1 with aa Y;exact X Y.symm
def Jo (w:x2) (szs:List Int) (k:Int) (cs:List Int) (v:x1) (w':x2):Prop:=Ext w w'/\ ∃g m o D,v=Γ g/\eh w' g m szs k o D/\D.length<=(aL szs).toNat/\hj szs (hg D o) cs/\rx cs o
theorem Jp {g b9:Nat} {cs:List Int} (h:cM w g b9 sv szs k cs) (be:∀c∈cs,cL c k):aj x3 Ea [Γ g] w (Jo w szs k cs):=by
 obtain⟨⟨aJ,gs,bF,hm,cQ⟩,⟨_,_,bG⟩,I,aX⟩:=id h;have cR:=prod_bound I;have cS:=I.1;have bH:cs≠[]:=λhe=>by rw[he] at aX;simp at aX;omega
 refine lL func221 ?_;rw[cA eg.u];simp only[j6,aQ];refine (lg h).mono ?_;rintro au ao _ ⟨aC,cT,cU,bf⟩;refine bt ax.i λaN cV cX bI bJ=>?_;have cY:=bJ.lt;refine bj ax.i bf.ls.cells.1 bf.ls.cells.2 bJ (by simp[x1.cells]) λaY ca cZ aZ=>?_;have aZ:ae aY aN ax [au]:=aZ;have c1:=aC.size;have c2:=bI.size;have bK:Ext ao aY:=bI.then ca (λr av he=>by have he:r=aN:=he;omega);have bL:=bf.ext bK;have aO:=aC.trans bK;refine aP (λu a1=>∃W ag m o aw ay,u=Γ W/\Ext aY a1/\ae a1 W ep [Γ ag]/\aY.heap.size<=m/\e4 a1 ag m aw ay szs k o []/\rx cs o) ?_ ?_
 .rintro _ a1 ⟨W,ag,m,o,aw,ay,rfl,aR,X,c3,ak,am⟩;have cb:=h.ext (aO.trans aR);have cc:=aZ.ext aR;have cd:=bL.ext aR;refine (me cb).mono ?_;rintro _ c4 _ ⟨rfl,ce⟩;refine tt.mono ?_;rintro _ bg _ ⟨cg,bM,rfl,c5,bN⟩;have aE:=ce.trans cg;have bO:=ak.ext aE;have ch:=cc.ext aE;have bP:=X.ext aE;have ci:=cd.ext aE;have bQ:=hm.ext ((aO.trans aR).trans aE);have aF:=bO.2.2.1;have cj:=(aO.trans aR).trans aE;have c6:=aO.size;have ck:=ts (g:=bM) (B0:=bg.heap.size) (sv:=sv) I;refine lD.old ⟨Nat,false,ke,#[Γ bM],_,_,_,_,λi w'=>af (λr=>r=m) bg w'/\ ∃D,D.length<=i/\e4 w' ag m aw ay szs k o D/\ ∀ (j:Nat) t,(bu szs)[j]? =σ t->hg D o t=if j<i then cW szs cs t else o,λ_ _ _=>False,rfl,ck.s,
   ?_,λ_ _ aG h=>⟨h.1.ext aG,h.2.1.ext aG,X0 h.2.2 aG.size⟩,λ_ _ _ aG ⟨h1,D,cl,cm,bG⟩=>⟨h1.trans (aG.V _),D,cl,cm.ext aG,bG⟩,λ_ _ _ _ _ h=>h,⟨bN,bQ.ls,o8 _⟩,⟨af.refl _ _,[],o8 _,bO,λj t _=>by rw[if_neg Ω];rfl⟩,?_,?_,λ_ _ h=>h.elim,λ_ _ _ h=>h.elim⟩
  .rintro _ _ _ _ ⟨_,_,_,_,rfl,_⟩;rfl
  .rintro _ aD i _ cn ⟨c7,c8,cp⟩ ⟨hi,rfl,c9,da,cq,db,ah⟩ ⟨a2,D,bR,bh,bi⟩;cases cq;have bl:(bu szs)[i]? =σ (cH szs (i:Int)):=oI I.2 Ω;have cr:c0 szs (cH szs (i:Int)):=th I.2 hi;generalize cH szs (i:Int)=t at*;have bS:=Ia I.2 aX bl;intro ct a6 _ _;intro cu cw _ _;have a7:=a6.trans cw;have a8:af (λr=>r=m) bg cu:=a2.trans (a7.V _);rw[ac Ψ ((rv bP aF a8).cell (o:=0) rfl),ac Ψ ((rv ch aF a8).cell (o:=0) rfl),bc ax.u an.i Ψ (Af ci aF a8).ls bS];have bm:=bh.ext a7;refine (yV bm.is (ah.ext a7).ls (c:=cW szs cs t)).mono ?_;rintro _ dc _ ⟨_,cz⟩;obtain⟨rfl,bn,cB,bT,bU⟩:=cz ⟨cr,be _ (x6 bS)⟩;have bo:=a8.trans bn;have dd:=bT.2;refine⟨⟨rv bN aF bo,(Af bQ aF bo).ls,X0 cp (X0 a7.size bn.size)⟩,⟨bo,cB,Ω,bm.put bn bU,λj s aA=>?_⟩,λh=>by cases h⟩;rw[bT.cost bm.is.nodup bU.nodup];by_cases bV:j=i
   .subst bV;rw[bl] at aA;cases aA;rw[if_pos rfl,if_pos Ω]
   .rw[if_neg (λ(he:s=t)=>bV (Jk I.2 (by rw[<-he];exact aA) bl)),bi j s aA];by_cases h1:j<i
    .rw[if_pos h1,if_pos Ω]
    .rw[if_neg h1,if_neg Ω]
  .rintro i cn rfl ⟨a2,D,bR,bh,bi⟩;rw[ac Ψ ((rv bP aF a2).cell (o:=0) rfl)];intro ct a6 _;refine⟨(cj.then a2 (λr av he=>by have he:r=m:=he;omega)).trans a6,ag,m,o,D,rfl,bh.is.ext a6,bR,⟨aX,λt cC=>?_⟩,am⟩;obtain⟨j,aA⟩:=Jl I.2 cC;have:=(x4.1 aA).1;rw[h2 I.2] at this;rw[bi j t aA,if_pos this]
 intro ba bW;intro ai aS _ _;have bp:=aO.trans aS;have bX:=aS;have bb:=h.ext bp;have bY:=bL.ext aS;have de:=aS.size;rw[ac Ψ ((aZ.ext aS).cell (o:=0) rfl)];have bZ:∀ {W:Nat} {w':x2} {aD:x1} {o:Int},Ext ai w'->ai.heap.size<=W->(∃Y,ae w' W ep [Y])->aI .i64 w' aD szs->rx cs o->
   aj x3 mV [aD,Δ k,Δ o] w' λal ab=>J x3 (Z8 al 0) ab λaB=>J x3 (Z8 al 1) ab λ_=>az x3 (o4 ep (Γ W) aB) ab λ(_:Unit) ap=>ba (Γ W) ap:=by
  rintro W w' aD o ad aa ⟨Y,X⟩ ah am;refine (yP ah).mono ?_;rintro _ ab _ ⟨bq,_,_,br⟩;obtain⟨ag,m,rfl,cD,cE,ak⟩:=br I (be _ am.1);obtain⟨aw,ay,ak⟩:=ak.at;rw[aK (v:=Γ ag) rfl,aK (v:=Δ 0) rfl];have cF:=X.lt;have s':=ad.size;refine bj ep.i rfl rfl (X.ext bq) Ξ λap b0 df cG=>?_;refine bW _ _ ⟨W,ag,m,o,aw,ay,rfl,((bX.trans ad).trans bq).then b0 (λr av he=>by have he:r=W:=he;omega),cG,Ω,ak.V b0 (λhe=>by have he:ag=W:=he;omega) (λhe=>by have he:m=W:=he;omega) (λr av he=>?_),am⟩;exact Jn ak.2.1 (X.ext bq) Φ av he
 have b1:∀ {W:Nat} {w':x2} {aD:x1},Ext ai w'->ai.heap.size<=W->(∃Y,ae w' W ep [Y])->aI .i64 w' aD szs->
   aj x3 qs [au] w' λaT ao=>aj x3 mV [aD,Δ k,aT] ao λal ab=>J x3 (Z8 al 0) ab λaB=>J x3 (Z8 al 1) ab λ_=>az x3 (o4 ep (Γ W) aB) ab λ(_:Unit) ap=>ba (Γ W) ap:=by
  rintro W w' aD ad aa ⟨Y,X⟩ ah;refine (Ah (bY.ext ad).ls bH Ω).mono ?_;rintro _ ao _ ⟨aC,o,rfl,am⟩;exact bZ (ad.trans aC) aa ⟨Y,X.ext aC⟩ (ah.ext aC) am
 have b2:∀ {W:Nat} {w':x2} {aD:x1},Ext ai w'->ai.heap.size<=W->(∃Y,ae w' W ep [Y])->aI .i64 w' aD szs->
   aj x3 sF [Γ g] w' λbw U=>(Ext ai U\/bk x3 (x5 ax (Γ aN)) au U/\True)/\
    aj x3 qs [au] U λaT ao=>aj x3 mV [aD,bw,aT] ao λal ab=>J x3 (Z8 al 0) ab λaB=>J x3 (Z8 al 1) ab λ_=>az x3 (o4 ep (Γ W) aB) ab λ(_:Unit) ap=>ba (Γ W) ap:=by
  rintro W w' aD ad aa ⟨Y,X⟩ ah;refine (tq (bb.ext ad)).mono ?_;rintro _ U _ ⟨rfl,aq⟩;exact⟨.inl (ad.trans aq),b1 (ad.trans aq) aa ⟨Y,X.ext aq⟩ (ah.ext aq)⟩
 have b3:szs.length<=1000:=Ω
 have b4:∀ {W:Nat} {w':x2},Ext ai w'->ai.heap.size<=W->(∃Y,ae w' W ep [Y])->
   aj x3 wF [.agg #[sv]] w' λcI w0=>(Ext ai w0\/bk x3 (x5 ax (Γ aN)) au w0/\True)/\
    aj x3 sF [Γ g] w0 λbw U=>(Ext ai U\/bk x3 (x5 ax (Γ aN)) au U/\True)/\
    aj x3 qs [au] U λaT ao=>aj x3 mV [cI,bw,aT] ao λal ab=>J x3 (Z8 al 0) ab λaB=>J x3 (Z8 al 1) ab λ_=>az x3 (o4 ep (Γ W) aB) ab λ(_:Unit) ap=>ba (Γ W) ap:=by
  rintro W w' ad aa ⟨Y,X⟩;refine (tr (hm.ext (bp.trans ad)).ls b3).mono ?_;rintro aD U _ ⟨aq,_,_,ah⟩;exact⟨.inl (ad.trans aq),b2 (ad.trans aq) aa ⟨Y,X.ext aq⟩ ah.ls⟩
 have aU:∀ {w':x2} {R:x1->x2->Prop},Ext ai w'->(∀W aV,ai.heap.size<=W->Ext w' aV->(∃Y,ae aV W ep [Y])->R (Γ W) aV)->az x3 (S6 ep true (.tuple #[])) w' R:=λ{w'} {R} ad cJ=>by
  have:=ad.size;exact bt ep.i λW aV aa cK bF=>cJ W aV Ω cK ⟨_,bF⟩
 refine⟨?_,aU (Ext.refl _) λW dg aa bd X=>⟨.inl bd,?_⟩⟩
 rotate_left
 .refine (me (bb.ext bd)).mono ?_;rintro _ dh _ ⟨rfl,bx⟩;obtain⟨Y,X⟩:=X;exact⟨.inl (bd.trans bx),b4 (bd.trans bx) aa ⟨Y,X.ext bx⟩⟩
 refine (me bb).mono ?_;rintro _ di _ ⟨rfl,aH⟩;refine⟨.inl aH,?_,aU aH λW dj aa b5 X=>⟨.inl (aH.trans b5),b4 (aH.trans b5) aa X⟩⟩;refine (tr (hm.ext (bp.trans aH)).ls b3).mono ?_;rintro aD dk _ ⟨cN,_,_,ah⟩;have aL:=aH.trans cN;refine⟨.inl aL,?_,aU aL λW dl aa bz X=>⟨.inl (aL.trans bz),b2 (aL.trans bz) aa X (ah.ext bz).ls⟩⟩;refine (tq (bb.ext aL)).mono ?_;rintro _ dm _ ⟨rfl,bA⟩;have aM:=aL.trans bA;refine⟨.inl aM,?_,aU aM λW dn aa bB X=>⟨.inl (aM.trans bB),b1 (aM.trans bB) aa X ((ah.ext bA).ext bB).ls⟩⟩;refine (Ah (bY.ext aM).ls bH Ω).mono ?_;rintro _ dp _ ⟨b6,o,rfl,am⟩;have aW:=aM.trans b6;have b7:=(ah.ext bA).ext b6;refine⟨?_,aU aW λW dq aa bC X=>⟨.inl (aW.trans bC),bZ (aW.trans bC) aa X (b7.ext bC).ls am⟩⟩;refine (yP b7.ls).mono ?_;rintro _ dr _ ⟨cO,_,_,br⟩;obtain⟨ag,m,rfl,cD,cE,ak⟩:=br I (be _ am.1);obtain⟨aw,ay,ak⟩:=ak.at;rw[aK (v:=Γ ag) rfl,aK (v:=Δ 0) rfl];have bD:=aW.trans cO;refine bt ep.i λW ds aa bE X=>?_;refine⟨.inl (bD.trans bE),?_⟩;have cF:=X.lt;obtain⟨dt,du,t3⟩:=ak.oN;have dv:=aW.size;have dw:=bD.size;refine bj ep.i rfl rfl X (by simp[x1.cells]) λdx b8 dy cP=>?_;exact bW _ _ ⟨W,ag,m,o,aw,ay,rfl,((bX.trans bD).trans bE).then b8 (λr av he=>by have he:r=W:=he;omega),cP,Ω,(ak.ext bE).V b8 (λhe=>by have he:ag=W:=he;omega) (λhe=>by have he:m=W:=he;omega) (λr av he=>by have he:r=W:=he;have:=t3 r av;omega),am⟩
theorem Ai {acc:List ct} {g:ct} (h:∀x∈acc,x.1≠g.1):hf k acc g=acc++[g]:=by
 unfold hf;rw[if_neg];intro hm;obtain⟨x,I,he⟩:=Z5.1 hm;exact h x I he
theorem Jq {acc:List ct} {g h:ct} {i:Nat} (J:hI acc) (hi:acc[i]? =σ h) (he:h.1=g.1):hf k acc g=acc.set i (h.1,dC k h.2 g.2):=by
 have U:=(x4.1 hi).1;unfold hf;rw[if_pos (Z5.2 ⟨h,x6 hi,he⟩)];refine X6 λj=>?_;rw[x8,X5];by_cases I:i=j
 .subst I;rw[hi,Y0,if_pos he,if_pos rfl,if_pos U]
 .rw[if_neg I];cases V:acc[j]? with
  |none=>rfl
  |some y=>
   have:y.1≠g.1:=λW=>I (by
    have h1:(acc.map (·.1))[i]? =σ g.1:=by rw[x8,hi,Y0,he]
    have X:(acc.map (·.1))[j]? =σ g.1:=by rw[x8,V,Y0,W]
    exact i7 J h1 X)
   rw[Y0,if_neg this]
theorem Jr {α β:Type} {f:β->α->β} {b:β} {l:List α} {i:Nat} {x:α} (h:l[i]? =σ x):(l.take (i+1)).foldl f b=f ((l.take i).foldl f b) x:=by
 rw[r9,h,Z9,List.foldl_append];rfl
def lj (w:x2) (k:Int) (sizes:List Int) (x:cv):Prop:=(∃I,aq .i64 ab w I x.sv x.sc)/\ ∃m o D,eh w x.g m (bD sizes x.sc) k o D/\D.length<=4096/\hj (bD sizes x.sc) (hg D o) x.cs
theorem lj.ext {x:cv} (h:lj w k sizes x) (I:Ext w w'):lj w' k sizes x:=by
 obtain⟨⟨J,h1⟩,m,o,D,U,V⟩:=h;exact⟨⟨J,h1.ext I⟩,m,o,D,U.ext I,V⟩
theorem lj.V {x:cv} (h:lj w k sizes x) (Y:af S w w') (W:∀r,S r-> ∃e c,ae w r e c/\e≠eY/\e≠ab):lj w' k sizes x:=by
 obtain⟨⟨ad,h1⟩,m,o,D,ag,ah⟩:=h;obtain⟨sv,gs,U⟩:=ag.at;have aa:∀ {g:Nat} {v:x1} {l:List Int},aq .i64 ab w g v l-> ∀r,leads v r->¬S r:=λhm r ai I=>by
  obtain⟨e,c,J,_,X⟩:=W r I;exact bU hm J (λhe=>X he.symm) ai rfl
 refine⟨⟨ad,bb h1 Y (aa h1)⟩,m,o,D,(U.V Y (λI=>?_) (λI=>?_) (aa U.2.1)).is,ah⟩
 .obtain⟨e,c,J,X,_⟩:=W _ I;have ac:=U.1;unfold ae at ac J;rw[ac] at J;exact X (Obj.cells.inj (Z6 J)).2.1.symm
 .obtain⟨e,c,J,_,_⟩:=W _ I;exact rj J U.2.2.1 rfl
def pi (w:x2) (g:Nat) (v:x1) (k:Int) (sizes:List Int) (L:List cv):Prop:=a6 ej 2 ck w g v L/\ ∀x∈L,lj w k sizes x
theorem pi.ext {g:Nat} {L:List cv} (h:pi w g v k sizes L) (I:Ext w w'):pi w' g v k sizes L:=⟨h.1.ext I,λx J=>(h.2 x J).ext I⟩
def Js (w:x2) (J:Nat) (f:bY):Prop:=∃au I U g L,ae w J cp [bw f.name,Δ f.k,au,I]/\aq .i64 ab w U au f.sizes/\pi w g I f.k f.sizes L/\L.map dE=e1 f
theorem Jt {g ag:Nat} {L:List cv} {X:List Int} (h:eH w g v L) (ak:ae w ag ah [sv]) (I:aI .i64 w sv X):
  aj x3 wO [v,.func (.func wP) #[] #[Γ ag]] w λr w'=>Ext w w'/\((r=Δ (-1)/\ ∀x∈L,x.sc≠X)\/ ∃i:Nat,r=Δ (i:Int)/\ ∃x,L[i]? =σ x/\x.sc=X):=by
 refine aA func211 ?_;rw[dc fm.u h.1];refine bC.range L.length (λi _ U=>Ext w U/\ ∀x∈L.take i,x.sc≠X) h.1.le ⟨Ext.refl _,λc J=>by simp at J⟩ ?_ ?_
 .rintro i _ U k hi ⟨V,Y⟩ al;rw[ao,ad];refine⟨λ_=>?_,λh=>Ω⟩;obtain⟨x,ab⟩:∃x,L[i]? =σ x:=⟨_,y0 hi⟩;rw[rr rfl (h.ext V) ab];show aj x3 wP [iz x,Γ ag] U _;obtain⟨⟨aq,hm⟩,_⟩:=(h.ext V).at ab;refine aA func212 ?_;refine bM λam an au W af=>?_;have af:ae an am cG [x.sv,Γ x.g]:=by
   obtain⟨_,_,_,e⟩:=b0 hm.ls;simp only[iz,ej,e] at af ⊢;exact af
  rw[aa cG.p rfl,ac Ψ (af.cell (o:=0+0) rfl),ac Ψ ((ak.ext (V.trans W)).cell (o:=0) rfl)];refine (kr (hm.ls.ext W) (I.ext (V.trans W))).mono ?_;rintro _ av _ ⟨rfl,ai⟩;rw[ad];refine⟨λhe=>⟨(V.trans W).trans ai,.inr ⟨i,rfl,x,ab,he⟩⟩,λap=>?_⟩;rw[aN];refine al _ _ ⟨(V.trans W).trans ai,λc J=>?_⟩;rw[r9,ab] at J;rcases n9.1 J with J|J
  .exact Y c J
  .simp at J;subst J;exact ap
 .rintro _ U k ⟨V,Y⟩;rw[o9] at Y;rw[ao,ad];exact⟨λh=>Ω,λ_=>⟨V,.inl ⟨rfl,Y⟩⟩⟩
def ek (f:bY) (i:Nat):List ct:=((f.funs.take i).map (gO f.sizes f.k)).foldl (hf f.k) []
theorem Aj {f:bY} (I:eL N f) (i:Nat):(∀g∈ek f i,e3 f.sizes f.k g)/\hI (ek f i)/\(ek f i).length<=i:=by
 have:=tL (sizes:=f.sizes) (k:=f.k) (by have:=I.k.1;omega) (l:=(f.funs.take i).map (gO f.sizes f.k)) (acc:=[]) (λh aH=>by cases aH) List.nodup_nil λg U=>by
  obtain⟨x,V,rfl⟩:=Z5.1 U;exact nE I (T2 V)
 refine⟨this.1,this.2.1,?_⟩;have J:=this.2.2;rw[List.length_nil,u5,V1,o7] at J;exact X0 J (Nat.min_le_left _ _)
theorem tX {f:bY} {i:Nat} {x:cd} (h:f.funs[i]? =σ x):ek f (i+1)=hf f.k (ek f i) (gO f.sizes f.k x):=by
 unfold ek;rw[r9,h,Z9,Z4,List.foldl_append];rfl
theorem Ak (f:bY):ek f f.funs.length=eR f:=by unfold ek eR;rw[o9]
theorem tY {L:List cv} {i:Nat} {x:cv} {D:List ct} (h:L.map dE=D) (I:L[i]? =σ x):dE x∈D:=by rw[<-h];exact Z5.2 ⟨x,x6 I,rfl⟩
def Ju (w:x2) (f:bY) (v:x1) (w':x2):Prop:=Ext w w'/\((¬kB f.funs<=16384/\ ∃e:Int,e≠0/\v= .tuple #[.pointer ν,Δ e])\/ ∃I,v= .tuple #[Γ I,Δ 0]/\Js w' I f)
end Go.Proofs.YtgbkinibgjmodaaGreatDoor
