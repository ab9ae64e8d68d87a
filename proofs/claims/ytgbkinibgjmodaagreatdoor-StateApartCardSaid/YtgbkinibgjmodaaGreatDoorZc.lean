/- own texts, made small by a tool (wip/ holds them as they were written): no statement of the seat. -/
import Derived.Test.YtgbkinibgjmodaaGreatDoorZb
set_option linter.unusedVariables false
set_option linter.unusedSimpArgs false
set_option linter.unnecessarySimpa false
open Array renaming getElem?_eq_some_iff→j6
open Bool renaming not_true→Y1,not_false→X5,eq_iff_iff→V8,or_eq_false_iff→S2
open Decidable renaming not_not→X4
open Go renaming Value→x1,World→x2,TypeId→r9,IntKind→o6,Builtin→l7,Program→W7
open Go.Addr renaming add_mid→U7
open Go.Builtin renaming append_→l9,len_→Y3
open Go.Instr renaming loadAt→x6,fieldAt→x7,storeAt→o5,indexAt→n0,buildSlice→Z7,extract→Z9,sliceAt→W6,alloc→S7
open Go.IntKind renaming i64→Y6
open Go.Proofs.Tryz renaming prog→x3
open Go.Value renaming int→V4
open Int renaming toNat_natCast→j0
open List renaming getElem?_eq_getElem→y0,getElem?_eq_some_iff→x4,mem_of_getElem?→x5,getElem?_map→x8,length_map→u4,getD_eq_getElem?_getD→u5,length_append→u9,take_add_one→r8,length_take→o4,replicate→o7,take_length→o9,mem_append→n9,take_of_length_le→l5,mem_singleton→j4,length_cons→j5,getElem?_append_left→j9,mem_map→Z1,getElem?_append_right→Z2,map_append→Z3,eq_nil_of_length_eq_zero→Z5,getElem?_take_of_lt→Y2,getElem?_eq_none→Y4,mem_iff_getElem?→Y7,append_assoc→X1,length_set→X2,append_nil→X6,getElem?_set→X7,ext_getElem?→X8,length_eq_one_iff→X9,range→W3,getElem?_set_ne→W8,drop_eq_getElem_cons→V0,pairwise_iff_getElem→V2,mem_or_eq_of_mem_set→V7,getElem?_set_self→V9,length_singleton→U2,mem_of_mem_take→U3,set_append_right→U9,mem_cons→T1,map_set→T2,getElem_mem→T6,map_cons→S3
open Nat renaming le_refl→o8,le_trans→Y9,zero_le→X3,sub_self→W9,zero_add→V3,mul_one→T5,add_assoc→S8
open Option renaming isNone_some→Z0,toList_some→Z4,map_some→Y0,map_eq_some_iff→X0,map→U1,getD_some→T4
open Option.some renaming inj→Z8,injEq→Y8
open Prod.mk renaming injEq→T8
set_option maxHeartbeats 16000000
open Option renaming some→σ,none→ν
variable {w w':x2}{N gs j m n:Nat}{I a all l scope sizes szs t:Λ}{c k o y:Int}{S:Nat->Prop}{clean:Bool}{bv df sv v:x1}{cs:List x1}{e:r9}{K:x1->x2->Prop}
namespace Go.Proofs.YtgbkinibgjmodaaGreatDoor
open Go Go.Vc Go.RowKit Go.Proofs Go.Proofs.Tryz
set_option maxRecDepth 100000
theorem Ie {acc:List (Λ×Int)} {ok:Prop} {K:Unit->x2->Prop} (V:jj w m) (ad:ok->jT w m acc/\(∀p∈acc,∀x∈p.1,0<=x)/\(∀x∈t,0<=x)/\t∉acc.map (·.1))
  (W:∀w',ag (λr=>r=m) w w'->jj w' m->(ok->jT w' m (acc++[(t,c)]))->K () w'):
  J x3 (Instr.lookup ga (.map (σ m)) (bz (dM t)) false) w λae=>
  J x3 (aC .add ab false true ae (Δ 1)) w λaf=>
  aA x3 (Instr.mapUpdate ga (.map (σ m)) (bz (dM t)) af) w K:=by
 by_cases X:ok
 .obtain⟨h1,Y,aa,ac⟩:=ad X;rw[zL h1 Y aa,if_neg ac,aN,wrap_i64 Ω Ω];exact Ic (c:=c) h1 Y aa ac λw' U I=>W w' U I.any λ_=>I
 .refine Ia V λah=>?_;rw[aN];exact Ib V λw' U I=>W w' U I λh=>absurd h X
def eW {α:Type} (f:List α->aH->Option (α×aH)) (n:Nat) (acc:List α) (o:Option aH):Option (List α×aH):=o.bind (cD f n acc)
theorem jj.aa (h:jj w m) (I:ag S w w') (J:¬S m):jj w' m:=by
 obtain⟨d,h1,U⟩:=h;exact⟨d,h1.aa I J,U⟩
theorem c7.words {g:Nat} {A:aj} {B:aj} {s:aH} (h:c7 w g gs A B clean (σ s)):s.toks.length<=100000:=by
 have h:c5 w g gs A B s clean:=h;exact h.2.1.words.1
theorem zM {acc:List (Λ×Int)} {st:aH} (U:∀q,eK sizes [] (σ st)=σ q->t=q.1) (I:∀q,a1 0 ax ((eK sizes [] (σ st)).map (·.2))=σ q->c=q.1):
  (a1 0 ax ((eK sizes [] (σ st)).map (·.2))=ν->dz sizes acc st=ν)/\ ∀q,a1 0 ax ((eK sizes [] (σ st)).map (·.2))=σ q->dz sizes acc st=if t∈acc.map (·.1) then ν else σ ((t,c),q.2):=by
 have e:eK sizes [] (σ st)=hG sizes [] st:=rfl;rw[e] at U I ⊢;unfold dz;cases h1:hG sizes [] st with
 |none=>exact⟨λ_=>rfl,λq J=>(by cases J)⟩
 |some q=>
  obtain⟨X,s1⟩:=q;rw[h1] at U I;have:=U _ rfl;subst this;have V:a1 0 ax ((σ (t,s1)).map (·.2))=bb 0 ax s1:=rfl;rw[V] at I ⊢;simp only;cases W:bb 0 ax s1 with
  |none=>exact⟨λ_=>rfl,λq J=>(by cases J)⟩
  |some q=>
   obtain⟨Y,aa⟩:=q;rw[W] at I;have:=I _ rfl;subst this;exact⟨λh=>(by cases h),λq J=>(by cases J;rfl)⟩
theorem If {g:Nat} {A B:aj} {s:Option aH} {Q:x1->x2->Prop}
  (h:c7 w g gs A B clean s) (cc:aJ .i64 w sv sizes) (bk:∀r,leads sv r->¬bw g gs A r/\r<w.heap.size) (cd:∀z∈sizes,1<=z/\z<=ax) (ce:sizes.length<=100001) (cg:eR w) (h1:cq g gs A B 1) (ch:(N:Int)<=ax)
  (bN:∀v w' l,fk w g gs A B clean ((eW (dz sizes) N [] s).map (·.2)) w'->bi (eA w.heap.size) bu w' [v] (show List (Λ×Int) from l)->(∀q,eW (dz sizes) N [] s=σ q->l=q.1)->Q v w'):
  aA x3 (Instr.makeMap ga ν) w λbl V=>
 bE (.slice ν 0 0) (Δ 0) V λout i ad k=>
  bB (α:=x1->x2->Prop) (λ(ci:x1) (aD:x2)=>
   Split ci (aA x3 (S7 dL true (.tuple #[])) aD λx U=>
  J x3 (Y3 #[aw] ab #[sv]) U λcj=>
  bE (.string ⟨#[]⟩) (Δ 0) U λkey bm aF ck=>
   J x3 (aC .lss ab false false bm cj) aF λcl=>
   Split cl (J x3 (n0 aw sv bm) aF λcm=>
   J x3 (x6 ao cm) aF λcn=>
   J x3 (aC .sub ao false true cn (Δ 1)) aF λcp=>
   ak x3 lZ [Γ g,(Δ 0),cp] aF λbP aM=>
   J x3 (Z9 bP 0) aM λbS=>
   J x3 (Z9 bP 1) aM λdJ=>
   J x3 (x7 dL x 0) aM λcr=>
   J x3 (x6 aw cr) aM λct=>
   aA x3 (Z7 aw 1 #[(0,bS)]) aM λcu ai=>
   aA x3 (l9 #[aw,aw] aw #[ct,cu]) ai λcw bT=>
   J x3 (x7 dL x 0) bT λcz=>
   aA x3 (o5 aw cz cw) bT λ(_:Unit) cA=>
   ak x3 tb [bS] cA λcB a2=>
   J x3 (aC .add cP false true cB (.string ⟨#[32]⟩)) a2 λcC=>
   J x3 (aC .add cP false false key cC) a2 λcD=>
   J x3 (aC .add ab false true bm (Δ 1)) a2 λcE=>
   ck cD cE a2)
    (ak x3 lZ [Γ g,(Δ 0),(Δ 4611686018427387904)] aF λbU a6=>
  J x3 (Z9 bU 0) a6 λcF=>
  J x3 (Z9 bU 1) a6 λcG=>
  J x3 (x7 dL x 1) a6 λcH=>
  aA x3 (o5 ao cH cF) a6 λ(_:Unit) cI=>
  bB (α:=x2->Prop) (λ(aG:x2)=>
   J x3 (Instr.lookup ga bl key false) aG λcJ=>
   J x3 (aC .add ab false true cJ (Δ 1)) aG λcK=>
   aA x3 (Instr.mapUpdate ga bl key cK) aG λ(_:Unit) aO=>
   J x3 (x6 dL x) aO λcL=>
   aA x3 (Z7 hy 1 #[(0,cL)]) aO λcM aW=>
   aA x3 (l9 #[hy,hy] hy #[out,cM]) aW λcN a7=>
   J x3 (aC .add ao false true i (Δ 1)) a7 λcO=>
  k cN cO a7) λbV=>
  bB (α:=x1->x2->Prop) (λ(cQ:x1) (ay:x2)=>
   Split cQ (ak x3 l0 [Γ g,(Δ 4),cG] ay λdK bW=>
    bV bW)
    (bV ay)) λbX=>
  ak x3 jE [Γ g] cI λcR aP=>
  Split cR (J x3 (Instr.lookup ga bl key false) aP λcT=>
  J x3 (aC .gtr ab false true cT (Δ 0)) aP λcU=>
  bX cU aP)
   (bX (.bool false) aP)))
    (Q out aD)) λbY=>
  J x3 (aC .lss ao false false i (Δ (N:Int))) ad λcV=>
  Split cV (ak x3 jE [Γ g] ad λcW cX=>
  bY cW cX)
   (bY (.bool false) ad):=by
 obtain⟨dM,dN,dO,cY,a8⟩:=h.side;have ah:∀r,bw g gs A r->r<w.heap.size:=cY;unfold ax at ch;refine rl λW V dP bo bq=>?_;have dQ:=bo.size;have dR:=bq.lt;generalize X:eW (dz sizes) N [] s=bZ at bN;refine⟨λout br ad=>∃ (i:Nat) (acc:List (Λ×Int)) (so:Option aH),br=Δ (i:Int)/\i<=N/\ag (bw g gs A) w ad/\V.heap.size<=ad.heap.size/\bi (eA V.heap.size) bu ad [out] acc/\c7 ad g gs A B clean so/\
   bZ=eW (dz sizes) (N-i) acc so/\jj ad W/\acc.length<=100001/\ ∀st,so=σ st->jT ad W acc/\(∀p∈acc,∀x∈p.1,0<=x)/\acc.length+st.toks.length<=100000,
  λ_ br _=>N-(bO br).toNat,⟨0,[],s,rfl,X3 _,bo.aa _,o8 _,fx,h.ext bo,X.symm,⟨[],bq,λp av=>(by cases av)⟩,Ξ,λst cZ=>⟨bq,λp av=>(by cases av),?_⟩⟩,?_⟩
 .subst cZ;have:=h.words;simpa using this
 rintro out _ ad ⟨i,acc,so,rfl,dS,b0,z9,b1,bt,ba,c0,dT,bx⟩;refine aQ (λv aD=>Ext ad aD/\((v= .bool true/\i<N/\ ∃st,so=σ st)\/(v= .bool false/\(so=ν\/i=N)))) ?_ ?_
 rotate_left
 .intro dU bz;rw[aq,ae];refine⟨λc1=>?_,λdV=>bz _ _ ⟨Ext.refl _,.inr ⟨rfl,.inr Ω⟩⟩⟩;refine (nU bt).mono ?_;rintro _ aD _ ⟨rfl,az⟩;cases so with
  |none=>exact bz _ _ ⟨az,.inr ⟨rfl,.inl rfl⟩⟩
  |some st=>exact bz _ _ ⟨az,.inl ⟨rfl,Ω,st,rfl⟩⟩
 rintro _ aD ⟨az,c2⟩;rcases c2 with⟨rfl,c1,st,rfl⟩|⟨rfl,c3⟩
 rotate_left
 .rw[aS];have b2:bZ=so.map λst=>(acc,st):=by
   rcases c3 with rfl|rfl
   .exact ba
   .rw[W9] at ba;rw[ba];cases so<;>rfl
  refine bN out aD acc (fk.mk (b0.trans (az.aa _)) ?_) (bg (am.mono b1 (λr _ h=>by have h:V.heap.size<=r:=h;show w.heap.size<=r;omega) λ_ _ h=>h) az) (λq al=>?_)
  .rw[b2,Option.map_map];have e:U1 ((λx=>x.2)∘λst=>(acc,st)) so=so:=by cases so<;>rfl
   rw[e];exact bt.ext az
  .rw[b2] at al;cases so with
   |none=>cases al
   |some st=>cases al;rfl
 rw[bQ];obtain⟨bx,bA,dW⟩:=bx st rfl;have dX:=az.size;refine bp dL.i λan U dY b3 b4=>?_;have aX:=az.trans b3;have bC:ag (bw g gs A) w U:=b0.trans (aX.aa _);have b5:aJ .i64 U sv sizes:=iz cc bC λr I a n c c4 c5=>(bk r ⟨a,n,c,c4,c5⟩).1 I;rw[aT aw.u b5];have bb:¬bw g gs A an:=λX=>by have:=ah _ X;omega
 refine H7 (s:=σ st) (bt.ext aX) b5 (λr I=>⟨(bk r I).1,by have:=(bk r I).2;omega⟩) cd ce (cg.aa bC h1.1) h1 b4 bb (λc6=>by have:=a8 _ c6;omega) λt aF aE bc dZ c8 b6 c9 da db dc dd=>?_;have ea:=b3.size;have z12:=b6.size;have eb:=b4.lt;have bD:∀x∈t,0<=x:=λx de=>(c8 x de).1;refine (kJ dc).mono ?_;rintro _ aM _ ⟨bF,c,df,rfl,dg,ec⟩;obtain⟨bd,dh⟩:=bF.of;have ed:=bd.size;rw[aK (v:=Δ c) rfl,aK (v:=Δ df) rfl,ac dL.p rfl];refine bh (g:=an) (o:=1) ao.i rfl rfl (c9.aa bd bb) Ξ λai be ee bG=>?_;have bG:af ai an dL [aE,Δ c]:=bG;have dj:au .i64 ao ai bc aE t:=(da.aa bd (λ_ X=>by have:=ah _ X;omega)).aa be (λ_ he=>by have he:bc=an:=he;omega);have bH:ag (λr=>bw g gs A r\/r=an) U ai:=(b6.trans (bd.mono λr _ h=>.inl h)).trans (be.mono λr _ h=>.inr h);have aI:c7 ai g gs A B clean ((a1 0 ax ((eK sizes [] (σ st)).map (·.2))).map (·.2)):=dh.aa be (λr I he=>by have he:r=an:=he;exact bb (he▸I)) (λr I he=>by have:=a8 r I.2;have he:r=an:=he;omega);have b7:¬(λr=>bw g gs A r\/r=an) W:=λh=>h.elim (λh=>by have:=ah _ h;omega) (λh=>Ω);have dk:jj ai W:=(c0.aa (aX.aa (λ_=>False)) (λh=>h)).aa bH b7;have b8:jT ai W acc:=(cS.ext bx aX).aa bH b7;obtain⟨bI,bJ⟩:=zM (acc:=acc) dd dg;refine di (λaG=>ag (bw g gs A) ai aG/\c7 aG g gs A B clean ((dz sizes acc st).map (·.2))) ?_ ?_
 .rintro aG ⟨aR,dl⟩;have bK:¬bw g gs A W:=λh=>by have:=ah _ h;omega
  have ef:=be.size;have eg:=aR.size;refine Ie (acc:=acc) (t:=t) (c:=c) (ok:=∃q,dz sizes acc st=σ q) (dk.aa aR bK) (λ⟨q,al⟩=>⟨cS.aa b8 aR bK,bA,bD,λaB=>?_⟩) λaO aY dm dn=>?_
  .cases ap:a1 0 ax ((eK sizes [] (σ st)).map (·.2)) with
   |none=>rw[bI ap] at al;cases al
   |some aU=>rw[bJ aU ap,if_pos aB] at al;cases al
  have eh:=aY.size;have dp:af aO an dL [aE,Δ c]:=(bG.aa aR bb).aa aY (λhe=>by have he:an=W:=he;omega);have dq:au .i64 ao aO bc aE t:=(dj.aa aR (λ_ X=>by have:=ah _ X;omega)).aa aY (λ_ he=>by have he:bc=W:=he;omega);rw[bn dL.p dL.i rfl dp.range];have b9:bi (eA U.heap.size) bu aO [aE,Δ c] (t,c):=⟨[aE],[Δ c],eA U.heap.size,bu,rfl,λ_ h=>h,λ_ h=>h.elim,λ_ _ _ h=>h,am.mono (mi dq) (λr _ h=>by subst h;exact db) (λ_ _ h=>h),rfl⟩;refine gN (α:=Λ×Int) (a:=(t,c)) (cs:=[aE,Δ c]) (A:=eA U.heap.size) (R:=bu) hy.u dL.i Φ rfl b9 λu aW aV _ dr=>?_;have z22:=aV.size;have ds:bi (λr=>eA V.heap.size r/\r<U.heap.size/\r≠an) bu U [out] acc:=bg (am.mono (kB b1) (λr _ h=>⟨h.1,by have:=h.2;omega,by have:=h.2;omega⟩) λ_ _ h=>h) aX;have ca:ag (λr=>bw g gs A r\/r=an\/r=W) U aW:=(((bH.mono λr _ h=>h.elim .inl λh=>.inr (.inl h)).trans (aR.mono λr _ h=>.inl h)).trans (aY.mono λr _ h=>.inr (.inr h))).trans (aV.aa _);have dt:=am.aa ds ca λr I h X=>by
   rcases h with h|h
   .have bf:V.heap.size<=r:=h.1;rcases X with X|X|X
    .have:=ah _ X;omega
    .exact h.2.2 X
    .omega
   .exact h
  refine mh (α:=Λ×Int) (a:=(t,c)) (A:=eA U.heap.size) hy.u dL.i rfl dt dr (bg b9 aV) (λr _ h h'=>?_) Ω Ω λei a7 du aZ=>?_
  .rcases h' with h'|h'
   .have:=h.2;have:U.heap.size<=r:=h';omega
   .exact h'
  have ej:=aZ.size;rw[aN,wrap_i64 Ω Ω];have dv:ag (bw g gs A) w aW:=gf bC ca λr I h=>by
   rcases h with h|h|h
   .exact h
   .omega
   .omega
  have dw:ag (bw g gs A) w a7:=gf dv aZ λr I h=>by have bf:V.heap.size<=r:=h.1;omega
  have dx:c7 aW g gs A B clean ((dz sizes acc st).map (·.2)):=(dl.aa aY (λr I he=>by have he:r=W:=he;exact bK (he▸I)) (λr I he=>by have:=a8 r I.2;have he:r=W:=he;omega)).ext aV;have dy:∀r,bw g gs A r->¬(eA V.heap.size r/\r<U.heap.size/\r≠an):=λr I he=>by have:=ah _ I;have bf:V.heap.size<=r:=he.1;omega
  have dA:∀r,cq g gs A B r->¬(eA V.heap.size r/\r<U.heap.size/\r≠an):=λr I he=>by have:=a8 r I.2;have bf:V.heap.size<=r:=he.1;omega
  have cb:¬(eA V.heap.size W/\W<U.heap.size/\W≠an):=λhe=>by have bf:V.heap.size<=W:=he.1;omega
  refine⟨⟨i+1,acc++[(t,c)],(dz sizes acc st).map (·.2),rfl,Ω,dw,Ω,?_,dx.aa aZ dy dA,?_,(dm.aa (aV.aa (λ_=>False)) (λh=>h)).aa aZ cb,Θ,λdC dD=>?_⟩,by simp only[bO];omega⟩
  .refine am.mono du (λr _ h=>?_) λ_ _ h=>h;show V.heap.size<=r;rcases h with h|h|h
   .exact h.1
   .have h:U.heap.size<=r:=h;omega
   .omega
  .rw[ba,show N-i=(N-(i+1))+1 by omega];cases Y:dz sizes acc st with
   |none=>exact nQ Y
   |some q=>
    obtain⟨a,dC⟩:=q;have dE:a=(t,c):=by
     cases ap:a1 0 ax ((eK sizes [] (σ st)).map (·.2)) with
     |none=>rw[bI ap] at Y;cases Y
     |some aU=>
      rw[bJ aU ap] at Y;split at Y
      .cases Y
      .cases Y;rfl
    subst dE;exact rg Y
  .obtain⟨q,al,rfl⟩:=X0.1 dD;have ek:=(nN al).2.2.2.1;refine⟨cS.aa ((cS.ext (dn ⟨q,al⟩) aV)) aZ cb,λp av=>?_,by simp only[u9,U2];omega⟩;rcases n9.1 av with av|av
   .exact bA p av
   .rw[j4.1 av];exact bD
 .intro em bL;cases ap:a1 0 ax ((eK sizes [] (σ st)).map (·.2)) with
  |none=>
   rw[ap] at aI;have Y:=bI ap;refine aQ (λv ay=>Ext ai ay/\v= .bool false) ?_ ?_
   .rintro _ ay ⟨aL,rfl⟩;rw[aS];exact bL _ ⟨aL.aa _,by rw[Y];exact aI.ext aL⟩
   .intro dF bM;refine (nU aI).mono ?_;rintro _ aP _ ⟨rfl,bj⟩;rw[show ((ν:Option (Int×aH)).map (·.2)).isSome=false from rfl,aS];exact bM _ _ ⟨bj,rfl⟩
  |some aU=>
   rw[ap] at aI;have Y:=bJ aU ap;refine aQ (λv ay=>Ext ai ay/\v= .bool (decide (t∈acc.map (·.1)))) ?_ ?_
   .rintro _ ay ⟨aL,rfl⟩;rw[ae];refine⟨λaB=>?_,λdG=>?_⟩
    .refine (H6 (aI.ext aL) Ω).mono ?_;rintro _ bW _ bF;obtain⟨dH,dI⟩:=bF.of;exact bL _ ⟨(aL.aa _).trans dH,by rw[Y,if_pos aB];exact dI⟩
    .exact bL _ ⟨aL.aa _,by rw[Y,if_neg dG];exact aI.ext aL⟩
   .intro dF bM;refine (nU aI).mono ?_;rintro _ aP _ ⟨rfl,bj⟩;rw[show ((σ aU:Option (Int×aH)).map (·.2)).isSome=true from rfl,bQ,zL (cS.ext b8 bj) bA bD,bR];refine bM _ _ ⟨bj,?_⟩;congr 1;by_cases aB:t∈acc.map (·.1)
    .rw[if_pos aB,decide_eq_true aB];rfl
    .rw[if_neg aB,decide_eq_false aB];rfl
theorem zN (sizes:Λ) (s:Option aH):hN sizes s=match a1 (-ax) ax s with
 |none=>ν
 |some (n,s)=>
  if n<0 then match s.shared[(-n-1).toNat]? with
   |none=>ν
   |some (z,l)=>if z=sizes then σ (l,s) else ν
  else cD (dz sizes) n.toNat [] (iG n s):=by
 cases s with
 |none=>rfl
 |some s=>
  show dA sizes s=_;unfold dA;show _=match bb (-ax) ax s with
   |none=>ν
   |some (n,s)=>
    if n<0 then match s.shared[(-n-1).toNat]? with
     |none=>ν
     |some (z,l)=>if z=sizes then σ (l,s) else ν
    else cD (dz sizes) n.toNat [] (iG n s)
  cases bb (-ax) ax s<;>rfl
theorem zO {m:Bool} {S R:aj} {a:hK} (h:am.rep (α:=hK) m S R w cs a):∃u v,cs=[u,v]/\am.rep (α:=Λ) false bu R w [u] a.1/\am.rep (α:=List (Λ×Int)) false bu R w [v] a.2:=by
 obtain⟨c,d,J,U,rfl,_,_,_,h1,I⟩:=h;have h1:am.rep (α:=Λ) false bu R w c a.1:=h1;have I:am.rep (α:=List (Λ×Int)) false bu R w d a.2:=I;obtain⟨u,rfl⟩:=X9.1 (show c.length=1 from am.len h1);obtain⟨v,rfl⟩:=X9.1 (show d.length=1 from am.len I);exact⟨u,v,rfl,h1,I⟩
theorem Ig {g:Nat} {A B:aj} {s:Option aH}
  (h:c7 w g gs A B clean s) (hi:∀t,s=σ t->dB t) (aV:aJ .i64 w sv sizes) (am:∀r,leads sv r->¬bw g gs A r/\r<w.heap.size) (aW:∀z∈sizes,1<=z/\z<=ax) (aX:sizes.length<=100001) (aY:eR w) (h1:cq g gs A B 1):
  ak x3 Et [Γ g,sv] w λv w'=>fk w g gs A B clean ((hN sizes s).map (·.2)) w'/\ ∃l,Seen (λr=>cq g gs A B r\/w.heap.size<=r) w' [v] (show List (Λ×Int) from l)/\ ∀q,hN sizes s=σ q->l=q.1:=by
 have aZ:=h.side;obtain⟨bB,bC,bD,a2,bE⟩:=id aZ;have ah:∀r,bw g gs A r->r<w.heap.size:=a2;refine aB func201 ?_;refine (kJ (lo:=-ax) (hi:=ax) h).mono ?_;rintro _ U _ ⟨a6,n,at_,rfl,aw,a7⟩;obtain⟨an,aL⟩:=a6.of;have bF:=an.size;have J:=zN sizes s;rw[aK (v:=Δ n) rfl,aK (v:=Δ at_) rfl];have aM:aJ .i64 U sv sizes:=iz aV an λr Y a n c ao az=>(am r ⟨a,n,c,ao,az⟩).1 Y;have bG:∀r,leads sv r->¬bw g gs A r/\r<U.heap.size:=λr Y=>⟨(am r Y).1,by have:=(am r Y).2;omega⟩;have rest:∀V,Ext U V->(∀q,a1 (-ax) ax s=σ q->¬n<0)-> ∀N:Nat,n=(N:Int)->(N:Int)<=ax-> ∀X,ag (bw g gs A) V X->c7 X g gs A B clean (((a1 (-ax) ax s).map (·.2)).map (iG n))->
   ∀v w' l,fk X g gs A B clean ((eW (dz sizes) N [] (((a1 (-ax) ax s).map (·.2)).map (iG n))).map (·.2)) w'->bi (eA X.heap.size) bu w' [v] (show List (Λ×Int) from l)->(∀q,eW (dz sizes) N [] (((a1 (-ax) ax s).map (·.2)).map (iG n))=σ q->l=q.1)->
   fk w g gs A B clean ((hN sizes s).map (·.2)) w'/\ ∃l,Seen (λr=>cq g gs A B r\/w.heap.size<=r) w' [v] (show List (Λ×Int) from l)/\ ∀q,hN sizes s=σ q->l=q.1:=by
  intro V W ap N aA aC X af aD v w' l a8 ba bb;obtain⟨bc,bd⟩:=a8.of;have be:=W.size;have z3:=af.size;have e:hN sizes s=eW (dz sizes) N [] (((a1 (-ax) ax s).map (·.2)).map (iG n)):=by
   rw[J];cases I:a1 (-ax) ax s with
   |none=>rfl
   |some q=>
    obtain⟨bh,s1⟩:=q;have:=aw _ I;subst this;simp only;rw[if_neg (ap _ I),aA,j0];rfl
  rw[e];refine⟨fk.mk (((an.trans (W.aa _)).trans af).trans bc) bd,l,oO ba λr _ h=>?_,bb⟩;rcases h with h|h
  .have h:X.heap.size<=r:=h;exact .inr Ω
  .exact h.elim
 refine aQ (λv V=>Ext U V/\v= .bool (decide (n<0/\(a1 (-ax) ax s).isSome=true))) ?_ ?_
 rotate_left
 .intro bj av;refine (nU aL).mono ?_;rintro _ V _ ⟨rfl,W⟩;cases I:a1 (-ax) ax s with
  |none=>
   rw[show ((ν:Option (Int×aH)).map (·.2)).isSome=false from rfl,aS];exact av _ _ ⟨W,by rw[decide_eq_false];rintro⟨_,h⟩;rw[I] at h;cases h⟩
  |some q=>
   rw[show ((σ q:Option (Int×aH)).map (·.2)).isSome=true from rfl,bQ,aq];exact av _ _ ⟨W,by congr 1;rw[V8,decide_eq_true_eq,decide_eq_true_eq,I];exact⟨λh=>⟨h,rfl⟩,λh=>h.1⟩⟩
 rintro _ V ⟨W,rfl⟩;have ai:=aL.ext W;have be:=W.size;rw[ae];refine⟨λap=>?_,λbk=>?_⟩
 rotate_left
 .have ap:∀q,a1 (-ax) ax s=σ q->¬n<0:=λq I h=>bk ⟨h,by rw[I];rfl⟩;obtain⟨N,aA,aC⟩:∃N:Nat,n=(N:Int)/\(N:Int)<=ax:=by
   cases I:a1 (-ax) ax s with
   |none=>rw[a7 I];exact⟨0,rfl,by unfold ax;omega⟩
   |some q=>
    have h1:=ap q I;have bl:=lz (n:=q.1) (s':=q.2) I;have bm:=aw q I;exact⟨n.toNat,Ω,Ω⟩
  refine H9 (at_:=at_) ai (λt bn=>?_) λX af aD=>?_
  .obtain⟨q,I,rfl⟩:=X0.1 bn;have bl:=lz (n:=q.1) (s':=q.2) I;have bm:=aw q I;refine⟨Ω,Ω,?_⟩;cases s with
   |none=>cases I
   |some s0=>
    have aN:=(dl (n:=q.1) (s':=q.2) I).eqs;have aO:=hi s0 rfl;intro aP;rw[aN.1];rw[aN.2.1] at aP;exact aO aP
  .have z3:=af.size;have bo:ag (bw g gs A) w X:=(an.trans (W.aa _)).trans af;subst aA;refine If (N:=N) aD ((iz (aM.ext W) af λr Y a n c ao az=>(am r ⟨a,n,c,ao,az⟩).1 Y)) (λr Y=>⟨(am r Y).1,by have:=(am r Y).2;omega⟩) aW aX (aY.aa bo h1.1) h1 aC λv w' l a b c=>?_;exact rest V W ap N rfl aC X af aD v w' l a b c
 .obtain⟨bp,bq⟩:=ap;obtain⟨⟨bh,s1⟩,I⟩:=Option.isSome_iff_exists.1 bq;have:=aw _ I;subst this;have bH:=lz I;rw[I] at J ai;simp only at J;rw[if_pos bp] at J;have ai:c5 V g gs A B s1 clean:=ai;obtain⟨_,aO,bI,big,bJ,bK,told,bL,aE,bM,aF⟩:=id ai;have bN:ax=4611686018427387904:=rfl;refine aQ (λv X=>Ext V X/\v= .bool (decide (hN sizes s=ν))) ?_ ?_
  .rintro _ X ⟨ab,rfl⟩;rw[ae];refine⟨λbr=>?_,λaR=>?_⟩
   .refine (ra (ai.ext ab) Ω).mono ?_;rintro _ bO _ ⟨bt,bx⟩;rw[br];refine⟨fk.mk (((an.trans (W.aa _)).trans (ab.aa _)).trans (bt.mono λr _ h=>.inl h)) bx,[],fx,λq I=>by cases I⟩
   .cases au:s1.shared[(-n-1).toNat]? with
    |none=>rw[au] at J;exact absurd J aR
    |some q=>
     obtain⟨z,l⟩:=q;rw[au] at J;simp only at J;have bz:z=sizes:=by
      by_cases al:z=sizes
      .exact al
      .rw[if_neg al] at J;exact absurd J aR
     rw[if_pos bz] at J;rw[ay,ac b6.p rfl,ad Ψ ((aE.ext ab).Q6 rfl),kw,wrap_i64 Ω Ω,c3,wrap_i64 Ω Ω];refine jL (α:=hK) (m:=true) (S:=A) (R:=cq g gs A B) (i:=(-n-1).toNat) (a:=(z,l)) Ω gu.u iu.i (bg aF ab) au λb o cs aG aI=>?_;obtain⟨u,v,rfl,hu,ao⟩:=zO aI;rw[ac iu.p rfl,ad Ψ (aG 1 v rfl)];rw[J];refine⟨fk.mk ((an.trans (W.aa _)).trans (ab.aa _)) (ai.ext ab),l,oO ao λr _ h=>?_,λq I=>by cases I;rfl⟩;rcases h with h|h
     .exact h.elim
     .exact .inl h
  .intro bj av;rw[kw,wrap_i64 Ω Ω,ay,ac b6.p rfl,ad Ψ (aE.Q6 rfl),eP gu.u aF,bR,ae];refine⟨λaT=>av _ _ ⟨Ext.refl _,?_⟩,λaU=>?_⟩
   .have aT:(s1.shared.length:Int)<0-n:=aT;rw[Y4 Ω] at J;rw[decide_eq_true J]
   .have aU:¬(s1.shared.length:Int)<0-n:=aU;have bA:(-n-1).toNat<s1.shared.length:=Ω
    obtain⟨⟨z,l⟩,au⟩:∃q,s1.shared[(-n-1).toNat]? =σ q:=⟨_,y0 bA⟩;rw[ay,ac b6.p rfl,ad Ψ (aE.Q6 rfl),kw,wrap_i64 Ω Ω,c3,wrap_i64 Ω Ω];refine jL (α:=hK) (m:=true) (S:=A) (R:=cq g gs A B) (i:=(-n-1).toNat) (a:=(z,l)) Ω gu.u iu.i aF au λb o cs aG aI=>?_;obtain⟨u,v,rfl,hu,ao⟩:=zO aI;rw[ac iu.p rfl,ad Ψ (aG 0 u rfl)];refine (xN (dZ hu) (aM.ext W)).mono ?_;rintro _ X _ ⟨rfl,ab⟩;rw[bf];refine av _ _ ⟨ab,?_⟩;rw[au] at J;simp only at J;by_cases al:z=sizes
    .rw[if_pos al] at J;rw[decide_eq_true al,decide_eq_false (by rw[J];simp)];rfl
    .rw[if_neg al] at J;rw[decide_eq_false al,decide_eq_true J];rfl
abbrev nV (n:Nat):aj:=λr=>r<n
def po (n:Int) (k:Nat) (s:Option aH):Option (Λ×aH):=s.bind (eI n k)
theorem Ih {g k:Nat} {A B:aj} {s:Option aH} {m:Int} (h:c7 w g gs A B clean s) (W:k<=4611686018427387904) (hm:0<=m/\m<=1000000):
  ak x3 xf [Γ g,Δ (k:Int),Δ m] w λv w'=>fk w g gs A B clean ((po m k s).map (·.2)) w'/\
   ∃X l,au .i64 ao w' X v l/\(∀r,leads v r->w.heap.size<=r)/\l.length<=100001/\ ∀q,po m k s=σ q->l=q.1:=by
 cases s with
 |some s=>exact G5 (s:=s) h W hm
 |none=>
  have h:eg w g gs A B:=h;refine aB func199 ?_;refine⟨λout Y U=>w=U/\out= .slice ν 0 0/\Y=Δ 0,λ_ _ _=>0,⟨rfl,rfl,rfl⟩,?_⟩;rintro _ _ _ ⟨rfl,rfl,rfl⟩;refine aQ (λv V=>Ext w V/\v= .bool false) ?_ ?_
  .rintro _ V ⟨I,rfl⟩;rw[aS];exact⟨fk.mk (I.aa _) (h.ext I),0,[],au.nil _ _ _ _,λr ab=>absurd ab (λh=>by obtain⟨a,n,c,h,_⟩:=h;cases h),Ξ,λq ac=>by cases ac⟩
  .intro ad J;rw[aq,ae];refine⟨λ_=>?_,λ_=>J _ _ ⟨Ext.refl _,rfl⟩⟩;refine (mw h).mono ?_;rintro _ V _ ⟨rfl,I⟩;exact J _ _ ⟨I,rfl⟩
def rx (z:Λ) (l:List (Λ×Int)) (s:aH):aH:={s with shared:=s.shared++[(z,l)]}
def zP (w:x2) (g gs:Nat):Prop:=∃ (e big I J told:Int) (sv:x1),af w g b6 (e5 gs e big I J told sv)/\e≠0
def gi (w:x2) (g gs:Nat) (A:aj) (B:aj) (clean:Bool) (s:Option aH):Prop:=match s with
 |some s=>c5 w g gs A B s clean
 |none=>zP w g gs
theorem c7.q {g:Nat} {A:aj} {B:aj} {s:Option aH} (h:c7 w g gs A B clean s):gi w g gs A B clean s:=by
 cases s with
 |some s=>exact h
 |none=>
  obtain⟨_,e,big,I,J,told,sv,l,U,V,_⟩:=h;exact⟨e,big,I,J,told,sv,U,V.1⟩
theorem gi.aa {g:Nat} {A:aj} {B:aj} {s:Option aH} (h:gi w g gs A B clean s) (I:ag S w w') (U:¬S g) (V:∀r,bw g gs A r->r<w.heap.size->¬S r) (W:∀r,cq g gs A B r->¬S r):gi w' g gs A B clean s:=by
 cases s with
 |some s=>
  have h:c5 w g gs A B s clean:=h;exact c5.aa h I (λr J=>V r J (h.1.2.2.2.1 r J)) W
 |none=>
  obtain⟨e,big,X,Y,told,sv,ab,ac⟩:=h;exact⟨e,big,X,Y,told,sv,ab.aa I U,ac⟩
theorem gi.ext {g:Nat} {A:aj} {B:aj} {s:Option aH} (h:gi w g gs A B clean s) (I:Ext w w'):gi w' g gs A B clean s:=h.aa (I.aa λ_=>False) (λh=>h) (λ_ _ _ h=>h) (λ_ _ h=>h)
theorem zQ {g:Nat} {A:aj} {B:aj} {s:Option aH} (h:gi w g gs A B clean s):ak x3 jE [Γ g] w λv w'=>v= .bool s.isSome/\Ext w w':=by
 cases s with
 |none=>
  obtain⟨e,big,W,X,told,sv,I,J⟩:=h;refine (tO I).mono ?_;rintro _ U _ ⟨rfl,V⟩;exact⟨by rw[decide_eq_false J];rfl,V⟩
 |some s=>exact nP h
theorem gz.a7 {g:Nat} {R R':Nat->Prop} {toks:List (Λ)} (h:gz w g R toks clean) (J:ag S w w') (V:¬S g) (W:∀r,R r->¬S r) (X:∀r,R r->R' r):gz w' g R' toks clean:=by
 obtain⟨Y,p,a,⟨h1,ab,ac,ad,ae,af⟩,U,ah⟩:=h;exact⟨Y,p,a,⟨h1,ab,ac,ad.aa J V,ae,bc af J λr I=>W r (U r I)⟩,λr I=>X r (U r I),ah⟩
theorem kK {α:Type} [am α] {m:Bool} {S R:aj} {l:List α} (h:am.rep m S R w [v] l):∃a n c,v= .slice a n c:=by
 obtain⟨vs,J,F,U,he,I,hm⟩:=gb h;obtain⟨V,b,o,base,cap,rfl,_⟩:=I;exact⟨_,_,_,rfl⟩
def jU (w:x2) (g gs:Nat) (A:aj) (B:aj) (R:aj) (clean:Bool) (s:Option aH):Prop:=match s with
 |some s=>jQ w g gs A B/\gz w gs R s.toks clean/\(0<=s.told/\s.told<=ax/\s.shared.length+s.toks.length<=100000)/\
  ∃big I J told sv,af w g b6 (e5 gs 0 big I J told sv)/\((s.big=true↔big≠0)/\(s.big=false->told=s.told))/\bi A R w [sv] (show List hK from s.shared)
 |none=>zP w g gs
theorem jU.aa {g:Nat} {A R:aj} {B:aj} {s:Option aH} (h:jU w g gs A B R clean s) (I:ag S w w') (X:¬S g) (Y:∀r,bw g gs A r->r<w.heap.size->¬S r) (ab:∀r,R r->¬S r):jU w' g gs A B R clean s:=by
 cases s with
 |some s=>
  obtain⟨h1,ac,ad,big,J,U,told,sv,V,W,ae⟩:=h;have af:=h1.2.2.2.1;exact⟨h1.aa I,ac.aa I (Y gs (.inr (.inl rfl)) (af _ (.inr (.inl rfl)))) ab,ad,big,J,U,told,sv,V.aa I X,W,am.aa ae I λr ah h=>h.elim (λh=>Y r (.inr (.inr h)) ah) (ab r)⟩
 |none=>
  obtain⟨e,big,J,U,told,sv,V,W⟩:=h;exact⟨e,big,J,U,told,sv,V.aa I X,W⟩
theorem jU.out {g:Nat} {A R B I:aj} {s:Option aH} (h:jU w g gs A B R clean s) (J:∀r,R r->cq g gs A I r) (U:∀r,I r->r<w.heap.size):gi w g gs A I clean s:=by
 cases s with
 |some s=>
  obtain⟨⟨V,W,X,Y,an⟩,⟨aa,p,a,ab,ac,ad⟩,ae,big,af,ag,told,sv,ah,ai,ak⟩:=h;exact⟨⟨V,W,X,Y,U⟩,⟨aa,p,a,ab,λr al=>J r (ac r al),ad⟩,ae,big,af,ag,told,sv,ah,ai,am.mono ak (λ_ _ h=>h) λr _ h=>J r h⟩
 |none=>exact h
theorem c7.qr {g:Nat} {A R:aj} {B:aj} {s:Option aH} (h:c7 w g gs A B clean s) (W:∀r,cq g gs A B r->R r):jU w g gs A B R clean s:=by
 cases s with
 |some s=>
  obtain⟨h1,⟨X,p,a,Y,aa,ab⟩,ac,big,I,J,told,sv,U,V,ad⟩:=h;exact⟨h1,⟨X,p,a,Y,λr ae=>W r (aa r ae),ab⟩,ac,big,I,J,told,sv,U,V,am.mono ad (λ_ _ h=>h) λr _ h=>W r h⟩
 |none=>
  obtain⟨_,e,big,I,J,told,sv,l,U,V,_⟩:=h;exact⟨e,big,I,J,told,sv,U,V.1⟩
theorem Ii {g au:Nat} {A B R:aj} {s:Option aH} {az aW u:x1} {z:Λ} {l:List (Λ×Int)} {K:x2->Prop} (h:c7 w g gs A B clean s) (av:∀r,cq g gs A B r->R r) (aL:∀r,R r->cq g gs A (nV w.heap.size) r)
  (aM:∀t,s=σ t->t.shared.length+1+t.toks.length<=100000) (aN:af w au b1 [az,u,aW,v])
  (hu:am.rep (α:=Λ) false bu R w [u] z) (aO:am.rep (α:=List (Λ×Int)) false bu R w [v] l)
  (aX:∀w' X,ag (bw g gs A) w w'->(∀r,X r->A r\/w.heap.size<=r)->jU w' g gs X (nV w.heap.size) R clean (s.map (rx z l))->K w'):
  J x3 (aY (Γ g)) w λax=>
  J x3 (x7 b6 ax 3) w λaB=>
  J x3 (x6 gu aB) w λaP=>
  J x3 (x7 b1 (Γ au) 1) w λt76=>
  J x3 (x6 aw t76) w λt77=>
  J x3 (x7 b1 (Γ au) 3) w λaZ=>
  J x3 (x6 hy aZ) w λa1=>
  J x3 (Instr.build iu #[(0,t77),(1,a1)]) w λa2=>
  aA x3 (Z7 gu 1 #[(0,a2)]) w λa6 ak=>
   (Ext w ak\/bl x3 (x6 gu aB) aP ak/\bl x3 (x7 b6 ax 3) aB ak/\bl x3 (aY (Γ g)) ax ak/\True)/\
   aA x3 (l9 #[gu,gu] gu #[aP,a6]) ak λa8 aC=>
    J x3 (aY (Γ g)) aC λba=>
    J x3 (x7 b6 ba 3) aC λbb=>
    aA x3 (o5 gu bb a8) aC λ(_:Unit) bc=>K bc:=by
 obtain⟨bd,e,big,Y,ab,told,sv,an,ae,ao,br,be⟩:jQ w g gs A B/\ ∃e big Y ab told sv,∃an:List hK,af w g b6 (e5 gs e big Y ab told sv)/\bi A R w [sv] an/\an.length<=100000/\
   ∀w' X ah,jQ w' g gs X (nV w.heap.size)->ag (λr=>A r\/r=g) w w'->af w' g b6 (e5 gs e big Y ab told ah)->bi X R w' [ah] (an++[((z,l):hK)])->jU w' g gs X (nV w.heap.size) R clean (s.map (rx z l)):=by
  cases s with
  |none=>
   obtain⟨h1,e,big,Y,ab,told,sv,l',aD,ap,aE⟩:=h;exact⟨h1,e,big,Y,ab,told,sv,l',aD,am.mono aE (λ_ _ h=>h) λr _ h=>av r h,ap.2,λw' X ah I _ ae ao=>⟨e,big,Y,ab,told,ah,ae,ap.1⟩⟩
  |some s=>
   obtain⟨h1,bf,aQ,big,Y,ab,told,sv,aD,ap,aE⟩:=h;have aM:=aM s rfl;refine⟨h1,0,big,Y,ab,told,sv,s.shared,aD,am.mono aE (λ_ _ h=>h) λr _ h=>av r h,(show s.shared.length<=100000 by omega),λw' X ah I bj ae ao=>⟨I,?_,⟨aQ.1,aQ.2.1,?_⟩,big,Y,ab,told,ah,ae,ap,ao⟩⟩
   .exact gz.a7 bf bj (λhe=>he.elim h1.2.2.1 λh=>h1.1 h.symm) (λr W he=>he.elim (λh=>W.1 (.inr (.inr h))) λh=>W.1 (.inl h)) av
   .show (s.shared++[(z,l)]).length+s.toks.length<=100000;simp;omega
 obtain⟨bk,aF,bm,aR,bt⟩:=id bd;rw[ay,ac b6.p rfl,ad Ψ (ae.Q6 rfl),ac b1.p rfl,ad Ψ (aN.Q1 rfl),ac b1.p rfl,ad Ψ (aN.Q3 rfl)];rw[cW (cs:=#[u,v]) (by obtain⟨_,_,_,rfl⟩:=kK hu;obtain⟨_,_,_,rfl⟩:=kK aO;kernel_rfl)];have aS:bi (λ_=>False) R w [u,v] ((z,l):hK):=⟨[u],[v],bu,bu,rfl,λ_ h=>h,λ_ h=>h,λ_ _ h _=>h,hu,aO⟩;refine gN (α:=hK) (a:=(z,l)) (cs:=[u,v]) (A:=λ_=>False) (R:=R) gu.u iu.i Φ rfl aS λx U ai _ bn=>?_;have bx:=ai.size;refine⟨.inl ai,?_⟩;refine mh (α:=hK) (a:=(z,l)) (A:=λ_=>False) (R:=R) gu.u iu.i rfl (bg ao ai) bn (bg aS ai) (λr _ bo al=>?_) Ω Ω λaT V aG aJ=>?_
 .rcases al with al|al
  .exact al
  .exact (aL r al).1 (.inr (.inr bo))
 have bz:=aJ.size;have bp:=(ae.ext ai).aa aJ aF;rw[ay,ac b6.p rfl];refine bh (g:=g) (o:=6) gu.i (jK aG) (gd aG) bp (by simp[e5]) λaq aU bA aK=>?_;have aK:af aq g b6 (e5 gs e big Y ab told aT):=aK;have aV:ag (λr=>A r\/r=g) w aq:=((ai.aa _).trans (aJ.mono λr _ h=>.inl h)).trans (aU.mono λr _ h=>.inr h);let X:aj:=λr=>(A r\/w.heap.size<=r)/\r<V.heap.size;have bB:g<w.heap.size:=aR g (.inl rfl);have bC:gs<w.heap.size:=aR gs (.inr (.inl rfl));have bq:=am.mono (S':=X) (R':=R) aG (λr W h=>⟨h.elim .inl λh=>h.elim False.elim λh=>.inr Ω,W⟩) (λr W h=>h);refine aX aq X (aV.mono λr _ h=>h.elim (λh=>.inr (.inr h)) .inl) (λr W=>W.1) (be aq X aT ⟨bk,λh=>h.1.elim aF λh=>Ω,λh=>h.1.elim bm λh=>Ω,λr W=>?_,?_⟩ aV aK (am.aa bq aU λr W aI he=>?_))
 .rcases W with rfl|rfl|W
  .omega
  .omega
  .have:=W.2;omega
 .intro r W;have W:r<w.heap.size:=W;omega
 .have he:r=g:=he;subst he;rcases aI with aI|aI
  .exact aI.1.elim aF λh=>Ω
  .exact (aL _ aI).1 (.inl rfl)
theorem Ij {I:Nat} {az ak:x1} {aG:x2->Prop} (aH:af w I b1 [az,.slice ν 0 0,Δ 0,.slice ν 0 0]) (aI:aJ .i64 w az scope) (aT:∀r,leads az r->r≠I)
  (aU:aJ .i64 w ak all) (aV:∀r,leads ak r->r≠I) (aX:∀v∈scope,0<=v/\v<all.length) (bm:scope.length<=100001)
  (aY:∀w' av W,ag (λr=>r=I) w w'->af w' I b1 [az,av,Δ 0,.slice ν 0 0]->au .i64 ao w' W av (scope.map λv=>all.getD v.toNat 0)->w.heap.size<=W->aG w'):
 bP (Δ 0) w λax ai k=>
  J x3 (aC .lss ab false false ax (Δ (scope.length:Int))) ai λaZ=>
  Split aZ (J x3 (n0 aw az ax) ai λa1=>
  J x3 (x6 ao a1) ai λa2=>
  cm ai λX=>
  J x3 (x7 b1 (Γ I) 1) X λt39=>
  J x3 (x6 aw t39) X λaK=>
  J x3 (n0 aw ak a2) X λa6=>
  J x3 (x6 ao a6) X λa7=>
  aA x3 (Z7 aw 1 #[(0,a7)]) X λt45 al=>
   (Ext X al\/bl x3 (x6 aw t39) aK al/\bl x3 (x7 b1 (Γ I) 1) t39 al/\True)/\
  aA x3 (l9 #[aw,aw] aw #[aK,t45]) al λt46 aL=>
   J x3 (x7 b1 (Γ I) 1) aL λa8=>
   aA x3 (o5 aw a8 t46) aL λ(_:Unit) aM=>
    J x3 (aC .add ab false true ax (Δ 1)) aM λba=>
  k ba aM) (aG ai):=by
 have bn:=aH.lt;refine bP.range scope.length (λi U=>ag (λr=>r=I) w U/\ ∃av W,af U I b1 [az,av,Δ 0,.slice ν 0 0]/\au .i64 ao U W av ((scope.take i).map λv=>all.getD v.toNat 0)/\w.heap.size<=W) aI.le ⟨ag.refl _ _,_,w.heap.size,aH,au.nil _ _ _ _,o8 _⟩ ?_ ?_
 rotate_left
 .rintro U bb ⟨Y,av,W,am,an,aO⟩;rw[o9] at an;rw[aq,ae];exact⟨λh=>Ω,λ_=>aY U av W Y am an aO⟩
 rintro i U bb hi ⟨Y,av,W,am,an,aO⟩ bc;obtain⟨v,ay⟩:∃v,scope[i]? =σ v:=⟨_,y0 hi⟩;have bo:=aX v (x5 ay);have be:all[v.toNat]? =σ (all.getD v.toNat 0):=by
  rw[u5,y0 Ω];rfl
 have bf:aJ .i64 U az scope:=iz aI Y λr ap a n c aB aD=>aT r ⟨a,n,c,aB,aD⟩ ap;have bg:aJ .i64 U ak all:=iz aU Y λr ap a n c aB aD=>aV r ⟨a,n,c,aB,aD⟩ ap;refine Υ λ_=>?_;rw[bd aw.u ao.i Ψ bf ay];intro V ah _ _;have bp:=Y.size;have bq:=ah.size;rw[ac b1.p rfl,ad Ψ ((am.ext ah).Q1 rfl)];rw[dY (y:=v) (i:=v.toNat) Ω aw.u ao.i Ψ (bg.ext ah) be];refine dx aw.u ao.i rfl λa aW br bt aj bi=>?_;refine⟨.inl aj,?_⟩;have z3:=aj.size;refine hD aw.u ao.i rfl ((an.ext ah).ext aj) bi.ls Θ Θ λaP aQ bu bw aE aR=>?_;rw[ac b1.p rfl];have bj:=((am.ext ah).ext aj).aa aR (λhe=>by have he:I=W:=he;omega);refine bh (g:=I) (o:=1) aw.i aE.ls.cells.1 aE.ls.cells.2 bj Ξ λbk aS bx aF=>?_;have aF:af bk I b1 [az,aP,Δ 0,.slice ν 0 0]:=aF;rw[aN];refine bc _ ⟨(gf (Y.trans ((ah.trans aj).aa _)) aR λr ap he=>by have he:r=W:=he;omega).trans aS,aP,aQ,aF,?_,Ω⟩;rw[r8,ay,Z4,Z3];exact aE.aa aS (λ_ he=>by have he:aQ=I:=he;omega)
abbrev gC:Type:=Rd (Λ)×Rd (Λ)×Int×Rd (List (Λ×Int))
def gj (f:cg):gC:=(f.scope,f.sizes,f.other,f.lines)
theorem zR {R:aj} {az av bY:x1} {sc:Λ} {l:List (Λ×Int)} (h1:am.rep (α:=Λ) false bu R w [az] sc) (J:am.rep (α:=Λ) false bu R w [av] I) (U:am.rep (α:=List (Λ×Int)) false bu R w [bY] l):
  Seen R w [az,av,Δ o,bY] ((sc,I,o,l):gC):=
 ⟨[az],[av,Δ o,bY],bu,bu,rfl,λ_ h=>h,λ_ h=>h,λ_ _ h _=>h,h1,[av],[Δ o,bY],bu,bu,rfl,λ_ h=>h,λ_ h=>h,λ_ _ h _=>h,J,[Δ o],[bY],bu,bu,rfl,λ_ h=>h,λ_ h=>h,λ_ _ h _=>h,rfl,U⟩
theorem kL {R:aj} {g:Nat} (h:au .i64 e w g v l) (W:∀r,leads v r->R r):am.rep (α:=Λ) false bu R w [v] l:=by
 have h1:bi (λr=>r=g) bu w [v] l:=mi h;obtain⟨vs,X,F,af,he,I,hm⟩:=gb h1;refine⟨v,rfl,vs,X,λ_ _=>False,⟨λ_ _ h=>h,λh=>(by cases h),λh=>by cases h⟩,⟨he.1,λi c a Y aa=>?_⟩,?_,λh=>by cases h⟩
 .exact he.2 i c a Y aa
 .obtain⟨J,b,o,base,cap,rfl,ab,ac,U,ag,ad⟩:=I;refine⟨J,b,o,base,cap,rfl,ab,ac,U,λV=>.inr (W b ?_),ad⟩;have ae:0<l.length:=by
   rw[J] at V;rcases Nat.eq_zero_or_pos l.length with h|h
   .rw[h,Nat.zero_mul] at V;omega
   .exact h
  exact⟨⟨b,o,ν⟩,l.length,cap,by rw[U ae],rfl⟩
theorem zS {α:Type} [am α] {R R':aj} {a:α} (h:Seen R w cs a) (I:∀r,r<w.heap.size->R r->R' r):Seen R' w cs a:=am.mono h (λ_ _ h=>h) I
theorem zT {V I:Nat} (U:cs.length=4) (h1:∀v∈cs,v.oneCell'=true) (Y:af w V b1 cs) {W:List x1} (aa:W.length=4) (ab:af w I b1 W)
  (ac:∀w',ag (λr=>r=I) w w'->K (.agg cs.toArray) w'):
  J x3 (x6 b1 (Γ V)) w λad=>
  aA x3 (o5 b1 (Γ I) ad) w λ(_:Unit) X=>
  J x3 (do loadVar b1 (<-asAddr (Γ I))) X λae=>K ae X:=by
 rw[bn b1.p b1.i U Y.range];refine bH b1.i U aa h1 ab λw' ah _ ai=>?_;rw[eO b1.p b1.i U ai.range];exact ac w' ah
theorem zU {s s':aH} {l:List (Λ×Int)} (h:dA sizes s=σ (l,s')):s'.shared=s.shared/\s'.toks.length<=s.toks.length:=by
 unfold dA at h;cases J:bb (-ax) ax s with
 |none=>rw[J] at h;cases h
 |some q=>
  obtain⟨n,s1⟩:=q;rw[J] at h;simp only at h;have h1:=dl J;obtain⟨X,Y,U⟩:=h1.eqs;split at h
  .cases I:s1.shared[(-n-1).toNat]? with
   |none=>rw[I] at h;cases h
   |some q=>
    obtain⟨z,l'⟩:=q;rw[I] at h;simp only at h;split at h
    .simp only[Y8,T8] at h;obtain⟨rfl,rfl⟩:=h;exact⟨U,by have:=h1.1;omega⟩
    .cases h
  .have:=jf (f:=dz sizes) (λacc t=>t.shared=s.shared/\t.toks.length<=s.toks.length) (λacc t a aa ⟨W,ab⟩ g=>by
    obtain⟨ac,ad,ae,V⟩:=nN g;obtain⟨f1,f2,f3⟩:=V.eqs;exact⟨by rw[f3,W],by have:=V.1;omega⟩) n.toNat [] (a8 (decide (16384<min (s1.told+n) ax)) {s1 with told:=min (s1.told+n) ax}) l s' ⟨U,by have:=h1.1;show s1.toks.length<=_;omega⟩ h
   exact this.1
theorem Ik {g:Nat} {A B:aj} {s:aH} {a6:x1} (h:c5 w g gs A B s clean) (hi:dB s) (b9:aJ .i64 w a6 all) (bJ:∀r,leads a6 r->¬bw g gs A r/\r<w.heap.size)
  (cK:∀z∈all,1<=z/\z<=ax) (dM:all.length<=100001) (cL:eR w) (h1:cq g gs A B 1):
  ak x3 xb [Γ g,a6] w λv w'=>∃an aI cs,∃ca:gC,v= .agg cs.toArray/\cs.length=4/\ag (bw g gs A) w w'/\(∀r,an r->A r\/w.heap.size<=r)/\(∀r,aI r->(B r\/w.heap.size<=r)/\r<w'.heap.size)/\(∀r,B r->aI r)/\gi w' g gs an aI clean ((cX all s).map (·.2))/\
   Seen (cq g gs an aI) w' cs ca/\ ∀q,cX all s=σ q->ca=gj q.1:=by
 have cM:=h.1;obtain⟨dN,dO,bK,cN,aL⟩:=id cM;have ah:∀r,bw g gs A r->r<w.heap.size:=cN;have dP:ax=4611686018427387904:=rfl;have dQ:s.shared.length+s.toks.length<=100000:=h.2.2.1.2.2;refine aB func151 ?_;refine bp b1.i λX U dR bL bl=>?_;have bl:af U X b1 [.slice ν 0 0,.slice ν 0 0,Δ 0,.slice ν 0 0]:=bl;have dS:=bL.size;have dT:=bl.lt;have aA:¬bw g gs A X:=λW=>by have:=ah _ W;omega
 refine (tP (lo:=-ax) (hi:=ax) (h.ext bL)).mono ?_;rintro _ V _ ⟨aM,a,at_,rfl,cb,cO⟩;obtain⟨bM,bN⟩:=aM.of;have dU:=bM.size;rw[aK (v:=Δ a) rfl,aK (v:=Δ at_) rfl,aq,kw];have dV: -ax<=a/\a<=ax:=by
  cases Y:bb (-ax) ax s with
  |none=>rw[cO Y];unfold ax;omega
  |some q=>rw[cb q Y];exact (gQ (n:=q.1) (s':=q.2) Y).1
 rw[wrap_i64 Ω Ω,qO,show max a (0-a)=((a.natAbs:Nat):Int) by omega];have cc:ag (bw g gs A) w V:=(bL.aa _).trans bM;have cP:aJ .i64 V a6 all:=iz b9 cc λr I a n c ai bO=>(bJ r ⟨a,n,c,ai,bO⟩).1 I;rw[aT aw.u cP];refine (Ih (k:=a.natAbs) (m:=(all.length:Int)) bN Ω Ω).mono ?_;rintro az dW _ ⟨aM,bP,scope,a7,cQ,dX,cR⟩;obtain⟨bQ,cS⟩:=aM.of;have z3:=bQ.size;rw[cW (cs:=#[az,.slice ν 0 0,Δ 0,.slice ν 0 0]) (by obtain⟨_,_,_,_,_,rfl,_⟩:=a7.ls;kernel_rfl)];refine bp b1.i λJ cT dY ba bm=>?_;have bm:af cT J b1 [.slice ν 0 0,.slice ν 0 0,Δ 0,.slice ν 0 0]:=bm;have z4:=ba.size;have dZ:=bm.lt;have bS:=a7.ls.cells;refine bH (vs:=[az,.slice ν 0 0,Δ 0,.slice ν 0 0]) b1.i rfl rfl (by intro v ai;simp at ai;rcases ai with rfl|rfl|rfl|rfl<;>first|exact bS.2|rfl) bm λbn bd ea cU=>?_;have aU:¬bw g gs A J:=λW=>by have:=ah _ W;omega
 have cd:c7 bn g gs A B clean ((po all.length a.natAbs ((bb (-ax) ax s).map (·.2))).map (·.2)):=(cS.ext ba).aa bd (λr I he=>by have he:r=J:=he;exact aU (he▸I)) (λr I he=>by have:=aL r I.2;have he:r=J:=he;omega);have ce:ag (bw g gs A) w bn:=gf ((cc.trans bQ).trans (ba.aa _)) bd λr I he=>by have he:r=J:=he;omega
 have cV:af bn X b1 [.slice ν 0 0,.slice ν 0 0,Δ 0,.slice ν 0 0]:=(((bl.aa bM aA).aa bQ aA).ext ba).aa bd (λhe=>by have he:X=J:=he;omega);have cY:au .i64 ao bn bP az scope:=bc (a7.ext ba) bd λr I he=>by
  obtain⟨cZ,bN⟩:=bA a7 I;have he:r=J:=he;omega
 refine (nU cd).mono ?_;rintro _ bo _ ⟨rfl,aN⟩;have aV:=cd.ext aN;have be:=cY.ext aN;have bT:=cU.ext aN;have ch:=cV.ext aN;have eb:=aN.size;have z5:=bd.size;have aF:∀r,leads az r->V.heap.size<=r/\r≠J/\r≠X:=λr I=>by
  obtain⟨cZ,bN⟩:=bA a7 I;have:=cQ r I;exact⟨this,Ω,Ω⟩
 have ay:cX all s=match po all.length a.natAbs ((bb (-ax) ax s).map (·.2)) with
   |none=>ν
   |some (sc,al)=>(hN (sc.map λv=>all.getD v.toNat 0) ((a1 0 ax (σ (a8 (decide (6<a.natAbs)||da (sc.map λv=>all.getD v.toNat 0)) al))).map (·.2))).map λq=>((⟨sc,sc.map λv=>all.getD v.toNat 0,((bb 0 ax (a8 (decide (6<a.natAbs)||da (sc.map λv=>all.getD v.toNat 0)) al)).map (·.1)).getD 0,q.1⟩:cg),if a<0 then rx (sc.map λv=>all.getD v.toNat 0) q.1 q.2 else q.2):=by
  unfold cX;cases Y:bb (-ax) ax s with
  |none=>rfl
  |some q=>
   obtain⟨a',s1⟩:=q;have:=cb _ Y;subst this;simp only;show _=match eI all.length a.natAbs s1 with
    |none=>ν
    |some (sc,al)=>_
   cases eI all.length a.natAbs s1 with
   |none=>rfl
   |some q=>
    obtain⟨sc,al⟩:=q;simp only;show _=U1 _ (hN _ ((bb 0 ax _).map (·.2)));cases bb 0 ax (a8 (decide (6<a.natAbs)||da (sc.map λv=>all.getD v.toNat 0)) al) with
    |none=>rfl
    |some q=>
     obtain⟨o,ab⟩:=q;simp only;show _=U1 _ (dA _ ab);cases dA (sc.map λv=>all.getD v.toNat 0) ab with
     |none=>rfl
     |some q=>rfl
 rw[bf,bD];cases aO:po all.length a.natAbs ((bb (-ax) ax s).map (·.2)) with
 |none=>
  rw[aO] at aV ay;simp only at ay;refine⟨λ_=>?_,λh=>by simp at h⟩;refine zT rfl (by intro v ai;simp at ai;rcases ai with rfl|rfl|rfl|rfl<;>first|exact bS.2|rfl) bT rfl ch λaP aC=>?_;have c0:=aC.size;refine⟨A,λr=>(B r\/w.heap.size<=r)/\r<aP.heap.size,_,(scope,[],0,[]),rfl,rfl,gf (ce.trans (aN.aa _)) aC λr I he=>by have he:r=X:=he;omega,λr I=>.inl I,λr I=>I,λr I=>⟨.inl I,by have:=aL r I;omega⟩,?_,?_,λq Y=>by rw[ay] at Y;cases Y⟩
  .rw[ay];have c1:gi aP g gs A B clean (U1 (λx=>x.2) (ν:Option (Λ×aH))):=aV.q.aa aC (λhe=>by have:=ah g (.inl rfl);have he:g=X:=he;omega) (λr I _ he=>by have he:r=X:=he;exact aA (he▸I)) (λr I he=>by have:=aL r I.2;have he:r=X:=he;omega);exact c1
  .refine zR (kL (bc be aC λr I he=>(aF r I).2.2 he) λr I=>?_) fx fx;have aD:=aF r I;have aW:=(bA be I);exact⟨λW=>by have:=ah _ W;omega,.inr Ω,Ω⟩
 |some q=>
  obtain⟨sc,al⟩:=q;have:=cR _ aO;subst this;rw[aO] at aV ay;simp only at ay;refine⟨λh=>by simp at h,λ_=>?_⟩;have aV:c5 bo g gs A B al clean:=aV;obtain⟨s1,c2,c3⟩:∃s1,(bb (-ax) ax s).map (·.2)=σ s1/\eI all.length a.natAbs s1=σ (scope,al):=by
   cases Y:(bb (-ax) ax s).map (·.2) with
   |none=>rw[Y] at aO;cases aO
   |some s1=>rw[Y] at aO;exact⟨s1,rfl,aO⟩
  obtain⟨ci,c4,rfl⟩:=X0.1 c2;have cj:=dl (n:=ci.1) (s':=ci.2) c4;obtain⟨ck,ec,ed,cl⟩:=tM c3;have bU:=cj.eqs;have bV:=ck.eqs;have c6:dB al:=λaG=>by rw[bV.1,bU.1];rw[bV.2.1,bU.2.1] at aG;exact hi aG
  have c8:al.shared.length+1+al.toks.length<=100000:=by rw[bV.2.2,bU.2.2];have:=cj.1;have:=ck.1;omega
  generalize bW:(scope.map λv=>all.getD v.toNat 0)=sizes at ay;have cm:∀z∈sizes,1<=z/\z<=ax:=λz bq=>by
   rw[<-bW] at bq;obtain⟨v,ai,rfl⟩:=Z1.1 bq;have:=cl v ai;refine cK _ ?_;rw[u5,y0 Ω];exact T6 _
  have ee:sizes.length=scope.length:=by rw[<-bW,u4]
  have cn:ag (bw g gs A) w bo:=ce.trans (aN.aa _);have c9:aJ .i64 bo a6 all:=iz b9 cn λr I a n c ai bO=>(bJ r ⟨a,n,c,ai,bO⟩).1 I;rw[ac b1.p rfl,ad Ψ (bT.Q0 rfl),aT aw.u be.ls];refine Ij bT be.ls (λr I=>(aF r I).2.1) c9 (λr I=>by have:=(bJ r I).2;omega) cl Ω λaP av cp aC cr br ef=>?_;rw[bW] at br;have c0:=aC.size;have bX:∀r,cq g gs A B r->¬(λr=>r=J) r:=λr I he=>by have:=aL r I.2;have he:r=J:=he;omega
  have bZ:∀r,bw g gs A r->¬(λr=>r=J) r:=λr I he=>by have he:r=J:=he;exact aU (he▸I)
  have ct:=aV.aa aC bZ bX;have db:ag (bw g gs A) w aP:=gf cn aC λr I he=>by have he:r=J:=he;omega
  refine di (λbt=>ag (bw g gs A) aP bt/\c5 bt g gs A B (a8 (decide (6<a.natAbs)||da sizes) al) clean) ?_ ?_
  rotate_left
  .intro dc bi;rw[bR,ae];refine⟨λeg=>?_,λeh=>?_⟩
   .refine (rb ct).mono ?_;rintro _ dd _ ⟨de,df⟩;refine bi _ ⟨de.mono λr _ h=>.inl h,?_⟩;rw[decide_eq_true Ω,Bool.true_or];exact df
   .rw[ac b1.p rfl,ad Ψ (cr.Q1 rfl)];refine (y6 br.ls λz bq=>(cm z bq).1).mono ?_;rintro _ dd _ ⟨rfl,cu⟩;refine (rb (ct.ext cu)).mono ?_;rintro _ ei _ ⟨dg,dh⟩;refine bi _ ⟨(cu.aa _).trans (dg.mono λr _ h=>.inl h),?_⟩;rw[decide_eq_false Ω,Bool.false_or];exact dh
  rintro bt ⟨bx,bz⟩;have ej:=bx.size;generalize bK:a8 (decide (6<a.natAbs)||da sizes) al=ab at ay bz;have dj:dB ab:=λaG=>by
   subst bK;have aG:(al.big||_)=false:=aG;exact c6 (S2.1 aG).1
  have ek:ab.shared.length+1+ab.toks.length<=100000:=by subst bK;exact c8
  have bz:c7 bt g gs A B clean (σ ab):=bz;refine (kJ (lo:=0) (hi:=ax) bz).mono ?_;rintro _ cw _ ⟨aM,o,dk,rfl,dm,em⟩;obtain⟨bB,dn⟩:=aM.of;have en:=bB.size;rw[aK (v:=Δ o) rfl,aK (v:=Δ dk) rfl,ac b1.p rfl];have dp:=(cr.aa bx aU).aa bB aU;refine bh (g:=J) (o:=2) ao.i rfl rfl dp Ξ λbC aX eo bE=>?_;have bE:af bC J b1 [az,av,Δ o,.slice ν 0 0]:=bE;rw[ac b1.p rfl,ad Ψ (bE.Q1 rfl)];have dq:=dn.aa aX bZ bX;have b0:ag (bw g gs A) aP cw:=bx.trans bB;have dr:ag (bw g gs A) w cw:=db.trans b0;have cz:ag (bw g gs A) w bC:=gf dr aX λr I he=>by have he:r=J:=he;omega
  have aQ:∀r,leads av r->bo.heap.size<=r/\r<aP.heap.size:=λr I=>by have:=bA br I;omega
  have cA:au .i64 ao bC cp av sizes:=bc (bc br b0 λr I W=>by have:=ah _ W;have:=aQ r I;omega) aX λr I he=>by have he:r=J:=he;have:=aQ r I;omega
  have ds:au .i64 ao bC bP az scope:=bc (bc (bc be aC λr I he=>(aF r I).2.1 he) b0 λr I W=>by have:=ah _ W;have:=aF r I;omega) aX λr I he=>(aF r I).2.1 he;have ep:=aX.size;refine (Ig dq (λt b2=>?_) cA.ls (λr I=>⟨λW=>by have:=ah _ W;have:=aQ r I;omega,by have:=aQ r I;omega⟩) cm Ω (cL.aa cz h1.1) h1).mono ?_
  .obtain⟨q,Y,rfl⟩:=X0.1 b2;have cB:=(dl (n:=q.1) (s':=q.2) Y).eqs;intro aG;rw[cB.1];rw[cB.2.1] at aG;exact dj aG
  rintro bY dt _ ⟨aM,l,b3,cC⟩;obtain⟨aY,du⟩:=aM.of;have er:=aY.size;have b4:bY.cells= #[bY]/\bY.oneCell'=true:=⟨jK b3,gd b3⟩;rw[ac b1.p rfl];have dv:=bE.aa aY aU;refine bh (g:=J) (o:=3) hy.i b4.1 b4.2 dv Ξ λap aR es bF=>?_;have bF:af ap J b1 [az,av,Δ o,bY]:=bF;have et:=aR.size;have cD:=du.aa aR bZ bX;have dw:ag (bw g gs A) w dt:=cz.trans aY;have dx:ag (bw g gs A) w ap:=gf dw aR λr I he=>by have he:r=J:=he;omega
  have cE:au .i64 ao ap bP az scope:=bc (bc ds aY λr I W=>by have:=ah _ W;have:=aF r I;omega) aR λr I he=>(aF r I).2.1 he;have bG:au .i64 ao ap cp av sizes:=bc (bc cA aY λr I W=>by have:=ah _ W;have:=aQ r I;omega) aR λr I he=>by have he:r=J:=he;have:=aQ r I;omega
  have dy:af ap X b1 [.slice ν 0 0,.slice ν 0 0,Δ 0,.slice ν 0 0]:=((((((ch.aa aC (λhe=>by have he:X=J:=he;omega)).aa bx aA).aa bB aA).aa aX (λhe=>by have he:X=J:=he;omega)).aa aY aA).aa aR (λhe=>by have he:X=J:=he;omega));let aE:aj:=λr=>(B r\/w.heap.size<=r)/\r<ap.heap.size;have cF:am.rep (α:=List (Λ×Int)) false bu (λr=>cq g gs A aE r/\r≠J/\r≠X) ap [bY] l:=by
   refine zS (am.aa b3 aR λr I h he=>?_) λr I h=>?_
   .have he:r=J:=he;rcases h with h|h
    .exact h
    .rcases h with h|h
     .have:=aL r h.2;omega
     .omega
   .rcases h with h|h
    .have:=aL r h.2;exact⟨⟨h.1,.inl h.2,I⟩,Ω,Ω⟩
    .exact⟨⟨λW=>by have:=ah _ W;omega,.inr Ω,I⟩,Ω,Ω⟩
  have dz:∀r,leads az r->cq g gs A aE r/\r≠J/\r≠X:=λr I=>by
   have aD:=aF r I;have aW:=(bA cE I);exact⟨⟨λW=>by have:=ah _ W;omega,.inr Ω,Ω⟩,aD.2⟩
  have cG:∀r,leads av r->cq g gs A aE r/\r≠J/\r≠X:=λr I=>by
   have aD:=aQ r I;have aW:=(bA bG I);exact⟨⟨λW=>by have:=ah _ W;omega,.inr Ω,Ω⟩,Ω,Ω⟩
  have dC:Seen (λr=>cq g gs A aE r/\r≠J/\r≠X) ap [az,av,Δ o,bY] ((scope,sizes,o,l):gC):=zR (kL cE dz) (kL bG cG) cF;have dD:∀q,cX all s=σ q->((scope,sizes,o,l):gC)=gj q.1:=λq Y=>by
   rw[ay] at Y;obtain⟨eu,b5,rfl⟩:=X0.1 Y;have aD:=cC _ b5;cases aZ:bb 0 ax ab with
   |none=>have e:a1 0 ax (σ ab)=ν:=aZ;rw[e] at b5;cases b5
   |some aS=>
    have aW:=dm aS aZ;rw[aD,aW];rfl
  have dE:∀v∈[az,av,V4 .i64 o,bY],v.oneCell'=true:=by
   intro v ai;simp at ai;rcases ai with rfl|rfl|rfl|rfl
   .exact bS.2
   .exact bG.ls.cells.2
   .rfl
   .exact b4.2
  have cH:∀r,cq g gs A B r->cq g gs A aE r/\r≠J/\r≠X:=λr I=>by
   have:=aL r I.2;exact⟨⟨I.1,.inl I.2,Ω⟩,Ω,Ω⟩
  refine di (λb6=>∃an,ag (bw g gs A) ap b6/\(∀r,an r->A r\/ap.heap.size<=r)/\ ∃aI,jU b6 g gs an aI (λr=>cq g gs A aE r/\r≠J/\r≠X) clean ((cX all s).map (·.2))) ?_ ?_
  .rintro b6 ⟨an,bj,bk,aI,dF⟩;have ev:=bj.size;refine zT rfl dE (bF.aa bj aU) rfl (dy.aa bj aA) λb7 bI=>?_;have ew:=bI.size;have cI:∀r,bw g gs an r->¬(λr=>r=X) r:=λr I he=>by
    have he:r=X:=he;subst he;rcases I with I|I|I
    .exact aA (.inl I)
    .exact aA (.inr (.inl I))
    .rcases bk _ I with I|I
     .exact aA (.inr (.inr I))
     .omega
   have cJ:∀r,(cq g gs A aE r/\r≠J/\r≠X)->cq g gs an (λr=>(B r\/w.heap.size<=r)/\r<b7.heap.size/\(r<ap.heap.size\/B r)) r:=λr h=>⟨λW=>h.1.1 (W.imp id (Or.imp id λW=>(bk r W).elim id λh'=>by have:=h.1.2.2;omega)),h.1.2.1,by have:=h.1.2.2;omega,.inl h.1.2.2⟩;have dG:jU b7 g gs an aI (λr=>cq g gs A aE r/\r≠J/\r≠X) clean ((cX all s).map (·.2)):=dF.aa bI (cI g (.inl rfl)) (λr I _=>cI r I) (λr I=>I.2.2);refine⟨an,λr=>(B r\/w.heap.size<=r)/\r<b7.heap.size/\(r<ap.heap.size\/B r),_,(scope,sizes,o,l),rfl,rfl,gf (dx.trans bj) bI λr I he=>by have he:r=X:=he;omega,λr I=>(bk r I).imp id λh=>Ω,λr I=>⟨I.1,I.2.1⟩,λr I=>⟨.inl I,by have:=aL r I;omega,.inr I⟩,dG.out cJ λr I=>I.2.1,?_,dD⟩;refine zS (am.aa (am.aa dC bj λr _ h W=>?_) bI λr _ h he=>?_) λr _ h=>cJ r h
   .rcases h with h|h
    .exact h
    .exact h.1.1 W
   .rcases h with h|h
    .exact h
    .exact h.2.2 he
  .intro dc bi;rw[ae];refine⟨λdH=>?_,λdI=>?_⟩
   .intro b8 a2 _ _;have ey:=a2.size;have dJ:∀r,(cq g gs A aE r/\r≠J/\r≠X)->cq g gs A (nV b8.heap.size) r:=λr h=>⟨h.1.1,by have:=h.1.2.2;show r<b8.heap.size;omega⟩;refine Ii (R:=λr=>cq g gs A aE r/\r≠J/\r≠X) (z:=sizes) (l:=l) (cD.ext a2) cH dJ (λt b2=>?_) (bF.ext a2) (kL (bG.ext a2) cG) (bg cF a2) λez an dK bk dL=>?_
    .obtain⟨q,Y,rfl⟩:=X0.1 b2;cases aZ:bb 0 ax ab with
     |none=>have e:a1 0 ax (σ ab)=ν:=aZ;rw[e] at Y;cases Y
     |some aS=>
      have e:a1 0 ax (σ ab)=σ aS:=aZ;rw[e] at Y;have h1:q.2.shared=aS.2.shared/\q.2.toks.length<=aS.2.toks.length:=zU (l:=q.1) (s':=q.2) Y;have aD:=dl (n:=aS.1) (s':=aS.2) aZ;have aW:=aD.eqs.2.2;have eA:=aD.1;rw[h1.1,aW];have:=h1.2;omega
    .refine bi _ ⟨an,(a2.aa _).trans dK,λr I=>(bk r I).imp id λh=>Ω,nV b8.heap.size,?_⟩;have e:(cX all s).map (·.2)=((hN sizes ((a1 0 ax (σ ab)).map (·.2))).map (·.2)).map (rx sizes l):=by
      rw[ay];cases Y:hN sizes ((a1 0 ax (σ ab)).map (·.2)) with
      |none=>rfl
      |some q=>
       have aD:=cC _ Y;simp only[Y0,if_pos dH,aD]
     rw[e];exact dL
   .refine bi _ ⟨A,ag.refl _ _,λr I=>.inl I,B,?_⟩;have e:(cX all s).map (·.2)=(hN sizes ((a1 0 ax (σ ab)).map (·.2))).map (·.2):=by
     rw[ay];cases Y:hN sizes ((a1 0 ax (σ ab)).map (·.2)) with
     |none=>rfl
     |some q=>simp only[Y0,if_neg dI]
    rw[e];exact cD.qr cH
def jk (l:Λ):Prop:=∀v∈l,0<=v/\v<64
theorem pp (h:jk l) {v:Int}:v∈bj l↔v∈l:=by
 unfold bj;rw[List.mem_filter,decide_eq_true_eq];refine⟨λh=>h.2,λI=>⟨?_,I⟩⟩;obtain⟨h1,J⟩:=h v I;exact Z1.2 ⟨v.toNat,List.mem_range.2 Ω,Ω⟩
theorem Il (l:Λ):jk (bj l):=λv I=>by
 obtain⟨n,J,rfl⟩:=Z1.1 (List.mem_filter.1 I).1;have:=List.mem_range.1 J;omega
theorem uf (l:Λ):(bj l).Pairwise (·< ·):=by
 unfold bj;refine List.Pairwise.filter _ ?_;rw[List.pairwise_map];exact List.pairwise_lt_range.imp λh=>Ω
theorem zV (l:Λ):(bj l).Nodup:=(uf l).imp λh=>Ω
where
 nodup_le' {a b:Λ} (h:a.Nodup) (I:∀x∈a,x∈b):a.length<=b.length:=by
  induction a generalizing b with
  |nil=>exact X3 _
  |cons x a ih=>
   have h':=List.nodup_cons.1 h;have hx:=I x (.head _);have:=ih (b:=b.erase x) h'.2 λy hy=>(List.mem_erase_of_ne (λ(he:y=x)=>h'.1 (by rw[<-he];exact hy))).2 (I y (.tail _ hy));rw[List.length_erase_of_mem hx] at this;have:=List.length_pos_of_mem hx;rw[j5];omega
theorem zW (n:Nat):(0:Int)<64 ^ n:=Int.pow_pos Ω
theorem ry:∀ (l:Λ),jk l->0<=ib l/\ib l<64 ^ l.length
 |[],_=>by simp[ib]
 |x::l,h=>by
  have U:=ry l λy I=>h y (.tail _ I);have J:=h x (.head _);have V:=zW l.length;simp only[ib,j5];have e:(64:Int) ^ (l.length+1)=64*64 ^ l.length:=by rw[Int.pow_succ,Int.mul_comm]
  have h1:x*64 ^ l.length<=63*64 ^ l.length:=Int.mul_le_mul_of_nonneg_right Ω Ω;have W:0<=x*64 ^ l.length:=Int.mul_nonneg J.1 Ω;rw[e];omega
def fl:Λ->Λ->Int
 |x::a,y::b=>if x<y then-1 else if y<x then 1 else fl a b
 |[],[]=>0
 |[],_::_=>-1
 |_::_,[]=>1
theorem zX:∀ (a b:Λ),a.length=b.length->jk a->jk b->(fl a b<0↔ib a<ib b)/\(fl a b=0↔a=b)/\(ib a=ib b->a=b)
 |[],[],_,_,_=>by simp[fl]
 |[],_::_,h,_,_=>by simp at h
 |_::_,[],h,_,_=>by simp at h
 |x::a,y::b,h,Y,aa=>by
  have V:a.length=b.length:=by simpa using h
  have W:jk a:=λz I=>Y z (.tail _ I);have X:jk b:=λz I=>aa z (.tail _ I);have J:=zX a b V W X;have ab:=ry a W;have ad:=ry b X;have ae:=zW b.length;simp only[fl,ib];rw[V] at ab ⊢;have step:∀u v:Int,u<v->u*64 ^ b.length+64 ^ b.length<=v*64 ^ b.length:=λu v af=>by
   have:=Int.mul_le_mul_of_nonneg_right (show u+1<=v by omega) (show (0:Int)<=64 ^ b.length by omega);rw[Int.add_mul,Int.one_mul] at this;exact this
  by_cases h1:x<y
  .rw[if_pos h1];have:=step x y h1;exact⟨⟨λ_=>Ω,λ_=>Ω⟩,⟨λh=>Ω,λh=>by have:=(List.cons.inj h).1;omega⟩,λh=>Ω⟩
  .rw[if_neg h1];by_cases U:y<x
   .rw[if_pos U];have:=step y x U;exact⟨⟨λh=>Ω,λh=>Ω⟩,⟨λh=>Ω,λh=>by have:=(List.cons.inj h).1;omega⟩,λh=>Ω⟩
   .rw[if_neg U];have ac:x=y:=Ω
    subst ac;exact⟨J.1.trans ⟨λh=>Ω,λh=>Ω⟩,J.2.1.trans ⟨λh=>by rw[h],λh=>(List.cons.inj h).2⟩,λh=>by rw[J.2.2 Ω]⟩
def ic (l:Λ):Prop:=jk l/\l.length<=6
theorem zY (h:ic l):0<=ib l/\ib l<64 ^ 6:=by
 have:=ry l h.1;have J:(64:Int) ^ l.length<=64 ^ 6:=by
  have I:=h.2
  match l.length,I with
  |0,_=>decide
  |1,_=>decide
  |2,_=>decide
  |3,_=>decide
  |4,_=>decide
  |5,_=>decide
  |6,_=>decide
  |n+7,h=>omega
 omega
theorem ug {b:Λ} (J:ic a) (U:ic b):(cY a<cY b↔a.length<b.length\/(a.length=b.length/\fl a b<0))/\(cY a=cY b->a=b):=by
 have h1:=zY J;have V:=zY U;have e:(64:Int) ^ 6=68719476736:=Φ
 rw[e] at h1 V;unfold cY;rw[e];by_cases I:a.length=b.length
 .have:=zX a b I J.1 U.1;rw[I];exact⟨⟨λh=>.inr ⟨rfl,this.1.2 Ω⟩,λh=>by
   rcases h with h|⟨_,h⟩
   .omega
   .have:=this.1.1 h;omega⟩,λh=>this.2.2 Ω⟩
 .exact⟨⟨λh=>.inl Ω,λh=>by
   rcases h with h|⟨h,_⟩
   .omega
   .exact absurd h I⟩,λh=>Ω⟩
theorem rz (g:cw):∀l:List cw,(gA g l).Perm (g::l)
 |[]=>List.Perm.refl _
 |h::l=>by
  unfold gA;split
  .exact ((rz g l).cons h).trans (List.Perm.swap g h l)
  .exact List.Perm.refl _
theorem zZ {g:cw}:∀ {l:List cw},l.Pairwise (λa b=>cY a.1<cY b.1)->(∀h∈l,cY h.1≠cY g.1)->(gA g l).Pairwise (λa b=>cY a.1<cY b.1)
 |[],_,_=>by simp[gA]
 |h::l,U,V=>by
  have J:=List.pairwise_cons.1 U;unfold gA;split
  .rename_i W;refine List.pairwise_cons.2 ⟨λx I=>?_,zZ J.2 λx I=>V x (.tail _ I)⟩;rcases T1.1 ((rz g l).mem_iff.1 I) with rfl|I
   .exact W
   .exact J.1 x I
  .rename_i X;have:=V h (.head _);refine List.pairwise_cons.2 ⟨λx I=>?_,U⟩;rcases T1.1 I with rfl|I
   .omega
   .have:=J.1 x I;omega
theorem z1:∀ (l acc:List cw),acc.Pairwise (λa b=>cY a.1<cY b.1)->l.Pairwise (λa b=>cY a.1≠cY b.1)->(∀a∈acc,∀b∈l,cY a.1≠cY b.1)->
  (l.foldl (λl g=>gA g l) acc).Pairwise (λa b=>cY a.1<cY b.1)/\(l.foldl (λl g=>gA g l) acc).Perm (acc++l)
 |[],acc,h,_,_=>⟨h,Ξ⟩
 |g::l,acc,h,W,J=>by
  have U:=List.pairwise_cons.1 W;have:=z1 l (gA g acc) (zZ h λa I=>J a I g (.head _)) U.2 λa I b V=>by
   rcases T1.1 ((rz g acc).mem_iff.1 I) with rfl|I
   .exact U.1 b V
   .exact J a I b (.tail _ V)
  refine⟨this.1,this.2.trans ?_⟩;exact ((rz g acc).append_right l).trans (List.perm_middle (a:=g) (l₁:=acc) (l₂:=l)).symm
theorem uh {α:Type} {f:α->Int}:∀ {L M:List α},L.Pairwise (λa b=>f a<f b)->M.Pairwise (λa b=>f a<f b)->(∀x,x∈L↔x∈M)->L=M
 |[],M,_,_,h=>by
  cases M with
  |nil=>rfl
  |cons y M=>exact absurd ((h y).2 (.head _)) Ξ
 |x::L,[],_,_,h=>absurd ((h x).1 (.head _)) Ξ
 |x::L,y::M,h1,V,h=>by
  have J:=List.pairwise_cons.1 h1;have U:=List.pairwise_cons.1 V;have W:x=y:=by
   rcases T1.1 ((h x).1 (.head _)) with he|hm
   .exact he
   .rcases T1.1 ((h y).2 (.head _)) with he|X
    .exact he.symm
    .have a:=U.1 x hm;have b:=J.1 y X;omega
  subst W;rw[uh J.2 U.2 λz=>⟨λI=>?_,λI=>?_⟩]
  .rcases T1.1 ((h z).1 (.tail _ I)) with he|hm
   .subst he;have:=J.1 z I;omega
   .exact hm
  .rcases T1.1 ((h z).2 (.tail _ I)) with he|hm
   .subst he;have:=U.1 z I;omega
   .exact hm
structure e6 (sizes:Λ) (k:Int) (g:cw):Prop where
 scope:ic g.1
 up:g.1.Pairwise (·< ·)
 vars:∀v∈g.1,v<sizes.length
 len:g.2.length=(aM (bF sizes g.1)).toNat
 small:aM (bF sizes g.1)<=4096
 ie:∀c∈g.2,0<=c/\c<=k
theorem lA {sc:Λ} (J:∀z∈sizes,1<=z/\z<=32) (U:∀v∈sc,0<=v/\v<sizes.length):∀z∈bF sizes sc,1<=z/\z<=32:=λz h=>by
 obtain⟨v,V,rfl⟩:=Z1.1 h;obtain⟨h1,W⟩:=U v V;have I:v.toNat<sizes.length:=Ω
 rw[u5,y0 I];exact J _ (T6 I)
theorem Im {b:Λ} (h:a.Perm b):aM a=aM b:=by
 induction h with
 |nil=>rfl
 |cons x _ I=>simp only[aM,I]
 |swap x y l=>simp only[aM];rw[<-Int.mul_assoc,<-Int.mul_assoc,Int.mul_comm y x]
 |trans _ _ h1 J=>exact h1.trans J
theorem In {b:Λ} (h:a.length=b.length):(dF k a b).length=b.length:=by simp[dF,h]
theorem Io {b:Λ} (W:0<=k) (J:∀c∈a,0<=c/\c<=k) (U:∀c∈b,0<=c/\c<=k):∀c∈dF k a b,0<=c/\c<=k:=by
 induction a generalizing b with
 |nil=>intro c I;simp[dF] at I
 |cons x a V=>
  cases b with
  |nil=>intro c I;simp[dF] at I
  |cons y b=>
   intro c I;have X:=J x (.head _);have Y:=U y (.head _);rcases T1.1 (show c∈min (x+y) k::dF k a b from I) with rfl|I
   .omega
   .exact V (λc h=>J c (.tail _ h)) (λc h=>U c (.tail _ h)) c I
def hP (l:List cw):Prop:=(l.map (·.1)).Nodup
theorem Ip {acc:List cw} {g:cw} (X:0<=k) (U:∀h∈acc,e6 sizes k h) (V:hP acc) (I:e6 sizes k g):(∀h∈hj k acc g,e6 sizes k h)/\hP (hj k acc g)/\(hj k acc g).length<=acc.length+1:=by
 unfold hj;split
 .refine⟨λh aI=>?_,?_,Ξ⟩
  .obtain⟨J,hm,rfl⟩:=Z1.1 aI;have h1:=U J hm;split
   .rename_i he;have Y:J.2.length=g.2.length:=by rw[h1.len,I.len,he]
    exact⟨h1.scope,h1.up,h1.vars,by show (dF k J.2 g.2).length=_;rw[In Y,I.len,he],h1.small,Io X h1.ie I.ie⟩
   .exact h1
  .unfold hP;rw[List.map_map];have e:((λx:cw=>x.1)∘λh:cw=>if h.1=g.1 then (h.1,dF k h.2 g.2) else h)=λx:cw=>x.1:=by
    funext h;simp only[Function.comp];split<;>rfl
   rw[e];exact V
 .rename_i aa;refine⟨λh aI=>?_,?_,Ξ⟩
  .rcases n9.1 aI with aI|aI
   .exact U h aI
   .rw[j4.1 aI];exact I
  .unfold hP;rw[Z3];exact List.nodup_append.2 ⟨V,Ξ,λx ab y W he=>by
    simp only[S3,List.map_nil,j4] at W;subst W;subst he;exact aa ab⟩
theorem ui {sizes:Λ} {k:Int} (U:0<=k):∀ {l acc:List cw},(∀h∈acc,e6 sizes k h)->hP acc->(∀g∈l,e6 sizes k g)->(∀h∈l.foldl (hj k) acc,e6 sizes k h)/\hP (l.foldl (hj k) acc)/\(l.foldl (hj k) acc).length<=acc.length+l.length
 |[],acc,I,J,_=>⟨I,J,Ξ⟩
 |g::l,acc,I,J,V=>by
  obtain⟨h1,W,ab⟩:=Ip U I J (V g (.head _));obtain⟨X,Y,ac⟩:=ui U h1 W λx aa=>V x (.tail _ aa);exact⟨X,Y,by simp only[List.foldl_cons,j5];omega⟩
theorem z6 {α:Type} [DecidableEq α]:∀ {a b:List α},a.Nodup->b.Nodup->(∀x,x∈a↔x∈b)->a.Perm b
 |[],b,_,_,h=>by
  cases b with
  |nil=>exact .refl _
  |cons y b=>exact absurd ((h y).2 (.head _)) Ξ
 |x::a,b,V,J,h=>by
  have W:=(h x).1 (.head _);have U:=List.nodup_cons.1 V;refine .trans ?_ (List.perm_cons_erase W).symm;refine .cons x (z6 U.2 (J.erase x) λy=>?_);rw[J.mem_erase_iff];refine⟨λI=>⟨λhe=>U.1 (he▸I),(h y).1 (.tail _ I)⟩,λ⟨X,I⟩=>?_⟩;rcases T1.1 ((h y).2 I) with he|hm
  .exact absurd he X
  .exact hm
theorem rA (h:jk l) (I:l.Nodup):(bj l).Perm l:=z6 (zV l) I λ_=>pp h
theorem uj:∀ {l:Λ},(∀z∈l,1<=z/\z<=32)->l.map (λz=>min z 4097)=l
 |[],_=>rfl
 |z::l,h=>by
  have J:=h z (.head _);rw[S3,uj λx I=>h x (.tail _ I)];congr 1;omega
theorem Iq {x:cg} (U:0<=k) (V:0<=x.other) (I:∀p∈x.lines,0<=p.2):0<=iC x k t/\iC x k t<=k:=by
 unfold iC;cases J:x.lines.find? (λp=>decide (p.1=t)) with
 |none=>simp only;omega
 |some p=>have:=I p (List.mem_of_find?_eq_some J);simp only;omega
theorem rB {x:cg} (h:q7 all N x) (J:all.length<=64):jk x.scope:=λv I=>by
 have:=h.scope.2 v I;omega
theorem nW {f:b2} {x:cg} (I:eQ N f) (Y:x∈f.funs):e6 f.sizes f.k (gR f.sizes f.k x):=by
 obtain⟨h1,aa,U⟩:=I.funs x Y;have ab:=I.sizes.2.1;have V:=rB h1 ab;have J:=rA V h1.scope.1;have W:∀v∈bj x.scope,0<=v/\v<f.sizes.length:=λv hm=>h1.scope.2 v ((pp V).1 hm);have ac:=lA I.sizes.2.2 W;have ad:aM (bF f.sizes (bj x.scope))=aM x.sizes:=by rw[h1.sizes];exact Im (J.map _)
 refine⟨⟨Il _,?_⟩,uf _,λv hm=>(W v hm).2,?_,?_,λc ae=>?_⟩
 .show (bj x.scope).length<=6;rw[J.length_eq];exact aa
 .show ((bm _).map _).length=_;rw[u4,hd ac];rfl
 .show aM (bF f.sizes (bj x.scope))<=4096;have af:∀z∈x.sizes,1<=z/\z<=32:=λz X=>by
   rw[h1.sizes] at X;exact lA I.sizes.2.2 (λv hm=>h1.scope.2 v hm) z X
  unfold da at U;rw[uj af,decide_eq_false_iff_not] at U;rw[ad];omega
 .obtain⟨t,_,rfl⟩:=Z1.1 ae;exact Iq (by have:=I.k.1;omega) h1.other λp J=>(h1.lines.2 p J).2
theorem jV {f:b2} (I:eQ N f):(∀g∈eV f,e6 f.sizes f.k g)/\hP (eV f)/\(eV f).length<=f.funs.length:=by
 have:=ui (sizes:=f.sizes) (k:=f.k) (by have:=I.k.1;omega) (l:=f.funs.map (gR f.sizes f.k)) (acc:=[]) (λh aI=>by cases aI) List.nodup_nil λg U=>by
  obtain⟨x,V,rfl⟩:=Z1.1 U;exact nW I V
 refine⟨this.1,this.2.1,?_⟩;have J:=this.2.2;rw[List.length_nil,u4,V3] at J;exact J
theorem z7 {l:List cw} (I:∀g∈l,e6 sizes k g) (J:hP l):l.Pairwise λa b=>cY a.1≠cY b.1:=by
 have h1:l.Pairwise λa b=>a.1≠b.1:=by
  unfold hP List.Nodup at J;rwa [List.pairwise_map] at J
 exact h1.imp_of_mem λ{a b} U V W he=>W ((ug (I a U).scope (I b V).scope).2 he)
theorem pq {f:b2} (J:eQ N f):(e4 f).Pairwise (λa b=>cY a.1<cY b.1)/\(e4 f).Perm ((eV f).filter e3):=by
 obtain⟨h1,U,_⟩:=jV J;have V:∀g∈(eV f).filter e3,e6 f.sizes f.k g:=λg W=>h1 g (List.mem_filter.1 W).1;have X:hP ((eV f).filter e3):=(List.Sublist.map _ List.filter_sublist).nodup U;have:=z1 ((eV f).filter e3) [] List.Pairwise.nil (z7 V X) λa Y=>by cases Y
 refine⟨this.1,?_⟩;have I:=this.2;rw[List.nil_append] at I;exact I
theorem rC {f:b2} (I:eQ N f):∀g∈e4 f,e6 f.sizes f.k g:=λg J=>(jV I).1 g (List.mem_filter.1 ((pq I).2.mem_iff.1 J)).1
theorem Ir {f:b2} (J:eQ N f) {M:List cw} (U:M.Perm ((eV f).filter e3)) (I:M.Pairwise λa b=>cY a.1<=cY b.1):M=e4 f:=by
 obtain⟨h1,V⟩:=pq J;have W:hP ((eV f).filter e3):=(List.Sublist.map _ List.filter_sublist).nodup (jV J).2.1;have X:hP M:=(U.map (λg:cw=>g.1)).nodup_iff.2 W;have Y:∀g∈M,e6 f.sizes f.k g:=λg aa=>(jV J).1 g (List.mem_filter.1 (U.mem_iff.1 aa)).1;have ab:=z7 Y X;refine uh (f:=λg:cw=>cY g.1) ?_ h1 λx=>by rw[U.mem_iff,V.mem_iff]
 exact I.imp₂ (λa b h1 V=>Int.lt_iff_le_and_ne.2 ⟨h1,V⟩) ab
structure ig (n:aV):Prop where
 k:1<=n.k/\n.k<=2147483648
 sizes:1<=n.sizes.length/\n.sizes.length<=64/\ ∀z∈n.sizes,1<=z/\z<=32
 zero:0<=n.zero/\n.zero<=n.k
 jl:n.unary.length=n.sizes.length
 unary:∀ (i:Nat) (z:Int) (u:Λ),n.sizes[i]? =σ z->n.unary[i]? =σ u->u.length=z.toNat/\ ∀c∈u,0<=c/\c<=n.k
 funs:∀g∈n.funs,e6 n.sizes n.k g/\2<=g.1.length
theorem Is (z:Int):aM [z]=z:=by simp[aM]
theorem rD:∀ {l:List cw} {n:aV},ig n->(∀g∈l,e6 n.sizes n.k g)->ig (l.foldl (λn g=>match g.1 with
 |[]=>{n with zero:=g.2.getD 0 0}
 |[v]=>{n with unary:=n.unary.set v.toNat g.2}
 |_=>{n with funs:=n.funs++[g]}) n)/\(l.foldl (λn g=>match g.1 with
 |[]=>{n with zero:=g.2.getD 0 0}
 |[v]=>{n with unary:=n.unary.set v.toNat g.2}
 |_=>{n with funs:=n.funs++[g]}) n).sizes=n.sizes
 |[],n,h,_=>⟨h,rfl⟩
 |g::l,n,h,V=>by
  have I:=V g (.head _);have U:∀x∈l,e6 n.sizes n.k x:=λx J=>V x (.tail _ J);rw[List.foldl_cons];obtain⟨sc,cs⟩:=g
  match sc,I with
  |[],I=>
   have X:=I.len;refine rD (n:={n with zero:=cs.getD 0 0}) ⟨h.k,h.sizes,?_,h.jl,h.unary,h.funs⟩ U;have h1:cs.length=1:=by simpa[bF,aM] using X
   have Y:cs[0]? =σ (cs.getD 0 0):=by rw[u5,y0 Ω];rfl
   exact I.ie _ (x5 Y)
  |[v],I=>
   have ab:=I.scope.1 v (.head _);have ac:=I.vars v (.head _);refine rD (n:={n with unary:=n.unary.set v.toNat cs}) ⟨h.k,h.sizes,h.zero,by show (n.unary.set _ _).length=_;rw[X2];exact h.jl,λi z u W hu=>?_,h.funs⟩ U;by_cases hi:v.toNat=i
   .subst hi;have ad:=h.jl;rw[V9 Ω] at hu;cases hu;have aa:bF n.sizes [v]=[z]:=by
     simp only[bF,S3,List.map_nil];rw[u5,W];rfl
    refine⟨?_,I.ie⟩;have:=I.len;rw[aa,Is] at this;exact this
   .rw[W8 hi] at hu;exact h.unary i z u W hu
  |a::b::r,I=>
   refine rD (n:={n with funs:=n.funs++[(a::b::r,cs)]}) ⟨h.k,h.sizes,h.zero,h.jl,h.unary,λx J=>?_⟩ U;rcases n9.1 J with J|J
   .exact h.funs x J
   .rw[j4.1 J];exact⟨I,Ξ⟩
theorem z8 {f:b2} (I:eQ N f):ig (cb f)/\(cb f).sizes=f.sizes:=by
 unfold cb;have U:=I.sizes;refine rD (n:=⟨f.k,f.sizes,0,f.sizes.map λz=>o7 z.toNat 0,[]⟩) ⟨I.k,U,⟨by show (0:Int)<=0;omega,by show (0:Int)<=f.k;have:=I.k.1;omega⟩,Ξ,λi z u h1 J=>?_,λg V=>by cases V⟩ (rC I);have J:(f.sizes.map λz=>o7 z.toNat (0:Int))[i]? =σ u:=J;have h1:f.sizes[i]? =σ z:=h1;rw[x8,h1] at J;cases J;refine⟨Ξ,λc W=>?_⟩;rw[(List.mem_replicate.1 W).2];have:=I.k.1;exact⟨Int.le_refl _,by show (0:Int)<=f.k;omega⟩
def jW (x:cg) (k:Int) (i:Nat) (t:Λ):Int:=match (x.lines.take i).find? (λp=>decide (p.1=t)) with
 |some p=>min p.2 k
 |none=>min x.other k
theorem Aa (x:cg) (k:Int) (t:Λ):jW x k 0 t=min x.other k:=by simp[jW]
theorem Ab (x:cg) (k:Int) (t:Λ):jW x k x.lines.length t=iC x k t:=by
 unfold jW iC;rw[o9];cases x.lines.find? (λp=>decide (p.1=t))<;>rfl
theorem Ac {x:cg} {i:Nat} {p:Λ×Int} (aa:(x.lines.map (·.1)).Nodup) (hi:x.lines[i]? =σ p) (t:Λ):jW x k (i+1) t=if t=p.1 then min p.2 k else jW x k i t:=by
 unfold jW;rw[r8,hi,Z4,List.find?_append];by_cases I:t=p.1
 .subst I;have ab:(x.lines.take i).find? (λq=>decide (q.1=p.1))=ν:=by
   rw[List.find?_eq_none];intro q J he;have he:q.1=p.1:=by simpa using he
   obtain⟨j,U⟩:=Y7.1 J;have V:j<i:=by have:=(x4.1 U).1;rw[o4] at this;omega
   rw[Y2 V] at U;have W:=x4.1 U;have X:=x4.1 hi;have Y:=V2.1 aa j i (by rw[u4];exact W.1) (by rw[u4];exact X.1) V;rw[List.getElem_map,List.getElem_map,W.2,X.2] at Y;exact Y he
  rw[ab,if_pos rfl];simp
 .rw[if_neg I];have:[p].find? (λq=>decide (q.1=t))=ν:=by
   rw[List.find?_eq_none];intro q J he;rw[j4.1 J] at he;exact I (of_decide_eq_true he).symm
  rw[this,Option.or_none]
theorem nX {v:Int} (h:v∈l):l[l.idxOf v]? =σ v:=by
 have:=List.idxOf_lt_length_iff.2 h;rw[y0 this,List.getElem_idxOf this]
theorem pr {i:Nat} {v:Int} (V:l.Nodup) (h:l[i]? =σ v):l.idxOf v=i:=by
 have hm:=x5 h;have h1:=nX hm;have I:=x4.1 h1;have J:=x4.1 h;rcases Nat.lt_trichotomy (l.idxOf v) i with U|he|U
 .exact absurd (I.2.trans J.2.symm) (V2.1 V _ _ I.1 J.1 U)
 .exact he
 .exact absurd (J.2.trans I.2.symm) (V2.1 V _ _ J.1 I.1 U)
def fm (scope I:Λ):Λ:=I.map λv=>((scope.idxOf v:Nat):Int)
theorem rE {J:Λ} (Y:scope.Nodup) (I:J.Perm scope):Good (fm scope J) scope.length:=by
 have W:J.Nodup:=I.nodup_iff.2 Y;refine⟨by simp[fm,I.length_eq],λi p U=>?_⟩;unfold fm at U;rw[x8] at U;obtain⟨v,X,rfl⟩:=X0.1 U;have hm:v∈scope:=I.mem_iff.1 (x5 X);have ac:=List.idxOf_lt_length_iff.2 hm;refine⟨⟨Ω,Ω⟩,λj ad V=>?_⟩;unfold fm at V;rw[x8] at V;obtain⟨u,hu,he⟩:=X0.1 V;have aa:u∈scope:=I.mem_iff.1 (x5 hu);have e:scope.idxOf u=scope.idxOf v:=Ω
 have h1:=nX aa;rw[e,nX hm] at h1;have ab:v=u:=Z8 h1;subst ab;have ae:=pr W hu;have af:=pr W X;omega
theorem Ad {v:Int} (J:I[j]? =σ v):(fm scope I)[j]? =σ ((scope.idxOf v:Nat):Int):=by
 unfold fm;rw[x8,J];rfl
theorem It (W:scope.Nodup) (U:I.Perm scope):dS (bF sizes scope) (fm scope I)=bF sizes I:=by
 refine X8 λj=>?_;cases J:I[j]? with
 |none=>
  have V:=List.getElem?_eq_none_iff.1 J;rw[Y4 (by rw[q4];simp[fm];exact V),Y4 (by simp[bF];exact V)]
 |some v=>
  have hm:v∈scope:=U.mem_iff.1 (x5 J);have X:=rE W U;rw[yP X (by simp[bF]) (Ad J),j0];unfold bF;rw[x8,x8,nX hm,J]
theorem Ae (W:scope.Nodup) (J:I.Perm scope) (X:t.length=scope.length):kI (fm scope I) t=nO scope I t:=by
 have Y:=rE W J;refine (yO Y X (by simp[nO]) λj p U=>?_).symm;unfold fm at U;rw[x8] at U;obtain⟨v,V,rfl⟩:=X0.1 U;have hm:v∈scope:=J.mem_iff.1 (x5 V);have aa:I.Nodup:=J.nodup_iff.2 W;have ab:=(x4.1 V).1;have ac:=J.length_eq;unfold nO;rw[j0,x8,nX hm,Y0,pr aa V,u5,y0 (show j<t.length by omega)];rfl
theorem Iu {f:b2} {x:cg} {cs:Λ} (U:eQ N f) (ab:x∈f.funs) (ai:cs.length=(aM x.sizes).toNat) (ac:∀t,c6 x.sizes t->cM x.sizes cs t=iC x f.k t):
  dS x.sizes (fm x.scope (bj x.scope))=bF f.sizes (bj x.scope)/\mv x.sizes cs (fm x.scope (bj x.scope))=(gR f.sizes f.k x).2:=by
 obtain⟨h1,aj,ak⟩:=U.funs x ab;have W:=rB h1 U.sizes.2.1;have I:=rA W h1.scope.1;have X:x.sizes=bF f.sizes x.scope:=h1.sizes;have V:dS x.sizes (fm x.scope (bj x.scope))=bF f.sizes (bj x.scope):=by rw[X];exact It h1.scope.1 I
 have ad:=rE h1.scope.1 I;have ae:∀v∈bj x.scope,0<=v/\v<f.sizes.length:=λv hm=>h1.scope.2 v ((pp W).1 hm);have J:dN (bF f.sizes (bj x.scope)):=lA U.sizes.2.2 ae;refine⟨V,?_⟩;have af:x.sizes.length=x.scope.length:=by rw[X];simp[bF]
 unfold mv;rw[V];show _=(bm (bF f.sizes (bj x.scope))).map λt=>iC x f.k (nO x.scope (bj x.scope) t);refine X8 λq=>?_;rw[x8,x8];have al:=kH J;by_cases Y:q<(aM (bF f.sizes (bj x.scope))).toNat
 .have ag:=nG J (i:=q) Ω;rw[ag,List.getElem?_range Y];simp only[Y0];have ah:=tI J Y;have aa:(cF (bF f.sizes (bj x.scope)) q).length=x.scope.length:=by rw[h8];simp[bF,I.length_eq]
  rw[Ae h1.scope.1 I aa,ac];have:=GS (s:=x.sizes) ad af (by rw[V];exact ah);rw[Ae h1.scope.1 I aa] at this;exact this
 .rw[Y4 Θ,Y4 (by rw[hd J];omega)];rfl
theorem Iv {J U:Λ} (I:dN szs) (h1:J.length=(aM szs).toNat) (V:U.length=(aM szs).toNat):
  dF k J U=(W3 (aM szs).toNat).map λ(q:Nat)=>min (cM szs J (cF szs q)+cM szs U (cF szs q)) k:=by
 conv=>lhs;rw[q3 I h1,q3 I V]
 unfold dF;rw[List.zipWith_map,List.zipWith_self]
theorem Iw {ba:Nat} {d:List (x1×x1)} {KS:List (Λ)} (W:af w ba hA [.map (σ m)]) (hm:cS w m d) (X:d.map (·.1)=KS.map dG) (J:nT KS) (ag:KS.length<65536):
  ak x3 E3 [.func (.func kt) #[] #[Γ ba],zy] w λv w'=>Ext w w'/\ ∃g M,M.Perm KS/\ru fC M 0 M.length/\mC w' g v M:=by
 refine aB func266 ?_;refine (HB W hm X (λks h=>(J ks h).1) Ω).mono ?_;rintro v U _ ⟨Y,g,L,aa,I,ab⟩;refine (HO ab (J.perm I) (by rw[I.length_eq];omega)).mono ?_;rintro _ V _ ⟨ac,M,ad,hu,ae⟩;exact⟨Y.then ac (λr ah h=>by have:=aa r h;omega),g,M,ad.trans I,hu,ae⟩
theorem Af {α β:Type} {f:α->β}:∀ {M:List β} {D:List α},M.Perm (D.map f)-> ∃L:List α,L.Perm D/\L.map f=M
 |[],D,h=>by
  have h1:=h.length_eq;simp at h1;have:D=[]:=Z5 h1.symm;exact⟨[],by rw[this],rfl⟩
 |x::M,D,h=>by
  have I:x∈D.map f:=h.mem_iff.1 (.head _);obtain⟨p,J,rfl⟩:=Z1.1 I;obtain⟨A,B,rfl⟩:=List.append_of_mem J;have U:(f p::M).Perm (f p::(A++B).map f):=h.trans (by
   rw[Z3,S3,Z3];exact List.perm_middle)
  obtain⟨L,V,W⟩:=Af (List.Perm.cons_inv U);exact⟨p::L,(V.cons p).trans List.perm_middle.symm,by rw[S3,W]⟩
theorem Ag {g:Nat} {ks:Λ} (X:ks.length=6) (Y:n<=6) (J:cs=ints .i8 ks) (U:af w g cp cs):aJ .i8 w (.slice (σ (if 6=0 then⟨g,0,ν⟩ else⟨g,0+0*1,ν⟩)) (n-0) (6-0)) (ks.take n):=by
 subst J;rw[if_neg Ω];unfold aJ;have V:(ks.take n).length=n:=by rw[o4];omega
 rw[V];refine⟨Θ,g,0,_,6,rfl,Ω,by simp[maxLen],λ_=>rfl,λj v I=>?_⟩;have W:=(x4.1 I).1;refine U.range j v ?_;rw[ints,List.map_take,Y2 (by simp[ints] at W;omega)] at I;exact I
def Ix (D L:Told):Prop:=L.Perm D/\ru (λp=>fC (pad p.1)) L 0 L.length
theorem Iy {g:Nat} {D:Told} (h:en w g m szs k o D) (bB:D.length<65536):ak x3 EH [Γ g] w λv w'=>Ext w w'/\ ∃L:Told,Ix D L/\bi (eA w.heap.size) bu w' [v] L:=by
 obtain⟨⟨sv,gs,aJ,hm⟩,bC,I,cd,aZ⟩:=id h;have bD:nT (D.map λp=>pad p.1):=λks bF=>by
  obtain⟨p,bG,rfl⟩:=Z1.1 bF;exact pf I (aZ p bG).1
 refine aB func222 ?_;rw[cC ey.u];simp only[Z0,aS];rw[ay,ac e1.p rfl,ad Ψ (aJ.Q3 rfl)];refine Hz.mono ?_;rintro _ U _ ⟨aK,ba,rfl,ce,bI⟩;refine (Iw (KS:=D.map λp=>pad p.1) bI (bC.ext aK) (by rw[List.map_map,List.map_map];rfl) bD (by simpa using bB)).mono ?_;rintro cg V _ ⟨a1,ch,M,bJ,bK,a2⟩;obtain⟨L,aL,az⟩:=Af bJ;have a6:M.length=L.length:=by rw[<-az];simp
 have ci:=aL.length_eq;have s1:=aK.size;have cj:=a1.size;have a7:=aK.trans a1;rw[c9 h6.u a2];refine bE.range L.length (λi out J=>Ext V J/\bi (eA V.heap.size) bu J [out] (L.take i)) Ω ⟨Ext.refl _,by rw[List.take_zero];exact fx⟩ ?_ ?_
 rotate_left
 .rintro out J bL ⟨al,aA⟩;rw[a6];simp only[aq,ae];refine⟨λh=>Ω,λ_=>⟨a7.trans al,L,⟨aL,λp q x y h1 bM ck bN bO=>?_⟩,?_⟩⟩
  .exact bK p q (pad x.1) (pad y.1) h1 bM Ω (by rw[<-az,x8,bN];rfl) (by rw[<-az,x8,bO];rfl)
  .rw[o9] at aA;exact am.mono aA (λr _ h=>by have h:V.heap.size<=r:=h;show w.heap.size<=r;omega) λ_ _ h=>h
 rintro i out J bL hi ⟨al,aA⟩ bQ;obtain⟨⟨t,c⟩,aM⟩:∃p,L[i]? =σ p:=⟨_,y0 hi⟩;have aO:(t,c)∈D:=aL.mem_iff.1 (x5 aM);have aP:=(aZ _ aO).1;have a8:=tT I aP;have aQ:t.length=szs.length:=a8.1;have bb:=I.1;have bR:jR (pad t):=pf I aP;have aC:=bR.1;have bS:M[i]? =σ (pad t):=by rw[<-az,x8,aM];rfl
 rw[a6];simp only[aq,ae];refine⟨λ_=>?_,λh=>Ω⟩;rw[HN rfl (a2.ext al) bS];refine bp cp.i λan cl cm bc be=>?_;refine pe aC rfl be λbT bU cn aD=>?_;have cq:=bc.size;have cr:=be.lt;have bV:Ext J bT:=bc.then bU (λr aF he=>by have he:r=an:=he;omega);intro bf av _ _;have aR:=bV.trans av;have aU:=(a7.trans al).trans aR;have bj:=h.ext aU;obtain⟨⟨ct,cu,cw,cz⟩,cA,_⟩:=id bj;have cB:=aR.size;rw[ay,ac e1.p rfl,ad Ψ ((aJ.ext aU).Q3 rfl),mz aC (aD.ext av).range];refine Ht bj aP (λW bW=>?_) (λbX=>absurd rfl (bX _ aO));have bY:W=c:=by
  have:=zl h.nodup bW aO rfl;exact congrArg Prod.snd this
 subst bY;simp only[Bool.false_eq_true,if_false];rw[cW (cs:=#[.slice ν 0 0,Δ W]) Ψ];refine bp fu.i λY cD cE aV bk=>?_;refine⟨.inl aV,?_⟩;refine bH (vs:=[.slice ν 0 0,Δ W]) fu.i rfl rfl (by intro v bl;simp at bl;rcases bl with rfl|rfl<;>rfl) bk λao bZ cF bm=>?_;have cG:=aV.size;have cH:=bk.lt;have aG:Ext bf ao:=aV.then bZ (λr aF he=>by have he:r=Y:=he;omega);have bo:=aR.trans aG;have bq:=aU.trans aG;rw[ay,ac e1.p rfl,ad Ψ ((aJ.ext bq).Q0 rfl),aT ai.u (hm.ls.ext bq)];rw[qQ cp.u fh.i (l:=0) (h:=szs.length) (m:=6) hB (ma _ _ rfl) ez Ω Ω Ω];have br:=Ag aC bb rfl ((aD.ext av).ext aG);rw[<-aQ,zg] at br;rw[<-aQ,aT jH.u br];have b0:=(aD.ext av).ext aG;have cI:an<bf.heap.size:=(aD.ext av).lt;have cJ:Y<ao.heap.size:=bm.lt;refine bP.range t.length (λj X=>ag (λr=>r=Y\/ao.heap.size<=r) ao X/\ ∃aE ap,ao.heap.size<=ap/\af X Y fu [aE,Δ W]/\au .i64 ab X ap aE (t.take j)) Ω ⟨ag.refl _ _,_,ao.heap.size,o8 _,bm,au.nil _ _ _ _⟩ ?_ ?_
 .rintro j X b1 b2 ⟨ah,aE,ap,b3,aH,aI⟩ b4;obtain⟨x,aX⟩:∃x,t[j]? =σ x:=⟨_,y0 b2⟩;have cK:=a8.2 x (x5 aX);have cL:Ext J X:=bo.then ah (λr aF he=>by rcases he with rfl|he<;>omega);have bt:=Ag aC bb rfl (b0.aa ah (λhe=>by rcases he with he|he<;>omega));rw[<-aQ,zg] at bt;simp only[aq,ae];refine⟨λ_=>?_,λh=>Ω⟩;rw[bd jH.u fh.i Ψ bt aX,ac fu.p rfl,ad Ψ (aH.Q0 rfl),e2 fh.u ab.u,wrap_i64 Ω Ω];refine dx ai.u ab.i rfl λa aW b5 cM aj b6=>?_;refine hD ai.u ab.i rfl (aI.ext aj) b6.ls Θ Θ λbw bx b7 cN aw ax=>?_;have b8:=ah.size;have b9:=aj.size;have cO:=ax.size;rw[ac fu.p rfl];refine bh (g:=Y) (o:=0) ai.i aw.ls.cells.1 aw.ls.cells.2 ((aH.ext aj).aa ax (λhe=>by have he:Y=ap:=he;omega)) Ξ λcP bz cQ ca=>?_;simp only[aN];refine b4 _ ⟨((ah.trans (aj.aa _)).trans (ax.mono λr _ he=>.inr (by have he:r=ap:=he;omega))).trans (bz.mono λr _ he=>.inl he),bw,bx,Ω,ca,?_⟩;rw[r8,aX];exact aw.aa bz (λ_ he=>by have he:bx=Y:=he;omega)
 .rintro X b1 ⟨ah,aE,ap,b3,aH,aI⟩;simp only[aq,ae];refine⟨λh=>Ω,λ_=>?_⟩;rw[o9] at aI;rw[bn fu.p fu.i rfl aH.range];have b8:=ah.size;have cb:Ext J X:=bo.then ah (λr aF he=>by rcases he with rfl|he<;>omega);have bA:bi (eA J.heap.size) bu X [aE,Δ W] (t,W):=⟨[aE],[Δ W],eA J.heap.size,bu,rfl,λ_ h=>h,λ_ h=>h.elim,λ_ _ _ h=>h,am.mono (mi aI) (λr _ h=>by subst h;show J.heap.size<=r;omega) (λ_ _ h=>h),rfl⟩;refine gN (α:=Λ×Int) (a:=(t,W)) (cs:=[aE,Δ W]) (A:=eA J.heap.size) (R:=bu) nm.u fu.i Φ rfl bA λu b5 aj _ cc=>?_;have aY:=cb.trans aj;have b9:=aY.size;refine mh (α:=Λ×Int) (a:=(t,W)) (A:=eA J.heap.size) nm.u fu.i rfl (bg (kB aA) aY) cc (bg bA aj) (λr _ h h'=>?_) Θ Θ λbw b7 aw ax=>?_
  .rcases h' with h'|h'
   .have:=h.2;have:J.heap.size<=r:=h';omega
   .exact h'
  simp only[aN];have cR:=al.size;refine bQ _ _ ⟨(al.trans aY).then ax (λr aF h=>by have h:=h.1;have h:V.heap.size<=r:=h;omega),?_⟩;rw[r8,aM];refine am.mono aw (λr _ h=>?_) λ_ _ h=>h;show V.heap.size<=r;rcases h with h|h|h
  .exact h.1
  .have h:J.heap.size<=r:=h;omega
  .omega
theorem Ah {s:Λ} (I:dN s):t∈bm s↔c6 s t:=by
 refine⟨λh=>?_,λ⟨n,h⟩=>x5 (oX I h)⟩;obtain⟨i,hi⟩:=Y7.1 h;exact⟨_,nF I hi⟩
theorem Ai:∀ {s:Λ},dN s->(bm s).Pairwise λa b=>fC a<fC b
 |[],_=>by simp[bm]
 |k::s,I=>by
  have ab:=Ai I.tail;have U:∀t∈bm s,0<=fC t/\fC t<32 ^ s.length:=λt W=>by
   have ac:=(Ah I.tail).1 W;have h1:=mu.1 ac;have Y:=rt t λx X=>by
    obtain⟨i,hi,rfl⟩:=List.getElem_of_mem X;obtain⟨a,J⟩:∃a,s[i]? =σ a:=⟨_,y0 Ω⟩;have ae:=h1.2 i a _ J (y0 hi);have af:=(I.tail a (x5 J)).2;omega
   rw[h1.1];exact Y
  have V:∀t∈bm s,t.length=s.length:=λt W=>tl W;show ((W3 k.toNat).flatMap λ(v:Nat)=>(bm s).map λt=>(v:Int)::t).Pairwise _;rw[List.pairwise_flatMap];refine⟨λv _=>?_,?_⟩
  .rw[List.pairwise_map];refine ab.imp_of_mem λ{a b} J U h=>?_;simp only[fC,V a J,V b U];omega
  .refine List.pairwise_lt_range.imp λ{u v} ag x X y ad=>?_;obtain⟨a,J,rfl⟩:=Z1.1 X;obtain⟨b,aa,rfl⟩:=Z1.1 ad;simp only[fC,V a J,V b aa];have h1:=U a J;have Y:=U b aa;have:=Int.mul_le_mul_of_nonneg_right (show (u:Int)+1<=v by omega) (show (0:Int)<=32 ^ s.length by have:=tX s.length;omega);rw[Int.add_mul,Int.one_mul] at this;omega
theorem Iz {D L:Told} (U:(D.map (·.1)).Nodup) (I:L.Perm D) (t:Λ):hl L o t=hl D o t:=by
 have W:(L.map (·.1)).Nodup:=(I.map (·.1)).nodup_iff.2 U;by_cases he:∃p∈D,p.1=t
 .obtain⟨p,V,rfl⟩:=he;rw[pg U (c:=p.2) V,pg W (c:=p.2) (I.mem_iff.2 V)]
 .rw[ph λp h1 J=>he ⟨p,h1,J⟩,ph λp h1 J=>he ⟨p,I.mem_iff.1 h1,J⟩]
def ho (szs:Λ) (f:Λ->Int) (cs:Λ):Prop:=cs.length=(aM szs).toNat/\ ∀t,c6 szs t->cM szs cs t=f t
theorem ho.eq {f:Λ->Int} {cs J:Λ} (I:dN szs) (h1:ho szs f cs) (U:ho szs f J):cs=J:=GI I h1.1 U.1 λt V=>by rw[h1.2 t V,U.2 t V]
theorem ho.congr {f I:Λ->Int} {cs:Λ} (h:ho szs f cs) (he:∀t,c6 szs t->f t=I t):ho szs I cs:=⟨h.1,λt J=>by rw[h.2 t J,he t J]⟩
theorem uk (I:dN szs) (h:c6 szs t):∃n:Nat,ct szs t 0=σ (n:Int)/\n<(aM szs).toNat:=by
 obtain⟨n,J⟩:=h;have:=mj I J;simp only[Int.zero_mul,Int.zero_add,Int.one_mul] at this;exact⟨n.toNat,by rw[J];congr 1;omega,Ω⟩
theorem IA (I:dN szs) (c:Int):ho szs (λ_=>c) (o7 (aM szs).toNat c):=⟨Ξ,λt J=>by
 obtain⟨n,U,V⟩:=uk I J;unfold cM;rw[U];simp only[j0,u5,List.getElem?_replicate,V,if_true,T4]⟩
theorem ho.put {f:Λ->Int} {cs:Λ} (I:dN szs) (h:ho szs f cs) (X:c6 szs t) (Y:cQ c k):ho szs (λs=>if s=t then c else f s) (nv szs t k c cs):=by
 obtain⟨n,U,aa⟩:=uk I X;unfold nv;rw[U];simp only[Y,if_true,j0];refine⟨by simp[h.1],λs W=>?_⟩;obtain⟨m,hm,ab⟩:=uk I W;have J:=h.2 s W;unfold cM at J ⊢;rw[hm] at J ⊢;simp only[j0] at J ⊢;by_cases he:s=t
 .subst he;rw[U] at hm;have V:n=m:=by have:=Z8 hm;omega
  subst V;rw[if_pos rfl,u5,V9 (by rw[h.1];exact aa)];rfl
 .rw[if_neg he,u5,W8 (λV=>he ?_),<-u5,J];subst V;rw[<-yI I hm,<-yI I U]
def IB (w:x2) (szs:Λ) (k o:Int) (D:Told) (v:x1) (w':x2):Prop:=Ext w w'/\(4096<aM szs->v= .tuple #[.pointer ν,Δ 5])/\
 (aM szs<=4096-> ∃g I sv cs,v= .tuple #[Γ g,Δ 0]/\w.heap.size<=g/\w.heap.size<=I/\cR w' g I sv szs k cs/\ho szs (hl D o) cs)
theorem Aj {g:Nat} {D:Told} (h:en w g m szs k o D) (aH:D.length<65536):ak x3 D4 [Γ g] w (IB w szs k o D):=by
 obtain⟨⟨sv,gs,aI,hm⟩,br,I,aJ,aO⟩:=id h;have ax:=h.nodup;refine aB func163 ?_;rw[cC ey.u];simp only[Z0,aS];intro U J _ _;have al:=aI.ext J;rw[ay,ac e1.p rfl,ad Ψ (al.Q0 rfl),ay,ac e1.p rfl,ad Ψ (al.Q1 rfl),ay,ac e1.p rfl,ad Ψ (al.Q2 rfl)];refine (qS (hm.ls.ext J)).mono ?_;rintro _ V _ ⟨ab,_,aP,_,aQ⟩;by_cases af:aM szs<=4096
 rotate_left
 .have:=aP I Ω;subst this;rw[aK (v:=.pointer ν) rfl,aK (v:=Δ 5) rfl];simp only[bG,ae];exact⟨λ_=>⟨J.trans ab,λ_=>rfl,λh=>absurd h af⟩,λh=>by simp at h⟩
 obtain⟨an,W,aE,rfl,bt,bu,_,az⟩:=aQ I af aJ;rw[aK (v:=Γ an) rfl,aK (v:=Δ 0) rfl];simp only[bG,ae];refine⟨λh=>absurd rfl h,λ_=>?_⟩;have s1:=J.size;have bw:=ab.size;refine (Iy ((h.ext J).ext ab) aH).mono ?_;rintro bx aR _ ⟨ao,L,ah,aA⟩;have bz:=ao.size;have bA:W<V.heap.size:=by
  obtain⟨⟨aL,bB,_,_,aT⟩,⟨_,_,bC⟩,aU,aV⟩:=id az;have bD:=kH aU.2;obtain⟨_,⟨_,aW⟩|⟨cap,cs,_,aX,_⟩⟩:=aT
  .rw[aV] at aW;omega
  .exact aX.lt
 have bE:=ah.1.length_eq;rw[eP nm.u aA];refine bP.range L.length (λi X=>ag (λr=>r=W) aR X/\ ∃cs,cR X an W aE szs k cs/\ho szs (hl (L.take i) o) cs) Ω ⟨ag.refl _ _,_,az.ext ao,by rw[List.take_zero];exact IA I.2 o⟩ ?_ ?_
 .rintro i X aY hi ⟨ai,cs,ap,aj⟩ aZ;simp only[aq,ae];refine⟨λ_=>?_,λh=>Ω⟩;obtain⟨⟨t,c⟩,Y⟩:∃p,L[i]? =σ p:=⟨_,y0 hi⟩;have a1:(t,c)∈D:=ah.1.mem_iff.1 (x5 Y);obtain⟨a2,a6,a7⟩:=aO _ a1;have a8:=am.aa aA ai λr aC ba he=>by
   have he:r=W:=he;rcases ba with h|h
   .have h:V.heap.size<=r:=h;omega
   .exact h
  refine iy (α:=Λ×Int) fu.p rfl nm.u fu.i a8 Y λus bb=>?_;obtain⟨bF,bc,A,B,rfl,bI,bJ,_,h1,bd⟩:=bb;have be:bc=[Δ c]:=bd;subst be;obtain⟨bf,rfl,_⟩:=id h1;have hu:=dZ h1;refine bp fu.i λbg bK bL bh aD=>?_;refine bH (vs:=[bf,Δ c]) fu.i rfl rfl (by intro v aF;simp at aF;rcases aF with rfl|rfl;exact hu.cells.2;rfl) aD λbi bj bM aG=>?_;have bN:=aD.lt;have au:Ext X bi:=bh.then bj (λr aC he=>by have he:r=bg:=he;omega);rw[ac fu.p rfl,ad Ψ (aG.Q0 rfl),ac fu.p rfl,ad Ψ (aG.Q1 rfl)];refine (xT (ap.ext au) (hu.ext au)).mono ?_;rintro _ bO _ ⟨rfl,bk,bl⟩;simp only[aN];refine aZ _ ⟨(ai.trans (au.aa _)).trans bk,_,bl,(aj.put I.2 a2 a6).congr λs bQ=>?_⟩;rw[r8,Y];have av:(L.map (·.1)).Nodup:=(ah.1.map (·.1)).nodup_iff.2 ax;have bm:∀p∈L.take i,p.1≠t:=λp af he=>by
   obtain⟨j,aw⟩:=Y7.1 af;have bn:j<i:=by have:=(x4.1 aw).1;rw[o4] at this;omega
   rw[Y2 bn] at aw;have:=ji av (i:=j) (j:=i) (x:=t) (by rw[x8,aw,Y0,he]) (by rw[x8,Y];rfl);omega
  have bo:((L.take i).map (·.1)).Nodup:=by rw[List.map_take];exact (List.take_sublist _ _).nodup av
  have bq:((L.take i++[(t,c)]).map (·.1)).Nodup:=by
   have e:L.take i++[(t,c)]=L.take (i+1):=by rw[r8,Y];rfl
   rw[e,List.map_take];exact (List.take_sublist _ _).nodup av
  exact ((zm bm a7).cost bo bq s).symm
 .rintro X aY ⟨ai,cs,ap,aj⟩;simp only[aq,ae];refine⟨λh=>Ω,λ_=>?_⟩;rw[o9] at aj;exact⟨((J.trans ab).trans ao).then ai (λr aC he=>by have he:r=W:=he;omega),λh=>Ω,λ_=>⟨an,W,aE,cs,rfl,Ω,Ω,ap,aj.congr λs _=>Iz ax ah.1 s⟩⟩
theorem IC {s cs:Λ} (I:dN s) (J:cs.length=(aM s).toNat) {i:Nat} (h:(bm s)[i]? =σ t):cs[i]? =σ (cM s cs t):=by
 have hi:=(x4.1 h).1;rw[hd I,<-J] at hi;unfold cM;rw[nF I h];simp only[j0,u5,y0 hi,T4]
theorem nY {k:o6} {g:Nat} (h:au k e w g v l) (J:0<l.length):g<w.heap.size:=by
 obtain⟨_,⟨_,h1⟩|⟨_,_,_,I,_⟩⟩:=h
 .omega
 .exact I.lt
def e7 (w:x2) (g m:Nat) (sv:x1) (gs:Nat) (szs:Λ) (k o:Int) (D:Told):Prop:=
 af w g e1 [sv,Δ k,Δ o,.map (σ m)]/\au .i64 ab w gs sv szs/\cS w m (D.map iD)/\bS szs/\cQ o k/\ ∀p∈D,c6 szs p.1/\cQ p.2 k/\p.2≠o
theorem e7.is {g:Nat} {D:Told} (h:e7 w g m sv gs szs k o D):en w g m szs k o D:=⟨⟨sv,gs,h.1,h.2.1⟩,h.2.2⟩
theorem en.at {g:Nat} {D:Told} (h:en w g m szs k o D):∃sv gs,e7 w g m sv gs szs k o D:=by
 obtain⟨⟨sv,gs,h1,I⟩,J⟩:=h;exact⟨sv,gs,h1,I,J⟩
theorem e7.ext {g:Nat} {D:Told} (h:e7 w g m sv gs szs k o D) (I:Ext w w'):e7 w' g m sv gs szs k o D:=by
 obtain⟨h1,J,U,V⟩:=h;exact⟨h1.ext I,J.ext I,U.ext I,V⟩
theorem e7.aa {g:Nat} {D:Told} (h:e7 w g m sv gs szs k o D) (J:ag S w w') (U:¬S g) (hm:¬S m) (I:∀r,leads sv r->¬S r):e7 w' g m sv gs szs k o D:=by
 obtain⟨h1,V,W,X⟩:=h;exact⟨h1.aa J U,bc V J I,W.aa J hm,X⟩
theorem rF {g:Nat} {d:List (x1×x1)} (h:af w g e cs) (hm:cS w m d):g≠m:=by
 rintro rfl;obtain⟨I,c,h1,_⟩:=hm;unfold af at h;rw[h1] at h;cases h
theorem Ak {g:Nat} {k:o6} {d:List (x1×x1)} (h:au k e w g v l) (hm:cS w m d) {r:Nat} (I:leads v r):r≠m:=by
 obtain⟨rfl,_⟩:=bA h I;obtain⟨_,⟨rfl,_⟩|⟨_,_,_,J,_⟩⟩:=h
 .obtain⟨a,n,c,h,_⟩:=I;cases h
 .exact rF J hm
theorem e7.put {g:Nat} {D I:Told} (h:e7 w g m sv gs szs k o D) (J:ag (λr=>r=m) w w') (h':en w' g m szs k o I):e7 w' g m sv gs szs k o I:=
 ⟨h.1.aa J (λhe=>rF h.1 h.2.2.1 he),bc h.2.1 J (λr U he=>Ak h.2.1 h.2.2.1 U he),h'.2⟩
theorem e7.o3 {g:Nat} {D:Told} (h:e7 w g m sv gs szs k o D):g<w.heap.size/\m<w.heap.size/\ ∀r,leads sv r->r<w.heap.size:=
 ⟨h.1.lt,h.2.2.1.lt,λr I=>by obtain⟨rfl,J⟩:=bA h.2.1 I;exact J⟩
instance (s t:Λ):Decidable (c6 s t):=decidable_of_iff ((ct s t 0).isSome=true) ⟨λh=>by
 cases I:ct s t 0 with
 |none=>rw[I] at h;cases h
 |some n=>exact⟨n,I⟩,λ⟨n,h⟩=>by rw[h];rfl⟩
theorem rG (h:aJ .i64 w sv l) (an:l.length<=1000000):ak x3 xc [sv] w λv w'=>Ext w w'/\ ∃g,w.heap.size<=g/\au .i64 ab w' g v l:=by
 refine aB func154 ?_;rw[aT aw.u h];refine i9 (k:=.i64) ai.u ab.i Ω Ω λg U ap W X=>?_;have ac:au .i64 ab U g (.slice (σ ⟨g,0,ν⟩) l.length l.length) (o7 l.length 0):=by
  have:=bU.full (k:=1) (n:=l.length) X Ξ (by simp[maxLen];omega);exact au.of this
 rw[aT aw.u (h.ext W)];have av:=X.lt;refine bP.range l.length (λi V=>ag (λr=>r=g) U V/\au .i64 ab V g (.slice (σ ⟨g,0,ν⟩) l.length l.length) (l.take i++o7 (l.length-i) 0)) h.le ⟨ag.refl _ _,by simpa using ac⟩ ?_ ?_
 rotate_left
 .rintro V ad ⟨J,I⟩;rw[aq,ae];rw[o9,W9,List.replicate_zero,X6] at I;exact⟨λh=>Ω,λ_=>⟨W.then J (λr af he=>by have he:r=g:=he;omega),g,Ω,I⟩⟩
 rintro i V ad hi ⟨J,I⟩ ah;obtain⟨x,Y⟩:∃x,l[i]? =σ x:=⟨_,y0 hi⟩;have aj:Ext w V:=W.then J (λr af he=>by have he:r=g:=he;omega);refine Υ λ_=>?_;rw[bd aw.u ao.i Ψ (h.ext aj) Y];rw[gx rfl ai.u ab.i I Θ];refine gy ab.i I Θ λax al ay aa=>?_;rw[aN];refine ah _ ⟨J.trans al,?_⟩;have e:(l.take i++o7 (l.length-i) 0).set i x=l.take (i+1)++o7 (l.length-(i+1)) 0:=by
  have am:(l.take i).length=i:=by rw[o4];omega
  rw[U9 _ _ Ω,am,W9,show l.length-i=(l.length-(i+1))+1 by omega,List.replicate_succ,List.set_cons_zero,r8,Y,Z4,X1];rfl
 rw[e] at aa;exact aa
def ID (w:x2) (l:Λ) (k o:Int) (v:x1) (w':x2):Prop:=
 Ext w w'/\(¬bS l->v= .tuple #[.pointer ν,Δ 1])/\(bS l->¬cQ o k->v= .tuple #[.pointer ν,Δ 3])/\
  (bS l->cQ o k-> ∃g m sv gs,v= .tuple #[Γ g,Δ 0]/\w.heap.size<=g/\w.heap.size<=m/\(∀r,leads sv r->w.heap.size<=r)/\e7 w' g m sv gs l k o [])
theorem IE (h:aJ .i64 w sv l):ak x3 ni [sv,Δ k,Δ o] w (ID w l k o):=by
 refine aB func205 ?_;refine aQ (λv U=>Ext w U/\ ∃c,v= .bool c/\(c=true↔¬bS l)) ?_ ?_
 .rintro _ U ⟨W,c,rfl,X⟩;rw[bD];refine⟨λac=>⟨W,λ_=>rfl,λh=>absurd h (X.1 ac),λh=>absurd h (X.1 ac)⟩,λag=>?_⟩;have I:bS l:=Classical.byContradiction λh=>by have:=X.2 h;rw[ag] at this;cases this
  have ao:=I.1;refine kD.mono ?_;rintro _ V _ ⟨rfl,J⟩;by_cases hi:cQ o k
  rotate_left
  .simp only[hi,decide_false,bf,X5,bQ];exact⟨W.trans J,λh=>absurd I h,λ_ _=>rfl,λ_ h=>absurd h hi⟩
  simp only[hi,decide_true,bf,Y1,aS];refine (hF ((h.ext W).ext J) Ω).mono ?_;rintro aE ap _ ⟨ad,ah,aq,hm⟩;have au:=hm.ls.cells;refine rl λm av aw Y aj=>?_;rw[cW (cs:=#[aE,Δ k,Δ o,.map (σ m)]) (by obtain⟨_,_,_,_,_,rfl,_⟩:=hm.ls;kernel_rfl)];refine bN λg ax ay aa al=>?_;have s1:=W.size;have az:=J.size;have aA:=ad.size;have aC:=Y.size;exact⟨((((W.trans J).trans ad).trans Y).trans aa),λh=>absurd I h,λ_ h=>absurd hi h,λ_ _=>⟨g,m,aE,ah,rfl,Ω,Ω,λr am=>by have:=(bA hm am).1;omega,al,(hm.ext Y).ext aa,aj.ext aa,I,hi,λp an=>by cases an⟩⟩
 .intro aD af;rw[aT ai.u h];simp only[bR,ae];refine⟨λaF=>af _ _ ⟨Ext.refl _,true,rfl,λ_ I=>by have:=I.1;omega,λ_=>rfl⟩,λaG=>?_⟩;refine (zh h).mono ?_;rintro _ V _ ⟨rfl,J⟩;refine af _ _ ⟨J,_,rfl,?_⟩;rw[decide_eq_true_eq];exact⟨λab I=>ab I.2,λab I=>ab ⟨Ω,I⟩⟩
structure Al where
 szs:Λ
 k:Int
 o:Int
 D:Told
instance Nd:am Al where
 n:=1
 rep _ _ R w cs a:=∃g m sv gs,cs=[Γ g]/\e7 w g m sv gs a.szs a.k a.o a.D/\R g/\R m/\ ∀r,leads sv r->R r
 len:=by rintro _ _ _ _ _ _ ⟨_,_,_,_,rfl,_⟩;rfl
 one:=by rintro _ _ _ _ _ _ ⟨_,_,_,_,rfl,_⟩ u hu;simp at hu;subst hu;rfl
 aa:=by
  rintro _ _ R T w w' _ a ⟨g,m,sv,gs,rfl,h1,J,U,V⟩ ad W;obtain⟨X,Y,ab⟩:=h1.o3;exact⟨g,m,sv,gs,rfl,h1.aa ad (W g X (.inr J)) (W m Y (.inr U)) λr I=>W r (ab r I) (.inr (V r I)),J,U,V⟩
 mono:=by
  rintro _ _ _ R R' w _ a ⟨g,m,sv,gs,rfl,h1,J,U,V⟩ _ ac;obtain⟨X,Y,ab⟩:=h1.o3;exact⟨g,m,sv,gs,rfl,h1,ac g X J,ac m Y U,λr I=>ac r (ab r I) (V r I)⟩
 gJ:=by
  rintro _ _ R w _ a ⟨g,m,sv,gs,rfl,h1,J,U,V⟩;exact⟨g,m,sv,gs,rfl,h1,.inr J,.inr U,λr I=>.inr (V r I)⟩
abbrev gk:Type:=Rd (Λ)×Al
def ps (k:Int) (x:cg) (f:gk):Prop:=f.1=x.scope/\f.2.szs=x.sizes/\f.2.k=k/\f.2.o=min x.other k/\f.2.D.length<=x.lines.length/\ ∀t,hl f.2.D f.2.o t=iC x k t
theorem IF {m:Bool} {S R:aj} {x:cg} (h:am.rep m S R w cs (gj x)):∃az av bY,cs=[az,av,Δ x.other,bY]/\am.rep (α:=Λ) false bu R w [az] x.scope/\am.rep (α:=Λ) false bu R w [av] x.sizes/\am.rep (α:=List (Λ×Int)) false bu R w [bY] x.lines:=by
 obtain⟨V,d1,Y,aa,rfl,_,_,_,h1,W,d2,ab,ac,rfl,_,_,_,I,X,d3,ad,ae,rfl,_,_,_,U,J⟩:=h;have h1:am.rep (α:=Λ) false bu R w V x.scope:=h1;have I:am.rep (α:=Λ) false bu R w W x.sizes:=I;have U:X=[Δ x.other]:=U;have J:am.rep (α:=List (Λ×Int)) false bu R w d3 x.lines:=J;obtain⟨u,rfl⟩:=X9.1 (show V.length=1 from am.len h1);obtain⟨v,rfl⟩:=X9.1 (show W.length=1 from am.len I);obtain⟨y,rfl⟩:=X9.1 (show d3.length=1 from am.len J);subst U;exact⟨u,v,y,rfl,h1,I,J⟩
theorem IG {m:Bool} {S R:aj} {p:Λ×Int} (h:am.rep m S R w cs p):∃aE,cs=[aE,Δ p.2]/\aJ .i64 w aE p.1:=by
 obtain⟨J,d1,U,V,rfl,_,_,_,h1,I⟩:=h;obtain⟨u,rfl⟩:=X9.1 (show J.length=1 from am.len h1);have I:d1=[Δ p.2]:=I;subst I;exact⟨u,rfl,dZ h1⟩
structure rH (k:Int) (x:cg):Prop where
 k:right k
 sizes:bS x.sizes
 other:0<=x.other
 lines:lv x.sizes x.lines
 len:x.lines.length<=60000
 scope:x.scope.length<=100001
theorem bZ {k:o6} (h:aJ k w v l):∃a n c,v= .slice a n c:=by
 obtain⟨_,b,o,base,cap,rfl,_⟩:=h;exact⟨_,_,_,rfl⟩
theorem IH {aW:Nat} {bl bm bn:x1} {K:Int} {R:aj} {x:cg} (aX:af w aW cr [bl,Δ K,bm,bn]) (bq:Seen R w cs (gj x)) (br:rH K x):
  ak x3 s8 [Γ aW,.agg cs.toArray] w λv w'=>Ext w w'/\ ∃bo,∃f:gk,v= .agg bo.toArray/\bo.length=2/\Seen (eA w.heap.size) w' bo f/\ps K x f:=by
 obtain⟨az,av,bY,rfl,h1,aY,aL⟩:=IF bq;obtain⟨aC,aM,b2,aZ,b3,b4⟩:=br;have b5:x.sizes.length<=6:=aM.1;refine aB func155 ?_;refine bN λan U b6 a1 X=>?_;have X:af U an b1 [az,av,Δ x.other,bY]:=by
  obtain⟨_,_,_,rfl⟩:=kK h1;obtain⟨_,_,_,rfl⟩:=kK aY;obtain⟨_,_,_,rfl⟩:=kK aL;exact X
 refine bp cn.i λY V b7 aO aD=>?_;have aD:af V Y cn [.slice ν 0 0,.pointer ν]:=aD;intro b8 aF _ _;have aP:=(a1.trans aO).trans aF;have aQ:=aO.trans aF;have b9:=a1.size;have ca:=aO.size;have z3:=aF.size;have cb:=aD.lt;have a2:=aX.ext aP;rw[ac b1.p rfl,ad Ψ ((X.ext aQ).Q1 rfl),ay,ac cr.p rfl,ad Ψ (a2.Q1 rfl),
  ac b1.p rfl,ad Ψ ((X.ext aQ).Q2 rfl),ay,ac cr.p rfl,ad Ψ (a2.Q1 rfl),iv]
 refine (rG ((dZ aY).ext aP) Ω).mono ?_;rintro cc cd _ ⟨al,ce,ch,bt⟩;refine⟨.inl al,?_⟩;have z4:=al.size;have bw:cQ (min x.other K) K:=⟨aC,by have:=aC.1;omega,Ω⟩;refine (IE bt.ls).mono ?_;rintro _ bx _ ⟨aG,_,_,bz⟩;obtain⟨ah,m,sv,gs,rfl,ci,cj,a6,bB⟩:=bz aM bw;rw[aK (v:=Γ ah) rfl,aK (v:=Δ 0) rfl];have z5:=aG.size;have aR:=(aP.trans al).trans aG;have a7:=(aQ.trans al).trans aG;rw[ac b1.p rfl,ad Ψ ((X.ext a7).Q3 rfl)];have a8:=bg aL aR;rw[eP hy.u a8];refine bP.range x.lines.length (λi J=>ag (λr=>r=m) bx J/\ ∃D,D.length<=i/\e7 J ah m sv gs x.sizes K (min x.other K) D/\ ∀t,hl D (min x.other K) t=jW x K i t) (ns a8) ⟨ag.refl _ _,[],o8 _,bB,λt=>by rw[Aa];rfl⟩ ?_ ?_
 .rintro i J bC hi ⟨W,D,ba,ao,aS⟩ bD;obtain⟨p,aT⟩:∃p,x.lines[i]? =σ p:=⟨_,y0 hi⟩;have bb:=aZ.2 p (x5 aT);have ap:Ext w J:=aR.then W (λr I he=>by have he:r=m:=he;omega);have bE:=W.size;have bF:am.rep (α:=List (Λ×Int)) false bu R J [bY] x.lines:=bg aL ap;refine Υ λ_=>?_;refine iy dL.p rfl hy.u dL.i bF aT λck bG=>?_;obtain⟨aE,rfl,bd⟩:=IG bG;refine bp dL.i λbI cl cm be bJ=>?_;have cp:=be.size;refine bH (vs:=[aE,Δ p.2]) dL.i rfl rfl (by intro v aw;simp at aw;rcases aw with rfl|rfl<;>first|exact bd.cells.2|rfl) bJ λbK bL cq bf=>?_;have bM:Ext J bK:=be.then bL (λr I he=>by have he:r=bI:=he;omega);intro ct aU _ _;have ai:=bM.trans aU;have z9:=ai.size;rw[ac dL.p rfl,ad Ψ ((bf.ext aU).Q0 rfl),ac dL.p rfl,ad Ψ ((bf.ext aU).Q1 rfl),ay,ac cr.p rfl,ad Ψ (((aX.ext ap).ext ai).Q1 rfl),iv];have cu:=tT aM bb.1;refine (rG (bd.ext ai) Ω).mono ?_;rintro cw cz _ ⟨ax,cA,cB,bO⟩;refine⟨.inl ax,?_⟩;have cC:=ax.size;refine (zp (c:=min p.2 K) ((ao.ext ai).ext ax).is bO.ls).mono ?_;rintro _ cD _ ⟨_,bQ⟩;have bR:cQ (min p.2 K) K:=⟨aC,by have:=aC.1;omega,Ω⟩;obtain⟨rfl,bh,bS,bi,bj⟩:=bQ ⟨bb.1,bR⟩;rw[aN];refine bD _ ⟨(W.trans ((ai.trans ax).aa _)).trans bh,bS,by have:=bi.2;omega,e7.put ((ao.ext ai).ext ax) bh bj,λt=>?_⟩;rw[Ac aZ.1 aT,bi.cost ao.is.nodup bj.nodup];by_cases aH:t=p.1
  .rw[if_pos aH,if_pos aH]
  .rw[if_neg aH,if_neg aH,aS]
 .rintro J bC ⟨W,D,ba,ao,aS⟩;have ap:Ext w J:=aR.then W (λr I he=>by have he:r=m:=he;omega);have bT:Ext U J:=a7.then W (λr I he=>by have he:r=m:=he;omega);have bE:=W.size;rw[aq,ae];refine⟨λh=>Ω,λ_=>?_⟩;rw[ac b1.p rfl,ad Ψ ((X.ext bT).Q0 rfl)];refine (rG ((dZ h1).ext ap) Ω).mono ?_;rintro aI cE _ ⟨aJ,bU,cF,aA⟩;have z12:=aJ.size;rw[cW (cs:=#[aI,Γ ah]) (by obtain⟨_,_,_,rfl⟩:=bZ aA.ls;kernel_rfl)];have bV:Ext V J:=((aF.trans al).trans aG).then W (λr I he=>by have he:r=m:=he;omega);refine bH (vs:=[aI,Γ ah]) cn.i rfl rfl (by intro v aw;simp at aw;rcases aw with rfl|rfl<;>first|exact aA.ls.cells.2|rfl) ((aD.ext bV).ext aJ) λbk aV cG bW=>?_;rw[eO cn.p cn.i rfl bW.range];have bX:e7 bk ah m sv gs x.sizes K (min x.other K) D:=(ao.ext aJ).aa aV (λhe=>by have he:ah=Y:=he;omega) (λhe=>by have he:m=Y:=he;omega) (λr I he=>by have he:r=Y:=he;have:=a6 r I;omega);have b0:au .i64 ab bk bU aI x.scope:=bc aA aV λr I he=>by have he:r=Y:=he;have:=(bA aA I).1;omega
  refine⟨(ap.trans aJ).then aV (λr I he=>by have he:r=Y:=he;omega),_,(x.scope,⟨x.sizes,K,min x.other K,D⟩),rfl,rfl,?_,rfl,rfl,rfl,rfl,ba,λt=>?_⟩
  .exact⟨[aI],[Γ ah],bu,bu,rfl,λ_ h=>h,λ_ h=>h,λ_ _ h _=>h,kL b0 λr I=>by have:=(bA aA I).1;show w.heap.size<=r;omega,
    ⟨ah,m,sv,gs,rfl,bX,by show w.heap.size<=ah;omega,by show w.heap.size<=m;omega,λr I=>by have:=a6 r I;show w.heap.size<=r;omega⟩⟩
  .rw[aS,Ab]
theorem II {S R:aj} {f:gk} (h:am.rep false S R w cs f):am.rep (α:=gk) true bu R w cs f:=by
 obtain⟨c,d,A,B,rfl,h1,U,_,I,J⟩:=h;exact⟨c,d,bu,bu,rfl,λ_ h=>h,λ_ h=>h,λ_ _ h _=>h,I,J⟩
def rI (k:Int) (I:List cg) (bC:List gk):Prop:=bC.length=I.length/\ ∀ (i:Nat) x f,I[i]? =σ x->bC[i]? =σ f->ps k x f
theorem IJ {I:Nat} {m:Bool} {S R:aj} {aF av aO:x1} {K:Int} {W:List cg} {a2:x2->Prop} (a6:af w I cr [aF,Δ K,av,.slice ν 0 0])
  (bq:am.rep m S R w [aO] (show List gC from W.map gj)) (br:∀r,S r\/R r->r≠I) (bt:∀x∈W,rH K x) (cc:W.length<=256)
  (bw:∀w' Y,∀bC:List gk,ag (λr=>r=I) w w'->af w' I cr [aF,Δ K,av,Y]->Seen (λr=>w.heap.size<=r) w' [Y] bC->rI K W bC->a2 w'):
  bP (Δ 0) w λaP al bx=>
   J x3 (aC .lss ab false false aP (Δ (W.length:Int))) al λbz=>
   Split bz (J x3 (n0 h5 aO aP) al λbA=>
   J x3 (x6 b1 bA) al λbB=>
   aA x3 (S7 b1 true (.tuple #[])) al λx bD=>
   aA x3 (o5 b1 x bB) bD λ(_:Unit) bE=>
   cm bE λai=>
   J x3 (aY (Γ I)) ai λao=>
   J x3 (x7 cr ao 3) ai λap=>
   J x3 (x6 dq ap) ai λaQ=>
   J x3 (x6 b1 x) ai λbF=>
   ak x3 s8 [(Γ I),bF] ai λbG au=>
    (Ext ai au\/bl x3 (x6 dq ap) aQ au/\bl x3 (x7 cr ao 3) ap au/\bl x3 (aY (Γ I)) ao au/\True)/\
   aA x3 (Z7 dq 1 #[(0,bG)]) au λbI aw=>
    (Ext ai aw\/bl x3 (x6 dq ap) aQ aw/\bl x3 (x7 cr ao 3) ap aw/\bl x3 (aY (Γ I)) ao aw/\True)/\
    aA x3 (l9 #[dq,dq] dq #[aQ,bI]) aw λbJ aR=>
     J x3 (aY (Γ I)) aR λbK=>
     J x3 (x7 cr bK 3) aR λbL=>
     aA x3 (o5 dq bL bJ) aR λ(_:Unit) a7=>
     J x3 (aC .add ab false true aP (Δ 1)) a7 λbM=>
   bx bM a7) (a2 al):=by
 have cd:=a6.lt;have ce:(W.map gj).length=W.length:=Ξ
 refine bP.range W.length (λi U=>ag (λr=>r=I) w U/\ ∃Y,∃bC:List gk,∃A R':aj,af U I cr [aF,Δ K,av,Y]/\bi A R' U [Y] bC/\(∀r,A r->w.heap.size<=r/\r<U.heap.size)/\(∀r,R' r->w.heap.size<=r/\¬A r/\r<U.heap.size)/\rI K (W.take i) bC) Ω
  ⟨ag.refl _ _,_,[],bu,bu,a6,fx,λ_ h=>h.elim,λ_ h=>h.elim,rfl,λi x f h=>by simp at h⟩ ?_ ?_
 rotate_left
 .rintro U bN ⟨ax,Y,bC,A,R',az,aS,ah,aB,aG⟩;rw[o9] at aG;rw[aq,ae];refine⟨λh=>Ω,λ_=>bw U Y bC ax az (oO aS λr _ h=>?_) aG⟩;exact h.elim (λh=>(ah r h).1) λh=>(aB r h).1
 rintro i U bN hi ⟨ax,Y,bC,A,R',az,aS,ah,aB,a8,aG⟩ bO;obtain⟨x,aT⟩:∃x,W[i]? =σ x:=⟨_,y0 hi⟩;have bQ:=bt x (x5 aT);have ch:=ax.size;rw[o4] at a8;have bR:am.rep m S R U [aO] (show List gC from W.map gj):=am.aa bq ax λr _ h he=>br r h he;refine Υ λ_=>?_;refine iy (α:=gC) (a:=gj x) b1.p rfl h5.u b1.i bR (by show (W.map gj)[i]? =_;rw[x8,aT];rfl) λcs aU=>?_;have ba:cs.length=4:=am.len aU;have bS:Seen (λr=>S r\/R r) U cs (gj x):=oO aU λr _ h=>h;refine bp b1.i λan V ci bb bT=>?_;have cj:=bb.size;refine bH (vs:=cs) b1.i ba rfl (am.one aU) bT λbU bV ck bW=>?_;have bX:Ext U bU:=bb.then bV (λr X he=>by have he:r=an:=he;omega);intro aH bc _ _;have aD:=bX.trans bc;have z4:=aD.size;rw[ay,ac cr.p rfl,ad Ψ ((az.ext aD).Q3 rfl),bn b1.p b1.i ba (bW.ext bc).range];refine (IH (az.ext aD) (bg bS aD) bQ).mono ?_;rintro _ aI _ ⟨aJ,bo,f,rfl,cl,bd,bY⟩;have z5:=aJ.size;refine⟨.inl aJ,?_⟩;have be:=II bd;have bZ:=aD.trans aJ;refine gN (α:=gk) (a:=f) (cs:=bo) (A:=bu) (R:=eA aH.heap.size) dq.u cn.i Φ (by
  obtain⟨c,d,cp,cq,he,_,_,_,aK,b0⟩:=bd;have aK:am.rep (α:=Λ) false bu _ aI c f.1:=aK;obtain⟨u,rfl⟩:=X9.1 (show c.length=1 from am.len aK);obtain⟨ct,cu,cw,cz,rfl,_⟩:=b0;obtain⟨_,_,_,rfl⟩:=kK aK;cases he;rfl) be λu aV aL _ hu=>?_
 have cA:=aL.size;refine⟨.inl (aJ.trans aL),?_⟩;have aW:=bZ.trans aL;have b2:bi A (λr=>R' r\/(aH.heap.size<=r/\r<aI.heap.size)) aV [Y] bC:=bg (am.mono aS (λ_ _ h=>h) λ_ _ h=>.inl h) aW;have b3:bi bu (λr=>R' r\/(aH.heap.size<=r/\r<aI.heap.size)) aV bo f:=bg (am.mono be (λ_ _ h=>h) λr X h=>.inr ⟨h,X⟩) aL;refine mh (α:=gk) (a:=f) (A:=bu) dq.u cn.i rfl b2 hu b3 (λr _ bf h=>?_) Ω Ω λbj b4 aX aZ=>?_
 .rcases h with h|h|h
  .exact h
  .exact (aB r h).2.1 bf
  .have:=(ah r bf).2;omega
 have cB:=aZ.size;rw[ay,ac cr.p rfl];have b5:=(az.ext aW).aa aZ (λhe=>by have:=(ah _ he).1;omega);refine bh (g:=I) (o:=3) dq.i (jK aX) (gd aX) b5 Ξ λb6 bk cC a1=>?_;have a1:af b6 I cr [aF,Δ K,av,bj]:=a1;rw[aN];have b7:=kB aX;refine bO _ ⟨(gf (ax.trans (aW.aa _)) aZ λr X he=>by have:=(ah _ he).1;omega).trans bk,bj,bC++[f],λr=>((A r\/bu r\/aV.heap.size<=r)/\r<b4.heap.size),λr=>R' r\/(aH.heap.size<=r/\r<aI.heap.size),a1,am.aa b7 bk λr _ h he=>?_,λr X=>?_,λr X=>?_,?_,λj b8 b9 aM aE=>?_⟩
 .have he:r=I:=he;rcases h with h|h|h
  .rcases h.1 with h1|h1|h1
   .have:=(ah _ h1).1;omega
   .exact h1
   .omega
  .have:=(aB r h).1;omega
  .omega
 .have cD:=X.2;rcases X.1 with h1|h1|h1
  .have:=(ah _ h1).1;omega
  .exact h1.elim
  .omega
 .rcases X with X|X
  .have bm:=aB r X;refine⟨bm.1,λh=>?_,Ω⟩;rcases h.1 with h1|h1|h1
   .exact bm.2.1 h1
   .exact h1
   .omega
  .refine⟨Ω,λh=>?_,Ω⟩;rcases h.1 with h1|h1|h1
   .have:=(ah _ h1).2;omega
   .exact h1
   .omega
 .rw[u9,o4,a8];simp;omega
 .have ca:=(x4.1 aE).1;rw[u9,U2] at ca;rw[Y2 Ω] at aM;by_cases cb:j<bC.length
  .rw[j9 cb] at aE;exact aG j b8 b9 (by rw[Y2 Ω];exact aM) aE
  .rw[Z2 Ω,show j-bC.length=0 by omega] at aE;rw[show j=i by omega,aT] at aM;cases aE;cases aM;exact bY
def jX (w:x2) (J:Nat) (f:b2):Prop:=∃av I U,∃bC:List gk,af w J cr [bz f.name,Δ f.k,av,I]/\au .i64 ab w U av f.sizes/\Seen ef w [I] bC/\rI f.k f.funs bC
theorem jX.ext {J:Nat} {f:b2} (h:jX w J f) (I:Ext w w'):jX w' J f:=by
 obtain⟨av,U,V,bC,h1,W,X,Y⟩:=h;exact⟨av,U,V,bC,h1.ext I,W.ext I,bg X I,Y⟩
def Am (w:x2) (res:Option b2) (v:x1) (w':x2):Prop:=Ext w w'/\match res with
 |none=>∃n e:Int,v= .tuple #[.pointer ν,Δ n,Δ e]/\e≠0
 |some f=>∃I,∃n:Int,v= .tuple #[Γ I,Δ n,Δ 0]/\jX w' I f
structure IK (clean:Bool) (so:Option aH) (name:Λ) (k:Int) (sizes:Λ) (acc:List gC) (res:Option b2):Prop where
 nR:∀s,so=σ s->s.toks=[]->clean=true->s.big=false-> ∃fs,acc=fs.map gj/\res=σ ⟨name,k,sizes,fs⟩/\(∀x∈fs,rH k x)/\fs.length<=256/\sizes.length<=1000000
 bad:res≠ν-> ∃s,so=σ s/\s.toks=[]/\clean=true/\s.big=false
theorem IL {w0:x2} {g:Nat} {A B S R:aj} {m:Bool} {so:Option aH} {name:Λ} {acc:List gC} {res:Option b2} {av aR p:x1} {pl:Λ} {Q:x1->x2->Prop}
  (a2:gi w g gs A B clean so) (aw:IK clean so name k sizes acc res) (bL:aJ .i64 w av sizes) (bM:∀r,leads av r->r≠g/\r≠gs) (bO:am.rep m S R w [aR] acc) (bq:∀r,S r\/R r->r≠g/\r≠gs/\r<w.heap.size)
  (dk:so=ν->True) (dl:g<w.heap.size) (dm:gs<w.heap.size) (bR:ag (λr=>w0.heap.size<=r) w0 w) (dn:w0.heap.size<=g) (dp:w0.heap.size<=gs) (bS:aJ .u8 w0 p pl)
  (aF:∀v w',Am w0 res v w'->Q v w'):
  bB (α:=x2->Prop) (λ(I:x2)=>
  J x3 (aY (Γ g)) I λbT=>
  J x3 (x7 b6 bT 1) I λbU=>
  J x3 (x7 eG bU 0) I λbV=>
  J x3 (x6 eF bV) I λbW=>
  J x3 (aC .neq eF false true bW (Δ 0)) I λbX=>
  Split bX (cm I λal=>
   J x3 (aY (Γ g)) al λbY=>
   J x3 (x7 b6 bY 1) al λb0=>
   J x3 (x7 eG b0 2) al λb3=>
   J x3 (x6 ab b3) al λb4=>
   J x3 (aY (Γ g)) al λb5=>
   J x3 (x7 b6 b5 1) al λb7=>
   J x3 (x7 eG b7 0) al λb8=>
   J x3 (x6 eF b8) al λb9=>
   Q (.tuple #[(.pointer ν),b4,b9]) al)
   (J x3 (aY (Γ g)) I λca=>
   J x3 (x7 b6 ca 1) I λcb=>
   J x3 (x7 eG cb 1) I λcc=>
   J x3 (x6 eF cc) I λcd=>
   J x3 (aC .neq eF false true cd (Δ 0)) I λce=>
   Split ce (cm I λan=>
   J x3 (aY (Γ g)) an λcg=>
   J x3 (x7 b6 cg 1) an λch=>
   J x3 (x7 eG ch 3) an λci=>
   J x3 (x6 ab ci) an λcj=>
   J x3 (aY (Γ g)) an λck=>
   J x3 (x7 b6 ck 1) an λcl=>
   J x3 (x7 eG cl 1) an λcn=>
   J x3 (x6 eF cn) an λcp=>
   Q (.tuple #[(.pointer ν),cj,cp]) an)
   (ak x3 xc [av] I λcq br=>
  J x3 (Instr.build cr #[(0,bz name),(1,Δ k),(2,cq)]) br λct=>
  aA x3 (Instr.box cr ct) br λax bt=>
  J x3 (Y3 #[h5] ab #[aR]) bt λcu=>
  bP (Δ 0) bt λa6 az cw=>
   J x3 (aC .lss ab false false a6 cu) az λcz=>
   Split cz (J x3 (n0 h5 aR a6) az λcA=>
   J x3 (x6 b1 cA) az λcC=>
   aA x3 (S7 b1 true (.tuple #[])) az λx cD=>
   aA x3 (o5 b1 x cC) cD λ(_:Unit) cE=>
   cm cE λau=>
   J x3 (aY ax) au λaG=>
   J x3 (x7 cr aG 3) au λaI=>
   J x3 (x6 dq aI) au λa7=>
   J x3 (x6 b1 x) au λcF=>
   ak x3 s8 [ax,cF] au λcG aL=>
    (Ext au aL\/bl x3 (x6 dq aI) a7 aL/\bl x3 (x7 cr aG 3) aI aL/\bl x3 (aY ax) aG aL/\True)/\
   aA x3 (Z7 dq 1 #[(0,cG)]) aL λcH aM=>
    (Ext au aM\/bl x3 (x6 dq aI) a7 aM/\bl x3 (x7 cr aG 3) aI aM/\bl x3 (aY ax) aG aM/\True)/\
    aA x3 (l9 #[dq,dq] dq #[a7,cH]) aM λcI a8=>
     J x3 (aY ax) a8 λcJ=>
     J x3 (x7 cr cJ 3) a8 λcK=>
     aA x3 (o5 dq cK cI) a8 λ(_:Unit) bu=>
     J x3 (aC .add ab false true a6 (Δ 1)) bu λcL=>
   cw cL bu)
    (J x3 (Y3 #[cB] ab #[p]) az λcM=>
  Q (.tuple #[ax,cM,(Δ 0)]) az)))) λaU=>
 ak x3 jE [(Γ g)] w λcN aN=>
 Split cN (J x3 (aY (Γ g)) aN λcO=>
  J x3 (x7 b6 cO 0) aN λcP=>
  J x3 (x6 qK cP) aN λcQ=>
  ak x3 s7 [cQ] aN λba aq=>
  J x3 (Z9 ba 0) aq λdr=>
  J x3 (Z9 ba 1) aq λbw=>
  J x3 (Z9 ba 2) aq λbb=>
  J x3 (aC .eql eF false true bb (Δ 0)) aq λcR=>
  Split cR (ak x3 l0 [(Γ g),(Δ 4),bw] aq λds cS=>
  aU cS)
  (J x3 (aC .eql eF false true bb (Δ 11)) aq λcT=>
  Split cT (ak x3 l0 [(Γ g),bb,bw] aq λdt cU=>
   aU cU)
   (aU aq)))
  (aU aN):=by
 refine di (λI=>ag (λr=>r=g\/r=gs) w I/\ ∃ (e big ao ap told:Int) (sv:x1),af I g b6 (e5 gs e big ao ap told sv)/\((e≠0/\res=ν)\/(e=0/\ ∃s,so=σ s/\s.toks=[]/\clean=true/\(s.big=true↔big≠0)))) ?_ ?_
 rotate_left
 .intro cV bc;refine (zQ a2).mono ?_;rintro _ U _ ⟨rfl,aO⟩;cases so with
  |none=>
   rw[show (ν:Option aH).isSome=false from rfl,aS];obtain⟨e,big,ao,ap,told,sv,X,bd⟩:=a2.ext aO;refine bc _ ⟨aO.aa _,e,big,ao,ap,told,sv,X,.inl ⟨bd,?_⟩⟩;cases ai:res with
   |none=>rfl
   |some f=>obtain⟨s,h,_⟩:=aw.bad (by rw[ai];simp);cases h
  |some s=>
   rw[show (σ s:Option aH).isSome=true from rfl,bQ];have cX:c5 U g gs A B s clean:=a2.ext aO;obtain⟨aV,cY,cZ,big,ao,ap,told,sv,X,bd,c0⟩:=id cX;rw[ay,ac b6.p rfl,ad Ψ (X.Q0 rfl)];refine (o1 cY).mono ?_;rintro v V _ ⟨aB,aD⟩;have c1:(s.toks≠[]\/clean=false)->res=ν:=λW=>by
    cases ai:res with
    |none=>rfl
    |some f=>
     obtain⟨s',h,aP,bx,_⟩:=aw.bad (by rw[ai];simp);cases h;rcases W with W|W
     .exact absurd aP W
     .rw[W] at bx;cases bx
   have aW:∀Y,ag (λr=>r=g) V Y->eg Y g gs A B->(s.toks≠[]\/clean=false)->cV Y:=λY aQ aW W=>by
    obtain⟨_,e,big,ao,ap,told,sv,l,c2,c3,_⟩:=aW;exact bc _ ⟨((aO.aa _).trans (aB.mono λr _ h=>.inr h)).trans (aQ.mono λr _ h=>.inl h),e,big,ao,ap,told,sv,c2,.inl ⟨c3.1,c1 W⟩⟩
   have be:=X.aa aB aV.1;have bA:=am.aa c0 aB λr _ h aP=>by
    have aP:r=gs:=aP;subst aP;rcases h with h|h
    .exact aV.2.2.1 h
    .exact h.1 (.inr (.inl rfl))
   have bD:s.shared.length<=100000:=by have:=cZ.2.2;omega
   cases aE:s.toks with
   |cons t l=>
    rw[aE] at aD;obtain⟨du,n,rfl⟩:=aD;rw[aK (v:=bz t) rfl,aK (v:=Δ n) rfl,aK (v:=Δ 0) rfl,bk,ae];refine⟨λ_=>?_,λh=>absurd rfl h⟩;refine (q9 (aV.aa aB) be bA Ω bD).mono ?_;rintro _ Y _ ⟨aQ,bf⟩;exact aW Y aQ bf (.inl (by rw[aE];simp))
   |nil=>
    rw[aE] at aD;obtain⟨n,rfl⟩:=aD;rw[aK (v:=bz []) rfl,aK (v:=Δ n) rfl,aK (v:=Δ (if clean then 2 else 11)) rfl,bk,ae];refine⟨λh=>by cases clean<;>simp at h,λ_=>?_⟩;rw[bk,ae];cases aX:clean with
    |true=>
     subst aX;refine⟨λh=>by simp at h,λ_=>bc _ ⟨(aO.aa _).trans (aB.mono λr _ h=>.inr h),0,big,ao,ap,told,sv,be,.inr ⟨rfl,s,rfl,aE,rfl,bd.1⟩⟩⟩
    |false=>
     subst aX;refine⟨λ_=>?_,λh=>absurd rfl h⟩;refine (q9 (aV.aa aB) be bA Ξ bD).mono ?_;rintro _ Y _ ⟨aQ,bf⟩;exact aW Y aQ bf (.inr rfl)
 .rintro U ⟨aZ,e,big,ao,ap,told,sv,X,c4⟩;have dv:=aZ.size;have bh:Ext w0 U:=(bR.ext λr ai h=>Ω).then aZ (λr ai h=>by rcases h with h|h<;>omega);rw[ay,ac b6.p rfl,ac eG.p rfl,ad Ψ (X.cell (o:=0+1+0) rfl),bG,ae];rcases c4 with⟨he,bi⟩|⟨rfl,s,rfl,aE,aX,bE⟩
  .refine⟨λ_=>?_,λh=>absurd he h⟩;intro V ah _ _;rw[ay,ac b6.p rfl,ac eG.p rfl,ad Ψ ((X.ext ah).cell (o:=0+1+2) rfl),ay,ac b6.p rfl,ac eG.p rfl,ad Ψ ((X.ext ah).cell (o:=0+1+0) rfl)];rw[bi] at aF;exact aF _ _ ⟨bh.trans ah,ao,e,rfl,he⟩
  .refine⟨λh=>absurd rfl h,λ_=>?_⟩;rw[ay,ac b6.p rfl,ac eG.p rfl,ad Ψ (X.cell (o:=0+1+1) rfl),bG,ae];refine⟨λW=>?_,λW=>?_⟩
   .have bi:res=ν:=by
     cases ai:res with
     |none=>rfl
     |some f=>
      obtain⟨s',h,_,_,bF⟩:=aw.bad (by rw[ai];simp);cases h;rw[bE.2 W] at bF;cases bF
    intro V ah _ _;rw[ay,ac b6.p rfl,ac eG.p rfl,ad Ψ ((X.ext ah).cell (o:=0+1+3) rfl),ay,ac b6.p rfl,ac eG.p rfl,ad Ψ ((X.ext ah).cell (o:=0+1+1) rfl)];rw[bi] at aF;exact aF _ _ ⟨bh.trans ah,ap,big,rfl,W⟩
   .have c6:s.big=false:=by
     cases c7:s.big with
     |false=>rfl
     |true=>exact absurd (bE.1 c7) W
    obtain⟨bj,rfl,rfl,c8,c9,da⟩:=aw.nR s rfl aE aX c6;have db:aJ .i64 U av sizes:=iz bL aZ λr ai a n c aD aw=>by
     have:=bM r ⟨a,n,c,aD,aw⟩;exact ai.elim this.1 this.2
    refine (rG db da).mono ?_;rintro bm V _ ⟨ah,dc,dw,bn⟩;have dx:=ah.size;rw[cW (cs:=#[bz name,Δ k,bm,.slice ν 0 0]) (by obtain⟨_,_,_,rfl⟩:=bZ bn.ls;kernel_rfl)];refine bN λbo Y dy bp a1=>?_;have a1:af Y bo cr [bz name,Δ k,bm,.slice ν 0 0]:=by obtain⟨_,_,_,rfl⟩:=bZ bn.ls;exact a1
    have bH:am.rep m S R Y [aR] (show List gC from bj.map gj):=bg (bg (am.aa bO aZ λr _ h he=>by have:=bq r h;exact he.elim this.1 this.2.1) ah) bp;have dd:(bj.map gj).length=bj.length:=Ξ
    rw[eP h5.u bH,dd];refine IJ a1 bH (λr h=>by have:=bq r h;omega) c8 c9 λbI de bC df dg dh dj=>?_;have dz:=a1.lt;have z3:=bp.size;have bJ:Ext V bI:=bp.then df (λr ai h=>by have h:r=bo:=h;omega);have bK:Ext w0 bI:=(bh.trans ah).trans bJ;rw[aT cB.u (bS.ext bK)];exact aF _ _ ⟨bK,bo,_,rfl,bm,de,dc,bC,dg,bn.ext bJ,hE dh,dj⟩
theorem An {α:Type} {f:List α->aH->Option (α×aH)} {acc:List α} {s:aH}:eW f (n+1) acc (σ s)=match f acc s with
  |none=>ν
  |some (a,s')=>eW f n (acc++[a]) (σ s'):=by
 show cD f (n+1) acc s=_;simp only[cD];cases f acc s<;>rfl
theorem IM {g:Nat} {A B:aj} {s:Option aH} {most:Int} {aB:x1->x2->Prop} (h:c7 w g gs A B clean s) (a6:(N:Int)<=ax)
  (aD:∀av w' l so I,ag (bw g gs A) w w'->c7 w' g gs A B clean so->au .i64 ao w' I av l->w.heap.size<=I->l.length<=100001->(∀q,eW (fj most) N [] s=σ q->so=σ q.2/\l=q.1)->(eW (fj most) N [] s=ν->so=ν)->aB av w'):
 bE (.slice ν 0 0) (Δ 0) w λsizes i af k=>
  bB (α:=x1->x2->Prop) (λ(a7:x1) (aE:x2)=>
   Split a7 (ak x3 lZ [Γ g,(Δ 1),Δ most] aE λaF ab=>
  J x3 (Z9 aF 0) ab λaG=>
  J x3 (Z9 aF 1) ab λa8=>
  J x3 (aC .gtr ao false true aG (Δ 32)) ab λba=>
  ak x3 oJ [Γ g,ba,a8] ab λbT bd=>
  aA x3 (Z7 aw 1 #[(0,aG)]) bd λbe bf=>
  aA x3 (l9 #[aw,aw] aw #[sizes,be]) bf λbg aI=>
  J x3 (aC .add ao false true i (Δ 1)) aI λbh=>
  k bg bh aI) (aB sizes aE)) λai=>
  J x3 (aC .lss ao false false i (Δ (N:Int))) af λbi=>
  Split bi (ak x3 jE [Γ g] af λbj bk=>
  ai bj bk)
   (ai (.bool false) af):=by
 obtain⟨bU,aJ,bV,bl,bm⟩:=h.side;have ah:∀r,bw g gs A r->r<w.heap.size:=bl;unfold ax at a6;generalize bn:eW (fj most) N [] s=aL at aD;refine⟨λout al U=>∃ (i:Nat) (l:Λ) (so:Option aH) (I:Nat),al=Δ (i:Int)/\i<=N/\ag (bw g gs A) w U/\au .i64 ao U I out l/\w.heap.size<=I/\c7 U g gs A B clean so/\aL=eW (fj most) (N-i) l so/\l.length<=100001/\ ∀st,so=σ st->l.length+st.toks.length<=100000,
  λ_ al _=>N-(bO al).toNat,⟨0,[],s,w.heap.size,rfl,X3 _,ag.refl _ _,au.nil _ _ _ _,o8 _,h,bn.symm,Ξ,λst bo=>?_⟩,?_⟩
 .subst bo;have:=h.words;simpa using this
 rintro out _ U ⟨i,l,so,I,rfl,bW,am,aM,bp,aO,ac,bq,aP⟩;refine aQ (λv aR=>Ext U aR/\((v= .bool true/\i<N/\ ∃st,so=σ st)\/(v= .bool false/\(so=ν\/i=N)))) ?_ ?_
 rotate_left
 .intro ai an;rw[aq,ae];refine⟨λbr=>?_,λbX=>an _ _ ⟨Ext.refl _,.inr ⟨rfl,.inr Ω⟩⟩⟩;refine (nU aO).mono ?_;rintro _ aR _ ⟨rfl,aT⟩;cases so with
  |none=>exact an _ _ ⟨aT,.inr ⟨rfl,.inl rfl⟩⟩
  |some st=>exact an _ _ ⟨aT,.inl ⟨rfl,Ω,st,rfl⟩⟩
 rintro _ V ⟨Y,bt⟩;have aU:=aM.ext Y;have aV:=aO.ext Y;rcases bt with⟨rfl,br,st,rfl⟩|⟨rfl,bu⟩
 rotate_left
 .rw[aS];have aX:aL=so.map λst=>(l,st):=by
   rcases bu with rfl|rfl
   .exact ac
   .rw[W9] at ac;rw[ac];cases so<;>rfl
  refine aD out V l so I (am.trans (Y.aa _)) aV aU bp bq (λq W=>?_) λaY=>?_
  .rw[aX] at W;cases so with
   |none=>cases W
   |some st=>cases W;exact⟨rfl,rfl⟩
  .rw[aX] at aY;cases so with
   |none=>rfl
   |some st=>cases aY
 rw[bQ];have aP:=aP st rfl;refine (kJ (s:=σ st) aV).mono ?_;rintro _ bY _ ⟨ap,z,at_,rfl,bx,bZ⟩;obtain⟨ay,bz⟩:=ap.of;rw[aK (v:=Δ z) rfl,aK (v:=Δ at_) rfl,bR];refine (pn bz).mono ?_;rintro _ b0 _ ap;obtain⟨az,bC⟩:=ap.of;refine dx aw.u ao.i rfl λa aW bD b1 ad bF=>?_;have b2:=am.size;have b3:=Y.size;have z3:=ay.size;have z4:=az.size;have z5:=ad.size;have aZ:∀r,leads out r->¬bw g gs A r:=λr X bG=>by have:=ah r bG;have:=(bA aM X).1;omega
 have bH:=bc (bc aU ay aZ) az aZ;refine hD aw.u ao.i rfl (bH.ext ad) bF.ls Θ Θ λb4 bI bJ b5 bK a2=>?_;rw[aN,wrap_i64 Ω Ω];have bL:ag (bw g gs A) w bD:=((((am.trans (Y.aa _)).trans ay).trans az).trans (ad.aa _));have bM:ag (bw g gs A) w bJ:=gf bL a2 λr X he=>by have he:r=I:=he;omega
 have bN:∀r,bw g gs A r->¬(λr=>r=I) r:=λr X he=>by have:=ah r X;have he:r=I:=he;omega
 have bP:∀r,cq g gs A B r->¬(λr=>r=I) r:=λr X he=>by have:=bm r X.2;have he:r=I:=he;omega
 refine⟨⟨i+1,l++[z],_,bI,rfl,Ω,bM,bK,Ω,(bC.ext ad).aa a2 bN bP,?_,Θ,λb6 bS=>?_⟩,by simp only[bO];omega⟩
 .rw[ac,show N-i=(N-(i+1))+1 by omega,An];unfold fj;cases W:bb 1 most st with
  |none=>have e:a1 1 most (σ st)=ν:=W;rw[e];rfl
  |some q=>
   have e:a1 1 most (σ st)=σ q:=W;have:=bx q e;subst this;rw[e];rfl
 .obtain⟨b7,aJ,rfl⟩:=X0.1 bS;obtain⟨q,W,rfl⟩:=X0.1 aJ;have h1:=(dl (n:=q.1) (s':=q.2) W).1;simp only[u9,U2];show l.length+1+q.2.toks.length<=100000;omega
theorem IN {acc:List (Λ×Int)} {s s':aH} {a:Λ×Int} (h:dz sizes acc s=σ (a,s')):s'.told=s.told/\s'.big=s.big:=by
 obtain⟨_,_,_,I⟩:=nN h;exact⟨I.eqs.1,I.eqs.2.1⟩
theorem IP {s s':aH} {l:List (Λ×Int)} (hi:dB s) (h:dA sizes s=σ (l,s')):dB s'/\(s.big=true->s'.big=true):=by
 have e:=zN sizes (σ s);rw[show hN sizes (σ s)=dA sizes s from rfl,h] at e;cases V:a1 (-ax) ax (σ s) with
 |none=>rw[V] at e;cases e
 |some q=>
  obtain⟨n,s1⟩:=q;rw[V] at e;simp only at e;have h1:=(dl (n:=n) (s':=s1) V).eqs;have X:dB s1:=λJ=>by rw[h1.1];rw[h1.2.1] at J;exact hi J
  split at e
  .cases I:s1.shared[(-n-1).toNat]? with
   |none=>rw[I] at e;cases e
   |some q=>
    obtain⟨z,l'⟩:=q;rw[I] at e;simp only at e;split at e
    .cases e;exact⟨X,λJ=>by rw[h1.2.1];exact J⟩
    .cases e
  .have:=jf (f:=dz sizes) (λacc t=>t.told=(iG n s1).told/\t.big=(iG n s1).big) (λacc t a Y ⟨W,U⟩ g=>by
    have:=IN g;exact⟨by rw[this.1,W],by rw[this.2,U]⟩) n.toNat [] _ l s' ⟨rfl,rfl⟩ e.symm
   obtain⟨⟨W,U⟩,_⟩:=this;refine⟨λJ=>by rw[W];rw[U] at J;exact H8 n s1 J,λJ=>?_⟩;rw[U];show (s1.big||_)=true;rw[h1.2.1,J];rfl
theorem IQ {s s':aH} {x:cg} (hi:dB s) (h:cX all s=σ (x,s')):dB s'/\s'.toks.length<s.toks.length:=by
 unfold cX at h;cases V:bb (-ax) ax s with
 |none=>rw[V] at h;cases h
 |some q=>
 obtain⟨a,s1⟩:=q;rw[V] at h;simp only at h;have t0:=dl V;cases h1:eI all.length a.natAbs s1 with
 |none=>rw[h1] at h;cases h
 |some q=>
 obtain⟨sc,J⟩:=q;rw[h1] at h;simp only at h;obtain⟨W,_⟩:=tM h1;generalize sc.map (λv=>all.getD v.toNat 0)=sizes at h;cases X:bb 0 ax (a8 (decide (6<a.natAbs)||da sizes) J) with
 |none=>rw[X] at h;cases h
 |some q=>
 obtain⟨other,Y⟩:=q;rw[X] at h;simp only at h;have aa:=dl X;have ae:dB Y:=λI=>by
  rw[aa.eqs.1];rw[aa.eqs.2.1] at I;have I:(J.big||_)=false:=I;have ac:=(S2.1 I).1;show J.told<=16384;rw[W.eqs.1,t0.eqs.1];rw[W.eqs.2.1,t0.eqs.2.1] at ac;exact hi ac
 cases U:dA sizes Y with
 |none=>rw[U] at h;cases h
 |some q=>
 obtain⟨lines,ab⟩:=q;rw[U] at h;simp only[Y8,T8] at h;obtain⟨_,rfl⟩:=h;have af:=IP ae U;have ai:=zU U;have aj:=t0.1;have ak:=W.1;have al:J.toks.length=Y.toks.length+1:=aa.1;have ad:∀t:aH,t.told=ab.told/\t.big=ab.big/\t.toks=ab.toks->dB t/\t.toks.length<s.toks.length:=λt ⟨ag,ah,a3⟩=>⟨λI=>by rw[ag];rw[ah] at I;exact af.1 I,by rw[a3];omega⟩;split
 .exact ad _ ⟨rfl,rfl,rfl⟩
 .exact ad _ ⟨rfl,rfl,rfl⟩
theorem IR {S R:aj} {x:gC} (h:am.rep false S R w cs x):am.rep (α:=gC) true bu R w cs x/\(x1.agg cs.toArray).cells=cs.toArray:=by
 obtain⟨V,d1,Y,aa,rfl,_,_,_,h1,W,d2,ab,ac,rfl,_,_,_,I,X,d3,ad,ae,rfl,_,_,_,U,J⟩:=h;have h1:am.rep (α:=Λ) false bu R w V x.1:=h1;have I:am.rep (α:=Λ) false bu R w W x.2.1:=I;have U:X=[Δ x.2.2.1]:=U;have J:am.rep (α:=List (Λ×Int)) false bu R w d3 x.2.2.2:=J;refine⟨⟨V,_,bu,bu,rfl,λ_ h=>h,λ_ h=>h,λ_ _ h _=>h,h1,W,_,bu,bu,rfl,λ_ h=>h,λ_ h=>h,λ_ _ h _=>h,I,X,d3,bu,bu,rfl,λ_ h=>h,λ_ h=>h,λ_ _ h _=>h,U,J⟩,?_⟩;obtain⟨u,rfl⟩:=X9.1 (show V.length=1 from am.len h1);obtain⟨v,rfl⟩:=X9.1 (show W.length=1 from am.len I);obtain⟨y,rfl⟩:=X9.1 (show d3.length=1 from am.len J);obtain⟨_,_,_,rfl⟩:=kK h1;obtain⟨_,_,_,rfl⟩:=kK I;obtain⟨_,_,_,rfl⟩:=kK J;subst U;rfl
theorem IS {w0:x2} {g c:Nat} {A B:aj} {o:Option aH} {au:x1} {a7:x1->x2->Prop} (a8:gi w g gs A B clean o) (hi:∀s,o=σ s->dB s) (bS:(c:Int)<=ax)
  (bT:aJ .i64 w au all) (ba:∀r,leads au r->r≠g/\r≠gs/\r<w.heap.size/\(o≠ν->¬A r)) (bU:o≠ν-> ∀z∈all,1<=z/\z<=ax) (bV:all.length<=100001) (bW:eR w) (h1:1<w0.heap.size/\(o≠ν->cq g gs A B 1))
  (bb:ag (λr=>w0.heap.size<=r) w0 w) (bX:w0.heap.size<=g) (bY:w0.heap.size<=gs) (cK:g<w.heap.size/\gs<w.heap.size) (bZ:o≠ν-> ∀r,A r->w0.heap.size<=r)
  (bc:∀av w' acc so ad ab bd be,ag (λr=>w0.heap.size<=r) w0 w'->w.heap.size<=w'.heap.size->gi w' g gs ad ab clean so->am.rep (α:=List gC) true bd be w' [av] acc->(∀r,bd r\/be r->r≠g/\r≠gs/\r<w'.heap.size)->aJ .i64 w' au all->
   (∀q,eW (λ_ s=>cX all s) c [] o=σ q->so=σ q.2/\acc=q.1.map gj)->(eW (λ_ s=>cX all s) c [] o=ν->so=ν)->a7 av w'):
 bE (.slice ν 0 0) (Δ 0) w λfuns bf aR b0=>
  bB (α:=x1->x2->Prop) (λ(b2:x1) (bh:x2)=>
   Split b2 (ak x3 xb [Γ g,au] bh λb3 b4=>
  aA x3 (Z7 h5 1 #[(0,b3)]) b4 λb5 b6=>
  aA x3 (l9 #[h5,h5] h5 #[funs,b5]) b6 λb7 bj=>
  J x3 (aC .add ao false true bf (Δ 1)) bj λb8=>
  b0 b7 b8 bj) (a7 funs bh)) λbk=>
  J x3 (aC .lss ao false false bf (Δ (c:Int))) aR λb9=>
  Split b9 (ak x3 jE [Γ g] aR λca cb=>
  bk ca cb)
   (bk (.bool false) aR):=by
 unfold ax at bS;generalize X:eW (λ_ s=>cX all s) c [] o=bl at bc;have bm:∀s,o=σ s->o≠ν:=λs h=>by rw[h];simp
 refine⟨λav aT U=>∃ (i:Nat) (acc:List gC) (ai:List cg) (so:Option aH) (ac an af aw:aj),aT=Δ (i:Int)/\i<=c/\ag (λr=>w0.heap.size<=r) w0 U/\w.heap.size<=U.heap.size/\gi U g gs ac an clean so/\am.rep true af aw U [av] acc/\
   aJ .i64 U au all/\eR U/\bl=eW (λ_ s=>cX all s) (c-i) ai so/\(∀r,af r->w.heap.size<=r/\r<U.heap.size)/\(∀r,aw r->r≠g/\r≠gs/\¬af r)/\
   ∀s,so=σ s->acc=ai.map gj/\dB s/\ai.length+s.toks.length<=100000/\o≠ν/\(∀r,ac r->A r\/w.heap.size<=r)/\(∀r,ac r->w0.heap.size<=r)/\(∀r,B r->an r)/\(∀r,af r->¬an r/\¬ac r)/\(∀r,aw r->cq g gs ac an r),
  λ_ aT _=>c-(bO aT).toNat,⟨0,[],[],o,A,B,bu,bu,rfl,X3 _,bb,o8 _,a8,fx,bT,bW,X.symm,λ_ h=>h.elim,λ_ h=>h.elim,λs I=>⟨rfl,hi s I,?_,bm s I,λr W=>.inl W,bZ (bm s I),λr W=>W,λ_ h=>h.elim,λ_ h=>h.elim⟩⟩,?_⟩
 .subst I;have aU:c5 w g gs A B s clean:=a8;have:=aU.2.1.words.1;simpa using this
 rintro av _ U ⟨i,acc,ai,so,ac,an,af,aw,rfl,cL,cc,cM,bn,cd,aV,bo,aI,ah,ce,bp⟩;refine aQ (λv bq=>Ext U bq/\((v= .bool true/\i<c/\ ∃st,so=σ st)\/(v= .bool false/\(so=ν\/i=c)))) ?_ ?_
 rotate_left
 .intro cN aW;rw[aq,ae];refine⟨λbr=>?_,λcO=>aW _ _ ⟨Ext.refl _,.inr ⟨rfl,.inr Ω⟩⟩⟩;refine (zQ bn).mono ?_;rintro _ bq _ ⟨rfl,bt⟩;cases so with
  |none=>exact aW _ _ ⟨bt,.inr ⟨rfl,.inl rfl⟩⟩
  |some st=>exact aW _ _ ⟨bt,.inl ⟨rfl,Ω,st,rfl⟩⟩
 rintro _ V ⟨ap,ch⟩;have cP:=ap.size;have aD:=bn.ext ap;have bx:=bg cd ap;have bz:ag (λr=>w0.heap.size<=r) w0 V:=cc.trans (ap.aa _);rcases ch with⟨rfl,br,st,rfl⟩|⟨rfl,ci⟩
 rotate_left
 .rw[aS];have bA:bl=so.map λst=>(ai,st):=by
   rcases ci with rfl|rfl
   .exact aI
   .rw[W9] at aI;rw[aI];cases so<;>rfl
  refine bc av V acc so ac an af (λr=>aw r/\r<V.heap.size) bz Ω aD (am.mono bx (λ_ _ h=>h) λr W h=>⟨h,W⟩) (λr W=>?_) (aV.ext ap) (λq al=>?_) λbC=>?_
  .rcases W with W|W
   .have:=ah r W;exact⟨Ω,Ω,Ω⟩
   .have:=ce r W.1;exact⟨this.1,this.2.1,W.2⟩
  .rw[bA] at al;cases so with
   |none=>cases al
   |some st=>cases al;exact⟨rfl,(bp _ rfl).1⟩
  .rw[bA] at bC;cases so with
   |none=>rfl
   |some st=>cases bC
 rw[bQ];obtain⟨rfl,bD,cQ,aK,bF,aX,bG,aL,bH⟩:=bp st rfl;have aD:c5 V g gs ac an st clean:=aD;obtain⟨cR,cS,cT,cU,cV⟩:=aD.1;have cj:=h1.2 aK;have bI:cq g gs ac an 1:=⟨λX=>by
  rcases X with X|X|X
  .omega
  .omega
  .have:=aX 1 X;omega,bG 1 cj.2⟩
 have bJ:∀r,leads au r->¬bw g gs ac r/\r<V.heap.size:=λr W=>by
  obtain⟨ck,cl,cm,cn⟩:=ba r W;refine⟨λX=>?_,Ω⟩;rcases X with X|X|X
  .exact ck X
  .exact cl X
  .rcases bF r X with h|h
   .exact cn aK h
   .omega
 refine (Ik aD bD (aV.ext ap) bJ (bU aK) bV (bo.ext ap) bI).mono ?_;rintro _ cp _ ⟨ad,ab,cs,aY,rfl,cW,aE,aF,aZ,bK,bL,cr,ct⟩;have z3:=aE.size;obtain⟨bM,cu⟩:=IR cr;refine gN (α:=gC) (a:=aY) (cs:=cs) (A:=bu) (R:=cq g gs ad ab) h5.u b1.i Φ cu bM λu aM ay _ hu=>?_;have z4:=ay.size;have cw:∀r,r<V.heap.size->af r\/aw r->¬bw g gs ac r:=λr W h X=>by
  rcases h with h|h
  .have Y:=ah r h;rcases X with X|X|X
   .omega
   .omega
   .exact (aL r h).2 X
  .exact (bH r h).1 X
 have cz:∀r,r<V.heap.size->cq g gs ac an r->cq g gs ad ab r:=λr W h=>⟨λX=>h.1 (X.imp id (Or.imp id λX=>(aF r X).elim id λh'=>Ω)),bK r h.2⟩;have cA:bi af (cq g gs ad ab) aM [av] (ai.map gj):=bg (am.aa (am.mono (S':=af) (R':=λr=>cq g gs ad ab r/\aw r) bx (λ_ _ h=>h) λr W h=>⟨cz r W (bH r h),h⟩) aE λr W h=>cw r W (h.imp id λh=>h.2) |> λh=>h) ay |> λh=>am.mono h (λ_ _ h=>h) λ_ _ h=>h.1;have aO:∀r,af r->¬ab r:=λr h aP=>by
  have Y:=ah r h;rcases (aZ r aP).1 with az|az
  .exact (aL r h).1 az
  .have a1:=(ah r h).2;omega
 have cY:(ai.map gj).length=ai.length:=Ξ
 refine mh (α:=gC) (a:=aY) (A:=bu) h5.u b1.i rfl cA hu (bg bM ay) (λr _ cB h=>?_) Ω Ω λcZ aB cC aG=>?_
 .rcases h with h|h
  .exact h
  .exact aO r cB h.2
 have z5:=aG.size;rw[aN,wrap_i64 Ω Ω];have cD:ag (λr=>w0.heap.size<=r) w0 aM:=(bz.trans (aE.mono λr _ X=>by
  rcases X with rfl|rfl|X
  .exact bX
  .exact bY
  .exact aX r X)).trans (ay.aa _)
 have z0:=bb.size;have cE:ag (λr=>w0.heap.size<=r) w0 aB:=cD.trans (aG.mono λr _ h=>by have:=(ah r h).1;omega);have cF:aJ .i64 aM au all:=(iz (aV.ext ap) aE λr W a n c a2 a6=>(bJ r ⟨a,n,c,a2,a6⟩).1 W).ext ay;have cG:aJ .i64 aB au all:=iz cF aG λr W a n c a2 a6=>by
  have cm:=(ba r ⟨a,n,c,a2,a6⟩).2.2.1;have:=(ah r W).1;omega
 have cH:eR aB:=(((bo.ext ap).aa aE bI.1).ext ay).aa aG λh=>by have:=(ah 1 h).1;omega
 have bN:gi aB g gs ad ab clean ((cX all st).map (·.2)):=by
  refine gi.aa (bL.ext ay) aG (λh=>by have:=ah _ h;omega) (λr W c0 h=>?_) (λr W h=>aO r h W.2);have Y:=ah r h;rcases W with rfl|rfl|W
  .omega
  .omega
  .rcases aF r W with az|az
   .exact (aL r h).2 az
   .omega
 have cI:=kB cC;refine⟨⟨i+1,(ai.map gj)++[aY],ai++((cX all st).map (·.1)).toList,(cX all st).map (·.2),ad,ab,λr=>(af r\/bu r\/aM.heap.size<=r)/\r<aB.heap.size,cq g gs ad ab,rfl,Ω,cE,Ω,bN,cI,cG,cH,?_,λr W=>⟨?_,W.2⟩,λr W=>⟨λh=>W.1 (.inl h),λh=>W.1 (.inr (.inl h)),λh=>?_⟩,λs' cJ=>?_⟩,by simp only[bO];omega⟩
 .rw[aI,show c-i=(c-(i+1))+1 by omega,An];cases al:cX all st with
  |none=>rfl
  |some q=>rfl
 .rcases W.1 with h|h|h
  .exact (ah r h).1
  .exact h.elim
  .omega
 .rcases h.1 with Y|Y|Y
  .exact aO r Y W.2
  .exact Y
  .have:=(aZ r W.2).2;omega
 .obtain⟨q,al,rfl⟩:=X0.1 cJ;have Y:=IQ (s':=q.2) (x:=q.1) bD al;have az:=ct q al;refine⟨?_,Y.1,?_,aK,λr W=>?_,λr W=>?_,λr W=>bK r (bG r W),λr W=>⟨λaP=>?_,λbP=>?_⟩,λr W=>W⟩
  .rw[al,az];simp
  .rw[al];simp only[Y0,Z4,u9,U2];omega
  .rcases aF r W with h|h
   .exact bF r h
   .exact .inr Ω
  .rcases aF r W with h|h
   .exact aX r h
   .omega
  .rcases W.1 with Y|Y|Y
   .exact aO r Y aP
   .exact Y
   .have:=(aZ r aP).2;omega
  .have c1:gi aB g gs ad ab clean ((cX all st).map (·.2)):=bN;have bR:=bL;rw[al] at bR;have aU:c5 cp g gs ad ab q.2 clean:=bR;have br:=aU.1.2.2.2.1 r (.inr (.inr bP));rcases W.1 with Y|Y|Y
   .rcases aF r bP with a1|a1
    .exact (aL r Y).2 a1
    .have:=(ah r Y).2;omega
   .exact Y
   .omega
theorem dB.num {lo hi n:Int} {s s':aH} (J:dB s) (h:bb lo hi s=σ (n,s')):dB s':=λI=>by
 have h1:=(dl h).eqs;rw[h1.1];rw[h1.2.1] at I;exact J I
theorem dB.big {b:Bool} {s:aH} (h:dB s):dB (a8 b s):=λI=>by
 have I:(s.big||b)=false:=I;exact h (S2.1 I).1
theorem dB.word {w:Λ} {s s':aH} (h:dB s) (hw:dy s=σ (w,s')):dB s':=λI=>by
 have h1:=(q6 hw).2;rw[h1] at I ⊢;exact h I
theorem IT {most:Int} {s s':aH} (hi:dB s) (hm:most<=ax) (h:cD (fj most) N [] s=σ (l,s')):dB s'/\(∀z∈l,1<=z/\z<=ax)/\l.length+s'.toks.length<=s.toks.length:=by
 have:=jf (f:=fj most) (λacc t=>dB t/\(∀z∈acc,1<=z/\z<=ax)/\acc.length+t.toks.length<=s.toks.length) (λacc t a X ⟨h1,U,Y⟩ g=>by
  unfold fj at g;cases I:bb 1 most t with
  |none=>rw[I] at g;cases g
  |some q=>
   obtain⟨z,V⟩:=q;rw[I] at g;simp only[Y8,T8] at g;obtain⟨rfl,rfl⟩:=g;have aa:=(gQ I).1;have ab:=(dl I).1;refine⟨(h1.num I).big,λx J=>?_,?_⟩
   .rcases n9.1 J with J|J
    .exact U x J
    .rw[j4.1 J];omega
   .simp only[u9,U2];show acc.length+1+V.toks.length<=_;omega) N [] s l s' ⟨hi,λz W=>(by cases W),Ξ⟩ h
 exact this.1
theorem IU {s0:aH} {name:Λ} {n most cnt:Int} {so6:Option aH}
  (h1:∀q,dy s0=σ q->name=q.1)
  (Y:∀q,a1 1 ax (((dy s0).map (·.2)).map (a8 (decide (64<(name.length:Int)))))=σ q->n=q.1)
  (X:∀q,a1 1 ax (((a1 1 ax (((dy s0).map (·.2)).map (a8 (decide (64<(name.length:Int)))))).map (·.2)).map (a8 (decide (64<n))))=σ q->most=q.1)
  (W:∀q,a1 0 ax ((a1 1 ax (((a1 1 ax (((dy s0).map (·.2)).map (a8 (decide (64<(name.length:Int)))))).map (·.2)).map (a8 (decide (64<n))))).map (·.2))=σ q->cnt=q.1)
  (V:∀q,a1 1 ax (((a1 0 ax ((a1 1 ax (((a1 1 ax (((dy s0).map (·.2)).map (a8 (decide (64<(name.length:Int)))))).map (·.2)).map (a8 (decide (64<n))))).map (·.2))).map (·.2)).map (a8 (decide (256<cnt))))=σ q->k=q.1)
  (U:∀q,eW (fj most) n.toNat [] (((a1 1 ax (((a1 0 ax ((a1 1 ax (((a1 1 ax (((dy s0).map (·.2)).map (a8 (decide (64<(name.length:Int)))))).map (·.2)).map (a8 (decide (64<n))))).map (·.2))).map (·.2)).map (a8 (decide (256<cnt))))).map (·.2)).map (a8 (decide (2147483648<k))))=σ q->so6=σ q.2/\sizes=q.1)
  (J:eW (fj most) n.toNat [] (((a1 1 ax (((a1 0 ax ((a1 1 ax (((a1 1 ax (((dy s0).map (·.2)).map (a8 (decide (64<(name.length:Int)))))).map (·.2)).map (a8 (decide (64<n))))).map (·.2))).map (·.2)).map (a8 (decide (256<cnt))))).map (·.2)).map (a8 (decide (2147483648<k))))=ν->so6=ν):
  gO s0=(eW (λ_ s=>cX sizes s) cnt.toNat [] so6).map λq=>((⟨name,k,sizes,q.1⟩:b2),q.2):=by
 unfold gO;cases ae:dy s0 with
 |none=>
  rw[ae] at J;rw[J rfl];rfl
 |some ao=>
 obtain⟨aF,s1⟩:=ao;rw[ae] at h1 Y X W V U J;have:=h1 _ rfl;subst this;have ap:decide (64<(name.length:Int))=decide (64<name.length):=by rw[V8,decide_eq_true_eq,decide_eq_true_eq];omega
 rw[ap] at Y X W V U J;simp only[Y0] at Y X W V U J ⊢;generalize a8 (decide (64<name.length)) s1=ab at*;cases af:bb 1 ax ab with
 |none=>
  rw[show a1 1 ax (σ ab)=ν from af] at J;rw[J rfl];rfl
 |some aq=>
 obtain⟨au,ag⟩:=aq;rw[show a1 1 ax (σ ab)=σ (au,ag) from af] at Y X W V U J;have:=Y _ rfl;subst this;simp only[Y0] at X W V U J ⊢;generalize a8 (decide (64<n)) ag=ac at*;cases ah:bb 1 ax ac with
 |none=>
  rw[show a1 1 ax (σ ac)=ν from ah] at J;rw[J rfl];rfl
 |some av=>
 obtain⟨aw,aa⟩:=av;rw[show a1 1 ax (σ ac)=σ (aw,aa) from ah] at X W V U J;have:=X _ rfl;subst this;simp only[Y0] at W V U J ⊢;cases ai:bb 0 ax aa with
 |none=>
  rw[show a1 0 ax (σ aa)=ν from ai] at J;rw[J rfl];rfl
 |some ay=>
 obtain⟨az,aj⟩:=ay;rw[show a1 0 ax (σ aa)=σ (az,aj) from ai] at W V U J;have:=W _ rfl;subst this;simp only[Y0] at V U J ⊢;generalize a8 (decide (256<cnt)) aj=ad at*;cases ak:bb 1 ax ad with
 |none=>
  rw[show a1 1 ax (σ ad)=ν from ak] at J;rw[J rfl];rfl
 |some aA=>
 obtain⟨aB,al⟩:=aA;rw[show a1 1 ax (σ ad)=σ (aB,al) from ak] at V U J;have:=V _ rfl;subst this;simp only[Y0] at U J ⊢;generalize a8 (decide (2147483648<k)) al=aC at*;cases am:cD (fj most) n.toNat [] aC with
 |none=>
  rw[J am];rfl
 |some aD=>
 obtain⟨aG,an⟩:=aD;obtain⟨I,aE⟩:=U _ am;subst aE;rw[I];simp only;show _=U1 _ (cD (λ_ s=>cX sizes s) cnt.toNat [] an);cases cD (λ_ s=>cX sizes s) cnt.toNat [] an<;>rfl
theorem IV {f:b2} (I:eQ N f) (X:N<=60000):∀x∈f.funs,rH f.k x:=λx U=>by
 obtain⟨h1,V,Y⟩:=I.funs x U;refine⟨I.k,⟨?_,λz J=>?_⟩,h1.other,h1.lines,by have:=h1.len;omega,Ω⟩
 .rw[h1.sizes,u4];exact V
 .rw[h1.sizes] at J;obtain⟨v,W,rfl⟩:=Z1.1 J;have:=h1.scope.2 v W;refine I.sizes.2.2 _ ?_;rw[u5,y0 Ω];exact T6 _
theorem IW {p:x1} {pl:Λ} (ao:aJ .u8 w p pl) (bb:Bytes pl) (cc:pl.length<=60000) (aE:eR w):ak x3 Dq [p] w (Am w (fO pl)):=by
 have bc:1<w.heap.size:=by
  have:=aE 0 (.int .u64 1) rfl;obtain⟨c,e,f,bd,_⟩:=tg this;exact (j6.1 bd).1
 have cd:ax=4611686018427387904:=rfl;refine aB func67 ?_;rw[aT cB.u ao,bR,ae];refine⟨λh=>Ω,λ_=>?_⟩;refine (yn ao bb Ω).mono ?_;rintro _ U _ ⟨aF,gs,rfl,ce,be,ap⟩;rw[cW (cs:=#[Γ gs,Δ 0,Δ 0,Δ 0,Δ 0,Δ 0,.slice ν 0 0]) Ψ];refine bN λg V cg aq aG=>?_;have ch:=aF.size;have ci:=aq.size;have bf:=aG.lt;have cj:gs<U.heap.size:=ap.2.2.2.1.lt;have ck:=oR _ pl (o8 _);let s0:aH:=⟨(lex pl).1,0,false,[]⟩;let B0:aj:=λr=>r<U.heap.size;have bg:c5 V g gs bu B0 s0 (lex pl).2:=by
  refine⟨⟨Ω,λh=>h,λh=>h,λr W=>?_,λr W=>by have W:r<U.heap.size:=W;omega⟩,⟨be,pl,0,ap.ext aq,λr W=>?_,by rw[List.drop_zero]⟩,⟨by show (0:Int)<=0;omega,by show (0:Int)<=ax;omega,by show (([]:List (Λ×List (Λ×Int))).length+(lex pl).1.length<=100000);simp;omega⟩,0,0,0,0,.slice ν 0 0,aG,⟨by simp[s0],λ_=>rfl⟩,fx (α:=hK)⟩
  .rcases W with rfl|rfl|W
   .exact bf
   .omega
   .exact W.elim
  .obtain⟨_,_,_,ai,cl,hm⟩:=ap;have ad:=bA hm W;have af:=bX hm ai Φ W;exact⟨λab=>by
    rcases ab with ab|ab|ab
    .omega
    .exact af ab
    .exact ab,by show r<U.heap.size;omega⟩
 have au:∀r,bw g gs bu r->w.heap.size<=r:=λr W=>by
  rcases W with rfl|rfl|W
  .omega
  .omega
  .exact W.elim
 refine (y5 bg).mono ?_;rintro _ cm _ ⟨Y,name,bh,rfl,cn,cp,bi⟩;obtain⟨bj,bk⟩:=fk.of Y;rw[aK (v:=bz name) rfl,aK (v:=Δ bh) rfl,mp cP.u,bR];refine (pn bk).mono ?_;rintro _ cq _ Y;obtain⟨bl,bm⟩:=Y.of;refine (kJ (lo:=1) (hi:=ax) bm).mono ?_;rintro _ cr _ ⟨Y,n,bn,rfl,aI,bo⟩;obtain⟨bp,bq⟩:=Y.of;rw[aK (v:=Δ n) rfl,aK (v:=Δ bn) rfl,bR];refine (pn bq).mono ?_;rintro _ ct _ Y;obtain⟨br,bt⟩:=Y.of;refine (kJ (lo:=1) (hi:=ax) bt).mono ?_;rintro _ cu _ ⟨Y,most,bx,rfl,aL,bB⟩;obtain⟨bC,bD⟩:=Y.of;rw[aK (v:=Δ most) rfl,aK (v:=Δ bx) rfl];refine (kJ (lo:=0) (hi:=ax) bD).mono ?_;rintro _ cw _ ⟨Y,cnt,bE,rfl,aM,bF⟩;obtain⟨bG,bH⟩:=Y.of;rw[aK (v:=Δ cnt) rfl,aK (v:=Δ bE) rfl,bR];refine (pn bH).mono ?_;rintro _ cz _ Y;obtain⟨bI,bJ⟩:=Y.of;refine (kJ (lo:=1) (hi:=ax) bJ).mono ?_;rintro _ cA _ ⟨Y,k,bK,rfl,bL,cC⟩;obtain⟨bM,bO⟩:=Y.of;rw[aK (v:=Δ k) rfl,aK (v:=Δ bK) rfl,bR];refine (pn bO).mono ?_;rintro _ aN _ Y;obtain⟨bP,aw⟩:=Y.of;have aO:ag (bw g gs bu) V aN:=(((((((bj.trans bl).trans bp).trans br).trans bC).trans bG).trans bI).trans bM).trans bP;have ay:∀ {lo:Int} {o:Option aH} {x:Int},0<=lo->lo<=1->(∀q,a1 lo ax o=σ q->x=q.1)->(a1 lo ax o=ν->x=0)->0<=x/\x<=ax:=λ{lo o x} cD h1 I bQ=>by
  cases J:a1 lo ax o with
  |none=>rw[bQ J];omega
  |some q=>
   have ad:=lz (n:=q.1) (s':=q.2) J;rw[I q J];omega
 have cE:=ay Ω Ω aI bo;have cF:=ay Ω Ω aM bF;have cG:=ay Ω Ω aL bB;obtain⟨N,bS⟩:∃N:Nat,n=(N:Int):=⟨n.toNat,Ω⟩;obtain⟨C,bT⟩:∃C:Nat,cnt=(C:Int):=⟨cnt.toNat,Ω⟩;have bU:n.toNat=N:=Ω
 have bV:cnt.toNat=C:=Ω
 have bW:dB s0:=λ_=>by show (0:Int)<=16384;omega
 have al:∀ {o:Option aH} {b:Bool},(∀s,o=σ s->dB s)-> ∀s,o.map (a8 b)=σ s->dB s:=λh s I=>by
  obtain⟨t,az,rfl⟩:=X0.1 I;exact (h t az).big
 have am:∀ {o:Option aH} {lo hi:Int},(∀s,o=σ s->dB s)-> ∀s,(a1 lo hi o).map (·.2)=σ s->dB s:=λ{o lo hi} h s I=>by
  obtain⟨q,J,rfl⟩:=X0.1 I;cases o with
  |none=>cases J
  |some t=>exact (h t rfl).num (n:=q.1) (s':=q.2) J
 have bY:∀s,(dy s0).map (·.2)=σ s->dB s:=λs I=>by
  obtain⟨q,J,rfl⟩:=X0.1 I;exact bW.word (w:=q.1) (s':=q.2) J
 have aP:=al (b:=decide (2147483648<k)) (am (lo:=1) (hi:=ax) (al (b:=decide (256<cnt)) (am (lo:=0) (hi:=ax) (am (lo:=1) (hi:=ax) (al (b:=decide (64<n)) (am (lo:=1) (hi:=ax) (al (b:=decide (64<(name.length:Int))) bY)))))));have X:=λ(sizes:Λ) (so6:Option aH)=>IU (s0:=s0) (name:=name) (sizes:=sizes) (n:=n) (most:=most) (cnt:=cnt) (k:=k) (so6:=so6) bi aI aL aM bL;rw[bU] at X;generalize cH:U1 (a8 (decide (2147483648<k))) (U1 (λx=>x.2) (a1 1 ax (U1 (a8 (decide (256<cnt))) (U1 (λx=>x.2) (a1 0 ax (U1 (λx=>x.2) (a1 1 ax (U1 (a8 (decide (64<n))) (U1 (λx=>x.2) (a1 1 ax (U1 (a8 (decide (64<(name.length:Int)))) (U1 (λx=>x.2) (dy s0)))))))))))))=aQ at aP aw X;rw[bS];refine IM (N:=N) (most:=most) aw Ω λav aA sizes so6 cI bZ aR aS cJ b0 aU aV=>?_;have X:=X sizes so6 aU aV;rw[bV] at X;have aC:ag (bw g gs bu) V aA:=aO.trans bZ;have z12:=aC.size;have aW:Ext w V:=aF.trans aq;have b1:ag (λr=>w.heap.size<=r) w aA:=(aW.aa _).trans (aC.mono λr _ h=>au r h);have cK:=aR.side;have aX:∀ah,so6=σ ah->dB ah/\(∀z∈sizes,1<=z/\z<=ax)/\sizes.length<=100000:=λah aD=>by
  cases J:eW (fj most) N [] aQ with
  |none=>rw[aV J] at aD;cases aD
  |some q=>
   obtain⟨ad,af⟩:=aU q J;cases aD.symm.trans ad;subst af;cases aQ with
   |none=>cases J
   |some b3=>
    obtain⟨b4,b5,cL⟩:=IT (l:=q.1) (s':=q.2) (aP b3 rfl) Ω J;exact⟨b4,b5,by have:=aw.words;omega⟩
 rw[bT];have aY:∀r,leads av r->aN.heap.size<=r/\r<aA.heap.size:=λr W=>by have:=bA aS W;omega
 have cM:=aO.size;refine IS (w0:=w) (c:=C) (all:=sizes) aR.q (λs I=>(aX s I).1) Ω aS.ls (λr W=>?_) (λan=>?_) b0 ((aE.ext aW).aa aC λab=>by have:=au 1 ab;omega) ⟨bc,λ_=>⟨λab=>by have:=au 1 ab;omega,by show 1<U.heap.size;omega⟩⟩
  b1 Ω Ω ⟨Ω,Ω⟩ (λ_ r h=>h.elim) λcN cO acc so cQ cR cS cT aZ cU b6 b7 b8 b9 a2 ca=>?_
 .have:=aY r W;exact⟨Ω,Ω,Ω,λ_ h=>h⟩
 .cases a6:so6 with
  |none=>exact absurd a6 an
  |some ah=>exact (aX ah a6).2.1
 have cV:=aZ.size;have ac:fO pl=match gO s0 with
   |none=>ν
   |some (f,s)=>if s.toks=[]/\(lex pl).2=true/\s.big=false then σ f else ν:=by
  unfold fO;rw[if_neg Ω];have e:gO ⟨(lex pl).1,0,false,[]⟩=gO s0:=rfl;rw[e];cases gO s0<;>rfl
 refine IL (w0:=w) (sizes:=sizes) (res:=fO pl) b6 ⟨λs I az cb ai=>?_,λan=>?_⟩ b9 (λr W=>by have:=aY r W;exact⟨Ω,Ω⟩) b7 b8 (λ_=>trivial) Ω Ω aZ Ω Ω ao λv w' h=>h
 .cases J:eW (λ_ s=>cX sizes s) C [] so6 with
  |none=>rw[ca J] at I;cases I
  |some q=>
   obtain⟨ad,af⟩:=a2 q J;cases I.symm.trans ad;rw[J] at X;have X:gO s0=σ ((⟨name,k,sizes,q.1⟩:b2),q.2):=X;have a7:=(y2 rfl X ai).1;rw[X] at ac;simp only at ac;rw[if_pos ⟨az,cb,ai⟩] at ac;exact⟨q.1,af,ac,IV a7 (by show (lex pl).1.length<=60000;omega),a7.jP,Ω⟩
 .cases J:eW (λ_ s=>cX sizes s) C [] so6 with
  |none=>
   rw[J] at X;have X:gO s0=ν:=X;rw[X] at ac;exact absurd ac an
  |some q=>
   obtain⟨ad,af⟩:=a2 q J;rw[J] at X;have X:gO s0=σ ((⟨name,k,sizes,q.1⟩:b2),q.2):=X;rw[X] at ac;simp only at ac;by_cases ba:q.2.toks=[]/\(lex pl).2=true/\q.2.big=false
   .exact⟨q.2,ad,ba⟩
   .rw[if_neg ba] at ac;exact absurd ac an
theorem ul (s t cs:Λ):∃e,nu s t cs= .tuple #[Δ (cM s cs t),Δ e]:=by
 unfold nu cM;cases ct s t 0 with
 |none=>exact⟨3,rfl⟩
 |some n=>exact⟨0,rfl⟩
theorem IX:ak x3 xl [sv] w λr w'=>Ext w w'/\ ∃g,r= .func (.func nk) #[] #[Γ g]/\w.heap.size<=g/\af w' g ai sv.cells.toList:=by
 refine aB func253 ?_;refine bN λg U V I J=>?_;rw[kx];exact⟨I,g,rfl,Ω,J⟩
theorem IY {f:FuncId} {cap:Array x1} {aj:Nat->List x1->x2->Prop} {I:x2->Prop} {L:Λ} (ay:lU x3 f cap.toList n aj I) (al:∀k vs w,aj k vs w-> ∃x,L[k]? =σ x/\vs=[Δ x])
  (hI:∀a b,ag (λr=>w.heap.size<=r) a b->I a->I b) (az:I w) (aA:n=L.length) (aP:L.length<=1000000):
  ak x3 Eh [.slice ν 0 0,.func (.func f) #[] cap] w λv w'=>Ext w w'/\ ∃g,w.heap.size<=g/\au .i64 ab w' g v L:=by
 refine lk func183 ?_;refine bN λgs U aQ am W=>?_;have W:af U gs ai [.slice ν 0 0]:=W;have aR:=W.lt;have an:∀ {a b:x2},Ext a b->I a->I b:=λJ=>hI _ _ (J.aa _);refine na.old ⟨Nat,false,f,cap,0,_,_,I,λk w'=>ag (λr=>w.heap.size<=r) w w'/\ ∃v g,gs<g/\af w' gs ai [v]/\au .i64 ab w' g v (L.take k),λ_ _ _=>False,rfl,ay.s,?_,λ_ _ J h=>an J h,
  λ_ _ _ J h=>⟨h.1.trans (J.aa _),by obtain⟨v,g,h1,aB,aC⟩:=h.2;exact⟨v,g,h1,aB.ext J,aC.ext J⟩⟩,λ_ _ _ _ _ h=>h,an am az,⟨am.aa _,_,gs+1,Ω,W,au.nil _ _ _ _⟩,?_,?_,λ_ _ h=>h.elim,λ_ _ _ h=>h.elim⟩
 .rintro k vs aS w' ⟨_,_,h⟩;obtain⟨x,_,rfl⟩:=al k vs w' h;rfl
 .rintro a k _ V haD ⟨X,rfl,aE⟩ ⟨aF,v,g,aG,ao,Y⟩;obtain⟨x,J,aH⟩:=al k _ V aE;cases aH;intro aT ac _ _;have ap:=ao.ext ac;rw[ad Ψ (ap.Qz rfl)];refine dx ai.u ab.i rfl λa aW aU aV ae aI=>?_;have aX:(L.take k).length<=1000000:=Θ
  refine hD ai.u ab.i rfl ((Y.ext ac).ext ae) aI.ls (by simp only[j5,List.length_nil];omega) (by simp only[j5,List.length_nil];omega) λaJ aK aY aZ ah aq=>?_;have a1:=ao.lt;have a2:=ac.size;have a6:=ae.size;refine bh ai.i ah.ls.cells.1 ah.ls.cells.2 (((ap.ext ae).aa aq Ω)) Ξ λaL av a7 aM=>?_;have aw:ag (λr=>w.heap.size<=r) V aL:=(((ac.trans ae).aa _).trans (aq.mono λr _ h=>by show w.heap.size<=r;omega)).trans (av.mono λr _ h=>by show w.heap.size<=r;omega);refine⟨hI _ _ aw haD,⟨aF.trans aw,aJ,aK,Ω,aM,?_⟩,λh=>by cases h⟩;rw[r8,J];exact ah.aa av (λ_=>Ω)
 .rintro k a8 X ⟨aN,v,g,aG,aO,Y⟩;have X:k=n:=X;subst X;rw[ad Ψ (aO.Qz rfl)];intro ba ax _;rw[aA,o9] at Y;exact⟨(aN.ext λr bb h=>by have:w.heap.size<=r:=h;omega).trans ax,g,Ω,Y.ext ax⟩
theorem um {f:FuncId} {cap:Array x1} {J:Nat->List x1->x2->Prop} {I:x2->Prop} {L:Λ} (U:lU x3 f cap.toList n J I) (V:∀k vs w,J k vs w-> ∃x,L[k]? =σ x/\vs=[Δ x])
  (hI:∀a b,ag (λr=>w.heap.size<=r) a b->I a->I b) (W:I w) (X:n=L.length) (Y:L.length<=1000000):
  ak x3 DG [.func (.func f) #[] cap] w λv w'=>Ext w w'/\ ∃g,w.heap.size<=g/\au .i64 ab w' g v L:=by
 refine aB func117 ?_;exact (IY U V hI W X Y).mono λ_ _ _ h=>h
theorem IZ {x:Int}:ak x3 cmp_Less_int [Δ x,Δ y] w λv w'=>v= .bool (decide (x<y))/\Ext w w':=by
 refine aB func322 ?_;refine aQ (λv U=>v= .bool (decide (x<y))/\Ext w U) (λ_ _ h=>h) λX I=>?_;have J:∀ {z:Int} {w:x2},ak x3 cmp_isNaN_int [Δ z] w λv w'=>v= .bool false/\Ext w w':=λ{z w}=>by
  refine aB func182 ?_;simp only[bG];exact⟨Ξ,Ext.refl _⟩
 refine J.mono ?_;rintro _ V _ ⟨rfl,W⟩;rw[aS];simp only[aq];exact I _ _ ⟨rfl,W⟩
theorem I0 {P:W7} {t:r9} {cx cy:Bool} {k:o6} {a b:Int}:bl P (aC .sub t cx cy (.int k a) (.int k b)) (.int k (k.wrap (a-b))) w:=λw' _=>by simp[aC,eqGuard,binOp,Op.intArith]
theorem I1 {g:Nat} (h:au .i64 ab w g sv l) (aL:l.length<=1000000):
  ak x3 Ft [sv,Δ 0,Δ l.length] w λ_ w'=>ag (λr=>r=g) w w'/\ ∃m,m.Perm l/\m.Pairwise (·<= ·)/\au .i64 ab w' g sv m:=by
 refine aB func316 ?_;simp only[aN];refine⟨λt U=>∃ (i:Nat) (m:Λ),t=Δ i/\1<=i/\(i<=l.length\/i=1)/\m.Perm l/\o0 m i/\ag (λr=>r=g) w U/\au .i64 ab U g sv m,λt _=>l.length+1-(bO t).toNat,
  ⟨1,l,by congr 1,Ω,.inr rfl,.refl _,λp q x y h1 ax=>Ω,ag.refl _ _,h⟩,?_⟩
 rintro _ U ⟨i,m,rfl,aM,aO,W,aj,al,hm⟩;have ay:=W.length_eq;simp only[aq,ae];refine⟨λaz=>?_,λaP=>?_⟩
 .have az:i<l.length:=Ω
  refine⟨λt V=>∃ (j:Nat) (m:Λ),t=Δ j/\j<=i/\m.Perm l/\nL m i j/\ag (λr=>r=g) w V/\au .i64 ab V g sv m,λt _=>(bO t).toNat,⟨i,m,rfl,o8 _,W,GK aj,al,hm⟩,?_⟩;rintro _ V ⟨j,m,rfl,aA,W,ad,am,hm⟩;have ay:=W.length_eq;refine aQ (λv an=>Ext V an/\ ∃c,v= .bool c/\(c=true->0<j/\ ∃a b,m[j-1]? =σ a/\m[j]? =σ b/\b<a)/\(c=false->j=0\/0<j/\ ∃a b,m[j-1]? =σ a/\m[j]? =σ b/\a<=b)) ?_ ?_
  .rintro _ an ⟨Y,c,rfl,aC,aD⟩;rw[bD];refine⟨λh=>?_,λh=>?_⟩
   .obtain⟨X,a,b,I,J,af⟩:=aC h;intro aR ao _ _;have ac:=(hm.ext Y).ext ao;have e:Y6.wrap ((j:Int)-1)=((j-1:Nat):Int):=by rw[wrap_i64 Ω Ω];omega
    simp only[c3,e];rw[bd ai.u ab.i Ψ ac.ls I,bd ai.u ab.i Ψ ac.ls J,gx rfl ai.u ab.i ac Ω];refine gy ab.i ac Ω λaE aF aS ap=>⟨.inr ⟨by have:=I0 (P:=x3) (w:=aE) (t:=ab) (cx:=false) (cy:=true) (k:=.i64) (a:=(j:Int)) (b:=1);rwa [e] at this,trivial⟩,?_⟩;rw[gx rfl ai.u ab.i ap Θ];refine gy ab.i ap Θ λaT aG aU aH=>?_;refine⟨⟨j-1,_,rfl,Ω,(swap_perm Ω I J).trans W,GN ad X aA I J af,((am.trans ((Y.trans ao).aa _)).trans aF).trans aG,aH⟩,?_⟩;simp only[bO];omega
   .simp only[aN];rw[wrap_i64 Ω Ω];refine⟨⟨i+1,m,rfl,Ω,.inl Ω,W,?_,am.trans (Y.aa _),hm.ext Y⟩,?_⟩
    .rcases aD h with rfl|⟨X,a,b,I,J,af⟩
     .exact GL ad
     .exact GM ad X I J af
    .simp only[bO];omega
  .intro aV av aW ah _ _;have aw:=hm.ext ah;simp only[bR,ae];refine⟨λX=>?_,λX=>av _ _ ⟨ah,false,rfl,(λh=>by cases h),λ_=>.inl Ω⟩⟩;have e:Y6.wrap ((j:Int)-1)=((j-1:Nat):Int):=by rw[wrap_i64 Ω Ω];omega
   obtain⟨b,J⟩:∃b,m[j]? =σ b:=⟨_,y0 Ω⟩;obtain⟨a,I⟩:∃a,m[j-1]? =σ a:=⟨_,y0 Ω⟩;rw[bd ai.u ab.i Ψ aw.ls J];simp only[c3,e];rw[bd ai.u ab.i Ψ aw.ls I];refine IZ.mono ?_;rintro _ aX _ ⟨rfl,aI⟩;refine av _ _ ⟨ah.trans aI,_,rfl,λh=>⟨Ω,a,b,I,J,by simpa using h⟩,λh=>.inr ⟨Ω,a,b,I,J,by simpa using h⟩⟩
 .refine⟨al,m,W,GO λp q x y h1 ax aJ aK=>aj p q x y h1 Ω aJ aK,hm⟩
theorem I2 {P:W7} {t:r9} {k:o6} {s:ByteArray} {i:Nat} {K:x1->Prop} (I:P.underlying t=σ .string) (hi:i<s.size) (U:∀b:Nat,b<256->K (.int .u8 b)):
  J P (Instr.index t (.string s) (.int k (i:Int))) w K:=by
 have V:s[i]? =σ s[i]:=by simp[hi]
 have:J P (Instr.index t (.string s) (.int k (i:Int))) w K=K (.int .u8 s[i].toNat):=J.of λw' _=>by
  simp[Instr.index,asIntOf,run_underlying I,hi]
 rw[this];exact U _ (UInt8.toNat_lt _)
theorem I3 (I:n<256):ak x3 Eg [.int .u64 (n:Int)] w λv w'=>(∃r,v=Δ r)/\Ext w w':=by
 refine aB func181 ?_;refine ak.mono (K:=λv w'=>(∃r,v=Δ r)/\Ext w w') ?_ (λ_ _ _ h=>h);refine aB func238 ?_;simp only[bB,ce,ae];refine⟨λh=>Ω,λ_=>⟨λh=>Ω,λ_=>⟨λh=>Ω,λ_=>?_⟩⟩⟩;rw[e2 ew.u cv.u,wrap_u8 Ω Ω];refine I2 cP.u (by exact Nat.lt_of_lt_of_le I Φ) λb J=>?_;rw[e2 cv.u ab.u];simp only[aN];exact⟨⟨_,rfl⟩,Ext.refl _⟩
theorem I4 {g:Nat} (h:au .i64 ab w g sv l) (J:l.length<=12):
  ak x3 Fa [sv] w λ_ w'=>ag (λr=>r=g) w w'/\ ∃m,m.Perm l/\m.Pairwise (·<= ·)/\au .i64 ab w' g sv m:=by
 refine aB func282 ?_;rw[aT ai.u h.ls,e2 ab.u nl.u,wrap_u64 Ω Ω];refine (I3 (n:=l.length) Ω).mono ?_;rintro _ U _ ⟨⟨r,rfl⟩,I⟩;refine ak.mono (K:=λ_ w'=>ag (λr=>r=g) U w'/\ ∃m,m.Perm l/\m.Pairwise (·<= ·)/\au .i64 ab w' g sv m) ?_ (λ_ _ _ h=>⟨(I.aa _).trans h.1,h.2⟩);refine aB func305 ?_;refine⟨λa b _ _ _ V=>a=Δ 0/\b=Δ l.length/\U=V,λ_ _ _ _ _ _=>0,⟨rfl,rfl,rfl⟩,?_⟩;rintro _ _ _ _ _ _ ⟨rfl,rfl,rfl⟩;simp only[c3,l4,ae];rw[wrap_i64 Ω Ω];refine⟨λ_=>?_,λh=>Ω⟩;refine (I1 (h.ext I) Ω).mono ?_;exact λ_ _ _ h=>h
theorem I5 {f:FuncId} {cap:Array x1} {J:Nat->List x1->x2->Prop} {I:x2->Prop} {L:Λ} (W:lU x3 f cap.toList n J I) (X:∀k vs w,J k vs w-> ∃x,L[k]? =σ x/\vs=[Δ x])
  (hI:∀a b,ag (λr=>w.heap.size<=r) a b->I a->I b) (Y:I w) (aa:n=L.length) (ac:L.length<=12):
  ak x3 xk [.func (.func f) #[] cap] w λv w'=>Ext w w'/\ ∃g m,w.heap.size<=g/\m.Perm L/\m.Pairwise (·<= ·)/\au .i64 ab w' g v m:=by
 refine aB func252 ?_;refine (um W X hI Y aa Ω).mono ?_;rintro v U _ ⟨ad,g,ae,af⟩;refine (I4 af ac).mono ?_;rintro _ V _ ⟨ah,m,h1,ai,aj⟩;exact⟨ad.then ah (by rintro r al rfl;omega),g,m,ae,h1,ai,aj⟩
theorem Ao {x:Int} (h:aJ .i64 w sv l):
  ak x3 s5 [sv,Δ x] w λv w'=>Ext w w'/\ ∃r:Int,v=Δ r/\ ∀i:Nat,l[i]? =σ x->(r=i↔ ∀j,j<i->l[j]? ≠σ x):=by
 refine aB func103 ?_;rw[aT ai.u h];refine bE.range l.length (λi _ U=>Ext w U/\ ∀j,j<i->l[j]? ≠σ x) h.le ⟨Ext.refl _,λj W=>Ω⟩ ?_ ?_
 .rintro i _ U k hi ⟨I,J⟩ X;simp only[aq,ae];refine⟨λ_=>?_,λh=>Ω⟩;obtain⟨y,V⟩:∃y,l[i]? =σ y:=⟨_,y0 hi⟩;rw[bd ai.u ab.i Ψ (h.ext I) V];simp only[bk,ae,aN];refine⟨λhe=>⟨I,i,rfl,λq Y=>?_⟩,λhe=>X _ _ ⟨I,λj W=>?_⟩⟩
  .subst he;refine⟨λad=>by
              have:i=q:=Ω
              subst this;exact J,λaa=>?_⟩
   rcases Nat.lt_trichotomy i q with h1|h1|h1
   .exact absurd V (aa i h1)
   .omega
   .exact absurd Y (J q h1)
  .by_cases ac:j=i
   .subst ac;rw[V];intro h;exact he (Z8 h).symm
   .exact J j Ω
 .rintro _ U k ⟨I,J⟩;simp only[aq,ae];refine⟨λh=>Ω,λ_=>⟨I,-1,rfl,λi hi=>?_⟩⟩;exact absurd hi (J i (x4.1 hi).1)
theorem I6 {g:Nat} {w0:x2} (X:af w0 g ai [sv]) (J:aJ .i64 w0 sv l):
  lU x3 nk [Γ g] l.length (λk vs _=>∃x,l[k]? =σ x/\vs=[Δ x]) (λw=>Ext w0 w):=by
 refine⟨nk.enters,λy Y al w am _ aa I ac=>?_⟩;refine oL func283 ?_;rw[ad Ψ ((X.ext I).Qz rfl),aT ai.u (J.ext I)];refine bP.range l.length (λi V=>Y i V/\Ext w0 V) J.le ⟨ac,I⟩ ?_ ?_
 .rintro i V k hi ⟨U,W⟩ ag;simp only[aq,ae];refine⟨λ_=>?_,λh=>Ω⟩;obtain⟨x,I⟩:∃x,l[i]? =σ x:=⟨_,y0 hi⟩;rw[bd ai.u ab.i Ψ (J.ext W) I];refine⟨rfl,(aa i _ V hi W ⟨x,I,rfl⟩ U).mono ?_⟩;rintro _ an (⟨rfl,ah,aj⟩|⟨rfl,ak⟩)
  .simp only[bf,Y1,aS,aN];exact ag _ ⟨aj.1,ah⟩
  .simp only[bf,X5,bQ];exact .inr ⟨i,hi,ak⟩
 .rintro V k ⟨U,_⟩;simp only[aq,ae];exact⟨λh=>Ω,λ_=>.inl U⟩
theorem uo (h:aJ .i64 w sv l) (W:l.length<=12)
  (X:∀v w' g m,Ext w w'->w.heap.size<=g->m.Perm l->m.Pairwise (·<= ·)->au .i64 ab w' g v m->K v w'):
  ak x3 xl [sv] w λt U=>ak x3 xk [t] U K:=by
 refine IX.mono ?_;rintro _ U _ ⟨J,g,rfl,ah,I⟩;have I:af U g ai [sv]:=by rw[h.cells.1] at I;exact I
 refine (I5 (I6 I (h.ext J)) (λ_ _ _ h=>h) (λa b Y aa=>aa.then Y (λr aj h=>Ω)) (Ext.refl _) rfl W).mono ?_;rintro v V _ ⟨ac,ad,m,al,h1,ae,ag⟩;have:=J.size;exact X v V ad m (J.trans ac) Ω h1 ae ag
def I7 (w:x2) (szs:Λ) (k:Int) (cs I:Λ) (v:x1) (w':x2):Prop:=
 Ext w w'/\
  (¬Good I szs.length->v= .tuple #[.pointer ν,Δ 1])/\
  (Good I szs.length-> ∃J U V,v= .tuple #[Γ J,Δ 0]/\cR w' J U V (dS szs I) k (mv szs cs I))
theorem I8 {g b0:Nat} {aH:x1} {cs:Λ} (h:cR w g b0 sv szs k cs) (b1:right k) (az:aJ .i64 w aH I) (cL:I.length<=12) (cN:Good I szs.length->aM (dS szs I)<=4096):
  ak x3 EV [Γ g,aH] w (I7 w szs k cs I):=by
 have a2:=h;have cO:=h.2.2.1;have cP:=az.cells;refine lk func254 ?_;refine bN λg1 U dt b2 X=>?_;refine bN λb3 V du bu J=>?_;have s1:=b2.size;have dv:=bu.size;have dw:=X.lt;have dx:=J.lt;have bw:=b2.trans bu;have X:af V g1 ek [Γ g]:=X.ext bu;have J:af V b3 ai [aH]:=by rw[cP.1] at J;exact J
 rw[ad Ψ (X.Qz rfl),cC ek.u];simp only[Z0,aS];rw[ad Ψ (J.Qz rfl)];have cQ:=az.ext bw;have sub:∀ {w:x2} {g:Nat} {sv:x1} {k:Int} {aL:x1},af w g cU [sv,Δ k,aL]->w.rangeAt g (0+0) [sv]:=λap=>ml ap (by
  intro j v bx
  match j,bx with
  |0,bx=>exact bx)
 refine uo cQ cL λbV cS ba m b4 dy bz cT hm=>?_;have cV:=bz.length_eq;rw[aT ai.u hm.ls];have cW:=bw.trans b4;refine k7.range m.length (λi _ _ bA=>Ext cS bA/\ ∀j,j<i->m[j]? =σ (j:Int)) Ω ⟨Ext.refl _,λj bB=>Ω⟩ ?_ ?_
 .rintro i _ _ bA aI hi ⟨aO,bC⟩ aP;simp only[aq,ae];refine⟨λ_=>?_,λh=>Ω⟩;obtain⟨y,aQ⟩:∃y,m[i]? =σ y:=⟨_,y0 hi⟩;rw[bd ai.u ab.i Ψ (hm.ls.ext aO) aQ];simp only[bG,ae,aN];refine⟨λaR dz cX _=>⟨(cW.trans aO).trans cX,λ_=>rfl,λbD=>?_⟩,λhe=>aP _ _ _ ⟨aO,λj bB=>?_⟩⟩
  .have:=yK bD bz cT i hi;rw[aQ] at this;exact absurd (Z8 this).symm aR
  .by_cases cY:j=i
   .subst cY;rw[aQ];congr 1;omega
   .exact bC j Ω
 .rintro _ _ bA aI ⟨aO,bC⟩;simp only[aq,ae,cm];refine⟨λh=>Ω,λ_ dA cZ _ _=>?_⟩;have Y:Good I m.length:=GP bC bz;have aU:=(b4.trans aO).trans cZ;have a6:=bw.trans aU;have X:=X.ext aU;have J:=J.ext aU;have c0:=az.ext a6;have c1:=a2.ext a6;have dC:=aU.size;obtain⟨⟨aL,gs,ap,a7,b5⟩,_⟩:=id c1;rw[ad Ψ (J.Qz rfl),aT ai.u c0,ad Ψ (X.Qz rfl),ay,ac cU.p rfl,bn (cs:=[sv]) bq.p bq.i rfl (sub ap)];refine (za a7.ls).mono ?_;rintro _ a8 _ ⟨rfl,av⟩;refine⟨.inl av,?_⟩;simp only[bG,ae];refine⟨λaR dD c2 _=>⟨(a6.trans av).trans c2,λ_=>rfl,λbD=>absurd (by rw[bD.1]) aR⟩,λdE=>?_⟩;have bE:I.length=szs.length:=Ω
  have Y:Good I szs.length:=by rw[<-bE,<-cV];exact Y
  have dF:=aU.trans av;have bF:=a6.trans av;have X:=X.ext av;have J:=J.ext av;have b6:=az.ext bF;rw[ad Ψ (J.Qz rfl),aT ai.u b6];refine i9 ai.u ab.i Ω Ω λaV b7 dG aA b8=>?_;have c3:au .i64 ab b7 aV (.slice (σ ⟨aV,0,ν⟩) I.length I.length) (o7 I.length 0):=au.of (n:=I.length) (bU.full b8 Ξ (by simp[maxLen];omega));generalize (x1.slice (σ ⟨aV,0,ν⟩) I.length I.length)=c4 at*;have dH:=av.size;have dI:=aA.size;have dJ:=b8.lt;rw[ad Ψ ((J.ext aA).Qz rfl),aT ai.u (b6.ext aA)];have b9:=bF.trans aA;have bb:(dS szs I).length=I.length:=q4 _ _;refine bP.range I.length (λi am=>ag (λr=>r=aV) b7 am/\au .i64 ab am aV c4 (upto (dS szs I) 0 i)) Ω ⟨ag.refl _ _,by rw[nH,bb];exact c3⟩ ?_ ?_
  .rintro i am aI hi ⟨ax,be⟩ aP;simp only[aq,ae];refine⟨λ_=>?_,λh=>Ω⟩;have aW:Ext w am:=b9.then ax (by rintro r aj rfl;omega);have bf:Ext a8 am:=aA.then ax (by rintro r aj rfl;omega);obtain⟨p,bH⟩:∃p,I[i]? =σ p:=⟨_,y0 hi⟩;obtain⟨⟨aL,gs,ap,a7,b5⟩,_⟩:=a2.ext aW;rw[bd ai.u ab.i Ψ (az.ext aW) bH,ad Ψ ((X.ext bf).Qz rfl),ay,ac cU.p rfl,bn (cs:=[sv]) bq.p bq.i rfl (sub ap)];refine (pb a7.ls).mono ?_;rintro _ dK _ ⟨rfl,ca⟩;have cb:=be.ext ca;have c5:(upto (dS szs I) 0 i).length=I.length:=by rw[oZ,bb]
   rw[gx rfl ai.u ab.i cb Ω];refine gy ab.i cb Ω λdL c6 _ cc=>?_;simp only[aN];have h1:=(Y.2 i p bH).1;have aX:(dS szs I)[i]? =σ (gS szs p):=by
    unfold dS gS;rw[x8,bH,if_pos h1.1];rfl
   rw[nJ aX] at cc;exact aP _ ⟨(ax.trans (ca.aa _)).trans c6,cc⟩
  .rintro am aI ⟨ax,be⟩;simp only[aq,ae];refine⟨λh=>Ω,λ_=>?_⟩;have aW:Ext w am:=b9.then ax (by rintro r aj rfl;omega);have bf:Ext a8 am:=aA.then ax (by rintro r aj rfl;omega);rw[<-bb,nI] at be;obtain⟨⟨aL,gs,ap,a7,b5⟩,_⟩:=a2.ext aW;rw[ad Ψ ((X.ext bf).Qz rfl),ay,ac cU.p rfl,ad Ψ (ap.Q1 rfl)];have bg:bS (dS szs I):=cO.GR Y rfl;have cd:=cN Y;have dM:=prod_bound bg;refine (qS be.ls).mono ?_;rintro _ bI _ ⟨ce,_,_,_,c7⟩;obtain⟨aB,ah,aC,rfl,dN,dO,dP,bi⟩:=c7 bg cd ⟨b1,Ω,by have:=b1.1;omega⟩;obtain⟨N,bj⟩:∃N:Nat,(aM (dS szs I)).toNat=N:=⟨_,rfl⟩;rw[bj] at bi;rw[aK (v:=Γ aB) rfl,aK (v:=Δ 0) rfl];refine bp ek.i λcg dQ dR ch aY=>?_;refine bh ek.i rfl rfl aY (by simp[x1.cells]) λc8 c9 dT aY=>?_;have dU:=ax.size;have dV:=ce.size;have dW:=ch.size;have bJ:Ext bI c8:=ch.then c9 (by rintro r aj rfl;omega);have ci:=ce.trans bJ;have da:=bi.ext bJ;have dX:=aY.lt;obtain⟨⟨bK,cj,ck,cl,db⟩,⟨cn,cp,_⟩,_,dY⟩:=id da;have dZ:0<N:=Ω
   have ea:aB<bI.heap.size:=by obtain⟨⟨_,_,q,_⟩,_⟩:=id bi;exact q.lt
   have eb:ah<bI.heap.size:=by obtain⟨⟨_,_,_,_,q⟩,_⟩:=id bi;exact nY q Θ
   rw[ad Ψ (aY.Qz rfl),ay,ac cU.p rfl,bn (cs:=[aC]) bq.p bq.i rfl (sub ck)];refine rj.mono ?_;rintro _ al _ ⟨an,bk,rfl,ec,cq⟩;have ed:=bJ.size;have ee:=an.size;let S:Nat->Prop:=λr=>r=ah;let aD:=mv szs cs I;have bL:aD.length=N:=by simp only[aD];rw[yQ,bj]
   let dc:x2->Prop:=λw'=>af w' g1 ek [Γ g]/\af w' b3 ai [aH]/\af w' cg ek [Γ aB]/\af w' aB cU [aC,Δ k,bK]/\
    cR w' g b0 sv szs k cs/\aJ .i64 w' aH I/\au .i64 ab w' cj aC (dS szs I)/\af w' bk bq [aC]/\al.heap.size<=w'.heap.size
   have aF:∀ {a:x2},ag S al a->dc a:=by
    intro a W;have bM:Ext a8 al:=(bf.trans ci).trans an;have bO:Ext a8 a:=bM.then W (λr aj he=>by have he:r=ah:=he;omega);have cr:Ext w a:=bF.trans bO;refine⟨X.ext bO,J.ext bO,(aY.ext an).aa W (by show ¬(cg=ah);omega),(ck.ext an).aa W (by show ¬(aB=ah);exact cn),a2.ext cr,az.ext cr,bc (cl.ext an) W (λr aj he=>cp ((show r=ah from he)▸aj)),
     cq.aa W (by show ¬(bk=ah);omega),W.size⟩
   have ct:=ri (g:=bk) (B0:=al.heap.size) (sv:=aC) bg;rw[bj] at ct;refine k8.old ⟨Nat,false,jF,#[Γ bk],0,_,_,_,λq w'=>ag S al w'/\au .i64 ao w' ah bK (upto aD 0 q),λ_ _ _=>False,rfl,ct.s,
    ?_,λ_ _ W h=>⟨h.1.ext W,h.2.1.ext W,Y9 h.2.2 W.size⟩,λ_ _ _ W h=>⟨h.1.trans (W.aa S),h.2.ext W⟩,λ_ _ _ _ _ h=>h,⟨cq,(cl.ext an).ls,o8 _⟩,⟨ag.refl _ _,?_⟩,?_,?_,λ_ _ h=>h.elim,λ_ _ _ h=>h.elim⟩
   .rintro _ _ _ _ ⟨_,_,_,_,rfl,_⟩;rfl
   .rw[nH,bL];exact db.ext an
   .rintro _ aE q _ ef ⟨_,_,eg⟩ ⟨aX,rfl,eh,ei,dd,ej,de⟩ ⟨bl,df⟩;cases dd;let x:=cF (dS szs I) (q:Int);have cu:x.length=I.length:=by simp only[x];rw[h8,bb]
    intro dg aG _ _;have cw:=de.ext aG;rw[aT ai.u cw.ls];refine i9 ai.u ab.i (by rw[h8];omega) (by rw[h8];omega) λgo cz em bQ cA=>?_;have dh:au .i64 ab cz go (.slice (σ ⟨go,0,ν⟩) (cF (dS szs I) (q:Int)).length (cF (dS szs I) (q:Int)).length) (o7 (cF (dS szs I) (q:Int)).length 0):=au.of (n:=(cF (dS szs I) (q:Int)).length) (bU.full cA Ξ (by rw[h8];simp[maxLen];omega));generalize (x1.slice (σ ⟨go,0,ν⟩) (cF (dS szs I) (q:Int)).length (cF (dS szs I) (q:Int)).length)=di at*;have en:=bl.size;have eo:=aG.size;have ep:=bQ.size;have lo:=cA.lt;have dj:ag S al cz:=bl.trans ((aG.trans bQ).aa S);have f:=aF dj;rw[ad Ψ (f.2.1.Qz rfl),aT ai.u f.2.2.2.2.2.1];refine bP.range I.length (λj bm=>Ext dg bm/\ ∃y:Λ,y.length=I.length/\au .i64 ab bm go di y/\ ∀ (i:Nat) (p:Int),i<j->I[i]? =σ p->y[p.toNat]? =x[i]?) Ω
     ⟨bQ,_,by simp[cu,x],dh,λi p hi=>Ω⟩ ?_ ?_
    .rintro j bm aI bB ⟨aZ,y,bR,bo,bT⟩ aP;simp only[aq,ae];refine⟨λ_=>?_,λh=>Ω⟩;have f:=aF (bl.trans ((aG.trans aZ).aa S));obtain⟨p,br⟩:∃p,I[j]? =σ p:=⟨_,y0 bB⟩;obtain⟨u,hu⟩:∃u,x[j]? =σ u:=⟨_,y0 Ω⟩;have er:=(Y.2 j p br).1;rw[bd ai.u ab.i Ψ f.2.2.2.2.2.1 br,bd ai.u ab.i Ψ (cw.ext aZ).ls hu,gx (i:=p.toNat) Ω ai.u ab.i bo Ω];refine gy ab.i bo Ω λes dk et dl=>?_;simp only[aN];refine aP _ ⟨aZ.then dk (by rintro r aj rfl;omega),_,by simpa using bR,dl,λi bt hi a1=>?_⟩;by_cases cB:i=j
     .subst cB;rw[br] at a1;cases a1;rw[V9 Ω,hu]
     .have eu:=(Y.2 i bt a1).1;have aR:p.toNat≠bt.toNat:=λhe=>by
       have:p=bt:=Ω
       subst this;exact cB (Y.inj a1 br)
      rw[W8 aR];exact bT i bt Ω a1
    .rintro bm aI ⟨aZ,y,bR,bo,bT⟩;simp only[aq,ae];refine⟨λh=>Ω,λ_ dm cD _ _=>?_⟩;have aQ:y=kI I x:=yO Y (by rw[cu,bE]) (by rw[bR,bE]) λi p cE=>bT i p (x4.1 cE).1 cE;have cG:=aZ.trans cD;have cH:ag S al dm:=bl.trans ((aG.trans cG).aa S);obtain⟨f1,f2,f3,f4,f5,f6,f7,f8,f9⟩:=aF cH;rw[ad Ψ (f3.Qz rfl),ay,ac cU.p rfl,ad Ψ (f4.Q2 rfl),ad Ψ (f1.Qz rfl)];refine (tq f5 (bo.ls.ext cD)).mono ?_;rintro _ ev _ ⟨rfl,bW⟩;refine⟨.inl bW,?_⟩;obtain⟨e,he⟩:=ul szs y cs;rw[he,aK (v:=Δ (cM szs cs y)) rfl,aK (v:=Δ e) rfl];have dn:=cH.trans (bW.aa S);have cI:=(df.ext ((aG.trans cG).trans bW));have c5:(upto aD 0 q).length=N:=by rw[oZ,bL]
     rw[gx rfl aw.u ao.i cI Ω];refine gy ao.i cI Ω λdp dq ew cJ=>?_;have cK:ag S al dp:=dn.trans (dq.mono λr _ h=>h);obtain⟨f1,f2,f3,f4,f5,f6,f7,f8,f9⟩:=aF cK;have dr:aD[q]? =σ (cM szs cs y):=by
      simp only[aD,mv];rw[x8,List.getElem?_range (by rw[bj];exact aX),aQ];rfl
     rw[nJ dr] at cJ;exact⟨⟨f8,f7.ls,f9⟩,⟨cK,cJ⟩,λh=>by cases h⟩
   .rintro q ey aX ⟨bX,bY⟩;rw[show q=N from aX] at bY;have f:=aF bX;rw[ad Ψ (f.2.2.1.Qz rfl)];intro ez bZ _;obtain⟨f1,f2,f3,f4,f5,f6,f7,f8,f9⟩:=aF (bX.trans (bZ.aa S));rw[<-bL,nI] at bY;have bM:Ext w al:=(aW.trans ci).trans an;refine⟨(bM.then bX (λr aj he=>by have he:r=ah:=he;omega)).trans bZ,λds=>absurd Y ds,λ_=>⟨aB,ah,aC,rfl,⟨bK,cj,f4,f7,bY.ext bZ⟩,⟨cn,cp,cd⟩,bg,yQ _ _ _⟩⟩
def gl (l:Λ):Prop:=∀ (i j:Nat) (x y:Int),i<j->l[i]? =σ x->l[j]? =σ y->x<y
theorem gl.inj (h:gl l) {i:Nat} {x:Int} (hi:l[i]? =σ x) (I:l[j]? =σ x):i=j:=by
 rcases Nat.lt_trichotomy i j with h1|h1|h1
 .have:=h i j x x h1 hi I;omega
 .exact h1
 .have:=h j i x x h1 I hi;omega
def dedup (l:Λ):Nat->Λ
 |0=>[]
 |j+1=>if 0<j/\l[j]? =l[j-1]? then dedup l j else dedup l j++[l.getD j 0]
theorem Ap (l:Λ):∀j,(dedup l j).length<=j
 |0=>o8 _
 |j+1=>by
  have:=Ap l j;unfold dedup;split
  .omega
  .simp;omega
theorem uq (I:0<j) (h:l[j]? =l[j-1]?):dedup l (j+1)=dedup l j:=by
 rw[dedup,if_pos ⟨I,h⟩]
theorem ur {x:Int} (J:l[j]? =σ x) (h:0<j->l[j]? ≠l[j-1]?):dedup l (j+1)=dedup l j++[x]:=by
 rw[dedup,if_neg (λI=>h I.1 I.2),u5,J];rfl
theorem rJ {l:Λ}:∀ {j:Nat},j<=l.length->(∀i,i<j->0<i->l[i]? ≠l[i-1]?)->dedup l j=l.take j
 |0,_,_=>by simp[dedup]
 |j+1,U,h=>by
  have I:l[j]? =σ l[j]:=y0 Ω;rw[ur I (h j Ω),rJ Ω (λi hi J=>h i Ω J),r8,I];rfl
theorem Aq {l:Λ} (I:l.Pairwise (·<= ·)):∀ {j:Nat},j<=l.length->(gl (dedup l j)/\ ∀x,x∈dedup l j↔x∈l.take j)
 |0,_=>⟨λi j x y _ h=>by simp[dedup] at h,λx=>by simp[dedup]⟩
 |j+1,aj=>by
  obtain⟨h1,W⟩:=Aq I (j:=j) Ω;have U:l[j]? =σ l[j]:=y0 Ω;by_cases V:0<j/\l[j]? =l[j-1]?
  .rw[uq V.1 V.2];refine⟨h1,λx=>?_⟩;rw[W,r8,U];simp only[Z4,n9,j4];refine⟨.inl,λh=>h.elim id λhe=>?_⟩;subst he;have Y:(l.take j)[j-1]? =σ l[j]:=by rw[Y2 Ω,<-V.2,U]
   exact x5 Y
  .have aa:0<j->l[j]? ≠l[j-1]?:=λad he=>V ⟨ad,he⟩;rw[ur U aa];have ae:∀x∈dedup l j,x<l[j]:=λx af=>by
    obtain⟨i,hi,he⟩:=List.getElem_of_mem ((W x).1 af);have ak:i<j:=by rw[o4] at hi;omega
    rw[List.getElem_take] at he;subst he;have Y:l[i]<=l[j-1]:=by
     by_cases ab:i=j-1
     .subst ab;exact Int.le_refl _
     .exact V2.1 I i (j-1) Ω Ω Ω
    have ab:=V2.1 I (j-1) j Ω Ω Ω;have ac:=aa Ω;rw[U,y0 (show j-1<l.length by omega)] at ac;have al:l[j]≠l[j-1]:=λh=>ac (by rw[h]);omega
   refine⟨λa b x y ag X J=>?_,λx=>?_⟩
   .have ah:=(x4.1 J).1;simp only[u9,j5,List.length_nil] at ah;rw[j9 Ω] at X;by_cases ai:b=(dedup l j).length
    .subst ai;rw[Z2 (o8 _),W9] at J;simp at J;subst J;exact ae x (x5 X)
    .rw[j9 Ω] at J;exact h1 a b x y ag X J
   .rw[r8,U];simp only[Z4,n9,j4,W]
def pt (l:Λ):Prop:=∀ (j:Nat) (x:Int),l[j]? =σ x->0<=x/\(0<j-> ∀y,l[j-1]? =σ y->y<x)
theorem pt.up (h:pt l):gl l:=by
 intro i j x y X U;induction j generalizing y with
 |zero=>omega
 |succ j V=>
  intro J;have Y:=(x4.1 J).1;obtain⟨z,I⟩:∃z,l[j]? =σ z:=⟨_,y0 (show j<l.length by omega)⟩;have h1:=(h (j+1) y J).2 Ω z (by simpa using I);by_cases W:i=j
  .subst W;rw[U] at I;cases I;exact h1
  .have:=V z Ω I;omega
theorem I9 (h:gl l) (J:∀x∈l,0<=x):pt l:=λj x I=>⟨J x (x5 I),λV y U=>h (j-1) j y x Ω U I⟩
theorem Ar {g an:Nat} {aj:x1} {cs:Λ} (h:cR w g an sv szs k cs) (I:aJ .i64 w aj l):
  ak x3 EW [Γ g,aj] w λv w'=>Ext w w'/\ ∃c,v= .bool c/\(c=true↔l.length=szs.length/\pt l):=by
 obtain⟨⟨aL,gs,ao,hm,X⟩,_⟩:=h;have sub:w.rangeAt g (0+0) [sv]:=ml ao (by
  intro j v Y
  match j,Y with
  |0,Y=>exact Y)
 refine aB func255 ?_;rw[aT ai.u I,ay,ac cU.p rfl,bn (cs:=[sv]) bq.p bq.i rfl sub];refine (za hm.ls).mono ?_;rintro _ U _ ⟨rfl,aa⟩;simp only[bG,ae];refine⟨λap=>⟨aa,false,rfl,(λh=>by cases h),λh=>absurd (by rw[h.1]) ap⟩,λal=>?_⟩;have al:l.length=szs.length:=Ω
 rw[aT ai.u (I.ext aa)];refine bE.range l.length (λi _ V=>Ext w V/\ ∀ (j:Nat) (x:Int),j<i->l[j]? =σ x->0<=x/\(0<j-> ∀y,l[j-1]? =σ y->y<x)) I.le ⟨aa,λj x au=>Ω⟩ ?_ ?_
 .rintro i _ V av hi ⟨J,ad⟩ aw;simp only[aq,ae];refine⟨λ_=>?_,λh=>Ω⟩;obtain⟨x,W⟩:∃x,l[i]? =σ x:=⟨_,y0 hi⟩;have aE:=I.le;rw[bd ai.u ab.i Ψ (I.ext J) W];refine aQ (λv ax=>V=ax/\ ∃c,v= .bool c/\(c=false↔0<=x/\(0<i-> ∀y,l[i-1]? =σ y->y<x))) ?_ ?_
  .rintro _ _ ⟨rfl,c,rfl,X⟩;rw[bD];simp only[aN];refine⟨λaz=>⟨J,false,rfl,(λh=>by cases h),λh=>?_⟩,λaA=>aw _ _ ⟨J,λj aC au af=>?_⟩⟩
   .have:=X.2 (h.2 i x W);rw[az] at this;cases this
   .by_cases aD:j=i
    .subst aD;rw[W] at af;cases af;exact X.1 aA
    .exact ad j aC Ω af
  .intro aF ag;simp only[aq,bR,c3,ae];refine⟨λaG=>ag _ _ ⟨rfl,true,rfl,(λh=>by cases h),λh=>Ω⟩,λaH=>⟨λaI=>?_,λaK=>ag _ _ ⟨rfl,false,rfl,λ_=>⟨Ω,λh=>Ω⟩,λ_=>rfl⟩⟩⟩;obtain⟨y,ah⟩:∃y,l[i-1]? =σ y:=⟨_,y0 (show i-1<l.length by omega)⟩;rw[wrap_i64 Ω Ω,dY (i:=i-1) Ω ai.u ab.i Ψ (I.ext J) ah];simp only[ce];refine ag _ _ ⟨rfl,_,rfl,?_⟩;rw[decide_eq_false_iff_not];refine⟨λh=>⟨Ω,λ_ aM am=>by rw[ah] at am;cases am;omega⟩,λh=>by have:=h.2 Ω y ah;omega⟩
 .rintro _ V av ⟨J,ad⟩;simp only[aq,ae];exact⟨λh=>Ω,λ_=>⟨J,true,rfl,λ_=>⟨al,λj x W=>ad j x (x4.1 W).1 W⟩,λ_=>rfl⟩⟩
def gD (l:Λ) (x:Int):Int:=if x∈l then (l.idxOf x:Int) else-1
theorem As {i:Nat} {x:Int} (h:gl l) (hi:l[i]? =σ x):gD l x=i:=by
 have hm:x∈l:=x5 hi;have I:=List.idxOf_lt_length_of_mem hm;have J:l.idxOf x=i:=h.inj (by rw[y0 I,List.getElem_idxOf I]) hi;unfold gD;rw[if_pos hm,J]
theorem Ja {x:Int} (h:x∉l):gD l x= -1:=if_neg h
theorem ut {x:Int} (h:aJ .i64 w sv l) (hu:gl l):
  ak x3 s5 [sv,Δ x] w λv w'=>v=Δ (gD l x)/\Ext w w':=by
 refine aB func103 ?_;rw[aT ai.u h];refine bE.range l.length (λi _ U=>Ext w U/\ ∀j,j<i->l[j]? ≠σ x) h.le ⟨Ext.refl _,λj W=>Ω⟩ ?_ ?_
 .rintro i _ U k hi ⟨I,J⟩ X;simp only[aq,ae];refine⟨λ_=>?_,λh=>Ω⟩;obtain⟨y,V⟩:∃y,l[i]? =σ y:=⟨_,y0 hi⟩;rw[bd ai.u ab.i Ψ (h.ext I) V];simp only[bk,ae,aN];refine⟨λhe=>⟨?_,I⟩,λhe=>X _ _ ⟨I,λj W=>?_⟩⟩
  .subst he;rw[As hu V]
  .by_cases Y:j=i
   .subst Y;rw[V];intro h;exact he (Z8 h).symm
   .exact J j Ω
 .rintro _ U k ⟨I,J⟩;simp only[aq,ae];refine⟨λh=>Ω,λ_=>⟨?_,I⟩⟩;rw[Ja];intro hm;obtain⟨i,hi,he⟩:=List.getElem_of_mem hm;exact J i hi (by rw[y0 hi,he])
def eo (x vars scope:Λ):Λ:=scope.map λp=>x.getD (vars.idxOf p) 0
theorem Jb (x vars scope:Λ):(eo x vars scope).length=scope.length:=by simp[eo]
theorem Au {jO ac:x1} {x vars:Λ} (aj:aJ .i64 w jO x) (al:aJ .i64 w ac vars) (I:aJ .i64 w sv scope) (hu:gl vars) (am:∀p∈scope,p∈vars) (az:x.length=vars.length) (aA:scope.length<=1000):
  ak x3 E1 [jO,ac,sv] w λv w'=>Ext w w'/\ ∃g,w.heap.size<=g/\au .i64 ab w' g v (eo x vars scope):=by
 refine aB func260 ?_;rw[aT ai.u I];refine i9 ai.u ab.i Ω Ω λW U aC ad an=>?_;have ao:au .i64 ab U W (.slice (σ ⟨W,0,ν⟩) scope.length scope.length) (o7 scope.length 0):=au.of (n:=scope.length) (bU.full an Ξ (by simp[maxLen];omega));generalize (x1.slice (σ ⟨W,0,ν⟩) scope.length scope.length)=ap at*;rw[aT ai.u (I.ext ad)];have Y:=Jb x vars scope;refine bP.range scope.length (λi V=>Ext w V/\au .i64 ab V W ap (upto (eo x vars scope) 0 i)) Ω ⟨ad,by rw[nH,Y];exact ao⟩ ?_ ?_
 .rintro i V av hi ⟨J,hm⟩ aw;simp only[aq,ae];refine⟨λ_=>?_,λh=>Ω⟩;obtain⟨p,aa⟩:∃p,scope[i]? =σ p:=⟨_,y0 hi⟩;have af:=am p (x5 aa);have aD:=List.idxOf_lt_length_of_mem af;rw[bd ai.u ab.i Ψ (I.ext J) aa];refine (ut (al.ext J) hu).mono ?_;rintro _ aE _ ⟨rfl,X⟩;have e:gD vars p=(vars.idxOf p:Int):=if_pos af;obtain⟨u,ag⟩:∃u,x[vars.idxOf p]? =σ u:=⟨_,y0 Ω⟩;have aF:(upto (eo x vars scope) 0 i).length=scope.length:=by rw[oZ,Y]
  rw[dY (i:=vars.idxOf p) e ai.u ab.i Ψ (aj.ext (J.trans X)) ag,gx rfl ai.u ab.i (hm.ext X) Ω];refine gy ab.i (hm.ext X) Ω λaG ax _ ah=>?_;simp only[aN];have ay:(eo x vars scope)[i]? =σ u:=by
   unfold eo;rw[x8,aa,Y0,u5,ag];rfl
  rw[nJ ay] at ah;exact aw _ ⟨(J.trans X).then ax (by rintro r aH rfl;omega),ah⟩
 .rintro V av ⟨J,hm⟩;simp only[aq,ae];refine⟨λh=>Ω,λ_=>⟨J,W,Ω,?_⟩⟩;rw[<-Y,nI] at hm;exact hm
theorem Av (W:t≠[]) (hw:∀b∈t,bJ b=true):lex t=([t],true):=by
 cases t with
 |nil=>exact absurd rfl W
 |cons b q=>
  have I:q.dropWhile bJ=[]:=by
   have:∀ (q:Λ),(∀x∈q,bJ x=true)->q.dropWhile bJ=[]/\q.takeWhile bJ=q:=λq I=>by
    induction q with
    |nil=>simp
    |cons x q J=>
     have:=J λy U=>I y (.tail _ U);simp[I x (.head _),this.1,this.2]
   exact (this q λx V=>hw x (.tail _ V)).1
  have X:q.takeWhile bJ=q:=by
   have:∀ (q:Λ),(∀x∈q,bJ x=true)->q.takeWhile bJ=q:=λq I=>by
    induction q with
    |nil=>simp
    |cons x q J=>simp[I x (.head _),J λy U=>I y (.tail _ U)]
   exact this q λx V=>hw x (.tail _ V)
  rw[yf (hw b (.head _)),I,X]
theorem Aw {p:x1} (h:aJ .u8 w p l) (J:Bytes l) (V:l.length<=100000):ak x3 w9 [p] w λv w'=>Ext w w'/\ ∃g R,v=Γ g/\w.heap.size<=g/\gz w' g R (lex l).1 (lex l).2/\¬R g:=by
 refine (yn h J V).mono ?_;rintro _ U _ ⟨W,g,rfl,X,Y,I⟩;obtain⟨h1,ac,ad,aa,ae,hm⟩:=id I;exact⟨W,g,λr=>r≠g,rfl,X,⟨Y,l,0,I,λr ab=>bX hm aa Φ ab,by rw[List.drop_zero]⟩,λh=>h rfl⟩
theorem Jc {p:x1} (h:aJ .u8 w p t) (ac:Bytes t) (ad:t.length<=100000) (af:t≠[]) (hw:∀b∈t,bJ b=true):ak x3 E8 [p] w λv w'=>Ext w w'/\ ∃n:Int,v= .tuple #[Δ 1,Δ n,Δ 0]:=by
 have ah:=Av af hw;refine aB func279 ?_;refine (Aw h ac ad).mono ?_;rintro _ U _ ⟨ai,g,R,rfl,al,X,am⟩;rw[ah] at X;refine⟨λ_ _ _ I V=>ag (λr=>r=g) U V/\((I=Δ 0/\gz V g R [t] true)\/(I=Δ 1/\gz V g R [] true)),λ_ _ _ I _=>1-(bO I).toNat,⟨ag.refl _ _,.inl ⟨rfl,X⟩⟩,?_⟩;rintro _ _ _ _ V ⟨Y,⟨rfl,J⟩|⟨rfl,J⟩⟩
 .refine (o1 J).mono ?_;rintro v aa _ ⟨W,aj,n,rfl⟩;rw[aK (v:=bz t) rfl,aK (v:=Δ n) rfl,aK (v:=Δ 0) rfl,bk,ae];refine⟨λ_=>?_,λh=>absurd rfl h⟩;rw[aN,wrap_i64 Ω Ω];exact⟨⟨Y.trans W,.inr ⟨rfl,aj⟩⟩,by simp[bO]⟩
 .refine (o1 J).mono ?_;rintro v aa _ ⟨W,n,rfl⟩;rw[aK (v:=bz []) rfl,aK (v:=Δ n) rfl,aK (v:=Δ (if true then 2 else 11)) rfl,bk,ae];refine⟨λh=>by simp at h,λ_=>?_⟩;rw[bk,ae];refine⟨λh=>by simp at h,λ_=>?_⟩;have ab:Ext w aa:=ai.then (Y.trans W) (λr an he=>by have he:r=g:=he;omega);rw[aT cB.u (h.ext ab)];exact⟨ab,_,rfl⟩
theorem Jd (I:Bytes t) (J:t.length<=100000) (W:t≠[]) (hw:∀b∈t,bJ b=true):ak x3 ER [bz t] w λv w'=>v= .bool true/\Ext w w':=by
 have ad:=Av W hw;refine aB func247 ?_;refine tx cP.u cB.u cv.u I Ω λbv U X af _=>?_;refine (Jc af I J W hw).mono ?_;rintro _ V _ ⟨Y,n,rfl⟩;rw[aK (v:=Δ 1) rfl,aK (v:=Δ n) rfl,aK (v:=Δ 0) rfl];refine tx cP.u cB.u cv.u I Ω λan ao aa ag _=>?_;refine (Aw ag I J).mono ?_;rintro _ ap _ ⟨ah,g,R,rfl,aq,ab,au⟩;rw[ad] at ab;refine (o1 ab).mono ?_;rintro _ ac _ ⟨ai,_,m,rfl⟩;rw[aK (v:=bz t) rfl,aK (v:=Δ m) rfl,aK (v:=Δ 0) rfl];have aj:Ext w ac:=(((X.trans Y).trans (aa.trans ah))).then ai (λr av he=>by
  have he:r=g:=he;have:=X.size;have:=Y.size;have:=aa.size;omega)
 refine aQ (λv al=>ac=al/\v= .bool true) ?_ ?_
 .rintro _ _ ⟨rfl,rfl⟩;exact⟨rfl,aj⟩
 .intro aw am;rw[bk,ae];refine⟨λ_=>?_,λh=>absurd rfl h⟩;rw[bk,ae];refine⟨λ_=>?_,λh=>absurd rfl h⟩;rw[yb I I];exact am _ _ ⟨rfl,by rw[decide_eq_true rfl]⟩
theorem Je {x:Int}:ak x3 tc [Δ x] w λv w'=>v= .bool (decide (¬hf x))/\Ext w w':=by
 refine aB func246 ?_;refine aQ (λv U=>w=U/\v= .bool (decide (¬hf x))) ?_ ?_
 .rintro _ _ ⟨rfl,rfl⟩;exact⟨rfl,Ext.refl _⟩
 .intro X J;rw[aq,ae];refine⟨λh=>J _ _ ⟨rfl,by rw[decide_eq_true];intro I;have:=I.1;omega⟩,λh=>?_⟩;rw[bR];refine J _ _ ⟨rfl,?_⟩;congr 1;rw[V8,decide_eq_true_eq,decide_eq_true_eq];exact⟨λV I=>by have:=I.2;omega,λV=>by
   by_cases W:32<x
   .exact W
   .exact absurd ⟨Ω,Ω⟩ V⟩
theorem Jf (h:aJ .i64 w sv l) (W:∀x∈l,hf x):
  ak x3 qE [sv,.func (.func tc) #[] #[]] w λv w'=>v= .bool false/\Ext w w':=by
 refine aB func196 ?_;refine ak.mono (K:=λv w'=>v=Δ (-1)/\Ext w w') ?_ ?_
 .refine aB func170 ?_;rw[aT ai.u h];refine bE.range l.length (λ_ _ U=>Ext w U) h.le (Ext.refl _) ?_ ?_
  .rintro i _ U k hi I X;refine Υ λ_=>?_;obtain⟨x,J⟩:∃x,l[i]? =σ x:=⟨_,y0 hi⟩;rw[bd ai.u ab.i Ψ (h.ext I) J];show ak x3 tc [Δ x] U _;refine Je.mono ?_;rintro _ V _ ⟨rfl,Y⟩;rw[ae];refine⟨λaa=>absurd (W x (x5 J)) aa,λ_=>?_⟩;rw[aN];exact X _ _ (I.trans Y)
  .rintro _ U k I;rw[aq,ae];exact⟨λh=>Ω,λ_=>⟨rfl,I⟩⟩
 .rintro _ U _ ⟨rfl,I⟩;rw[ce];exact⟨rfl,I⟩
theorem rK {m:Bool} {S R:aj} {d:gk} (h:am.rep m S R w cs d):∃sv g I aE gs,cs=[sv,Γ g]/\aJ .i64 w sv d.1/\e7 w g I aE gs d.2.szs d.2.k d.2.o d.2.D:=by
 obtain⟨c,e,A,B,rfl,_,_,_,h1,J⟩:=h;have h1:am.rep (α:=Λ) false bu R w c d.1:=h1;obtain⟨u,rfl⟩:=X9.1 (show c.length=1 from am.len h1);obtain⟨g,m,sv,gs,rfl,U,_⟩:=J;exact⟨u,g,m,sv,gs,rfl,dZ h1,U⟩
theorem Jg {aH:Nat} {f:b2} {d:gk} {x:cg} {m:Bool} {S R:aj} (aR:jX w aH f) (aU:eQ N f) (aV:x∈f.funs) (aW:ps f.k x d) (aX:am.rep m S R w cs d):
  ak x3 E9 [Γ aH,.agg cs.toArray] w λv w'=>v= .bool true/\Ext w w':=by
 obtain⟨av,bf,bg,bC,aI,aJ,_,_⟩:=aR;obtain⟨sv,ah,bh,aE,gs,rfl,X,ax⟩:=rK aX;obtain⟨aY,aK,aZ,bi,bj,bk⟩:=aW;obtain⟨ap,bl,bm⟩:=aU.funs x aV;rw[aY] at X;refine aB func281 ?_;refine bN λan U bn aa au=>?_;have au:af U an cn [sv,Γ ah]:=by obtain⟨_,_,_,rfl⟩:=bZ X;exact au
 refine aQ (λv V=>Ext U V/\v= .bool false) ?_ ?_
 rotate_left
 .intro a1 az;intro V W _ _;have Y:=au.ext W;rw[ac cn.p rfl,ad Ψ (Y.Q1 rfl),cC ey.u];simp only[Z0,aS];rw[ac cn.p rfl,ad Ψ (Y.Q1 rfl),ay,ac cr.p rfl,ad Ψ ((aI.ext (aa.trans W)).Q1 rfl)];refine (Hv (ax.ext (aa.trans W)).is).mono ?_;rintro _ ag _ ⟨rfl,I⟩;refine⟨.inl I,?_⟩;rw[bG,ae];refine⟨λh=>absurd aZ h,λ_=>?_⟩;have al:=Y.ext I;have aA:=W.trans I;rw[ac cn.p rfl,ad Ψ (al.Q1 rfl),ac cn.p rfl,ad Ψ (al.Q0 rfl),aT ai.u (X.ext (aa.trans aA))];refine (Hw (ax.ext (aa.trans aA)).is).mono ?_;rintro _ aw _ ⟨rfl,J⟩;refine⟨.inl J,?_⟩;rw[bG];refine az _ _ ⟨aA.trans J,?_⟩;rw[decide_eq_false];intro h;exact h (by rw[aK,ap.sizes,u4])
 rintro _ V ⟨W,rfl⟩;rw[aS];have Y:=au.ext W;have aC:=aa.trans W;rw[ac cn.p rfl,ad Ψ (Y.Q0 rfl),aT ai.u (X.ext aC)];refine bE.range x.scope.length (λ_ _ ag=>Ext V ag) Ω (Ext.refl _) ?_ ?_
 rotate_left
 .rintro _ ag k I;rw[aq,ae];exact⟨λh=>Ω,λ_=>⟨rfl,aC.trans I⟩⟩
 rintro i _ ag k hi I a2;obtain⟨v,ao⟩:∃v,x.scope[i]? =σ v:=⟨_,y0 hi⟩;have bo:=ap.scope.2 v (x5 ao);have aD:=aC.trans I;have al:=Y.ext I;have aL:=aI.ext aD;have a6:f.sizes[v.toNat]? =σ (f.sizes.getD v.toNat 0):=by
  rw[u5,y0 Ω];rfl
 refine Υ λ_=>?_;rw[bd ai.u ab.i Ψ (X.ext aD) ao];refine aQ (λb aw=>Ext ag aw/\b= .bool false) ?_ ?_
 .rintro _ aw ⟨J,rfl⟩;rw[aS,aN];exact a2 _ _ (I.trans J)
 .intro a1 az;intro aw J _ _;have aF:=aD.trans J;rw[aq,ae];refine⟨λh=>Ω,λ_=>?_⟩;rw[ay,ac cr.p rfl,ad Ψ ((aL.ext J).Q2 rfl),aT ai.u (aJ.ls.ext aF),ce,ae];refine⟨λh=>Ω,λ_=>?_⟩;rw[ac cn.p rfl,ad Ψ ((al.ext J).Q0 rfl)];refine (Ao (X.ext aF)).mono ?_;rintro _ bp _ ⟨aM,r,rfl,a7⟩;have a8:r=(i:Int):=(a7 i ao).2 λj bq ba=>by have:=ji ap.scope.1 ba ao;omega
  subst a8;have aO:=aF.trans aM;have aG:=J.trans aM;rw[bG,ae];refine⟨λh=>absurd rfl h,λ_=>?_⟩;rw[ac cn.p rfl,ad Ψ ((al.ext aG).Q1 rfl),ay,ac cr.p rfl,ad Ψ ((aL.ext aG).Q2 rfl)];refine qX (y:=v) (i:=v.toNat) Ω ai.u ab.i (aJ.ls.ext aO) a6 λb o bb=>?_;rw[ad Ψ bb];refine (tU (ax.ext aO).is).mono ?_;rintro br bt _ ⟨aP,bu,bw,bc⟩;refine⟨.inl aP,?_⟩;have be:d.2.szs[i]? =σ (f.sizes.getD v.toNat 0):=by
   rw[aK,ap.sizes,x8,ao];rfl
  rw[bd ai.u ab.i Ψ bc.ls be,bG];exact az _ _ ⟨aG.trans aP,by rw[decide_eq_false (λh=>h rfl)]⟩
theorem Jh {X:Nat} {f:b2} {d:gk} {x:cg} {m:Bool} {S R:aj} (Y:jX w X f) (aa:eQ N f) (ab:x∈f.funs) (ac:ps f.k x d) (I:am.rep m S R w cs d):
  ak x3 td [Γ X,.agg cs.toArray] w λv w'=>v= .bool false/\Ext w w':=by
 refine aB func249 ?_;refine bN λan U ai J W=>?_;have ad:cs.length=2:=am.len I;have W:af U an cn cs:=by
  obtain⟨sv,ah,al,aE,gs,rfl,ae,ao⟩:=rK I;obtain⟨_,_,_,rfl⟩:=bZ ae;exact W
 rw[bn cn.p cn.i ad W.range];refine (Jg (Y.ext J) aa ab ac (bg I J)).mono ?_;rintro _ V _ ⟨rfl,ag⟩;rw[bf];exact⟨rfl,J.trans ag⟩
theorem Ji {J:Nat} {f:b2} {X:x1} {bC:List gk} {m:Bool} {S R:aj} (ac:jX w J f) (ad:eQ N f) (W:am.rep m S R w [X] bC) (Y:rI f.k f.funs bC):
  ak x3 ES [X,.func (.func td) #[Γ J] #[]] w λv w'=>v= .bool false/\Ext w w':=by
 refine aB func248 ?_;refine ak.mono (K:=λv w'=>v=Δ (-1)/\Ext w w') ?_ ?_
 .refine aB func280 ?_;rw[eP dq.u W];refine bE.range bC.length (λ_ _ U=>Ext w U) (ns W) (Ext.refl _) ?_ ?_
  .rintro i _ U k hi I af;refine Υ λ_=>?_;obtain⟨d,aa⟩:∃d,bC[i]? =σ d:=⟨_,y0 hi⟩;obtain⟨x,ab⟩:∃x,f.funs[i]? =σ x:=⟨_,y0 (by have:=Y.1;omega)⟩;refine iy (α:=gk) cn.p rfl dq.u cn.i (bg W I) aa λcs ag=>?_;show ak x3 td [Γ J,.agg cs.toArray] U _;refine (Jh (ac.ext I) ad (x5 ab) (Y.2 i x d ab aa) ag).mono ?_;rintro _ V _ ⟨rfl,ah⟩;rw[aS,aN];exact af _ _ (I.trans ah)
  .rintro _ U k I;rw[aq,ae];exact⟨λh=>Ω,λ_=>⟨rfl,I⟩⟩
 .rintro _ U _ ⟨rfl,I⟩;rw[ce];exact⟨rfl,I⟩
def kM (I:List cg):Nat:=(I.map λx=>x.lines.length).sum
theorem Jj {aU:Nat} {f:b2} (aV:jX w aU f) (J:eQ N f) (bL:N<=60000) (aH:f.name≠[]/\ ∀b∈f.name,bJ b=true):
  ak x3 Ez [Γ aU] w λv w'=>Ext w w'/\ ∃e:Int,v=Δ e/\(kM f.funs<=16384->e=0):=by
 obtain⟨av,bM,bN,bC,X,aI,aJ,Y⟩:=id aV;have bP:=J.name;have ba:Bytes f.name:=λb bb=>by
  have:=of_decide_eq_true (aH.2 b bb);omega
 refine aB func209 ?_;rw[cC te.u];simp only[Z0,aS];refine aQ (λv U=>Ext w U/\v= .bool false) ?_ ?_
 rotate_left
 .intro aK W;rw[ay,ac cr.p rfl,ad Ψ (X.Q0 rfl)];refine (Jd ba Ω aH.1 aH.2).mono ?_;rintro _ U _ ⟨rfl,I⟩;rw[bf,Y1,aS];rw[ay,ac cr.p rfl,ad Ψ ((X.ext I).Q2 rfl),aT ai.u (aI.ls.ext I),bk,ae];refine⟨λh=>by have:=J.sizes.1;omega,λ_=>?_⟩;rw[ay,ac cr.p rfl,ad Ψ ((X.ext I).Q2 rfl)];refine (Jf (aI.ls.ext I) J.sizes.2.2).mono ?_;rintro _ V _ ⟨rfl,aa⟩;have aX:=I.trans aa;rw[aS,ay,ac cr.p rfl,ad Ψ ((X.ext aX).Q1 rfl)];refine xI.mono ?_;rintro _ af _ ⟨rfl,ag⟩;have az:=aX.trans ag;rw[decide_eq_true (show right f.k from J.k),bf,Y1,aS,ay,ac cr.p rfl,ad Ψ ((X.ext az).Q3 rfl),kx];refine (Ji (aV.ext az) J (bg aJ az) Y).mono ?_;rintro _ aY _ ⟨rfl,bc⟩;exact W _ _ ⟨az.trans bc,rfl⟩
 rintro _ U ⟨I,rfl⟩;rw[aS];have aA:=X.ext I;refine aQ (λv V=>U=V/\v= .bool false) ?_ ?_
 rotate_left
 .intro aK W;rw[ay,ac cr.p rfl,ad Ψ (aA.Q0 rfl),mp cP.u,bR,ae];refine⟨λh=>Ω,λ_=>?_⟩;rw[ay,ac cr.p rfl,ad Ψ (aA.Q2 rfl),aT ai.u (aI.ls.ext I),bR,ae];refine⟨λh=>by have:=J.sizes.2.1;omega,λ_=>?_⟩;rw[ay,ac cr.p rfl,ad Ψ (aA.Q3 rfl),eP dq.u (bg aJ I),bR];exact W _ _ ⟨rfl,by rw[decide_eq_false];have:=J.jP;have:=Y.1;omega⟩
 rintro _ _ ⟨rfl,rfl⟩;have aZ:=bg aJ I;rw[ay,ac cr.p rfl,ad Ψ (aA.Q3 rfl),eP dq.u aZ];refine⟨λbe bh aL V=>∃i n:Nat,aL=Δ (i:Int)/\i<=bC.length/\be=Δ (n:Int)/\bh= .bool false/\Ext U V/\n<=kM (f.funs.take i)/\n<=i*60000,λ_ _ aL _=>bC.length-(bO aL).toNat,
  ⟨0,0,rfl,X3 _,rfl,rfl,Ext.refl _,X3 _,Ω⟩,?_⟩
 rintro _ _ _ V ⟨i,n,rfl,hi,rfl,rfl,aa,bi,bQ⟩;have bS:bC.length<=256:=by rw[Y.1];exact J.jP
 rw[aq,ae];refine⟨λa1=>?_,λbT=>?_⟩
 .have a1:i<bC.length:=Ω
  obtain⟨d,a2⟩:∃d,bC[i]? =σ d:=⟨_,y0 a1⟩;obtain⟨x,aM⟩:∃x,f.funs[i]? =σ x:=⟨_,y0 (by have:=Y.1;omega)⟩;have aC:=Y.2 i x d aM a2;obtain⟨aD,bj,bl⟩:=J.funs x (x5 aM);have bU:=aD.len;refine h4 (λa b af=>Ext V af/\a=Δ ((n+d.2.D.length:Nat):Int)/\b= .bool false) ?_ ?_
  .rintro _ _ af ⟨ag,rfl,rfl⟩;rw[aN,wrap_i64 Ω Ω];have bm:=aC.2.2.2.2.1;refine⟨⟨i+1,n+d.2.D.length,rfl,Ω,rfl,rfl,aa.trans ag,?_,?_⟩,by simp only[bO];omega⟩
   .have e:kM (f.funs.take (i+1))=kM (f.funs.take i)+x.lines.length:=by
     unfold kM;rw[r8,aM,Z4,Z3,List.sum_append,S3,List.map_nil,List.sum_cons,List.sum_nil,Nat.add_zero]
    omega
   .have:(i+1)*60000=i*60000+60000:=Ω
    have bV:d.2.D.length<=60000:=Ω
    omega
  .intro aK W;refine iy (α:=gk) cn.p rfl dq.u cn.i (bg aZ aa) a2 λcs bn=>?_;obtain⟨sv,ah,bW,aE,gs,rfl,bo,a6⟩:=rK bn;refine bp cn.i λan af bX ag bq=>?_;refine bH (vs:=[sv,Γ ah]) cn.i rfl rfl (by intro v aF;simp at aF;rcases aF with rfl|rfl<;>first|exact bo.cells.2|rfl) bq λaY br bY a7=>?_;have aO:Ext V aY:=ag.then br (λr bt he=>by have he:r=an:=he;omega);rw[ac cn.p rfl,ad Ψ (a7.Q1 rfl)];refine (Hu (a6.ext aO).is).mono ?_;rintro _ bZ _ ⟨rfl,aP⟩;have bm:=aC.2.2.2.2.1;rw[aN,wrap_i64 Ω Ω,ac cn.p rfl,ad Ψ ((a7.ext aP).Q1 rfl)];refine (tU ((a6.ext aO).ext aP).is).mono ?_;rintro b0 aR _ ⟨bu,b1,b3,a8⟩;rw[aT ai.u a8.ls];have b4:d.2.szs.length<=6:=by rw[aC.2.1,aD.sizes,u4];exact bj
   refine bE.range d.2.szs.length (λj out aG=>Ext aR aG/\ ∃aj,aR.heap.size<=aj/\au .i64 ao aG aj out (d.2.szs.take j)) Ω ⟨Ext.refl _,aR.heap.size,o8 _,au.nil _ _ _ _⟩ ?_ ?_
   .rintro j out aG k bw ⟨al,aj,bx,am⟩ bz;obtain⟨z,ap⟩:∃z,d.2.szs[j]? =σ z:=⟨_,y0 bw⟩;refine Υ λ_=>?_;rw[bd ai.u ab.i Ψ (a8.ls.ext al) ap];refine dx aw.u ao.i rfl λa aW bA b5 ax bB=>?_;refine hD aw.u ao.i rfl (am.ext ax) bB.ls Θ Θ λb6 bD b7 b8 bF bG=>?_;have b9:=al.size;have ca:=ax.size;rw[aN];refine bz _ _ ⟨(al.trans ax).then bG (λr bt he=>by have he:r=aj:=he;omega),bD,Ω,?_⟩;rw[r8,ap];exact bF
   .rintro out aG k ⟨al,aj,bx,am⟩;rw[o9] at am;rw[aq,ae];refine⟨λh=>Ω,λ_=>?_⟩;rw[aS];have bI:d.2.szs=x.sizes:=aC.2.1;rw[bI] at am;refine (y6 am.ls λz ap=>?_).mono ?_
    .rw[aD.sizes] at ap;obtain⟨v,aF,rfl⟩:=Z1.1 ap;have cb:=aD.scope.2 v aF;refine (J.sizes.2.2 _ ?_).1;rw[u5,y0 Ω];exact T6 _
    .rintro _ bA _ ⟨rfl,ax⟩;refine W _ _ _ ⟨(((aO.trans aP).trans bu).trans al).trans ax,by congr 1,by rw[bl]⟩
 .have bK:i=bC.length:=Ω
  subst bK;rw[Y.1,o9] at bi;refine aQ (λv af=>V=af/\v= .bool (decide (16384<(n:Int)))) ?_ ?_
  .rintro _ _ ⟨rfl,rfl⟩;rw[ae];refine⟨λh=>⟨I.trans aa,5,rfl,λcc=>Ω⟩,λh=>⟨I.trans aa,0,rfl,λ_=>rfl⟩⟩
  .intro aK W;rw[aS,bR];exact W _ _ ⟨rfl,rfl⟩
theorem rL:∀ {a b:Λ} {i:Nat},(∀ (j:Nat) (x y:Int),j<i->a[j]? =σ x->b[j]? =σ y->x=y)->i<=a.length->i<=b.length->fl a b=fl (a.drop i) (b.drop i)
 |_,_,0,_,_,_=>Ξ
 |[],_,i+1,_,h,_=>by simp at h
 |_::_,[],i+1,_,_,h=>by simp at h
 |x::a,y::b,i+1,he,h1,I=>by
  have J:=he 0 x y Ω rfl rfl;subst J;simp only[fl,Int.lt_irrefl,if_false,List.drop_succ_cons];exact rL (λj u v V hu U=>he (j+1) u v Ω hu U) (by simpa using h1) (by simpa using I)
theorem Ax {x:Int}:ak x3 cmp_isNaN_int [Δ x] w λv w'=>v= .bool false/\Ext w w':=by
 refine aB func182 ?_;simp only[bG];exact⟨Ξ,Ext.refl _⟩
theorem Ay {x:Int}:ak x3 DE [Δ x,Δ y] w λv w'=>v=Δ (if x<y then-1 else if y<x then 1 else 0)/\Ext w w':=by
 refine aB func114 ?_;refine Ax.mono ?_;rintro _ U _ ⟨rfl,I⟩;refine Ax.mono ?_;rintro _ V _ ⟨rfl,J⟩;simp only[aS,aq,bR,ae];exact⟨λh=>⟨by rw[if_pos h],I.trans J⟩,λh=>⟨λW=>⟨by rw[if_neg h,if_pos W],I.trans J⟩,λW=>⟨by rw[if_neg h,if_neg W],I.trans J⟩⟩⟩
theorem Jk {b:Λ} (X:aJ .i64 w df a) (aa:aJ .i64 w bv b):ak x3 EF [df,bv] w λv w'=>v=Δ (fl a b)/\Ext w w':=by
 refine aB func220 ?_;have aE:=X.le;rw[aT ai.u X];refine⟨λ_ ac U=>∃i:Nat,ac=Δ (i:Int)/\i<=a.length/\i<=b.length/\Ext w U/\ ∀ (j:Nat) (x y:Int),j<i->a[j]? =σ x->b[j]? =σ y->x=y,λ_ ac _=>a.length-(bO ac).toNat,⟨0,rfl,X3 _,X3 _,Ext.refl _,λj x y au=>Ω⟩,?_⟩;rintro _ _ U ⟨i,rfl,av,aw,I,al⟩;have J:fl a b=fl (a.drop i) (b.drop i):=rL al av aw;simp only[aq,ae];refine⟨λY=>?_,λaF=>?_⟩
 .have Y:i<a.length:=Ω
  obtain⟨x,ad⟩:∃x,a[i]? =σ x:=⟨_,y0 Y⟩;have am:a.drop i=x::a.drop (i+1):=by rw[V0 Y,(x4.1 ad).2]
  rw[bd ai.u ab.i Ψ (X.ext I) ad,aT ai.u (aa.ext I)];simp only[ce,ae];refine⟨λh=>?_,λh=>?_⟩
  .have:b.drop i=[]:=by rw[List.drop_eq_nil_iff];omega
   rw[this,am] at J;exact⟨by rw[J];rfl,I⟩
  have af:i<b.length:=Ω
  obtain⟨y,ag⟩:∃y,b[i]? =σ y:=⟨_,y0 af⟩;have ax:b.drop i=y::b.drop (i+1):=by rw[V0 af,(x4.1 ag).2]
  rw[bd ai.u ab.i Ψ (aa.ext I) ag];refine Ay.mono ?_;rintro _ V _ ⟨rfl,an⟩;rw[am,ax] at J;simp only[fl] at J;simp only[bG,ae,aN];refine⟨λao=>⟨?_,I.trans an⟩,λay=>?_⟩
  .rw[J];by_cases h1:x<y
   .rw[if_pos h1,if_pos h1]
   .by_cases W:y<x
    .rw[if_neg h1,if_pos W,if_neg h1,if_pos W]
    .rw[if_neg h1,if_neg W] at ao;exact absurd rfl ao
  .rw[wrap_i64 Ω Ω];refine⟨⟨i+1,rfl,Y,af,I.trans an,λj az aA au ah aj=>?_⟩,by simp only[bO];omega⟩;by_cases aC:j=i
   .subst aC;rw[ad] at ah;rw[ag] at aj;cases ah;cases aj;have ap:=X4.1 ay;by_cases h1:x<y
    .rw[if_pos h1] at ap;omega
    .by_cases W:y<x
     .rw[if_neg h1,if_pos W] at ap;omega
     .omega
   .exact al j az aA Ω ah aj
 .have aD:i=a.length:=Ω
  subst aD;rw[List.drop_length] at J;rw[aT ai.u (X.ext I),aT ai.u (aa.ext I)];simp only[aq,ae];refine⟨λh=>⟨?_,I⟩,λh=>⟨?_,I⟩⟩
  .obtain⟨y,l,e⟩:∃y l,b.drop a.length=y::l:=⟨_,_,V0 Ω⟩;rw[J,e];rfl
  .have:b.drop a.length=[]:=by rw[List.drop_eq_nil_iff];omega
   rw[J,this];rfl
theorem Jl {x:Int} {W:x1} (h:aJ .i64 w W [x,y]):ak x3 DD [W] w λv w'=>v=Δ (if x≠0 then x else y)/\Ext w w':=by
 refine aB func113 ?_;rw[aT ai.u h];refine bE.range 2 (λi _ U=>Ext w U/\(1<=i->x=0)/\(2<=i->y=0)) Ω ⟨Ext.refl _,Ω,Ω⟩ ?_ ?_
 .rintro i _ U k hi ⟨I,h1,J⟩ V;rw[aq,ae];refine⟨λ_=>?_,λh=>by simp at h;omega⟩
  match i,hi,h1,J,V with
  |0,_,h1,J,V=>
   rw[bd (i:=0) ai.u ab.i Ψ (h.ext I) rfl,bG,ae];refine⟨λX=>⟨by rw[if_pos X],I⟩,λhe=>?_⟩;rw[aN];exact V _ _ ⟨I,λ_=>X4.1 he,λh=>Ω⟩
  |1,_,h1,J,V=>
   rw[bd (i:=1) ai.u ab.i Ψ (h.ext I) rfl,bG,ae];have Y:=h1 (o8 _);refine⟨λX=>⟨by rw[if_neg Ω],I⟩,λhe=>?_⟩;rw[aN];exact V _ _ ⟨I,λ_=>Y,λ_=>X4.1 he⟩
 .rintro _ U k ⟨I,h1,J⟩;have Y:=h1 Ω;have aa:=J Ω;rw[aq,ae];exact⟨λh=>by simp at h,λ_=>⟨by rw[if_neg Ω,aa],I⟩⟩
structure cA where
 sv:x1
 g:Nat
 sc:Λ
 cs:Λ
def ep (h:cA):List x1:=[h.sv,Γ h.g]
abbrev iH (h:cA):x1:=.agg (ep h).toArray
def pu (h:cA):Int:=cY h.sc
def hQ (w:x2) (I:Nat) (h:cA):Prop:=(∃J,au .i64 ab w J h.sv h.sc)/\(∀r,leads h.sv r->r≠I)/\ic h.sc
theorem hQ.aa {I:Nat} {h:cA} (aI:hQ w I h) (J:ag S w w') (U:∀r,leads h.sv r->¬S r):hQ w' I h:=by
 obtain⟨⟨V,hm⟩,W⟩:=aI;exact⟨⟨V,bc hm J U⟩,W⟩
theorem hQ.one {I:Nat} {h:cA} (aI:hQ w I h):∀u∈ep h,u.oneCell'=true:=by
 obtain⟨⟨J,hm⟩,_⟩:=aI;intro u hu;simp[ep] at hu;rcases hu with rfl|rfl
 .exact hm.ls.cells.2
 .rfl
def eL (w:x2) (g:Nat) (v:x1) (L:List cA):Prop:=a6 ep 2 cL w g v L/\ ∀h∈L,hQ w g h
theorem eL.ext {g:Nat} {L:List cA} (h:eL w g v L) (I:Ext w w'):eL w' g v L:=⟨h.1.ext I,λx J=>(h.2 x J).aa (I.aa λ_=>False) λ_ _ h=>h⟩
theorem eL.at {g:Nat} {L:List cA} (h:eL w g v L) {i:Nat} {x:cA} (hi:L[i]? =σ x):hQ w g x:=h.2 x (x5 hi)
theorem rM {g:Nat} {L:List cA} {i:Nat} {x:cA} {K:x1->Prop} (I:y=(i:Int)) (h:eL w g v L) (hi:L[i]? =σ x):
  J x3 (n0 ft v (Δ y)) w (λp=>J x3 (x6 cL p) w K)=K (iH x):=by
 rw[cG I ft.u cL.i h.1 (x4.1 hi).1,bn cL.p cL.i rfl (h.1.range hi)]
theorem Jm {g:Nat} {L:List cA} {i:Nat} {x:cA} {K:Unit->x2->Prop} (X:y=(i:Int)) (h:eL w g v L) (hi:i<L.length) (U:hQ w g x)
  (Y:∀w',ag (λr=>leadsTo v r) w w'->eL w' g v (L.set i x)->K () w'):J x3 (n0 ft v (Δ y)) w λp=>aA x3 (o5 cL p (iH x)) w K:=by
 rw[cG X ft.u cL.i h.1 hi];refine zq (f:=ep) cL.i h.1 rfl U.one hi λw' V _ h'=>Y w' V ⟨h',λz I=>?_⟩;rcases V7 I with I|rfl
 .exact (h.2 z I).aa V λr W he=>(h.2 z I).2.1 r W (h.1.leads he).1
 .exact U.aa V λr W he=>U.2.1 r W (h.1.leads he).1
abbrev Jn:x1:=.func (.func xi) #[] #[]
def rN (a b:cA):Int:=let c:Int:=if (a.sc.length:Int)<b.sc.length then-1 else if (b.sc.length:Int)<a.sc.length then 1 else 0
 if c≠0 then c else fl a.sc b.sc
theorem Jo {a b:cA} (J:ic a.sc) (U:ic b.sc):rN a b<0↔pu a<pu b:=by
 have V:=(ug J U).1;unfold pu rN;simp only;generalize W:(if (a.sc.length:Int)<b.sc.length then (-1:Int) else if (b.sc.length:Int)<a.sc.length then 1 else 0)=c;rw[V,<-W];by_cases h1:(a.sc.length:Int)<b.sc.length
 .rw[if_pos h1,if_pos Ω];exact⟨λ_=>.inl Ω,λ_=>Ω⟩
 .by_cases I:(b.sc.length:Int)<a.sc.length
  .rw[if_neg h1,if_pos I,if_pos Ω];exact⟨λh=>Ω,λh=>by rcases h with h|h<;>omega⟩
  .rw[if_neg h1,if_neg I,if_neg Ω];exact⟨λh=>.inr ⟨Ω,h⟩,λh=>by rcases h with h|h;omega;exact h.2⟩
theorem Jp {ag:Nat} {a b:cA} (aj:hQ w ag a) (al:hQ w ag b):ak x3 xi [iH a,iH b] w λv w'=>Ext w w'/\v=Δ (rN a b):=by
 obtain⟨⟨aW,Y⟩,_,av⟩:=aj;obtain⟨⟨aw,aa⟩,_,ax⟩:=al;refine aB func219 ?_;refine bN λg1 U ay am J=>?_;refine bN λan V az ah W=>?_;have J:af U g1 cL [a.sv,Γ a.g]:=by
  obtain⟨_,_,_,e⟩:=bZ Y.ls;simp only[iH,ep,e] at J ⊢;exact J
 have W:af V an cL [b.sv,Γ b.g]:=by
  obtain⟨_,_,_,e⟩:=bZ aa.ls;simp only[iH,ep,e] at W ⊢;exact W
 intro aA ae _ _;have I:=(am.trans ah).trans ae;have f1:=(J.ext ah).ext ae;have f2:=W.ext ae;rw[ac cL.p rfl,ad Ψ (f1.Q0 rfl),aT ai.u (Y.ls.ext I),ac cL.p rfl,ad Ψ (f2.Q0 rfl),aT ai.u (aa.ls.ext I),
  ac cL.p rfl,ad Ψ (f1.Q0 rfl),ac cL.p rfl,ad Ψ (f2.Q0 rfl)]
 refine Ay.mono ?_;rintro _ aC _ ⟨rfl,X⟩;refine⟨.inl X,?_⟩;refine (Jk ((Y.ls.ext I).ext X) ((aa.ls.ext I).ext X)).mono ?_;rintro _ aD _ ⟨rfl,ao⟩;refine ny (l:=[if (a.sc.length:Int)<b.sc.length then (-1:Int) else if (b.sc.length:Int)<a.sc.length then 1 else 0,fl a.sc b.sc]) ai.u ab.i Ω rfl Ψ λaE aF aG aH ap aq=>?_;refine (Jl aq.ls).mono ?_;rintro _ aI _ ⟨rfl,au⟩;exact⟨((((I.trans X).trans ao).trans ap).trans au),rfl⟩
theorem Jq {g:Nat} {L:List cA} (h:eL w g v L) (ac:L.length<65536):
  ak x3 EE [v,Jn] w λ_ w'=>ag (λr=>leadsTo v r) w w'/\ ∃M,M.Perm L/\ru pu M 0 M.length/\eL w' g v M:=by
 have U:∀ {V:x2} {a:cA},ag (λr=>r=g) w V->hQ w g a->hQ V g a:=λJ I=>I.aa J λr W he=>I.2.1 r W he;refine (zx HG (G:=hQ w g) (num:=pu) (cf:=rN) (cap:=#[]) HK HL (λa I=>I.one) (λa _=>rfl) (λa b I X=>Jo I.2.2 X.2.2) (Enters.of x3 HM rfl Ψ) h.1 h.2 ac λV a b J I X=>Jp (U J I) (U J X)).mono ?_;rintro _ w' _ ⟨J,M,ab,hu,hm⟩;have ad:ag (λr=>r=g) w w':=J.mono λr _ W=>(h.1.leads W).1;exact⟨J,M,ab,λp q x y _ ae _ Y af=>hu p q x y ae Y af,hm,λx Y=>U ad (h.2 x (ab.mem_iff.1 Y))⟩
theorem Jr {m:Λ} (V:jk l) (W:l.Nodup) (J:m.Perm l) (I:m.Pairwise (·<= ·)):m=bj l:=by
 refine uh (f:=λx=>x) ?_ (uf l) λx=>?_
 .have X:m.Nodup:=J.nodup_iff.2 W;exact (List.Pairwise.and I X).imp λ{a b} h=>by
   obtain⟨h1,U⟩:=h;have U:a≠b:=U;omega
 .rw[J.mem_iff,pp V]
theorem Js (h:∀z∈l,1<=z/\z<=32) (I:da l=false):aM l<=4096:=by
 have:=of_decide_eq_false I;rw[uj h] at this;omega
theorem Jt {f:b2} {d:gk} {x:cg} {m:Bool} {S R:aj} (X:eQ N f) (bK:N<=60000) (aG:x∈f.funs) (a6:ps f.k x d) (a7:am.rep m S R w cs d):
  ak x3 EA [.agg cs.toArray] w λv w'=>Ext w w'/\ ∃sv gs ao aH aI,v= .tuple #[sv,Γ ao]/\w.heap.size<=gs/\au .i64 ab w' gs sv (bj x.scope)/\cR w' ao aH aI (bF f.sizes (bj x.scope)) f.k (gR f.sizes f.k x).2:=by
 obtain⟨sv,ah,bL,aE,bM,rfl,ay,a8⟩:=rK a7;obtain⟨ba,bb,bc,bO,bQ,be⟩:=a6;obtain⟨J,bf,bg⟩:=X.funs x aG;have aP:=rB J X.sizes.2.1;have bR:=J.len;rw[ba] at ay;have bh:∀z∈x.sizes,1<=z/\z<=32:=λz aQ=>by
  rw[J.sizes] at aQ;obtain⟨v,bi,rfl⟩:=Z1.1 aQ;have bS:=J.scope.2 v bi;refine X.sizes.2.2 _ ?_;rw[u5,y0 Ω];exact T6 _
 have bk:=Js bh bg;have aJ:=rA aP J.scope.1;have bT:(bj x.scope).length<=6:=by rw[aJ.length_eq];exact bf
 refine aB func210 ?_;refine bN λan U bV aR ap=>?_;have ap:af U an cn [sv,Γ ah]:=by obtain⟨_,_,_,rfl⟩:=bZ ay;exact ap
 rw[ac cn.p rfl,ad Ψ (ap.Q1 rfl)];refine (Aj (a8.ext aR).is Ω).mono ?_;rintro _ V _ ⟨aL,_,av⟩;rw[bb] at av;obtain⟨g,bW,bX,bl,rfl,bY,b0,av,aS⟩:=av bk;rw[bc] at av;rw[aK (v:=Γ g) rfl,aK (v:=Δ 0) rfl,ac cn.p rfl,ad Ψ ((ap.ext aL).Q0 rfl)];have aw:=aR.trans aL;refine uo (ay.ext aw) Ω λv aU gs b1 az b3 bm I aA=>?_;have bn:=Jr aP J.scope.1 bm I;subst bn;have b4:=aw.size;rw[aT ai.u aA.ls];refine i9 (k:=.i64) ai.u ab.i Ω Ω λgo aV b5 aC aW=>?_;have bo:au .i64 ab aV go (.slice (σ ⟨go,0,ν⟩) (bj x.scope).length (bj x.scope).length) (o7 (bj x.scope).length 0):=au.of (bU.full (k:=1) (n:=(bj x.scope).length) aW Ξ (by simp[maxLen];omega));rw[aT ai.u (aA.ls.ext aC)];have b6:=aW.lt;have aD:(fm x.scope (bj x.scope)).length=(bj x.scope).length:=by simp[fm]
 have bp:=az.trans aC;have b7:=aw.trans bp;refine bP.range (bj x.scope).length (λi W=>ag (λr=>r=go) aV W/\au .i64 ab W go (.slice (σ ⟨go,0,ν⟩) (bj x.scope).length (bj x.scope).length) ((fm x.scope (bj x.scope)).take i++o7 ((bj x.scope).length-i) 0)) Ω ⟨ag.refl _ _,by simpa using bo⟩ ?_ ?_
 .rintro i W k hi ⟨aF,ax⟩ bq;obtain⟨v,aM⟩:∃v,(bj x.scope)[i]? =σ v:=⟨_,y0 hi⟩;have Y:Ext aU W:=aC.then aF (λr aO he=>by have he:r=go:=he;omega);have br:Ext w W:=(aw.trans az).trans Y;have bt:v∈x.scope:=aJ.mem_iff.1 (x5 aM);refine Υ λ_=>?_;rw[bd ai.u ab.i Ψ (aA.ls.ext Y) aM];have bu:Ext U W:=(aL.trans az).trans Y;rw[ac cn.p rfl,ad Ψ ((ap.ext bu).Q0 rfl)];refine (Ao (ay.ext br)).mono ?_;rintro _ bw _ ⟨al,r,rfl,aO⟩;have aX:=nX bt;have bx:r=((x.scope.idxOf v:Nat):Int):=(aO _ aX).2 λj b8 bz=>by have:=ji J.scope.1 bz aX;omega
  rw[gx rfl ai.u ab.i (ax.ext al) (by simp[aD];omega)];refine gy ab.i (ax.ext al) (by simp[aD];omega) λb9 bA ca aY=>?_;rw[aN];refine bq _ ⟨(aF.trans (al.aa _)).trans bA,?_⟩;have bB:(fm x.scope (bj x.scope))[i]? =σ r:=by rw[bx];exact Ad aM
  have e:((fm x.scope (bj x.scope)).take i++o7 ((bj x.scope).length-i) 0).set i r=(fm x.scope (bj x.scope)).take (i+1)++o7 ((bj x.scope).length-(i+1)) 0:=by
   have bC:((fm x.scope (bj x.scope)).take i).length=i:=by rw[o4,aD];omega
   rw[U9 _ _ Ω,bC,W9,show (bj x.scope).length-i=((bj x.scope).length-(i+1))+1 by omega,List.replicate_succ,List.set_cons_zero,r8,bB,Z4,X1];rfl
  rw[e] at aY;exact aY
 .rintro W k ⟨aF,ax⟩;have Y:Ext aU W:=aC.then aF (λr aO he=>by have he:r=go:=he;omega);have aZ:Ext V W:=az.trans Y;rw[aq,ae];refine⟨λh=>Ω,λ_=>?_⟩;rw[W9,List.replicate_zero,X6,l5 Ω] at ax;have bD:∀t,c6 x.sizes t->cM x.sizes bl t=iC x f.k t:=λt bE=>by rw[aS.2 t bE];exact be t
  obtain⟨a1,bG⟩:=Iu X aG aS.1 bD;have bH:Good (fm x.scope (bj x.scope)) x.sizes.length:=by
   rw[J.sizes,u4];exact rE J.scope.1 aJ
  have bI:=(nW X aG);refine (I8 (av.ext aZ) X.k ax.ls (by rw[aD];omega) λ_=>?_).mono ?_
  .rw[a1];exact bI.small
  .rintro _ bw _ ⟨al,_,bJ⟩;obtain⟨ao,aH,aI,rfl,a2⟩:=bJ bH;rw[aK (v:=Γ ao) rfl,aK (v:=Δ 0) rfl];rw[a1,bG] at a2;exact⟨(aw.trans aZ).trans al,v,gs,ao,aH,aI,rfl,Ω,(aA.ext Y).ext al,a2⟩
theorem Ju {P:W7} {t Y J:r9} {k ab g o cap:Nat} {z:x1} (U:P.underlying t=σ (.slice e)) (hi:aO P e k ab z) (ac:z.cells.size=k) (h1:∀u∈dw z.cells (n*k),u.oneCell'=true)
  (I:af w g J cs) (ak:o+n*k<=cs.length) (V:∀w',ag (λr=>r=g) w w'->af w' g J (over cs o (dw z.cells (n*k)))->K (.tuple #[]) w'):aA P (l7.clear_ #[t] Y #[.slice (σ ⟨g,o,ν⟩) n cap]) w K:=by
 obtain⟨i,hi,al,rfl,ad⟩:=hi;have ae:∀w,(zeroValue e).run P w= .ok z w:=λw=>by simp[zeroValue,typeInfo,hi,ad]
 have ah:(l7.zeroCells z.cells n).toList=dw z.cells (n*k):=by
  unfold l7.zeroCells dw;rw[ac]
 have W:=run_storeCells_cells (P:=P) g o (dw z.cells (n*k)) 0 w (λj ai=>by
   rw[nr] at ai;rw[Nat.add_zero,I.cell (y0 (show o+j<cs.length by omega))];rfl) (λj _=>I.frozen _ _) h1
 simp only[Nat.add_zero] at W;obtain⟨aj,X⟩:=md (dw z.cells (n*k)) cs o w I;rcases Nat.eq_zero_or_pos n with rfl|am
 .refine .of (v:=.tuple #[]) (w':=w) (by simp[l7.clear_,run_underlying U]) (cN.refl _) (V w (ag.refl _ _) ?_);rw[Nat.zero_mul,Z5 (nr z.cells 0)];exact I
 .obtain⟨m,rfl⟩:∃m,n=m+1:=⟨n-1,Ω⟩;refine .of (v:=.tuple #[]) (w':=_) (by simp[l7.clear_,run_underlying U,ae,ah,W]) (X.dv I) (V _ X.aa aj)
theorem dm {α:Type} {f:α->List x1} {k:Nat} {g:Nat} {L:List α} (h:a6 f k e w g v L) {r:Nat} (I:leadsTo v r):r=g/\ ∃cs,af w g e cs:=by
 obtain⟨_,⟨rfl,_⟩|⟨cap,cs,rfl,J,_⟩⟩:=h.1
 .exact (eJ I).elim
 .obtain⟨a,n,c,h1,U⟩:=I;cases h1;exact⟨U.symm,cs,J⟩
theorem Az {α:Type} {f:α->List x1} {k:Nat} {g:Nat} {L:List α} (h:a6 f k e w g v L) (I:L≠[]):∃cs n c,v= .slice (σ ⟨g,0,ν⟩) n c/\af w g e cs:=by
 obtain⟨_,⟨rfl,J⟩|⟨cap,cs,rfl,U,_⟩⟩:=h.1
 .exact absurd (Z5 J) I
 .exact⟨cs,_,_,rfl,U⟩
theorem eL.mk {g:Nat} {L:List cA} (h:a6 ep 2 cL w g v L) (J:∀x∈L,(∃U,au .i64 ab w U x.sv x.sc)/\ic x.sc):eL w g v L:=by
 refine⟨h,λx I=>⟨(J x I).1,λr V=>?_,(J x I).2⟩⟩;obtain⟨cs,n,c,_,W⟩:=Az h (λX=>by rw[X] at I;cases I);obtain⟨⟨U,hm⟩,_⟩:=J x I;exact bX hm W Φ V
def Sem (w:x2) (k:Int) (sizes:Λ) (L:List cA):Prop:=∀x∈L,∃I J,cR w x.g I J (bF sizes x.sc) k x.cs
theorem uu {g X:Nat} {Y:x1} {cs:Λ} (h:cR w g X Y szs k cs) (U:ag S w w') (V:∀r,S r-> ∃c,af w r cL c):cR w' g X Y szs k cs:=by
 obtain⟨⟨aL,gs,h1,ab,ac⟩,ad⟩:=h;refine⟨⟨aL,gs,h1.aa U λI=>?_,bc ab U λr W I=>?_,bc ac U λr W I=>?_⟩,ad⟩
 .obtain⟨c,J⟩:=V g I;unfold af at h1 J;rw[h1] at J;have:=(Obj.cells.inj (Z8 J)).2.1;exact absurd this Φ
 .obtain⟨c,J⟩:=V r I;exact bX ab J Φ W rfl
 .obtain⟨c,J⟩:=V r I;exact bX ac J Φ W rfl
theorem Sem.ext {L:List cA} (h:Sem w k sizes L) (I:Ext w w'):Sem w' k sizes L:=λx J=>by
 obtain⟨U,V,W⟩:=h x J;exact⟨U,V,W.ext I⟩
theorem Sem.row {L M:List cA} {g:Nat} (h:Sem w k sizes L) (I:eL w g v M) (J:ag (λr=>leadsTo v r) w w'):Sem w' k sizes L:=λx U=>by
 obtain⟨V,W,X⟩:=h x U;exact⟨V,W,uu X J λr Y=>by obtain⟨rfl,c,aa⟩:=dm I.1 Y;exact⟨c,aa⟩⟩
def dH (h:cA):cw:=(h.sc,h.cs)
theorem Jv:ak x3 ta [Δ c] w λv w'=>v= .bool (decide (0<c))/\Ext w w':=by
 refine aB func216 ?_;rw[bR];exact⟨rfl,Ext.refl _⟩
theorem Jw (h:aJ .i64 w sv l):
  ak x3 EC [sv,.func (.func ta) #[] #[]] w λv w'=>v= .bool (l.any λc=>decide (0<c))/\Ext w w':=by
 refine aB func215 ?_;refine ak.mono (K:=λv w'=>Ext w w'/\ ∃r:Int,v=Δ r/\(0<=r↔ ∃c∈l,0<c)) ?_ ?_
 .refine aB func261 ?_;rw[aT aw.u h];refine bE.range l.length (λi _ U=>Ext w U/\ ∀c∈l.take i,¬0<c) h.le ⟨Ext.refl _,λc I=>by simp at I⟩ ?_ ?_
  .rintro i _ U k hi ⟨J,X⟩ ab;refine Υ λ_=>?_;obtain⟨x,Y⟩:∃x,l[i]? =σ x:=⟨_,y0 hi⟩;rw[bd aw.u ao.i Ψ (h.ext J) Y];show ak x3 ta [Δ x] U _;refine Jv.mono ?_;rintro _ V _ ⟨rfl,aa⟩;rw[ae];refine⟨λW=>⟨J.trans aa,i,rfl,⟨λ_=>⟨x,x5 Y,W⟩,λ_=>Ω⟩⟩,λac=>?_⟩;rw[aN];refine ab _ _ ⟨J.trans aa,λc I=>?_⟩;rw[r8,Y] at I;rcases n9.1 I with I|I
   .exact X c I
   .simp at I;subst I;exact ac
  .rintro _ U k ⟨J,X⟩;rw[o9] at X;rw[aq,ae];exact⟨λh=>Ω,λ_=>⟨J,-1,rfl,⟨λh=>Ω,λ⟨c,I,W⟩=>absurd W (X c I)⟩⟩⟩
 .rintro _ U _ ⟨J,r,rfl,ad⟩;rw[ce];refine⟨?_,J⟩;congr 1;rw[V8,decide_eq_true_eq,List.any_eq_true,ad];exact⟨λ⟨c,I,W⟩=>⟨c,I,decide_eq_true W⟩,λ⟨c,I,W⟩=>⟨c,I,of_decide_eq_true W⟩⟩
theorem AA {W X:Nat} {x:cA} {Y:x1} (aa:hQ w W x) (ab:cR w x.g X Y szs k x.cs):ak x3 oK [iH x] w λv w'=>v= .bool (!e3 (dH x))/\Ext w w':=by
 obtain⟨⟨ai,hm⟩,_⟩:=aa;refine aB func214 ?_;refine bN λan U aj J I=>?_;have I:af U an cL [x.sv,Γ x.g]:=by
  obtain⟨_,_,_,e⟩:=bZ hm.ls;simp only[iH,ep,e] at I ⊢;exact I
 rw[ac cL.p rfl,ad Ψ (I.Q1 rfl)];refine (lx (ab.ext J)).mono ?_;rintro al V _ ⟨ae,am,ao,ag⟩;refine (Jw ag.ls).mono ?_;rintro _ ap _ ⟨rfl,ah⟩;rw[bf];exact⟨rfl,(J.trans ae).trans ah⟩
theorem Jx {g:Nat} {L:List cA} (h:eL w g v L) (I:Sem w k sizes L):
  ak x3 xg [v,.func (.func oK) #[] #[]] w λr w'=>Ext w w'/\((r=Δ (-1)/\ ∀x∈L,e3 (dH x)=true)\/ ∃i:Nat,r=Δ (i:Int)/\i<L.length/\(∀x∈L.take i,e3 (dH x)=true)/\ ∀x,L[i]? =σ x->e3 (dH x)=false):=by
 refine aB func211 ?_;rw[c9 ft.u h.1];refine bE.range L.length (λi _ U=>Ext w U/\ ∀x∈L.take i,e3 (dH x)=true) h.1.le ⟨Ext.refl _,λc J=>by simp at J⟩ ?_ ?_
 .rintro i _ U k hi ⟨W,X⟩ ac;refine Υ λ_=>?_;obtain⟨x,Y⟩:∃x,L[i]? =σ x:=⟨_,y0 hi⟩;rw[rM rfl (h.ext W) Y];show ak x3 oK [iH x] U _;obtain⟨ah,ai,ad⟩:=I x (x5 Y);refine (AA ((h.ext W).at Y) (ad.ext W)).mono ?_;rintro _ V _ ⟨rfl,aa⟩;rw[bD];refine⟨λaf=>⟨W.trans aa,.inr ⟨i,rfl,hi,X,λy ab=>by rw[Y] at ab;cases ab;simpa using af⟩⟩,λag=>?_⟩;rw[aN];refine ac _ _ ⟨W.trans aa,λc J=>?_⟩;rw[r8,Y] at J;rcases n9.1 J with J|J
  .exact X c J
  .simp at J;subst J;simpa using ag
 .rintro _ U k ⟨W,X⟩;rw[o9] at X;rw[aq,ae];exact⟨λh=>Ω,λ_=>⟨W,.inl ⟨rfl,X⟩⟩⟩
def fo (x:cA):Bool:=e3 (dH x)
theorem uv {L:List cA} {x:cA} (I:L[j]? =σ x):(L.take (j+1)).filter fo=if fo x=true then (L.take j).filter fo++[x] else (L.take j).filter fo:=by
 rw[r8,I,Z4,List.filter_append];by_cases h:fo x=true
 .rw[if_pos h];simp[h]
 .rw[if_neg h];simp[h]
theorem AB {z:Array x1} (I:0<z.size) (h:∀u∈z.toList,u.oneCell'=true):∀u∈dw z n,u.oneCell'=true:=λu hu=>by
 unfold dw at hu;rw[Array.toList_map,Z1] at hu;obtain⟨i,_,rfl⟩:=hu;have J:i % z.size<z.size:=Nat.mod_lt _ I;rw[getElem!_pos z (i % z.size) J];exact h _ Ξ
theorem Jy {g:Nat} {L:List cA} (h:eL w g v L) (I:Sem w k sizes L) (bz:L.length<=100000):
  ak x3 ED [v,.func (.func oK) #[] #[]] w λX w'=>ag (λr=>leadsTo v r) w w'/\eL w' g X (L.filter fo)/\ ∀r,leadsTo X r->leadsTo v r:=by
 refine aB func217 ?_;refine (Jx h I).mono ?_;rintro r U _ ⟨aj,Y⟩;rcases Y with⟨rfl,av⟩|⟨al,rfl,aU,av,aV⟩
 .rw[bk,ae];refine⟨λ_=>⟨aj.aa _,?_,λr Y=>Y⟩,λh=>absurd rfl h⟩;rw[List.filter_eq_self.2 (show ∀x∈L,fo x=true from av)];exact h.ext aj
 rw[bk,ae];refine⟨λh=>Ω,λ_=>?_⟩;rw[aN,wrap_i64 Ω Ω];obtain⟨aw,aF⟩:∃x,L[al]? =σ x:=⟨_,y0 aU⟩;refine⟨λax ay V=>∃ (i j:Nat) (M:List cA),ax=Δ (i:Int)/\ay=Δ (j:Int)/\i<j/\j<=L.length/\M.length=L.length/\M.take i=(L.take j).filter fo/\M.drop j=L.drop j/\(∀x∈M,x∈L)/\eL V g v M/\ag (λr=>leadsTo v r) w V,
  λ_ ay _=>L.length-(bO ay).toNat,⟨al,al+1,L,rfl,by congr 1,Ω,Ω,rfl,?_,rfl,λx ab=>ab,h.ext aj,aj.aa _⟩,?_⟩
 .have aW:¬fo aw=true:=by rw[show fo aw=false from aV aw aF];simp
  rw[uv aF,if_neg aW,List.filter_eq_self.2 (show ∀x∈L.take al,fo x=true from av)]
 rintro _ _ V ⟨i,j,M,rfl,rfl,bA,bB,aG,ad,aH,aI,W,am⟩;have aX:Sem V k sizes L:=I.row h am;rw[c9 ft.u W.1,aq,ae];refine⟨λaz=>?_,λbC=>?_⟩
 .have az:j<L.length:=Ω
  obtain⟨x,ab⟩:∃x,L[j]? =σ x:=⟨_,y0 az⟩;have ao:M[j]? =σ x:=by
   have h1:(M.drop j)[0]? =(L.drop j)[0]?:=by rw[aH]
   rw[List.getElem?_drop,List.getElem?_drop,Nat.add_zero] at h1;rw[h1,ab]
  have aJ:M.drop (j+1)=L.drop (j+1):=by
   have h1:(M.drop j).drop 1=(L.drop j).drop 1:=by rw[aH]
   rw[List.drop_drop,List.drop_drop] at h1;exact h1
  refine aQ (λax ap=>∃ (ah:Nat) (ac:List cA),ax=Δ (ah:Int)/\ah<j+1/\ac.length=L.length/\ac.take ah=(L.take (j+1)).filter fo/\ac.drop (j+1)=L.drop (j+1)/\(∀x∈ac,x∈L)/\eL ap g v ac/\ag (λr=>leadsTo v r) w ap) ?_ ?_
  .rintro _ ap ⟨ah,ac,rfl,h1,aC,aY,aZ,a1,a2,a6⟩;rw[aN,wrap_i64 Ω Ω];exact⟨⟨ah,j+1,ac,rfl,rfl,h1,az,aC,aY,aZ,a1,a2,a6⟩,by simp only[bO];omega⟩
  .intro bE aK;rw[rM rfl W ao];refine bp cL.i λan ap bF a7 a8=>?_;refine bH (vs:=ep x) cL.i rfl rfl (W.at ao).one a8 λaL ba bG aM=>?_;have aD:Ext V aL:=a7.then ba (λr Y he=>by have he:r=an:=he;omega);rw[bn cL.p cL.i rfl aM.range];show ak x3 oK [iH x] aL _;obtain⟨bI,bJ,bb⟩:=aX x (x5 ab);refine (AA ((W.ext aD).at ao) (bb.ext aD)).mono ?_;rintro _ bK _ ⟨rfl,aO⟩;have ai:=aD.trans aO;rw[bf,Bool.not_not,bD];refine⟨λbc=>?_,λbd=>?_⟩
   .rw[bn cL.p cL.i rfl (aM.ext aO).range];refine Jm rfl (W.ext ai) Ω ((W.ext ai).at ao) λbL be bg=>?_;rw[aN,wrap_i64 Ω Ω];refine aK _ _ ⟨i+1,M.set i x,rfl,Ω,by simp[aG],?_,?_,λy af=>?_,bg,(am.trans (ai.aa _)).trans be⟩
    .have aE:fo x=true:=bc;rw[uv ab,if_pos aE,r8,V9 Ω,Z4,List.take_set_of_le (o8 _),ad]
    .rw[List.drop_set_of_lt Ω,aJ]
    .rcases V7 af with af|rfl
     .exact aI y af
     .exact x5 ab
   .have aE:¬fo x=true:=by rw[show fo x=false from bd];simp
    exact aK _ _ ⟨i,M,rfl,Ω,aG,by rw[uv ab,if_neg aE,ad],aJ,aI,W.ext ai,am.trans (ai.aa _)⟩
 .have bh:j=L.length:=Ω
  subst bh;rw[o9] at ad;obtain⟨⟨bM,bi⟩,aP⟩:=W.1;rcases bi with⟨_,bN⟩|⟨cap,cs,bj,bl,bP,bm,bo,bq⟩
  .omega
  subst bj;have br:(J x3 (W6 ft (.slice (σ ⟨g,0,ν⟩) M.length cap) (σ (Δ (i:Int))) ν ν) V λbt=>
    aA x3 (l7.clear_ #[ft] Fu #[bt]) V λu au=>
    J x3 (W6 ft (.slice (σ ⟨g,0,ν⟩) M.length cap) ν (σ (Δ (i:Int))) ν) au λbu=>
    (λX w'=>ag (λr=>leadsTo (.slice (σ ⟨g,0,ν⟩) M.length cap) r) w w'/\eL w' g X (L.filter fo)/\ ∀r,leadsTo X r->leadsTo (.slice (σ ⟨g,0,ν⟩) M.length cap) r) bu au):=by
   rw[fw (l:=i) (h:=M.length) (m:=cap) ft.u cL.i (l8 i _ rfl) hC ez Ω Ω (o8 _),if_neg Ω];simp only[Y0,U7];refine Ju (g:=g) (o:=0+i*2) (n:=M.length-i) (k:=2) ft.u cL.i rfl ?_ bl Ω λau aR bw=>?_
   .exact AB Φ Φ
   rw[fw (l:=0) (h:=i) (m:=cap) ft.u cL.i hB (ma i _ rfl) ez Ω Ω (o8 _),if_neg Ω];simp only[Y0,U7,Nat.zero_mul,V3,Nat.sub_zero];have bx:(dw (x1.agg #[.slice ν 0 0,.pointer ν]).cells ((M.length-i)*2)).length=(M.length-i)*2:=nr _ _;have bQ:(M.flatMap ep).length=M.length*2:=fB aP;have aS:(L.filter fo).length=i:=by rw[<-ad,o4];omega
   have key:(λX w'=>ag (λr=>leadsTo (.slice (σ ⟨g,0,ν⟩) M.length cap) r) w w'/\eL w' g X (L.filter fo)/\ ∀r,leadsTo X r->leadsTo (.slice (σ ⟨g,0,ν⟩) M.length cap) r) (.slice (σ ⟨g,0,ν⟩) (L.filter fo).length cap) au:=by
    refine⟨am.trans (aR.mono λr _ he=>⟨_,_,_,rfl,he.symm⟩),⟨⟨⟨fB (k:=2) (λy _=>rfl),.inr ⟨cap,_,rfl,bw,Ω,bm,by rw[kA,bo],?_⟩⟩,λy _=>rfl⟩,λy af=>?_⟩,λr Y=>?_⟩
    .rw[aS,<-ad,<-pi i aP,<-bq,List.take_take,ll (by rw[bx];omega),X1,List.take_append_of_le_length (by rw[o4];omega),List.take_take];congr 1;omega
    .have aT:y∈M:=by rw[<-ad] at af;exact U3 af
     exact (W.2 y aT).aa aR λr Y he=>(W.2 y aT).2.1 r Y he
    .obtain⟨a,n,c,h1,aC⟩:=Y;cases h1;exact⟨_,_,_,rfl,aC⟩
   rw[aS] at key;exact key
  exact br
theorem pv {k:o6} {g cap:Nat} {b:Option Addr} (h:au k e w g (.slice b n cap) l) (X:0<l.length):
  b=σ ⟨g,0,ν⟩/\n=l.length/\ ∃cs,af w g e cs/\n<=cap/\cap<=maxLen/\cs.length=cap/\cs.take n=ints k l:=by
 obtain⟨_,⟨_,h1⟩|⟨Y,cs,h1,I,J,U,V,W⟩⟩:=h
 .omega
 .cases h1;exact⟨rfl,rfl,cs,I,J,U,by simpa using V,by simpa using W⟩
theorem Jz {g cap:Nat} (h:au .i64 ab w g (.slice (σ ⟨g,0,ν⟩) n cap) l) (U:j<l.length):aJ .i64 w (.slice (σ ⟨g,j,ν⟩) (n-j) (cap-j)) (l.drop j):=by
 obtain⟨_,V,cs,I,h1,W,X,J⟩:=pv h Ω;have:=F1 (o:=j) (k:=n-j) (c:=cap-j) I Ω Ω Ω;refine aJ.of (n:=n-j) ?_;have e:(cs.drop j).take (n-j)=ints .i64 (l.drop j):=by
  rw[<-List.drop_take,J,ints,ints,List.map_drop]
 rw[e] at this;exact this
theorem JA {g:Nat} (h:au .i64 ab w g sv l) (bl:l.length<=1000):
  ak x3 EX [sv] w λv w'=>ag (λr=>r=g) w w'/\au .i64 ab w' g v (dedup l l.length):=by
 refine aB func256 ?_;rw[aT ai.u h.ls];simp only[aq,ae];refine⟨λbm=>⟨ag.refl _ _,?_⟩,λbn=>?_⟩
 .rw[rJ (o8 _) (λi hi aC=>Ω),o9];exact h
 obtain⟨n,X⟩:∃n,l.length=n:=⟨_,rfl⟩;obtain⟨cap,rfl⟩:∃cap,sv= .slice (σ ⟨g,0,ν⟩) n cap:=by
  obtain⟨_,⟨_,h1⟩|⟨aR,cs,h1,_⟩⟩:=id h
  .omega
  .exact⟨aR,by rw[h1,X]⟩
 obtain⟨_,_,_,_,bo,aS,_⟩:=pv h Ω;refine⟨λ_ t U=>∃j:Nat,t=Δ (j:Int)/\1<=j/\j<=n/\Ext w U/\ ∀i,i<j->0<i->l[i]? ≠l[i-1]?,λ_ t _=>n-(bO t).toNat,⟨1,rfl,Ω,Ω,Ext.refl _,λi h1 aD=>Ω⟩,?_⟩;rintro bp _ U ⟨j,rfl,bq,aE,Y,al⟩;rw[aT ai.u (h.ls.ext Y)];simp only[aq,ae,cm];refine⟨λaU V aV _ _=>?_,λbr=>⟨Y.aa _,?_⟩⟩
 .have aU:j<n:=Ω
  have ac:=Y.trans aV;have aF:=h.ls.ext ac;obtain⟨a,am⟩:∃a,l[j]? =σ a:=⟨_,y0 Ω⟩;obtain⟨b,an⟩:∃b,l[j-1]? =σ b:=⟨_,y0 Ω⟩;rw[bd ai.u ab.i Ψ aF am];simp only[c3];rw[wrap_i64 Ω Ω,dY (i:=j-1) Ω ai.u ab.i Ψ aF an];simp only[bk,ae,aN];refine⟨λao=>?_,λao=>?_⟩
  .subst ao;rw[fw ai.u ab.i (l:=j) (h:=n) (m:=cap) l6 hC ez Ω Ω Ω,if_neg Ω];have aW:U1 (λx:Addr=>x.add (j*1)) (σ ⟨g,0,ν⟩)=σ ⟨g,j,ν⟩:=by simp[U7]
   rw[aW];have aG:dedup l (j+1)=l.take j:=by rw[uq Ω (by rw[am,an]),rJ Ω al]
   refine⟨λap t av=>∃ (q I:Nat) (J:Λ),ap=Δ (q:Int)/\t=Δ (I:Int)/\1<=I/\j+I<=n/\ag (λr=>r=g) w av/\au .i64 ab av g (.slice (σ ⟨g,0,ν⟩) n cap) J/\J.length=n/\
     q=(dedup l (j+I)).length/\J.take q=dedup l (j+I)/\q<=j+I-1/\ ∀i,j+I-1<=i->J[i]? =l[i]?,λ_ t _=>n-(bO t).toNat,
    ⟨j,1,l,rfl,rfl,Ω,Ω,ac.aa _,h.ext ac,X,by rw[aG,o4];omega,by rw[aG],Ω,λi _=>rfl⟩,?_⟩
   rintro _ _ av ⟨q,I,J,rfl,rfl,bt,bu,aw,aH,aI,aJ,ad,aX,af⟩;rw[gw ai.u];simp only[aq,ae,cm];refine⟨λaK=>?_,λaK=>?_⟩
   .have aK:j+I<n:=Ω
    refine aQ (λap ax=>∃ (q:Nat) (J:Λ),ap=Δ (q:Int)/\ag (λr=>r=g) w ax/\au .i64 ab ax g (.slice (σ ⟨g,0,ν⟩) n cap) J/\J.length=n/\
     q=(dedup l (j+(I+1))).length/\J.take q=dedup l (j+(I+1))/\q<=j+(I+1)-1/\ ∀i,j+(I+1)-1<=i->J[i]? =l[i]?) ?_ ?_
    .rintro _ ax ⟨q,J,rfl,h1,aD,aY,aZ,a1,a2,a6⟩;simp only[aN];rw[wrap_i64 Ω Ω];exact⟨⟨q,I+1,J,rfl,rfl,Ω,Ω,h1,aD,aY,aZ,a1,a2,a6⟩,by simp only[bO];omega⟩
    .intro bw aL bx ay _ _;have ah:=aH.ext ay;have az:=Jz (j:=j) ah Ω;obtain⟨y,aj⟩:∃y,l[j+I]? =σ y:=⟨_,y0 Ω⟩;obtain⟨z,aA⟩:∃z,l[j+I-1]? =σ z:=⟨_,y0 Ω⟩;have aM:(J.drop j)[I]? =σ y:=by rw[List.getElem?_drop,af _ Ω,aj]
     have a7:(J.drop j)[I-1]? =σ z:=by rw[List.getElem?_drop,af _ Ω,<-aA];congr 1;omega
     rw[bd ai.u ab.i Ψ az aM];simp only[c3];rw[wrap_i64 Ω Ω,dY (i:=I-1) Ω ai.u ab.i Ψ az a7];simp only[bG,ae,aN];refine⟨λW=>?_,λW=>?_⟩
     .rw[bd ai.u ab.i Ψ az aM,gx rfl ai.u ab.i ah Ω];refine gy ab.i ah Ω λbz a8 bA ba=>?_;rw[wrap_i64 Ω Ω];have aO:dedup l (j+I+1)=dedup l (j+I)++[y]:=ur aj (λ_=>by rw[aj,aA];simpa using W);refine aL _ _ ⟨q+1,_,rfl,(aw.trans (ay.aa _)).trans a8,ba,by simpa using aI,?_,?_,Ω,λi hi=>?_⟩
      .rw[<-S8,aO];simp;omega
      .rw[<-S8,aO,r8,V9 Ω,List.take_set_of_le (o8 _),ad];rfl
      .rw[W8 Ω];exact af i Ω
     .have W:y=z:=X4.1 W;have aP:dedup l (j+I+1)=dedup l (j+I):=uq Ω (by rw[aj,aA,W]);exact aL _ _ ⟨q,J,rfl,aw.trans (ay.aa _),ah,aI,by rw[<-S8,aP];exact aJ,by rw[<-S8,aP];exact ad,Ω,λi hi=>af i Ω⟩
   .have bb:j+I=n:=Ω
    rw[bb] at aJ ad aX;obtain⟨_,_,cs,bc,_,_,bB,be⟩:=pv aH Ω;simp only[maxLen] at aS;rw[fw ai.u ab.i (l:=q) (h:=n) (m:=cap) l6 hC ez Ω Ω Ω,if_neg Ω];have bf:U1 (λx:Addr=>x.add (q*1)) (σ ⟨g,0,ν⟩)=σ ⟨g,q,ν⟩:=by simp[U7]
    rw[bf];refine xY ai.u ab.i rfl rfl bc Ω Ω λbC bg bD bh=>?_;rw[fw ai.u ab.i (l:=0) (h:=q) (m:=cap) hB mb ez Ω Ω Ω,if_neg Ω];have bi:U1 (λx:Addr=>x.add (0*1)) (σ ⟨g,0,ν⟩)=σ ⟨g,0,ν⟩:=by simp[U7]
    rw[bi,X];refine⟨aw.trans bg,?_⟩;rw[<-ad];refine au.of (n:=q) ⟨Θ,.inr ⟨cap,_,Ξ,bh,Ω,by simp only[maxLen];omega,by rw[kA];omega,?_⟩⟩;rw[T5];apply X8;intro i;by_cases hi:i<q
    .rw[Y2 hi,mc _ _ _ Θ,if_neg Ω,ints,x8,Y2 hi];have:(cs.take n)[i]? =(ints .i64 J)[i]?:=by rw[be]
     rw[Y2 Ω,ints,x8] at this;exact this
    .rw[Y4 Θ,Y4 Θ]
  .rw[wrap_i64 Ω Ω];refine⟨⟨j+1,rfl,Ω,Ω,ac,λi hi aC=>?_⟩,by simp only[bO];omega⟩;by_cases bj:i=j
   .subst bj;rw[am,an];intro he;exact ao (Z8 he)
   .exact al i Ω aC
 .have aE:j=n:=Ω
  rw[rJ (o8 _) (by rw[X,<-aE];exact al),o9];exact h.ext Y
theorem JB (af:n<=1000000):ak x3 Fe [.slice ν 0 0,Δ (n:Int)] w λv w'=>Ext w w'/\ ∃g,w.heap.size<=g/\au .i64 ab w' g v []:=by
 refine aB func286 ?_;refine di (λU=>w=U) ?_ ?_
 .rintro _ rfl;refine aQ (λv w'=>Ext w w'/\ ∃g,w.heap.size<=g/\au .i64 ab w' g v []) (λ_ _ h=>h) λJ I=>?_;rw[xX ai.u,gw ai.u];simp only[c3];have V:Y6.wrap (((0:Nat):Int)-((0:Nat):Int))=0:=Φ
  have W:Y6.wrap ((n:Int)-0)=n:=by rw[wrap_i64 Ω Ω];omega
  rw[V,W];simp only[bR,ae];refine⟨λh=>?_,λh=>I _ _ ⟨Ext.refl _,w.heap.size,o8 _,au.nil _ _ _ _⟩⟩;rw[xX ai.u,fw ai.u ab.i (l:=0) (h:=0) (m:=0) hB mb ez Ω Ω Ω,if_pos rfl];refine F0 (k:=n) (xs:=[]) rfl ai.u ab.u ab.i rfl ⟨rfl,0,0,ν,0,rfl,o8 _,X3 _,λh=>absurd h (Nat.lt_irrefl _),λj v h=>by simp at h⟩ Ω Ω Ω Ω λv g w' ag X hm=>?_;obtain⟨_,⟨_,ah⟩|⟨cap,cs,rfl,Y,h1,aa,ac,aj⟩⟩:=hm
  .omega
  rw[gw ai.u,fw ai.u ab.i (l:=0) (h:=0) (m:=cap) hB mb ez Ω Ω Ω,if_neg Ω];have ad:U1 (λx:Addr=>x.add (0*1)) (σ ⟨g,0,ν⟩)=σ ⟨g,0,ν⟩:=by simp[U7]
  rw[ad];refine I _ _ ⟨X,g,Ω,au.of (n:=0) ⟨Ξ,.inr ⟨cap,cs,Ξ,Y,Ω,aa,ac,Ξ⟩⟩⟩
 .intro J I;simp only[aq,ae];exact⟨λh=>Ω,λ_=>I _ rfl⟩
theorem JC {b:Λ} (av:aJ .i64 w df a) (aw:aJ .i64 w bv b) (aC:a.length<=1000) (aD:b.length<=1000)
  (aE:∀v w' g,Ext w w'->w.heap.size<=g->au .i64 ab w' g v (a++b)->K v w'):
  aA x3 (Z7 cz 2 #[(0,df),(1,bv)]) w λt U=>ak x3 EY [t] U K:=by
 obtain⟨⟨ag,ah,aj,aF⟩,⟨al,am,an,aG⟩⟩:(∃x n c,df= .slice x n c)/\(∃x n c,bv= .slice x n c):=by
  obtain⟨_,_,_,x,c,h1,_⟩:=id av;obtain⟨_,_,_,y,d,aH,_⟩:=id aw;exact⟨⟨x,_,c,h1⟩,⟨y,_,d,aH⟩⟩
 subst aF;subst aG;refine iw cz.u ai.i Ω (cs:=#[.slice ag ah aj,.slice al am an]) Ψ λg U a1 X Y=>?_;have Y:af U g ai [.slice ag ah aj,.slice al am an]:=Y;have key:∀i:Nat,i<2-> ∃v l,[x1.slice ag ah aj,.slice al am an][i]? =σ v/\[a,b][i]? =σ l/\aJ .i64 w v l/\l.length<=1000:=λi hi=>by
  match i,hi with
  |0,_=>exact⟨_,_,rfl,rfl,av,aC⟩
  |1,_=>exact⟨_,_,rfl,rfl,aw,aD⟩
 refine aB func257 ?_;rw[gw cz.u];refine bE.range 2 (λi size V=>Ext U V/\ ∃n:Nat,n<=1000*i/\size=Δ (n:Int)) Ω ⟨Ext.refl _,0,Ω,rfl⟩ ?_ ?_
 .rintro i _ V aI hi ⟨I,n,aK,rfl⟩ aL;simp only[aq,ae];refine⟨λ_=>?_,λh=>Ω⟩;obtain⟨v,l,ao,ax,ap,aM⟩:=key i hi;refine aQ (λv ay=>V=ay/\v=Δ ((n+l.length:Nat):Int)) ?_ ?_
  .rintro _ _ ⟨rfl,rfl⟩;simp only[aN];exact aL _ _ ⟨I,_,Ω,rfl⟩
  .intro a2 aO;rw[fi (b:=g) (o:=0) cz.u ai.i hi (λ_=>rfl),ad Ψ ((Y.ext I).cell (o:=0+i*1) (by rw[<-ao];congr 1;omega)),aT ai.u (ap.ext (X.trans I))];simp only[aN,aq,ae];rw[wrap_i64 Ω Ω];exact⟨λh=>Ω,λ_=>aO _ _ ⟨rfl,by congr 1⟩⟩
 .rintro _ V aI ⟨I,n,aK,rfl⟩;simp only[aq,ae];refine⟨λh=>Ω,λ_=>?_⟩;refine (JB (n:=n) Ω).mono ?_;rintro v0 ay _ ⟨az,aP,a6,aR⟩;have s1:=X.size;have a7:=I.size;have a8:=az.size;have aS:=I.trans az;rw[gw cz.u];refine bE.range 2 (λi v aa=>Ext U aa/\ ∃W,U.heap.size<=W/\au .i64 ab aa W v (([a,b].take i).flatten)/\(([a,b].take i).flatten).length<=1000*i) Ω ⟨aS,aP,Ω,aR,Ξ⟩ ?_ ?_
  .rintro i v4 aa aU hi ⟨J,W,aV,ac,ba⟩ aW;simp only[aq,ae];refine⟨λ_=>?_,λh=>Ω⟩;obtain⟨v,l,ao,ax,ap,aM⟩:=key i hi;rw[fi (b:=g) (o:=0) cz.u ai.i hi (λ_=>rfl),ad Ψ ((Y.ext J).cell (o:=0+i*1) (by rw[<-ao];congr 1;omega))];refine hD ai.u ab.i rfl ac (ap.ext (X.trans J)) Ω Ω λbb aX bc bd aY aZ=>?_;simp only[aN];have be:=J.size;have e:([a,b].take (i+1)).flatten=([a,b].take i).flatten++l:=by rw[r8,ax];simp
   refine aW _ _ ⟨J.then aZ (by rintro r bf rfl;omega),aX,Ω,by rw[e];exact aY,by rw[e,u9];omega⟩
  .rintro v4 aa aU ⟨J,W,aV,ac,_⟩;simp only[aq,ae];refine⟨λh=>Ω,λ_=>aE _ _ W (X.trans J) Ω ?_⟩;have e:([a,b].take 2).flatten=a++b:=Ξ
   rw[e] at ac;exact ac
def nZ (s1 I U J vars:Λ):Prop:=∀p∈vars,p∈I->p∈J->gS s1 (gD I p)=gS U (gD J p)
def db (s1 I J U vars:Λ):Λ:=vars.map λp=>max (gS s1 (gD I p)) (gS J (gD U p))
theorem AC (s1 I J U vars:Λ):(db s1 I J U vars).length=vars.length:=by simp[db]
theorem rO {x:Int}:0<=gD l x↔x∈l:=by
 unfold gD;by_cases h:x∈l
 .rw[if_pos h];exact⟨λ_=>h,λ_=>Ω⟩
 .rw[if_neg h];exact⟨λh=>Ω,λI=>absurd I h⟩
theorem JD {g a8 aM ba:Nat} {ao aO:x1} {s1 W vars J:Λ} {bb:Int} {bc be:Λ} (h1:cR w g a8 sv s1 k bc) (aP:cR w aM ba ao W bb be) (X:aJ .i64 w aO vars) (bf:aJ .i64 w df I) (ap:aJ .i64 w bv J) (bg:gl I) (bh:gl J) (bH:vars.length<=1000):
  ak x3 EZ [aO,Γ g,df,Γ aM,bv] w λv w'=>Ext w w'/\
   (¬nZ s1 I W J vars->v= .tuple #[.slice ν 0 0,.bool false])/\
   (nZ s1 I W J vars-> ∃x an,v= .tuple #[x,.bool true]/\w.heap.size<=an/\au .i64 ab w' an x (db s1 I W J vars)):=by
 have sub:∀ {w:x2} {g:Nat} {sv:x1} {k:Int} {aL:x1},af w g cU [sv,Δ k,aL]->w.rangeAt g (0+0) [sv]:=λap=>ml ap (by
  intro j v X
  match j,X with
  |0,X=>exact X)
 refine aB func258 ?_;rw[aT ai.u X];refine i9 ai.u ab.i Ω Ω λah U bI aR bi=>?_;have bj:au .i64 ab U ah (.slice (σ ⟨ah,0,ν⟩) vars.length vars.length) (o7 vars.length 0):=au.of (n:=vars.length) (bU.full bi Ξ (by simp[maxLen];omega));generalize (x1.slice (σ ⟨ah,0,ν⟩) vars.length vars.length)=bk at*;rw[aT ai.u (X.ext aR)];have av:=AC s1 I W J vars;refine k7.range vars.length (λi _ _ V=>Ext w V/\au .i64 ab V ah bk (upto (db s1 I W J vars) 0 i)/\ ∀ (j:Nat) (p:Int),j<i->vars[j]? =σ p->p∈I->p∈J->gS s1 (gD I p)=gS W (gD J p)) Ω
  ⟨aR,by rw[nH,av];exact bj,λj p aj=>Ω⟩ ?_ ?_
 .rintro i _ _ V bl hi ⟨Y,hm,aw⟩ bm;simp only[aq,ae];refine⟨λ_=>?_,λh=>Ω⟩;obtain⟨p,aa⟩:∃p,vars[i]? =σ p:=⟨_,y0 hi⟩;rw[bd ai.u ab.i Ψ (X.ext Y) aa];refine (ut (bf.ext Y) bg).mono ?_;rintro _ bJ _ ⟨rfl,ax⟩;refine (ut (ap.ext (Y.trans ax)) bh).mono ?_;rintro _ bo _ ⟨rfl,aS⟩;have aU:=(Y.trans ax).trans aS;refine aQ (λv aV=>Ext bo aV/\ ∃c,v= .bool c/\(c=true↔p∈I/\p∈J/\gS s1 (gD I p)≠gS W (gD J p))) ?_ ?_
  .rintro _ aV ⟨aW,c,rfl,aX⟩;have aY:=aU.trans aW;rw[bD];refine⟨λbp=>⟨aY,λ_=>by first|rfl|trivial,λaj=>?_⟩,λbr=>?_⟩
   .obtain⟨ad,ag,bt⟩:=aX.1 bp;exact absurd (aj p (x5 aa) ad ag) bt
   .simp only[cm];intro bK aZ _ _;have az:=aY.trans aZ;obtain⟨⟨aL,gs,aA,aC,_⟩,_⟩:=h1.ext az;obtain⟨⟨bu,bw,aD,aE,_⟩,_⟩:=aP.ext az;rw[ay,ac cU.p rfl,bn (cs:=[sv]) bq.p bq.i rfl (sub aA),ay,ac cU.p rfl,bn (cs:=[ao]) bq.p bq.i rfl (sub aD)];refine (pb aC.ls).mono ?_;rintro _ bL _ ⟨rfl,al⟩;refine⟨.inl al,?_⟩;refine (pb (aE.ls.ext al)).mono ?_;rintro _ bM _ ⟨rfl,a1⟩;have bx:=(az.trans al).trans a1;have a2:=hm.ext ((((ax.trans aS).trans aW).trans aZ).trans (al.trans a1));have bN:(upto (db s1 I W J vars) 0 i).length=vars.length:=by rw[oZ,av]
    rw[qO,gx rfl ai.u ab.i a2 Ω];refine gy ab.i a2 Ω λbO bz _ a6=>?_;simp only[aN];have bA:(db s1 I W J vars)[i]? =σ (max (gS s1 (gD I p)) (gS W (gD J p))):=by
     unfold db;rw[x8,aa];rfl
    rw[nJ bA] at a6;refine bm _ _ _ ⟨bx.then bz (by rintro r bP rfl;omega),a6,λj bB aj aF ad ag=>?_⟩;by_cases bC:j=i
    .subst bC;rw[aa] at aF;cases aF;refine Decidable.byContradiction λbE=>?_;have:=aX.2 ⟨ad,ag,bE⟩;rw[br] at this;cases this
    .exact aw j bB Ω aF ad ag
  .intro bQ aG;simp only[cm,ce,ae];intro bR am _ _;refine⟨λaH=>⟨λaI=>?_,λaI=>⟨.inl (Ext.refl _),aG _ _ ⟨am,false,rfl,⟨(λh=>by cases h),λh=>absurd (rO.2 h.2.1) aI⟩⟩⟩⟩,λaH=>⟨.inl (Ext.refl _),aG _ _ ⟨am,false,rfl,⟨(λh=>by cases h),λh=>absurd (rO.2 h.1) aH⟩⟩⟩⟩;have a7:=aU.trans am;obtain⟨⟨aL,gs,aA,aC,_⟩,_⟩:=h1.ext a7;obtain⟨⟨bu,bw,aD,aE,_⟩,_⟩:=aP.ext a7;rw[ay,ac cU.p rfl,bn (cs:=[sv]) bq.p bq.i rfl (sub aA),ay,ac cU.p rfl,bn (cs:=[ao]) bq.p bq.i rfl (sub aD)];refine (pb aC.ls).mono ?_;rintro _ bS _ ⟨rfl,aK⟩;refine⟨.inl aK,?_⟩;refine (pb (aE.ls.ext aK)).mono ?_;rintro _ bT _ ⟨rfl,bF⟩;simp only[bG];refine aG _ _ ⟨(am.trans aK).trans bF,_,rfl,?_⟩;rw[decide_eq_true_iff];exact⟨λh=>⟨rO.1 aH,rO.1 aI,h⟩,λh=>h.2.2⟩
 .rintro _ _ V bl ⟨Y,hm,aw⟩;simp only[aq,ae];refine⟨λh=>Ω,λ_=>?_⟩;have aj:nZ s1 I W J vars:=λp aa ad ag=>by
   obtain⟨i,hi,he⟩:=List.getElem_of_mem aa;exact aw i p hi (by rw[y0 hi,he]) ad ag
  rw[<-av,nI] at hm;exact⟨Y,λh=>absurd aj h,λ_=>⟨_,ah,rfl,Ω,hm⟩⟩
def uw (I J vars:Λ):Prop:=gl vars/\ ∀x,x∈vars↔x∈I\/x∈J
def mG (s1 V I J W U vars:Λ) (k:Int):Λ:=
 (W3 (aM (db s1 I J U vars)).toNat).map λ(q:Nat)=>min (cM s1 V (eo (cF (db s1 I J U vars) q) vars I)+cM J W (eo (cF (db s1 I J U vars) q) vars U)) k
theorem AD (s1 V I J W U vars:Λ) (k:Int):(mG s1 V I J W U vars k).length=(aM (db s1 I J U vars)).toNat:=by simp[mG]
theorem AE {s cs:Λ} (I:right k) (h:∀x∈cs,cQ x k):cQ (cM s cs t) k:=by
 have J:cQ 0 k:=⟨I,Int.le_refl _,by have:=I.1;omega⟩;unfold cM;split
 .rename_i n _;rw[u5];cases U:cs[n.toNat]? with
  |none=>exact J
  |some x=>exact h x (x5 U)
 .exact J
def Fits (s l:Λ):Prop:=l.length=s.length/\pt l
def pw (e:Int):x1:=.tuple #[.pointer ν,.slice ν 0 0,Δ e]
def AF (w:x2) (s1 Y I U aa J:Λ) (k V:Int) (v:x1) (w':x2):Prop:=
 Ext w w'/\(¬(Fits s1 I/\Fits U J)->v=pw 1)/\
  (Fits s1 I/\Fits U J-> ∃vars,uw I J vars/\(¬nZ s1 I U J vars->v=pw 1)/\(nZ s1 I U J vars->(k≠V->v=pw 3)/\
   (k=V->¬bS (db s1 I U J vars)->v=pw 1)/\(k=V->bS (db s1 I U J vars)->4096<aM (db s1 I U J vars)->v=pw 5)/\
   (k=V->bS (db s1 I U J vars)->aM (db s1 I U J vars)<=4096-> ∃W ab ac X,v= .tuple #[Γ W,X,Δ 0]/\
    cR w' W ab ac (db s1 I U J vars) k (mG s1 Y I U aa J vars k)/\aJ .i64 w' X vars)))
theorem JE {g b3 aW b4:Nat} {b5:x1} {s1 X J W:Λ} {bm:Int} {al am:Λ} (h1:cR w g b3 sv s1 k al) (a1:cR w aW b4 b5 X bm am) (a2:aJ .i64 w df J) (aC:aJ .i64 w bv W)
  (bo:right k) (cT:∀x∈al,cQ x k) (cV:∀x∈am,cQ x bm):
  ak x3 EB [Γ g,df,Γ aW,bv] w (AF w s1 al J X am W k bm):=by
 have cW:=a2.cells;have cX:=aC.cells;have cY:=h1.2.2.1;have cZ:=a1.2.2.1;have sub:∀ {w:x2} {g:Nat} {sv:x1} {k:Int} {aL:x1},af w g cU [sv,Δ k,aL]->w.rangeAt g (0+0) [sv]:=λaC=>ml aC (by
  intro j v bI
  match j,bI with
  |0,bI=>exact bI)
 refine lk func213 ?_;refine bN λg1 U ed b6 aq=>?_;refine bN λb7 V ee bJ av=>?_;refine bN λb8 ef eg br ax=>?_;refine bN λb9 aN eh a6 az=>?_;have ei:=aq.lt;have ej:=av.lt;have em:=ax.lt;have en:=az.lt;have ep:=b6.size;have er:=bJ.size;have es:=br.size;have et:=a6.size;have aO:=((b6.trans bJ).trans br).trans a6;have aq:af aN g1 ek [Γ g]:=((aq.ext bJ).ext br).ext a6;have av:af aN b7 ai [df]:=by rw[cW.1] at av;exact (av.ext br).ext a6
 have ax:af aN b8 ek [Γ aW]:=ax.ext a6;have az:af aN b9 ai [bv]:=by rw[cX.1] at az;exact az
 refine aQ (λv ca=>v= .bool false/\aN=ca) ?_ ?_
 rotate_left
 .intro c0 bt;rw[ad Ψ (aq.Qz rfl),cC ek.u];simp only[Z0,aS];rw[ad Ψ (ax.Qz rfl),cC ek.u];exact bt _ _ ⟨rfl,rfl⟩
 rintro _ _ ⟨rfl,rfl⟩;simp only[aS];refine aQ (λv bK=>Ext aN bK/\ ∃c,v= .bool c/\(c=true↔¬(Fits s1 J/\Fits X W))) ?_ ?_
 rotate_left
 .intro c0 bt;rw[ad Ψ (aq.Qz rfl),ad Ψ (av.Qz rfl)];refine (Ar (h1.ext aO) (a2.ext aO)).mono ?_;rintro _ ca _ ⟨aP,c,rfl,a7⟩;simp only[bf,bD];refine⟨λbu=>bt _ _ ⟨aP,true,rfl,λ_ h=>?_,λ_=>rfl⟩,λcb=>?_⟩
  .have:=a7.2 h.1;rw[this] at bu;cases bu
  .have c1:c=true:=by cases c<;>simp_all
   rw[ad Ψ ((ax.ext aP).Qz rfl),ad Ψ ((az.ext aP).Qz rfl)];refine (Ar ((a1.ext aO).ext aP) ((aC.ext aO).ext aP)).mono ?_;rintro _ eu _ ⟨c2,d,rfl,cc⟩;simp only[bf];refine bt _ _ ⟨aP.trans c2,_,rfl,λh aI=>?_,λh=>?_⟩
   .have:=cc.2 aI.2;rw[this] at h;cases h
   .cases d with
    |false=>rfl
    |true=>exact absurd ⟨a7.1 c1,cc.1 rfl⟩ h
 rintro _ bK ⟨a8,c,rfl,a7⟩;have bL:=aO.trans a8;rw[bD];refine⟨λbu ev c3 _=>⟨bL.trans c3,λ_=>rfl,λh=>absurd h (a7.1 bu)⟩,λcb=>?_⟩;have ba:Fits s1 J/\Fits X W:=Classical.byContradiction λh=>by
  have:=a7.2 h;rw[cb] at this;cases this
 obtain⟨⟨ew,c4⟩,ey,c5⟩:=id ba;have ez:=cY.1;have eA:=cZ.1;rw[ad Ψ ((av.ext a8).Qz rfl),ad Ψ ((az.ext a8).Qz rfl)];refine JC (a2.ext bL) (aC.ext bL) Ω Ω λeB eC eD cd eE c6=>?_;refine uo c6.ls (by rw[u9];omega) λeF eH eI m ce eJ cg c7 c8=>?_;have c9:=cg.length_eq;rw[u9] at c9;refine (JA c8 Ω).mono ?_;rintro bw ch _ ⟨da,bM⟩;have eK:=a8.size;have eL:=cd.size;have eM:=ce.size;have ci:Ext bK ch:=(cd.trans ce).then da (by rintro r aR rfl;omega);obtain⟨dc,dd⟩:=Aq c7 (j:=m.length) (o8 _);have eN:=Ap m m.length;have aA:uw J W (dedup m m.length):=⟨dc,λx=>by rw[dd,o9,cg.mem_iff,n9]⟩;generalize dedup m m.length=vars at*;refine bp ai.i λcj eO eP ck de=>?_;refine bh ai.i bM.ls.cells.1 bM.ls.cells.2 de (by simp[x1.cells]) λcl dg eQ bb=>?_;have eR:=ci.size;have eS:=ck.size;have bO:Ext ch cl:=ck.then dg (by rintro r aR rfl;omega);have aT:=(a8.trans ci).trans bO;have bd:=aO.trans aT;have eU:=bb.lt;have cm:=bM.ls.ext bO;have bb:af cl cj ai [bw]:=bb;rw[ad Ψ (bb.Qz rfl),ad Ψ ((aq.ext aT).Qz rfl),ad Ψ ((av.ext aT).Qz rfl),ad Ψ ((ax.ext aT).Qz rfl),ad Ψ ((az.ext aT).Qz rfl)];refine (JD (h1.ext bd) (a1.ext bd) cm (a2.ext bd) (aC.ext bd) c4.up c5.up Ω).mono ?_;rintro eV eW _ ⟨be,dh,di⟩;have cn:=bd.trans be;by_cases aU:nZ s1 J X W vars
 rotate_left
 .rw[dh aU,aK (v:=.slice ν 0 0) rfl,aK (v:=.bool false) rfl];simp only[bf,X5,bQ];intro eX dj _;exact⟨cn.trans dj,λh=>absurd ba h,λ_=>⟨vars,aA,λ_=>rfl,λh=>absurd h aU⟩⟩
 obtain⟨xs,an,rfl,eY,dk⟩:=di aU;rw[aK (v:=xs) rfl,aK (v:=.bool true) rfl];simp only[bf,Y1,aS];intro aD aV _ _;have bx:=(aT.trans be).trans aV;have aX:=cn.trans aV;have aq:=aq.ext bx;have av:=av.ext bx;have ax:=ax.ext bx;have az:=az.ext bx;have dl:=(bb.ext be).ext aV;obtain⟨⟨aL,gs,cp,eZ,_⟩,_⟩:=h1.ext aX;obtain⟨⟨e0,e1,dm,e2,_⟩,_⟩:=a1.ext aX;rw[ad Ψ (aq.Qz rfl),ay,ac cU.p rfl,ad Ψ (cp.Q1 rfl),ad Ψ (ax.Qz rfl),ay,ac cU.p rfl,ad Ψ (dm.Q1 rfl)];simp only[bG,ae];refine⟨λaF e3 dn _=>⟨aX.trans dn,λh=>absurd ba h,λ_=>⟨vars,aA,λh=>absurd aU h,λ_=>⟨λ_=>rfl,λh=>absurd h aF,λh=>absurd h aF,λh=>absurd h aF⟩⟩⟩,λaF=>?_⟩;have aF:k=bm:=X4.1 aF;subst aF;rw[ad Ψ (aq.Qz rfl),ay,ac cU.p rfl,ad Ψ (cp.Q1 rfl)];have dp:=dk.ext aV;refine (qS dp.ls).mono ?_;rintro aE bg _ ⟨cq,dq,dr,_,ds⟩;have e4:=bO.size;have e5:=be.size;have e6:=aV.size;have e7:=cq.size;obtain⟨aY,e,rfl,e8,bz⟩:∃ (aY:Option Addr) (e:Int),aE= .tuple #[.pointer aY,Δ e]/\(e=0->aY≠ν)/\((e=1/\¬bS (db s1 J X W vars))\/(e=5/\bS (db s1 J X W vars)/\4096<aM (db s1 J X W vars))\/(e=0/\bS (db s1 J X W vars)/\aM (db s1 J X W vars)<=4096/\
   ∃ah Y aj,aY=σ ⟨ah,0,ν⟩/\aD.heap.size<=ah/\aD.heap.size<=Y/\(∀r,leads aj r->aD.heap.size<=r)/\cR bg ah Y aj (db s1 J X W vars) k (o7 (aM (db s1 J X W vars)).toNat 0))):=by
  by_cases I:bS (db s1 J X W vars)
  .by_cases aB:aM (db s1 J X W vars)<=4096
   .obtain⟨ah,Y,aj,dt,du,dv,dw,dx⟩:=ds I aB ⟨bo,Ω,by have:=bo.1;omega⟩;exact⟨_,_,dt,(λ_ h=>by cases h),.inr (.inr ⟨rfl,I,aB,ah,Y,aj,rfl,du,dv,dw,dx⟩)⟩
   .exact⟨_,_,dr I Ω,(λh=>Ω),.inr (.inl ⟨rfl,I,Ω⟩)⟩
  .exact⟨_,_,dq I,(λh=>Ω),.inl ⟨rfl,I⟩⟩
 rw[aK (v:=.pointer aY) rfl,aK (v:=Δ e) rfl];refine bp ek.i λcr e9 fa ct bi=>?_;refine bh ek.i rfl rfl bi (by simp[x1.cells]) λdy dz fb bi=>?_;have fc:=ct.size;have bP:Ext bg dy:=ct.then dz (by rintro r aR rfl;omega);have cu:=cq.trans bP;have dA:=aX.trans cu;have fd:=bi.lt;simp only[bG,ae];refine⟨λdC fe dD _=>⟨dA.trans dD,λh=>absurd ba h,λ_=>⟨vars,aA,λh=>absurd aU h,λ_=>⟨λh=>absurd rfl h,λ_ I=>?_,λ_ I aB=>?_,λ_ I aB=>?_⟩⟩⟩,λff=>?_⟩
 .rcases bz with⟨rfl,_⟩|⟨_,h,_⟩|⟨_,h,_⟩
  .rfl
  .exact absurd h I
  .exact absurd h I
 .rcases bz with⟨_,h⟩|⟨rfl,_⟩|⟨_,_,h,_⟩
  .exact absurd I h
  .rfl
  .omega
 .rcases bz with⟨_,h⟩|⟨_,_,h⟩|⟨h,_⟩
  .exact absurd I h
  .omega
  .exact absurd h dC
 obtain⟨bA,dE,ah,Y,aj,rfl,fg,fh,fi,bB⟩:bS (db s1 J X W vars)/\aM (db s1 J X W vars)<=4096/\
   ∃ah Y aj,aY=σ ⟨ah,0,ν⟩/\aD.heap.size<=ah/\aD.heap.size<=Y/\(∀r,leads aj r->aD.heap.size<=r)/\cR bg ah Y aj (db s1 J X W vars) k (o7 (aM (db s1 J X W vars)).toNat 0):=by
  rcases bz with⟨h,_⟩|⟨h,_⟩|⟨_,h⟩
  .omega
  .omega
  .exact h
 obtain rfl:e=0:=Ω
 have dF:(db s1 J X W vars).length=vars.length:=AC _ _ _ _ _;have fj:=prod_bound bA;obtain⟨N,bC⟩:∃N:Nat,(aM (db s1 J X W vars)).toNat=N:=⟨_,rfl⟩;rw[bC] at bB;have fk:0<N:=Ω
 have dG:=bB.ext bP;obtain⟨⟨bR,cw,cz,cA,dH⟩,⟨cB,cD,_⟩,_,fm⟩:=id dG;have fo:ah<bg.heap.size:=by obtain⟨⟨_,_,q,_⟩,_⟩:=id bB;exact q.lt
 have fp:Y<bg.heap.size:=by obtain⟨⟨_,_,_,_,q⟩,_⟩:=id bB;exact nY q Θ
 rw[ad Ψ (bi.Qz rfl),ay,ac cU.p rfl,bn (cs:=[aj]) bq.p bq.i rfl (sub cz)];refine rj.mono ?_;rintro _ bj _ ⟨aG,bE,rfl,fq,cE⟩;have fs:=bP.size;have ft:=aG.size;let S:Nat->Prop:=λr=>r=Y;let aZ:=mG s1 al J X am W vars k;have bT:aZ.length=N:=by simp only[aZ];rw[AD,bC]
 have dI:=(cm.ext be).ext aV;let dJ:x2->Prop:=λw'=>af w' g1 ek [Γ g]/\af w' b7 ai [df]/\af w' b8 ek [Γ aW]/\af w' b9 ai [bv]/\af w' cj ai [bw]/\aJ .i64 w' bw vars/\
  af w' cr ek [Γ ah]/\af w' ah cU [aj,Δ k,bR]/\cR w' g b3 sv s1 k al/\cR w' aW b4 b5 X k am/\aJ .i64 w' df J/\aJ .i64 w' bv W/\au .i64 ab w' cw aj (db s1 J X W vars)/\af w' bE bq [aj]/\bj.heap.size<=w'.heap.size
 have cG:=cu.trans aG;have bk:∀ {a:x2},ag S bj a->dJ a:=by
  intro a ap;have aH:Ext aD a:=cG.then ap (λr aR he=>by have he:r=Y:=he;omega);have bF:=aX.trans aH;exact⟨aq.ext aH,av.ext aH,ax.ext aH,az.ext aH,dl.ext aH,dI.ext aH,(bi.ext aG).aa ap (by show ¬(cr=Y);omega),(cz.ext aG).aa ap (by show ¬(ah=Y);exact cB),h1.ext bF,a1.ext bF,a2.ext bF,aC.ext bF,
   bc (cA.ext aG) ap (λr aR he=>cD ((show r=Y from he)▸aR)),cE.aa ap (by show ¬(bE=Y);omega),ap.size⟩
 have cH:=ri (g:=bE) (B0:=bj.heap.size) (sv:=aj) bA;rw[bC] at cH;refine k8.old ⟨Nat,false,jF,#[Γ bE],0,_,_,_,λq w'=>ag S bj w'/\au .i64 ao w' Y bR (upto aZ 0 q),λ_ _ _=>False,rfl,cH.s,
  ?_,λ_ _ ap h=>⟨h.1.ext ap,h.2.1.ext ap,Y9 h.2.2 ap.size⟩,λ_ _ _ ap h=>⟨h.1.trans (ap.aa S),h.2.ext ap⟩,λ_ _ _ _ _ h=>h,⟨cE,(cA.ext aG).ls,o8 _⟩,⟨ag.refl _ _,?_⟩,?_,?_,λ_ _ h=>h.elim,λ_ _ _ h=>h.elim⟩
 .rintro _ _ _ _ ⟨_,_,_,_,rfl,_⟩;rfl
 .rw[nH,bT];exact dH.ext aG
 .rintro _ aE q _ fu ⟨_,_,fv⟩ ⟨bU,rfl,fw,fx,dK,fy,cI⟩ ⟨bH,dL⟩;cases dK;let x:=cF (db s1 J X W vars) (q:Int);have cJ:x.length=vars.length:=by simp only[x];rw[h8,dF]
  intro fz dM _ _;intro fA dN _ _;have bV:=dM.trans dN;obtain⟨f1,f2,f3,f4,f5,f6,f7,f8,f9,f10,f11,f12,f13,f14,f15⟩:=bk (bH.trans (bV.aa S));rw[ad Ψ (f1.Qz rfl),ad Ψ (f5.Qz rfl),ad Ψ (f2.Qz rfl)];refine (Au (cI.ls.ext bV) f6 f11 aA.1 (λp aB=>(aA.2 p).2 (.inl aB)) cJ Ω).mono ?_;rintro fB fC _ ⟨bW,fD,fE,dO⟩;refine⟨.inl bW,?_⟩;refine (tq (f9.ext bW) dO.ls).mono ?_;rintro _ fF _ ⟨rfl,dP⟩;obtain⟨cK,dQ⟩:=ul s1 (eo x vars J) al;have dR:nu s1 (eo (cF (db s1 J X W vars) (q:Int)) vars J) al= .tuple #[Δ (cM s1 al (eo x vars J)),Δ cK]:=dQ;rw[dR,aK (v:=Δ (cM s1 al (eo x vars J))) rfl,aK (v:=Δ cK) rfl];intro fG dS _ _;have bX:=((bV.trans bW).trans dP).trans dS;obtain⟨f1,f2,f3,f4,f5,f6,f7,f8,f9,f10,f11,f12,f13,f14,f15⟩:=bk (bH.trans (bX.aa S));rw[ad Ψ (f3.Qz rfl),ad Ψ (f5.Qz rfl),ad Ψ (f4.Qz rfl)];refine (Au (cI.ls.ext bX) f6 f12 aA.1 (λp aB=>(aA.2 p).2 (.inr aB)) cJ Ω).mono ?_;rintro fH fI _ ⟨bY,fJ,fK,dT⟩;refine⟨.inl bY,?_⟩;refine (tq (f10.ext bY) dT.ls).mono ?_;rintro _ fL _ ⟨rfl,dU⟩;obtain⟨cL,dV⟩:=ul X (eo x vars W) am;have dW:nu X (eo (cF (db s1 J X W vars) (q:Int)) vars W) am= .tuple #[Δ (cM X am (eo x vars W)),Δ cL]:=dV;rw[dW,aK (v:=Δ (cM X am (eo x vars W))) rfl,aK (v:=Δ cL) rfl];intro fM dX _ _;have bZ:=((bX.trans bY).trans dU).trans dX;obtain⟨f1,f2,f3,f4,f5,f6,f7,f8,f9,f10,f11,f12,f13,f14,f15⟩:=bk (bH.trans (bZ.aa S));rw[ad Ψ (f7.Qz rfl),ay,ac cU.p rfl,ad Ψ (f8.Q2 rfl),ad Ψ (f7.Qz rfl),ay,ac cU.p rfl,ad Ψ (f8.Q1 rfl)];refine y9.mono ?_;rintro _ fN _ ⟨rfl,b0⟩;refine⟨.inl b0,?_⟩;have dY:pa (cM s1 al (eo x vars J)) (cM X am (eo x vars W)) k= .tuple #[Δ (min (cM s1 al (eo x vars J)+cM X am (eo x vars W)) k),Δ 0]:=if_pos ⟨AE bo cT,AE bo cV⟩;rw[dY,aK (v:=Δ (min (cM s1 al (eo x vars J)+cM X am (eo x vars W)) k)) rfl,aK (v:=Δ 0) rfl];have cN:=dL.ext (bZ.trans b0);have fO:(upto aZ 0 q).length=N:=by rw[oZ,bT]
  rw[gx rfl aw.u ao.i cN Ω];refine gy ao.i cN Ω λdZ ea fP cO=>?_;have cP:ag S bj dZ:=(bH.trans ((bZ.trans b0).aa S)).trans (ea.mono λr _ h=>h);obtain⟨f1,f2,f3,f4,f5,f6,f7,f8,f9,f10,f11,f12,f13,f14,f15⟩:=bk cP;have eb:aZ[q]? =σ (min (cM s1 al (eo x vars J)+cM X am (eo x vars W)) k):=by
   simp only[aZ,mG];rw[x8,List.getElem?_range (by rw[bC];exact bU)];rfl
  rw[nJ eb] at cO;exact⟨⟨f14,f13.ls,f15⟩,⟨cP,cO⟩,λh=>by cases h⟩
 .rintro q fQ bU ⟨cS,b1⟩;rw[show q=N from bU] at b1;intro fR b2 _ _;obtain⟨f1,f2,f3,f4,f5,f6,f7,f8,f9,f10,f11,f12,f13,f14,f15⟩:=bk (cS.trans (b2.aa S));rw[ad Ψ (f7.Qz rfl),ad Ψ (f5.Qz rfl)];intro fS bl _;rw[<-bT,nI] at b1;have ec:=aX.trans cG;refine⟨((ec.then cS (λr aR he=>by have he:r=Y:=he;omega)).trans b2).trans bl,λh=>absurd ba h,λ_=>⟨vars,aA,λh=>absurd aU h,λ_=>⟨λh=>absurd rfl h,λ_ h=>absurd bA h,λ_ _ h=>Ω,λ_ _ _=>⟨ah,Y,aj,bw,rfl,⟨⟨bR,cw,f8.ext bl,f13.ext bl,(b1.ext b2).ext bl⟩,⟨cB,cD,dE⟩,bA,AD _ _ _ _ _ _ _ _⟩,f6.ext bl⟩⟩⟩⟩
theorem gl.pair (h:gl l):l.Pairwise (·< ·):=V2.2 λi j hi I J=>h i j _ _ J (y0 hi) (y0 I)
theorem JF {m:Λ} (I:gl l) (hm:gl m) (h:∀x,x∈l↔x∈m):l=m:=by
 have J:l.Nodup:=I.pair.imp λh=>Ω
 have U:m.Nodup:=hm.pair.imp λh=>Ω
 exact List.Perm.eq_of_pairwise (le:=(·<= ·)) (λa b _ _ h1 V=>Int.le_antisymm h1 V) (I.pair.imp λh=>Int.le_of_lt h) (hm.pair.imp λh=>Int.le_of_lt h) ((List.perm_ext_iff_of_nodup J U).2 h)
theorem JG {vars:Λ} (h:uw l l vars) (hu:gl l):vars=l:=JF h.1 hu λx=>by rw[h.2];simp
theorem AG (h:l.Pairwise (·< ·)):gl l:=λi j x y J U V=>by
 have h1:=x4.1 U;have I:=x4.1 V;have:=V2.1 h i j h1.1 I.1 J;rw[h1.2,I.2] at this;exact this
theorem JH {x:Λ} (hu:l.Nodup) (h:x.length=l.length):eo x l l=x:=by
 refine X8 λi=>?_;unfold eo;cases I:l[i]? with
 |none=>rw[x8,I,Y4 (by have:=List.getElem?_eq_none_iff.1 I;omega)];rfl
 |some v=>
  have hi:=(x4.1 I).1;rw[x8,I,Y0,pr hu I,u5,y0 (show i<x.length by omega)];rfl
theorem AH {s:Λ} (hu:gl l) (h:s.length=l.length):db s l s l l=s:=by
 refine X8 λi=>?_;unfold db;cases I:l[i]? with
 |none=>rw[x8,I,Y4 (by have:=List.getElem?_eq_none_iff.1 I;omega)];rfl
 |some v=>
  have hi:=(x4.1 I).1;rw[x8,I,Y0,As hu I,Int.max_self,y0 (show i<s.length by omega)];unfold gS;rw[if_pos Ω,u5,j0,y0 (show i<s.length by omega)];rfl
theorem JI {s b:Λ} (hu:l.Pairwise (·< ·)) (h:s.length=l.length) (I:dN s) (J:a.length=(aM s).toNat) (U:b.length=(aM s).toNat):mG s a l s b l l k=dF k a b:=by
 have V:l.Nodup:=hu.imp λh=>Ω
 unfold mG;rw[AH (AG hu) h,Iv I J U];apply List.map_congr_left;intro q _;rw[JH V (by rw[h8,h])]
theorem JJ {s b:Λ} (hu:l.Pairwise (·< ·)) (ac:∀x∈l,0<=x) (h:s.length=l.length) (I:bS s) (ad:aM s<=4096) (ae:a.length=(aM s).toNat) (af:b.length=(aM s).toNat) (U:AF w s a l s b l k k v w'):
  Ext w w'/\ ∃J V W X,v= .tuple #[Γ J,X,Δ 0]/\cR w' J V W s k (dF k a b):=by
 obtain⟨ag,_,U⟩:=U;have Y:=AG hu;have aa:Fits s l:=⟨h.symm,I9 Y ac⟩;obtain⟨vars,ah,_,ai⟩:=U ⟨aa,aa⟩;have aj:=JG ah Y;subst aj;obtain⟨_,_,_,ab⟩:=ai λp al am an=>rfl;rw[AH Y h,JI hu h I.2 ae af] at ab;obtain⟨J,V,W,X,rfl,ak,_⟩:=ab rfl I ad;exact⟨ag,J,V,W,X,rfl,ak⟩
theorem JK {s:Λ} (I:dN s):(bm s).Nodup:=(Ai I).imp λ{a b} h he=>by subst he;omega
theorem JL {s:Λ} {i:Nat} (I:dN s) (hi:(bm s)[i]? =σ t) (J:(bm s)[j]? =σ t):i=j:=ji (JK I) hi J
theorem JM {s:Λ} (I:dN s) (h:c6 s t):∃j:Nat,(bm s)[j]? =σ t:=Y7.1 ((Ah I).2 h)
theorem rP {g:Nat} {d:List (x1×x1)} (h:af w g e cs) (hm:cS w m d) (I:ag (λr=>r=m) w w'):af w' g e cs:=h.aa I (λhe=>rF h hm he)
theorem AI {g:Nat} {k:o6} {d:List (x1×x1)} (h:au k e w g v l) (hm:cS w m d) (I:ag (λr=>r=m) w w'):au k e w' g v l:=bc h I (λ_ J he=>Ak h hm J he)
def rQ (cs:Λ) (o:Int):Prop:=o∈cs/\ ∀d∈cs,cs.count d<cs.count o\/(cs.count d=cs.count o/\o<=d)
theorem JN {i:Nat} {x:Int} (h:l[i]? =σ x) (y:Int):(l.take (i+1)).count y=(l.take i).count y+if y=x then 1 else 0:=by
 rw[r8,h,List.count_append];congr 1;simp only[Z4,List.count_singleton];by_cases I:y=x
 .subst I;simp
 .rw[if_neg I,if_neg (by simpa using λh=>I h.symm)]
def fS (p:Int×Int):x1×x1:=(Δ p.1,Δ p.2)
theorem px:Keys x3 ao λv=>∃n,v=Δ n:=Keys.int ao.u
theorem py (E:List (Int×Int)):∀p∈E.map fS,∃n,p.1=Δ n:=λp I=>by
 obtain⟨q,_,rfl⟩:=Z1.1 I;exact⟨_,rfl⟩
def ux (cs:Λ) (E:List (Int×Int)):Prop:=(∀x,x∈E.map (·.1)↔x∈cs)/\ ∀p∈E,p.2=(cs.count p.1:Nat)
theorem AJ {cs:Λ} {E:List (Int×Int)} (h:ux cs E) {x:Int} (J:x∈cs):∃j:Nat,E[j]? =σ (x,((cs.count x:Nat):Int)):=by
 obtain⟨p,I,rfl⟩:=Z1.1 ((h.1 x).2 J);obtain⟨j,U⟩:=Y7.1 I;exact⟨j,by rw[U,<-h.2 p I]⟩
theorem AK {aW:x1} {cs:Λ} (h:aJ .i64 w aW cs) (aX:cs≠[]) (bB:cs.length<=1000000):ak x3 qI [aW] w λv w'=>Ext w w'/\ ∃o,v=Δ o/\rQ cs o:=by
 refine aB func263 ?_;refine aA.dv (rl λm U hm az be bC=>?_);rw[aT aw.u (h.ext az)];refine bP.range cs.length (λi V=>ag (λr=>r=m) U V/\ ∃E,cS V m (E.map fS)/\ux (cs.take i) E) Ω ⟨ag.refl _ _,[],be,by simp[ux]⟩ ?_ ?_
 .rintro i V bf hi ⟨ah,E,aa,W⟩ aY;obtain⟨x,aC⟩:∃x,cs[i]? =σ x:=⟨_,y0 hi⟩;have ai:Ext w V:=az.then ah (λr ad he=>by have he:r=m:=he;omega);have bg:∀y,(cs.take i).count y<=1000000:=λy=>by
   have:=List.count_le_length (a:=y) (l:=cs.take i);rw[o4] at this;omega
  refine Υ λ_=>?_;rw[bd aw.u ao.i Ψ (h.ext ai) aC];have au:=JN aC;have aZ:∀y,y∈cs.take (i+1)↔y∈cs.take i\/y=x:=λy=>by
   rw[r8,aC];simp
  by_cases aj:x∈cs.take i
  .obtain⟨j,aD⟩:=AJ W aj;have av:(E.map fS)[j]? =σ (Δ x,Δ (((cs.take i).count x:Nat):Int)):=by rw[x8,aD];rfl
   rw[pc ku.u px aa (py E) ⟨_,rfl⟩ av];simp only[Bool.false_eq_true,if_false];have:=bg x;rw[aN,wrap_i64 Ω Ω];refine aA.dv (pd ku.u px aa (py E) ⟨_,rfl⟩ (λal v0 aE aF am aG bh=>?_) (λaE ax=>absurd rfl (ax _ (x5 av))));have bi:al=j:=aa.uniq aF av rfl;subst bi;rw[aN];have aH:(E.map fS).set al (Δ x,Δ ((((cs.take i).count x:Nat):Int)+1))=(E.set al (x,(((cs.take i).count x:Nat):Int)+1)).map fS:=by rw[T2];rfl
   rw[aH] at am;have bj:=(x4.1 aD).1;refine aY _ ⟨ah.trans aG,_,am,λy=>?_,λp I=>?_⟩
   .rw[T2,nK (by rw[x8,aD];rfl),W.1,aZ];exact⟨.inl,λh=>h.elim id (λh=>h▸aj)⟩
   .obtain⟨q,X⟩:=Y7.1 I;by_cases aI:al=q
    .subst aI;rw[V9 bj] at X;cases X;show _=(((cs.take (i+1)).count x:Nat):Int);rw[au,if_pos rfl];omega
    .rw[W8 aI] at X;have aL:p.1≠x:=λhe=>aI (aa.uniq av (show (E.map fS)[q]? =σ (fS p) by rw[x8,X];rfl) (by rw[fS,he]));rw[W.2 p (x5 X),au,if_neg aL,Nat.add_zero]
  .have ax:∀p∈E.map fS,p.1≠V4 .i64 x:=λp I he=>by
    obtain⟨q,X,rfl⟩:=Z1.1 I;have:q.1=x:=by simpa[fS] using he
    exact aj ((W.1 x).1 (Z1.2 ⟨q,X,this⟩))
   rw[rm ku.u px ⟨_,_,ab.i⟩ aa (py E) ⟨_,rfl⟩ ax];simp only[Bool.false_eq_true,if_false];rw[aN,wrap_i64 Ω Ω];refine aA.dv (pd ku.u px aa (py E) ⟨_,rfl⟩ (λal v0 aE aF=>absurd rfl (ax _ (x5 aF))) (λaE _ am aG bh=>?_));rw[aN];have aH:E.map fS++[(V4 .i64 x,V4 .i64 (0+1))]=(E++[(x,1)]).map fS:=by rw[Z3];rfl
   rw[aH] at am;have bl:(cs.take i).count x=0:=List.count_eq_zero.2 aj;refine aY _ ⟨ah.trans aG,_,am,λy=>?_,λp I=>?_⟩
   .rw[Z3,n9,W.1,aZ];simp
   .rcases n9.1 I with I|I
    .have aL:p.1≠x:=λhe=>aj ((W.1 x).1 (Z1.2 ⟨p,I,he⟩));rw[W.2 p I,au,if_neg aL,Nat.add_zero]
    .rw[j4.1 I];show (1:Int)=(((cs.take (i+1)).count x:Nat):Int);rw[au,if_pos rfl,bl];rfl
 rintro V bf ⟨ah,E,aa,W⟩;rw[o9] at W;have ai:Ext w V:=az.then ah (λr ad he=>by have he:r=m:=he;omega);rw[aq,ae];refine⟨λh=>Ω,λ_=>?_⟩;refine (G8 (h.ext ai) aX).mono ?_;rintro _ bm bE ⟨rfl,aM⟩;have bF:=ai.size;have bG:=aM.size;refine aA.dv (zb ku.u (aa.ext aM) λan bH bI bn bJ bo bK=>?_);refine⟨λea af=>∃b ac Y left a1,ea=Δ b/\b∈cs/\Ext bm af/\gB af an m (E.map fS) left a1/\left=Y.map fS/\(ac++Y).Perm E/\ ∀p∈ac,cs.count p.1<cs.count b\/(cs.count p.1=cs.count b/\b<=p.1),λ_ af=>nS af an,
  ⟨tH cs,[],E,E.map fS,ν,rfl,(GJ aX).1,bn,bo,rfl,List.Perm.refl _,λp I=>by cases I⟩,?_⟩
 rintro _ af ⟨b,ac,Y,left,a1,rfl,aO,aP,a2,rfl,ay,aR⟩;refine zd a2 (λ_=>by show w.heap.size<=an;omega) (λbp=>?_) (λj p aU I a6 bL ap=>?_)
 .rw[aK (v:=.bool false) rfl,aS];have:Y=[]:=List.map_eq_nil_iff.1 bp;subst this;rw[X6] at ay;refine⟨(ai.trans aM).trans aP,b,rfl,aO,λd bq=>?_⟩;obtain⟨q,X,rfl⟩:=Z1.1 ((W.1 d).2 bq);exact aR q (ay.mem_iff.2 X)
 .rw[aK (v:=.bool true) rfl,bQ];refine ze ap ?_;obtain⟨q,X,rfl⟩:∃q,Y[j]? =σ q/\fS q=p:=by
   rw[x8] at I;exact X0.1 I
  have a7:q∈E:=ay.mem_iff.1 (n9.2 (.inr (x5 X)));have bM:=W.2 q a7;have br:q.1∈cs:=(W.1 q.1).1 (Z1.2 ⟨q,a7,rfl⟩);obtain⟨bt,bu⟩:=AJ W aO;have bw:(E.map fS)[bt]? =σ (Δ b,Δ ((cs.count b:Nat):Int)):=by rw[x8,bu];rfl
  rw[aK (v:=Δ q.1) rfl,aK (v:=Δ q.2) rfl];have a8:(ac++[q]++Y.eraseIdx j).Perm E:=by
   refine List.Perm.trans ?_ ay;rw[X1];exact List.Perm.append_left ac (tW X)
  have ba:nS aU an<nS af an:=by
   rw[rr ap,rr a2];have:=zr (x4.1 I).1;omega
  refine aQ (λv bx=>aU=bx/\ ∃r:Bool,v= .bool r/\(r=true↔(cs.count b<cs.count q.1\/(cs.count q.1=cs.count b/\q.1<b)))) ?_ ?_
  .rintro _ _ ⟨rfl,r,rfl,ad⟩;rw[bD];refine⟨λbz=>?_,λbb=>?_⟩
   .have ad:=ad.1 bz;refine⟨⟨q.1,ac++[q],Y.eraseIdx j,_,_,rfl,br,aP.trans a6,ap,(ly fS Y j),a8,λp I=>?_⟩,ba⟩;rcases n9.1 I with I|I
    .have:=aR p I;omega
    .rw[j4.1 I];exact .inr ⟨rfl,Int.le_refl _⟩
   .have ad:¬(cs.count b<cs.count q.1\/(cs.count q.1=cs.count b/\q.1<b)):=λh=>by rw[ad.2 h] at bb;cases bb
    refine⟨⟨b,ac++[q],Y.eraseIdx j,_,_,rfl,aO,aP.trans a6,ap,(ly fS Y j),a8,λp I=>?_⟩,ba⟩;rcases n9.1 I with I|I
    .exact aR p I
    .rw[j4.1 I];omega
  .intro bN aV;have bc:∀K:x1->Prop,J x3 (Instr.lookup ku (.map (σ m)) (Δ b) false) aU K=K (Δ ((cs.count b:Nat):Int)):=λK=>by
    rw[pc ku.u px ap.map (py E) ⟨_,rfl⟩ bw];simp
   rw[bc,bR,ae];refine⟨λh1=>aV _ _ ⟨rfl,true,rfl,⟨λ_=>.inl Ω,λ_=>rfl⟩⟩,λh1=>?_⟩;rw[bc,bk,ae];refine⟨λbA=>?_,λbA=>aV _ _ ⟨rfl,false,rfl,⟨λh=>(by cases h),λh=>Ω⟩⟩⟩;rw[aq];refine aV _ _ ⟨rfl,_,rfl,?_⟩;rw[decide_eq_true_eq];omega
theorem JO {g J:Nat} {k:o6} {U:r9} (h:au k e w g v l) (V:af w J U cs) (X:e≠U) {r:Nat} (W:leads v r):r≠J:=by
 obtain⟨rfl,_⟩:=bA h W;obtain⟨_,⟨rfl,_⟩|⟨_,_,_,I,_⟩⟩:=h
 .obtain⟨a,n,c,h,_⟩:=W;cases h
 .rintro rfl;unfold af at V I;rw[V] at I;injection I with h1;injection h1 with aa Y;exact X Y.symm
def JP (w:x2) (szs:Λ) (k:Int) (cs:Λ) (v:x1) (w':x2):Prop:=Ext w w'/\ ∃g m o D,v=Γ g/\en w' g m szs k o D/\D.length<=(aM szs).toNat/\ho szs (hl D o) cs/\rQ cs o
theorem JQ {g b9:Nat} {cs:Λ} (h:cR w g b9 sv szs k cs) (be:∀c∈cs,cQ c k):ak x3 EG [Γ g] w (JP w szs k cs):=by
 obtain⟨⟨aL,gs,bF,hm,cP⟩,⟨_,_,bG⟩,I,aX⟩:=id h;have cS:=prod_bound I;have cT:=I.1;have bH:cs≠[]:=λhe=>by rw[he] at aX;simp at aX;omega
 refine lk func221 ?_;rw[cC ek.u];simp only[Z0,aS];refine (lx h).mono ?_;rintro au V _ ⟨aC,cU,cV,bf⟩;refine bp aw.i λaN cW cX bI bJ=>?_;have cY:=bJ.lt;refine bh aw.i bf.ls.cells.1 bf.ls.cells.2 bJ (by simp[x1.cells]) λaY ca cZ aZ=>?_;have aZ:af aY aN aw [au]:=aZ;have c0:=aC.size;have c1:=bI.size;have bK:Ext V aY:=bI.then ca (λr av he=>by have he:r=aN:=he;omega);have bL:=bf.ext bK;have aO:=aC.trans bK;refine aQ (λu a1=>∃W ah m o ax ay,u=Γ W/\Ext aY a1/\af a1 W ey [Γ ah]/\aY.heap.size<=m/\e7 a1 ah m ax ay szs k o []/\rQ cs o) ?_ ?_
 .rintro _ a1 ⟨W,ah,m,o,ax,ay,rfl,aP,X,c2,al,an⟩;have cb:=h.ext (aO.trans aP);have cc:=aZ.ext aP;have cd:=bL.ext aP;refine (my cb).mono ?_;rintro _ c3 _ ⟨rfl,ce⟩;refine rj.mono ?_;rintro _ bg _ ⟨cg,bM,rfl,c4,bN⟩;have aD:=ce.trans cg;have bO:=al.ext aD;have ch:=cc.ext aD;have bP:=X.ext aD;have ci:=cd.ext aD;have bQ:=hm.ext ((aO.trans aP).trans aD);have aF:=bO.2.2.1;have cj:=(aO.trans aP).trans aD;have c5:=aO.size;have ck:=ri (g:=bM) (B0:=bg.heap.size) (sv:=sv) I;refine k8.old ⟨Nat,false,jF,#[Γ bM],_,_,_,_,λi w'=>ag (λr=>r=m) bg w'/\ ∃D,D.length<=i/\e7 w' ah m ax ay szs k o D/\ ∀ (j:Nat) t,(bm szs)[j]? =σ t->hl D o t=if j<i then cM szs cs t else o,λ_ _ _=>False,rfl,ck.s,
   ?_,λ_ _ aG h=>⟨h.1.ext aG,h.2.1.ext aG,Y9 h.2.2 aG.size⟩,λ_ _ _ aG ⟨h1,D,cl,cm,bG⟩=>⟨h1.trans (aG.aa _),D,cl,cm.ext aG,bG⟩,λ_ _ _ _ _ h=>h,⟨bN,bQ.ls,o8 _⟩,⟨ag.refl _ _,[],o8 _,bO,λj t _=>by rw[if_neg Ω];rfl⟩,?_,?_,λ_ _ h=>h.elim,λ_ _ _ h=>h.elim⟩
  .rintro _ _ _ _ ⟨_,_,_,_,rfl,_⟩;rfl
  .rintro _ aE i _ cn ⟨c7,c8,cp⟩ ⟨hi,rfl,c9,da,cq,db,ai⟩ ⟨a2,D,bR,bi,bj⟩;cases cq;have bk:(bm szs)[i]? =σ (cF szs (i:Int)):=nG I.2 Ω;have cr:c6 szs (cF szs (i:Int)):=tI I.2 hi;generalize cF szs (i:Int)=t at*;have bS:=IC I.2 aX bk;intro ct a6 _ _;intro cu cw _ _;have a7:=a6.trans cw;have a8:ag (λr=>r=m) bg cu:=a2.trans (a7.aa _);rw[ad Ψ ((rP bP aF a8).Qz rfl),ad Ψ ((rP ch aF a8).Qz rfl),bd aw.u ao.i Ψ (AI ci aF a8).ls bS];have bn:=bi.ext a7;refine (zp bn.is (ai.ext a7).ls (c:=cM szs cs t)).mono ?_;rintro _ dc _ ⟨_,cz⟩;obtain⟨rfl,bo,cA,bT,bU⟩:=cz ⟨cr,be _ (x5 bS)⟩;have bq:=a8.trans bo;have dd:=bT.2;refine⟨⟨rP bN aF bq,(AI bQ aF bq).ls,Y9 cp (Y9 a7.size bo.size)⟩,⟨bq,cA,Ω,bn.put bo bU,λj s az=>?_⟩,λh=>by cases h⟩;rw[bT.cost bn.is.nodup bU.nodup];by_cases bV:j=i
   .subst bV;rw[bk] at az;cases az;rw[if_pos rfl,if_pos Ω]
   .rw[if_neg (λ(he:s=t)=>bV (JL I.2 (by rw[<-he];exact az) bk)),bj j s az];by_cases h1:j<i
    .rw[if_pos h1,if_pos Ω]
    .rw[if_neg h1,if_neg Ω]
  .rintro i cn rfl ⟨a2,D,bR,bi,bj⟩;rw[ad Ψ ((rP bP aF a2).Qz rfl)];intro ct a6 _;refine⟨(cj.then a2 (λr av he=>by have he:r=m:=he;omega)).trans a6,ah,m,o,D,rfl,bi.is.ext a6,bR,⟨aX,λt cB=>?_⟩,an⟩;obtain⟨j,az⟩:=JM I.2 cB;have:=(x4.1 az).1;rw[hd I.2] at this;rw[bj j t az,if_pos this]
 intro ba bW;intro aj aR _ _;have br:=aO.trans aR;have bX:=aR;have bb:=h.ext br;have bY:=bL.ext aR;have de:=aR.size;rw[ad Ψ ((aZ.ext aR).Qz rfl)];have bZ:∀ {W:Nat} {w':x2} {aE:x1} {o:Int},Ext aj w'->aj.heap.size<=W->(∃Y,af w' W ey [Y])->aJ .i64 w' aE szs->rQ cs o->
   ak x3 ni [aE,Δ k,Δ o] w' λam ac=>J x3 (Z9 am 0) ac λaB=>J x3 (Z9 am 1) ac λ_=>aA x3 (o5 ey (Γ W) aB) ac λ(_:Unit) ap=>ba (Γ W) ap:=by
  rintro W w' aE o ae ab ⟨Y,X⟩ ai an;refine (zj ai).mono ?_;rintro _ ac _ ⟨bt,_,_,bu⟩;obtain⟨ah,m,rfl,cD,cE,al⟩:=bu I (be _ an.1);obtain⟨ax,ay,al⟩:=al.at;rw[aK (v:=Γ ah) rfl,aK (v:=Δ 0) rfl];have cG:=X.lt;have s':=ae.size;refine bh ey.i rfl rfl (X.ext bt) Ξ λap b0 df cH=>?_;refine bW _ _ ⟨W,ah,m,o,ax,ay,rfl,((bX.trans ae).trans bt).then b0 (λr av he=>by have he:r=W:=he;omega),cH,Ω,al.aa b0 (λhe=>by have he:ah=W:=he;omega) (λhe=>by have he:m=W:=he;omega) (λr av he=>?_),an⟩;exact JO al.2.1 (X.ext bt) Φ av he
 have b1:∀ {W:Nat} {w':x2} {aE:x1},Ext aj w'->aj.heap.size<=W->(∃Y,af w' W ey [Y])->aJ .i64 w' aE szs->
   ak x3 qI [au] w' λaT V=>ak x3 ni [aE,Δ k,aT] V λam ac=>J x3 (Z9 am 0) ac λaB=>J x3 (Z9 am 1) ac λ_=>aA x3 (o5 ey (Γ W) aB) ac λ(_:Unit) ap=>ba (Γ W) ap:=by
  rintro W w' aE ae ab ⟨Y,X⟩ ai;refine (AK (bY.ext ae).ls bH Ω).mono ?_;rintro _ V _ ⟨aC,o,rfl,an⟩;exact bZ (ae.trans aC) ab ⟨Y,X.ext aC⟩ (ai.ext aC) an
 have b2:∀ {W:Nat} {w':x2} {aE:x1},Ext aj w'->aj.heap.size<=W->(∃Y,af w' W ey [Y])->aJ .i64 w' aE szs->
   ak x3 s6 [Γ g] w' λbw U=>(Ext aj U\/bl x3 (x6 aw (Γ aN)) au U/\True)/\
    ak x3 qI [au] U λaT V=>ak x3 ni [aE,bw,aT] V λam ac=>J x3 (Z9 am 0) ac λaB=>J x3 (Z9 am 1) ac λ_=>aA x3 (o5 ey (Γ W) aB) ac λ(_:Unit) ap=>ba (Γ W) ap:=by
  rintro W w' aE ae ab ⟨Y,X⟩ ai;refine (tQ (bb.ext ae)).mono ?_;rintro _ U _ ⟨rfl,aq⟩;exact⟨.inl (ae.trans aq),b1 (ae.trans aq) ab ⟨Y,X.ext aq⟩ (ai.ext aq)⟩
 have b3:szs.length<=1000:=Ω
 have b4:∀ {W:Nat} {w':x2},Ext aj w'->aj.heap.size<=W->(∃Y,af w' W ey [Y])->
   ak x3 w7 [.agg #[sv]] w' λcI w0=>(Ext aj w0\/bl x3 (x6 aw (Γ aN)) au w0/\True)/\
    ak x3 s6 [Γ g] w0 λbw U=>(Ext aj U\/bl x3 (x6 aw (Γ aN)) au U/\True)/\
    ak x3 qI [au] U λaT V=>ak x3 ni [cI,bw,aT] V λam ac=>J x3 (Z9 am 0) ac λaB=>J x3 (Z9 am 1) ac λ_=>aA x3 (o5 ey (Γ W) aB) ac λ(_:Unit) ap=>ba (Γ W) ap:=by
  rintro W w' ae ab ⟨Y,X⟩;refine (tR (hm.ext (br.trans ae)).ls b3).mono ?_;rintro aE U _ ⟨aq,_,_,ai⟩;exact⟨.inl (ae.trans aq),b2 (ae.trans aq) ab ⟨Y,X.ext aq⟩ ai.ls⟩
 have aU:∀ {w':x2} {R:x1->x2->Prop},Ext aj w'->(∀W aV,aj.heap.size<=W->Ext w' aV->(∃Y,af aV W ey [Y])->R (Γ W) aV)->aA x3 (S7 ey true (.tuple #[])) w' R:=λ{w'} {R} ae cJ=>by
  have:=ae.size;exact bp ey.i λW aV ab cK bF=>cJ W aV Ω cK ⟨_,bF⟩
 refine⟨?_,aU (Ext.refl _) λW dg ab bc X=>⟨.inl bc,?_⟩⟩
 rotate_left
 .refine (my (bb.ext bc)).mono ?_;rintro _ dh _ ⟨rfl,bx⟩;obtain⟨Y,X⟩:=X;exact⟨.inl (bc.trans bx),b4 (bc.trans bx) ab ⟨Y,X.ext bx⟩⟩
 refine (my bb).mono ?_;rintro _ di _ ⟨rfl,aH⟩;refine⟨.inl aH,?_,aU aH λW dj ab b5 X=>⟨.inl (aH.trans b5),b4 (aH.trans b5) ab X⟩⟩;refine (tR (hm.ext (br.trans aH)).ls b3).mono ?_;rintro aE dk _ ⟨cL,_,_,ai⟩;have aI:=aH.trans cL;refine⟨.inl aI,?_,aU aI λW dl ab bz X=>⟨.inl (aI.trans bz),b2 (aI.trans bz) ab X (ai.ext bz).ls⟩⟩;refine (tQ (bb.ext aI)).mono ?_;rintro _ dm _ ⟨rfl,bA⟩;have aM:=aI.trans bA;refine⟨.inl aM,?_,aU aM λW dn ab bB X=>⟨.inl (aM.trans bB),b1 (aM.trans bB) ab X ((ai.ext bA).ext bB).ls⟩⟩;refine (AK (bY.ext aM).ls bH Ω).mono ?_;rintro _ dp _ ⟨b6,o,rfl,an⟩;have aW:=aM.trans b6;have b7:=(ai.ext bA).ext b6;refine⟨?_,aU aW λW dq ab bC X=>⟨.inl (aW.trans bC),bZ (aW.trans bC) ab X (b7.ext bC).ls an⟩⟩;refine (zj b7.ls).mono ?_;rintro _ dr _ ⟨cN,_,_,bu⟩;obtain⟨ah,m,rfl,cD,cE,al⟩:=bu I (be _ an.1);obtain⟨ax,ay,al⟩:=al.at;rw[aK (v:=Γ ah) rfl,aK (v:=Δ 0) rfl];have bD:=aW.trans cN;refine bp ey.i λW ds ab bE X=>?_;refine⟨.inl (bD.trans bE),?_⟩;have cG:=X.lt;obtain⟨dt,du,t3⟩:=al.o3;have dv:=aW.size;have dw:=bD.size;refine bh ey.i rfl rfl X (by simp[x1.cells]) λdx b8 dy cO=>?_;exact bW _ _ ⟨W,ah,m,o,ax,ay,rfl,((bX.trans bD).trans bE).then b8 (λr av he=>by have he:r=W:=he;omega),cO,Ω,(al.ext bE).aa b8 (λhe=>by have he:ah=W:=he;omega) (λhe=>by have he:m=W:=he;omega) (λr av he=>by have he:r=W:=he;have:=t3 r av;omega),an⟩
theorem AL {acc:List cw} {g:cw} (h:∀x∈acc,x.1≠g.1):hj k acc g=acc++[g]:=by
 unfold hj;rw[if_neg];intro hm;obtain⟨x,I,he⟩:=Z1.1 hm;exact h x I he
theorem JR {acc:List cw} {g h:cw} {i:Nat} (J:hP acc) (hi:acc[i]? =σ h) (he:h.1=g.1):hj k acc g=acc.set i (h.1,dF k h.2 g.2):=by
 have U:=(x4.1 hi).1;unfold hj;rw[if_pos (Z1.2 ⟨h,x5 hi,he⟩)];refine X8 λj=>?_;rw[x8,X7];by_cases I:i=j
 .subst I;rw[hi,Y0,if_pos he,if_pos rfl,if_pos U]
 .rw[if_neg I];cases V:acc[j]? with
  |none=>rfl
  |some y=>
   have:y.1≠g.1:=λW=>I (by
    have h1:(acc.map (·.1))[i]? =σ g.1:=by rw[x8,hi,Y0,he]
    have X:(acc.map (·.1))[j]? =σ g.1:=by rw[x8,V,Y0,W]
    exact ji J h1 X)
   rw[Y0,if_neg this]
theorem JS {α β:Type} {f:β->α->β} {b:β} {l:List α} {i:Nat} {x:α} (h:l[i]? =σ x):(l.take (i+1)).foldl f b=f ((l.take i).foldl f b) x:=by
 rw[r8,h,Z4,List.foldl_append];rfl
def lB (w:x2) (k:Int) (sizes:Λ) (x:cA):Prop:=(∃I,au .i64 ab w I x.sv x.sc)/\ ∃m o D,en w x.g m (bF sizes x.sc) k o D/\D.length<=4096/\ho (bF sizes x.sc) (hl D o) x.cs
theorem lB.ext {x:cA} (h:lB w k sizes x) (I:Ext w w'):lB w' k sizes x:=by
 obtain⟨⟨J,h1⟩,m,o,D,U,V⟩:=h;exact⟨⟨J,h1.ext I⟩,m,o,D,U.ext I,V⟩
theorem lB.aa {x:cA} (h:lB w k sizes x) (X:ag S w w') (V:∀r,S r-> ∃e c,af w r e c/\e≠e1/\e≠ab):lB w' k sizes x:=by
 obtain⟨⟨ad,h1⟩,m,o,D,ae,ah⟩:=h;obtain⟨sv,gs,U⟩:=ae.at;have Y:∀ {g:Nat} {v:x1} {l:Λ},au .i64 ab w g v l-> ∀r,leads v r->¬S r:=λhm r ai I=>by
  obtain⟨e,c,J,_,W⟩:=V r I;exact bX hm J (λhe=>W he.symm) ai rfl
 refine⟨⟨ad,bc h1 X (Y h1)⟩,m,o,D,(U.aa X (λI=>?_) (λI=>?_) (Y U.2.1)).is,ah⟩
 .obtain⟨e,c,J,W,_⟩:=V _ I;have ac:=U.1;unfold af at ac J;rw[ac] at J;exact W (Obj.cells.inj (Z8 J)).2.1.symm
 .obtain⟨e,c,J,_,_⟩:=V _ I;exact rF J U.2.2.1 rfl
def pz (w:x2) (g:Nat) (v:x1) (k:Int) (sizes:Λ) (L:List cA):Prop:=a6 ep 2 cn w g v L/\ ∀x∈L,lB w k sizes x
theorem pz.ext {g:Nat} {L:List cA} (h:pz w g v k sizes L) (I:Ext w w'):pz w' g v k sizes L:=⟨h.1.ext I,λx J=>(h.2 x J).ext I⟩
def JT (w:x2) (J:Nat) (f:b2):Prop:=∃av I U g L,af w J cr [bz f.name,Δ f.k,av,I]/\au .i64 ab w U av f.sizes/\pz w g I f.k f.sizes L/\L.map dH=e4 f
theorem JU {g ah:Nat} {L:List cA} {Y:Λ} (h:eL w g v L) (al:af w ah ai [sv]) (I:aJ .i64 w sv Y):
  ak x3 xg [v,.func (.func xh) #[] #[Γ ah]] w λr w'=>Ext w w'/\((r=Δ (-1)/\ ∀x∈L,x.sc≠Y)\/ ∃i:Nat,r=Δ (i:Int)/\ ∃x,L[i]? =σ x/\x.sc=Y):=by
 refine aB func211 ?_;rw[c9 ft.u h.1];refine bE.range L.length (λi _ U=>Ext w U/\ ∀x∈L.take i,x.sc≠Y) h.1.le ⟨Ext.refl _,λc J=>by simp at J⟩ ?_ ?_
 .rintro i _ U k hi ⟨W,aa⟩ am;refine Υ λ_=>?_;obtain⟨x,ab⟩:∃x,L[i]? =σ x:=⟨_,y0 hi⟩;rw[rM rfl (h.ext W) ab];show ak x3 xh [iH x,Γ ah] U _;obtain⟨⟨ap,hm⟩,_⟩:=(h.ext W).at ab;refine aB func212 ?_;refine bN λan V au X ag=>?_;have ag:af V an cL [x.sv,Γ x.g]:=by
   obtain⟨_,_,_,e⟩:=bZ hm.ls;simp only[iH,ep,e] at ag ⊢;exact ag
  rw[ac cL.p rfl,ad Ψ (ag.Q0 rfl),ad Ψ ((al.ext (W.trans X)).Qz rfl)];refine (kE (hm.ls.ext X) (I.ext (W.trans X))).mono ?_;rintro _ av _ ⟨rfl,aj⟩;rw[ae];refine⟨λhe=>⟨(W.trans X).trans aj,.inr ⟨i,rfl,x,ab,he⟩⟩,λao=>?_⟩;rw[aN];refine am _ _ ⟨(W.trans X).trans aj,λc J=>?_⟩;rw[r8,ab] at J;rcases n9.1 J with J|J
  .exact aa c J
  .simp at J;subst J;exact ao
 .rintro _ U k ⟨W,aa⟩;rw[o9] at aa;rw[aq,ae];exact⟨λh=>Ω,λ_=>⟨W,.inl ⟨rfl,aa⟩⟩⟩
def er (f:b2) (i:Nat):List cw:=((f.funs.take i).map (gR f.sizes f.k)).foldl (hj f.k) []
theorem AM {f:b2} (I:eQ N f) (i:Nat):(∀g∈er f i,e6 f.sizes f.k g)/\hP (er f i)/\(er f i).length<=i:=by
 have:=ui (sizes:=f.sizes) (k:=f.k) (by have:=I.k.1;omega) (l:=(f.funs.take i).map (gR f.sizes f.k)) (acc:=[]) (λh aI=>by cases aI) List.nodup_nil λg U=>by
  obtain⟨x,V,rfl⟩:=Z1.1 U;exact nW I (U3 V)
 refine⟨this.1,this.2.1,?_⟩;have J:=this.2.2;rw[List.length_nil,u4,V3,o4] at J;exact Y9 J (Nat.min_le_left _ _)
theorem uy {f:b2} {i:Nat} {x:cg} (h:f.funs[i]? =σ x):er f (i+1)=hj f.k (er f i) (gR f.sizes f.k x):=by
 unfold er;rw[r8,h,Z4,Z3,List.foldl_append];rfl
theorem AN (f:b2):er f f.funs.length=eV f:=by unfold er eV;rw[o9]
theorem uz {L:List cA} {i:Nat} {x:cA} {D:List cw} (h:L.map dH=D) (I:L[i]? =σ x):dH x∈D:=by rw[<-h];exact Z1.2 ⟨x,x5 I,rfl⟩
def JV (w:x2) (f:b2) (v:x1) (w':x2):Prop:=Ext w w'/\((¬kM f.funs<=16384/\ ∃e:Int,e≠0/\v= .tuple #[.pointer ν,Δ e])\/ ∃I,v= .tuple #[Γ I,Δ 0]/\JT w' I f)
end Go.Proofs.YtgbkinibgjmodaaGreatDoor
