/- own texts, made small by a tool (wip/ holds them as they were written): no statement of the seat. -/
import Derived.Test.YthjegppepbbojaaGreatDoorZb
set_option linter.unusedVariables false
set_option linter.unusedSimpArgs false
set_option linter.unnecessarySimpa false
open Array renaming getElem?_eq_some_iff→Z1
open Bool renaming not_true→Y6,not_false→W6,eq_iff_iff→U4,or_eq_false_iff→R3
open Decidable renaming not_not→X9
open Go renaming Value→y0,World→x2,TypeId→o4,IntKind→o6,Builtin→j5,Program→V2
open Go.Addr renaming add_mid→T3
open Go.Builtin renaming append_→j4,len_→X0
open Go.Instr renaming loadAt→x7,fieldAt→x8,storeAt→o7,indexAt→l7,extract→Y0,buildSlice→Y1,sliceAt→V5,alloc→S8
open Go.IntKind renaming i64→X2
open Go.Proofs.Tryz renaming prog→x3
open Go.Value renaming int→U1
open Int renaming toNat_natCast→j0
open List renaming getElem?_eq_some_iff→x4,mem_of_getElem?→x5,getElem?_eq_getElem→x6,getElem?_map→u4,length_map→u5,getD_eq_getElem?_getD→u9,length_append→r8,take_add_one→r9,length_take→o5,replicate→o8,take_length→o9,take_of_length_le→n0,mem_append→l5,mem_singleton→l9,map_append→j9,append_assoc→Z4,length_cons→Z5,mem_map→Z6,eq_nil_of_length_eq_zero→Z8,getElem?_append_left→Y3,getElem?_append_right→Y5,getElem?_take_of_lt→Y7,getElem?_eq_none→Y9,mem_iff_getElem?→X4,append_nil→X6,length_set→W0,getElem?_set→W3,ext_getElem?→W5,length_eq_one_iff→W7,mem_or_eq_of_mem_set→W8,range→V0,getElem?_set_ne→V3,drop_eq_getElem_cons→V4,length_singleton→U2,pairwise_iff_getElem→U3,getElem?_set_self→U5,mem_of_mem_take→U9,mem_cons→T1,map_cons→T2,set_append_right→T6,map_set→T8,getElem_mem→S3
open Nat renaming le_refl→n9,zero_le→X7,le_trans→X8,zero_add→V8,sub_self→V9,mul_one→S2,add_assoc→Q0
open Option renaming toList_some→j6,isNone_some→Z7,map_some→Y4,map_eq_some_iff→X5,map→U6,getD_some→S1
open Option.some renaming inj→Z9,injEq→Y8
open Prod.mk renaming injEq→T5
set_option maxHeartbeats 16000000
open Option renaming some→σ,none→ν
variable {w w':x2}{N gs j m n:Nat}{J a all l scope sizes szs t:Λ}{c k o y:Int}{S:Nat->Prop}{clean:Bool}{bv dk sv v:y0}{cs:List y0}{e:o4}{K:y0->x2->Prop}
namespace Go.Proofs.YthjegppepbbojaaGreatDoor
open Go Go.Vc Go.RowKit Go.Proofs Go.Proofs.Tryz
set_option maxRecDepth 100000
theorem Jf {acc:List (Λ×Int)} {ok:Prop} {K:Unit->x2->Prop} (W:jG w m) (af:ok->km w m acc/\(∀p∈acc,∀x∈p.1,0<=x)/\(∀x∈t,0<=x)/\t∉acc.map (·.1))
  (X:∀w',ae (λr=>r=m) w w'->jG w' m->(ok->km w' m (acc++[(t,c)]))->K () w'):
  U x3 (Instr.lookup gv (.map (σ m)) (bU (dV t)) false) w λag=>
  U x3 (aA .add ac false true ag (Δ 1)) w λah=>
  ay x3 (Instr.mapUpdate gv (.map (σ m)) (bU (dV t)) ah) w K:=by
 by_cases Y:ok
 .obtain⟨h1,aa,ab,ad⟩:=af Y;rw[AG h1 aa ab,if_neg ad,aL,wrap_i64 Ω Ω];exact Je (c:=c) h1 aa ab ad λw' V J=>X w' V J.any λ_=>J
 .refine Jc W λc0=>?_;rw[aL];exact Jd W λw' V J=>X w' V J λh=>absurd h Y
def fa {α:Type} (f:List α->aE->Option (α×aE)) (n:Nat) (acc:List α) (o:Option aE):Option (List α×aE):=o.bind (cD f n acc)
theorem jG.ab (h:jG w m) (J:ae S w w') (U:¬S m):jG w' m:=by
 obtain⟨d,h1,V⟩:=h;exact⟨d,h1.ab J U,V⟩
theorem dh.words {g:Nat} {A:ah} {B:ah} {s:aE} (h:dh w g gs A B clean (σ s)):s.toks.length<=100000:=by
 have h:dd w g gs A B s clean:=h;exact h.2.1.words.1
theorem AH {acc:List (Λ×Int)} {st:aE} (V:∀q,eU sizes [] (σ st)=σ q->t=q.1) (J:∀q,a8 0 aq ((eU sizes [] (σ st)).map (·.2))=σ q->c=q.1):
  (a8 0 aq ((eU sizes [] (σ st)).map (·.2))=ν->dK sizes acc st=ν)/\ ∀q,a8 0 aq ((eU sizes [] (σ st)).map (·.2))=σ q->dK sizes acc st=if t∈acc.map (·.1) then ν else σ ((t,c),q.2):=by
 have e:eU sizes [] (σ st)=h8 sizes [] st:=rfl;rw[e] at V J ⊢;unfold dK;cases h1:h8 sizes [] st with
 |none=>exact⟨λ_=>rfl,λq U=>(by cases U)⟩
 |some q=>
  obtain⟨bD,s1⟩:=q;rw[h1] at V J;have:=V _ rfl;subst this;have W:a8 0 aq ((σ (t,s1)).map (·.2))=ba 0 aq s1:=rfl;rw[W] at J ⊢;simp only;cases X:ba 0 aq s1 with
  |none=>exact⟨λ_=>rfl,λq U=>(by cases U)⟩
  |some q=>
   obtain⟨Y,aa⟩:=q;rw[X] at J;have:=J _ rfl;subst this;exact⟨λh=>(by cases h),λq U=>(by cases U;rfl)⟩
theorem Jg {g:Nat} {A B:ah} {s:Option aE} {Q:y0->x2->Prop}
  (h:dh w g gs A B clean s) (ce:aH .i64 w sv sizes) (bk:∀r,leads sv r->¬bE g gs A r/\r<w.heap.size) (cg:∀z∈sizes,1<=z/\z<=aq) (ch:sizes.length<=100001) (ci:e2 w) (h1:cA g gs A B 1) (cj:(N:Int)<=aq)
  (bP:∀v w' l,fA w g gs A B clean ((fa (dK sizes) N [] s).map (·.2)) w'->bi (eL w.heap.size) bC w' [v] (show List (Λ×Int) from l)->(∀q,fa (dK sizes) N [] s=σ q->l=q.1)->Q v w'):
  ay x3 (Instr.makeMap gv ν) w λbl W=>
 bA (.slice ν 0 0) (Δ 0) W λout i af k=>
  bJ (α:=y0->x2->Prop) (λ(ck:y0) (aC:x2)=>
   Split ck (ay x3 (S8 dU true (.tuple #[])) aC λx V=>
  U x3 (X0 #[au] ac #[sv]) V λcl=>
  bA (.string ⟨#[]⟩) (Δ 0) V λkey bm aD cm=>
   U x3 (aA .lss ac false false bm cl) aD λcn=>
   Split cn (U x3 (l7 au sv bm) aD λcp=>
   U x3 (x7 an cp) aD λcq=>
   U x3 (aA .sub an false true cq (Δ 1)) aD λcr=>
   ai x3 mq [Γ g,(Δ 0),cr] aD λbQ aK=>
   U x3 (Y0 bQ 0) aK λbR=>
   U x3 (Y0 bQ 1) aK λdL=>
   U x3 (x8 dU x 0) aK λct=>
   U x3 (x7 au ct) aK λcu=>
   ay x3 (Y1 au 1 #[(0,bR)]) aK λcw aj=>
   ay x3 (j4 #[au,au] au #[cu,cw]) aj λcz bT=>
   U x3 (x8 dU x 0) bT λcB=>
   ay x3 (o7 au cB cz) bT λ(_:Unit) cC=>
   ai x3 tV [bR] cC λcD a1=>
   U x3 (aA .add c3 false true cD (.string ⟨#[32]⟩)) a1 λcE=>
   U x3 (aA .add c3 false false key cE) a1 λcF=>
   U x3 (aA .add ac false true bm (Δ 1)) a1 λcG=>
   cm cF cG a1)
    (ai x3 mq [Γ g,(Δ 0),(Δ 4611686018427387904)] aD λbU a2=>
  U x3 (Y0 bU 0) a2 λcH=>
  U x3 (Y0 bU 1) a2 λcI=>
  U x3 (x8 dU x 1) a2 λcJ=>
  ay x3 (o7 an cJ cH) a2 λ(_:Unit) cK=>
  bJ (α:=x2->Prop) (λ(aG:x2)=>
   U x3 (Instr.lookup gv bl key false) aG λcL=>
   U x3 (aA .add ac false true cL (Δ 1)) aG λcM=>
   ay x3 (Instr.mapUpdate gv bl key cM) aG λ(_:Unit) aN=>
   U x3 (x7 dU x) aN λcN=>
   ay x3 (Y1 hZ 1 #[(0,cN)]) aN λcO aW=>
   ay x3 (j4 #[hZ,hZ] hZ #[out,cO]) aW λcP a6=>
   U x3 (aA .add an false true i (Δ 1)) a6 λcQ=>
  k cP cQ a6) λbV=>
  bJ (α:=y0->x2->Prop) (λ(cR:y0) (ax:x2)=>
   Split cR (ai x3 mr [Γ g,(Δ 4),cI] ax λdM bW=>
    bV bW)
    (bV ax)) λbZ=>
  ai x3 j3 [Γ g] cK λcS aO=>
  Split cS (U x3 (Instr.lookup gv bl key false) aO λcT=>
  U x3 (aA .gtr ac false true cT (Δ 0)) aO λcU=>
  bZ cU aO)
   (bZ (.bool false) aO)))
    (Q out aC)) λb0=>
  U x3 (aA .lss an false false i (Δ (N:Int))) af λcV=>
  Split cV (ai x3 j3 [Γ g] af λcW cX=>
  b0 cW cX)
   (b0 (.bool false) af):=by
 obtain⟨dN,dO,dP,cY,ba⟩:=h.side;have ag:∀r,bE g gs A r->r<w.heap.size:=cY;unfold aq at cj;refine r0 λX W dQ bn bo=>?_;have dR:=bn.size;have dS:=bo.lt;generalize Y:fa (dK sizes) N [] s=b1 at bP;refine⟨λout bq af=>∃ (i:Nat) (acc:List (Λ×Int)) (so:Option aE),bq=Δ (i:Int)/\i<=N/\ae (bE g gs A) w af/\W.heap.size<=af.heap.size/\bi (eL W.heap.size) bC af [out] acc/\dh af g gs A B clean so/\
   b1=fa (dK sizes) (N-i) acc so/\jG af X/\acc.length<=100001/\ ∀st,so=σ st->km af X acc/\(∀p∈acc,∀x∈p.1,0<=x)/\acc.length+st.toks.length<=100000,
  λ_ bq _=>N-(bS bq).toNat,⟨0,[],s,rfl,X7 _,bn.ab _,n9 _,fN,h.ext bn,Y.symm,⟨[],bo,λp aw=>(by cases aw)⟩,Ξ,λst cZ=>⟨bo,λp aw=>(by cases aw),?_⟩⟩,?_⟩
 .subst cZ;have:=h.words;simpa using this
 rintro out _ af ⟨i,acc,so,rfl,dT,b2,z9,b3,bt,bb,c1,dV,bu⟩;refine aR (λv aC=>Ext af aC/\((v= .bool true/\i<N/\ ∃st,so=σ st)\/(v= .bool false/\(so=ν\/i=N)))) ?_ ?_
 rotate_left
 .intro dW bw;rw[aQ,ak];refine⟨λc2=>?_,λdX=>bw _ _ ⟨Ext.refl _,.inr ⟨rfl,.inr Ω⟩⟩⟩;refine (oB bt).mono ?_;rintro _ aC _ ⟨rfl,az⟩;cases so with
  |none=>exact bw _ _ ⟨az,.inr ⟨rfl,.inl rfl⟩⟩
  |some st=>exact bw _ _ ⟨az,.inl ⟨rfl,Ω,st,rfl⟩⟩
 rintro _ aC ⟨az,c4⟩;rcases c4 with⟨rfl,c2,st,rfl⟩|⟨rfl,c5⟩
 rotate_left
 .rw[aT];have b4:b1=so.map λst=>(acc,st):=by
   rcases c5 with rfl|rfl
   .exact bb
   .rw[V9] at bb;rw[bb];cases so<;>rfl
  refine bP out aC acc (fA.mk (b2.trans (az.ab _)) ?_) (a7 (al.mono b3 (λr _ h=>by have h:W.heap.size<=r:=h;show w.heap.size<=r;omega) λ_ _ h=>h) az) (λq ap=>?_)
  .rw[b4,Option.map_map];have e:U6 ((λx=>x.2)∘λst=>(acc,st)) so=so:=by cases so<;>rfl
   rw[e];exact bt.ext az
  .rw[b4] at ap;cases so with
   |none=>cases ap
   |some st=>cases ap;rfl
 rw[bX];obtain⟨bu,bx,dY⟩:=bu st rfl;have dZ:=az.size;refine bp dU.i λam V ea b5 b6=>?_;have aX:=az.trans b5;have bz:ae (bE g gs A) w V:=b2.trans (aX.ab _);have b7:aH .i64 V sv sizes:=iZ ce bz λr J a n c c7 c8=>(bk r ⟨a,n,c,c7,c8⟩).1 J;rw[aU au.u b7];have bc:¬bE g gs A am:=λY=>by have:=ag _ Y;omega
 refine I9 (s:=σ st) (bt.ext aX) b7 (λr J=>⟨(bk r J).1,by have:=(bk r J).2;omega⟩) cg ch (ci.ab bz h1.1) h1 b6 bc (λc9=>by have:=ba _ c9;omega) λt aD aF bd ec da b8 db dc dd de df=>?_;have ed:=b5.size;have z12:=b8.size;have ee:=b6.lt;have bB:∀x∈t,0<=x:=λx dg=>(da x dg).1;refine (k9 de).mono ?_;rintro _ aK _ ⟨bD,c,ef,rfl,di,eg⟩;obtain⟨be,dj⟩:=bD.of;have eh:=be.size;rw[bL,bM,aM dU.p rfl];refine bj (g:=am) (o:=1) an.i rfl rfl (db.ab be bc) Ξ λaj bf ei bF=>?_;have bF:ad aj am dU [aF,Δ c]:=bF;have dk:ao .i64 an aj bd aF t:=(dc.ab be (λ_ Y=>by have:=ag _ Y;omega)).ab bf (λ_ he=>by have he:bd=am:=he;omega);have bG:ae (λr=>bE g gs A r\/r=am) V aj:=(b8.trans (be.mono λr _ h=>.inl h)).trans (bf.mono λr _ h=>.inr h);have aI:dh aj g gs A B clean ((a8 0 aq ((eU sizes [] (σ st)).map (·.2))).map (·.2)):=dj.ab bf (λr J he=>by have he:r=am:=he;exact bc (he▸J)) (λr J he=>by have:=ba r J.2;have he:r=am:=he;omega);have b9:¬(λr=>bE g gs A r\/r=am) X:=λh=>h.elim (λh=>by have:=ag _ h;omega) (λh=>Ω);have dl:jG aj X:=(c1.ab (aX.ab (λ_=>False)) (λh=>h)).ab bG b9;have ca:km aj X acc:=(c6.ext bu aX).ab bG b9;obtain⟨bH,bI⟩:=AH (acc:=acc) df di;refine dv (λaG=>ae (bE g gs A) aj aG/\dh aG g gs A B clean ((dK sizes acc st).map (·.2))) ?_ ?_
 .rintro aG ⟨aP,dm⟩;have bK:¬bE g gs A X:=λh=>by have:=ag _ h;omega
  have ej:=bf.size;have ek:=aP.size;refine Jf (acc:=acc) (t:=t) (c:=c) (ok:=∃q,dK sizes acc st=σ q) (dl.ab aP bK) (λ⟨q,ap⟩=>⟨c6.ab ca aP bK,bx,bB,λaB=>?_⟩) λaN aY dn dp=>?_
  .cases av:a8 0 aq ((eU sizes [] (σ st)).map (·.2)) with
   |none=>rw[bH av] at ap;cases ap
   |some aS=>rw[bI aS av,if_pos aB] at ap;cases ap
  have em:=aY.size;have dq:ad aN am dU [aF,Δ c]:=(bF.ab aP bc).ab aY (λhe=>by have he:am=X:=he;omega);have dr:ao .i64 an aN bd aF t:=(dk.ab aP (λ_ Y=>by have:=ag _ Y;omega)).ab aY (λ_ he=>by have he:bd=X:=he;omega);rw[br dU.p dU.i rfl dq.range];have cb:bi (eL V.heap.size) bC aN [aF,Δ c] (t,c):=⟨[aF],[Δ c],eL V.heap.size,bC,rfl,λ_ h=>h,λ_ h=>h.elim,λ_ _ _ h=>h,al.mono (mK dr) (λr _ h=>by subst h;exact dd) (λ_ _ h=>h),rfl⟩;refine hp (α:=Λ×Int) (a:=(t,c)) (cs:=[aF,Δ c]) (A:=eL V.heap.size) (R:=bC) hZ.u dU.i Φ rfl cb λu aW aV _ ds=>?_;have z22:=aV.size;have dt:bi (λr=>eL W.heap.size r/\r<V.heap.size/\r≠am) bC V [out] acc:=a7 (al.mono (k1 b3) (λr _ h=>⟨h.1,by have:=h.2;omega,by have:=h.2;omega⟩) λ_ _ h=>h) aX;have cc:ae (λr=>bE g gs A r\/r=am\/r=X) V aW:=(((bG.mono λr _ h=>h.elim .inl λh=>.inr (.inl h)).trans (aP.mono λr _ h=>.inl h)).trans (aY.mono λr _ h=>.inr (.inr h))).trans (aV.ab _);have du:=al.ab dt cc λr J h Y=>by
   rcases h with h|h
   .have bg:W.heap.size<=r:=h.1;rcases Y with Y|Y|Y
    .have:=ag _ Y;omega
    .exact h.2.2 Y
    .omega
   .exact h
  refine mJ (α:=Λ×Int) (a:=(t,c)) (A:=eL V.heap.size) hZ.u dU.i rfl du ds (a7 cb aV) (λr _ h h'=>?_) Ω Ω λen a6 dw aZ=>?_
  .rcases h' with h'|h'
   .have:=h.2;have:V.heap.size<=r:=h';omega
   .exact h'
  have eo:=aZ.size;rw[aL,wrap_i64 Ω Ω];have dx:ae (bE g gs A) w aW:=gy bz cc λr J h=>by
   rcases h with h|h|h
   .exact h
   .omega
   .omega
  have dy:ae (bE g gs A) w a6:=gy dx aZ λr J h=>by have bg:W.heap.size<=r:=h.1;omega
  have dz:dh aW g gs A B clean ((dK sizes acc st).map (·.2)):=(dm.ab aY (λr J he=>by have he:r=X:=he;exact bK (he▸J)) (λr J he=>by have:=ba r J.2;have he:r=X:=he;omega)).ext aV;have dA:∀r,bE g gs A r->¬(eL W.heap.size r/\r<V.heap.size/\r≠am):=λr J he=>by have:=ag _ J;have bg:W.heap.size<=r:=he.1;omega
  have dC:∀r,cA g gs A B r->¬(eL W.heap.size r/\r<V.heap.size/\r≠am):=λr J he=>by have:=ba r J.2;have bg:W.heap.size<=r:=he.1;omega
  have cd:¬(eL W.heap.size X/\X<V.heap.size/\X≠am):=λhe=>by have bg:W.heap.size<=X:=he.1;omega
  refine⟨⟨i+1,acc++[(t,c)],(dK sizes acc st).map (·.2),rfl,Ω,dy,Ω,?_,dz.ab aZ dA dC,?_,(dn.ab (aV.ab (λ_=>False)) (λh=>h)).ab aZ cd,Θ,λdD dE=>?_⟩,by simp only[bS];omega⟩
  .refine al.mono dw (λr _ h=>?_) λ_ _ h=>h;show W.heap.size<=r;rcases h with h|h|h
   .exact h.1
   .have h:V.heap.size<=r:=h;omega
   .omega
  .rw[bb,show N-i=(N-(i+1))+1 by omega];cases aa:dK sizes acc st with
   |none=>exact ow aa
   |some q=>
    obtain⟨a,dD⟩:=q;have dF:a=(t,c):=by
     cases av:a8 0 aq ((eU sizes [] (σ st)).map (·.2)) with
     |none=>rw[bH av] at aa;cases aa
     |some aS=>
      rw[bI aS av] at aa;split at aa
      .cases aa
      .cases aa;rfl
    subst dF;exact rV aa
  .obtain⟨q,ap,rfl⟩:=X5.1 dE;have ep:=(mX ap).2.2.2.1;refine⟨c6.ab ((c6.ext (dp ⟨q,ap⟩) aV)) aZ cd,λp aw=>?_,by simp only[r8,U2];omega⟩;rcases l5.1 aw with aw|aw
   .exact bx p aw
   .rw[l9.1 aw];exact bB
 .intro er bN;cases av:a8 0 aq ((eU sizes [] (σ st)).map (·.2)) with
  |none=>
   rw[av] at aI;have aa:=bH av;refine aR (λv ax=>Ext aj ax/\v= .bool false) ?_ ?_
   .rintro _ ax ⟨aJ,rfl⟩;rw[aT];exact bN _ ⟨aJ.ab _,by rw[aa];exact aI.ext aJ⟩
   .intro dG bO;refine (oB aI).mono ?_;rintro _ aO _ ⟨rfl,bh⟩;rw[show ((ν:Option (Int×aE)).map (·.2)).isSome=false from rfl,aT];exact bO _ _ ⟨bh,rfl⟩
  |some aS=>
   rw[av] at aI;have aa:=bI aS av;refine aR (λv ax=>Ext aj ax/\v= .bool (decide (t∈acc.map (·.1)))) ?_ ?_
   .rintro _ ax ⟨aJ,rfl⟩;rw[ak];refine⟨λaB=>?_,λdH=>?_⟩
    .refine (I8 (aI.ext aJ) Ω).mono ?_;rintro _ bW _ bD;obtain⟨dI,dJ⟩:=bD.of;exact bN _ ⟨(aJ.ab _).trans dI,by rw[aa,if_pos aB];exact dJ⟩
    .exact bN _ ⟨aJ.ab _,by rw[aa,if_neg dH];exact aI.ext aJ⟩
   .intro dG bO;refine (oB aI).mono ?_;rintro _ aO _ ⟨rfl,bh⟩;rw[show ((σ aS:Option (Int×aE)).map (·.2)).isSome=true from rfl,bX,AG (c6.ext ca bh) bx bB,bY];refine bO _ _ ⟨bh,?_⟩;congr 1;by_cases aB:t∈acc.map (·.1)
    .rw[if_pos aB,decide_eq_true aB];rfl
    .rw[if_neg aB,decide_eq_false aB];rfl
theorem AI (sizes:Λ) (s:Option aE):ig sizes s=match a8 (-aq) aq s with
 |none=>ν
 |some (n,s)=>
  if n<0 then match s.shared[(-n-1).toNat]? with
   |none=>ν
   |some (z,l)=>if z=sizes then σ (l,s) else ν
  else cD (dK sizes) n.toNat [] (jf n s):=by
 cases s with
 |none=>rfl
 |some s=>
  show ds sizes s=_;unfold ds;show _=match ba (-aq) aq s with
   |none=>ν
   |some (n,s)=>
    if n<0 then match s.shared[(-n-1).toNat]? with
     |none=>ν
     |some (z,l)=>if z=sizes then σ (l,s) else ν
    else cD (dK sizes) n.toNat [] (jf n s)
  cases ba (-aq) aq s<;>rfl
theorem AJ {m:Bool} {S R:ah} {a:ib} (h:al.rep (α:=ib) m S R w cs a):∃u v,cs=[u,v]/\al.rep (α:=Λ) false bC R w [u] a.1/\al.rep (α:=List (Λ×Int)) false bC R w [v] a.2:=by
 obtain⟨c,d,U,V,rfl,_,_,_,h1,J⟩:=h;have h1:al.rep (α:=Λ) false bC R w c a.1:=h1;have J:al.rep (α:=List (Λ×Int)) false bC R w d a.2:=J;obtain⟨u,rfl⟩:=W7.1 (show c.length=1 from al.len h1);obtain⟨v,rfl⟩:=W7.1 (show d.length=1 from al.len J);exact⟨u,v,rfl,h1,J⟩
theorem Jh {g:Nat} {A B:ah} {s:Option aE}
  (h:dh w g gs A B clean s) (hi:∀t,s=σ t->dL t) (aV:aH .i64 w sv sizes) (al:∀r,leads sv r->¬bE g gs A r/\r<w.heap.size) (aW:∀z∈sizes,1<=z/\z<=aq) (aX:sizes.length<=100001) (aY:e2 w) (h1:cA g gs A B 1):
  ai x3 Fp [Γ g,sv] w λv w'=>fA w g gs A B clean ((ig sizes s).map (·.2)) w'/\ ∃l,Seen (λr=>cA g gs A B r\/w.heap.size<=r) w' [v] (show List (Λ×Int) from l)/\ ∀q,ig sizes s=σ q->l=q.1:=by
 have aZ:=h.side;obtain⟨bz,bA,bB,a1,bD⟩:=id aZ;have ag:∀r,bE g gs A r->r<w.heap.size:=a1;refine az func165 ?_;refine (k9 (lo:=-aq) (hi:=aq) h).mono ?_;rintro _ V _ ⟨a2,n,at_,rfl,av,a6⟩;obtain⟨am,aG⟩:=a2.of;have bF:=am.size;have U:=AI sizes s;rw[bL,bM];have aI:aH .i64 V sv sizes:=iZ aV am λr Y a n c an aw=>(al r ⟨a,n,c,an,aw⟩).1 Y;have bG:∀r,leads sv r->¬bE g gs A r/\r<V.heap.size:=λr Y=>⟨(al r Y).1,by have:=(al r Y).2;omega⟩;have rest:∀aa,Ext V aa->(∀q,a8 (-aq) aq s=σ q->¬n<0)-> ∀N:Nat,n=(N:Int)->(N:Int)<=aq-> ∀X,ae (bE g gs A) aa X->dh X g gs A B clean (((a8 (-aq) aq s).map (·.2)).map (jf n))->
   ∀v w' l,fA X g gs A B clean ((fa (dK sizes) N [] (((a8 (-aq) aq s).map (·.2)).map (jf n))).map (·.2)) w'->bi (eL X.heap.size) bC w' [v] (show List (Λ×Int) from l)->(∀q,fa (dK sizes) N [] (((a8 (-aq) aq s).map (·.2)).map (jf n))=σ q->l=q.1)->
   fA w g gs A B clean ((ig sizes s).map (·.2)) w'/\ ∃l,Seen (λr=>cA g gs A B r\/w.heap.size<=r) w' [v] (show List (Λ×Int) from l)/\ ∀q,ig sizes s=σ q->l=q.1:=by
  intro aa W ao N ax ay X ad aA v w' l ba bb bc;obtain⟨bd,be⟩:=ba.of;have bf:=W.size;have z3:=ad.size;have e:ig sizes s=fa (dK sizes) N [] (((a8 (-aq) aq s).map (·.2)).map (jf n)):=by
   rw[U];cases J:a8 (-aq) aq s with
   |none=>rfl
   |some q=>
    obtain⟨bh,s1⟩:=q;have:=av _ J;subst this;simp only;rw[if_neg (ao _ J),ax,j0];rfl
  rw[e];refine⟨fA.mk (((am.trans (W.ab _)).trans ad).trans bd) be,l,lQ bb λr _ h=>?_,bc⟩;rcases h with h|h
  .have h:X.heap.size<=r:=h;exact .inr Ω
  .exact h.elim
 refine aR (λv aa=>Ext V aa/\v= .bool (decide (n<0/\(a8 (-aq) aq s).isSome=true))) ?_ ?_
 rotate_left
 .intro bj au;refine (oB aG).mono ?_;rintro _ aa _ ⟨rfl,W⟩;cases J:a8 (-aq) aq s with
  |none=>
   rw[show ((ν:Option (Int×aE)).map (·.2)).isSome=false from rfl,aT];exact au _ _ ⟨W,by rw[decide_eq_false];rintro⟨_,h⟩;rw[J] at h;cases h⟩
  |some q=>
   rw[show ((σ q:Option (Int×aE)).map (·.2)).isSome=true from rfl,bX,aQ];exact au _ _ ⟨W,by congr 1;rw[U4,decide_eq_true_eq,decide_eq_true_eq,J];exact⟨λh=>⟨h,rfl⟩,λh=>h.1⟩⟩
 rintro _ aa ⟨W,rfl⟩;have af:=aG.ext W;have bf:=W.size;rw[ak];refine⟨λao=>?_,λbk=>?_⟩
 rotate_left
 .have ao:∀q,a8 (-aq) aq s=σ q->¬n<0:=λq J h=>bk ⟨h,by rw[J];rfl⟩;obtain⟨N,ax,ay⟩:∃N:Nat,n=(N:Int)/\(N:Int)<=aq:=by
   cases J:a8 (-aq) aq s with
   |none=>rw[a6 J];exact⟨0,rfl,by unfold aq;omega⟩
   |some q=>
    have h1:=ao q J;have bl:=l0 (n:=q.1) (s':=q.2) J;have bm:=av q J;exact⟨n.toNat,Ω,Ω⟩
  refine Jb (at_:=at_) af (λt bn=>?_) λX ad aA=>?_
  .obtain⟨q,J,rfl⟩:=X5.1 bn;have bl:=l0 (n:=q.1) (s':=q.2) J;have bm:=av q J;refine⟨Ω,Ω,?_⟩;cases s with
   |none=>cases J
   |some s0=>
    have aJ:=(db (n:=q.1) (s':=q.2) J).eqs;have aL:=hi s0 rfl;intro aN;rw[aJ.1];rw[aJ.2.1] at aN;exact aL aN
  .have z3:=ad.size;have bo:ae (bE g gs A) w X:=(am.trans (W.ab _)).trans ad;subst ax;refine Jg (N:=N) aA ((iZ (aI.ext W) ad λr Y a n c an aw=>(al r ⟨a,n,c,an,aw⟩).1 Y)) (λr Y=>⟨(al r Y).1,by have:=(al r Y).2;omega⟩) aW aX (aY.ab bo h1.1) h1 ay λv w' l a b c=>?_;exact rest aa W ao N rfl ay X ad aA v w' l a b c
 .obtain⟨bp,bq⟩:=ao;obtain⟨⟨bh,s1⟩,J⟩:=Option.isSome_iff_exists.1 bq;have:=av _ J;subst this;have bH:=l0 J;rw[J] at U af;simp only at U;rw[if_pos bp] at U;have af:dd aa g gs A B s1 clean:=af;obtain⟨_,aL,bI,big,bJ,bK,told,bN,aB,bO,aC⟩:=id af;have bP:aq=4611686018427387904:=rfl;refine aR (λv X=>Ext aa X/\v= .bool (decide (ig sizes s=ν))) ?_ ?_
  .rintro _ X ⟨ac,rfl⟩;rw[ak];refine⟨λbr=>?_,λaO=>?_⟩
   .refine (rR (af.ext ac) Ω).mono ?_;rintro _ bQ _ ⟨bt,bu⟩;rw[br];refine⟨fA.mk (((am.trans (W.ab _)).trans (ac.ab _)).trans (bt.mono λr _ h=>.inl h)) bu,[],fN,λq J=>by cases J⟩
   .cases ap:s1.shared[(-n-1).toNat]? with
    |none=>rw[ap] at U;exact absurd U aO
    |some q=>
     obtain⟨z,l⟩:=q;rw[ap] at U;simp only at U;have bw:z=sizes:=by
      by_cases aj:z=sizes
      .exact aj
      .rw[if_neg aj] at U;exact absurd U aO
     rw[if_pos bw] at U;rw[aK cd.p 3 (aB.ext ac) rfl,kW,wrap_i64 Ω Ω,dj,wrap_i64 Ω Ω];refine iY (α:=ib) (m:=true) (S:=A) (R:=cA g gs A B) (i:=(-n-1).toNat) (a:=(z,l)) Ω gM.u iV.i (a7 aC ac) ap λb o cs aD aF=>?_;obtain⟨u,v,rfl,hu,an⟩:=AJ aF;rw[aM iV.p rfl,aS Ψ (aD 1 v rfl)];rw[U];refine⟨fA.mk ((am.trans (W.ab _)).trans (ac.ab _)) (af.ext ac),l,lQ an λr _ h=>?_,λq J=>by cases J;rfl⟩;rcases h with h|h
     .exact h.elim
     .exact .inl h
  .intro bj au;rw[kW,wrap_i64 Ω Ω,aK cd.p 3 aB rfl,eh gM.u aC,bY,ak];refine⟨λaP=>au _ _ ⟨Ext.refl _,?_⟩,λaU=>?_⟩
   .have aP:(s1.shared.length:Int)<0-n:=aP;rw[Y9 Ω] at U;rw[decide_eq_true U]
   .have aU:¬(s1.shared.length:Int)<0-n:=aU;have bx:(-n-1).toNat<s1.shared.length:=Ω
    obtain⟨⟨z,l⟩,ap⟩:∃q,s1.shared[(-n-1).toNat]? =σ q:=⟨_,x6 bx⟩;rw[aK cd.p 3 aB rfl,kW,wrap_i64 Ω Ω,dj,wrap_i64 Ω Ω];refine iY (α:=ib) (m:=true) (S:=A) (R:=cA g gs A B) (i:=(-n-1).toNat) (a:=(z,l)) Ω gM.u iV.i aC ap λb o cs aD aF=>?_;obtain⟨u,v,rfl,hu,an⟩:=AJ aF;rw[aM iV.p rfl,aS Ψ (aD 0 u rfl)];refine (pu (c4 hu) (aI.ext W)).mono ?_;rintro _ X _ ⟨rfl,ac⟩;rw[bg];refine au _ _ ⟨ac,?_⟩;rw[ap] at U;simp only at U;by_cases aj:z=sizes
    .rw[if_pos aj] at U;rw[decide_eq_true aj,decide_eq_false (by rw[U];simp)];rfl
    .rw[if_neg aj] at U;rw[decide_eq_false aj,decide_eq_true U];rfl
abbrev oC (n:Nat):ah:=λr=>r<n
def pV (n:Int) (k:Nat) (s:Option aE):Option (Λ×aE):=s.bind (eK n k)
theorem Ji {g k:Nat} {A B:ah} {s:Option aE} {m:Int} (h:dh w g gs A B clean s) (hk:k<=4611686018427387904) (hm:0<=m/\m<=1000000):
  ai x3 ye [Γ g,Δ (k:Int),Δ m] w λv w'=>fA w g gs A B clean ((pV m k s).map (·.2)) w'/\
   ∃gr l,ao .i64 an w' gr v l/\(∀r,leads v r->w.heap.size<=r)/\l.length<=100001/\ ∀q,pV m k s=σ q->l=q.1:=by
 cases s with
 |some s=>exact H5 (s:=s) h hk hm
 |none=>
  have h:eu w g gs A B:=h;refine az func163 ?_;refine⟨λout W V=>w=V/\out= .slice ν 0 0/\W=Δ 0,λ_ _ _=>0,⟨rfl,rfl,rfl⟩,?_⟩;rintro _ _ _ ⟨rfl,rfl,rfl⟩;refine aR (λv aa=>Ext w aa/\v= .bool false) ?_ ?_
  .rintro _ aa ⟨J,rfl⟩;rw[aT];exact⟨fA.mk (J.ab _) (h.ext J),0,[],ao.nil _ _ _ _,λr X=>absurd X (λh=>by obtain⟨a,n,c,h,_⟩:=h;cases h),Ξ,λq Y=>by cases Y⟩
  .intro ac U;rw[aQ,ak];refine⟨λ_=>?_,λ_=>U _ _ ⟨Ext.refl _,rfl⟩⟩;refine (mY h).mono ?_;rintro _ aa _ ⟨rfl,J⟩;exact U _ _ ⟨J,rfl⟩
def sb (z:Λ) (l:List (Λ×Int)) (s:aE):aE:={s with shared:=s.shared++[(z,l)]}
def AK (w:x2) (g gs:Nat):Prop:=∃ (e big J U told:Int) (sv:y0),ad w g cd (fm gs e big J U told sv)/\e≠0
def gC (w:x2) (g gs:Nat) (A:ah) (B:ah) (clean:Bool) (s:Option aE):Prop:=match s with
 |some s=>dd w g gs A B s clean
 |none=>AK w g gs
theorem dh.q {g:Nat} {A:ah} {B:ah} {s:Option aE} (h:dh w g gs A B clean s):gC w g gs A B clean s:=by
 cases s with
 |some s=>exact h
 |none=>
  obtain⟨_,e,big,J,U,told,sv,l,V,W,_⟩:=h;exact⟨e,big,J,U,told,sv,V,W.1⟩
theorem gC.ab {g:Nat} {A:ah} {B:ah} {s:Option aE} (h:gC w g gs A B clean s) (J:ae S w w') (V:¬S g) (W:∀r,bE g gs A r->r<w.heap.size->¬S r) (X:∀r,cA g gs A B r->¬S r):gC w' g gs A B clean s:=by
 cases s with
 |some s=>
  have h:dd w g gs A B s clean:=h;exact dd.ab h J (λr U=>W r U (h.1.2.2.2.1 r U)) X
 |none=>
  obtain⟨e,big,Y,aa,told,sv,ac,ad⟩:=h;exact⟨e,big,Y,aa,told,sv,ac.ab J V,ad⟩
theorem gC.ext {g:Nat} {A:ah} {B:ah} {s:Option aE} (h:gC w g gs A B clean s) (J:Ext w w'):gC w' g gs A B clean s:=h.ab (J.ab λ_=>False) (λh=>h) (λ_ _ _ h=>h) (λ_ _ h=>h)
theorem AL {g:Nat} {A:ah} {B:ah} {s:Option aE} (h:gC w g gs A B clean s):ai x3 j3 [Γ g] w λv w'=>v= .bool s.isSome/\Ext w w':=by
 cases s with
 |none=>
  obtain⟨e,big,X,Y,told,sv,J,U⟩:=h;refine (uK J).mono ?_;rintro _ V _ ⟨rfl,W⟩;exact⟨by rw[decide_eq_false U];rfl,W⟩
 |some s=>exact ov h
theorem gR.bc {g:Nat} {R R':Nat->Prop} {toks:List (Λ)} (h:gR w g R toks clean) (U:ae S w w') (W:¬S g) (X:∀r,R r->¬S r) (Y:∀r,R r->R' r):gR w' g R' toks clean:=by
 obtain⟨aa,p,a,⟨h1,ac,ad,af,ag,ah⟩,V,ai⟩:=h;exact⟨aa,p,a,⟨h1,ac,ad,af.ab U W,ag,be ah U λr J=>X r (V r J)⟩,λr J=>Y r (V r J),ai⟩
theorem la {α:Type} [al α] {m:Bool} {S R:ah} {l:List α} (h:al.rep m S R w [v] l):∃a n c,v= .slice a n c:=by
 obtain⟨vs,U,F,V,he,J,hm⟩:=gw h;obtain⟨W,b,o,base,cap,rfl,_⟩:=J;exact⟨_,_,_,rfl⟩
def ko (w:x2) (g gs:Nat) (A:ah) (B:ah) (R:ah) (clean:Bool) (s:Option aE):Prop:=match s with
 |some s=>kj w g gs A B/\gR w gs R s.toks clean/\(0<=s.told/\s.told<=aq/\s.shared.length+s.toks.length<=100000)/\
  ∃big J U told sv,ad w g cd (fm gs 0 big J U told sv)/\((s.big=true↔big≠0)/\(s.big=false->told=s.told))/\bi A R w [sv] (show List ib from s.shared)
 |none=>AK w g gs
theorem ko.ab {g:Nat} {A R:ah} {B:ah} {s:Option aE} (h:ko w g gs A B R clean s) (J:ae S w w') (Y:¬S g) (aa:∀r,bE g gs A r->r<w.heap.size->¬S r) (ac:∀r,R r->¬S r):ko w' g gs A B R clean s:=by
 cases s with
 |some s=>
  obtain⟨h1,ad,af,big,U,V,told,sv,W,X,ag⟩:=h;have ai:=h1.2.2.2.1;exact⟨h1.ab J,ad.ab J (aa gs (.inr (.inl rfl)) (ai _ (.inr (.inl rfl)))) ac,af,big,U,V,told,sv,W.ab J Y,X,al.ab ag J λr aj h=>h.elim (λh=>aa r (.inr (.inr h)) aj) (ac r)⟩
 |none=>
  obtain⟨e,big,U,V,told,sv,W,X⟩:=h;exact⟨e,big,U,V,told,sv,W.ab J Y,X⟩
theorem ko.out {g:Nat} {A R B J:ah} {s:Option aE} (h:ko w g gs A B R clean s) (U:∀r,R r->cA g gs A J r) (V:∀r,J r->r<w.heap.size):gC w g gs A J clean s:=by
 cases s with
 |some s=>
  obtain⟨⟨W,X,Y,aa,ao⟩,⟨ab,p,a,ac,ad,ae⟩,af,big,ag,ai,told,sv,aj,ak,am⟩:=h;exact⟨⟨W,X,Y,aa,V⟩,⟨ab,p,a,ac,λr an=>U r (ad r an),ae⟩,af,big,ag,ai,told,sv,aj,ak,al.mono am (λ_ _ h=>h) λr _ h=>U r h⟩
 |none=>exact h
theorem dh.qr {g:Nat} {A R:ah} {B:ah} {s:Option aE} (h:dh w g gs A B clean s) (X:∀r,cA g gs A B r->R r):ko w g gs A B R clean s:=by
 cases s with
 |some s=>
  obtain⟨h1,⟨Y,p,a,aa,ab,ac⟩,ad,big,J,U,told,sv,V,W,ae⟩:=h;exact⟨h1,⟨Y,p,a,aa,λr af=>X r (ab r af),ac⟩,ad,big,J,U,told,sv,V,W,al.mono ae (λ_ _ h=>h) λr _ h=>X r h⟩
 |none=>
  obtain⟨_,e,big,J,U,told,sv,l,V,W,_⟩:=h;exact⟨e,big,J,U,told,sv,V,W.1⟩
theorem Jj {g ap:Nat} {A B R:ah} {s:Option aE} {ax aX u:y0} {z:Λ} {l:List (Λ×Int)} {K:x2->Prop} (h:dh w g gs A B clean s) (aq:∀r,cA g gs A B r->R r) (aL:∀r,R r->cA g gs A (oC w.heap.size) r)
  (aN:∀t,s=σ t->t.shared.length+1+t.toks.length<=100000) (aO:ad w ap b9 [ax,u,aX,v])
  (hu:al.rep (α:=Λ) false bC R w [u] z) (aP:al.rep (α:=List (Λ×Int)) false bC R w [v] l)
  (aY:∀w' aG,ae (bE g gs A) w w'->(∀r,aG r->A r\/w.heap.size<=r)->ko w' g gs aG (oC w.heap.size) R clean (s.map (sb z l))->K w'):
  U x3 (bd (Γ g)) w λaz=>
  U x3 (x8 cd az 3) w λaA=>
  U x3 (x7 gM aA) w λaQ=>
  U x3 (x8 b9 (Γ ap) 1) w λt76=>
  U x3 (x7 au t76) w λt77=>
  U x3 (x8 b9 (Γ ap) 3) w λaZ=>
  U x3 (x7 hZ aZ) w λa1=>
  U x3 (Instr.build iV #[(0,t77),(1,a1)]) w λa2=>
  ay x3 (Y1 gM 1 #[(0,a2)]) w λa6 ai=>
   (Ext w ai\/bw x3 (x7 gM aA) aQ ai/\bw x3 (x8 cd az 3) aA ai/\bw x3 (bd (Γ g)) az ai/\True)/\
   ay x3 (j4 #[gM,gM] gM #[aQ,a6]) ai λa8 aB=>
    U x3 (bd (Γ g)) aB λba=>
    U x3 (x8 cd ba 3) aB λbb=>
    ay x3 (o7 gM bb a8) aB λ(_:Unit) be=>K be:=by
 obtain⟨bf,e,big,X,Y,told,sv,ak,ac,am,br,bg⟩:kj w g gs A B/\ ∃e big X Y told sv,∃ak:List ib,ad w g cd (fm gs e big X Y told sv)/\bi A R w [sv] ak/\ak.length<=100000/\
   ∀w' aG af,kj w' g gs aG (oC w.heap.size)->ae (λr=>A r\/r=g) w w'->ad w' g cd (fm gs e big X Y told af)->bi aG R w' [af] (ak++[((z,l):ib)])->ko w' g gs aG (oC w.heap.size) R clean (s.map (sb z l)):=by
  cases s with
  |none=>
   obtain⟨h1,e,big,X,Y,told,sv,l',aC,an,aD⟩:=h;exact⟨h1,e,big,X,Y,told,sv,l',aC,al.mono aD (λ_ _ h=>h) λr _ h=>aq r h,an.2,λw' aG af J _ ac am=>⟨e,big,X,Y,told,af,ac,an.1⟩⟩
  |some s=>
   obtain⟨h1,bh,aR,big,X,Y,told,sv,aC,an,aD⟩:=h;have aN:=aN s rfl;refine⟨h1,0,big,X,Y,told,sv,s.shared,aC,al.mono aD (λ_ _ h=>h) λr _ h=>aq r h,(show s.shared.length<=100000 by omega),λw' aG af J bk ac am=>⟨J,?_,⟨aR.1,aR.2.1,?_⟩,big,X,Y,told,af,ac,an,am⟩⟩
   .exact gR.bc bh bk (λhe=>he.elim h1.2.2.1 λh=>h1.1 h.symm) (λr W he=>he.elim (λh=>W.1 (.inr (.inr h))) λh=>W.1 (.inl h)) aq
   .show (s.shared++[(z,l)]).length+s.toks.length<=100000;simp;omega
 obtain⟨bl,aF,bm,aS,bt⟩:=id bf;rw[aK cd.p 3 ac rfl,av b9.p 1 aO rfl,av b9.p 3 aO rfl];rw[c8 (cs:=#[u,v]) (by obtain⟨_,_,_,rfl⟩:=la hu;obtain⟨_,_,_,rfl⟩:=la aP;kernel_rfl)];have aT:bi (λ_=>False) R w [u,v] ((z,l):ib):=⟨[u],[v],bC,bC,rfl,λ_ h=>h,λ_ h=>h,λ_ _ h _=>h,hu,aP⟩;refine hp (α:=ib) (a:=(z,l)) (cs:=[u,v]) (A:=λ_=>False) (R:=R) gM.u iV.i Φ rfl aT λx V ag _ bn=>?_;have bx:=ag.size;refine⟨.inl ag,?_⟩;refine mJ (α:=ib) (a:=(z,l)) (A:=λ_=>False) (R:=R) gM.u iV.i rfl (a7 am ag) bn (a7 aT ag) (λr _ bo aj=>?_) Ω Ω λaU aa aH aI=>?_
 .rcases aj with aj|aj
  .exact aj
  .exact (aL r aj).1 (.inr (.inr bo))
 have bz:=aI.size;have bp:=(ac.ext ag).ab aI aF;rw[bu,aM cd.p rfl];refine bj (g:=g) (o:=6) gM.i (kf aH) (e7 aH) bp (by simp[fm]) λao aV bA aJ=>?_;have aJ:ad ao g cd (fm gs e big X Y told aU):=aJ;have aW:ae (λr=>A r\/r=g) w ao:=((ag.ab _).trans (aI.mono λr _ h=>.inl h)).trans (aV.mono λr _ h=>.inr h);let aG:ah:=λr=>(A r\/w.heap.size<=r)/\r<aa.heap.size;have bB:g<w.heap.size:=aS g (.inl rfl);have bD:gs<w.heap.size:=aS gs (.inr (.inl rfl));have bq:=al.mono (S':=aG) (R':=R) aH (λr W h=>⟨h.elim .inl λh=>h.elim False.elim λh=>.inr Ω,W⟩) (λr W h=>h);refine aY ao aG (aW.mono λr _ h=>h.elim (λh=>.inr (.inr h)) .inl) (λr W=>W.1) (bg ao aG aU ⟨bl,λh=>h.1.elim aF λh=>Ω,λh=>h.1.elim bm λh=>Ω,λr W=>?_,?_⟩ aW aJ (al.ab bq aV λr W aw he=>?_))
 .rcases W with rfl|rfl|W
  .omega
  .omega
  .have:=W.2;omega
 .intro r W;have W:r<w.heap.size:=W;omega
 .have he:r=g:=he;subst he;rcases aw with aw|aw
  .exact aw.1.elim aF λh=>Ω
  .exact (aL _ aw).1 (.inl rfl)
theorem Jk {J:Nat} {ax ah:y0} {aD:x2->Prop} (aE:ad w J b9 [ax,.slice ν 0 0,Δ 0,.slice ν 0 0]) (aF:aH .i64 w ax scope) (aT:∀r,leads ax r->r≠J)
  (aU:aH .i64 w ah all) (aV:∀r,leads ah r->r≠J) (aW:∀v∈scope,0<=v/\v<all.length) (bm:scope.length<=100001)
  (aX:∀w' szv gz,ae (λr=>r=J) w w'->ad w' J b9 [ax,szv,Δ 0,.slice ν 0 0]->ao .i64 an w' gz szv (scope.map λv=>all.getD v.toNat 0)->w.heap.size<=gz->aD w'):
 b0 (Δ 0) w λap af k=>
  U x3 (aA .lss ac false false ap (Δ (scope.length:Int))) af λaY=>
  Split aY (U x3 (l7 au ax ap) af λa1=>
  U x3 (x7 an a1) af λa2=>
  cK af λW=>
  U x3 (x8 b9 (Γ J) 1) W λt39=>
  U x3 (x7 au t39) W λaG=>
  U x3 (l7 au ah a2) W λa6=>
  U x3 (x7 an a6) W λa7=>
  ay x3 (Y1 au 1 #[(0,a7)]) W λt45 ai=>
   (Ext W ai\/bw x3 (x7 au t39) aG ai/\bw x3 (x8 b9 (Γ J) 1) t39 ai/\True)/\
  ay x3 (j4 #[au,au] au #[aG,t45]) ai λt46 aI=>
   U x3 (x8 b9 (Γ J) 1) aI λa8=>
   ay x3 (o7 au a8 t46) aI λ(_:Unit) aJ=>
    U x3 (aA .add ac false true ap (Δ 1)) aJ λba=>
  k ba aJ) (aD af):=by
 have bn:=aE.lt;refine b0.range scope.length (λi V=>ae (λr=>r=J) w V/\ ∃szv gz,ad V J b9 [ax,szv,Δ 0,.slice ν 0 0]/\ao .i64 an V gz szv ((scope.take i).map λv=>all.getD v.toNat 0)/\w.heap.size<=gz) aF.le ⟨ae.refl _ _,_,w.heap.size,aE,ao.nil _ _ _ _,n9 _⟩ ?_ ?_
 rotate_left
 .rintro V bb ⟨X,szv,gz,aj,al,aK⟩;rw[o9] at al;rw[aQ,ak];exact⟨λh=>Ω,λ_=>aX V szv gz X aj al aK⟩
 rintro i V bb hi ⟨X,szv,gz,aj,al,aK⟩ bc;obtain⟨v,aq⟩:=aN (l:=scope) hi;have bo:=aW v (x5 aq);have bd:all[v.toNat]? =σ (all.getD v.toNat 0):=by
  rw[u9,x6 Ω];rfl
 have be:aH .i64 V ax scope:=iZ aF X λr am a n c aw az=>aT r ⟨a,n,c,aw,az⟩ am;have bg:aH .i64 V ah all:=iZ aU X λr am a n c aw az=>aV r ⟨a,n,c,aw,az⟩ am;refine bk Ω ?_;rw[bf au.u an.i Ψ be aq];intro aa Y _ _;have bp:=X.size;have bq:=Y.size;rw[av b9.p 1 (aj.ext Y) rfl];rw[dY (y:=v) (i:=v.toNat) Ω au.u an.i Ψ (bg.ext Y) bd];refine dJ au.u an.i rfl λa aZ br bt ag bh=>?_;refine⟨.inl ag,?_⟩;have z3:=ag.size;refine h6 au.u an.i rfl ((al.ext Y).ext ag) bh.ls Θ Θ λaO aP bu bx aB aR=>?_;rw[aM b9.p rfl];have bi:=((aj.ext Y).ext ag).ab aR (λhe=>by have he:J=gz:=he;omega);refine bj (g:=J) (o:=1) au.i aB.ls.cells.1 aB.ls.cells.2 bi Ξ λbl aS bz aC=>?_;have aC:ad bl J b9 [ax,aO,Δ 0,.slice ν 0 0]:=aC;rw[aL];refine bc _ ⟨(gy (X.trans ((Y.trans ag).ab _)) aR λr am he=>by have he:r=gz:=he;omega).trans aS,aO,aP,aC,?_,Ω⟩;rw[r9,aq,j6,j9];exact aB.ab aS (λ_ he=>by have he:aP=J:=he;omega)
abbrev gV:Type:=Rd (Λ)×Rd (Λ)×Int×Rd (List (Λ×Int))
def gD (f:ce):gV:=(f.scope,f.sizes,f.other,f.lines)
theorem AM {R:ah} {ax szv ca:y0} {sc:Λ} {l:List (Λ×Int)} (h1:al.rep (α:=Λ) false bC R w [ax] sc) (U:al.rep (α:=Λ) false bC R w [szv] J) (V:al.rep (α:=List (Λ×Int)) false bC R w [ca] l):
  Seen R w [ax,szv,Δ o,ca] ((sc,J,o,l):gV):=
 ⟨[ax],[szv,Δ o,ca],bC,bC,rfl,λ_ h=>h,λ_ h=>h,λ_ _ h _=>h,h1,[szv],[Δ o,ca],bC,bC,rfl,λ_ h=>h,λ_ h=>h,λ_ _ h _=>h,U,[Δ o],[ca],bC,bC,rfl,λ_ h=>h,λ_ h=>h,λ_ _ h _=>h,rfl,V⟩
theorem lb {R:ah} {g:Nat} (h:ao .i64 e w g v l) (X:∀r,leads v r->R r):al.rep (α:=Λ) false bC R w [v] l:=by
 have h1:bi (λr=>r=g) bC w [v] l:=mK h;obtain⟨vs,Y,F,ag,he,J,hm⟩:=gw h1;refine⟨v,rfl,vs,Y,λ_ _=>False,⟨λ_ _ h=>h,λh=>(by cases h),λh=>by cases h⟩,⟨he.1,λi c a aa ab=>?_⟩,?_,λh=>by cases h⟩
 .exact he.2 i c a aa ab
 .obtain⟨U,b,o,base,cap,rfl,ac,ad,V,ai,ae⟩:=J;refine⟨U,b,o,base,cap,rfl,ac,ad,V,λW=>.inr (X b ?_),ae⟩;have af:0<l.length:=by
   rw[U] at W;rcases Nat.eq_zero_or_pos l.length with h|h
   .rw[h,Nat.zero_mul] at W;omega
   .exact h
  exact⟨⟨b,o,ν⟩,l.length,cap,by rw[V af],rfl⟩
theorem AN {α:Type} [al α] {R R':ah} {a:α} (h:Seen R w cs a) (J:∀r,r<w.heap.size->R r->R' r):Seen R' w cs a:=al.mono h (λ_ _ h=>h) J
theorem AO {W J:Nat} (V:cs.length=4) (h1:∀v∈cs,v.oneCell'=true) (aa:ad w W b9 cs) {X:List y0} (ab:X.length=4) (ac:ad w J b9 X)
  (af:∀w',ae (λr=>r=J) w w'->K (.agg cs.toArray) w'):
  U x3 (x7 b9 (Γ W)) w λag=>
  ay x3 (o7 b9 (Γ J) ag) w λ(_:Unit) Y=>
  U x3 (do loadVar b9 (<-asAddr (Γ J))) Y λah=>K ah Y:=by
 rw[br b9.p b9.i V aa.range];refine bK b9.i V ab h1 ac λw' ai _ aj=>?_;rw[eZ b9.p b9.i V aj.range];exact af w' ai
theorem AP {s s':aE} {l:List (Λ×Int)} (h:ds sizes s=σ (l,s')):s'.shared=s.shared/\s'.toks.length<=s.toks.length:=by
 unfold ds at h;cases U:ba (-aq) aq s with
 |none=>rw[U] at h;cases h
 |some q=>
  obtain⟨n,s1⟩:=q;rw[U] at h;simp only at h;have h1:=db U;obtain⟨Y,aa,V⟩:=h1.eqs;split at h
  .cases J:s1.shared[(-n-1).toNat]? with
   |none=>rw[J] at h;cases h
   |some q=>
    obtain⟨z,l'⟩:=q;rw[J] at h;simp only at h;split at h
    .simp only[Y8,T5] at h;obtain⟨rfl,rfl⟩:=h;exact⟨V,by have:=h1.1;omega⟩
    .cases h
  .have:=ia (f:=dK sizes) (λacc t=>t.shared=s.shared/\t.toks.length<=s.toks.length) (λacc t a bD ⟨X,ab⟩ g=>by
    obtain⟨ac,ad,ae,W⟩:=mX g;obtain⟨f1,f2,f3⟩:=W.eqs;exact⟨by rw[f3,X],by have:=W.1;omega⟩) n.toNat [] (a6 (decide (16384<min (s1.told+n) aq)) {s1 with told:=min (s1.told+n) aq}) l s' ⟨V,by have:=h1.1;show s1.toks.length<=_;omega⟩ h
   exact this.1
theorem Jl {g:Nat} {A B:ah} {s:aE} {a1:y0} (h:dd w g gs A B s clean) (hi:dL s) (b7:aH .i64 w a1 all) (bH:∀r,leads a1 r->¬bE g gs A r/\r<w.heap.size)
  (cJ:∀z∈all,1<=z/\z<=aq) (dM:all.length<=100001) (cK:e2 w) (h1:cA g gs A B 1):
  ai x3 xY [Γ g,a1] w λv w'=>∃aG aF cs,∃b8:gV,v= .agg cs.toArray/\cs.length=4/\ae (bE g gs A) w w'/\(∀r,aG r->A r\/w.heap.size<=r)/\(∀r,aF r->(B r\/w.heap.size<=r)/\r<w'.heap.size)/\(∀r,B r->aF r)/\gC w' g gs aG aF clean ((cW all s).map (·.2))/\
   Seen (cA g gs aG aF) w' cs b8/\ ∀q,cW all s=σ q->b8=gD q.1:=by
 have cL:=h.1;obtain⟨dN,dO,bI,cM,aI⟩:=id cL;have ag:∀r,bE g gs A r->r<w.heap.size:=cM;have dP:aq=4611686018427387904:=rfl;have dQ:s.shared.length+s.toks.length<=100000:=h.2.2.1.2.2;refine az func91 ?_;refine bp b9.i λX V dR bJ bk=>?_;have bk:ad V X b9 [.slice ν 0 0,.slice ν 0 0,Δ 0,.slice ν 0 0]:=bk;have dS:=bJ.size;have dT:=bk.lt;have aw:¬bE g gs A X:=λW=>by have:=ag _ W;omega
 refine (uL (lo:=-aq) (hi:=aq) (h.ext bJ)).mono ?_;rintro _ aa _ ⟨aJ,a,at_,rfl,cb,cN⟩;obtain⟨bN,bO⟩:=aJ.of;have dU:=bN.size;rw[bL,bM,aQ,kW];have dV: -aq<=a/\a<=aq:=by
  cases Y:ba (-aq) aq s with
  |none=>rw[cN Y];unfold aq;omega
  |some q=>rw[cb q Y];exact (hr (n:=q.1) (s':=q.2) Y).1
 rw[wrap_i64 Ω Ω,ru,show max a (0-a)=((a.natAbs:Nat):Int) by omega];have cc:ae (bE g gs A) w aa:=(bJ.ab _).trans bN;have cO:aH .i64 aa a1 all:=iZ b7 cc λr J a n c af bP=>(bH r ⟨a,n,c,af,bP⟩).1 J;rw[aU au.u cO];refine (Ji (k:=a.natAbs) (m:=(all.length:Int)) bO Ω Ω).mono ?_;rintro ax dW _ ⟨aJ,gr,scope,a2,cP,dX,cQ⟩;obtain⟨bQ,cR⟩:=aJ.of;have z3:=bQ.size;rw[c8 (cs:=#[ax,.slice ν 0 0,Δ 0,.slice ν 0 0]) (by obtain⟨_,_,_,_,_,rfl,_⟩:=a2.ls;kernel_rfl)];refine bp b9.i λU cS dY bb bl=>?_;have bl:ad cS U b9 [.slice ν 0 0,.slice ν 0 0,Δ 0,.slice ν 0 0]:=bl;have z4:=bb.size;have dZ:=bl.lt;have bR:=a2.ls.cells;refine bK (vs:=[ax,.slice ν 0 0,Δ 0,.slice ν 0 0]) b9.i rfl rfl (by intro v af;simp at af;rcases af with rfl|rfl|rfl|rfl<;>first|exact bR.2|rfl) bl λbm bc ea cT=>?_;have aS:¬bE g gs A U:=λW=>by have:=ag _ W;omega
 have cd:dh bm g gs A B clean ((pV all.length a.natAbs ((ba (-aq) aq s).map (·.2))).map (·.2)):=(cR.ext bb).ab bc (λr J he=>by have he:r=U:=he;exact aS (he▸J)) (λr J he=>by have:=aI r J.2;have he:r=U:=he;omega);have cg:ae (bE g gs A) w bm:=gy ((cc.trans bQ).trans (bb.ab _)) bc λr J he=>by have he:r=U:=he;omega
 have cU:ad bm X b9 [.slice ν 0 0,.slice ν 0 0,Δ 0,.slice ν 0 0]:=(((bk.ab bN aw).ab bQ aw).ext bb).ab bc (λhe=>by have he:X=U:=he;omega);have cV:ao .i64 an bm gr ax scope:=be (a2.ext bb) bc λr J he=>by
  obtain⟨cX,bO⟩:=bz a2 J;have he:r=U:=he;omega
 refine (oB cd).mono ?_;rintro _ bn _ ⟨rfl,aK⟩;have aT:=cd.ext aK;have bd:=cV.ext aK;have bS:=cT.ext aK;have ch:=cU.ext aK;have ec:=aK.size;have z5:=bc.size;have aC:∀r,leads ax r->aa.heap.size<=r/\r≠U/\r≠X:=λr J=>by
  obtain⟨cX,bO⟩:=bz a2 J;have:=cP r J;exact⟨this,Ω,Ω⟩
 have ap:cW all s=match pV all.length a.natAbs ((ba (-aq) aq s).map (·.2)) with
   |none=>ν
   |some (sc,aj)=>(ig (sc.map λv=>all.getD v.toNat 0) ((a8 0 aq (σ (a6 (decide (6<a.natAbs)||df (sc.map λv=>all.getD v.toNat 0)) aj))).map (·.2))).map λq=>((⟨sc,sc.map λv=>all.getD v.toNat 0,((ba 0 aq (a6 (decide (6<a.natAbs)||df (sc.map λv=>all.getD v.toNat 0)) aj)).map (·.1)).getD 0,q.1⟩:ce),if a<0 then sb (sc.map λv=>all.getD v.toNat 0) q.1 q.2 else q.2):=by
  unfold cW;cases Y:ba (-aq) aq s with
  |none=>rfl
  |some q=>
   obtain⟨a',s1⟩:=q;have:=cb _ Y;subst this;simp only;show _=match eK all.length a.natAbs s1 with
    |none=>ν
    |some (sc,aj)=>_
   cases eK all.length a.natAbs s1 with
   |none=>rfl
   |some q=>
    obtain⟨sc,aj⟩:=q;simp only;show _=U6 _ (ig _ ((ba 0 aq _).map (·.2)));cases ba 0 aq (a6 (decide (6<a.natAbs)||df (sc.map λv=>all.getD v.toNat 0)) aj) with
    |none=>rfl
    |some q=>
     obtain⟨o,ac⟩:=q;simp only;show _=U6 _ (ds _ ac);cases ds (sc.map λv=>all.getD v.toNat 0) ac with
     |none=>rfl
     |some q=>rfl
 rw[bg,bt];cases aL:pV all.length a.natAbs ((ba (-aq) aq s).map (·.2)) with
 |none=>
  rw[aL] at aT ap;simp only at ap;refine⟨λ_=>?_,λh=>by simp at h⟩;refine AO rfl (by intro v af;simp at af;rcases af with rfl|rfl|rfl|rfl<;>first|exact bR.2|rfl) bS rfl ch λaN ay=>?_;have cY:=ay.size;refine⟨A,λr=>(B r\/w.heap.size<=r)/\r<aN.heap.size,_,(scope,[],0,[]),rfl,rfl,gy (cg.trans (aK.ab _)) ay λr J he=>by have he:r=X:=he;omega,λr J=>.inl J,λr J=>J,λr J=>⟨.inl J,by have:=aI r J;omega⟩,?_,?_,λq Y=>by rw[ap] at Y;cases Y⟩
  .rw[ap];have cZ:gC aN g gs A B clean (U6 (λx=>x.2) (ν:Option (Λ×aE))):=aT.q.ab ay (λhe=>by have:=ag g (.inl rfl);have he:g=X:=he;omega) (λr J _ he=>by have he:r=X:=he;exact aw (he▸J)) (λr J he=>by have:=aI r J.2;have he:r=X:=he;omega);exact cZ
  .refine AM (lb (be bd ay λr J he=>(aC r J).2.2 he) λr J=>?_) fN fN;have aA:=aC r J;have aV:=(bz bd J);exact⟨λW=>by have:=ag _ W;omega,.inr Ω,Ω⟩
 |some q=>
  obtain⟨sc,aj⟩:=q;have:=cQ _ aL;subst this;rw[aL] at aT ap;simp only at ap;refine⟨λh=>by simp at h,λ_=>?_⟩;have aT:dd bn g gs A B aj clean:=aT;obtain⟨s1,c1,c2⟩:∃s1,(ba (-aq) aq s).map (·.2)=σ s1/\eK all.length a.natAbs s1=σ (scope,aj):=by
   cases Y:(ba (-aq) aq s).map (·.2) with
   |none=>rw[Y] at aL;cases aL
   |some s1=>rw[Y] at aL;exact⟨s1,rfl,aL⟩
  obtain⟨ci,c3,rfl⟩:=X5.1 c1;have cj:=db (n:=ci.1) (s':=ci.2) c3;obtain⟨ck,ed,ee,cl⟩:=rN c2;have bT:=cj.eqs;have bU:=ck.eqs;have c4:dL aj:=λaD=>by rw[bU.1,bT.1];rw[bU.2.1,bT.2.1] at aD;exact hi aD
  have c5:aj.shared.length+1+aj.toks.length<=100000:=by rw[bU.2.2,bT.2.2];have:=cj.1;have:=ck.1;omega
  generalize bV:(scope.map λv=>all.getD v.toNat 0)=sizes at ap;have cm:∀z∈sizes,1<=z/\z<=aq:=λz bo=>by
   rw[<-bV] at bo;obtain⟨v,af,rfl⟩:=Z6.1 bo;have:=cl v af;refine cJ _ ?_;rw[u9,x6 Ω];exact S3 _
  have ef:sizes.length=scope.length:=by rw[<-bV,u5]
  have cn:ae (bE g gs A) w bn:=cg.trans (aK.ab _);have c6:aH .i64 bn a1 all:=iZ b7 cn λr J a n c af bP=>(bH r ⟨a,n,c,af,bP⟩).1 J;rw[av b9.p 0 bS rfl,aU au.u bd.ls];refine Jk bS bd.ls (λr J=>(aC r J).2.1) c6 (λr J=>by have:=(bH r J).2;omega) cl Ω λaN szv gz ay cp bq eg=>?_;rw[bV] at bq;have cY:=ay.size;have bW:∀r,cA g gs A B r->¬(λr=>r=U) r:=λr J he=>by have:=aI r J.2;have he:r=U:=he;omega
  have bX:∀r,bE g gs A r->¬(λr=>r=U) r:=λr J he=>by have he:r=U:=he;exact aS (he▸J)
  have cq:=aT.ab ay bX bW;have c7:ae (bE g gs A) w aN:=gy cn ay λr J he=>by have he:r=U:=he;omega
  refine dv (λbr=>ae (bE g gs A) aN br/\dd br g gs A B (a6 (decide (6<a.natAbs)||df sizes) aj) clean) ?_ ?_
  rotate_left
  .intro c9 bf;rw[bY,ak];refine⟨λeh=>?_,λei=>?_⟩
   .refine (rS cq).mono ?_;rintro _ da _ ⟨dc,de⟩;refine bf _ ⟨dc.mono λr _ h=>.inl h,?_⟩;rw[decide_eq_true Ω,Bool.true_or];exact de
   .rw[av b9.p 1 cp rfl];refine (zU bq.ls λz bo=>(cm z bo).1).mono ?_;rintro _ da _ ⟨rfl,cr⟩;refine (rS (cq.ext cr)).mono ?_;rintro _ ej _ ⟨dg,di⟩;refine bf _ ⟨(cr.ab _).trans (dg.mono λr _ h=>.inl h),?_⟩;rw[decide_eq_false Ω,Bool.false_or];exact di
  rintro br ⟨bu,bw⟩;have ek:=bu.size;generalize bI:a6 (decide (6<a.natAbs)||df sizes) aj=ac at ap bw;have dj:dL ac:=λaD=>by
   subst bI;have aD:(aj.big||_)=false:=aD;exact c4 (R3.1 aD).1
  have em:ac.shared.length+1+ac.toks.length<=100000:=by subst bI;exact c5
  have bw:dh br g gs A B clean (σ ac):=bw;refine (k9 (lo:=0) (hi:=aq) bw).mono ?_;rintro _ ct _ ⟨aJ,o,en,rfl,dk,eo⟩;obtain⟨bx,dl⟩:=aJ.of;have ep:=bx.size;rw[bL,bM,aM b9.p rfl];have dm:=(cp.ab bu aS).ab bx aS;refine bj (g:=U) (o:=2) an.i rfl rfl dm Ξ λbA aW er bB=>?_;have bB:ad bA U b9 [ax,szv,Δ o,.slice ν 0 0]:=bB;rw[av b9.p 1 bB rfl];have dn:=dl.ab aW bX bW;have bZ:ae (bE g gs A) aN ct:=bu.trans bx;have dp:ae (bE g gs A) w ct:=c7.trans bZ;have cu:ae (bE g gs A) w bA:=gy dp aW λr J he=>by have he:r=U:=he;omega
  have aO:∀r,leads szv r->bn.heap.size<=r/\r<aN.heap.size:=λr J=>by have:=bz bq J;omega
  have cw:ao .i64 an bA gz szv sizes:=be (be bq bZ λr J W=>by have:=ag _ W;have:=aO r J;omega) aW λr J he=>by have he:r=U:=he;have:=aO r J;omega
  have dq:ao .i64 an bA gr ax scope:=be (be (be bd ay λr J he=>(aC r J).2.1 he) bZ λr J W=>by have:=ag _ W;have:=aC r J;omega) aW λr J he=>(aC r J).2.1 he;have es:=aW.size;refine (Jh dn (λt b0=>?_) cw.ls (λr J=>⟨λW=>by have:=ag _ W;have:=aO r J;omega,by have:=aO r J;omega⟩) cm Ω (cK.ab cu h1.1) h1).mono ?_
  .obtain⟨q,Y,rfl⟩:=X5.1 b0;have cz:=(db (n:=q.1) (s':=q.2) Y).eqs;intro aD;rw[cz.1];rw[cz.2.1] at aD;exact dj aD
  rintro ca dr _ ⟨aJ,l,b1,cB⟩;obtain⟨aX,dt⟩:=aJ.of;have et:=aX.size;have b2:ca.cells= #[ca]/\ca.oneCell'=true:=⟨kf b1,e7 b1⟩;rw[aM b9.p rfl];have du:=bB.ab aX aS;refine bj (g:=U) (o:=3) hZ.i b2.1 b2.2 du Ξ λam aP eu bD=>?_;have bD:ad am U b9 [ax,szv,Δ o,ca]:=bD;have ev:=aP.size;have cC:=dt.ab aP bX bW;have dw:ae (bE g gs A) w dr:=cu.trans aX;have dx:ae (bE g gs A) w am:=gy dw aP λr J he=>by have he:r=U:=he;omega
  have cD:ao .i64 an am gr ax scope:=be (be dq aX λr J W=>by have:=ag _ W;have:=aC r J;omega) aP λr J he=>(aC r J).2.1 he;have bF:ao .i64 an am gz szv sizes:=be (be cw aX λr J W=>by have:=ag _ W;have:=aO r J;omega) aP λr J he=>by have he:r=U:=he;have:=aO r J;omega
  have dy:ad am X b9 [.slice ν 0 0,.slice ν 0 0,Δ 0,.slice ν 0 0]:=((((((ch.ab ay (λhe=>by have he:X=U:=he;omega)).ab bu aw).ab bx aw).ab aW (λhe=>by have he:X=U:=he;omega)).ab aX aw).ab aP (λhe=>by have he:X=U:=he;omega));let aB:ah:=λr=>(B r\/w.heap.size<=r)/\r<am.heap.size;have cE:al.rep (α:=List (Λ×Int)) false bC (λr=>cA g gs A aB r/\r≠U/\r≠X) am [ca] l:=by
   refine AN (al.ab b1 aP λr J h he=>?_) λr J h=>?_
   .have he:r=U:=he;rcases h with h|h
    .exact h
    .rcases h with h|h
     .have:=aI r h.2;omega
     .omega
   .rcases h with h|h
    .have:=aI r h.2;exact⟨⟨h.1,.inl h.2,J⟩,Ω,Ω⟩
    .exact⟨⟨λW=>by have:=ag _ W;omega,.inr Ω,J⟩,Ω,Ω⟩
  have dz:∀r,leads ax r->cA g gs A aB r/\r≠U/\r≠X:=λr J=>by
   have aA:=aC r J;have aV:=(bz cD J);exact⟨⟨λW=>by have:=ag _ W;omega,.inr Ω,Ω⟩,aA.2⟩
  have cF:∀r,leads szv r->cA g gs A aB r/\r≠U/\r≠X:=λr J=>by
   have aA:=aO r J;have aV:=(bz bF J);exact⟨⟨λW=>by have:=ag _ W;omega,.inr Ω,Ω⟩,Ω,Ω⟩
  have dA:Seen (λr=>cA g gs A aB r/\r≠U/\r≠X) am [ax,szv,Δ o,ca] ((scope,sizes,o,l):gV):=AM (lb cD dz) (lb bF cF) cE;have dC:∀q,cW all s=σ q->((scope,sizes,o,l):gV)=gD q.1:=λq Y=>by
   rw[ap] at Y;obtain⟨ew,b3,rfl⟩:=X5.1 Y;have aA:=cB _ b3;cases aY:ba 0 aq ac with
   |none=>have e:a8 0 aq (σ ac)=ν:=aY;rw[e] at b3;cases b3
   |some aR=>
    have aV:=dk aR aY;rw[aA,aV];rfl
  have dD:∀v∈[ax,szv,U1 .i64 o,ca],v.oneCell'=true:=by
   intro v af;simp at af;rcases af with rfl|rfl|rfl|rfl
   .exact bR.2
   .exact bF.ls.cells.2
   .rfl
   .exact b2.2
  have cG:∀r,cA g gs A B r->cA g gs A aB r/\r≠U/\r≠X:=λr J=>by
   have:=aI r J.2;exact⟨⟨J.1,.inl J.2,Ω⟩,Ω,Ω⟩
  refine dv (λb4=>∃aG,ae (bE g gs A) am b4/\(∀r,aG r->A r\/am.heap.size<=r)/\ ∃aF,ko b4 g gs aG aF (λr=>cA g gs A aB r/\r≠U/\r≠X) clean ((cW all s).map (·.2))) ?_ ?_
  .rintro b4 ⟨aG,bh,bi,aF,dE⟩;have ey:=bh.size;refine AO rfl dD (bD.ab bh aS) rfl (dy.ab bh aw) λb5 bG=>?_;have ez:=bG.size;have cH:∀r,bE g gs aG r->¬(λr=>r=X) r:=λr J he=>by
    have he:r=X:=he;subst he;rcases J with J|J|J
    .exact aw (.inl J)
    .exact aw (.inr (.inl J))
    .rcases bi _ J with J|J
     .exact aw (.inr (.inr J))
     .omega
   have cI:∀r,(cA g gs A aB r/\r≠U/\r≠X)->cA g gs aG (λr=>(B r\/w.heap.size<=r)/\r<b5.heap.size/\(r<am.heap.size\/B r)) r:=λr h=>⟨λW=>h.1.1 (W.imp id (Or.imp id λW=>(bi r W).elim id λh'=>by have:=h.1.2.2;omega)),h.1.2.1,by have:=h.1.2.2;omega,.inl h.1.2.2⟩;have dF:ko b5 g gs aG aF (λr=>cA g gs A aB r/\r≠U/\r≠X) clean ((cW all s).map (·.2)):=dE.ab bG (cH g (.inl rfl)) (λr J _=>cH r J) (λr J=>J.2.2);refine⟨aG,λr=>(B r\/w.heap.size<=r)/\r<b5.heap.size/\(r<am.heap.size\/B r),_,(scope,sizes,o,l),rfl,rfl,gy (dx.trans bh) bG λr J he=>by have he:r=X:=he;omega,λr J=>(bi r J).imp id λh=>Ω,λr J=>⟨J.1,J.2.1⟩,λr J=>⟨.inl J,by have:=aI r J;omega,.inr J⟩,dF.out cI λr J=>J.2.1,?_,dC⟩;refine AN (al.ab (al.ab dA bh λr _ h W=>?_) bG λr _ h he=>?_) λr _ h=>cI r h
   .rcases h with h|h
    .exact h
    .exact h.1.1 W
   .rcases h with h|h
    .exact h
    .exact h.2.2 he
  .intro c9 bf;rw[ak];refine⟨λdG=>?_,λdH=>?_⟩
   .intro b6 aZ _ _;have eA:=aZ.size;have dI:∀r,(cA g gs A aB r/\r≠U/\r≠X)->cA g gs A (oC b6.heap.size) r:=λr h=>⟨h.1.1,by have:=h.1.2.2;show r<b6.heap.size;omega⟩;refine Jj (R:=λr=>cA g gs A aB r/\r≠U/\r≠X) (z:=sizes) (l:=l) (cC.ext aZ) cG dI (λt b0=>?_) (bD.ext aZ) (lb (bF.ext aZ) cF) (a7 cE aZ) λeB aG dJ bi dK=>?_
    .obtain⟨q,Y,rfl⟩:=X5.1 b0;cases aY:ba 0 aq ac with
     |none=>have e:a8 0 aq (σ ac)=ν:=aY;rw[e] at Y;cases Y
     |some aR=>
      have e:a8 0 aq (σ ac)=σ aR:=aY;rw[e] at Y;have h1:q.2.shared=aR.2.shared/\q.2.toks.length<=aR.2.toks.length:=AP (l:=q.1) (s':=q.2) Y;have aA:=db (n:=aR.1) (s':=aR.2) aY;have aV:=aA.eqs.2.2;have eC:=aA.1;rw[h1.1,aV];have:=h1.2;omega
    .refine bf _ ⟨aG,(aZ.ab _).trans dJ,λr J=>(bi r J).imp id λh=>Ω,oC b6.heap.size,?_⟩;have e:(cW all s).map (·.2)=((ig sizes ((a8 0 aq (σ ac)).map (·.2))).map (·.2)).map (sb sizes l):=by
      rw[ap];cases Y:ig sizes ((a8 0 aq (σ ac)).map (·.2)) with
      |none=>rfl
      |some q=>
       have aA:=cB _ Y;simp only[Y4,if_pos dG,aA]
     rw[e];exact dK
   .refine bf _ ⟨A,ae.refl _ _,λr J=>.inl J,B,?_⟩;have e:(cW all s).map (·.2)=(ig sizes ((a8 0 aq (σ ac)).map (·.2))).map (·.2):=by
     rw[ap];cases Y:ig sizes ((a8 0 aq (σ ac)).map (·.2)) with
     |none=>rfl
     |some q=>simp only[Y4,if_neg dH]
    rw[e];exact cC.qr cG
def jH (l:Λ):Prop:=∀v∈l,0<=v/\v<64
theorem pW (h:jH l) {v:Int}:v∈bl l↔v∈l:=by
 unfold bl;rw[List.mem_filter,decide_eq_true_eq];refine⟨λh=>h.2,λJ=>⟨?_,J⟩⟩;obtain⟨h1,U⟩:=h v J;exact Z6.2 ⟨v.toNat,List.mem_range.2 Ω,Ω⟩
theorem Jm (l:Λ):jH (bl l):=λv J=>by
 obtain⟨n,U,rfl⟩:=Z6.1 (List.mem_filter.1 J).1;have:=List.mem_range.1 U;omega
theorem u1 (l:Λ):(bl l).Pairwise (·< ·):=by
 unfold bl;refine List.Pairwise.filter _ ?_;rw[List.pairwise_map];exact List.pairwise_lt_range.imp λh=>Ω
theorem AQ (l:Λ):(bl l).Nodup:=(u1 l).imp λh=>Ω
where
 nodup_le' {a b:Λ} (h:a.Nodup) (J:∀x∈a,x∈b):a.length<=b.length:=by
  induction a generalizing b with
  |nil=>exact X7 _
  |cons x a ih=>
   have h':=List.nodup_cons.1 h;have hx:=J x (.head _);have:=ih (b:=b.erase x) h'.2 λy hy=>(List.mem_erase_of_ne (λ(he:y=x)=>h'.1 (by rw[<-he];exact hy))).2 (J y (.tail _ hy));rw[List.length_erase_of_mem hx] at this;have:=List.length_pos_of_mem hx;rw[Z5];omega
theorem AR (n:Nat):(0:Int)<64 ^ n:=Int.pow_pos Ω
theorem sd:∀ (l:Λ),jH l->0<=iH l/\iH l<64 ^ l.length
 |[],_=>by simp[iH]
 |x::l,h=>by
  have V:=sd l λy J=>h y (.tail _ J);have U:=h x (.head _);have W:=AR l.length;simp only[iH,Z5];have e:(64:Int) ^ (l.length+1)=64*64 ^ l.length:=by rw[Int.pow_succ,Int.mul_comm]
  have h1:x*64 ^ l.length<=63*64 ^ l.length:=Int.mul_le_mul_of_nonneg_right Ω Ω;have X:0<=x*64 ^ l.length:=Int.mul_nonneg U.1 Ω;rw[e];omega
def fB:Λ->Λ->Int
 |x::a,y::b=>if x<y then-1 else if y<x then 1 else fB a b
 |[],[]=>0
 |[],_::_=>-1
 |_::_,[]=>1
theorem AS:∀ (a b:Λ),a.length=b.length->jH a->jH b->(fB a b<0↔iH a<iH b)/\(fB a b=0↔a=b)/\(iH a=iH b->a=b)
 |[],[],_,_,_=>by simp[fB]
 |[],_::_,h,_,_=>by simp at h
 |_::_,[],h,_,_=>by simp at h
 |x::a,y::b,h,aa,ab=>by
  have W:a.length=b.length:=by simpa using h
  have X:jH a:=λz J=>aa z (.tail _ J);have Y:jH b:=λz J=>ab z (.tail _ J);have U:=AS a b W X Y;have ac:=sd a X;have ae:=sd b Y;have af:=AR b.length;simp only[fB,iH];rw[W] at ac ⊢;have step:∀u v:Int,u<v->u*64 ^ b.length+64 ^ b.length<=v*64 ^ b.length:=λu v ag=>by
   have:=Int.mul_le_mul_of_nonneg_right (show u+1<=v by omega) (show (0:Int)<=64 ^ b.length by omega);rw[Int.add_mul,Int.one_mul] at this;exact this
  by_cases h1:x<y
  .rw[if_pos h1];have:=step x y h1;exact⟨⟨λ_=>Ω,λ_=>Ω⟩,⟨λh=>Ω,λh=>by have:=(List.cons.inj h).1;omega⟩,λh=>Ω⟩
  .rw[if_neg h1];by_cases V:y<x
   .rw[if_pos V];have:=step y x V;exact⟨⟨λh=>Ω,λh=>Ω⟩,⟨λh=>Ω,λh=>by have:=(List.cons.inj h).1;omega⟩,λh=>Ω⟩
   .rw[if_neg V];have ad:x=y:=Ω
    subst ad;exact⟨U.1.trans ⟨λh=>Ω,λh=>Ω⟩,U.2.1.trans ⟨λh=>by rw[h],λh=>(List.cons.inj h).2⟩,λh=>by rw[U.2.2 Ω]⟩
def iI (l:Λ):Prop:=jH l/\l.length<=6
theorem AT (h:iI l):0<=iH l/\iH l<64 ^ 6:=by
 have:=sd l h.1;have U:(64:Int) ^ l.length<=64 ^ 6:=by
  have J:=h.2
  match l.length,J with
  |0,_=>decide
  |1,_=>decide
  |2,_=>decide
  |3,_=>decide
  |4,_=>decide
  |5,_=>decide
  |6,_=>decide
  |n+7,h=>omega
 omega
theorem u2 {b:Λ} (U:iI a) (V:iI b):(c9 a<c9 b↔a.length<b.length\/(a.length=b.length/\fB a b<0))/\(c9 a=c9 b->a=b):=by
 have h1:=AT U;have W:=AT V;have e:(64:Int) ^ 6=68719476736:=Φ
 rw[e] at h1 W;unfold c9;rw[e];by_cases J:a.length=b.length
 .have:=AS a b J U.1 V.1;rw[J];exact⟨⟨λh=>.inr ⟨rfl,this.1.2 Ω⟩,λh=>by
   rcases h with h|⟨_,h⟩
   .omega
   .have:=this.1.1 h;omega⟩,λh=>this.2.2 Ω⟩
 .exact⟨⟨λh=>.inl Ω,λh=>by
   rcases h with h|⟨h,_⟩
   .omega
   .exact absurd h J⟩,λh=>Ω⟩
theorem se (g:cu):∀l:List cu,(gS g l).Perm (g::l)
 |[]=>List.Perm.refl _
 |h::l=>by
  unfold gS;split
  .exact ((se g l).cons h).trans (List.Perm.swap g h l)
  .exact List.Perm.refl _
theorem AU {g:cu}:∀ {l:List cu},l.Pairwise (λa b=>c9 a.1<c9 b.1)->(∀h∈l,c9 h.1≠c9 g.1)->(gS g l).Pairwise (λa b=>c9 a.1<c9 b.1)
 |[],_,_=>by simp[gS]
 |h::l,V,W=>by
  have U:=List.pairwise_cons.1 V;unfold gS;split
  .rename_i X;refine List.pairwise_cons.2 ⟨λx J=>?_,AU U.2 λx J=>W x (.tail _ J)⟩;rcases T1.1 ((se g l).mem_iff.1 J) with rfl|J
   .exact X
   .exact U.1 x J
  .rename_i Y;have:=W h (.head _);refine List.pairwise_cons.2 ⟨λx J=>?_,V⟩;rcases T1.1 J with rfl|J
   .omega
   .have:=U.1 x J;omega
theorem AV:∀ (l acc:List cu),acc.Pairwise (λa b=>c9 a.1<c9 b.1)->l.Pairwise (λa b=>c9 a.1≠c9 b.1)->(∀a∈acc,∀b∈l,c9 a.1≠c9 b.1)->
  (l.foldl (λl g=>gS g l) acc).Pairwise (λa b=>c9 a.1<c9 b.1)/\(l.foldl (λl g=>gS g l) acc).Perm (acc++l)
 |[],acc,h,_,_=>⟨h,Ξ⟩
 |g::l,acc,h,X,U=>by
  have V:=List.pairwise_cons.1 X;have:=AV l (gS g acc) (AU h λa J=>U a J g (.head _)) V.2 λa J b W=>by
   rcases T1.1 ((se g acc).mem_iff.1 J) with rfl|J
   .exact V.1 b W
   .exact U a J b (.tail _ W)
  refine⟨this.1,this.2.trans ?_⟩;exact ((se g acc).append_right l).trans (List.perm_middle (a:=g) (l₁:=acc) (l₂:=l)).symm
theorem u3 {α:Type} {f:α->Int}:∀ {L M:List α},L.Pairwise (λa b=>f a<f b)->M.Pairwise (λa b=>f a<f b)->(∀x,x∈L↔x∈M)->L=M
 |[],M,_,_,h=>by
  cases M with
  |nil=>rfl
  |cons y M=>exact absurd ((h y).2 (.head _)) Ξ
 |x::L,[],_,_,h=>absurd ((h x).1 (.head _)) Ξ
 |x::L,y::M,h1,W,h=>by
  have U:=List.pairwise_cons.1 h1;have V:=List.pairwise_cons.1 W;have X:x=y:=by
   rcases T1.1 ((h x).1 (.head _)) with he|hm
   .exact he
   .rcases T1.1 ((h y).2 (.head _)) with he|Y
    .exact he.symm
    .have a:=V.1 x hm;have b:=U.1 y Y;omega
  subst X;rw[u3 U.2 V.2 λz=>⟨λJ=>?_,λJ=>?_⟩]
  .rcases T1.1 ((h z).1 (.tail _ J)) with he|hm
   .subst he;have:=U.1 z J;omega
   .exact hm
  .rcases T1.1 ((h z).2 (.tail _ J)) with he|hm
   .subst he;have:=V.1 z J;omega
   .exact hm
structure fo (sizes:Λ) (k:Int) (g:cu):Prop where
 scope:iI g.1
 up:g.1.Pairwise (·< ·)
 vars:∀v∈g.1,v<sizes.length
 len:g.2.length=(aJ (bI sizes g.1)).toNat
 small:aJ (bI sizes g.1)<=4096
 iJ:∀c∈g.2,0<=c/\c<=k
theorem ld {sc:Λ} (U:∀z∈sizes,1<=z/\z<=32) (V:∀v∈sc,0<=v/\v<sizes.length):∀z∈bI sizes sc,1<=z/\z<=32:=λz h=>by
 obtain⟨v,W,rfl⟩:=Z6.1 h;obtain⟨h1,X⟩:=V v W;have J:v.toNat<sizes.length:=Ω
 rw[u9,x6 J];exact U _ (S3 J)
theorem Jn {b:Λ} (h:a.Perm b):aJ a=aJ b:=by
 induction h with
 |nil=>rfl
 |cons x _ J=>simp only[aJ,J]
 |swap x y l=>simp only[aJ];rw[<-Int.mul_assoc,<-Int.mul_assoc,Int.mul_comm y x]
 |trans _ _ h1 U=>exact h1.trans U
theorem Jo {b:Λ} (h:a.length=b.length):(dQ k a b).length=b.length:=by simp[dQ,h]
theorem Jp {b:Λ} (hk:0<=k) (U:∀c∈a,0<=c/\c<=k) (V:∀c∈b,0<=c/\c<=k):∀c∈dQ k a b,0<=c/\c<=k:=by
 induction a generalizing b with
 |nil=>intro c J;simp[dQ] at J
 |cons x a W=>
  cases b with
  |nil=>intro c J;simp[dQ] at J
  |cons y b=>
   intro c J;have X:=U x (.head _);have Y:=V y (.head _);rcases T1.1 (show c∈min (x+y) k::dQ k a b from J) with rfl|J
   .omega
   .exact W (λc h=>U c (.tail _ h)) (λc h=>V c (.tail _ h)) c J
def ih (l:List cu):Prop:=(l.map (·.1)).Nodup
theorem Jq {acc:List cu} {g:cu} (hk:0<=k) (V:∀h∈acc,fo sizes k h) (W:ih acc) (J:fo sizes k g):(∀h∈hM k acc g,fo sizes k h)/\ih (hM k acc g)/\(hM k acc g).length<=acc.length+1:=by
 unfold hM;split
 .refine⟨λh aw=>?_,?_,Ξ⟩
  .obtain⟨U,hm,rfl⟩:=Z6.1 aw;have h1:=V U hm;split
   .rename_i he;have Y:U.2.length=g.2.length:=by rw[h1.len,J.len,he]
    exact⟨h1.scope,h1.up,h1.vars,by show (dQ k U.2 g.2).length=_;rw[Jo Y,J.len,he],h1.small,Jp hk h1.iJ J.iJ⟩
   .exact h1
  .unfold ih;rw[List.map_map];have e:((λx:cu=>x.1)∘λh:cu=>if h.1=g.1 then (h.1,dQ k h.2 g.2) else h)=λx:cu=>x.1:=by
    funext h;simp only[Function.comp];split<;>rfl
   rw[e];exact W
 .rename_i aa;refine⟨λh aw=>?_,?_,Ξ⟩
  .rcases l5.1 aw with aw|aw
   .exact V h aw
   .rw[l9.1 aw];exact J
  .unfold ih;rw[j9];exact List.nodup_append.2 ⟨W,Ξ,λx ab y X he=>by
    simp only[T2,List.map_nil,l9] at X;subst X;subst he;exact aa ab⟩
theorem u6 {sizes:Λ} {k:Int} (hk:0<=k):∀ {l acc:List cu},(∀h∈acc,fo sizes k h)->ih acc->(∀g∈l,fo sizes k g)->(∀h∈l.foldl (hM k) acc,fo sizes k h)/\ih (l.foldl (hM k) acc)/\(l.foldl (hM k) acc).length<=acc.length+l.length
 |[],acc,J,U,_=>⟨J,U,Ξ⟩
 |g::l,acc,J,U,V=>by
  obtain⟨h1,W,ab⟩:=Jq hk J U (V g (.head _));obtain⟨X,Y,ac⟩:=u6 hk h1 W λx aa=>V x (.tail _ aa);exact⟨X,Y,by simp only[List.foldl_cons,Z5];omega⟩
theorem AW {α:Type} [DecidableEq α]:∀ {a b:List α},a.Nodup->b.Nodup->(∀x,x∈a↔x∈b)->a.Perm b
 |[],b,_,_,h=>by
  cases b with
  |nil=>exact .refl _
  |cons y b=>exact absurd ((h y).2 (.head _)) Ξ
 |x::a,b,W,U,h=>by
  have X:=(h x).1 (.head _);have V:=List.nodup_cons.1 W;refine .trans ?_ (List.perm_cons_erase X).symm;refine .cons x (AW V.2 (U.erase x) λy=>?_);rw[U.mem_erase_iff];refine⟨λJ=>⟨λhe=>V.1 (he▸J),(h y).1 (.tail _ J)⟩,λ⟨Y,J⟩=>?_⟩;rcases T1.1 ((h y).2 J) with he|hm
  .exact absurd he Y
  .exact hm
theorem sf (h:jH l) (J:l.Nodup):(bl l).Perm l:=AW (AQ l) J λ_=>pW h
theorem u7:∀ {l:Λ},(∀z∈l,1<=z/\z<=32)->l.map (λz=>min z 4097)=l
 |[],_=>rfl
 |z::l,h=>by
  have U:=h z (.head _);rw[T2,u7 λx J=>h x (.tail _ J)];congr 1;omega
theorem Jr {x:ce} (hk:0<=k) (V:0<=x.other) (J:∀p∈x.lines,0<=p.2):0<=jb x k t/\jb x k t<=k:=by
 unfold jb;cases U:x.lines.find? (λp=>decide (p.1=t)) with
 |none=>simp only;omega
 |some p=>have:=J p (List.mem_of_find?_eq_some U);simp only;omega
theorem sg {x:ce} (h:rO all N x) (U:all.length<=64):jH x.scope:=λv J=>by
 have:=h.scope.2 v J;omega
theorem oD {f:b4} {x:ce} (J:e1 N f) (aa:x∈f.funs):fo f.sizes f.k (hs f.sizes f.k x):=by
 obtain⟨h1,ab,V⟩:=J.funs x aa;have ac:=J.sizes.2.1;have W:=sg h1 ac;have U:=sf W h1.scope.1;have X:∀v∈bl x.scope,0<=v/\v<f.sizes.length:=λv hm=>h1.scope.2 v ((pW W).1 hm);have ad:=ld J.sizes.2.2 X;have ae:aJ (bI f.sizes (bl x.scope))=aJ x.sizes:=by rw[h1.sizes];exact Jn (U.map _)
 refine⟨⟨Jm _,?_⟩,u1 _,λv hm=>(X v hm).2,?_,?_,λc af=>?_⟩
 .show (bl x.scope).length<=6;rw[U.length_eq];exact ab
 .show ((bh _).map _).length=_;rw[u5,hq ad];rfl
 .show aJ (bI f.sizes (bl x.scope))<=4096;have ag:∀z∈x.sizes,1<=z/\z<=32:=λz Y=>by
   rw[h1.sizes] at Y;exact ld J.sizes.2.2 (λv hm=>h1.scope.2 v hm) z Y
  unfold df at V;rw[u7 ag,decide_eq_false_iff_not] at V;rw[ae];omega
 .obtain⟨t,_,rfl⟩:=Z6.1 af;exact Jr (by have:=J.k.1;omega) h1.other λp U=>(h1.lines.2 p U).2
theorem kp {f:b4} (J:e1 N f):(∀g∈e9 f,fo f.sizes f.k g)/\ih (e9 f)/\(e9 f).length<=f.funs.length:=by
 have:=u6 (sizes:=f.sizes) (k:=f.k) (by have:=J.k.1;omega) (l:=f.funs.map (hs f.sizes f.k)) (acc:=[]) (λh aw=>by cases aw) List.nodup_nil λg V=>by
  obtain⟨x,W,rfl⟩:=Z6.1 V;exact oD J W
 refine⟨this.1,this.2.1,?_⟩;have U:=this.2.2;rw[List.length_nil,u5,V8] at U;exact U
theorem AX {l:List cu} (J:∀g∈l,fo sizes k g) (U:ih l):l.Pairwise λa b=>c9 a.1≠c9 b.1:=by
 have h1:l.Pairwise λa b=>a.1≠b.1:=by
  unfold ih List.Nodup at U;rwa [List.pairwise_map] at U
 exact h1.imp_of_mem λ{a b} V W X he=>X ((u2 (J a V).scope (J b W).scope).2 he)
theorem pX {f:b4} (U:e1 N f):(fl f).Pairwise (λa b=>c9 a.1<c9 b.1)/\(fl f).Perm ((e9 f).filter fk):=by
 obtain⟨h1,V,_⟩:=kp U;have W:∀g∈(e9 f).filter fk,fo f.sizes f.k g:=λg X=>h1 g (List.mem_filter.1 X).1;have Y:ih ((e9 f).filter fk):=(List.Sublist.map _ List.filter_sublist).nodup V;have:=AV ((e9 f).filter fk) [] List.Pairwise.nil (AX W Y) λa aa=>by cases aa
 refine⟨this.1,?_⟩;have J:=this.2;rw[List.nil_append] at J;exact J
theorem sh {f:b4} (J:e1 N f):∀g∈fl f,fo f.sizes f.k g:=λg U=>(kp J).1 g (List.mem_filter.1 ((pX J).2.mem_iff.1 U)).1
theorem Js {f:b4} (U:e1 N f) {M:List cu} (V:M.Perm ((e9 f).filter fk)) (J:M.Pairwise λa b=>c9 a.1<=c9 b.1):M=fl f:=by
 obtain⟨h1,W⟩:=pX U;have X:ih ((e9 f).filter fk):=(List.Sublist.map _ List.filter_sublist).nodup (kp U).2.1;have Y:ih M:=(V.map (λg:cu=>g.1)).nodup_iff.2 X;have aa:∀g∈M,fo f.sizes f.k g:=λg ab=>(kp U).1 g (List.mem_filter.1 (V.mem_iff.1 ab)).1;have ac:=AX aa Y;refine u3 (f:=λg:cu=>c9 g.1) ?_ h1 λx=>by rw[V.mem_iff,W.mem_iff]
 exact J.imp₂ (λa b h1 W=>Int.lt_iff_le_and_ne.2 ⟨h1,W⟩) ac
structure jg (n:aY):Prop where
 k:1<=n.k/\n.k<=2147483648
 sizes:1<=n.sizes.length/\n.sizes.length<=64/\ ∀z∈n.sizes,1<=z/\z<=32
 zero:0<=n.zero/\n.zero<=n.k
 jI:n.unary.length=n.sizes.length
 unary:∀ (i:Nat) (z:Int) (u:Λ),n.sizes[i]? =σ z->n.unary[i]? =σ u->u.length=z.toNat/\ ∀c∈u,0<=c/\c<=n.k
 funs:∀g∈n.funs,fo n.sizes n.k g/\2<=g.1.length
theorem Jt (z:Int):aJ [z]=z:=by simp[aJ]
theorem si:∀ {l:List cu} {n:aY},jg n->(∀g∈l,fo n.sizes n.k g)->jg (l.foldl (λn g=>match g.1 with
 |[]=>{n with zero:=g.2.getD 0 0}
 |[v]=>{n with unary:=n.unary.set v.toNat g.2}
 |_=>{n with funs:=n.funs++[g]}) n)/\(l.foldl (λn g=>match g.1 with
 |[]=>{n with zero:=g.2.getD 0 0}
 |[v]=>{n with unary:=n.unary.set v.toNat g.2}
 |_=>{n with funs:=n.funs++[g]}) n).sizes=n.sizes
 |[],n,h,_=>⟨h,rfl⟩
 |g::l,n,h,W=>by
  have J:=W g (.head _);have V:∀x∈l,fo n.sizes n.k x:=λx U=>W x (.tail _ U);rw[List.foldl_cons];obtain⟨sc,cs⟩:=g
  match sc,J with
  |[],J=>
   have Y:=J.len;refine si (n:={n with zero:=cs.getD 0 0}) ⟨h.k,h.sizes,?_,h.jI,h.unary,h.funs⟩ V;have h1:cs.length=1:=by simpa[bI,aJ] using Y
   have aa:cs[0]? =σ (cs.getD 0 0):=by rw[u9,x6 Ω];rfl
   exact J.iJ _ (x5 aa)
  |[v],J=>
   have ac:=J.scope.1 v (.head _);have ad:=J.vars v (.head _);refine si (n:={n with unary:=n.unary.set v.toNat cs}) ⟨h.k,h.sizes,h.zero,by show (n.unary.set _ _).length=_;rw[W0];exact h.jI,λi z u X hu=>?_,h.funs⟩ V;by_cases hi:v.toNat=i
   .subst hi;have ae:=h.jI;rw[U5 Ω] at hu;cases hu;have ab:bI n.sizes [v]=[z]:=by
     simp only[bI,T2,List.map_nil];rw[u9,X];rfl
    refine⟨?_,J.iJ⟩;have:=J.len;rw[ab,Jt] at this;exact this
   .rw[V3 hi] at hu;exact h.unary i z u X hu
  |a::b::r,J=>
   refine si (n:={n with funs:=n.funs++[(a::b::r,cs)]}) ⟨h.k,h.sizes,h.zero,h.jI,h.unary,λx U=>?_⟩ V;rcases l5.1 U with U|U
   .exact h.funs x U
   .rw[l9.1 U];exact⟨J,Ξ⟩
theorem AY {f:b4} (J:e1 N f):jg (cM f)/\(cM f).sizes=f.sizes:=by
 unfold cM;have V:=J.sizes;refine si (n:=⟨f.k,f.sizes,0,f.sizes.map λz=>o8 z.toNat 0,[]⟩) ⟨J.k,V,⟨by show (0:Int)<=0;omega,by show (0:Int)<=f.k;have:=J.k.1;omega⟩,Ξ,λi z u h1 U=>?_,λg W=>by cases W⟩ (sh J);have U:(f.sizes.map λz=>o8 z.toNat (0:Int))[i]? =σ u:=U;have h1:f.sizes[i]? =σ z:=h1;rw[u4,h1] at U;cases U;refine⟨Ξ,λc X=>?_⟩;rw[(List.mem_replicate.1 X).2];have:=J.k.1;exact⟨Int.le_refl _,by show (0:Int)<=f.k;omega⟩
def kq (x:ce) (k:Int) (i:Nat) (t:Λ):Int:=match (x.lines.take i).find? (λp=>decide (p.1=t)) with
 |some p=>min p.2 k
 |none=>min x.other k
theorem AZ (x:ce) (k:Int) (t:Λ):kq x k 0 t=min x.other k:=by simp[kq]
theorem A0 (x:ce) (k:Int) (t:Λ):kq x k x.lines.length t=jb x k t:=by
 unfold kq jb;rw[o9];cases x.lines.find? (λp=>decide (p.1=t))<;>rfl
theorem A1 {x:ce} {i:Nat} {p:Λ×Int} (ab:(x.lines.map (·.1)).Nodup) (hi:x.lines[i]? =σ p) (t:Λ):kq x k (i+1) t=if t=p.1 then min p.2 k else kq x k i t:=by
 unfold kq;rw[r9,hi,j6,List.find?_append];by_cases J:t=p.1
 .subst J;have ac:(x.lines.take i).find? (λq=>decide (q.1=p.1))=ν:=by
   rw[List.find?_eq_none];intro q U he;have he:q.1=p.1:=by simpa using he
   obtain⟨j,V⟩:=X4.1 U;have W:j<i:=by have:=(x4.1 V).1;rw[o5] at this;omega
   rw[Y7 W] at V;have X:=x4.1 V;have Y:=x4.1 hi;have aa:=U3.1 ab j i (by rw[u5];exact X.1) (by rw[u5];exact Y.1) W;rw[List.getElem_map,List.getElem_map,X.2,Y.2] at aa;exact aa he
  rw[ac,if_pos rfl];simp
 .rw[if_neg J];have:[p].find? (λq=>decide (q.1=t))=ν:=by
   rw[List.find?_eq_none];intro q U he;rw[l9.1 U] at he;exact J (of_decide_eq_true he).symm
  rw[this,Option.or_none]
theorem oE {v:Int} (h:v∈l):l[l.idxOf v]? =σ v:=by
 have:=List.idxOf_lt_length_iff.2 h;rw[x6 this,List.getElem_idxOf this]
theorem pY {i:Nat} {v:Int} (W:l.Nodup) (h:l[i]? =σ v):l.idxOf v=i:=by
 have hm:=x5 h;have h1:=oE hm;have J:=x4.1 h1;have U:=x4.1 h;rcases Nat.lt_trichotomy (l.idxOf v) i with V|he|V
 .exact absurd (J.2.trans U.2.symm) (U3.1 W _ _ J.1 U.1 V)
 .exact he
 .exact absurd (U.2.trans J.2.symm) (U3.1 W _ _ U.1 J.1 V)
def fC (scope J:Λ):Λ:=J.map λv=>((scope.idxOf v:Nat):Int)
theorem sj {U:Λ} (aa:scope.Nodup) (J:U.Perm scope):Good (fC scope U) scope.length:=by
 have X:U.Nodup:=J.nodup_iff.2 aa;refine⟨by simp[fC,J.length_eq],λi p V=>?_⟩;unfold fC at V;rw[u4] at V;obtain⟨v,Y,rfl⟩:=X5.1 V;have hm:v∈scope:=J.mem_iff.1 (x5 Y);have ad:=List.idxOf_lt_length_iff.2 hm;refine⟨⟨Ω,Ω⟩,λj ae W=>?_⟩;unfold fC at W;rw[u4] at W;obtain⟨u,hu,he⟩:=X5.1 W;have ab:u∈scope:=J.mem_iff.1 (x5 hu);have e:scope.idxOf u=scope.idxOf v:=Ω
 have h1:=oE ab;rw[e,oE hm] at h1;have ac:v=u:=Z9 h1;subst ac;have af:=pY X hu;have ag:=pY X Y;omega
theorem A2 {v:Int} (U:J[j]? =σ v):(fC scope J)[j]? =σ ((scope.idxOf v:Nat):Int):=by
 unfold fC;rw[u4,U];rfl
theorem Ju (X:scope.Nodup) (V:J.Perm scope):ee (bI sizes scope) (fC scope J)=bI sizes J:=by
 refine W5 λj=>?_;cases U:J[j]? with
 |none=>
  have W:=List.getElem?_eq_none_iff.1 U;rw[Y9 (by rw[rL];simp[fC];exact W),Y9 (by simp[bI];exact W)]
 |some v=>
  have hm:v∈scope:=V.mem_iff.1 (x5 U);have Y:=sj X V;rw[zE Y (by simp[bI]) (A2 U),j0];unfold bI;rw[u4,u4,oE hm,U]
theorem A3 (X:scope.Nodup) (U:J.Perm scope) (Y:t.length=scope.length):k8 (fC scope J) t=ou scope J t:=by
 have aa:=sj X U;refine (zD aa Y (by simp[ou]) λj p V=>?_).symm;unfold fC at V;rw[u4] at V;obtain⟨v,W,rfl⟩:=X5.1 V;have hm:v∈scope:=U.mem_iff.1 (x5 W);have ab:J.Nodup:=U.nodup_iff.2 X;have ac:=(x4.1 W).1;have ad:=U.length_eq;unfold ou;rw[j0,u4,oE hm,Y4,pY ab W,u9,x6 (show j<t.length by omega)];rfl
theorem Jv {f:b4} {x:ce} {cs:Λ} (V:e1 N f) (ac:x∈f.funs) (aj:cs.length=(aJ x.sizes).toNat) (ad:∀t,dg x.sizes t->ch x.sizes cs t=jb x f.k t):
  ee x.sizes (fC x.scope (bl x.scope))=bI f.sizes (bl x.scope)/\mW x.sizes cs (fC x.scope (bl x.scope))=(hs f.sizes f.k x).2:=by
 obtain⟨h1,ak,al⟩:=V.funs x ac;have X:=sg h1 V.sizes.2.1;have J:=sf X h1.scope.1;have Y:x.sizes=bI f.sizes x.scope:=h1.sizes;have W:ee x.sizes (fC x.scope (bl x.scope))=bI f.sizes (bl x.scope):=by rw[Y];exact Ju h1.scope.1 J
 have ae:=sj h1.scope.1 J;have af:∀v∈bl x.scope,0<=v/\v<f.sizes.length:=λv hm=>h1.scope.2 v ((pW X).1 hm);have U:dW (bI f.sizes (bl x.scope)):=ld V.sizes.2.2 af;refine⟨W,?_⟩;have ag:x.sizes.length=x.scope.length:=by rw[Y];simp[bI]
 unfold mW;rw[W];show _=(bh (bI f.sizes (bl x.scope))).map λt=>jb x f.k (ou x.scope (bl x.scope) t);refine W5 λq=>?_;rw[u4,u4];have am:=k7 U;by_cases aa:q<(aJ (bI f.sizes (bl x.scope))).toNat
 .have ah:=mU U (i:=q) Ω;rw[ah,List.getElem?_range aa];simp only[Y4];have ai:=uF U aa;have ab:(cF (bI f.sizes (bl x.scope)) q).length=x.scope.length:=by rw[iC];simp[bI,J.length_eq]
  rw[A3 h1.scope.1 J ab,ad];have:=HT (s:=x.sizes) ae ag (by rw[W];exact ai);rw[A3 h1.scope.1 J ab] at this;exact this
 .rw[Y9 Θ,Y9 (by rw[hq U];omega)];rfl
theorem Jw {U V:Λ} (J:dW szs) (h1:U.length=(aJ szs).toNat) (W:V.length=(aJ szs).toNat):
  dQ k U V=(V0 (aJ szs).toNat).map λ(q:Nat)=>min (ch szs U (cF szs q)+ch szs V (cF szs q)) k:=by
 conv=>lhs;rw[rK J h1,rK J W]
 unfold dQ;rw[List.zipWith_map,List.zipWith_self]
theorem Jx {cN:Nat} {d:List (y0×y0)} {KS:List (Λ)} (W:ad w cN h2 [.map (σ m)]) (hm:c6 w m d) (X:d.map (·.1)=KS.map dX) (U:oA KS) (ah:KS.length<65536):
  ai x3 F5 [.func (.func kU) #[] #[Γ cN],As] w λv w'=>Ext w w'/\ ∃g M,M.Perm KS/\r7 fS M 0 M.length/\m9 w' g v M:=by
 refine az func249 ?_;refine (IC W hm X (λks h=>(U ks h).1) Ω).mono ?_;rintro v V _ ⟨Y,g,L,ab,J,ac⟩;refine (IQ ac (U.perm J) (by rw[J.length_eq];omega)).mono ?_;rintro _ aa _ ⟨ae,M,af,hu,ag⟩;exact⟨Y.then ae (λr aj h=>by have:=ab r h;omega),g,M,af.trans J,hu,ag⟩
theorem A4 {α β:Type} {f:α->β}:∀ {M:List β} {D:List α},M.Perm (D.map f)-> ∃L:List α,L.Perm D/\L.map f=M
 |[],D,h=>by
  have h1:=h.length_eq;simp at h1;have:D=[]:=Z8 h1.symm;exact⟨[],by rw[this],rfl⟩
 |x::M,D,h=>by
  have J:x∈D.map f:=h.mem_iff.1 (.head _);obtain⟨p,U,rfl⟩:=Z6.1 J;obtain⟨A,B,rfl⟩:=List.append_of_mem U;have V:(f p::M).Perm (f p::(A++B).map f):=h.trans (by
   rw[j9,T2,j9];exact List.perm_middle)
  obtain⟨L,W,X⟩:=A4 (List.Perm.cons_inv V);exact⟨p::L,(W.cons p).trans List.perm_middle.symm,by rw[T2,X]⟩
theorem A5 {g:Nat} {ks:Λ} (Y:ks.length=6) (aa:n<=6) (U:cs=ints .i8 ks) (V:ad w g cz cs):aH .i8 w (.slice (σ (if 6=0 then⟨g,0,ν⟩ else⟨g,0+0*1,ν⟩)) (n-0) (6-0)) (ks.take n):=by
 subst U;rw[if_neg Ω];unfold aH;have W:(ks.take n).length=n:=by rw[o5];omega
 rw[W];refine⟨Θ,g,0,_,6,rfl,Ω,by simp[maxLen],λ_=>rfl,λj v J=>?_⟩;have X:=(x4.1 J).1;refine V.range j v ?_;rw[ints,List.map_take,Y7 (by simp[ints] at X;omega)] at J;exact J
def Jy (D L:Told):Prop:=L.Perm D/\r7 (λp=>fS (pad p.1)) L 0 L.length
theorem Jz {g:Nat} {D:Told} (h:eD w g m szs k o D) (bD:D.length<65536):ai x3 FD [Γ g] w λv w'=>Ext w w'/\ ∃L:Told,Jy D L/\bi (eL w.heap.size) bC w' [v] L:=by
 obtain⟨⟨sv,gs,aG,hm⟩,bE,J,cd,a1⟩:=id h;have bF:oA (D.map λp=>pad p.1):=λks hk=>by
  obtain⟨p,bG,rfl⟩:=Z6.1 hk;exact pN J (a1 p bG).1
 refine az func186 ?_;rw[cR eI.u];simp only[Z7,aT];rw[aK fh.p 3 aG rfl];refine IA.mono ?_;rintro _ V _ ⟨aH,cN,rfl,ce,bH⟩;refine (Jx (KS:=D.map λp=>pad p.1) bH (bE.ext aH) (by rw[List.map_map,List.map_map];rfl) bF (by simpa using bD)).mono ?_;rintro cg aa _ ⟨a2,ch,M,bI,bJ,a6⟩;obtain⟨L,aI,ax⟩:=A4 bI;have a8:M.length=L.length:=by rw[<-ax];simp
 have ci:=aI.length_eq;have s1:=aH.size;have cj:=a2.size;have ba:=aH.trans a2;rw[dt iA.u a6];refine bA.range L.length (λi out U=>Ext aa U/\bi (eL aa.heap.size) bC U [out] (L.take i)) Ω ⟨Ext.refl _,by rw[List.take_zero];exact fN⟩ ?_ ?_
 rotate_left
 .rintro out U bL ⟨ah,ay⟩;rw[a8];simp only[aQ,ak];refine⟨λh=>Ω,λ_=>⟨ba.trans ah,L,⟨aI,λp q x y h1 bM ck bN bO=>?_⟩,?_⟩⟩
  .exact bJ p q (pad x.1) (pad y.1) h1 bM Ω (by rw[<-ax,u4,bN];rfl) (by rw[<-ax,u4,bO];rfl)
  .rw[o9] at ay;exact al.mono ay (λr _ h=>by have h:aa.heap.size<=r:=h;show w.heap.size<=r;omega) λ_ _ h=>h
 rintro i out U bL hi ⟨ah,ay⟩ bP;obtain⟨⟨t,c⟩,aJ⟩:∃p,L[i]? =σ p:=⟨_,x6 hi⟩;have aO:(t,c)∈D:=aI.mem_iff.1 (x5 aJ);have aP:=(a1 _ aO).1;have bb:=uP J aP;have aR:t.length=szs.length:=bb.1;have bc:=J.1;have bQ:kk (pad t):=pN J aP;have aA:=bQ.1;have bR:M[i]? =σ (pad t):=by rw[<-ax,u4,aJ];rfl
 rw[a8];simp only[aQ,ak];refine⟨λ_=>?_,λh=>Ω⟩;rw[IP rfl (a6.ext ah) bR];refine bp cz.i λam cl cm bd be=>?_;refine pM aA rfl be λbS bT cn aB=>?_;have cp:=bd.size;have cq:=be.lt;have bU:Ext U bS:=bd.put bT Ω;intro bg aq _ _;have aS:=bU.trans aq;have aV:=(ba.trans ah).trans aS;have bh:=h.ext aV;obtain⟨⟨cr,ct,cu,cw⟩,cA,_⟩:=id bh;have cB:=aS.size;rw[aK fh.p 3 (aG.ext aV) rfl,m4 aA (aB.ext aq).range];refine Iu bh aP (λW bV=>?_) (λbW=>absurd rfl (bW _ aO));have bX:W=c:=by
  have:=Af h.nodup bV aO rfl;exact congrArg Prod.snd this
 subst bX;simp only[Bool.false_eq_true,if_false];rw[c8 (cs:=#[.slice ν 0 0,Δ W]) Ψ];refine bp fK.i λaj cC cD aW bk=>?_;refine⟨.inl aW,?_⟩;refine bK (vs:=[.slice ν 0 0,Δ W]) fK.i rfl rfl (by intro v bl;simp at bl;rcases bl with rfl|rfl<;>rfl) bk λan bY cE bm=>?_;have cF:=aW.size;have cG:=bk.lt;have aC:Ext bg an:=aW.put bY Ω;have bn:=aS.trans aC;have bo:=aV.trans aC;rw[aK fh.p 0 (aG.ext bo) rfl,aU af.u (hm.ls.ext bo)];rw[rx cz.u fy.i (l:=0) (h:=szs.length) (m:=6) h4 (mC _ _ rfl) eJ Ω Ω Ω];have bq:=A5 aA bc rfl ((aB.ext aq).ext aC);rw[<-aR,Aa] at bq;rw[<-aR,aU kb.u bq];have bZ:=(aB.ext aq).ext aC;have cH:am<bg.heap.size:=(aB.ext aq).lt;have cI:aj<an.heap.size:=bm.lt;refine b0.range t.length (λj X=>ae (λr=>r=aj\/an.heap.size<=r) an X/\ ∃aF ap,an.heap.size<=ap/\ad X aj fK [aF,Δ W]/\ao .i64 ac X ap aF (t.take j)) Ω ⟨ae.refl _ _,_,an.heap.size,n9 _,bm,ao.nil _ _ _ _⟩ ?_ ?_
 .rintro j X b1 b2 ⟨Y,aF,ap,b3,aD,aE⟩ b4;obtain⟨x,aX⟩:=aN (l:=t) b2;have cJ:=bb.2 x (x5 aX);have cK:Ext U X:=bn.then Y (λr bt he=>by rcases he with rfl|he<;>omega);have bu:=A5 aA bc rfl (bZ.ab Y (λhe=>by rcases he with he|he<;>omega));rw[<-aR,Aa] at bu;simp only[aQ,ak];refine⟨λ_=>?_,λh=>Ω⟩;rw[bf kb.u fy.i Ψ bu aX,av fK.p 0 aD rfl,fi fy.u ac.u,wrap_i64 Ω Ω];refine dJ af.u ac.i rfl λa aZ b5 cL ag b6=>?_;refine h6 af.u ac.i rfl (aE.ext ag) b6.ls Θ Θ λbw bx b7 cM au aw=>?_;have b8:=Y.size;have b9:=ag.size;have cO:=aw.size;rw[aM fK.p rfl];refine bj (g:=aj) (o:=0) af.i au.ls.cells.1 au.ls.cells.2 ((aD.ext ag).ab aw (λhe=>by have he:aj=ap:=he;omega)) Ξ λcP bz cQ ca=>?_;simp only[aL];refine b4 _ ⟨((Y.trans (ag.ab _)).trans (aw.mono λr _ he=>.inr (by have he:r=ap:=he;omega))).trans (bz.mono λr _ he=>.inl he),bw,bx,Ω,ca,?_⟩;rw[r9,aX];exact au.ab bz (λ_ he=>by have he:bx=aj:=he;omega)
 .rintro X b1 ⟨Y,aF,ap,b3,aD,aE⟩;simp only[aQ,ak];refine⟨λh=>Ω,λ_=>?_⟩;rw[o9] at aE;rw[br fK.p fK.i rfl aD.range];have b8:=Y.size;have cb:Ext U X:=bn.then Y (λr bt he=>by rcases he with rfl|he<;>omega);have bB:bi (eL U.heap.size) bC X [aF,Δ W] (t,W):=⟨[aF],[Δ W],eL U.heap.size,bC,rfl,λ_ h=>h,λ_ h=>h.elim,λ_ _ _ h=>h,al.mono (mK aE) (λr _ h=>by subst h;show U.heap.size<=r;omega) (λ_ _ h=>h),rfl⟩;refine hp (α:=Λ×Int) (a:=(t,W)) (cs:=[aF,Δ W]) (A:=eL U.heap.size) (R:=bC) nV.u fK.i Φ rfl bB λu b5 ag _ cc=>?_;have aY:=cb.trans ag;have b9:=aY.size;refine mJ (α:=Λ×Int) (a:=(t,W)) (A:=eL U.heap.size) nV.u fK.i rfl (a7 (k1 ay) aY) cc (a7 bB ag) (λr _ h h'=>?_) Θ Θ λbw b7 au aw=>?_
  .rcases h' with h'|h'
   .have:=h.2;have:U.heap.size<=r:=h';omega
   .exact h'
  simp only[aL];have cS:=ah.size;refine bP _ _ ⟨(ah.trans aY).then aw (λr bt h=>by have h:=h.1;have h:aa.heap.size<=r:=h;omega),?_⟩;rw[r9,aJ];refine al.mono au (λr _ h=>?_) λ_ _ h=>h;show aa.heap.size<=r;rcases h with h|h|h
  .exact h.1
  .have h:U.heap.size<=r:=h;omega
  .omega
theorem A6 {s:Λ} (J:dW s):t∈bh s↔dg s t:=by
 refine⟨λh=>?_,λ⟨n,h⟩=>x5 (pA J h)⟩;obtain⟨i,hi⟩:=X4.1 h;exact⟨_,mT J hi⟩
theorem A7:∀ {s:Λ},dW s->(bh s).Pairwise λa b=>fS a<fS b
 |[],_=>by simp[bh]
 |k::s,J=>by
  have ac:=A7 J.tail;have V:∀t∈bh s,0<=fS t/\fS t<32 ^ s.length:=λt X=>by
   have ad:=(A6 J.tail).1 X;have h1:=mV.1 ad;have aa:=r6 t λx Y=>by
    obtain⟨i,hi,rfl⟩:=List.getElem_of_mem Y;obtain⟨a,U⟩:=aN (l:=s) (i:=i) Ω;have af:=h1.2 i a _ U (x6 hi);have ag:=(J.tail a (x5 U)).2;omega
   rw[h1.1];exact aa
  have W:∀t∈bh s,t.length=s.length:=λt X=>uf X;show ((V0 k.toNat).flatMap λ(v:Nat)=>(bh s).map λt=>(v:Int)::t).Pairwise _;rw[List.pairwise_flatMap];refine⟨λv _=>?_,?_⟩
  .rw[List.pairwise_map];refine ac.imp_of_mem λ{a b} U V h=>?_;simp only[fS,W a U,W b V];omega
  .refine List.pairwise_lt_range.imp λ{u v} ah x Y y ae=>?_;obtain⟨a,U,rfl⟩:=Z6.1 Y;obtain⟨b,ab,rfl⟩:=Z6.1 ae;simp only[fS,W a U,W b ab];have h1:=V a U;have aa:=V b ab;have:=Int.mul_le_mul_of_nonneg_right (show (u:Int)+1<=v by omega) (show (0:Int)<=32 ^ s.length by have:=uT s.length;omega);rw[Int.add_mul,Int.one_mul] at this;omega
theorem JA {D L:Told} (V:(D.map (·.1)).Nodup) (J:L.Perm D) (t:Λ):hN L o t=hN D o t:=by
 have X:(L.map (·.1)).Nodup:=(J.map (·.1)).nodup_iff.2 V;by_cases he:∃p∈D,p.1=t
 .obtain⟨p,W,rfl⟩:=he;rw[pO V (c:=p.2) W,pO X (c:=p.2) (J.mem_iff.2 W)]
 .rw[pP λp h1 U=>he ⟨p,h1,U⟩,pP λp h1 U=>he ⟨p,J.mem_iff.1 h1,U⟩]
def hQ (szs:Λ) (f:Λ->Int) (cs:Λ):Prop:=cs.length=(aJ szs).toNat/\ ∀t,dg szs t->ch szs cs t=f t
theorem hQ.eq {f:Λ->Int} {cs U:Λ} (J:dW szs) (h1:hQ szs f cs) (V:hQ szs f U):cs=U:=HJ J h1.1 V.1 λt W=>by rw[h1.2 t W,V.2 t W]
theorem hQ.congr {f J:Λ->Int} {cs:Λ} (h:hQ szs f cs) (he:∀t,dg szs t->f t=J t):hQ szs J cs:=⟨h.1,λt U=>by rw[h.2 t U,he t U]⟩
theorem va (J:dW szs) (h:dg szs t):∃n:Nat,cB szs t 0=σ (n:Int)/\n<(aJ szs).toNat:=by
 obtain⟨n,U⟩:=h;have:=mL J U;simp only[Int.zero_mul,Int.zero_add,Int.one_mul] at this;exact⟨n.toNat,by rw[U];congr 1;omega,Ω⟩
theorem JB (J:dW szs) (c:Int):hQ szs (λ_=>c) (o8 (aJ szs).toNat c):=⟨Ξ,λt U=>by
 obtain⟨n,V,W⟩:=va J U;unfold ch;rw[V];simp only[j0,u9,List.getElem?_replicate,W,if_true,S1]⟩
theorem hQ.put {f:Λ->Int} {cs:Λ} (J:dW szs) (h:hQ szs f cs) (Y:dg szs t) (aa:c5 c k):hQ szs (λs=>if s=t then c else f s) (n3 szs t k c cs):=by
 obtain⟨n,V,ab⟩:=va J Y;unfold n3;rw[V];simp only[aa,if_true,j0];refine⟨by simp[h.1],λs X=>?_⟩;obtain⟨m,hm,ac⟩:=va J X;have U:=h.2 s X;unfold ch at U ⊢;rw[hm] at U ⊢;simp only[j0] at U ⊢;by_cases he:s=t
 .subst he;rw[V] at hm;have W:n=m:=by have:=Z9 hm;omega
  subst W;rw[if_pos rfl,u9,U5 (by rw[h.1];exact ab)];rfl
 .rw[if_neg he,u9,V3 (λW=>he ?_),<-u9,U];subst W;rw[<-zx J hm,<-zx J V]
def JC (w:x2) (szs:Λ) (k o:Int) (D:Told) (v:y0) (w':x2):Prop:=Ext w w'/\(4096<aJ szs->v= .tuple #[.pointer ν,Δ 5])/\
 (aJ szs<=4096-> ∃g J sv cs,v= .tuple #[Γ g,Δ 0]/\w.heap.size<=g/\(w.heap.size<=J/\ ∀r,leads sv r->w.heap.size<=r)/\cV w' g J sv szs k cs/\hQ szs (hN D o) cs)
theorem A8 {g:Nat} {D:Told} (h:eD w g m szs k o D) (aE:D.length<65536):ai x3 EI [Γ g] w (JC w szs k o D):=by
 obtain⟨⟨sv,gs,aG,hm⟩,bq,J,aH,aM⟩:=id h;have au:=h.nodup;refine az func103 ?_;rw[cR eI.u];simp only[Z7,aT];intro V U _ _;have aj:=aG.ext U;rw[aK fh.p 0 aj rfl,aK fh.p 1 aj rfl,aK fh.p 2 aj rfl];refine (rz (hm.ls.ext U)).mono ?_;rintro _ aa _ ⟨ac,_,aN,_,aO⟩;by_cases ad:aJ szs<=4096
 rotate_left
 .have:=aN J Ω;subst this;rw[bL,bM];simp only[bH,ak];exact⟨λ_=>⟨U.trans ac,λ_=>rfl,λh=>absurd h ad⟩,λh=>by simp at h⟩
 obtain⟨aw,W,aF,rfl,br,bt,aP,ax⟩:=aO J ad aH;rw[bL,bM];simp only[bH,ak];refine⟨λh=>absurd rfl h,λ_=>?_⟩;have s1:=U.size;have bu:=ac.size;refine (Jz ((h.ext U).ext ac) aE).mono ?_;rintro bw aR _ ⟨am,L,af,ay⟩;have bx:=am.size;have bz:W<aa.heap.size:=by
  obtain⟨⟨aI,bA,_,_,aS⟩,⟨_,_,bB⟩,aU,aV⟩:=id ax;have bC:=k7 aU.2;obtain⟨_,⟨_,aW⟩|⟨cap,cs,_,aX,_⟩⟩:=aS
  .rw[aV] at aW;omega
  .exact aX.lt
 have bD:=af.1.length_eq;rw[eh nV.u ay];refine b0.range L.length (λi X=>ae (λr=>r=W) aR X/\ ∃cs,cV X aw W aF szs k cs/\hQ szs (hN (L.take i) o) cs) Ω ⟨ae.refl _ _,_,ax.ext am,by rw[List.take_zero];exact JB J.2 o⟩ ?_ ?_
 .rintro i X aY hi ⟨ag,cs,an,ah⟩ aZ;simp only[aQ,ak];refine⟨λ_=>?_,λh=>Ω⟩;obtain⟨⟨t,c⟩,Y⟩:∃p,L[i]? =σ p:=⟨_,x6 hi⟩;have a1:(t,c)∈D:=af.1.mem_iff.1 (x5 Y);obtain⟨a2,a6,a7⟩:=aM _ a1;have a8:=al.ab ay ag λr aA ba he=>by
   have he:r=W:=he;rcases ba with h|h
   .have h:aa.heap.size<=r:=h;omega
   .exact h
  refine hF (α:=Λ×Int) fK.p rfl nV.u fK.i a8 Y λus bb=>?_;obtain⟨bE,bc,A,B,rfl,bF,bG,_,h1,bd⟩:=bb;have be:bc=[Δ c]:=bd;subst be;obtain⟨bf,rfl,_⟩:=id h1;have hu:=c4 h1;refine bp fK.i λbI bJ bN bg aB=>?_;refine bK (vs:=[bf,Δ c]) fK.i rfl rfl (by intro v aC;simp at aC;rcases aC with rfl|rfl;exact hu.cells.2;rfl) aB λbh bi bO aD=>?_;have bP:=aB.lt;have ao:Ext X bh:=bg.put bi Ω;rw[av fK.p 0 aD rfl,av fK.p 1 aD rfl];refine (yQ (an.ext ao) (hu.ext ao)).mono ?_;rintro _ bQ _ ⟨rfl,bj,bk⟩;simp only[aL];refine aZ _ ⟨(ag.trans (ao.ab _)).trans bj,_,bk,(ah.put J.2 a2 a6).congr λs bR=>?_⟩;rw[r9,Y];have ap:(L.map (·.1)).Nodup:=(af.1.map (·.1)).nodup_iff.2 au;have bl:∀p∈L.take i,p.1≠t:=λp ad he=>by
   obtain⟨j,aq⟩:=X4.1 ad;have bm:j<i:=by have:=(x4.1 aq).1;rw[o5] at this;omega
   rw[Y7 bm] at aq;have:=jF ap (i:=j) (j:=i) (x:=t) (by rw[u4,aq,Y4,he]) (by rw[u4,Y];rfl);omega
  have bn:((L.take i).map (·.1)).Nodup:=by rw[List.map_take];exact (List.take_sublist _ _).nodup ap
  have bo:((L.take i++[(t,c)]).map (·.1)).Nodup:=by
   have e:L.take i++[(t,c)]=L.take (i+1):=by rw[r9,Y];rfl
   rw[e,List.map_take];exact (List.take_sublist _ _).nodup ap
  exact ((Ag bl a7).cost bn bo s).symm
 .rintro X aY ⟨ag,cs,an,ah⟩;simp only[aQ,ak];refine⟨λh=>Ω,λ_=>?_⟩;rw[o9] at ah;exact⟨((U.trans ac).trans am).put ag Ω,λh=>Ω,λ_=>⟨aw,W,aF,cs,rfl,Ω,⟨Ω,λr aA=>by have:=aP r aA;omega⟩,an,ah.congr λs _=>JA au af.1 s⟩⟩
theorem JD {s cs:Λ} (J:dW s) (U:cs.length=(aJ s).toNat) {i:Nat} (h:(bh s)[i]? =σ t):cs[i]? =σ (ch s cs t):=by
 have hi:=(x4.1 h).1;rw[hq J,<-U] at hi;unfold ch;rw[mT J h];simp only[j0,u9,x6 hi,S1]
theorem oF {k:o6} {g:Nat} (h:ao k e w g v l) (U:0<l.length):g<w.heap.size:=by
 obtain⟨_,⟨_,h1⟩|⟨_,_,_,J,_⟩⟩:=h
 .omega
 .exact J.lt
def fp (w:x2) (g m:Nat) (sv:y0) (gs:Nat) (szs:Λ) (k o:Int) (D:Told):Prop:=
 ad w g fh [sv,Δ k,Δ o,.map (σ m)]/\ao .i64 ac w gs sv szs/\c6 w m (D.map jc)/\bZ szs/\c5 o k/\ ∀p∈D,dg szs p.1/\c5 p.2 k/\p.2≠o
theorem fp.is {g:Nat} {D:Told} (h:fp w g m sv gs szs k o D):eD w g m szs k o D:=⟨⟨sv,gs,h.1,h.2.1⟩,h.2.2⟩
theorem eD.at {g:Nat} {D:Told} (h:eD w g m szs k o D):∃sv gs,fp w g m sv gs szs k o D:=by
 obtain⟨⟨sv,gs,h1,J⟩,U⟩:=h;exact⟨sv,gs,h1,J,U⟩
theorem fp.ext {g:Nat} {D:Told} (h:fp w g m sv gs szs k o D) (J:Ext w w'):fp w' g m sv gs szs k o D:=by
 obtain⟨h1,U,V,W⟩:=h;exact⟨h1.ext J,U.ext J,V.ext J,W⟩
theorem fp.ab {g:Nat} {D:Told} (h:fp w g m sv gs szs k o D) (U:ae S w w') (V:¬S g) (hm:¬S m) (J:∀r,leads sv r->¬S r):fp w' g m sv gs szs k o D:=by
 obtain⟨h1,W,X,Y⟩:=h;exact⟨h1.ab U V,be W U J,X.ab U hm,Y⟩
theorem sk {g:Nat} {d:List (y0×y0)} (h:ad w g e cs) (hm:c6 w m d):g≠m:=by
 rintro rfl;obtain⟨J,c,h1,_⟩:=hm;unfold ad at h;rw[h1] at h;cases h
theorem Ba {g:Nat} {k:o6} {d:List (y0×y0)} (h:ao k e w g v l) (hm:c6 w m d) {r:Nat} (J:leads v r):r≠m:=by
 obtain⟨rfl,_⟩:=bz h J;obtain⟨_,⟨rfl,_⟩|⟨_,_,_,U,_⟩⟩:=h
 .obtain⟨a,n,c,h,_⟩:=J;cases h
 .exact sk U hm
theorem fp.put {g:Nat} {D J:Told} (h:fp w g m sv gs szs k o D) (U:ae (λr=>r=m) w w') (h':eD w' g m szs k o J):fp w' g m sv gs szs k o J:=
 ⟨h.1.ab U (λhe=>sk h.1 h.2.2.1 he),be h.2.1 U (λr V he=>Ba h.2.1 h.2.2.1 V he),h'.2⟩
theorem fp.pH {g:Nat} {D:Told} (h:fp w g m sv gs szs k o D):g<w.heap.size/\m<w.heap.size/\ ∀r,leads sv r->r<w.heap.size:=
 ⟨h.1.lt,h.2.2.1.lt,λr J=>by obtain⟨rfl,U⟩:=bz h.2.1 J;exact U⟩
instance (s t:Λ):Decidable (dg s t):=decidable_of_iff ((cB s t 0).isSome=true) ⟨λh=>by
 cases J:cB s t 0 with
 |none=>rw[J] at h;cases h
 |some n=>exact⟨n,J⟩,λ⟨n,h⟩=>by rw[h];rfl⟩
theorem sn (h:aH .i64 w sv l) (ap:l.length<=1000000):ai x3 xZ [sv] w λv w'=>Ext w w'/\ ∃g,w.heap.size<=g/\ao .i64 ac w' g v l:=by
 refine az func94 ?_;rw[aU au.u h];refine jx (k:=.i64) af.u ac.i Ω Ω λg V aq W X=>?_;have ad:ao .i64 ac V g (.slice (σ ⟨g,0,ν⟩) l.length l.length) (o8 l.length 0):=by
  have:=b1.full (k:=1) (n:=l.length) X Ξ (by simp[maxLen];omega);exact ao.of this
 rw[aU au.u (h.ext W)];have av:=X.lt;refine b0.range l.length (λi aa=>ae (λr=>r=g) V aa/\ao .i64 ac aa g (.slice (σ ⟨g,0,ν⟩) l.length l.length) (l.take i++o8 (l.length-i) 0)) h.le ⟨ae.refl _ _,by simpa using ad⟩ ?_ ?_
 rotate_left
 .rintro aa ag ⟨U,J⟩;rw[aQ,ak];rw[o9,V9,List.replicate_zero,X6] at J;exact⟨λh=>Ω,λ_=>⟨W.put U Ω,g,Ω,J⟩⟩
 rintro i aa ag hi ⟨U,J⟩ ah;obtain⟨x,Y⟩:=aN (l:=l) hi;have aj:Ext w aa:=W.put U Ω;refine bk Ω ?_;rw[bf au.u an.i Ψ (h.ext aj) Y];rw[hI rfl af.u ac.i J Θ];refine hJ ac.i J Θ λaw al ax ab=>?_;rw[aL];refine ah _ ⟨U.trans al,?_⟩;have e:(l.take i++o8 (l.length-i) 0).set i x=l.take (i+1)++o8 (l.length-(i+1)) 0:=by
  have am:(l.take i).length=i:=by rw[o5];omega
  rw[T6 _ _ Ω,am,V9,show l.length-i=(l.length-(i+1))+1 by omega,List.replicate_succ,List.set_cons_zero,r9,Y,j6,Z4];rfl
 rw[e] at ab;exact ab
def JE (w:x2) (l:Λ) (k o:Int) (v:y0) (w':x2):Prop:=
 Ext w w'/\(¬bZ l->v= .tuple #[.pointer ν,Δ 1])/\(bZ l->¬c5 o k->v= .tuple #[.pointer ν,Δ 3])/\
  (bZ l->c5 o k-> ∃g m sv gs,v= .tuple #[Γ g,Δ 0]/\w.heap.size<=g/\w.heap.size<=m/\(∀r,leads sv r->w.heap.size<=r)/\fp w' g m sv gs l k o [])
theorem JF (h:aH .i64 w sv l):ai x3 nQ [sv,Δ k,Δ o] w (JE w l k o):=by
 refine az func169 ?_;refine aR (λv V=>Ext w V/\ ∃c,v= .bool c/\(c=true↔¬bZ l)) ?_ ?_
 .rintro _ V ⟨W,c,rfl,X⟩;rw[bt];refine⟨λad=>⟨W,λ_=>rfl,λh=>absurd h (X.1 ad),λh=>absurd h (X.1 ad)⟩,λah=>?_⟩;have J:bZ l:=Classical.byContradiction λh=>by have:=X.2 h;rw[ah] at this;cases this
  have ap:=J.1;refine k3.mono ?_;rintro _ aa _ ⟨rfl,U⟩;by_cases hi:c5 o k
  rotate_left
  .simp only[hi,decide_false,bg,W6,bX];exact⟨W.trans U,λh=>absurd J h,λ_ _=>rfl,λ_ h=>absurd h hi⟩
  simp only[hi,decide_true,bg,Y6,aT];refine (h7 ((h.ext W).ext U) Ω).mono ?_;rintro aF aq _ ⟨ae,aj,au,hm⟩;have av:=hm.ls.cells;refine r0 λm aw ax Y al=>?_;rw[c8 (cs:=#[aF,Δ k,Δ o,.map (σ m)]) (by obtain⟨_,_,_,_,_,rfl,_⟩:=hm.ls;kernel_rfl)];refine bP λg ay aA ab am=>?_;have s1:=W.size;have aB:=U.size;have aC:=ae.size;have aD:=Y.size;exact⟨((((W.trans U).trans ae).trans Y).trans ab),λh=>absurd J h,λ_ h=>absurd hi h,λ_ _=>⟨g,m,aF,aj,rfl,Ω,Ω,λr an=>by have:=(bz hm an).1;omega,am,(hm.ext Y).ext ab,al.ext ab,J,hi,λp ao=>by cases ao⟩⟩
 .intro aE ag;rw[aU af.u h];simp only[bY,ak];refine⟨λaG=>ag _ _ ⟨Ext.refl _,true,rfl,λ_ J=>by have:=J.1;omega,λ_=>rfl⟩,λaI=>?_⟩;refine (Ab h).mono ?_;rintro _ aa _ ⟨rfl,U⟩;refine ag _ _ ⟨U,_,rfl,?_⟩;rw[decide_eq_true_eq];exact⟨λac J=>ac J.2,λac J=>ac ⟨Ω,J⟩⟩
structure Bb where
 szs:Λ
 k:Int
 o:Int
 D:Told
instance Oh:al Bb where
 n:=1
 rep _ _ R w cs a:=∃g m sv gs,cs=[Γ g]/\fp w g m sv gs a.szs a.k a.o a.D/\R g/\R m/\ ∀r,leads sv r->R r
 len:=by rintro _ _ _ _ _ _ ⟨_,_,_,_,rfl,_⟩;rfl
 one:=by rintro _ _ _ _ _ _ ⟨_,_,_,_,rfl,_⟩ u hu;simp at hu;subst hu;rfl
 ab:=by
  rintro _ _ R T w w' _ a ⟨g,m,sv,gs,rfl,h1,U,V,W⟩ ae X;obtain⟨Y,aa,ac⟩:=h1.pH;exact⟨g,m,sv,gs,rfl,h1.ab ae (X g Y (.inr U)) (X m aa (.inr V)) λr J=>X r (ac r J) (.inr (W r J)),U,V,W⟩
 mono:=by
  rintro _ _ _ R R' w _ a ⟨g,m,sv,gs,rfl,h1,U,V,W⟩ _ ad;obtain⟨Y,aa,ac⟩:=h1.pH;exact⟨g,m,sv,gs,rfl,h1,ad g Y U,ad m aa V,λr J=>ad r (ac r J) (W r J)⟩
 hf:=by
  rintro _ _ R w _ a ⟨g,m,sv,gs,rfl,h1,U,V,W⟩;exact⟨g,m,sv,gs,rfl,h1,.inr U,.inr V,λr J=>.inr (W r J)⟩
abbrev gE:Type:=Rd (Λ)×Bb
def pZ (k:Int) (x:ce) (f:gE):Prop:=f.1=x.scope/\f.2.szs=x.sizes/\f.2.k=k/\f.2.o=min x.other k/\f.2.D.length<=x.lines.length/\ ∀t,hN f.2.D f.2.o t=jb x k t
theorem JG {m:Bool} {S R:ah} {x:ce} (h:al.rep m S R w cs (gD x)):∃ax szv ca,cs=[ax,szv,Δ x.other,ca]/\al.rep (α:=Λ) false bC R w [ax] x.scope/\al.rep (α:=Λ) false bC R w [szv] x.sizes/\al.rep (α:=List (Λ×Int)) false bC R w [ca] x.lines:=by
 obtain⟨W,d1,aa,ab,rfl,_,_,_,h1,X,d2,ac,ad,rfl,_,_,_,J,Y,d3,ae,af,rfl,_,_,_,V,U⟩:=h;have h1:al.rep (α:=Λ) false bC R w W x.scope:=h1;have J:al.rep (α:=Λ) false bC R w X x.sizes:=J;have V:Y=[Δ x.other]:=V;have U:al.rep (α:=List (Λ×Int)) false bC R w d3 x.lines:=U;obtain⟨u,rfl⟩:=W7.1 (show W.length=1 from al.len h1);obtain⟨v,rfl⟩:=W7.1 (show X.length=1 from al.len J);obtain⟨y,rfl⟩:=W7.1 (show d3.length=1 from al.len U);subst V;exact⟨u,v,y,rfl,h1,J,U⟩
theorem JH {m:Bool} {S R:ah} {p:Λ×Int} (h:al.rep m S R w cs p):∃aF,cs=[aF,Δ p.2]/\aH .i64 w aF p.1:=by
 obtain⟨U,d1,V,W,rfl,_,_,_,h1,J⟩:=h;obtain⟨u,rfl⟩:=W7.1 (show U.length=1 from al.len h1);have J:d1=[Δ p.2]:=J;subst J;exact⟨u,rfl,c4 h1⟩
structure sq (k:Int) (x:ce):Prop where
 k:right k
 sizes:bZ x.sizes
 other:0<=x.other
 lines:lX x.sizes x.lines
 len:x.lines.length<=60000
 scope:x.scope.length<=100001
theorem b7 {k:o6} (h:aH k w v l):∃a n c,v= .slice a n c:=by
 obtain⟨_,b,o,base,cap,rfl,_⟩:=h;exact⟨_,_,_,rfl⟩
theorem JI {aT:Nat} {bi bj bl:y0} {K:Int} {R:ah} {x:ce} (aU:ad w aT cv [bi,Δ K,bj,bl]) (bm:Seen R w cs (gD x)) (bn:sq K x):
  ai x3 tP [Γ aT,.agg cs.toArray] w λv w'=>Ext w w'/\ ∃bo,∃f:gE,v= .agg bo.toArray/\bo.length=2/\Seen (eL w.heap.size) w' bo f/\pZ K x f:=by
 obtain⟨ax,szv,ca,rfl,h1,aV,aG⟩:=JG bm;obtain⟨aw,aH,bX,aW,bY,bZ⟩:=bn;have b1:x.sizes.length<=6:=aH.1;refine az func95 ?_;refine bP λam V b3 aX X=>?_;have X:ad V am b9 [ax,szv,Δ x.other,ca]:=by
  obtain⟨_,_,_,rfl⟩:=la h1;obtain⟨_,_,_,rfl⟩:=la aV;obtain⟨_,_,_,rfl⟩:=la aG;exact X
 refine bp cw.i λaf aa b4 aI ay=>?_;have ay:ad aa af cw [.slice ν 0 0,.pointer ν]:=ay;intro b5 aA _ _;have aJ:=(aX.trans aI).trans aA;have aM:=aI.trans aA;have b6:=aX.size;have b8:=aI.size;have z3:=aA.size;have cb:=ay.lt;have aY:=aU.ext aJ;rw[av b9.p 1 (X.ext aM) rfl,aK cv.p 1 aY rfl,
  av b9.p 2 (X.ext aM) rfl,aK cv.p 1 aY rfl,iW]
 refine (sn ((c4 aV).ext aJ) Ω).mono ?_;rintro cc cd _ ⟨aj,cg,ch,bq⟩;refine⟨.inl aj,?_⟩;have z4:=aj.size;have br:c5 (min x.other K) K:=⟨aw,by have:=aw.1;omega,Ω⟩;refine (JF bq.ls).mono ?_;rintro _ bt _ ⟨aB,_,_,bu⟩;obtain⟨ag,m,sv,gs,rfl,ci,cj,aZ,bw⟩:=bu aH br;rw[bL,bM];have z5:=aB.size;have aO:=(aJ.trans aj).trans aB;have a1:=(aM.trans aj).trans aB;rw[av b9.p 3 (X.ext a1) rfl];have a2:=a7 aG aO;rw[eh hZ.u a2];refine b0.range x.lines.length (λi J=>ae (λr=>r=m) bt J/\ ∃D,D.length<=i/\fp J ag m sv gs x.sizes K (min x.other K) D/\ ∀t,hN D (min x.other K) t=kq x K i t) (lR a2) ⟨ae.refl _ _,[],n9 _,bw,λt=>by rw[AZ];rfl⟩ ?_ ?_
 .rintro i J bx hi ⟨U,D,a6,ak,aP⟩ bA;obtain⟨p,aQ⟩:=aN (l:=x.lines) hi;have a8:=aW.2 p (x5 aQ);have an:Ext w J:=aO.put U Ω;have bB:=U.size;have bD:al.rep (α:=List (Λ×Int)) false bC R J [ca] x.lines:=a7 aG an;refine bk Ω ?_;refine hF dU.p rfl hZ.u dU.i bD aQ λck bE=>?_;obtain⟨aF,rfl,ba⟩:=JH bE;refine bp dU.i λcl cm cn bb bF=>?_;have cp:=bb.size;refine bK (vs:=[aF,Δ p.2]) dU.i rfl rfl (by intro v ap;simp at ap;rcases ap with rfl|rfl<;>first|exact ba.cells.2|rfl) bF λbG bH cq bc=>?_;have bI:Ext J bG:=bb.put bH Ω;intro cr aR _ _;have Y:=bI.trans aR;have z9:=Y.size;rw[av dU.p 0 (bc.ext aR) rfl,av dU.p 1 (bc.ext aR) rfl,aK cv.p 1 ((aU.ext an).ext Y) rfl,iW];have ct:=uP aH a8.1;refine (sn (ba.ext Y) Ω).mono ?_;rintro cu cz _ ⟨aq,cA,cB,bJ⟩;refine⟨.inl aq,?_⟩;have cC:=aq.size;refine (Aj (c:=min p.2 K) ((ak.ext Y).ext aq).is bJ.ls).mono ?_;rintro _ cD _ ⟨_,bN⟩;have bO:c5 (min p.2 K) K:=⟨aw,by have:=aw.1;omega,Ω⟩;obtain⟨rfl,bd,bQ,bf,bg⟩:=bN ⟨a8.1,bO⟩;rw[aL];refine bA _ ⟨(U.trans ((Y.trans aq).ab _)).trans bd,bQ,by have:=bf.2;omega,fp.put ((ak.ext Y).ext aq) bd bg,λt=>?_⟩;rw[A1 aW.1 aQ,bf.cost ak.is.nodup bg.nodup];by_cases aC:t=p.1
  .rw[if_pos aC,if_pos aC]
  .rw[if_neg aC,if_neg aC,aP]
 .rintro J bx ⟨U,D,a6,ak,aP⟩;have an:Ext w J:=aO.put U Ω;have bR:Ext V J:=a1.put U Ω;have bB:=U.size;refine b2 Ω ?_;rw[av b9.p 0 (X.ext bR) rfl];refine (sn ((c4 h1).ext an) Ω).mono ?_;rintro aD cE _ ⟨aE,bS,cF,au⟩;have z12:=aE.size;rw[c8 (cs:=#[aD,Γ ag]) (by obtain⟨_,_,_,rfl⟩:=b7 au.ls;kernel_rfl)];have bT:Ext aa J:=((aA.trans aj).trans aB).put U Ω;refine bK (vs:=[aD,Γ ag]) cw.i rfl rfl (by intro v ap;simp at ap;rcases ap with rfl|rfl<;>first|exact au.ls.cells.2|rfl) ((ay.ext bT).ext aE) λbh aS cG bU=>?_;rw[eZ cw.p cw.i rfl bU.range];have bV:fp bh ag m sv gs x.sizes K (min x.other K) D:=(ak.ext aE).ab aS (λhe=>by have he:ag=af:=he;omega) (λhe=>by have he:m=af:=he;omega) (λr W he=>by have he:r=af:=he;have:=aZ r W;omega);have bW:ao .i64 ac bh bS aD x.scope:=be au aS λr W he=>by have he:r=af:=he;have:=(bz au W).1;omega
  refine⟨(an.trans aE).put aS Ω,_,(x.scope,⟨x.sizes,K,min x.other K,D⟩),rfl,rfl,?_,rfl,rfl,rfl,rfl,a6,λt=>?_⟩
  .exact⟨[aD],[Γ ag],bC,bC,rfl,λ_ h=>h,λ_ h=>h,λ_ _ h _=>h,lb bW λr W=>by have:=(bz au W).1;show w.heap.size<=r;omega,
    ⟨ag,m,sv,gs,rfl,bV,by show w.heap.size<=ag;omega,by show w.heap.size<=m;omega,λr W=>by have:=aZ r W;show w.heap.size<=r;omega⟩⟩
  .rw[aP,A0]
theorem JJ {S R:ah} {f:gE} (h:al.rep false S R w cs f):al.rep (α:=gE) true bC R w cs f:=by
 obtain⟨c,d,A,B,rfl,h1,V,_,J,U⟩:=h;exact⟨c,d,bC,bC,rfl,λ_ h=>h,λ_ h=>h,λ_ _ h _=>h,J,U⟩
def sr (k:Int) (J:List ce) (U:List gE):Prop:=U.length=J.length/\ ∀ (i:Nat) x f,J[i]? =σ x->U[i]? =σ f->pZ k x f
theorem JK {J:Nat} {m:Bool} {S R:ah} {aC szv aO:y0} {K:Int} {W:List ce} {a2:x2->Prop} (a6:ad w J cv [aC,Δ K,szv,.slice ν 0 0])
  (bq:al.rep m S R w [aO] (show List gV from W.map gD)) (bt:∀r,S r\/R r->r≠J) (bx:∀x∈W,sq K x) (cg:W.length<=256)
  (bz:∀w' af,∀X:List gE,ae (λr=>r=J) w w'->ad w' J cv [aC,Δ K,szv,af]->Seen (λr=>w.heap.size<=r) w' [af] X->sr K W X->a2 w'):
  b0 (Δ 0) w λaP an bA=>
   U x3 (aA .lss ac false false aP (Δ (W.length:Int))) an λbB=>
   Split bB (U x3 (l7 iz aO aP) an λbD=>
   U x3 (x7 b9 bD) an λbE=>
   ay x3 (S8 b9 true (.tuple #[])) an λx bF=>
   ay x3 (o7 b9 x bE) bF λ(_:Unit) bG=>
   cK bG λaj=>
   U x3 (bd (Γ J)) aj λao=>
   U x3 (x8 cv ao 3) aj λap=>
   U x3 (x7 dB ap) aj λaR=>
   U x3 (x7 b9 x) aj λbH=>
   ai x3 tP [(Γ J),bH] aj λbI aq=>
    (Ext aj aq\/bw x3 (x7 dB ap) aR aq/\bw x3 (x8 cv ao 3) ap aq/\bw x3 (bd (Γ J)) ao aq/\True)/\
   ay x3 (Y1 dB 1 #[(0,bI)]) aq λbJ au=>
    (Ext aj au\/bw x3 (x7 dB ap) aR au/\bw x3 (x8 cv ao 3) ap au/\bw x3 (bd (Γ J)) ao au/\True)/\
    ay x3 (j4 #[dB,dB] dB #[aR,bJ]) au λbL aS=>
     U x3 (bd (Γ J)) aS λbM=>
     U x3 (x8 cv bM 3) aS λbN=>
     ay x3 (o7 dB bN bL) aS λ(_:Unit) a8=>
     U x3 (aA .add ac false true aP (Δ 1)) a8 λbO=>
   bA bO a8) (a2 an):=by
 have ch:=a6.lt;have ci:(W.map gD).length=W.length:=Ξ
 refine b0.range W.length (λi V=>ae (λr=>r=J) w V/\ ∃af,∃X:List gE,∃A R':ah,ad V J cv [aC,Δ K,szv,af]/\bi A R' V [af] X/\(∀r,A r->w.heap.size<=r/\r<V.heap.size)/\(∀r,R' r->w.heap.size<=r/\¬A r/\r<V.heap.size)/\sr K (W.take i) X) Ω
  ⟨ae.refl _ _,_,[],bC,bC,a6,fN,λ_ h=>h.elim,λ_ h=>h.elim,rfl,λi x f h=>by simp at h⟩ ?_ ?_
 rotate_left
 .rintro V bP ⟨av,af,X,A,R',aw,aT,ag,ax,aD⟩;rw[o9] at aD;rw[aQ,ak];refine⟨λh=>Ω,λ_=>bz V af X av aw (lQ aT λr _ h=>?_) aD⟩;exact h.elim (λh=>(ag r h).1) λh=>(ax r h).1
 rintro i V bP hi ⟨av,af,X,A,R',aw,aT,ag,ax,ba,aD⟩ bQ;obtain⟨x,aU⟩:=aN (l:=W) hi;have bR:=bx x (x5 aU);have cj:=av.size;rw[o5] at ba;have bS:al.rep m S R V [aO] (show List gV from W.map gD):=al.ab bq av λr _ h he=>bt r h he;refine bk Ω ?_;refine hF (α:=gV) (a:=gD x) b9.p rfl iz.u b9.i bS (by show (W.map gD)[i]? =_;rw[u4,aU];rfl) λcs aV=>?_;have bb:cs.length=4:=al.len aV;have bT:Seen (λr=>S r\/R r) V cs (gD x):=lQ aV λr _ h=>h;refine bp b9.i λam aa ck bc bU=>?_;have cl:=bc.size;refine bK (vs:=cs) b9.i bb rfl (al.one aV) bU λbV bW cm bX=>?_;have bY:Ext V bV:=bc.put bW Ω;intro aE be _ _;have az:=bY.trans be;have z4:=az.size;rw[aK cv.p 3 (aw.ext az) rfl,br b9.p b9.i bb (bX.ext be).range];refine (JI (aw.ext az) (a7 bT az) bR).mono ?_;rintro _ aF _ ⟨aG,bo,f,rfl,cn,bf,bZ⟩;have z5:=aG.size;refine⟨.inl aG,?_⟩;have bg:=JJ bf;have b1:=az.trans aG;refine hp (α:=gE) (a:=f) (cs:=bo) (A:=bC) (R:=eL aE.heap.size) dB.u cw.i Φ (by
  obtain⟨c,d,cp,cq,he,_,_,_,aH,b2⟩:=bf;have aH:al.rep (α:=Λ) false bC _ aF c f.1:=aH;obtain⟨u,rfl⟩:=W7.1 (show c.length=1 from al.len aH);obtain⟨cr,c7,ct,cu,rfl,_⟩:=b2;obtain⟨_,_,_,rfl⟩:=la aH;cases he;rfl) bg λu aW aI _ hu=>?_
 have cz:=aI.size;refine⟨.inl (aG.trans aI),?_⟩;have aX:=b1.trans aI;have b3:bi A (λr=>R' r\/(aE.heap.size<=r/\r<aF.heap.size)) aW [af] X:=a7 (al.mono aT (λ_ _ h=>h) λ_ _ h=>.inl h) aX;have b4:bi bC (λr=>R' r\/(aE.heap.size<=r/\r<aF.heap.size)) aW bo f:=a7 (al.mono bg (λ_ _ h=>h) λr Y h=>.inr ⟨h,Y⟩) aI;refine mJ (α:=gE) (a:=f) (A:=bC) dB.u cw.i rfl b3 hu b4 (λr _ bh h=>?_) Ω Ω λbl b5 aY aZ=>?_
 .rcases h with h|h|h
  .exact h
  .exact (ax r h).2.1 bh
  .have:=(ag r bh).2;omega
 have cA:=aZ.size;rw[bu,aM cv.p rfl];have b6:=(aw.ext aX).ab aZ (λhe=>by have:=(ag _ he).1;omega);refine bj (g:=J) (o:=3) dB.i (kf aY) (e7 aY) b6 Ξ λb7 bm cB a1=>?_;have a1:ad b7 J cv [aC,Δ K,szv,bl]:=a1;rw[aL];have b8:=k1 aY;refine bQ _ ⟨(gy (av.trans (aX.ab _)) aZ λr Y he=>by have:=(ag _ he).1;omega).trans bm,bl,X++[f],λr=>((A r\/bC r\/aW.heap.size<=r)/\r<b5.heap.size),λr=>R' r\/(aE.heap.size<=r/\r<aF.heap.size),a1,al.ab b8 bm λr _ h he=>?_,λr Y=>?_,λr Y=>?_,?_,λj ca cb aJ aB=>?_⟩
 .have he:r=J:=he;rcases h with h|h|h
  .rcases h.1 with h1|h1|h1
   .have:=(ag _ h1).1;omega
   .exact h1
   .omega
  .have:=(ax r h).1;omega
  .omega
 .have cC:=Y.2;rcases Y.1 with h1|h1|h1
  .have:=(ag _ h1).1;omega
  .exact h1.elim
  .omega
 .rcases Y with Y|Y
  .have bn:=ax r Y;refine⟨bn.1,λh=>?_,Ω⟩;rcases h.1 with h1|h1|h1
   .exact bn.2.1 h1
   .exact h1
   .omega
  .refine⟨Ω,λh=>?_,Ω⟩;rcases h.1 with h1|h1|h1
   .have:=(ag _ h1).2;omega
   .exact h1
   .omega
 .rw[r8,o5,ba];simp;omega
 .have cc:=(x4.1 aB).1;rw[r8,U2] at cc;rw[Y7 Ω] at aJ;by_cases cd:j<X.length
  .rw[Y3 cd] at aB;exact aD j ca cb (by rw[Y7 Ω];exact aJ) aB
  .rw[Y5 Ω,show j-X.length=0 by omega] at aB;rw[show j=i by omega,aU] at aJ;cases aB;cases aJ;exact bZ
def kr (w:x2) (V:Nat) (f:b4):Prop:=∃szv J gz,∃U:List gE,ad w V cv [bU f.name,Δ f.k,szv,J]/\ao .i64 ac w gz szv f.sizes/\Seen dr w [J] U/\sr f.k f.funs U
theorem kr.ext {U:Nat} {f:b4} (h:kr w U f) (J:Ext w w'):kr w' U f:=by
 obtain⟨szv,V,gz,W,h1,X,Y,aa⟩:=h;exact⟨szv,V,gz,W,h1.ext J,X.ext J,a7 Y J,aa⟩
def Bc (w:x2) (res:Option b4) (v:y0) (w':x2):Prop:=Ext w w'/\match res with
 |none=>∃n e:Int,v= .tuple #[.pointer ν,Δ n,Δ e]/\e≠0
 |some f=>∃J,∃n:Int,v= .tuple #[Γ J,Δ n,Δ 0]/\kr w' J f
structure JL (clean:Bool) (so:Option aE) (name:Λ) (k:Int) (sizes:Λ) (acc:List gV) (res:Option b4):Prop where
 ox:∀s,so=σ s->s.toks=[]->clean=true->s.big=false-> ∃fs,acc=fs.map gD/\res=σ ⟨name,k,sizes,fs⟩/\(∀x∈fs,sq k x)/\fs.length<=256/\sizes.length<=1000000
 bad:res≠ν-> ∃s,so=σ s/\s.toks=[]/\clean=true/\s.big=false
theorem JM {w0:x2} {g:Nat} {A B S R:ah} {m:Bool} {so:Option aE} {name:Λ} {acc:List gV} {res:Option b4} {szv aP p:y0} {pl:Λ} {Q:y0->x2->Prop}
  (aZ:gC w g gs A B clean so) (au:JL clean so name k sizes acc res) (bI:aH .i64 w szv sizes) (bK:∀r,leads szv r->r≠g/\r≠gs) (bL:al.rep m S R w [aP] acc) (bo:∀r,S r\/R r->r≠g/\r≠gs/\r<w.heap.size)
  (di:so=ν->True) (dj:g<w.heap.size) (dk:gs<w.heap.size) (bM:ae (λr=>w0.heap.size<=r) w0 w) (dl:w0.heap.size<=g) (dm:w0.heap.size<=gs) (bN:aH .u8 w0 p pl)
  (aC:∀v w',Bc w0 res v w'->Q v w'):
  bJ (α:=x2->Prop) (λ(J:x2)=>
  U x3 (bd (Γ g)) J λbO=>
  U x3 (x8 cd bO 1) J λbQ=>
  U x3 (x8 eQ bQ 0) J λbR=>
  U x3 (x7 e5 bR) J λbS=>
  U x3 (aA .neq e5 false true bS (Δ 0)) J λbT=>
  Split bT (cK J λaj=>
   U x3 (bd (Γ g)) aj λbV=>
   U x3 (x8 cd bV 1) aj λbW=>
   U x3 (x8 eQ bW 2) aj λbY=>
   U x3 (x7 ac bY) aj λbZ=>
   U x3 (bd (Γ g)) aj λb1=>
   U x3 (x8 cd b1 1) aj λb2=>
   U x3 (x8 eQ b2 0) aj λb3=>
   U x3 (x7 e5 b3) aj λb5=>
   Q (.tuple #[(.pointer ν),bZ,b5]) aj)
   (U x3 (bd (Γ g)) J λb6=>
   U x3 (x8 cd b6 1) J λb8=>
   U x3 (x8 eQ b8 1) J λca=>
   U x3 (x7 e5 ca) J λcb=>
   U x3 (aA .neq e5 false true cb (Δ 0)) J λcc=>
   Split cc (cK J λam=>
   U x3 (bd (Γ g)) am λce=>
   U x3 (x8 cd ce 1) am λcg=>
   U x3 (x8 eQ cg 3) am λch=>
   U x3 (x7 ac ch) am λci=>
   U x3 (bd (Γ g)) am λcj=>
   U x3 (x8 cd cj 1) am λck=>
   U x3 (x8 eQ ck 1) am λcl=>
   U x3 (x7 e5 cl) am λcm=>
   Q (.tuple #[(.pointer ν),ci,cm]) am)
   (ai x3 xZ [szv] J λcn bp=>
  U x3 (Instr.build cv #[(0,bU name),(1,Δ k),(2,cn)]) bp λcp=>
  ay x3 (Instr.box cv cp) bp λav bq=>
  U x3 (X0 #[iz] ac #[aP]) bq λcq=>
  b0 (Δ 0) bq λa1 aw cr=>
   U x3 (aA .lss ac false false a1 cq) aw λct=>
   Split ct (U x3 (l7 iz aP a1) aw λcu=>
   U x3 (x7 b9 cu) aw λcw=>
   ay x3 (S8 b9 true (.tuple #[])) aw λx cz=>
   ay x3 (o7 b9 x cw) cz λ(_:Unit) cA=>
   cK cA λaq=>
   U x3 (bd av) aq λaD=>
   U x3 (x8 cv aD 3) aq λaF=>
   U x3 (x7 dB aF) aq λa2=>
   U x3 (x7 b9 x) aq λcB=>
   ai x3 tP [av,cB] aq λcC aG=>
    (Ext aq aG\/bw x3 (x7 dB aF) a2 aG/\bw x3 (x8 cv aD 3) aF aG/\bw x3 (bd av) aD aG/\True)/\
   ay x3 (Y1 dB 1 #[(0,cC)]) aG λcD aI=>
    (Ext aq aI\/bw x3 (x7 dB aF) a2 aI/\bw x3 (x8 cv aD 3) aF aI/\bw x3 (bd av) aD aI/\True)/\
    ay x3 (j4 #[dB,dB] dB #[a2,cD]) aI λcE a6=>
     U x3 (bd av) a6 λcF=>
     U x3 (x8 cv cF 3) a6 λcG=>
     ay x3 (o7 dB cG cE) a6 λ(_:Unit) br=>
     U x3 (aA .add ac false true a1 (Δ 1)) br λcI=>
   cr cI br)
    (U x3 (X0 #[cH] ac #[p]) aw λcJ=>
  Q (.tuple #[av,cJ,(Δ 0)]) aw)))) λaQ=>
 ai x3 j3 [(Γ g)] w λcL aJ=>
 Split cL (U x3 (bd (Γ g)) aJ λcM=>
  U x3 (x8 cd cM 0) aJ λcN=>
  U x3 (x7 rp cN) aJ λcO=>
  ai x3 tO [cO] aJ λa8 ap=>
  U x3 (Y0 a8 0) ap λdn=>
  U x3 (Y0 a8 1) ap λbt=>
  U x3 (Y0 a8 2) ap λba=>
  U x3 (aA .eql e5 false true ba (Δ 0)) ap λcP=>
  Split cP (ai x3 mr [(Γ g),(Δ 4),bt] ap λdp cQ=>
  aQ cQ)
  (U x3 (aA .eql e5 false true ba (Δ 11)) ap λcR=>
  Split cR (ai x3 mr [(Γ g),ba,bt] ap λdq cS=>
   aQ cS)
   (aQ ap)))
  (aQ aJ):=by
 refine dv (λJ=>ae (λr=>r=g\/r=gs) w J/\ ∃ (e big an ao told:Int) (sv:y0),ad J g cd (fm gs e big an ao told sv)/\((e≠0/\res=ν)\/(e=0/\ ∃s,so=σ s/\s.toks=[]/\clean=true/\(s.big=true↔big≠0)))) ?_ ?_
 rotate_left
 .intro cT bb;refine (AL aZ).mono ?_;rintro _ V _ ⟨rfl,aL⟩;cases so with
  |none=>
   rw[show (ν:Option aE).isSome=false from rfl,aT];obtain⟨e,big,an,ao,told,sv,X,bc⟩:=aZ.ext aL;refine bb _ ⟨aL.ab _,e,big,an,ao,told,sv,X,.inl ⟨bc,?_⟩⟩;cases ag:res with
   |none=>rfl
   |some f=>obtain⟨s,h,_⟩:=au.bad (by rw[ag];simp);cases h
  |some s=>
   rw[show (σ s:Option aE).isSome=true from rfl,bX];have cU:dd V g gs A B s clean:=aZ.ext aL;obtain⟨aR,cV,cW,big,an,ao,told,sv,X,bc,cX⟩:=id cU;rw[aK cd.p 0 X rfl];refine (pE cV).mono ?_;rintro v aa _ ⟨ax,az⟩;have cY:(s.toks≠[]\/clean=false)->res=ν:=λW=>by
    cases ag:res with
    |none=>rfl
    |some f=>
     obtain⟨s',h,aN,bx,_⟩:=au.bad (by rw[ag];simp);cases h;rcases W with W|W
     .exact absurd aN W
     .rw[W] at bx;cases bx
   have aV:∀Y,ae (λr=>r=g) aa Y->eu Y g gs A B->(s.toks≠[]\/clean=false)->cT Y:=λY aO aV W=>by
    obtain⟨_,e,big,an,ao,told,sv,l,cZ,c1,_⟩:=aV;exact bb _ ⟨((aL.ab _).trans (ax.mono λr _ h=>.inr h)).trans (aO.mono λr _ h=>.inl h),e,big,an,ao,told,sv,cZ,.inl ⟨c1.1,cY W⟩⟩
   have be:=X.ab ax aR.1;have bz:=al.ab cX ax λr _ h aN=>by
    have aN:r=gs:=aN;subst aN;rcases h with h|h
    .exact aR.2.2.1 h
    .exact h.1 (.inr (.inl rfl))
   have bA:s.shared.length<=100000:=by have:=cW.2.2;omega
   cases aB:s.toks with
   |cons t l=>
    rw[aB] at az;obtain⟨dr,n,rfl⟩:=az;rw[hj,hl,hn,bn,ak];refine⟨λ_=>?_,λh=>absurd rfl h⟩;refine (rQ (aR.ab ax) be bz Ω bA).mono ?_;rintro _ Y _ ⟨aO,bf⟩;exact aV Y aO bf (.inl (by rw[aB];simp))
   |nil=>
    rw[aB] at az;obtain⟨n,rfl⟩:=az;rw[hj,hl,hn,bn,ak];refine⟨λh=>by cases clean<;>simp at h,λ_=>?_⟩;rw[bn,ak];cases aW:clean with
    |true=>
     subst aW;refine⟨λh=>by simp at h,λ_=>bb _ ⟨(aL.ab _).trans (ax.mono λr _ h=>.inr h),0,big,an,ao,told,sv,be,.inr ⟨rfl,s,rfl,aB,rfl,bc.1⟩⟩⟩
    |false=>
     subst aW;refine⟨λ_=>?_,λh=>absurd rfl h⟩;refine (rQ (aR.ab ax) be bz Ξ bA).mono ?_;rintro _ Y _ ⟨aO,bf⟩;exact aV Y aO bf (.inr rfl)
 .rintro V ⟨aX,e,big,an,ao,told,sv,X,c2⟩;have ds:=aX.size;have bg:Ext w0 V:=(bM.ext λr ag h=>Ω).then aX (λr ag h=>by rcases h with h|h<;>omega);rw[bu,aM cd.p rfl,aM eQ.p rfl,aS Ψ (X.cell (o:=0+1+0) rfl),bH,ak];rcases c2 with⟨he,bh⟩|⟨rfl,s,rfl,aB,aW,bB⟩
  .refine⟨λ_=>?_,λh=>absurd he h⟩;intro aa af _ _;rw[bu,aM cd.p rfl,aM eQ.p rfl,aS Ψ ((X.ext af).cell (o:=0+1+2) rfl),bu,aM cd.p rfl,aM eQ.p rfl,aS Ψ ((X.ext af).cell (o:=0+1+0) rfl)];rw[bh] at aC;exact aC _ _ ⟨bg.trans af,an,e,rfl,he⟩
  .refine⟨λh=>absurd rfl h,λ_=>?_⟩;rw[bu,aM cd.p rfl,aM eQ.p rfl,aS Ψ (X.cell (o:=0+1+1) rfl),bH,ak];refine⟨λW=>?_,λW=>?_⟩
   .have bh:res=ν:=by
     cases ag:res with
     |none=>rfl
     |some f=>
      obtain⟨s',h,_,_,bC⟩:=au.bad (by rw[ag];simp);cases h;rw[bB.2 W] at bC;cases bC
    intro aa af _ _;rw[bu,aM cd.p rfl,aM eQ.p rfl,aS Ψ ((X.ext af).cell (o:=0+1+3) rfl),bu,aM cd.p rfl,aM eQ.p rfl,aS Ψ ((X.ext af).cell (o:=0+1+1) rfl)];rw[bh] at aC;exact aC _ _ ⟨bg.trans af,ao,big,rfl,W⟩
   .have c3:s.big=false:=by
     cases c4:s.big with
     |false=>rfl
     |true=>exact absurd (bB.1 c4) W
    obtain⟨bi,rfl,rfl,c5,c6,c7⟩:=au.ox s rfl aB aW c3;have c9:aH .i64 V szv sizes:=iZ bI aX λr ag a n c az au=>by
     have:=bK r ⟨a,n,c,az,au⟩;exact ag.elim this.1 this.2
    refine (sn c9 c7).mono ?_;rintro bj aa _ ⟨af,gz,dt,bk⟩;have du:=af.size;rw[c8 (cs:=#[bU name,Δ k,bj,.slice ν 0 0]) (by obtain⟨_,_,_,rfl⟩:=b7 bk.ls;kernel_rfl)];refine bP λbl Y dw bm aY=>?_;have aY:ad Y bl cv [bU name,Δ k,bj,.slice ν 0 0]:=by obtain⟨_,_,_,rfl⟩:=b7 bk.ls;exact aY
    have bD:al.rep m S R Y [aP] (show List gV from bi.map gD):=a7 (a7 (al.ab bL aX λr _ h he=>by have:=bo r h;exact he.elim this.1 this.2.1) af) bm;have da:(bi.map gD).length=bi.length:=Ξ
    rw[eh iz.u bD,da];refine JK aY bD (λr h=>by have:=bo r h;omega) c5 c6 λbE db dc de df dg dh=>?_;have dx:=aY.lt;have z3:=bm.size;have bF:Ext aa bE:=bm.then de (λr ag h=>by have h:r=bl:=h;omega);have bG:Ext w0 bE:=(bg.trans af).trans bF;rw[aU cH.u (bN.ext bG)];exact aC _ _ ⟨bG,bl,_,rfl,bj,db,gz,dc,df,bk.ext bF,gQ dg,dh⟩
theorem Bd {α:Type} {f:List α->aE->Option (α×aE)} {acc:List α} {s:aE}:fa f (n+1) acc (σ s)=match f acc s with
  |none=>ν
  |some (a,s')=>fa f n (acc++[a]) (σ s'):=by
 show cD f (n+1) acc s=_;simp only[cD];cases f acc s<;>rfl
theorem JN {g:Nat} {A B:ah} {s:Option aE} {most:Int} {az:y0->x2->Prop} (h:dh w g gs A B clean s) (aY:(N:Int)<=aq)
  (aB:∀szv w' l so gz,ae (bE g gs A) w w'->dh w' g gs A B clean so->ao .i64 an w' gz szv l->w.heap.size<=gz->l.length<=100001->(∀q,fa (e0 most) N [] s=σ q->so=σ q.2/\l=q.1)->(fa (e0 most) N [] s=ν->so=ν)->az szv w'):
 bA (.slice ν 0 0) (Δ 0) w λsizes i af k=>
  bJ (α:=y0->x2->Prop) (λ(a1:y0) (aC:x2)=>
   Split a1 (ai x3 mq [Γ g,(Δ 1),Δ most] aC λaD Y=>
  U x3 (Y0 aD 0) Y λaF=>
  U x3 (Y0 aD 1) Y λa2=>
  U x3 (aA .gtr an false true aF (Δ 32)) Y λa6=>
  ai x3 po [Γ g,a6,a2] Y λbQ a7=>
  ay x3 (Y1 au 1 #[(0,aF)]) a7 λbb bc=>
  ay x3 (j4 #[au,au] au #[sizes,bb]) bc λbd aG=>
  U x3 (aA .add an false true i (Δ 1)) aG λbf=>
  k bd bf aG) (az sizes aC)) λaj=>
  U x3 (aA .lss an false false i (Δ (N:Int))) af λbg=>
  Split bg (ai x3 j3 [Γ g] af λbh bi=>
  aj bh bi)
   (aj (.bool false) af):=by
 obtain⟨bR,aH,bT,bj,bk⟩:=h.side;have ag:∀r,bE g gs A r->r<w.heap.size:=bj;unfold aq at aY;generalize bl:fa (e0 most) N [] s=aI at aB;refine⟨λout al V=>∃ (i:Nat) (l:Λ) (so:Option aE) (gz:Nat),al=Δ (i:Int)/\i<=N/\ae (bE g gs A) w V/\ao .i64 an V gz out l/\w.heap.size<=gz/\dh V g gs A B clean so/\aI=fa (e0 most) (N-i) l so/\l.length<=100001/\ ∀st,so=σ st->l.length+st.toks.length<=100000,
  λ_ al _=>N-(bS al).toNat,⟨0,[],s,w.heap.size,rfl,X7 _,ae.refl _ _,ao.nil _ _ _ _,n9 _,h,bl.symm,Ξ,λst bm=>?_⟩,?_⟩
 .subst bm;have:=h.words;simpa using this
 rintro out _ V ⟨i,l,so,gz,rfl,bU,am,aJ,bn,aK,ac,bo,aM⟩;refine aR (λv aN=>Ext V aN/\((v= .bool true/\i<N/\ ∃st,so=σ st)\/(v= .bool false/\(so=ν\/i=N)))) ?_ ?_
 rotate_left
 .intro aj ap;rw[aQ,ak];refine⟨λbp=>?_,λbV=>ap _ _ ⟨Ext.refl _,.inr ⟨rfl,.inr Ω⟩⟩⟩;refine (oB aK).mono ?_;rintro _ aN _ ⟨rfl,aO⟩;cases so with
  |none=>exact ap _ _ ⟨aO,.inr ⟨rfl,.inl rfl⟩⟩
  |some st=>exact ap _ _ ⟨aO,.inl ⟨rfl,Ω,st,rfl⟩⟩
 rintro _ aa ⟨X,bq⟩;have aP:=aJ.ext X;have aS:=aK.ext X;rcases bq with⟨rfl,bp,st,rfl⟩|⟨rfl,br⟩
 rotate_left
 .rw[aT];have aU:aI=so.map λst=>(l,st):=by
   rcases br with rfl|rfl
   .exact ac
   .rw[V9] at ac;rw[ac];cases so<;>rfl
  refine aB out aa l so gz (am.trans (X.ab _)) aS aP bn bo (λq J=>?_) λaV=>?_
  .rw[aU] at J;cases so with
   |none=>cases J
   |some st=>cases J;exact⟨rfl,rfl⟩
  .rw[aU] at aV;cases so with
   |none=>rfl
   |some st=>cases aV
 rw[bX];have aM:=aM st rfl;refine (k9 (s:=σ st) aS).mono ?_;rintro _ bW _ ⟨av,z,at_,rfl,bt,bZ⟩;obtain⟨aw,bu⟩:=av.of;rw[bL,bM,bY];refine (pU bu).mono ?_;rintro _ b0 _ av;obtain⟨ax,bw⟩:=av.of;refine dJ au.u an.i rfl λa aZ bx b1 ad bB=>?_;have b2:=am.size;have b3:=X.size;have z3:=aw.size;have z4:=ax.size;have z5:=ad.size;have aW:∀r,leads out r->¬bE g gs A r:=λr W bC=>by have:=ag r bC;have:=(bz aJ W).1;omega
 have bD:=be (be aP aw aW) ax aW;refine h6 au.u an.i rfl (bD.ext ad) bB.ls Θ Θ λb4 bF bG b5 bH aX=>?_;rw[aL,wrap_i64 Ω Ω];have bI:ae (bE g gs A) w bx:=((((am.trans (X.ab _)).trans aw).trans ax).trans (ad.ab _));have bK:ae (bE g gs A) w bG:=gy bI aX λr W he=>by have he:r=gz:=he;omega
 have bN:∀r,bE g gs A r->¬(λr=>r=gz) r:=λr W he=>by have:=ag r W;have he:r=gz:=he;omega
 have bO:∀r,cA g gs A B r->¬(λr=>r=gz) r:=λr W he=>by have:=bk r W.2;have he:r=gz:=he;omega
 refine⟨⟨i+1,l++[z],_,bF,rfl,Ω,bK,bH,Ω,(bw.ext ad).ab aX bN bO,?_,Θ,λb6 bP=>?_⟩,by simp only[bS];omega⟩
 .rw[ac,show N-i=(N-(i+1))+1 by omega,Bd];unfold e0;cases J:ba 1 most st with
  |none=>have e:a8 1 most (σ st)=ν:=J;rw[e];rfl
  |some q=>
   have e:a8 1 most (σ st)=σ q:=J;have:=bt q e;subst this;rw[e];rfl
 .obtain⟨b7,aH,rfl⟩:=X5.1 bP;obtain⟨q,J,rfl⟩:=X5.1 aH;have h1:=(db (n:=q.1) (s':=q.2) J).1;simp only[r8,U2];show l.length+1+q.2.toks.length<=100000;omega
theorem JO {acc:List (Λ×Int)} {s s':aE} {a:Λ×Int} (h:dK sizes acc s=σ (a,s')):s'.told=s.told/\s'.big=s.big:=by
 obtain⟨_,_,_,J⟩:=mX h;exact⟨J.eqs.1,J.eqs.2.1⟩
theorem JP {s s':aE} {l:List (Λ×Int)} (hi:dL s) (h:ds sizes s=σ (l,s')):dL s'/\(s.big=true->s'.big=true):=by
 have e:=AI sizes (σ s);rw[show ig sizes (σ s)=ds sizes s from rfl,h] at e;cases W:a8 (-aq) aq (σ s) with
 |none=>rw[W] at e;cases e
 |some q=>
  obtain⟨n,s1⟩:=q;rw[W] at e;simp only at e;have h1:=(db (n:=n) (s':=s1) W).eqs;have Y:dL s1:=λU=>by rw[h1.1];rw[h1.2.1] at U;exact hi U
  split at e
  .cases J:s1.shared[(-n-1).toNat]? with
   |none=>rw[J] at e;cases e
   |some q=>
    obtain⟨z,l'⟩:=q;rw[J] at e;simp only at e;split at e
    .cases e;exact⟨Y,λU=>by rw[h1.2.1];exact U⟩
    .cases e
  .have:=ia (f:=dK sizes) (λacc t=>t.told=(jf n s1).told/\t.big=(jf n s1).big) (λacc t a bD ⟨X,V⟩ g=>by
    have:=JO g;exact⟨by rw[this.1,X],by rw[this.2,V]⟩) n.toNat [] _ l s' ⟨rfl,rfl⟩ e.symm
   obtain⟨⟨X,V⟩,_⟩:=this;refine⟨λU=>by rw[X];rw[V] at U;exact Ja n s1 U,λU=>?_⟩;rw[V];show (s1.big||_)=true;rw[h1.2.1,U];rfl
theorem JQ {s s':aE} {x:ce} (hi:dL s) (h:cW all s=σ (x,s')):dL s'/\s'.toks.length<s.toks.length:=by
 unfold cW at h;cases W:ba (-aq) aq s with
 |none=>rw[W] at h;cases h
 |some q=>
 obtain⟨a,s1⟩:=q;rw[W] at h;simp only at h;have t0:=db W;cases h1:eK all.length a.natAbs s1 with
 |none=>rw[h1] at h;cases h
 |some q=>
 obtain⟨sc,U⟩:=q;rw[h1] at h;simp only at h;obtain⟨X,_⟩:=rN h1;generalize sc.map (λv=>all.getD v.toNat 0)=sizes at h;cases Y:ba 0 aq (a6 (decide (6<a.natAbs)||df sizes) U) with
 |none=>rw[Y] at h;cases h
 |some q=>
 obtain⟨other,aa⟩:=q;rw[Y] at h;simp only at h;have ab:=db Y;have af:dL aa:=λJ=>by
  rw[ab.eqs.1];rw[ab.eqs.2.1] at J;have J:(U.big||_)=false:=J;have ad:=(R3.1 J).1;show U.told<=16384;rw[X.eqs.1,t0.eqs.1];rw[X.eqs.2.1,t0.eqs.2.1] at ad;exact hi ad
 cases V:ds sizes aa with
 |none=>rw[V] at h;cases h
 |some q=>
 obtain⟨lines,ac⟩:=q;rw[V] at h;simp only[Y8,T5] at h;obtain⟨_,rfl⟩:=h;have ag:=JP af V;have aj:=AP V;have ak:=t0.1;have al:=X.1;have am:U.toks.length=aa.toks.length+1:=ab.1;have ae:∀t:aE,t.told=ac.told/\t.big=ac.big/\t.toks=ac.toks->dL t/\t.toks.length<s.toks.length:=λt ⟨ah,ai,a3⟩=>⟨λJ=>by rw[ah];rw[ai] at J;exact ag.1 J,by rw[a3];omega⟩;split
 .exact ae _ ⟨rfl,rfl,rfl⟩
 .exact ae _ ⟨rfl,rfl,rfl⟩
theorem JR {S R:ah} {x:gV} (h:al.rep false S R w cs x):al.rep (α:=gV) true bC R w cs x/\(y0.agg cs.toArray).cells=cs.toArray:=by
 obtain⟨W,d1,aa,ab,rfl,_,_,_,h1,X,d2,ac,ad,rfl,_,_,_,J,Y,d3,ae,af,rfl,_,_,_,V,U⟩:=h;have h1:al.rep (α:=Λ) false bC R w W x.1:=h1;have J:al.rep (α:=Λ) false bC R w X x.2.1:=J;have V:Y=[Δ x.2.2.1]:=V;have U:al.rep (α:=List (Λ×Int)) false bC R w d3 x.2.2.2:=U;refine⟨⟨W,_,bC,bC,rfl,λ_ h=>h,λ_ h=>h,λ_ _ h _=>h,h1,X,_,bC,bC,rfl,λ_ h=>h,λ_ h=>h,λ_ _ h _=>h,J,Y,d3,bC,bC,rfl,λ_ h=>h,λ_ h=>h,λ_ _ h _=>h,V,U⟩,?_⟩;obtain⟨u,rfl⟩:=W7.1 (show W.length=1 from al.len h1);obtain⟨v,rfl⟩:=W7.1 (show X.length=1 from al.len J);obtain⟨y,rfl⟩:=W7.1 (show d3.length=1 from al.len U);obtain⟨_,_,_,rfl⟩:=la h1;obtain⟨_,_,_,rfl⟩:=la J;obtain⟨_,_,_,rfl⟩:=la U;subst V;rfl
theorem JS {w0:x2} {g c:Nat} {A B:ah} {o:Option aE} {au:y0} {ba:y0->x2->Prop} (bb:gC w g gs A B clean o) (hi:∀s,o=σ s->dL s) (bR:(c:Int)<=aq)
  (bT:aH .i64 w au all) (bc:∀r,leads au r->r≠g/\r≠gs/\r<w.heap.size/\(o≠ν->¬A r)) (bU:o≠ν-> ∀z∈all,1<=z/\z<=aq) (bV:all.length<=100001) (bW:e2 w) (h1:1<w0.heap.size/\(o≠ν->cA g gs A B 1))
  (bd:ae (λr=>w0.heap.size<=r) w0 w) (bY:w0.heap.size<=g) (bZ:w0.heap.size<=gs) (cL:g<w.heap.size/\gs<w.heap.size) (b0:o≠ν-> ∀r,A r->w0.heap.size<=r)
  (be:∀av w' acc so aG ac bf bg,ae (λr=>w0.heap.size<=r) w0 w'->w.heap.size<=w'.heap.size->gC w' g gs aG ac clean so->al.rep (α:=List gV) true bf bg w' [av] acc->(∀r,bf r\/bg r->r≠g/\r≠gs/\r<w'.heap.size)->aH .i64 w' au all->
   (∀q,fa (λ_ s=>cW all s) c [] o=σ q->so=σ q.2/\acc=q.1.map gD)->(fa (λ_ s=>cW all s) c [] o=ν->so=ν)->ba av w'):
 bA (.slice ν 0 0) (Δ 0) w λfuns bh aS b1=>
  bJ (α:=y0->x2->Prop) (λ(b2:y0) (bj:x2)=>
   Split b2 (ai x3 xY [Γ g,au] bj λb3 b4=>
  ay x3 (Y1 iz 1 #[(0,b3)]) b4 λb5 b6=>
  ay x3 (j4 #[iz,iz] iz #[funs,b5]) b6 λb7 bk=>
  U x3 (aA .add an false true bh (Δ 1)) bk λb8=>
  b1 b7 b8 bk) (ba funs bj)) λbl=>
  U x3 (aA .lss an false false bh (Δ (c:Int))) aS λca=>
  Split ca (ai x3 j3 [Γ g] aS λcb cc=>
  bl cb cc)
   (bl (.bool false) aS):=by
 unfold aq at bR;generalize X:fa (λ_ s=>cW all s) c [] o=bm at be;have bn:∀s,o=σ s->o≠ν:=λs h=>by rw[h];simp
 refine⟨λav aU V=>∃ (i:Nat) (acc:List gV) (aj:List ce) (so:Option aE) (ad ao af aw:ah),aU=Δ (i:Int)/\i<=c/\ae (λr=>w0.heap.size<=r) w0 V/\w.heap.size<=V.heap.size/\gC V g gs ad ao clean so/\al.rep true af aw V [av] acc/\
   aH .i64 V au all/\e2 V/\bm=fa (λ_ s=>cW all s) (c-i) aj so/\(∀r,af r->w.heap.size<=r/\r<V.heap.size)/\(∀r,aw r->r≠g/\r≠gs/\¬af r)/\
   ∀s,so=σ s->acc=aj.map gD/\dL s/\aj.length+s.toks.length<=100000/\o≠ν/\(∀r,ad r->A r\/w.heap.size<=r)/\(∀r,ad r->w0.heap.size<=r)/\(∀r,B r->ao r)/\(∀r,af r->¬ao r/\¬ad r)/\(∀r,aw r->cA g gs ad ao r),
  λ_ aU _=>c-(bS aU).toNat,⟨0,[],[],o,A,B,bC,bC,rfl,X7 _,bd,n9 _,bb,fN,bT,bW,X.symm,λ_ h=>h.elim,λ_ h=>h.elim,λs J=>⟨rfl,hi s J,?_,bn s J,λr W=>.inl W,b0 (bn s J),λr W=>W,λ_ h=>h.elim,λ_ h=>h.elim⟩⟩,?_⟩
 .subst J;have aV:dd w g gs A B s clean:=bb;have:=aV.2.1.words.1;simpa using this
 rintro av _ V ⟨i,acc,aj,so,ad,ao,af,aw,rfl,cM,cd,cN,bo,cg,aW,bp,aJ,ag,ch,bq⟩;refine aR (λv br=>Ext V br/\((v= .bool true/\i<c/\ ∃st,so=σ st)\/(v= .bool false/\(so=ν\/i=c)))) ?_ ?_
 rotate_left
 .intro cO aX;rw[aQ,ak];refine⟨λbt=>?_,λcP=>aX _ _ ⟨Ext.refl _,.inr ⟨rfl,.inr Ω⟩⟩⟩;refine (AL bo).mono ?_;rintro _ br _ ⟨rfl,bu⟩;cases so with
  |none=>exact aX _ _ ⟨bu,.inr ⟨rfl,.inl rfl⟩⟩
  |some st=>exact aX _ _ ⟨bu,.inl ⟨rfl,Ω,st,rfl⟩⟩
 rintro _ aa ⟨ap,ci⟩;have cQ:=ap.size;have aC:=bo.ext ap;have bw:=a7 cg ap;have bx:ae (λr=>w0.heap.size<=r) w0 aa:=cd.trans (ap.ab _);rcases ci with⟨rfl,bt,st,rfl⟩|⟨rfl,cj⟩
 rotate_left
 .rw[aT];have bz:bm=so.map λst=>(aj,st):=by
   rcases cj with rfl|rfl
   .exact aJ
   .rw[V9] at aJ;rw[aJ];cases so<;>rfl
  refine be av aa acc so ad ao af (λr=>aw r/\r<aa.heap.size) bx Ω aC (al.mono bw (λ_ _ h=>h) λr W h=>⟨h,W⟩) (λr W=>?_) (aW.ext ap) (λq am=>?_) λbB=>?_
  .rcases W with W|W
   .have:=ag r W;exact⟨Ω,Ω,Ω⟩
   .have:=ch r W.1;exact⟨this.1,this.2.1,W.2⟩
  .rw[bz] at am;cases so with
   |none=>cases am
   |some st=>cases am;exact⟨rfl,(bq _ rfl).1⟩
  .rw[bz] at bB;cases so with
   |none=>rfl
   |some st=>cases bB
 rw[bX];obtain⟨rfl,bD,cR,aK,bF,aY,bG,aM,bH⟩:=bq st rfl;have aC:dd aa g gs ad ao st clean:=aC;obtain⟨cS,cT,cU,cV,cX⟩:=aC.1;have ck:=h1.2 aK;have bI:cA g gs ad ao 1:=⟨λX=>by
  rcases X with X|X|X
  .omega
  .omega
  .have:=aY 1 X;omega,bG 1 ck.2⟩
 have bK:∀r,leads au r->¬bE g gs ad r/\r<aa.heap.size:=λr W=>by
  obtain⟨cl,cm,cn,cp⟩:=bc r W;refine⟨λX=>?_,Ω⟩;rcases X with X|X|X
  .exact cl X
  .exact cm X
  .rcases bF r X with h|h
   .exact cp aK h
   .omega
 refine (Jl aC bD (aW.ext ap) bK (bU aK) bV (bp.ext ap) bI).mono ?_;rintro _ cq _ ⟨aG,ac,cs,aZ,rfl,cY,aD,aF,a1,bL,bM,cr,ct⟩;have z3:=aD.size;obtain⟨bN,cu⟩:=JR cr;refine hp (α:=gV) (a:=aZ) (cs:=cs) (A:=bC) (R:=cA g gs aG ac) iz.u b9.i Φ cu bN λu aN ax _ hu=>?_;have z4:=ax.size;have cw:∀r,r<aa.heap.size->af r\/aw r->¬bE g gs ad r:=λr W h X=>by
  rcases h with h|h
  .have Y:=ag r h;rcases X with X|X|X
   .omega
   .omega
   .exact (aM r h).2 X
  .exact (bH r h).1 X
 have cz:∀r,r<aa.heap.size->cA g gs ad ao r->cA g gs aG ac r:=λr W h=>⟨λX=>h.1 (X.imp id (Or.imp id λX=>(aF r X).elim id λh'=>Ω)),bL r h.2⟩;have cB:bi af (cA g gs aG ac) aN [av] (aj.map gD):=a7 (al.ab (al.mono (S':=af) (R':=λr=>cA g gs aG ac r/\aw r) bw (λ_ _ h=>h) λr W h=>⟨cz r W (bH r h),h⟩) aD λr W h=>cw r W (h.imp id λh=>h.2) |> λh=>h) ax |> λh=>al.mono h (λ_ _ h=>h) λ_ _ h=>h.1;have aO:∀r,af r->¬ac r:=λr h aP=>by
  have Y:=ag r h;rcases (a1 r aP).1 with az|az
  .exact (aM r h).1 az
  .have a2:=(ag r h).2;omega
 have cZ:(aj.map gD).length=aj.length:=Ξ
 refine mJ (α:=gV) (a:=aZ) (A:=bC) iz.u b9.i rfl cB hu (a7 bN ax) (λr _ cC h=>?_) Ω Ω λc1 aB cD aI=>?_
 .rcases h with h|h
  .exact h
  .exact aO r cC h.2
 have z5:=aI.size;rw[aL,wrap_i64 Ω Ω];have cE:ae (λr=>w0.heap.size<=r) w0 aN:=(bx.trans (aD.mono λr _ X=>by
  rcases X with rfl|rfl|X
  .exact bY
  .exact bZ
  .exact aY r X)).trans (ax.ab _)
 have z0:=bd.size;have cF:ae (λr=>w0.heap.size<=r) w0 aB:=cE.trans (aI.mono λr _ h=>by have:=(ag r h).1;omega);have cG:aH .i64 aN au all:=(iZ (aW.ext ap) aD λr W a n c a6 a8=>(bK r ⟨a,n,c,a6,a8⟩).1 W).ext ax;have cH:aH .i64 aB au all:=iZ cG aI λr W a n c a6 a8=>by
  have cn:=(bc r ⟨a,n,c,a6,a8⟩).2.2.1;have:=(ag r W).1;omega
 have cI:e2 aB:=(((bp.ext ap).ab aD bI.1).ext ax).ab aI λh=>by have:=(ag 1 h).1;omega
 have bO:gC aB g gs aG ac clean ((cW all st).map (·.2)):=by
  refine gC.ab (bM.ext ax) aI (λh=>by have:=ag _ h;omega) (λr W c2 h=>?_) (λr W h=>aO r h W.2);have Y:=ag r h;rcases W with rfl|rfl|W
  .omega
  .omega
  .rcases aF r W with az|az
   .exact (aM r h).2 az
   .omega
 have cJ:=k1 cD;refine⟨⟨i+1,(aj.map gD)++[aZ],aj++((cW all st).map (·.1)).toList,(cW all st).map (·.2),aG,ac,λr=>(af r\/bC r\/aN.heap.size<=r)/\r<aB.heap.size,cA g gs aG ac,rfl,Ω,cF,Ω,bO,cJ,cH,cI,?_,λr W=>⟨?_,W.2⟩,λr W=>⟨λh=>W.1 (.inl h),λh=>W.1 (.inr (.inl h)),λh=>?_⟩,λs' cK=>?_⟩,by simp only[bS];omega⟩
 .rw[aJ,show c-i=(c-(i+1))+1 by omega,Bd];cases am:cW all st with
  |none=>rfl
  |some q=>rfl
 .rcases W.1 with h|h|h
  .exact (ag r h).1
  .exact h.elim
  .omega
 .rcases h.1 with Y|Y|Y
  .exact aO r Y W.2
  .exact Y
  .have:=(a1 r W.2).2;omega
 .obtain⟨q,am,rfl⟩:=X5.1 cK;have Y:=JQ (s':=q.2) (x:=q.1) bD am;have az:=ct q am;refine⟨?_,Y.1,?_,aK,λr W=>?_,λr W=>?_,λr W=>bL r (bG r W),λr W=>⟨λaP=>?_,λbP=>?_⟩,λr W=>W⟩
  .rw[am,az];simp
  .rw[am];simp only[Y4,j6,r8,U2];omega
  .rcases aF r W with h|h
   .exact bF r h
   .exact .inr Ω
  .rcases aF r W with h|h
   .exact aY r h
   .omega
  .rcases W.1 with Y|Y|Y
   .exact aO r Y aP
   .exact Y
   .have:=(a1 r aP).2;omega
  .have c3:gC aB g gs aG ac clean ((cW all st).map (·.2)):=bO;have bQ:=bM;rw[am] at bQ;have aV:dd cq g gs aG ac q.2 clean:=bQ;have bt:=aV.1.2.2.2.1 r (.inr (.inr bP));rcases W.1 with Y|Y|Y
   .rcases aF r bP with a2|a2
    .exact (aM r Y).2 a2
    .have:=(ag r Y).2;omega
   .exact Y
   .omega
theorem dL.num {lo hi n:Int} {s s':aE} (U:dL s) (h:ba lo hi s=σ (n,s')):dL s':=λJ=>by
 have h1:=(db h).eqs;rw[h1.1];rw[h1.2.1] at J;exact U J
theorem dL.big {b:Bool} {s:aE} (h:dL s):dL (a6 b s):=λJ=>by
 have J:(s.big||b)=false:=J;exact h (R3.1 J).1
theorem dL.word {w:Λ} {s s':aE} (h:dL s) (hw:dD s=σ (w,s')):dL s':=λJ=>by
 have h1:=(pF hw).2;rw[h1] at J ⊢;exact h J
theorem JT {most:Int} {s s':aE} (hi:dL s) (hm:most<=aq) (h:cD (e0 most) N [] s=σ (l,s')):dL s'/\(∀z∈l,1<=z/\z<=aq)/\l.length+s'.toks.length<=s.toks.length:=by
 have:=ia (f:=e0 most) (λacc t=>dL t/\(∀z∈acc,1<=z/\z<=aq)/\acc.length+t.toks.length<=s.toks.length) (λacc t a bD ⟨h1,V,Y⟩ g=>by
  unfold e0 at g;cases J:ba 1 most t with
  |none=>rw[J] at g;cases g
  |some q=>
   obtain⟨z,W⟩:=q;rw[J] at g;simp only[Y8,T5] at g;obtain⟨rfl,rfl⟩:=g;have aa:=(hr J).1;have ab:=(db J).1;refine⟨(h1.num J).big,λx U=>?_,?_⟩
   .rcases l5.1 U with U|U
    .exact V x U
    .rw[l9.1 U];omega
   .simp only[r8,U2];show acc.length+1+W.toks.length<=_;omega) N [] s l s' ⟨hi,λz X=>(by cases X),Ξ⟩ h
 exact this.1
theorem JU {s0:aE} {name:Λ} {n most cnt:Int} {so6:Option aE}
  (h1:∀q,dD s0=σ q->name=q.1)
  (aa:∀q,a8 1 aq (((dD s0).map (·.2)).map (a6 (decide (64<(name.length:Int)))))=σ q->n=q.1)
  (Y:∀q,a8 1 aq (((a8 1 aq (((dD s0).map (·.2)).map (a6 (decide (64<(name.length:Int)))))).map (·.2)).map (a6 (decide (64<n))))=σ q->most=q.1)
  (X:∀q,a8 0 aq ((a8 1 aq (((a8 1 aq (((dD s0).map (·.2)).map (a6 (decide (64<(name.length:Int)))))).map (·.2)).map (a6 (decide (64<n))))).map (·.2))=σ q->cnt=q.1)
  (W:∀q,a8 1 aq (((a8 0 aq ((a8 1 aq (((a8 1 aq (((dD s0).map (·.2)).map (a6 (decide (64<(name.length:Int)))))).map (·.2)).map (a6 (decide (64<n))))).map (·.2))).map (·.2)).map (a6 (decide (256<cnt))))=σ q->k=q.1)
  (V:∀q,fa (e0 most) n.toNat [] (((a8 1 aq (((a8 0 aq ((a8 1 aq (((a8 1 aq (((dD s0).map (·.2)).map (a6 (decide (64<(name.length:Int)))))).map (·.2)).map (a6 (decide (64<n))))).map (·.2))).map (·.2)).map (a6 (decide (256<cnt))))).map (·.2)).map (a6 (decide (2147483648<k))))=σ q->so6=σ q.2/\sizes=q.1)
  (U:fa (e0 most) n.toNat [] (((a8 1 aq (((a8 0 aq ((a8 1 aq (((a8 1 aq (((dD s0).map (·.2)).map (a6 (decide (64<(name.length:Int)))))).map (·.2)).map (a6 (decide (64<n))))).map (·.2))).map (·.2)).map (a6 (decide (256<cnt))))).map (·.2)).map (a6 (decide (2147483648<k))))=ν->so6=ν):
  gx s0=(fa (λ_ s=>cW sizes s) cnt.toNat [] so6).map λq=>((⟨name,k,sizes,q.1⟩:b4),q.2):=by
 unfold gx;cases af:dD s0 with
 |none=>
  rw[af] at U;rw[U rfl];rfl
 |some ap=>
 obtain⟨aH,s1⟩:=ap;rw[af] at h1 aa Y X W V U;have:=h1 _ rfl;subst this;have au:decide (64<(name.length:Int))=decide (64<name.length):=by rw[U4,decide_eq_true_eq,decide_eq_true_eq];omega
 rw[au] at aa Y X W V U;simp only[Y4] at aa Y X W V U ⊢;generalize a6 (decide (64<name.length)) s1=ac at*;cases ag:ba 1 aq ac with
 |none=>
  rw[show a8 1 aq (σ ac)=ν from ag] at U;rw[U rfl];rfl
 |some av=>
 obtain⟨aw,ah⟩:=av;rw[show a8 1 aq (σ ac)=σ (aw,ah) from ag] at aa Y X W V U;have:=aa _ rfl;subst this;simp only[Y4] at Y X W V U ⊢;generalize a6 (decide (64<n)) ah=ad at*;cases ai:ba 1 aq ad with
 |none=>
  rw[show a8 1 aq (σ ad)=ν from ai] at U;rw[U rfl];rfl
 |some ax=>
 obtain⟨ay,ab⟩:=ax;rw[show a8 1 aq (σ ad)=σ (ay,ab) from ai] at Y X W V U;have:=Y _ rfl;subst this;simp only[Y4] at X W V U ⊢;cases aj:ba 0 aq ab with
 |none=>
  rw[show a8 0 aq (σ ab)=ν from aj] at U;rw[U rfl];rfl
 |some az=>
 obtain⟨aA,ak⟩:=az;rw[show a8 0 aq (σ ab)=σ (aA,ak) from aj] at X W V U;have:=X _ rfl;subst this;simp only[Y4] at W V U ⊢;generalize a6 (decide (256<cnt)) ak=ae at*;cases al:ba 1 aq ae with
 |none=>
  rw[show a8 1 aq (σ ae)=ν from al] at U;rw[U rfl];rfl
 |some aB=>
 obtain⟨aC,am⟩:=aB;rw[show a8 1 aq (σ ae)=σ (aC,am) from al] at W V U;have:=W _ rfl;subst this;simp only[Y4] at V U ⊢;generalize a6 (decide (2147483648<k)) am=aD at*;cases an:cD (e0 most) n.toNat [] aD with
 |none=>
  rw[U an];rfl
 |some aF=>
 obtain⟨aI,ao⟩:=aF;obtain⟨J,aG⟩:=V _ an;subst aG;rw[J];simp only;show _=U6 _ (cD (λ_ s=>cW sizes s) cnt.toNat [] ao);cases cD (λ_ s=>cW sizes s) cnt.toNat [] ao<;>rfl
theorem JV {f:b4} (J:e1 N f) (Y:N<=60000):∀x∈f.funs,sq f.k x:=λx V=>by
 obtain⟨h1,W,aa⟩:=J.funs x V;refine⟨J.k,⟨?_,λz U=>?_⟩,h1.other,h1.lines,by have:=h1.len;omega,Ω⟩
 .rw[h1.sizes,u5];exact W
 .rw[h1.sizes] at U;obtain⟨v,X,rfl⟩:=Z6.1 U;have:=h1.scope.2 v X;refine J.sizes.2.2 _ ?_;rw[u9,x6 Ω];exact S3 _
theorem JW {p:y0} {pl:Λ} (ap:aH .u8 w p pl) (ba:Bytes pl) (b6:pl.length<=60000) (aF:e2 w):ai x3 D7 [p] w (Bc w (fj pl)):=by
 have bb:1<w.heap.size:=by
  have:=aF 0 (.int .u64 1) rfl;obtain⟨c,e,f,bc,_⟩:=ua this;exact (Z1.1 bc).1
 have b7:aq=4611686018427387904:=rfl;refine az func23 ?_;rw[aU cH.u ap,bY,ak];refine⟨λh=>Ω,λ_=>?_⟩;refine (zd ap ba Ω).mono ?_;rintro _ V _ ⟨aI,gs,rfl,b8,bd,au⟩;rw[c8 (cs:=#[Γ gs,Δ 0,Δ 0,Δ 0,Δ 0,Δ 0,.slice ν 0 0]) Ψ];refine bP λg aa b9 av aJ=>?_;have ca:=aI.size;have cb:=av.size;have be:=aJ.lt;have cc:gs<V.heap.size:=au.2.2.2.1.lt;have cd:=n5 _ pl (n9 _);let s0:aE:=⟨(lex pl).1,0,false,[]⟩;let B0:ah:=λr=>r<V.heap.size;have bf:dd aa g gs bC B0 s0 (lex pl).2:=by
  refine⟨⟨Ω,λh=>h,λh=>h,λr W=>?_,λr W=>by have W:r<V.heap.size:=W;omega⟩,⟨bd,pl,0,au.ext av,λr W=>?_,by rw[List.drop_zero]⟩,⟨by show (0:Int)<=0;omega,by show (0:Int)<=aq;omega,by show (([]:List (Λ×List (Λ×Int))).length+(lex pl).1.length<=100000);simp;omega⟩,0,0,0,0,.slice ν 0 0,aJ,⟨by simp[s0],λ_=>rfl⟩,fN (α:=ib)⟩
  .rcases W with rfl|rfl|W
   .exact be
   .omega
   .exact W.elim
  .obtain⟨_,_,_,al,ce,hm⟩:=au;have af:=bz hm W;have ag:=b5 hm al Φ W;exact⟨λac=>by
    rcases ac with ac|ac|ac
    .omega
    .exact ag ac
    .exact ac,by show r<V.heap.size;omega⟩
 have aw:∀r,bE g gs bC r->w.heap.size<=r:=λr W=>by
  rcases W with rfl|rfl|W
  .omega
  .omega
  .exact W.elim
 refine (zT bf).mono ?_;rintro _ cg _ ⟨Y,name,ch,rfl,ci,cj,bg⟩;obtain⟨bh,bi⟩:=fA.of Y;rw[bL,bM,mQ c3.u,bY];refine (pU bi).mono ?_;rintro _ ck _ Y;obtain⟨bj,bk⟩:=Y.of;refine (k9 (lo:=1) (hi:=aq) bk).mono ?_;rintro _ cl _ ⟨Y,n,cm,rfl,aK,bl⟩;obtain⟨bm,bn⟩:=Y.of;rw[bL,bM,bY];refine (pU bn).mono ?_;rintro _ cn _ Y;obtain⟨bo,bp⟩:=Y.of;refine (k9 (lo:=1) (hi:=aq) bp).mono ?_;rintro _ cp _ ⟨Y,most,cq,rfl,aL,bq⟩;obtain⟨br,bt⟩:=Y.of;rw[bL,bM];refine (k9 (lo:=0) (hi:=aq) bt).mono ?_;rintro _ cr _ ⟨Y,cnt,ct,rfl,aM,bu⟩;obtain⟨bw,bx⟩:=Y.of;rw[bL,bM,bY];refine (pU bx).mono ?_;rintro _ cu _ Y;obtain⟨bA,bB⟩:=Y.of;refine (k9 (lo:=1) (hi:=aq) bB).mono ?_;rintro _ cw _ ⟨Y,k,cz,rfl,hk,cA⟩;obtain⟨bD,bF⟩:=Y.of;rw[bL,bM,bY];refine (pU bF).mono ?_;rintro _ aN _ Y;obtain⟨bG,ax⟩:=Y.of;have aO:ae (bE g gs bC) aa aN:=(((((((bh.trans bj).trans bm).trans bo).trans br).trans bw).trans bA).trans bD).trans bG;have ay:∀ {lo:Int} {o:Option aE} {x:Int},0<=lo->lo<=1->(∀q,a8 lo aq o=σ q->x=q.1)->(a8 lo aq o=ν->x=0)->0<=x/\x<=aq:=λ{lo o x} cB h1 J bH=>by
  cases U:a8 lo aq o with
  |none=>rw[bH U];omega
  |some q=>
   have af:=l0 (n:=q.1) (s':=q.2) U;rw[J q U];omega
 have cC:=ay Ω Ω aK bl;have cD:=ay Ω Ω aM bu;have cE:=ay Ω Ω aL bq;obtain⟨N,bI⟩:∃N:Nat,n=(N:Int):=⟨n.toNat,Ω⟩;obtain⟨C,bJ⟩:∃C:Nat,cnt=(C:Int):=⟨cnt.toNat,Ω⟩;have bK:n.toNat=N:=Ω
 have bN:cnt.toNat=C:=Ω
 have bO:dL s0:=λ_=>by show (0:Int)<=16384;omega
 have am:∀ {o:Option aE} {b:Bool},(∀s,o=σ s->dL s)-> ∀s,o.map (a6 b)=σ s->dL s:=λh s J=>by
  obtain⟨t,aA,rfl⟩:=X5.1 J;exact (h t aA).big
 have an:∀ {o:Option aE} {lo hi:Int},(∀s,o=σ s->dL s)-> ∀s,(a8 lo hi o).map (·.2)=σ s->dL s:=λ{o lo hi} h s J=>by
  obtain⟨q,U,rfl⟩:=X5.1 J;cases o with
  |none=>cases U
  |some t=>exact (h t rfl).num (n:=q.1) (s':=q.2) U
 have bQ:∀s,(dD s0).map (·.2)=σ s->dL s:=λs J=>by
  obtain⟨q,U,rfl⟩:=X5.1 J;exact bO.word (w:=q.1) (s':=q.2) U
 have aP:=am (b:=decide (2147483648<k)) (an (lo:=1) (hi:=aq) (am (b:=decide (256<cnt)) (an (lo:=0) (hi:=aq) (an (lo:=1) (hi:=aq) (am (b:=decide (64<n)) (an (lo:=1) (hi:=aq) (am (b:=decide (64<(name.length:Int))) bQ)))))));have X:=λ(sizes:Λ) (so6:Option aE)=>JU (s0:=s0) (name:=name) (sizes:=sizes) (n:=n) (most:=most) (cnt:=cnt) (k:=k) (so6:=so6) bg aK aL aM hk;rw[bK] at X;generalize cF:U6 (a6 (decide (2147483648<k))) (U6 (λx=>x.2) (a8 1 aq (U6 (a6 (decide (256<cnt))) (U6 (λx=>x.2) (a8 0 aq (U6 (λx=>x.2) (a8 1 aq (U6 (a6 (decide (64<n))) (U6 (λx=>x.2) (a8 1 aq (U6 (a6 (decide (64<(name.length:Int)))) (U6 (λx=>x.2) (dD s0)))))))))))))=aQ at aP ax X;rw[bI];refine JN (N:=N) (most:=most) ax Ω λszv aB sizes so6 gz bR aR aS cG bS aT aV=>?_;have X:=X sizes so6 aT aV;rw[bN] at X;have aC:ae (bE g gs bC) aa aB:=aO.trans bR;have z12:=aC.size;have aW:Ext w aa:=aI.trans av;have bT:ae (λr=>w.heap.size<=r) w aB:=(aW.ab _).trans (aC.mono λr _ h=>aw r h);have cI:=aR.side;have facts:∀aj,so6=σ aj->dL aj/\(∀z∈sizes,1<=z/\z<=aq)/\sizes.length<=100000:=λaj aD=>by
  cases U:fa (e0 most) N [] aQ with
  |none=>rw[aV U] at aD;cases aD
  |some q=>
   obtain⟨af,ag⟩:=aT q U;cases aD.symm.trans af;subst ag;cases aQ with
   |none=>cases U
   |some bU=>
    obtain⟨bV,bW,cJ⟩:=JT (l:=q.1) (s':=q.2) (aP bU rfl) Ω U;exact⟨bV,bW,by have:=ax.words;omega⟩
 rw[bJ];have aX:∀r,leads szv r->aN.heap.size<=r/\r<aB.heap.size:=λr W=>by have:=bz aS W;omega
 have cK:=aO.size;refine JS (w0:=w) (c:=C) (all:=sizes) aR.q (λs J=>(facts s J).1) Ω aS.ls (λr W=>?_) (λao=>?_) bS ((aF.ext aW).ab aC λac=>by have:=aw 1 ac;omega) ⟨bb,λ_=>⟨λac=>by have:=aw 1 ac;omega,by show 1<V.heap.size;omega⟩⟩
  bT Ω Ω ⟨Ω,Ω⟩ (λ_ r h=>h.elim) λcL cM acc so aG cN cO cP aY cQ bX bZ b0 b1 aZ b2=>?_
 .have:=aX r W;exact⟨Ω,Ω,Ω,λ_ h=>h⟩
 .cases a1:so6 with
  |none=>exact absurd a1 ao
  |some aj=>exact (facts aj a1).2.1
 have cR:=aY.size;have ad:fj pl=match gx s0 with
   |none=>ν
   |some (f,s)=>if s.toks=[]/\(lex pl).2=true/\s.big=false then σ f else ν:=by
  unfold fj;rw[if_neg Ω];have e:gx ⟨(lex pl).1,0,false,[]⟩=gx s0:=rfl;rw[e];cases gx s0<;>rfl
 refine JM (w0:=w) (sizes:=sizes) (res:=fj pl) bX ⟨λs J aA b3 al=>?_,λao=>?_⟩ b1 (λr W=>by have:=aX r W;exact⟨Ω,Ω⟩) bZ b0 (λ_=>trivial) Ω Ω aY Ω Ω ap λv w' h=>h
 .cases U:fa (λ_ s=>cW sizes s) C [] so6 with
  |none=>rw[b2 U] at J;cases J
  |some q=>
   obtain⟨af,ag⟩:=aZ q U;cases J.symm.trans af;rw[U] at X;have X:gx s0=σ ((⟨name,k,sizes,q.1⟩:b4),q.2):=X;have a2:=(zQ rfl X al).1;rw[X] at ad;simp only at ad;rw[if_pos ⟨aA,b3,al⟩] at ad;exact⟨q.1,ag,ad,JV a2 (by show (lex pl).1.length<=60000;omega),a2.ki,Ω⟩
 .cases U:fa (λ_ s=>cW sizes s) C [] so6 with
  |none=>
   rw[U] at X;have X:gx s0=ν:=X;rw[X] at ad;exact absurd ad ao
  |some q=>
   obtain⟨af,ag⟩:=aZ q U;rw[U] at X;have X:gx s0=σ ((⟨name,k,sizes,q.1⟩:b4),q.2):=X;rw[X] at ad;simp only at ad;by_cases a7:q.2.toks=[]/\(lex pl).2=true/\q.2.big=false
   .exact⟨q.2,af,a7⟩
   .rw[if_neg a7] at ad;exact absurd ad ao
theorem vb (s t cs:Λ):∃e,n2 s t cs= .tuple #[Δ (ch s cs t),Δ e]:=by
 unfold n2 ch;cases cB s t 0 with
 |none=>exact⟨3,rfl⟩
 |some n=>exact⟨0,rfl⟩
theorem JX:ai x3 yl [sv] w λr w'=>Ext w w'/\ ∃g,r= .func (.func nS) #[] #[Γ g]/\w.heap.size<=g/\ad w' g af sv.cells.toList:=by
 refine az func236 ?_;refine bP λg V W J U=>?_;rw[kX];exact⟨J,g,rfl,Ω,U⟩
theorem JY {f:FuncId} {cap:Array y0} {aj:Nat->List y0->x2->Prop} {J:x2->Prop} {L:Λ} (ax:ml x3 f cap.toList n aj J) (ak:∀k vs w,aj k vs w-> ∃x,L[k]? =σ x/\vs=[Δ x])
  (hJ:∀a b,ae (λr=>w.heap.size<=r) a b->J a->J b) (ay:J w) (az:n=L.length) (aO:L.length<=1000000):
  ai x3 Fa [.slice ν 0 0,.func (.func f) #[] cap] w λv w'=>Ext w w'/\ ∃g,w.heap.size<=g/\ao .i64 ac w' g v L:=by
 refine mw func147 ?_;refine bP λgs V aP al W=>?_;have W:ad V gs af [.slice ν 0 0]:=W;have aQ:=W.lt;have am:∀ {a b:x2},Ext a b->J a->J b:=λU=>hJ _ _ (U.ab _);refine nK.old ⟨Nat,false,f,cap,0,_,_,J,λk w'=>ae (λr=>w.heap.size<=r) w w'/\ ∃v g,gs<g/\ad w' gs af [v]/\ao .i64 ac w' g v (L.take k),λ_ _ _=>False,rfl,ax.s,?_,λ_ _ U h=>am U h,
  λ_ _ _ U h=>⟨h.1.trans (U.ab _),by obtain⟨v,g,h1,aA,aB⟩:=h.2;exact⟨v,g,h1,aA.ext U,aB.ext U⟩⟩,λ_ _ _ _ _ h=>h,am al ay,⟨al.ab _,_,gs+1,Ω,W,ao.nil _ _ _ _⟩,?_,?_,λ_ _ h=>h.elim,λ_ _ _ h=>h.elim⟩
 .rintro k vs aR w' ⟨_,_,h⟩;obtain⟨x,_,rfl⟩:=ak k vs w' h;rfl
 .rintro a k _ aa haC ⟨hk,rfl,aD⟩ ⟨aE,v,g,aF,an,X⟩;obtain⟨x,U,aG⟩:=ak k _ aa aD;cases aG;intro aT Y _ _;have ap:=an.ext Y;rw[aS Ψ (ap.Qz rfl)];refine dJ af.u ac.i rfl λa aZ aU aV ag aH=>?_;have aW:(L.take k).length<=1000000:=Θ
  refine h6 af.u ac.i rfl ((X.ext Y).ext ag) aH.ls (by simp only[Z5,List.length_nil];omega) (by simp only[Z5,List.length_nil];omega) λaI aJ aX aY ah aq=>?_;have a1:=an.lt;have a2:=Y.size;have a6:=ag.size;refine bj af.i ah.ls.cells.1 ah.ls.cells.2 (((ap.ext ag).ab aq Ω)) Ξ λaK au a7 aL=>?_;have av:ae (λr=>w.heap.size<=r) aa aK:=(((Y.trans ag).ab _).trans (aq.mono λr _ h=>by show w.heap.size<=r;omega)).trans (au.mono λr _ h=>by show w.heap.size<=r;omega);refine⟨hJ _ _ av haC,⟨aE.trans av,aI,aJ,Ω,aL,?_⟩,λh=>by cases h⟩;rw[r9,U];exact ah.ab au (λ_=>Ω)
 .rintro k a8 hk ⟨aM,v,g,aF,aN,X⟩;have hk:k=n:=hk;subst hk;rw[aS Ψ (aN.Qz rfl)];intro ba aw _;rw[az,o9] at X;exact⟨(aM.ext λr bb h=>by have:w.heap.size<=r:=h;omega).trans aw,g,Ω,X.ext aw⟩
theorem vc {f:FuncId} {cap:Array y0} {U:Nat->List y0->x2->Prop} {J:x2->Prop} {L:Λ} (V:ml x3 f cap.toList n U J) (W:∀k vs w,U k vs w-> ∃x,L[k]? =σ x/\vs=[Δ x])
  (hJ:∀a b,ae (λr=>w.heap.size<=r) a b->J a->J b) (X:J w) (Y:n=L.length) (aa:L.length<=1000000):
  ai x3 Ej [.func (.func f) #[] cap] w λv w'=>Ext w w'/\ ∃g,w.heap.size<=g/\ao .i64 ac w' g v L:=by
 refine az func63 ?_;exact (JY V W hJ X Y aa).mono λ_ _ _ h=>h
theorem JZ {x:Int}:ai x3 cmp_Less_int [Δ x,Δ y] w λv w'=>v= .bool (decide (x<y))/\Ext w w':=by
 refine az func307 ?_;refine aR (λv V=>v= .bool (decide (x<y))/\Ext w V) (λ_ _ h=>h) λX J=>?_;have U:∀ {z:Int} {w:x2},ai x3 cmp_isNaN_int [Δ z] w λv w'=>v= .bool false/\Ext w w':=λ{z w}=>by
  refine az func124 ?_;simp only[bH];exact⟨Ξ,Ext.refl _⟩
 refine U.mono ?_;rintro _ aa _ ⟨rfl,W⟩;rw[aT];simp only[aQ];exact J _ _ ⟨rfl,W⟩
theorem J0 {P:V2} {t:o4} {cx cy:Bool} {k:o6} {a b:Int}:bw P (aA .sub t cx cy (.int k a) (.int k b)) (.int k (k.wrap (a-b))) w:=λw' _=>by simp[aA,eqGuard,binOp,Op.intArith]
theorem J1 {g:Nat} (h:ao .i64 ac w g sv l) (aM:l.length<=1000000):
  ai x3 Gu [sv,Δ 0,Δ l.length] w λ_ w'=>ae (λr=>r=g) w w'/\ ∃m,m.Perm l/\m.Pairwise (·<= ·)/\ao .i64 ac w' g sv m:=by
 refine az func301 ?_;simp only[aL];refine⟨λt V=>∃ (i:Nat) (m:Λ),t=Δ i/\1<=i/\(i<=l.length\/i=1)/\m.Perm l/\pD m i/\ae (λr=>r=g) w V/\ao .i64 ac V g sv m,λt _=>l.length+1-(bS t).toNat,
  ⟨1,l,by congr 1,Ω,.inr rfl,.refl _,λp q x y h1 ax=>Ω,ae.refl _ _,h⟩,?_⟩
 rintro _ V ⟨i,m,rfl,aO,aP,W,al,am,hm⟩;have ay:=W.length_eq;simp only[aQ,ak];refine⟨λaA=>?_,λaS=>?_⟩
 .have aA:i<l.length:=Ω
  refine⟨λt aa=>∃ (j:Nat) (m:Λ),t=Δ j/\j<=i/\m.Perm l/\oq m i j/\ae (λr=>r=g) w aa/\ao .i64 ac aa g sv m,λt _=>(bS t).toNat,⟨i,m,rfl,n9 _,W,HL al,am,hm⟩,?_⟩;rintro _ aa ⟨j,m,rfl,aB,W,ag,an,hm⟩;have ay:=W.length_eq;refine aR (λv ap=>Ext aa ap/\ ∃c,v= .bool c/\(c=true->0<j/\ ∃a b,m[j-1]? =σ a/\m[j]? =σ b/\b<a)/\(c=false->j=0\/0<j/\ ∃a b,m[j-1]? =σ a/\m[j]? =σ b/\a<=b)) ?_ ?_
  .rintro _ ap ⟨Y,c,rfl,aC,aD⟩;rw[bt];refine⟨λh=>?_,λh=>?_⟩
   .obtain⟨X,a,b,J,U,ah⟩:=aC h;intro aT aq _ _;have ad:=(hm.ext Y).ext aq;have e:X2.wrap ((j:Int)-1)=((j-1:Nat):Int):=by rw[wrap_i64 Ω Ω];omega
    simp only[dj,e];rw[bf af.u ac.i Ψ ad.ls J,bf af.u ac.i Ψ ad.ls U,hI rfl af.u ac.i ad Ω];refine hJ ac.i ad Ω λaE aF aU au=>⟨.inr ⟨by have:=J0 (P:=x3) (w:=aE) (t:=ac) (cx:=false) (cy:=true) (k:=.i64) (a:=(j:Int)) (b:=1);rwa [e] at this,trivial⟩,?_⟩;rw[hI rfl af.u ac.i au Θ];refine hJ ac.i au Θ λaV aG aW aH=>?_;refine⟨⟨j-1,_,rfl,Ω,(swap_perm Ω J U).trans W,HO ag X aB J U ah,((an.trans ((Y.trans aq).ab _)).trans aF).trans aG,aH⟩,?_⟩;simp only[bS];omega
   .simp only[aL];rw[wrap_i64 Ω Ω];refine⟨⟨i+1,m,rfl,Ω,.inl Ω,W,?_,an.trans (Y.ab _),hm.ext Y⟩,?_⟩
    .rcases aD h with rfl|⟨X,a,b,J,U,ah⟩
     .exact HM ag
     .exact HN ag X J U ah
    .simp only[bS];omega
  .intro aX av aY aj _ _;have aw:=hm.ext aj;simp only[bY,ak];refine⟨λX=>?_,λX=>av _ _ ⟨aj,false,rfl,(λh=>by cases h),λ_=>.inl Ω⟩⟩;have e:X2.wrap ((j:Int)-1)=((j-1:Nat):Int):=by rw[wrap_i64 Ω Ω];omega
   obtain⟨b,U⟩:=aN (l:=m) (i:=j) Ω;obtain⟨a,J⟩:=aN (l:=m) (i:=j-1) Ω;rw[bf af.u ac.i Ψ aw.ls U];simp only[dj,e];rw[bf af.u ac.i Ψ aw.ls J];refine JZ.mono ?_;rintro _ aZ _ ⟨rfl,aI⟩;refine av _ _ ⟨aj.trans aI,_,rfl,λh=>⟨Ω,a,b,J,U,by simpa using h⟩,λh=>.inr ⟨Ω,a,b,J,U,by simpa using h⟩⟩
 .refine⟨am,m,W,HP λp q x y h1 ax aJ aK=>al p q x y h1 Ω aJ aK,hm⟩
theorem J2 {P:V2} {t:o4} {k:o6} {s:ByteArray} {i:Nat} {K:y0->Prop} (J:P.underlying t=σ .string) (hi:i<s.size) (V:∀b:Nat,b<256->K (.int .u8 b)):
  U P (Instr.index t (.string s) (.int k (i:Int))) w K:=by
 have W:s[i]? =σ s[i]:=by simp[hi]
 have:U P (Instr.index t (.string s) (.int k (i:Int))) w K=K (.int .u8 s[i].toNat):=U.of λw' _=>by
  simp[Instr.index,asIntOf,run_underlying J,hi]
 rw[this];exact V _ (UInt8.toNat_lt _)
theorem J3 (J:n<256):ai x3 ES [.int .u64 (n:Int)] w λv w'=>(∃r,v=Δ r)/\Ext w w':=by
 refine az func123 ?_;refine ai.mono (K:=λv w'=>(∃r,v=Δ r)/\Ext w w') ?_ (λ_ _ _ h=>h);refine az func212 ?_;simp only[bJ,cr,ak];refine⟨λh=>Ω,λ_=>⟨λh=>Ω,λ_=>⟨λh=>Ω,λ_=>?_⟩⟩⟩;rw[fi eH.u cq.u,wrap_u8 Ω Ω];refine J2 c3.u (by exact Nat.lt_of_lt_of_le J Φ) λb U=>?_;rw[fi cq.u ac.u];simp only[aL];exact⟨⟨_,rfl⟩,Ext.refl _⟩
theorem J4 {g:Nat} (h:ao .i64 ac w g sv l) (U:l.length<=12):
  ai x3 Gc [sv] w λ_ w'=>ae (λr=>r=g) w w'/\ ∃m,m.Perm l/\m.Pairwise (·<= ·)/\ao .i64 ac w' g sv m:=by
 refine az func267 ?_;rw[aU af.u h.ls,fi ac.u nU.u,wrap_u64 Ω Ω];refine (J3 (n:=l.length) Ω).mono ?_;rintro _ V _ ⟨⟨r,rfl⟩,J⟩;refine ai.mono (K:=λ_ w'=>ae (λr=>r=g) V w'/\ ∃m,m.Perm l/\m.Pairwise (·<= ·)/\ao .i64 ac w' g sv m) ?_ (λ_ _ _ h=>⟨(J.ab _).trans h.1,h.2⟩);refine az func290 ?_;refine⟨λa b _ _ _ aa=>a=Δ 0/\b=Δ l.length/\V=aa,λ_ _ _ _ _ _=>0,⟨rfl,rfl,rfl⟩,?_⟩;rintro _ _ _ _ _ _ ⟨rfl,rfl,rfl⟩;simp only[dj,mz,ak];rw[wrap_i64 Ω Ω];refine⟨λ_=>?_,λh=>Ω⟩;refine (J1 (h.ext J) Ω).mono ?_;exact λ_ _ _ h=>h
theorem J5 {f:FuncId} {cap:Array y0} {U:Nat->List y0->x2->Prop} {J:x2->Prop} {L:Λ} (W:ml x3 f cap.toList n U J) (X:∀k vs w,U k vs w-> ∃x,L[k]? =σ x/\vs=[Δ x])
  (hJ:∀a b,ae (λr=>w.heap.size<=r) a b->J a->J b) (Y:J w) (ab:n=L.length) (ad:L.length<=12):
  ai x3 yk [.func (.func f) #[] cap] w λv w'=>Ext w w'/\ ∃g m,w.heap.size<=g/\m.Perm L/\m.Pairwise (·<= ·)/\ao .i64 ac w' g v m:=by
 refine az func235 ?_;refine (vc W X hJ Y ab Ω).mono ?_;rintro v V _ ⟨af,g,ag,ah⟩;refine (J4 ah ad).mono ?_;rintro _ aa _ ⟨aj,m,h1,ak,al⟩;exact⟨af.then aj (by rintro r am rfl;omega),g,m,ag,h1,ak,al⟩
theorem Be {x:Int} (h:aH .i64 w sv l):
  ai x3 tT [sv,Δ x] w λv w'=>Ext w w'/\ ∃r:Int,v=Δ r/\ ∀i:Nat,l[i]? =σ x->(r=i↔ ∀j,j<i->l[j]? ≠σ x):=by
 refine az func160 ?_;rw[aU af.u h];refine bA.range l.length (λi _ V=>Ext w V/\ ∀j,j<i->l[j]? ≠σ x) h.le ⟨Ext.refl _,λj X=>Ω⟩ ?_ ?_
 .rintro i _ V k hi ⟨J,U⟩ hk;simp only[aQ,ak];refine⟨λ_=>?_,λh=>Ω⟩;obtain⟨y,W⟩:=aN (l:=l) hi;rw[bf af.u ac.i Ψ (h.ext J) W];simp only[bn,ak,aL];refine⟨λhe=>⟨J,i,rfl,λq Y=>?_⟩,λhe=>hk _ _ ⟨J,λj X=>?_⟩⟩
  .subst he;refine⟨λad=>by
              have:i=q:=Ω
              subst this;exact U,λaa=>?_⟩
   rcases Nat.lt_trichotomy i q with h1|h1|h1
   .exact absurd W (aa i h1)
   .omega
   .exact absurd Y (U q h1)
  .by_cases ab:j=i
   .subst ab;rw[W];intro h;exact he (Z9 h).symm
   .exact U j Ω
 .rintro _ V k ⟨J,U⟩;simp only[aQ,ak];refine⟨λh=>Ω,λ_=>⟨J,-1,rfl,λi hi=>?_⟩⟩;exact absurd hi (U i (x4.1 hi).1)
theorem J6 {g:Nat} {w0:x2} (X:ad w0 g af [sv]) (U:aH .i64 w0 sv l):
  ml x3 nS [Γ g] l.length (λk vs _=>∃x,l[k]? =σ x/\vs=[Δ x]) (λw=>Ext w0 w):=by
 refine⟨nS.enters,λy Y aj w al _ ab J ae=>?_⟩;refine pq func268 ?_;rw[aS Ψ ((X.ext J).Qz rfl),aU af.u (U.ext J)];refine b0.range l.length (λi aa=>Y i aa/\Ext w0 aa) U.le ⟨ae,J⟩ ?_ ?_
 .rintro i aa k hi ⟨V,W⟩ hk;simp only[aQ,ak];refine⟨λ_=>?_,λh=>Ω⟩;obtain⟨x,J⟩:=aN (l:=l) hi;rw[bf af.u ac.i Ψ (U.ext W) J];refine⟨rfl,(ab i _ aa hi W ⟨x,J,rfl⟩ V).mono ?_⟩;rintro _ am (⟨rfl,ag,ah⟩|⟨rfl,ai⟩)
  .simp only[bg,Y6,aT,aL];exact hk _ ⟨ah.1,ag⟩
  .simp only[bg,W6,bX];exact .inr ⟨i,hi,ai⟩
 .rintro aa k ⟨V,_⟩;simp only[aQ,ak];exact⟨λh=>Ω,λ_=>.inl V⟩
theorem vd (h:aH .i64 w sv l) (W:l.length<=12)
  (X:∀v w' g m,Ext w w'->w.heap.size<=g->m.Perm l->m.Pairwise (·<= ·)->ao .i64 ac w' g v m->K v w'):
  ai x3 yl [sv] w λt V=>ai x3 yk [t] V K:=by
 refine JX.mono ?_;rintro _ V _ ⟨U,g,rfl,ak,J⟩;have J:ad V g af [sv]:=by rw[h.cells.1] at J;exact J
 refine (J5 (J6 J (h.ext U)) (λ_ _ _ h=>h) (λa b Y ab=>ab.then Y (λr al h=>Ω)) (Ext.refl _) rfl W).mono ?_;rintro v aa _ ⟨ae,ag,m,am,h1,ah,aj⟩;have:=U.size;exact X v aa ag m (U.trans ae) Ω h1 ah aj
def J7 (w:x2) (szs:Λ) (k:Int) (cs J:Λ) (v:y0) (w':x2):Prop:=
 Ext w w'/\
  (¬Good J szs.length->v= .tuple #[.pointer ν,Δ 1])/\
  (Good J szs.length-> ∃U V W,v= .tuple #[Γ U,Δ 0]/\cV w' U V W (ee szs J) k (mW szs cs J))
theorem J8 {g bX:Nat} {aB:y0} {cs:Λ} (h:cV w g bX sv szs k cs) (hk:right k) (aw:aH .i64 w aB J) (cL:J.length<=12) (cM:Good J szs.length->aJ (ee szs J)<=4096):
  ai x3 FX [Γ g,aB] w (J7 w szs k cs J):=by
 have a1:=h;have cO:=h.2.2.1;have cP:=aw.cells;refine mw func237 ?_;refine bP λg1 V dv bY X=>?_;refine bP λb2 aa dw bo U=>?_;have s1:=bY.size;have dx:=bo.size;have dy:=X.lt;have dz:=U.lt;have bq:=bY.trans bo;have X:ad aa g1 eB [Γ g]:=X.ext bo;have U:ad aa b2 af [aB]:=by rw[cP.1] at U;exact U
 rw[aS Ψ (X.Qz rfl),cR eB.u];simp only[Z7,aT];rw[aS Ψ (U.Qz rfl)];have cQ:=aw.ext bq;have sub:∀ {w:x2} {g:Nat} {sv:y0} {k:Int} {aI:y0},ad w g cT [sv,Δ k,aI]->w.rangeAt g (0+0) [sv]:=λam=>mM am (by
  intro j v bt
  match j,bt with
  |0,bt=>exact bt)
 refine vd cQ cL λcG cS cN m b3 dA bw cU hm=>?_;have cW:=bw.length_eq;rw[aU af.u hm.ls];have cX:=bq.trans b3;refine lF.range m.length (λi _ _ bz=>Ext cS bz/\ ∀j,j<i->m[j]? =σ (j:Int)) Ω ⟨Ext.refl _,λj bA=>Ω⟩ ?_ ?_
 .rintro i _ _ bz aC hi ⟨aD,bB⟩ aE;simp only[aQ,ak];refine⟨λ_=>?_,λh=>Ω⟩;obtain⟨y,aG⟩:=aN (l:=m) hi;rw[bf af.u ac.i Ψ (hm.ls.ext aD) aG];simp only[bH,ak,aL];refine⟨λaO dC cY _=>⟨(cX.trans aD).trans cY,λ_=>rfl,λbC=>?_⟩,λhe=>aE _ _ _ ⟨aD,λj bA=>?_⟩⟩
  .have:=zz bC bw cU i hi;rw[aG] at this;exact absurd (Z9 this).symm aO
  .by_cases cZ:j=i
   .subst cZ;rw[aG];congr 1;omega
   .exact bB j Ω
 .rintro _ _ bz aC ⟨aD,bB⟩;simp only[aQ,ak,cK];refine⟨λh=>Ω,λ_ dD c1 _ _=>?_⟩;have Y:Good J m.length:=HQ bB bw;have aP:=(b3.trans aD).trans c1;have a2:=bq.trans aP;have X:=X.ext aP;have U:=U.ext aP;have c2:=aw.ext a2;have c3:=a1.ext a2;have dE:=aP.size;obtain⟨⟨aI,gs,am,a6,b4⟩,_⟩:=id c3;rw[aS Ψ (U.Qz rfl),aU af.u c2,aS Ψ (X.Qz rfl),bu,aM cT.p rfl,br (cs:=[sv]) bx.p bx.i rfl (sub am)];refine (zY a6.ls).mono ?_;rintro _ a7 _ ⟨rfl,ap⟩;refine⟨.inl ap,?_⟩;simp only[bH,ak];refine⟨λaO dF c4 _=>⟨(a2.trans ap).trans c4,λ_=>rfl,λbC=>absurd (by rw[bC.1]) aO⟩,λdG=>?_⟩;have bD:J.length=szs.length:=Ω
  have Y:Good J szs.length:=by rw[<-bD,<-cW];exact Y
  have dH:=aP.trans ap;have bE:=a2.trans ap;have X:=X.ext ap;have U:=U.ext ap;have b5:=aw.ext bE;rw[aS Ψ (U.Qz rfl),aU af.u b5];refine jx af.u ac.i Ω Ω λgz b6 dI ax b7=>?_;have c5:ao .i64 ac b6 gz (.slice (σ ⟨gz,0,ν⟩) J.length J.length) (o8 J.length 0):=ao.of (n:=J.length) (b1.full b7 Ξ (by simp[maxLen];omega));generalize (y0.slice (σ ⟨gz,0,ν⟩) J.length J.length)=c6 at*;have dJ:=ap.size;have dK:=ax.size;have dL:=b7.lt;rw[aS Ψ ((U.ext ax).Qz rfl),aU af.u (b5.ext ax)];have b8:=bE.trans ax;have a8:(ee szs J).length=J.length:=rL _ _;refine b0.range J.length (λi ah=>ae (λr=>r=gz) b6 ah/\ao .i64 ac ah gz c6 (upto (ee szs J) 0 i)) Ω ⟨ae.refl _ _,by rw[oj,a8];exact c5⟩ ?_ ?_
  .rintro i ah aC hi ⟨aq,ba⟩ aE;simp only[aQ,ak];refine⟨λ_=>?_,λh=>Ω⟩;have aR:Ext w ah:=b8.then aq (by rintro r av rfl;omega);have bb:Ext a7 ah:=ax.then aq (by rintro r av rfl;omega);obtain⟨p,bF⟩:=aN (l:=J) hi;obtain⟨⟨aI,gs,am,a6,b4⟩,_⟩:=a1.ext aR;rw[bf af.u ac.i Ψ (aw.ext aR) bF,aS Ψ ((X.ext bb).Qz rfl),bu,aM cT.p rfl,br (cs:=[sv]) bx.p bx.i rfl (sub am)];refine (pJ a6.ls).mono ?_;rintro _ dM _ ⟨rfl,b9⟩;have ca:=ba.ext b9;have c7:(upto (ee szs J) 0 i).length=J.length:=by rw[pC,a8]
   rw[hI rfl af.u ac.i ca Ω];refine hJ ac.i ca Ω λdN c8 _ cb=>?_;simp only[aL];have h1:=(Y.2 i p bF).1;have aV:(ee szs J)[i]? =σ (ht szs p):=by
    unfold ee ht;rw[u4,bF,if_pos h1.1];rfl
   rw[om aV] at cb;exact aE _ ⟨(aq.trans (b9.ab _)).trans c8,cb⟩
  .rintro ah aC ⟨aq,ba⟩;simp only[aQ,ak];refine⟨λh=>Ω,λ_=>?_⟩;have aR:Ext w ah:=b8.then aq (by rintro r av rfl;omega);have bb:Ext a7 ah:=ax.then aq (by rintro r av rfl;omega);rw[<-a8,ol] at ba;obtain⟨⟨aI,gs,am,a6,b4⟩,_⟩:=a1.ext aR;rw[aS Ψ ((X.ext bb).Qz rfl),aK cT.p 1 am rfl];have bc:bZ (ee szs J):=cO.HS Y rfl;have cc:=cM Y;have dO:=prod_bound bc;refine (rz ba.ls).mono ?_;rintro _ bG _ ⟨cd,_,_,_,c9⟩;obtain⟨aW,aj,ay,rfl,dP,dQ,dR,bd⟩:=c9 bc cc ⟨hk,Ω,by have:=hk.1;omega⟩;obtain⟨N,bg⟩:∃N:Nat,(aJ (ee szs J)).toNat=N:=⟨_,rfl⟩;rw[bg] at bd;rw[bL,bM];refine bp eB.i λce dS dT cg aX=>?_;refine bj eB.i rfl rfl aX (by simp[y0.cells]) λda db dU aX=>?_;have dV:=aq.size;have dW:=cd.size;have dX:=cg.size;have bI:Ext bG da:=cg.then db (by rintro r av rfl;omega);have ci:=cd.trans bI;have dc:=bd.ext bI;have dY:=aX.lt;obtain⟨⟨bJ,cj,ck,cl,dd⟩,⟨cm,cn,_⟩,_,dZ⟩:=id dc;have ea:0<N:=Ω
   have ec:aW<bG.heap.size:=by obtain⟨⟨_,_,q,_⟩,_⟩:=id bd;exact q.lt
   have ed:aj<bG.heap.size:=by obtain⟨⟨_,_,_,_,q⟩,_⟩:=id bd;exact oF q Θ
   rw[aS Ψ (aX.Qz rfl),bu,aM cT.p rfl,br (cs:=[ay]) bx.p bx.i rfl (sub ck)];refine rY.mono ?_;rintro _ ag _ ⟨al,bh,rfl,ef,cp⟩;have eg:=bI.size;have eh:=al.size;let S:Nat->Prop:=λr=>r=aj;let az:=mW szs cs J;have bK:az.length=N:=by simp only[az];rw[zF,bg]
   let de:x2->Prop:=λw'=>ad w' g1 eB [Γ g]/\ad w' b2 af [aB]/\ad w' ce eB [Γ aW]/\ad w' aW cT [ay,Δ k,bJ]/\
    cV w' g bX sv szs k cs/\aH .i64 w' aB J/\ao .i64 ac w' cj ay (ee szs J)/\ad w' bh bx [ay]/\ag.heap.size<=w'.heap.size
   have facts:∀ {a:x2},ae S ag a->de a:=by
    intro a W;have bN:Ext a7 ag:=(bb.trans ci).trans al;have bO:Ext a7 a:=bN.put W Ω;have cq:Ext w a:=bE.trans bO;refine⟨X.ext bO,U.ext bO,(aX.ext al).ab W (by show ¬(ce=aj);omega),(ck.ext al).ab W (by show ¬(aW=aj);exact cm),a1.ext cq,aw.ext cq,be (cl.ext al) W (λr av he=>cn ((show r=aj from he)▸av)),
     cp.ab W (by show ¬(bh=aj);omega),W.size⟩
   have cr:=rX (g:=bh) (B0:=ag.heap.size) (sv:=ay) bc;rw[bg] at cr;refine lG.old ⟨Nat,false,j7,#[Γ bh],0,_,_,_,λq w'=>ae S ag w'/\ao .i64 an w' aj bJ (upto az 0 q),λ_ _ _=>False,rfl,cr.s,
    ?_,λ_ _ W h=>⟨h.1.ext W,h.2.1.ext W,X8 h.2.2 W.size⟩,λ_ _ _ W h=>⟨h.1.trans (W.ab S),h.2.ext W⟩,λ_ _ _ _ _ h=>h,⟨cp,(cl.ext al).ls,n9 _⟩,⟨ae.refl _ _,?_⟩,?_,?_,λ_ _ h=>h.elim,λ_ _ _ h=>h.elim⟩
   .rintro _ _ _ _ ⟨_,_,_,_,rfl,_⟩;rfl
   .rw[oj,bK];exact dd.ext al
   .rintro _ aF q _ ei ⟨_,_,ej⟩ ⟨aV,rfl,ek,em,df,en,dg⟩ ⟨bi,dh⟩;cases df;let x:=cF (ee szs J) (q:Int);have ct:x.length=J.length:=by simp only[x];rw[iC,a8]
    intro di aA _ _;have cu:=dg.ext aA;rw[aU af.u cu.ls];refine jx af.u ac.i (by rw[iC];omega) (by rw[iC];omega) λgo cw eo bQ cz=>?_;have dj:ao .i64 ac cw go (.slice (σ ⟨go,0,ν⟩) (cF (ee szs J) (q:Int)).length (cF (ee szs J) (q:Int)).length) (o8 (cF (ee szs J) (q:Int)).length 0):=ao.of (n:=(cF (ee szs J) (q:Int)).length) (b1.full cz Ξ (by rw[iC];simp[maxLen];omega));generalize (y0.slice (σ ⟨go,0,ν⟩) (cF (ee szs J) (q:Int)).length (cF (ee szs J) (q:Int)).length)=dk at*;have ep:=bi.size;have er:=aA.size;have es:=bQ.size;have lo:=cz.lt;have dl:ae S ag cw:=bi.trans ((aA.trans bQ).ab S);have f:=facts dl;rw[aS Ψ (f.2.1.Qz rfl),aU af.u f.2.2.2.2.2.1];refine b0.range J.length (λj bk=>Ext di bk/\ ∃y:Λ,y.length=J.length/\ao .i64 ac bk go dk y/\ ∀ (i:Nat) (p:Int),i<j->J[i]? =σ p->y[p.toNat]? =x[i]?) Ω
     ⟨bQ,_,by simp[ct,x],dj,λi p hi=>Ω⟩ ?_ ?_
    .rintro j bk aC bA ⟨aY,y,bR,bl,bS⟩ aE;simp only[aQ,ak];refine⟨λ_=>?_,λh=>Ω⟩;have f:=facts (bi.trans ((aA.trans aY).ab S));obtain⟨p,bm⟩:=aN (l:=J) bA;obtain⟨u,hu⟩:=aN (l:=x) (i:=j) Ω;have et:=(Y.2 j p bm).1;rw[bf af.u ac.i Ψ f.2.2.2.2.2.1 bm,bf af.u ac.i Ψ (cu.ext aY).ls hu,hI (i:=p.toNat) Ω af.u ac.i bl Ω];refine hJ ac.i bl Ω λeu dm ev dn=>?_;simp only[aL];refine aE _ ⟨aY.then dm (by rintro r av rfl;omega),_,by simpa using bR,dn,λi bn hi aZ=>?_⟩;by_cases cA:i=j
     .subst cA;rw[bm] at aZ;cases aZ;rw[U5 Ω,hu]
     .have ew:=(Y.2 i bn aZ).1;have aO:p.toNat≠bn.toNat:=λhe=>by
       have:p=bn:=Ω
       subst this;exact cA (Y.inj aZ bm)
      rw[V3 aO];exact bS i bn Ω aZ
    .rintro bk aC ⟨aY,y,bR,bl,bS⟩;simp only[aQ,ak];refine⟨λh=>Ω,λ_ dp cB _ _=>?_⟩;have aG:y=k8 J x:=zD Y (by rw[ct,bD]) (by rw[bR,bD]) λi p cC=>bS i p (x4.1 cC).1 cC;have cD:=aY.trans cB;have cE:ae S ag dp:=bi.trans ((aA.trans cD).ab S);obtain⟨f1,f2,f3,f4,f5,f6,f7,f8,f9⟩:=facts cE;rw[aS Ψ (f3.Qz rfl),aK cT.p 2 f4 rfl,aS Ψ (f1.Qz rfl)];refine (uk f5 (bl.ls.ext cB)).mono ?_;rintro _ ey _ ⟨rfl,bT⟩;refine⟨.inl bT,?_⟩;obtain⟨e,he⟩:=vb szs y cs;rw[he,bL,bM];have dq:=cE.trans (bT.ab S);have cH:=(dh.ext ((aA.trans cD).trans bT));have c7:(upto az 0 q).length=N:=by rw[pC,bK]
     rw[hI rfl au.u an.i cH Ω];refine hJ an.i cH Ω λdr ds ez cI=>?_;have cJ:ae S ag dr:=dq.trans (ds.mono λr _ h=>h);obtain⟨f1,f2,f3,f4,f5,f6,f7,f8,f9⟩:=facts cJ;have dt:az[q]? =σ (ch szs cs y):=by
      simp only[az,mW];rw[u4,List.getElem?_range (by rw[bg];exact aV),aG];rfl
     rw[om dt] at cI;exact⟨⟨f8,f7.ls,f9⟩,⟨cJ,cI⟩,λh=>by cases h⟩
   .rintro q eA aV ⟨bU,bV⟩;rw[show q=N from aV] at bV;have f:=facts bU;rw[aS Ψ (f.2.2.1.Qz rfl)];intro eC bW _;obtain⟨f1,f2,f3,f4,f5,f6,f7,f8,f9⟩:=facts (bU.trans (bW.ab S));rw[<-bK,ol] at bV;have bN:Ext w ag:=(aR.trans ci).trans al;refine⟨(bN.put bU Ω).trans bW,λdu=>absurd Y du,λ_=>⟨aW,aj,ay,rfl,⟨bJ,cj,f4,f7,bV.ext bW⟩,⟨cm,cn,cc⟩,bc,zF _ _ _⟩⟩
def gF (l:Λ):Prop:=∀ (i j:Nat) (x y:Int),i<j->l[i]? =σ x->l[j]? =σ y->x<y
theorem gF.inj (h:gF l) {i:Nat} {x:Int} (hi:l[i]? =σ x) (J:l[j]? =σ x):i=j:=by
 rcases Nat.lt_trichotomy i j with h1|h1|h1
 .have:=h i j x x h1 hi J;omega
 .exact h1
 .have:=h j i x x h1 J hi;omega
def dedup (l:Λ):Nat->Λ
 |0=>[]
 |j+1=>if 0<j/\l[j]? =l[j-1]? then dedup l j else dedup l j++[l.getD j 0]
theorem Bf (l:Λ):∀j,(dedup l j).length<=j
 |0=>n9 _
 |j+1=>by
  have:=Bf l j;unfold dedup;split
  .omega
  .simp;omega
theorem ve (J:0<j) (h:l[j]? =l[j-1]?):dedup l (j+1)=dedup l j:=by
 rw[dedup,if_pos ⟨J,h⟩]
theorem vf {x:Int} (U:l[j]? =σ x) (h:0<j->l[j]? ≠l[j-1]?):dedup l (j+1)=dedup l j++[x]:=by
 rw[dedup,if_neg (λJ=>h J.1 J.2),u9,U];rfl
theorem ss {l:Λ}:∀ {j:Nat},j<=l.length->(∀i,i<j->0<i->l[i]? ≠l[i-1]?)->dedup l j=l.take j
 |0,_,_=>by simp[dedup]
 |j+1,V,h=>by
  have J:l[j]? =σ l[j]:=x6 Ω;rw[vf J (h j Ω),ss Ω (λi hi U=>h i Ω U),r9,J];rfl
theorem Bg {l:Λ} (J:l.Pairwise (·<= ·)):∀ {j:Nat},j<=l.length->(gF (dedup l j)/\ ∀x,x∈dedup l j↔x∈l.take j)
 |0,_=>⟨λi j x y _ h=>by simp[dedup] at h,λx=>by simp[dedup]⟩
 |j+1,ak=>by
  obtain⟨h1,X⟩:=Bg J (j:=j) Ω;have V:l[j]? =σ l[j]:=x6 Ω;by_cases W:0<j/\l[j]? =l[j-1]?
  .rw[ve W.1 W.2];refine⟨h1,λx=>?_⟩;rw[X,r9,V];simp only[j6,l5,l9];refine⟨.inl,λh=>h.elim id λhe=>?_⟩;subst he;have aa:(l.take j)[j-1]? =σ l[j]:=by rw[Y7 Ω,<-W.2,V]
   exact x5 aa
  .have ab:0<j->l[j]? ≠l[j-1]?:=λae he=>W ⟨ae,he⟩;rw[vf V ab];have af:∀x∈dedup l j,x<l[j]:=λx ag=>by
    obtain⟨i,hi,he⟩:=List.getElem_of_mem ((X x).1 ag);have al:i<j:=by rw[o5] at hi;omega
    rw[List.getElem_take] at he;subst he;have aa:l[i]<=l[j-1]:=by
     by_cases ac:i=j-1
     .subst ac;exact Int.le_refl _
     .exact U3.1 J i (j-1) Ω Ω Ω
    have ac:=U3.1 J (j-1) j Ω Ω Ω;have ad:=ab Ω;rw[V,x6 (show j-1<l.length by omega)] at ad;have am:l[j]≠l[j-1]:=λh=>ad (by rw[h]);omega
   refine⟨λa b x y ah Y U=>?_,λx=>?_⟩
   .have ai:=(x4.1 U).1;simp only[r8,Z5,List.length_nil] at ai;rw[Y3 Ω] at Y;by_cases aj:b=(dedup l j).length
    .subst aj;rw[Y5 (n9 _),V9] at U;simp at U;subst U;exact af x (x5 Y)
    .rw[Y3 Ω] at U;exact h1 a b x y ah Y U
   .rw[r9,V];simp only[j6,l5,l9,X]
def p0 (l:Λ):Prop:=∀ (j:Nat) (x:Int),l[j]? =σ x->0<=x/\(0<j-> ∀y,l[j-1]? =σ y->y<x)
theorem p0.up (h:p0 l):gF l:=by
 intro i j x y Y V;induction j generalizing y with
 |zero=>omega
 |succ j W=>
  intro U;have aa:=(x4.1 U).1;obtain⟨z,J⟩:∃z,l[j]? =σ z:=⟨_,x6 (show j<l.length by omega)⟩;have h1:=(h (j+1) y U).2 Ω z (by simpa using J);by_cases X:i=j
  .subst X;rw[V] at J;cases J;exact h1
  .have:=W z Ω J;omega
theorem J9 (h:gF l) (U:∀x∈l,0<=x):p0 l:=λj x J=>⟨U x (x5 J),λW y V=>h (j-1) j y x Ω V J⟩
theorem Bh {g an:Nat} {aj:y0} {cs:Λ} (h:cV w g an sv szs k cs) (J:aH .i64 w aj l):
  ai x3 FY [Γ g,aj] w λv w'=>Ext w w'/\ ∃c,v= .bool c/\(c=true↔l.length=szs.length/\p0 l):=by
 obtain⟨⟨aI,gs,ao,hm,X⟩,_⟩:=h;have sub:w.rangeAt g (0+0) [sv]:=mM ao (by
  intro j v Y
  match j,Y with
  |0,Y=>exact Y)
 refine az func238 ?_;rw[aU af.u J,bu,aM cT.p rfl,br (cs:=[sv]) bx.p bx.i rfl sub];refine (zY hm.ls).mono ?_;rintro _ V _ ⟨rfl,ab⟩;simp only[bH,ak];refine⟨λap=>⟨ab,false,rfl,(λh=>by cases h),λh=>absurd (by rw[h.1]) ap⟩,λal=>?_⟩;have al:l.length=szs.length:=Ω
 rw[aU af.u (J.ext ab)];refine bA.range l.length (λi _ aa=>Ext w aa/\ ∀ (j:Nat) (x:Int),j<i->l[j]? =σ x->0<=x/\(0<j-> ∀y,l[j-1]? =σ y->y<x)) J.le ⟨ab,λj x aq=>Ω⟩ ?_ ?_
 .rintro i _ aa au hi ⟨U,ad⟩ av;simp only[aQ,ak];refine⟨λ_=>?_,λh=>Ω⟩;obtain⟨x,W⟩:=aN (l:=l) hi;have aC:=J.le;rw[bf af.u ac.i Ψ (J.ext U) W];refine aR (λv aw=>aa=aw/\ ∃c,v= .bool c/\(c=false↔0<=x/\(0<i-> ∀y,l[i-1]? =σ y->y<x))) ?_ ?_
  .rintro _ _ ⟨rfl,c,rfl,X⟩;rw[bt];simp only[aL];refine⟨λax=>⟨U,false,rfl,(λh=>by cases h),λh=>?_⟩,λay=>av _ _ ⟨U,λj aA aq ae=>?_⟩⟩
   .have:=X.2 (h.2 i x W);rw[ax] at this;cases this
   .by_cases aB:j=i
    .subst aB;rw[W] at ae;cases ae;exact X.1 ay
    .exact ad j aA Ω ae
  .intro aD ag;simp only[aQ,bY,dj,ak];refine⟨λaE=>ag _ _ ⟨rfl,true,rfl,(λh=>by cases h),λh=>Ω⟩,λaF=>⟨λaG=>?_,λaJ=>ag _ _ ⟨rfl,false,rfl,λ_=>⟨Ω,λh=>Ω⟩,λ_=>rfl⟩⟩⟩;obtain⟨y,ah⟩:∃y,l[i-1]? =σ y:=⟨_,x6 (show i-1<l.length by omega)⟩;rw[wrap_i64 Ω Ω,dY (i:=i-1) Ω af.u ac.i Ψ (J.ext U) ah];simp only[cr];refine ag _ _ ⟨rfl,_,rfl,?_⟩;rw[decide_eq_false_iff_not];refine⟨λh=>⟨Ω,λ_ aK am=>by rw[ah] at am;cases am;omega⟩,λh=>by have:=h.2 Ω y ah;omega⟩
 .rintro _ aa au ⟨U,ad⟩;simp only[aQ,ak];exact⟨λh=>Ω,λ_=>⟨U,true,rfl,λ_=>⟨al,λj x W=>ad j x (x4.1 W).1 W⟩,λ_=>rfl⟩⟩
def gW (l:Λ) (x:Int):Int:=if x∈l then (l.idxOf x:Int) else-1
theorem Bi {i:Nat} {x:Int} (h:gF l) (hi:l[i]? =σ x):gW l x=i:=by
 have hm:x∈l:=x5 hi;have J:=List.idxOf_lt_length_of_mem hm;have U:l.idxOf x=i:=h.inj (by rw[x6 J,List.getElem_idxOf J]) hi;unfold gW;rw[if_pos hm,U]
theorem Ka {x:Int} (h:x∉l):gW l x= -1:=if_neg h
theorem vg {x:Int} (h:aH .i64 w sv l) (hu:gF l):
  ai x3 tT [sv,Δ x] w λv w'=>v=Δ (gW l x)/\Ext w w':=by
 refine az func160 ?_;rw[aU af.u h];refine bA.range l.length (λi _ V=>Ext w V/\ ∀j,j<i->l[j]? ≠σ x) h.le ⟨Ext.refl _,λj X=>Ω⟩ ?_ ?_
 .rintro i _ V k hi ⟨J,U⟩ hk;simp only[aQ,ak];refine⟨λ_=>?_,λh=>Ω⟩;obtain⟨y,W⟩:=aN (l:=l) hi;rw[bf af.u ac.i Ψ (h.ext J) W];simp only[bn,ak,aL];refine⟨λhe=>⟨?_,J⟩,λhe=>hk _ _ ⟨J,λj X=>?_⟩⟩
  .subst he;rw[Bi hu W]
  .by_cases Y:j=i
   .subst Y;rw[W];intro h;exact he (Z9 h).symm
   .exact U j Ω
 .rintro _ V k ⟨J,U⟩;simp only[aQ,ak];refine⟨λh=>Ω,λ_=>⟨?_,J⟩⟩;rw[Ka];intro hm;obtain⟨i,hi,he⟩:=List.getElem_of_mem hm;exact U i hi (by rw[x6 hi,he])
def eV (x vars scope:Λ):Λ:=scope.map λp=>x.getD (vars.idxOf p) 0
theorem Kb (x vars scope:Λ):(eV x vars scope).length=scope.length:=by simp[eV]
theorem Bj {iD ab:y0} {x vars:Λ} (aj:aH .i64 w iD x) (al:aH .i64 w ab vars) (J:aH .i64 w sv scope) (hu:gF vars) (am:∀p∈scope,p∈vars) (ay:x.length=vars.length) (aA:scope.length<=1000):
  ai x3 F3 [iD,ab,sv] w λv w'=>Ext w w'/\ ∃g,w.heap.size<=g/\ao .i64 ac w' g v (eV x vars scope):=by
 refine az func243 ?_;rw[aU af.u J];refine jx af.u ac.i Ω Ω λgz V aB ad an=>?_;have ap:ao .i64 ac V gz (.slice (σ ⟨gz,0,ν⟩) scope.length scope.length) (o8 scope.length 0):=ao.of (n:=scope.length) (b1.full an Ξ (by simp[maxLen];omega));generalize (y0.slice (σ ⟨gz,0,ν⟩) scope.length scope.length)=aq at*;rw[aU af.u (J.ext ad)];have X:=Kb x vars scope;refine b0.range scope.length (λi aa=>Ext w aa/\ao .i64 ac aa gz aq (upto (eV x vars scope) 0 i)) Ω ⟨ad,by rw[oj,X];exact ap⟩ ?_ ?_
 .rintro i aa au hi ⟨U,hm⟩ av;simp only[aQ,ak];refine⟨λ_=>?_,λh=>Ω⟩;obtain⟨p,Y⟩:=aN (l:=scope) hi;have ae:=am p (x5 Y);have aC:=List.idxOf_lt_length_of_mem ae;rw[bf af.u ac.i Ψ (J.ext U) Y];refine (vg (al.ext U) hu).mono ?_;rintro _ aD _ ⟨rfl,W⟩;have e:gW vars p=(vars.idxOf p:Int):=if_pos ae;obtain⟨u,ag⟩:∃u,x[vars.idxOf p]? =σ u:=⟨_,x6 Ω⟩;have aE:(upto (eV x vars scope) 0 i).length=scope.length:=by rw[pC,X]
  rw[dY (i:=vars.idxOf p) e af.u ac.i Ψ (aj.ext (U.trans W)) ag,hI rfl af.u ac.i (hm.ext W) Ω];refine hJ ac.i (hm.ext W) Ω λaF aw _ ah=>?_;simp only[aL];have ax:(eV x vars scope)[i]? =σ u:=by
   unfold eV;rw[u4,Y,Y4,u9,ag];rfl
  rw[om ax] at ah;exact av _ ⟨(U.trans W).then aw (by rintro r aG rfl;omega),ah⟩
 .rintro aa au ⟨U,hm⟩;simp only[aQ,ak];refine⟨λh=>Ω,λ_=>⟨U,gz,Ω,?_⟩⟩;rw[<-X,ol] at hm;exact hm
theorem Bk (X:t≠[]) (hw:∀b∈t,bQ b=true):lex t=([t],true):=by
 cases t with
 |nil=>exact absurd rfl X
 |cons b q=>
  have J:q.dropWhile bQ=[]:=by
   have:∀ (q:Λ),(∀x∈q,bQ x=true)->q.dropWhile bQ=[]/\q.takeWhile bQ=q:=λq J=>by
    induction q with
    |nil=>simp
    |cons x q U=>
     have:=U λy V=>J y (.tail _ V);simp[J x (.head _),this.1,this.2]
   exact (this q λx W=>hw x (.tail _ W)).1
  have Y:q.takeWhile bQ=q:=by
   have:∀ (q:Λ),(∀x∈q,bQ x=true)->q.takeWhile bQ=q:=λq J=>by
    induction q with
    |nil=>simp
    |cons x q U=>simp[J x (.head _),U λy V=>J y (.tail _ V)]
   exact this q λx W=>hw x (.tail _ W)
  rw[y5 (hw b (.head _)),J,Y]
theorem Bl {p:y0} (h:aH .u8 w p l) (U:Bytes l) (W:l.length<=100000):ai x3 xW [p] w λv w'=>Ext w w'/\ ∃g R,v=Γ g/\w.heap.size<=g/\gR w' g R (lex l).1 (lex l).2/\¬R g:=by
 refine (zd h U W).mono ?_;rintro _ V _ ⟨X,g,rfl,Y,aa,J⟩;obtain⟨h1,ad,ae,ab,af,hm⟩:=id J;exact⟨X,g,λr=>r≠g,rfl,Y,⟨aa,l,0,J,λr ac=>b5 hm ab Φ ac,by rw[List.drop_zero]⟩,λh=>h rfl⟩
theorem Kc {p:y0} (h:aH .u8 w p t) (ad:Bytes t) (af:t.length<=100000) (ag:t≠[]) (hw:∀b∈t,bQ b=true):ai x3 Ga [p] w λv w'=>Ext w w'/\ ∃n:Int,v= .tuple #[Δ 1,Δ n,Δ 0]:=by
 have ah:=Bk ag hw;refine az func264 ?_;refine (Bl h ad af).mono ?_;rintro _ V _ ⟨aj,g,R,rfl,am,X,an⟩;rw[ah] at X;refine⟨λ_ _ _ J aa=>ae (λr=>r=g) V aa/\((J=Δ 0/\gR aa g R [t] true)\/(J=Δ 1/\gR aa g R [] true)),λ_ _ _ J _=>1-(bS J).toNat,⟨ae.refl _ _,.inl ⟨rfl,X⟩⟩,?_⟩;rintro _ _ _ _ aa ⟨Y,⟨rfl,U⟩|⟨rfl,U⟩⟩
 .refine (pE U).mono ?_;rintro v ab _ ⟨W,al,n,rfl⟩;rw[hj,hl,hn,bn,ak];refine⟨λ_=>?_,λh=>absurd rfl h⟩;rw[aL,wrap_i64 Ω Ω];exact⟨⟨Y.trans W,.inr ⟨rfl,al⟩⟩,by simp[bS]⟩
 .refine (pE U).mono ?_;rintro v ab _ ⟨W,n,rfl⟩;rw[hj,hl,hn,bn,ak];refine⟨λh=>by simp at h,λ_=>?_⟩;rw[bn,ak];refine⟨λh=>by simp at h,λ_=>?_⟩;have ac:Ext w ab:=aj.then (Y.trans W) (λr ao he=>by have he:r=g:=he;omega);rw[aU cH.u (h.ext ac)];exact⟨ac,_,rfl⟩
theorem Kd (J:Bytes t) (U:t.length<=100000) (W:t≠[]) (hw:∀b∈t,bQ b=true):ai x3 FT [bU t] w λv w'=>v= .bool true/\Ext w w':=by
 have ae:=Bk W hw;refine az func230 ?_;refine uv c3.u cH.u cq.u J Ω λbv V X af _=>?_;refine (Kc af J U W hw).mono ?_;rintro _ aa _ ⟨Y,n,rfl⟩;rw[hj,hl,hn];refine uv c3.u cH.u cq.u J Ω λao ap ab ag _=>?_;refine (Bl ag J U).mono ?_;rintro _ aq _ ⟨ah,g,R,rfl,au,ac,av⟩;rw[ae] at ac;refine (pE ac).mono ?_;rintro _ ad _ ⟨aj,_,m,rfl⟩;rw[hj,hl,hn];have al:Ext w ad:=(((X.trans Y).trans (ab.trans ah))).then aj (λr aw he=>by
  have he:r=g:=he;have:=X.size;have:=Y.size;have:=ab.size;omega)
 refine aR (λv am=>ad=am/\v= .bool true) ?_ ?_
 .rintro _ _ ⟨rfl,rfl⟩;exact⟨rfl,al⟩
 .intro ax an;rw[bn,ak];refine⟨λ_=>?_,λh=>absurd rfl h⟩;rw[bn,ak];refine⟨λ_=>?_,λh=>absurd rfl h⟩;rw[y1 J J];exact an _ _ ⟨rfl,by rw[decide_eq_true rfl]⟩
theorem Ke {x:Int}:ai x3 tW [Δ x] w λv w'=>v= .bool (decide (¬hG x))/\Ext w w':=by
 refine az func229 ?_;refine aR (λv V=>w=V/\v= .bool (decide (¬hG x))) ?_ ?_
 .rintro _ _ ⟨rfl,rfl⟩;exact⟨rfl,Ext.refl _⟩
 .intro Y U;rw[aQ,ak];refine⟨λh=>U _ _ ⟨rfl,by rw[decide_eq_true];intro J;have:=J.1;omega⟩,λh=>?_⟩;rw[bY];refine U _ _ ⟨rfl,?_⟩;congr 1;rw[U4,decide_eq_true_eq,decide_eq_true_eq];exact⟨λW J=>by have:=J.2;omega,λW=>by
   by_cases X:32<x
   .exact X
   .exact absurd ⟨Ω,Ω⟩ W⟩
theorem Kf (h:aH .i64 w sv l) (W:∀x∈l,hG x):
  ai x3 rk [sv,.func (.func tW) #[] #[]] w λv w'=>v= .bool false/\Ext w w':=by
 refine az func216 ?_;refine ai.mono (K:=λv w'=>v=Δ (-1)/\Ext w w') ?_ ?_
 .refine az func131 ?_;rw[aU af.u h];refine bA.range l.length (λ_ _ V=>Ext w V) h.le (Ext.refl _) ?_ ?_
  .rintro i _ V k hi J hk;refine bk Ω ?_;obtain⟨x,U⟩:=aN (l:=l) hi;rw[bf af.u ac.i Ψ (h.ext J) U];show ai x3 tW [Δ x] V _;refine Ke.mono ?_;rintro _ aa _ ⟨rfl,X⟩;rw[ak];refine⟨λY=>absurd (W x (x5 U)) Y,λ_=>?_⟩;rw[aL];exact hk _ _ (J.trans X)
  .rintro _ V k J;rw[aQ,ak];exact⟨λh=>Ω,λ_=>⟨rfl,J⟩⟩
 .rintro _ V _ ⟨rfl,J⟩;rw[cr];exact⟨rfl,J⟩
theorem su {m:Bool} {S R:ah} {d:gE} (h:al.rep m S R w cs d):∃sv g J aF gs,cs=[sv,Γ g]/\aH .i64 w sv d.1/\fp w g J aF gs d.2.szs d.2.k d.2.o d.2.D:=by
 obtain⟨c,e,A,B,rfl,_,_,_,h1,U⟩:=h;have h1:al.rep (α:=Λ) false bC R w c d.1:=h1;obtain⟨u,rfl⟩:=W7.1 (show c.length=1 from al.len h1);obtain⟨g,m,sv,gs,rfl,V,_⟩:=U;exact⟨u,g,m,sv,gs,rfl,c4 h1,V⟩
theorem Kg {aD:Nat} {f:b4} {d:gE} {x:ce} {m:Bool} {S R:ah} (aP:kr w aD f) (aV:e1 N f) (aW:x∈f.funs) (aX:pZ f.k x d) (aY:al.rep m S R w cs d):
  ai x3 Gb [Γ aD,.agg cs.toArray] w λv w'=>v= .bool true/\Ext w w':=by
 obtain⟨szv,be,gz,bg,aE,aG,_,_⟩:=aP;obtain⟨sv,ag,bh,aF,gs,rfl,X,au⟩:=su aY;obtain⟨aZ,aH,a1,bi,bj,bl⟩:=aX;obtain⟨ao,bm,bn⟩:=aV.funs x aW;rw[aZ] at X;refine az func266 ?_;refine bP λam V bo ab ap=>?_;have ap:ad V am cw [sv,Γ ag]:=by obtain⟨_,_,_,rfl⟩:=b7 X;exact ap
 refine aR (λv aa=>Ext V aa/\v= .bool false) ?_ ?_
 rotate_left
 .intro a2 aw;intro aa W _ _;have Y:=ap.ext W;rw[av cw.p 1 Y rfl,cR eI.u];simp only[Z7,aT];rw[av cw.p 1 Y rfl,aK cv.p 1 (aE.ext (ab.trans W)) rfl];refine (Iw (au.ext (ab.trans W)).is).mono ?_;rintro _ ae _ ⟨rfl,J⟩;refine⟨.inl J,?_⟩;rw[bH,ak];refine⟨λh=>absurd a1 h,λ_=>?_⟩;have aj:=Y.ext J;have ax:=W.trans J;rw[av cw.p 1 aj rfl,av cw.p 0 aj rfl,aU af.u (X.ext (ab.trans ax))];refine (Ix (au.ext (ab.trans ax)).is).mono ?_;rintro _ aq _ ⟨rfl,U⟩;refine⟨.inl U,?_⟩;rw[bH];refine aw _ _ ⟨ax.trans U,?_⟩;rw[decide_eq_false];intro h;exact h (by rw[aH,ao.sizes,u5])
 rintro _ aa ⟨W,rfl⟩;rw[aT];have Y:=ap.ext W;have ay:=ab.trans W;rw[av cw.p 0 Y rfl,aU af.u (X.ext ay)];refine bA.range x.scope.length (λ_ _ ae=>Ext aa ae) Ω (Ext.refl _) ?_ ?_
 rotate_left
 .rintro _ ae k J;rw[aQ,ak];exact⟨λh=>Ω,λ_=>⟨rfl,ay.trans J⟩⟩
 rintro i _ ae k hi J hk;obtain⟨v,an⟩:=aN (l:=x.scope) hi;have bp:=ao.scope.2 v (x5 an);have aA:=ay.trans J;have aj:=Y.ext J;have aI:=aE.ext aA;have a6:f.sizes[v.toNat]? =σ (f.sizes.getD v.toNat 0):=by
  rw[u9,x6 Ω];rfl
 refine bk Ω ?_;rw[bf af.u ac.i Ψ (X.ext aA) an];refine aR (λb aq=>Ext ae aq/\b= .bool false) ?_ ?_
 .rintro _ aq ⟨U,rfl⟩;rw[aT,aL];exact hk _ _ (J.trans U)
 .intro a2 aw;intro aq U _ _;have aB:=aA.trans U;refine b2 Ω ?_;rw[aK cv.p 2 (aI.ext U) rfl,aU af.u (aG.ls.ext aB),cr,ak];refine⟨λh=>Ω,λ_=>?_⟩;rw[av cw.p 0 (aj.ext U) rfl];refine (Be (X.ext aB)).mono ?_;rintro _ bq _ ⟨aJ,r,rfl,a7⟩;have a8:r=(i:Int):=(a7 i an).2 λj br ba=>by have:=jF ao.scope.1 ba an;omega
  subst a8;have aM:=aB.trans aJ;have aC:=U.trans aJ;rw[bH,ak];refine⟨λh=>absurd rfl h,λ_=>?_⟩;rw[av cw.p 1 (aj.ext aC) rfl,aK cv.p 2 (aI.ext aC) rfl];refine rE (y:=v) (i:=v.toNat) Ω af.u ac.i (aG.ls.ext aM) a6 λb o bb=>?_;rw[aS Ψ bb];refine (uQ (au.ext aM).is).mono ?_;rintro bt bu _ ⟨aO,bw,bx,bc⟩;refine⟨.inl aO,?_⟩;have bd:d.2.szs[i]? =σ (f.sizes.getD v.toNat 0):=by
   rw[aH,ao.sizes,u4,an];rfl
  rw[bf af.u ac.i Ψ bc.ls bd,bH];exact aw _ _ ⟨aC.trans aO,by rw[decide_eq_false (λh=>h rfl)]⟩
theorem Kh {X:Nat} {f:b4} {d:gE} {x:ce} {m:Bool} {S R:ah} (Y:kr w X f) (ab:e1 N f) (ac:x∈f.funs) (ae:pZ f.k x d) (J:al.rep m S R w cs d):
  ai x3 tX [Γ X,.agg cs.toArray] w λv w'=>v= .bool false/\Ext w w':=by
 refine az func232 ?_;refine bP λam V an U W=>?_;have af:cs.length=2:=al.len J;have W:ad V am cw cs:=by
  obtain⟨sv,ag,ao,aF,gs,rfl,aj,ap⟩:=su J;obtain⟨_,_,_,rfl⟩:=b7 aj;exact W
 rw[br cw.p cw.i af W.range];refine (Kg (Y.ext U) ab ac ae (a7 J U)).mono ?_;rintro _ aa _ ⟨rfl,ak⟩;rw[bg];exact⟨rfl,U.trans ak⟩
theorem Ki {W:Nat} {f:b4} {Y:y0} {U:List gE} {m:Bool} {S R:ah} (ae:kr w W f) (af:e1 N f) (X:al.rep m S R w [Y] U) (ab:sr f.k f.funs U):
  ai x3 FU [Y,.func (.func tX) #[Γ W] #[]] w λv w'=>v= .bool false/\Ext w w':=by
 refine az func231 ?_;refine ai.mono (K:=λv w'=>v=Δ (-1)/\Ext w w') ?_ ?_
 .refine az func265 ?_;rw[eh dB.u X];refine bA.range U.length (λ_ _ V=>Ext w V) (lR X) (Ext.refl _) ?_ ?_
  .rintro i _ V k hi J hk;refine bk Ω ?_;obtain⟨d,ac⟩:=aN (l:=U) hi;obtain⟨x,ad⟩:∃x,f.funs[i]? =σ x:=⟨_,x6 (by have:=ab.1;omega)⟩;refine hF (α:=gE) cw.p rfl dB.u cw.i (a7 X J) ac λcs ag=>?_;show ai x3 tX [Γ W,.agg cs.toArray] V _;refine (Kh (ae.ext J) af (x5 ad) (ab.2 i x d ad ac) ag).mono ?_;rintro _ aa _ ⟨rfl,aj⟩;rw[aT,aL];exact hk _ _ (J.trans aj)
  .rintro _ V k J;rw[aQ,ak];exact⟨λh=>Ω,λ_=>⟨rfl,J⟩⟩
 .rintro _ V _ ⟨rfl,J⟩;rw[cr];exact⟨rfl,J⟩
def hR (J:List ce):Nat:=(J.map λx=>x.lines.length).sum
theorem Kj {aS:Nat} {f:b4} (aV:kr w aS f) (U:e1 N f) (bH:N<=60000) (aD:f.name≠[]/\ ∀b∈f.name,bQ b=true):
  ai x3 Fv [Γ aS] w λv w'=>Ext w w'/\ ∃e:Int,v=Δ e/\(hR f.funs<=16384->e=0):=by
 obtain⟨szv,bI,gz,X,Y,aE,aG,ab⟩:=id aV;have bJ:=U.name;have bb:Bytes f.name:=λb bc=>by
  have:=of_decide_eq_true (aD.2 b bc);omega
 refine az func173 ?_;rw[cR tY.u];simp only[Z7,aT];refine aR (λv V=>Ext w V/\v= .bool false) ?_ ?_
 rotate_left
 .intro aH W;rw[aK cv.p 0 Y rfl];refine (Kd bb Ω aD.1 aD.2).mono ?_;rintro _ V _ ⟨rfl,J⟩;rw[bg,Y6,aT];rw[aK cv.p 2 (Y.ext J) rfl,aU af.u (aE.ls.ext J),bn,ak];refine⟨λh=>by have:=U.sizes.1;omega,λ_=>?_⟩;rw[aK cv.p 2 (Y.ext J) rfl];refine (Kf (aE.ls.ext J) U.sizes.2.2).mono ?_;rintro _ aa _ ⟨rfl,ad⟩;have aW:=J.trans ad;rw[aT,aK cv.p 1 (Y.ext aW) rfl];refine yH.mono ?_;rintro _ ae _ ⟨rfl,ah⟩;have aw:=aW.trans ah;rw[decide_eq_true (show right f.k from U.k),bg,Y6,aT,aK cv.p 3 (Y.ext aw) rfl,kX];refine (Ki (aV.ext aw) U (a7 aG aw) ab).mono ?_;rintro _ aX _ ⟨rfl,bd⟩;exact W _ _ ⟨aw.trans bd,rfl⟩
 rintro _ V ⟨J,rfl⟩;rw[aT];have ax:=Y.ext J;refine aR (λv aa=>V=aa/\v= .bool false) ?_ ?_
 rotate_left
 .intro aH W;rw[aK cv.p 0 ax rfl,mQ c3.u,bY,ak];refine⟨λh=>Ω,λ_=>?_⟩;rw[aK cv.p 2 ax rfl,aU af.u (aE.ls.ext J),bY,ak];refine⟨λh=>by have:=U.sizes.2.1;omega,λ_=>?_⟩;rw[aK cv.p 3 ax rfl,eh dB.u (a7 aG J),bY];exact W _ _ ⟨rfl,by rw[decide_eq_false];have:=U.ki;have:=ab.1;omega⟩
 rintro _ _ ⟨rfl,rfl⟩;have aY:=a7 aG J;rw[aK cv.p 3 ax rfl,eh dB.u aY];refine⟨λbe bh aI aa=>∃i n:Nat,aI=Δ (i:Int)/\i<=X.length/\be=Δ (n:Int)/\bh= .bool false/\Ext V aa/\n<=hR (f.funs.take i)/\n<=i*60000,λ_ _ aI _=>X.length-(bS aI).toNat,
  ⟨0,0,rfl,X7 _,rfl,rfl,Ext.refl _,X7 _,Ω⟩,?_⟩
 rintro _ _ _ aa ⟨i,n,rfl,hi,rfl,rfl,ad,bi,bL⟩;have bM:X.length<=256:=by rw[ab.1];exact U.ki
 rw[aQ,ak];refine⟨λa1=>?_,λbN=>?_⟩
 .have a1:i<X.length:=Ω
  obtain⟨d,a2⟩:=aN (l:=X) a1;obtain⟨x,aJ⟩:∃x,f.funs[i]? =σ x:=⟨_,x6 (by have:=ab.1;omega)⟩;have ay:=ab.2 i x d aJ a2;obtain⟨aA,bj,bl⟩:=U.funs x (x5 aJ);have bO:=aA.len;refine iy (λa b ae=>Ext aa ae/\a=Δ ((n+d.2.D.length:Nat):Int)/\b= .bool false) ?_ ?_
  .rintro _ _ ae ⟨ah,rfl,rfl⟩;rw[aL,wrap_i64 Ω Ω];have bm:=ay.2.2.2.2.1;refine⟨⟨i+1,n+d.2.D.length,rfl,Ω,rfl,rfl,ad.trans ah,?_,?_⟩,by simp only[bS];omega⟩
   .have e:hR (f.funs.take (i+1))=hR (f.funs.take i)+x.lines.length:=by
     unfold hR;rw[r9,aJ,j6,j9,List.sum_append,T2,List.map_nil,List.sum_cons,List.sum_nil,Nat.add_zero]
    omega
   .have:(i+1)*60000=i*60000+60000:=Ω
    have bP:d.2.D.length<=60000:=Ω
    omega
  .intro aH W;refine hF (α:=gE) cw.p rfl dB.u cw.i (a7 aY ad) a2 λcs bo=>?_;obtain⟨sv,ag,bR,aF,gs,rfl,bq,a6⟩:=su bo;refine bp cw.i λam ae bT ah br=>?_;refine bK (vs:=[sv,Γ ag]) cw.i rfl rfl (by intro v aB;simp at aB;rcases aB with rfl|rfl<;>first|exact bq.cells.2|rfl) br λaX bt bU a8=>?_;have aM:Ext aa aX:=ah.put bt Ω;rw[av cw.p 1 a8 rfl];refine (Iv (a6.ext aM).is).mono ?_;rintro _ bV _ ⟨rfl,aO⟩;have bm:=ay.2.2.2.2.1;rw[aL,wrap_i64 Ω Ω,av cw.p 1 (a8.ext aO) rfl];refine (uQ ((a6.ext aM).ext aO).is).mono ?_;rintro bW aP _ ⟨bu,bX,bZ,ba⟩;rw[aU af.u ba.ls];have b0:d.2.szs.length<=6:=by rw[ay.2.1,aA.sizes,u5];exact bj
   refine bA.range d.2.szs.length (λj out aC=>Ext aP aC/\ ∃gr,aP.heap.size<=gr/\ao .i64 an aC gr out (d.2.szs.take j)) Ω ⟨Ext.refl _,aP.heap.size,n9 _,ao.nil _ _ _ _⟩ ?_ ?_
   .rintro j out aC k bw ⟨aj,gr,bx,al⟩ hk;obtain⟨z,ap⟩:=aN (l:=d.2.szs) bw;refine bk Ω ?_;rw[bf af.u ac.i Ψ (ba.ls.ext aj) ap];refine dJ au.u an.i rfl λa aZ bz b1 aq bB=>?_;refine h6 au.u an.i rfl (al.ext aq) bB.ls Θ Θ λb3 bC b5 b6 bD bE=>?_;have b7:=aj.size;have b8:=aq.size;rw[aL];refine hk _ _ ⟨(aj.trans aq).put bE Ω,bC,Ω,?_⟩;rw[r9,ap];exact bD
   .rintro out aC k ⟨aj,gr,bx,al⟩;rw[o9] at al;refine b2 Ω ?_;rw[aT];have bF:d.2.szs=x.sizes:=ay.2.1;rw[bF] at al;refine (zU al.ls λz ap=>?_).mono ?_
    .rw[aA.sizes] at ap;obtain⟨v,aB,rfl⟩:=Z6.1 ap;have b9:=aA.scope.2 v aB;refine (U.sizes.2.2 _ ?_).1;rw[u9,x6 Ω];exact S3 _
    .rintro _ bz _ ⟨rfl,aq⟩;refine W _ _ _ ⟨(((aM.trans aO).trans bu).trans aj).trans aq,by congr 1,by rw[bl]⟩
 .have bG:i=X.length:=Ω
  subst bG;rw[ab.1,o9] at bi;refine aR (λv ae=>aa=ae/\v= .bool (decide (16384<(n:Int)))) ?_ ?_
  .rintro _ _ ⟨rfl,rfl⟩;rw[ak];refine⟨λh=>⟨J.trans ad,5,rfl,λca=>Ω⟩,λh=>⟨J.trans ad,0,rfl,λ_=>rfl⟩⟩
  .intro aH W;rw[aT,bY];exact W _ _ ⟨rfl,rfl⟩
theorem sw:∀ {a b:Λ} {i:Nat},(∀ (j:Nat) (x y:Int),j<i->a[j]? =σ x->b[j]? =σ y->x=y)->i<=a.length->i<=b.length->fB a b=fB (a.drop i) (b.drop i)
 |_,_,0,_,_,_=>Ξ
 |[],_,i+1,_,h,_=>by simp at h
 |_::_,[],i+1,_,_,h=>by simp at h
 |x::a,y::b,i+1,he,h1,J=>by
  have U:=he 0 x y Ω rfl rfl;subst U;simp only[fB,Int.lt_irrefl,if_false,List.drop_succ_cons];exact sw (λj u v W hu V=>he (j+1) u v Ω hu V) (by simpa using h1) (by simpa using J)
theorem Bm {x:Int}:ai x3 cmp_isNaN_int [Δ x] w λv w'=>v= .bool false/\Ext w w':=by
 refine az func124 ?_;simp only[bH];exact⟨Ξ,Ext.refl _⟩
theorem Bn {x:Int}:ai x3 Ed [Δ x,Δ y] w λv w'=>v=Δ (if x<y then-1 else if y<x then 1 else 0)/\Ext w w':=by
 refine az func36 ?_;refine Bm.mono ?_;rintro _ V _ ⟨rfl,J⟩;refine Bm.mono ?_;rintro _ aa _ ⟨rfl,U⟩;simp only[aT,aQ,bY,ak];exact⟨λh=>⟨by rw[if_pos h],J.trans U⟩,λh=>⟨λW=>⟨by rw[if_neg h,if_pos W],J.trans U⟩,λW=>⟨by rw[if_neg h,if_neg W],J.trans U⟩⟩⟩
theorem Kk {b:Λ} (X:aH .i64 w dk a) (ab:aH .i64 w bv b):ai x3 FB [dk,bv] w λv w'=>v=Δ (fB a b)/\Ext w w':=by
 refine az func184 ?_;have aE:=X.le;rw[aU af.u X];refine⟨λ_ ad V=>∃i:Nat,ad=Δ (i:Int)/\i<=a.length/\i<=b.length/\Ext w V/\ ∀ (j:Nat) (x y:Int),j<i->a[j]? =σ x->b[j]? =σ y->x=y,λ_ ad _=>a.length-(bS ad).toNat,⟨0,rfl,X7 _,X7 _,Ext.refl _,λj x y au=>Ω⟩,?_⟩;rintro _ _ V ⟨i,rfl,av,aw,J,am⟩;have U:fB a b=fB (a.drop i) (b.drop i):=sw am av aw;simp only[aQ,ak];refine⟨λY=>?_,λaF=>?_⟩
 .have Y:i<a.length:=Ω
  obtain⟨x,ae⟩:=aN (l:=a) Y;have an:a.drop i=x::a.drop (i+1):=by rw[V4 Y,(x4.1 ae).2]
  rw[bf af.u ac.i Ψ (X.ext J) ae,aU af.u (ab.ext J)];simp only[cr,ak];refine⟨λh=>?_,λh=>?_⟩
  .have:b.drop i=[]:=by rw[List.drop_eq_nil_iff];omega
   rw[this,an] at U;exact⟨by rw[U];rfl,J⟩
  have ag:i<b.length:=Ω
  obtain⟨y,ah⟩:=aN (l:=b) ag;have ax:b.drop i=y::b.drop (i+1):=by rw[V4 ag,(x4.1 ah).2]
  rw[bf af.u ac.i Ψ (ab.ext J) ah];refine Bn.mono ?_;rintro _ aa _ ⟨rfl,ao⟩;rw[an,ax] at U;simp only[fB] at U;simp only[bH,ak,aL];refine⟨λap=>⟨?_,J.trans ao⟩,λay=>?_⟩
  .rw[U];by_cases h1:x<y
   .rw[if_pos h1,if_pos h1]
   .by_cases W:y<x
    .rw[if_neg h1,if_pos W,if_neg h1,if_pos W]
    .rw[if_neg h1,if_neg W] at ap;exact absurd rfl ap
  .rw[wrap_i64 Ω Ω];refine⟨⟨i+1,rfl,Y,ag,J.trans ao,λj aA aB au aj al=>?_⟩,by simp only[bS];omega⟩;by_cases aC:j=i
   .subst aC;rw[ae] at aj;rw[ah] at al;cases aj;cases al;have aq:=X9.1 ay;by_cases h1:x<y
    .rw[if_pos h1] at aq;omega
    .by_cases W:y<x
     .rw[if_neg h1,if_pos W] at aq;omega
     .omega
   .exact am j aA aB Ω aj al
 .have aD:i=a.length:=Ω
  subst aD;rw[List.drop_length] at U;rw[aU af.u (X.ext J),aU af.u (ab.ext J)];simp only[aQ,ak];refine⟨λh=>⟨?_,J⟩,λh=>⟨?_,J⟩⟩
  .obtain⟨y,l,e⟩:∃y l,b.drop a.length=y::l:=⟨_,_,V4 Ω⟩;rw[U,e];rfl
  .have:b.drop a.length=[]:=by rw[List.drop_eq_nil_iff];omega
   rw[U,this];rfl
theorem Kl {x:Int} {W:y0} (h:aH .i64 w W [x,y]):ai x3 Ec [W] w λv w'=>v=Δ (if x≠0 then x else y)/\Ext w w':=by
 refine az func35 ?_;rw[aU af.u h];refine bA.range 2 (λi _ V=>Ext w V/\(1<=i->x=0)/\(2<=i->y=0)) Ω ⟨Ext.refl _,Ω,Ω⟩ ?_ ?_
 .rintro i _ V k hi ⟨J,h1,U⟩ hk;rw[aQ,ak];refine⟨λ_=>?_,λh=>by simp at h;omega⟩
  match i,hi,h1,U,hk with
  |0,_,h1,U,hk=>
   rw[bf (i:=0) af.u ac.i Ψ (h.ext J) rfl,bH,ak];refine⟨λX=>⟨by rw[if_pos X],J⟩,λhe=>?_⟩;rw[aL];exact hk _ _ ⟨J,λ_=>X9.1 he,λh=>Ω⟩
  |1,_,h1,U,hk=>
   rw[bf (i:=1) af.u ac.i Ψ (h.ext J) rfl,bH,ak];have Y:=h1 (n9 _);refine⟨λX=>⟨by rw[if_neg Ω],J⟩,λhe=>?_⟩;rw[aL];exact hk _ _ ⟨J,λ_=>Y,λ_=>X9.1 he⟩
 .rintro _ V k ⟨J,h1,U⟩;have Y:=h1 Ω;have aa:=U Ω;rw[aQ,ak];exact⟨λh=>by simp at h,λ_=>⟨by rw[if_neg Ω,aa],J⟩⟩
structure cm where
 sv:y0
 g:Nat
 sc:Λ
 cs:Λ
def ev (h:cm):List y0:=[h.sv,Γ h.g]
abbrev jh (h:cm):y0:=.agg (ev h).toArray
def p1 (h:cm):Int:=c9 h.sc
def ii (w:x2) (J:Nat) (h:cm):Prop:=(∃U,ao .i64 ac w U h.sv h.sc)/\(∀r,leads h.sv r->r≠J)/\iI h.sc
theorem ii.ab {J:Nat} {h:cm} (aw:ii w J h) (U:ae S w w') (V:∀r,leads h.sv r->¬S r):ii w' J h:=by
 obtain⟨⟨W,hm⟩,X⟩:=aw;exact⟨⟨W,be hm U V⟩,X⟩
theorem ii.one {J:Nat} {h:cm} (aw:ii w J h):∀u∈ev h,u.oneCell'=true:=by
 obtain⟨⟨U,hm⟩,_⟩:=aw;intro u hu;simp[ev] at hu;rcases hu with rfl|rfl
 .exact hm.ls.cells.2
 .rfl
def eW (w:x2) (g:Nat) (v:y0) (L:List cm):Prop:=bb ev 2 cU w g v L/\ ∀h∈L,ii w g h
theorem eW.ext {g:Nat} {L:List cm} (h:eW w g v L) (J:Ext w w'):eW w' g v L:=⟨h.1.ext J,λx U=>(h.2 x U).ab (J.ab λ_=>False) λ_ _ h=>h⟩
theorem eW.at {g:Nat} {L:List cm} (h:eW w g v L) {i:Nat} {x:cm} (hi:L[i]? =σ x):ii w g x:=h.2 x (x5 hi)
theorem sx {g:Nat} {L:List cm} {i:Nat} {x:cm} {K:y0->Prop} (J:y=(i:Int)) (h:eW w g v L) (hi:L[i]? =σ x):
  U x3 (l7 fJ v (Δ y)) w (λp=>U x3 (x7 cU p) w K)=K (jh x):=by
 rw[cE J fJ.u cU.i h.1 (x4.1 hi).1,br cU.p cU.i rfl (h.1.range hi)]
theorem Km {g:Nat} {L:List cm} {i:Nat} {x:cm} {K:Unit->x2->Prop} (X:y=(i:Int)) (h:eW w g v L) (hi:i<L.length) (hk:ii w g x)
  (Y:∀w',ae (λr=>leadsTo v r) w w'->eW w' g v (L.set i x)->K () w'):U x3 (l7 fJ v (Δ y)) w λp=>ay x3 (o7 cU p (jh x)) w K:=by
 rw[cE X fJ.u cU.i h.1 hi];refine Ak (f:=ev) cU.i h.1 rfl hk.one hi λw' V _ h'=>Y w' V ⟨h',λz J=>?_⟩;rcases W8 J with J|rfl
 .exact (h.2 z J).ab V λr W he=>(h.2 z J).2.1 r W (h.1.leads he).1
 .exact hk.ab V λr W he=>hk.2.1 r W (h.1.leads he).1
abbrev Kn:y0:=.func (.func yh) #[] #[]
def sy (a b:cm):Int:=let c:Int:=if (a.sc.length:Int)<b.sc.length then-1 else if (b.sc.length:Int)<a.sc.length then 1 else 0
 if c≠0 then c else fB a.sc b.sc
theorem Ko {a b:cm} (U:iI a.sc) (V:iI b.sc):sy a b<0↔p1 a<p1 b:=by
 have W:=(u2 U V).1;unfold p1 sy;simp only;generalize X:(if (a.sc.length:Int)<b.sc.length then (-1:Int) else if (b.sc.length:Int)<a.sc.length then 1 else 0)=c;rw[W,<-X];by_cases h1:(a.sc.length:Int)<b.sc.length
 .rw[if_pos h1,if_pos Ω];exact⟨λ_=>.inl Ω,λ_=>Ω⟩
 .by_cases J:(b.sc.length:Int)<a.sc.length
  .rw[if_neg h1,if_pos J,if_pos Ω];exact⟨λh=>Ω,λh=>by rcases h with h|h<;>omega⟩
  .rw[if_neg h1,if_neg J,if_neg Ω];exact⟨λh=>.inr ⟨Ω,h⟩,λh=>by rcases h with h|h;omega;exact h.2⟩
theorem Kp {ag:Nat} {a b:cm} (aj:ii w ag a) (ak:ii w ag b):ai x3 yh [jh a,jh b] w λv w'=>Ext w w'/\v=Δ (sy a b):=by
 obtain⟨⟨aZ,Y⟩,_,au⟩:=aj;obtain⟨⟨aw,ab⟩,_,ax⟩:=ak;refine az func183 ?_;refine bP λg1 V ay al U=>?_;refine bP λam aa aA ah W=>?_;have U:ad V g1 cU [a.sv,Γ a.g]:=by
  obtain⟨_,_,_,e⟩:=b7 Y.ls;simp only[jh,ev,e] at U ⊢;exact U
 have W:ad aa am cU [b.sv,Γ b.g]:=by
  obtain⟨_,_,_,e⟩:=b7 ab.ls;simp only[jh,ev,e] at W ⊢;exact W
 intro aB ae _ _;have J:=(al.trans ah).trans ae;have f1:=(U.ext ah).ext ae;have f2:=W.ext ae;rw[av cU.p 0 f1 rfl,aU af.u (Y.ls.ext J),av cU.p 0 f2 rfl,aU af.u (ab.ls.ext J),
  av cU.p 0 f1 rfl,av cU.p 0 f2 rfl]
 refine Bn.mono ?_;rintro _ aC _ ⟨rfl,X⟩;refine⟨.inl X,?_⟩;refine (Kk ((Y.ls.ext J).ext X) ((ab.ls.ext J).ext X)).mono ?_;rintro _ aD _ ⟨rfl,an⟩;refine n8 (l:=[if (a.sc.length:Int)<b.sc.length then (-1:Int) else if (b.sc.length:Int)<a.sc.length then 1 else 0,fB a.sc b.sc]) af.u ac.i Ω rfl Ψ λaE aF aG aH ao ap=>?_;refine (Kl ap.ls).mono ?_;rintro _ aI _ ⟨rfl,aq⟩;exact⟨((((J.trans X).trans an).trans ao).trans aq),rfl⟩
theorem Kq {g:Nat} {L:List cm} (h:eW w g v L) (ad:L.length<65536):
  ai x3 FA [v,Kn] w λ_ w'=>ae (λr=>leadsTo v r) w w'/\ ∃M,M.Perm L/\r7 p1 M 0 M.length/\eW w' g v M:=by
 have V:∀ {W:x2} {a:cm},ae (λr=>r=g) w W->ii w g a->ii W g a:=λU J=>J.ab U λr X he=>J.2.1 r X he;refine (Ar IH (G:=ii w g) (num:=p1) (cf:=sy) (cap:=#[]) IL IM (λa J=>J.one) (λa _=>rfl) (λa b J Y=>Ko J.2.2 Y.2.2) (Enters.of x3 IN rfl Ψ) h.1 h.2 ad λW a b U J Y=>Kp (V U J) (V U Y)).mono ?_;rintro _ w' _ ⟨U,M,ac,hu,hm⟩;have af:ae (λr=>r=g) w w':=U.mono λr _ X=>(h.1.leads X).1;exact⟨U,M,ac,λp q x y _ ag _ aa ah=>hu p q x y ag aa ah,hm,λx aa=>V af (h.2 x (ac.mem_iff.1 aa))⟩
theorem Kr {m:Λ} (W:jH l) (X:l.Nodup) (U:m.Perm l) (J:m.Pairwise (·<= ·)):m=bl l:=by
 refine u3 (f:=λx=>x) ?_ (u1 l) λx=>?_
 .have Y:m.Nodup:=U.nodup_iff.2 X;exact (List.Pairwise.and J Y).imp λ{a b} h=>by
   obtain⟨h1,V⟩:=h;have V:a≠b:=V;omega
 .rw[U.mem_iff,pW W]
theorem Ks (h:∀z∈l,1<=z/\z<=32) (J:df l=false):aJ l<=4096:=by
 have:=of_decide_eq_false J;rw[u7 h] at this;omega
theorem Kt {f:b4} {d:gE} {x:ce} {m:Bool} {S R:ah} (X:e1 N f) (bH:N<=60000) (aD:x∈f.funs) (aZ:pZ f.k x d) (a1:al.rep m S R w cs d):
  ai x3 Fw [.agg cs.toArray] w λv w'=>Ext w w'/\ ∃sv gs au aE aG,v= .tuple #[sv,Γ au]/\w.heap.size<=gs/\ao .i64 ac w' gs sv (bl x.scope)/\cV w' au aE aG (bI f.sizes (bl x.scope)) f.k (hs f.sizes f.k x).2:=by
 obtain⟨sv,ag,bJ,aF,bK,rfl,aw,a2⟩:=su a1;obtain⟨a6,a7,a8,bN,bO,ba⟩:=aZ;obtain⟨U,bb,bc⟩:=X.funs x aD;have aK:=sg U X.sizes.2.1;have bQ:=U.len;rw[a6] at aw;have bd:∀z∈x.sizes,1<=z/\z<=32:=λz aM=>by
  rw[U.sizes] at aM;obtain⟨v,be,rfl⟩:=Z6.1 aM;have bR:=U.scope.2 v be;refine X.sizes.2.2 _ ?_;rw[u9,x6 Ω];exact S3 _
 have bg:=Ks bd bc;have aH:=sf aK U.scope.1;have bS:(bl x.scope).length<=6:=by rw[aH.length_eq];exact bb
 refine az func174 ?_;refine bP λam V bT aO ak=>?_;have ak:ad V am cw [sv,Γ ag]:=by obtain⟨_,_,_,rfl⟩:=b7 aw;exact ak
 rw[av cw.p 1 ak rfl];refine (A8 (a2.ext aO).is Ω).mono ?_;rintro _ aa _ ⟨aI,_,an⟩;rw[a7] at an;obtain⟨g,bU,bV,bh,rfl,bW,bX,an,aP⟩:=an bg;rw[a8] at an;rw[bL,bM,av cw.p 0 (ak.ext aI) rfl];have ap:=aO.trans aI;refine vd (aw.ext ap) Ω λv aQ gs bY ax bZ bi J ay=>?_;have bj:=Kr aK U.scope.1 bi J;subst bj;have b3:=ap.size;rw[aU af.u ay.ls];refine jx (k:=.i64) af.u ac.i Ω Ω λgo aR b5 aA aS=>?_;have bm:ao .i64 ac aR go (.slice (σ ⟨go,0,ν⟩) (bl x.scope).length (bl x.scope).length) (o8 (bl x.scope).length 0):=ao.of (b1.full (k:=1) (n:=(bl x.scope).length) aS Ξ (by simp[maxLen];omega));rw[aU af.u (ay.ls.ext aA)];have b6:=aS.lt;have aB:(fC x.scope (bl x.scope)).length=(bl x.scope).length:=by simp[fC]
 have bn:=ax.trans aA;have b8:=ap.trans bn;refine b0.range (bl x.scope).length (λi W=>ae (λr=>r=go) aR W/\ao .i64 ac W go (.slice (σ ⟨go,0,ν⟩) (bl x.scope).length (bl x.scope).length) ((fC x.scope (bl x.scope)).take i++o8 ((bl x.scope).length-i) 0)) Ω ⟨ae.refl _ _,by simpa using bm⟩ ?_ ?_
 .rintro i W k hi ⟨aC,aq⟩ hk;obtain⟨v,aJ⟩:=aN (l:=(bl x.scope)) hi;have Y:Ext aQ W:=aA.put aC Ω;have bo:Ext w W:=(ap.trans ax).trans Y;have bp:v∈x.scope:=aH.mem_iff.1 (x5 aJ);refine bk Ω ?_;rw[bf af.u ac.i Ψ (ay.ls.ext Y) aJ];have bq:Ext V W:=(aI.trans ax).trans Y;rw[av cw.p 0 (ak.ext bq) rfl];refine (Be (aw.ext bo)).mono ?_;rintro _ br _ ⟨aj,r,rfl,bt⟩;have aT:=oE bp;have bu:r=((x.scope.idxOf v:Nat):Int):=(bt _ aT).2 λj b9 bw=>by have:=jF U.scope.1 bw aT;omega
  rw[hI rfl af.u ac.i (aq.ext aj) (by simp[aB];omega)];refine hJ ac.i (aq.ext aj) (by simp[aB];omega) λca bx cb aV=>?_;rw[aL];refine hk _ ⟨(aC.trans (aj.ab _)).trans bx,?_⟩;have bz:(fC x.scope (bl x.scope))[i]? =σ r:=by rw[bu];exact A2 aJ
  have e:((fC x.scope (bl x.scope)).take i++o8 ((bl x.scope).length-i) 0).set i r=(fC x.scope (bl x.scope)).take (i+1)++o8 ((bl x.scope).length-(i+1)) 0:=by
   have bA:((fC x.scope (bl x.scope)).take i).length=i:=by rw[o5,aB];omega
   rw[T6 _ _ Ω,bA,V9,show (bl x.scope).length-i=((bl x.scope).length-(i+1))+1 by omega,List.replicate_succ,List.set_cons_zero,r9,bz,j6,Z4];rfl
  rw[e] at aV;exact aV
 .rintro W k ⟨aC,aq⟩;have Y:Ext aQ W:=aA.put aC Ω;have aW:Ext aa W:=ax.trans Y;refine b2 Ω ?_;rw[V9,List.replicate_zero,X6,n0 Ω] at aq;have bB:∀t,dg x.sizes t->ch x.sizes bh t=jb x f.k t:=λt bC=>by rw[aP.2 t bC];exact ba t
  obtain⟨aX,bD⟩:=Jv X aD aP.1 bB;have bE:Good (fC x.scope (bl x.scope)) x.sizes.length:=by
   rw[U.sizes,u5];exact sj U.scope.1 aH
  have bF:=(oD X aD);refine (J8 (an.ext aW) X.k aq.ls (by rw[aB];omega) λ_=>?_).mono ?_
  .rw[aX];exact bF.small
  .rintro _ br _ ⟨aj,_,bG⟩;obtain⟨au,aE,aG,rfl,aY⟩:=bG bE;rw[bL,bM];rw[aX,bD] at aY;exact⟨(ap.trans aW).trans aj,v,gs,au,aE,aG,rfl,Ω,(ay.ext Y).ext aj,aY⟩
theorem Ku {P:V2} {t aa U:o4} {k ac g o cap:Nat} {z:y0} (V:P.underlying t=σ (.slice e)) (hi:aO P e k ac z) (af:z.cells.size=k) (h1:∀u∈dI z.cells (n*k),u.oneCell'=true)
  (J:ad w g U cs) (al:o+n*k<=cs.length) (W:∀w',ae (λr=>r=g) w w'->ad w' g U (over cs o (dI z.cells (n*k)))->K (.tuple #[]) w'):ay P (j5.clear_ #[t] aa #[.slice (σ ⟨g,o,ν⟩) n cap]) w K:=by
 obtain⟨i,hi,am,rfl,ag⟩:=hi;have ah:∀w,(zeroValue e).run P w= .ok z w:=λw=>by simp[zeroValue,typeInfo,hi,ag]
 have ai:(j5.zeroCells z.cells n).toList=dI z.cells (n*k):=by
  unfold j5.zeroCells dI;rw[af]
 have X:=run_storeCells_cells (P:=P) g o (dI z.cells (n*k)) 0 w (λj aj=>by
   rw[nZ] at aj;rw[Nat.add_zero,J.cell (x6 (show o+j<cs.length by omega))];rfl) (λj _=>J.frozen _ _) h1
 simp only[Nat.add_zero] at X;obtain⟨ak,Y⟩:=mF (dI z.cells (n*k)) cs o w J;rcases Nat.eq_zero_or_pos n with rfl|an
 .refine .of (v:=.tuple #[]) (w':=w) (by simp[j5.clear_,run_underlying V]) (cY.refl _) (W w (ae.refl _ _) ?_);rw[Nat.zero_mul,Z8 (nZ z.cells 0)];exact J
 .obtain⟨m,rfl⟩:∃m,n=m+1:=⟨n-1,Ω⟩;refine .of (v:=.tuple #[]) (w':=_) (by simp[j5.clear_,run_underlying V,ah,ai,X]) (Y.dc J) (W _ Y.ab ak)
theorem dy {α:Type} {f:α->List y0} {k:Nat} {g:Nat} {L:List α} (h:bb f k e w g v L) {r:Nat} (J:leadsTo v r):r=g/\ ∃cs,ad w g e cs:=by
 obtain⟨_,⟨rfl,_⟩|⟨cap,cs,rfl,U,_⟩⟩:=h.1
 .exact (eT J).elim
 .obtain⟨a,n,c,h1,V⟩:=J;cases h1;exact⟨V.symm,cs,U⟩
theorem Bo {α:Type} {f:α->List y0} {k:Nat} {g:Nat} {L:List α} (h:bb f k e w g v L) (J:L≠[]):∃cs n c,v= .slice (σ ⟨g,0,ν⟩) n c/\ad w g e cs:=by
 obtain⟨_,⟨rfl,U⟩|⟨cap,cs,rfl,V,_⟩⟩:=h.1
 .exact absurd (Z8 U) J
 .exact⟨cs,_,_,rfl,V⟩
theorem eW.mk {g:Nat} {L:List cm} (h:bb ev 2 cU w g v L) (U:∀x∈L,(∃V,ao .i64 ac w V x.sv x.sc)/\iI x.sc):eW w g v L:=by
 refine⟨h,λx J=>⟨(U x J).1,λr W=>?_,(U x J).2⟩⟩;obtain⟨cs,n,c,_,X⟩:=Bo h (λY=>by rw[Y] at J;cases J);obtain⟨⟨V,hm⟩,_⟩:=U x J;exact b5 hm X Φ W
def Sem (w:x2) (k:Int) (sizes:Λ) (L:List cm):Prop:=∀x∈L,∃J U,cV w x.g J U (bI sizes x.sc) k x.cs
theorem vh {g Y:Nat} {aa:y0} {cs:Λ} (h:cV w g Y aa szs k cs) (V:ae S w w') (W:∀r,S r-> ∃c,ad w r cU c):cV w' g Y aa szs k cs:=by
 obtain⟨⟨aI,gs,h1,ac,af⟩,ag⟩:=h;refine⟨⟨aI,gs,h1.ab V λJ=>?_,be ac V λr X J=>?_,be af V λr X J=>?_⟩,ag⟩
 .obtain⟨c,U⟩:=W g J;unfold ad at h1 U;rw[h1] at U;have:=(Obj.cells.inj (Z9 U)).2.1;exact absurd this Φ
 .obtain⟨c,U⟩:=W r J;exact b5 ac U Φ X rfl
 .obtain⟨c,U⟩:=W r J;exact b5 af U Φ X rfl
theorem Sem.ext {L:List cm} (h:Sem w k sizes L) (J:Ext w w'):Sem w' k sizes L:=λx U=>by
 obtain⟨V,W,X⟩:=h x U;exact⟨V,W,X.ext J⟩
theorem Sem.row {L M:List cm} {g:Nat} (h:Sem w k sizes L) (J:eW w g v M) (U:ae (λr=>leadsTo v r) w w'):Sem w' k sizes L:=λx V=>by
 obtain⟨W,X,Y⟩:=h x V;exact⟨W,X,vh Y U λr aa=>by obtain⟨rfl,c,ab⟩:=dy J.1 aa;exact⟨c,ab⟩⟩
def dM (h:cm):cu:=(h.sc,h.cs)
theorem Kv:ai x3 tU [Δ c] w λv w'=>v= .bool (decide (0<c))/\Ext w w':=by
 refine az func180 ?_;rw[bY];exact⟨rfl,Ext.refl _⟩
theorem Kw (h:aH .i64 w sv l):
  ai x3 Fy [sv,.func (.func tU) #[] #[]] w λv w'=>v= .bool (l.any λc=>decide (0<c))/\Ext w w':=by
 refine az func179 ?_;refine ai.mono (K:=λv w'=>Ext w w'/\ ∃r:Int,v=Δ r/\(0<=r↔ ∃c∈l,0<c)) ?_ ?_
 .refine az func244 ?_;rw[aU au.u h];refine bA.range l.length (λi _ V=>Ext w V/\ ∀c∈l.take i,¬0<c) h.le ⟨Ext.refl _,λc J=>by simp at J⟩ ?_ ?_
  .rintro i _ V k hi ⟨U,X⟩ hk;refine bk Ω ?_;obtain⟨x,Y⟩:=aN (l:=l) hi;rw[bf au.u an.i Ψ (h.ext U) Y];show ai x3 tU [Δ x] V _;refine Kv.mono ?_;rintro _ aa _ ⟨rfl,ab⟩;rw[ak];refine⟨λW=>⟨U.trans ab,i,rfl,⟨λ_=>⟨x,x5 Y,W⟩,λ_=>Ω⟩⟩,λac=>?_⟩;rw[aL];refine hk _ _ ⟨U.trans ab,λc J=>?_⟩;rw[r9,Y] at J;rcases l5.1 J with J|J
   .exact X c J
   .simp at J;subst J;exact ac
  .rintro _ V k ⟨U,X⟩;rw[o9] at X;rw[aQ,ak];exact⟨λh=>Ω,λ_=>⟨U,-1,rfl,⟨λh=>Ω,λ⟨c,J,W⟩=>absurd W (X c J)⟩⟩⟩
 .rintro _ V _ ⟨U,r,rfl,ad⟩;rw[cr];refine⟨?_,U⟩;congr 1;rw[U4,decide_eq_true_eq,List.any_eq_true,ad];exact⟨λ⟨c,J,W⟩=>⟨c,J,decide_eq_true W⟩,λ⟨c,J,W⟩=>⟨c,J,of_decide_eq_true W⟩⟩
theorem Bp {W X:Nat} {x:cm} {Y:y0} (ab:ii w W x) (ac:cV w x.g X Y szs k x.cs):ai x3 pp [jh x] w λv w'=>v= .bool (!fk (dM x))/\Ext w w':=by
 obtain⟨⟨ah,hm⟩,_⟩:=ab;refine az func178 ?_;refine bP λam V aj U J=>?_;have J:ad V am cU [x.sv,Γ x.g]:=by
  obtain⟨_,_,_,e⟩:=b7 hm.ls;simp only[jh,ev,e] at J ⊢;exact J
 rw[av cU.p 1 J rfl];refine (lY (ac.ext U)).mono ?_;rintro ak aa _ ⟨ae,al,an,af⟩;refine (Kw af.ls).mono ?_;rintro _ ao _ ⟨rfl,ag⟩;rw[bg];exact⟨rfl,(U.trans ae).trans ag⟩
theorem Kx {g:Nat} {L:List cm} (h:eW w g v L) (J:Sem w k sizes L):
  ai x3 yf [v,.func (.func pp) #[] #[]] w λr w'=>Ext w w'/\((r=Δ (-1)/\ ∀x∈L,fk (dM x)=true)\/ ∃i:Nat,r=Δ (i:Int)/\i<L.length/\(∀x∈L.take i,fk (dM x)=true)/\ ∀x,L[i]? =σ x->fk (dM x)=false):=by
 refine az func175 ?_;rw[dt fJ.u h.1];refine bA.range L.length (λi _ V=>Ext w V/\ ∀x∈L.take i,fk (dM x)=true) h.1.le ⟨Ext.refl _,λc U=>by simp at U⟩ ?_ ?_
 .rintro i _ V k hi ⟨W,X⟩ hk;refine bk Ω ?_;obtain⟨x,Y⟩:=aN (l:=L) hi;rw[sx rfl (h.ext W) Y];show ai x3 pp [jh x] V _;obtain⟨ag,ah,ad⟩:=J x (x5 Y);refine (Bp ((h.ext W).at Y) (ad.ext W)).mono ?_;rintro _ aa _ ⟨rfl,ab⟩;rw[bt];refine⟨λae=>⟨W.trans ab,.inr ⟨i,rfl,hi,X,λy ac=>by rw[Y] at ac;cases ac;simpa using ae⟩⟩,λaf=>?_⟩;rw[aL];refine hk _ _ ⟨W.trans ab,λc U=>?_⟩;rw[r9,Y] at U;rcases l5.1 U with U|U
  .exact X c U
  .simp at U;subst U;simpa using af
 .rintro _ V k ⟨W,X⟩;rw[o9] at X;rw[aQ,ak];exact⟨λh=>Ω,λ_=>⟨W,.inl ⟨rfl,X⟩⟩⟩
def fD (x:cm):Bool:=fk (dM x)
theorem vi {L:List cm} {x:cm} (J:L[j]? =σ x):(L.take (j+1)).filter fD=if fD x=true then (L.take j).filter fD++[x] else (L.take j).filter fD:=by
 rw[r9,J,j6,List.filter_append];by_cases h:fD x=true
 .rw[if_pos h];simp[h]
 .rw[if_neg h];simp[h]
theorem Bq {z:Array y0} (J:0<z.size) (h:∀u∈z.toList,u.oneCell'=true):∀u∈dI z n,u.oneCell'=true:=λu hu=>by
 unfold dI at hu;rw[Array.toList_map,Z6] at hu;obtain⟨i,_,rfl⟩:=hu;have U:i % z.size<z.size:=Nat.mod_lt _ J;rw[getElem!_pos z (i % z.size) U];exact h _ Ξ
theorem Ky {g:Nat} {L:List cm} (h:eW w g v L) (J:Sem w k sizes L) (bB:L.length<=100000):
  ai x3 Fz [v,.func (.func pp) #[] #[]] w λX w'=>ae (λr=>leadsTo v r) w w'/\eW w' g X (L.filter fD)/\ ∀r,leadsTo X r->leadsTo v r:=by
 refine az func181 ?_;refine (Kx h J).mono ?_;rintro r V _ ⟨al,Y⟩;rcases Y with⟨rfl,au⟩|⟨av,rfl,aW,au,aX⟩
 .rw[bn,ak];refine⟨λ_=>⟨al.ab _,?_,λr Y=>Y⟩,λh=>absurd rfl h⟩;rw[List.filter_eq_self.2 (show ∀x∈L,fD x=true from au)];exact h.ext al
 rw[bn,ak];refine⟨λh=>Ω,λ_=>?_⟩;rw[aL,wrap_i64 Ω Ω];obtain⟨aw,aF⟩:=aN (l:=L) aW;refine⟨λax aA aa=>∃ (i j:Nat) (M:List cm),ax=Δ (i:Int)/\aA=Δ (j:Int)/\i<j/\j<=L.length/\M.length=L.length/\M.take i=(L.take j).filter fD/\M.drop j=L.drop j/\(∀x∈M,x∈L)/\eW aa g v M/\ae (λr=>leadsTo v r) w aa,
  λ_ aA _=>L.length-(bS aA).toNat,⟨av,av+1,L,rfl,by congr 1,Ω,Ω,rfl,?_,rfl,λx ac=>ac,h.ext al,al.ab _⟩,?_⟩
 .have aY:¬fD aw=true:=by rw[show fD aw=false from aX aw aF];simp
  rw[vi aF,if_neg aY,List.filter_eq_self.2 (show ∀x∈L.take av,fD x=true from au)]
 rintro _ _ aa ⟨i,j,M,rfl,rfl,bC,bD,aG,af,aH,aI,W,an⟩;have aZ:Sem aa k sizes L:=J.row h an;rw[dt fJ.u W.1,aQ,ak];refine⟨λaB=>?_,λbE=>?_⟩
 .have aB:j<L.length:=Ω
  obtain⟨x,ac⟩:=aN (l:=L) aB;have ao:M[j]? =σ x:=by
   have h1:(M.drop j)[0]? =(L.drop j)[0]?:=by rw[aH]
   rw[List.getElem?_drop,List.getElem?_drop,Nat.add_zero] at h1;rw[h1,ac]
  have aJ:M.drop (j+1)=L.drop (j+1):=by
   have h1:(M.drop j).drop 1=(L.drop j).drop 1:=by rw[aH]
   rw[List.drop_drop,List.drop_drop] at h1;exact h1
  refine aR (λax ap=>∃ (ah:Nat) (ad:List cm),ax=Δ (ah:Int)/\ah<j+1/\ad.length=L.length/\ad.take ah=(L.take (j+1)).filter fD/\ad.drop (j+1)=L.drop (j+1)/\(∀x∈ad,x∈L)/\eW ap g v ad/\ae (λr=>leadsTo v r) w ap) ?_ ?_
  .rintro _ ap ⟨ah,ad,rfl,h1,aC,a1,a2,a6,a7,a8⟩;rw[aL,wrap_i64 Ω Ω];exact⟨⟨ah,j+1,ad,rfl,rfl,h1,aB,aC,a1,a2,a6,a7,a8⟩,by simp only[bS];omega⟩
  .intro bF aK;rw[sx rfl W ao];refine bp cU.i λam ap bG ba bb=>?_;refine bK (vs:=ev x) cU.i rfl rfl (W.at ao).one bb λaM bc bH aO=>?_;have aD:Ext aa aM:=ba.put bc Ω;rw[br cU.p cU.i rfl aO.range];show ai x3 pp [jh x] aM _;obtain⟨bI,bJ,bd⟩:=aZ x (x5 ac);refine (Bp ((W.ext aD).at ao) (bd.ext aD)).mono ?_;rintro _ bL _ ⟨rfl,aP⟩;have aj:=aD.trans aP;rw[bg,Bool.not_not,bt];refine⟨λhk=>?_,λbe=>?_⟩
   .rw[br cU.p cU.i rfl (aO.ext aP).range];refine Km rfl (W.ext aj) Ω ((W.ext aj).at ao) λbM bf bh=>?_;rw[aL,wrap_i64 Ω Ω];refine aK _ _ ⟨i+1,M.set i x,rfl,Ω,by simp[aG],?_,?_,λy ag=>?_,bh,(an.trans (aj.ab _)).trans bf⟩
    .have aE:fD x=true:=hk;rw[vi ac,if_pos aE,r9,U5 Ω,j6,List.take_set_of_le (n9 _),af]
    .rw[List.drop_set_of_lt Ω,aJ]
    .rcases W8 ag with ag|rfl
     .exact aI y ag
     .exact x5 ac
   .have aE:¬fD x=true:=by rw[show fD x=false from be];simp
    exact aK _ _ ⟨i,M,rfl,Ω,aG,by rw[vi ac,if_neg aE,af],aJ,aI,W.ext aj,an.trans (aj.ab _)⟩
 .have bi:j=L.length:=Ω
  subst bi;rw[o9] at af;obtain⟨⟨bN,bj⟩,aS⟩:=W.1;rcases bj with⟨_,bO⟩|⟨cap,cs,bk,bl,bP,bm,bo,bq⟩
  .omega
  subst bk;have bu:(U x3 (V5 fJ (.slice (σ ⟨g,0,ν⟩) M.length cap) (σ (Δ (i:Int))) ν ν) aa λbw=>
    ay x3 (j5.clear_ #[fJ] Gv #[bw]) aa λu aq=>
    U x3 (V5 fJ (.slice (σ ⟨g,0,ν⟩) M.length cap) ν (σ (Δ (i:Int))) ν) aq λbx=>
    (λX w'=>ae (λr=>leadsTo (.slice (σ ⟨g,0,ν⟩) M.length cap) r) w w'/\eW w' g X (L.filter fD)/\ ∀r,leadsTo X r->leadsTo (.slice (σ ⟨g,0,ν⟩) M.length cap) r) bx aq):=by
   rw[fM (l:=i) (h:=M.length) (m:=cap) fJ.u cU.i (mB i _ rfl) h5 eJ Ω Ω (n9 _),if_neg Ω];simp only[Y4,T3];refine Ku (g:=g) (o:=0+i*2) (n:=M.length-i) (k:=2) fJ.u cU.i rfl ?_ bl Ω λaq aT bz=>?_
   .exact Bq Φ Φ
   rw[fM (l:=0) (h:=i) (m:=cap) fJ.u cU.i h4 (mC i _ rfl) eJ Ω Ω (n9 _),if_neg Ω];simp only[Y4,T3,Nat.zero_mul,V8,Nat.sub_zero];have bA:(dI (y0.agg #[.slice ν 0 0,.pointer ν]).cells ((M.length-i)*2)).length=(M.length-i)*2:=nZ _ _;have bQ:(M.flatMap ev).length=M.length*2:=fR aS;have aU:(L.filter fD).length=i:=by rw[<-af,o5];omega
   have key:(λX w'=>ae (λr=>leadsTo (.slice (σ ⟨g,0,ν⟩) M.length cap) r) w w'/\eW w' g X (L.filter fD)/\ ∀r,leadsTo X r->leadsTo (.slice (σ ⟨g,0,ν⟩) M.length cap) r) (.slice (σ ⟨g,0,ν⟩) (L.filter fD).length cap) aq:=by
    refine⟨an.trans (aT.mono λr _ he=>⟨_,_,_,rfl,he.symm⟩),⟨⟨⟨fR (k:=2) (λy _=>rfl),.inr ⟨cap,_,rfl,bz,Ω,bm,by rw[k0,bo],?_⟩⟩,λy _=>rfl⟩,λy ag=>?_⟩,λr Y=>?_⟩
    .rw[aU,<-af,<-pQ i aS,<-bq,List.take_take,lP (by rw[bA];omega),Z4,List.take_append_of_le_length (by rw[o5];omega),List.take_take];congr 1;omega
    .have aV:y∈M:=by rw[<-af] at ag;exact U9 ag
     exact (W.2 y aV).ab aT λr Y he=>(W.2 y aV).2.1 r Y he
    .obtain⟨a,n,c,h1,aC⟩:=Y;cases h1;exact⟨_,_,_,rfl,aC⟩
   rw[aU] at key;exact key
  exact bu
theorem p2 {k:o6} {g cap:Nat} {b:Option Addr} (h:ao k e w g (.slice b n cap) l) (Y:0<l.length):
  b=σ ⟨g,0,ν⟩/\n=l.length/\ ∃cs,ad w g e cs/\n<=cap/\cap<=maxLen/\cs.length=cap/\cs.take n=ints k l:=by
 obtain⟨_,⟨_,h1⟩|⟨aa,cs,h1,J,U,V,W,X⟩⟩:=h
 .omega
 .cases h1;exact⟨rfl,rfl,cs,J,U,V,by simpa using W,by simpa using X⟩
theorem Kz {g cap:Nat} (h:ao .i64 ac w g (.slice (σ ⟨g,0,ν⟩) n cap) l) (V:j<l.length):aH .i64 w (.slice (σ ⟨g,j,ν⟩) (n-j) (cap-j)) (l.drop j):=by
 obtain⟨_,W,cs,J,h1,X,Y,U⟩:=p2 h Ω;have:=G4 (o:=j) (k:=n-j) (c:=cap-j) J Ω Ω Ω;refine aH.of (n:=n-j) ?_;have e:(cs.drop j).take (n-j)=ints .i64 (l.drop j):=by
  rw[<-List.drop_take,U,ints,ints,List.map_drop]
 rw[e] at this;exact this
theorem KA {g:Nat} (h:ao .i64 ac w g sv l) (bl:l.length<=1000):
  ai x3 FZ [sv] w λv w'=>ae (λr=>r=g) w w'/\ao .i64 ac w' g v (dedup l l.length):=by
 refine az func239 ?_;rw[aU af.u h.ls];simp only[aQ,ak];refine⟨λbm=>⟨ae.refl _ _,?_⟩,λbo=>?_⟩
 .rw[ss (n9 _) (λi hi aC=>Ω),o9];exact h
 obtain⟨n,X⟩:∃n,l.length=n:=⟨_,rfl⟩;obtain⟨cap,rfl⟩:∃cap,sv= .slice (σ ⟨g,0,ν⟩) n cap:=by
  obtain⟨_,⟨_,h1⟩|⟨aT,cs,h1,_⟩⟩:=id h
  .omega
  .exact⟨aT,by rw[h1,X]⟩
 obtain⟨_,_,_,_,bp,aV,_⟩:=p2 h Ω;refine⟨λ_ t V=>∃j:Nat,t=Δ (j:Int)/\1<=j/\j<=n/\Ext w V/\ ∀i,i<j->0<i->l[i]? ≠l[i-1]?,λ_ t _=>n-(bS t).toNat,⟨1,rfl,Ω,Ω,Ext.refl _,λi h1 aD=>Ω⟩,?_⟩;rintro bq _ V ⟨j,rfl,br,aE,Y,am⟩;rw[aU af.u (h.ls.ext Y)];simp only[aQ,ak,cK];refine⟨λaW aa aX _ _=>?_,λbt=>⟨Y.ab _,?_⟩⟩
 .have aW:j<n:=Ω
  have ad:=Y.trans aX;have aF:=h.ls.ext ad;obtain⟨a,an⟩:=aN (l:=l) (i:=j) Ω;obtain⟨b,ap⟩:=aN (l:=l) (i:=j-1) Ω;rw[bf af.u ac.i Ψ aF an];simp only[dj];rw[wrap_i64 Ω Ω,dY (i:=j-1) Ω af.u ac.i Ψ aF ap];simp only[bn,ak,aL];refine⟨λaq=>?_,λaq=>?_⟩
  .subst aq;rw[fM af.u ac.i (l:=j) (h:=n) (m:=cap) mA h5 eJ Ω Ω Ω,if_neg Ω];have aY:U6 (λx:Addr=>x.add (j*1)) (σ ⟨g,0,ν⟩)=σ ⟨g,j,ν⟩:=by simp[T3]
   rw[aY];have aG:dedup l (j+1)=l.take j:=by rw[ve Ω (by rw[an,ap]),ss Ω am]
   refine⟨λau t av=>∃ (q J:Nat) (U:Λ),au=Δ (q:Int)/\t=Δ (J:Int)/\1<=J/\j+J<=n/\ae (λr=>r=g) w av/\ao .i64 ac av g (.slice (σ ⟨g,0,ν⟩) n cap) U/\U.length=n/\
     q=(dedup l (j+J)).length/\U.take q=dedup l (j+J)/\q<=j+J-1/\ ∀i,j+J-1<=i->U[i]? =l[i]?,λ_ t _=>n-(bS t).toNat,
    ⟨j,1,l,rfl,rfl,Ω,Ω,ad.ab _,h.ext ad,X,by rw[aG,o5];omega,by rw[aG],Ω,λi _=>rfl⟩,?_⟩
   rintro _ _ av ⟨q,J,U,rfl,rfl,bu,bw,aw,aH,aI,aJ,ag,aZ,ah⟩;rw[gP af.u];simp only[aQ,ak,cK];refine⟨λaK=>?_,λaK=>?_⟩
   .have aK:j+J<n:=Ω
    refine aR (λau ax=>∃ (q:Nat) (U:Λ),au=Δ (q:Int)/\ae (λr=>r=g) w ax/\ao .i64 ac ax g (.slice (σ ⟨g,0,ν⟩) n cap) U/\U.length=n/\
     q=(dedup l (j+(J+1))).length/\U.take q=dedup l (j+(J+1))/\q<=j+(J+1)-1/\ ∀i,j+(J+1)-1<=i->U[i]? =l[i]?) ?_ ?_
    .rintro _ ax ⟨q,U,rfl,h1,aD,a1,a2,a6,a7,a8⟩;simp only[aL];rw[wrap_i64 Ω Ω];exact⟨⟨q,J+1,U,rfl,rfl,Ω,Ω,h1,aD,a1,a2,a6,a7,a8⟩,by simp only[bS];omega⟩
    .intro bx aM bz ay _ _;have aj:=aH.ext ay;have aA:=Kz (j:=j) aj Ω;obtain⟨y,al⟩:=aN (l:=l) (i:=j+J) Ω;obtain⟨z,aB⟩:=aN (l:=l) (i:=j+J-1) Ω;have aO:(U.drop j)[J]? =σ y:=by rw[List.getElem?_drop,ah _ Ω,al]
     have ba:(U.drop j)[J-1]? =σ z:=by rw[List.getElem?_drop,ah _ Ω,<-aB];congr 1;omega
     rw[bf af.u ac.i Ψ aA aO];simp only[dj];rw[wrap_i64 Ω Ω,dY (i:=J-1) Ω af.u ac.i Ψ aA ba];simp only[bH,ak,aL];refine⟨λW=>?_,λW=>?_⟩
     .rw[bf af.u ac.i Ψ aA aO,hI rfl af.u ac.i aj Ω];refine hJ ac.i aj Ω λbA bb bB bc=>?_;rw[wrap_i64 Ω Ω];have aP:dedup l (j+J+1)=dedup l (j+J)++[y]:=vf al (λ_=>by rw[al,aB];simpa using W);refine aM _ _ ⟨q+1,_,rfl,(aw.trans (ay.ab _)).trans bb,bc,by simpa using aI,?_,?_,Ω,λi hi=>?_⟩
      .rw[<-Q0,aP];simp;omega
      .rw[<-Q0,aP,r9,U5 Ω,List.take_set_of_le (n9 _),ag];rfl
      .rw[V3 Ω];exact ah i Ω
     .have W:y=z:=X9.1 W;have aS:dedup l (j+J+1)=dedup l (j+J):=ve Ω (by rw[al,aB,W]);exact aM _ _ ⟨q,U,rfl,aw.trans (ay.ab _),aj,aI,by rw[<-Q0,aS];exact aJ,by rw[<-Q0,aS];exact ag,Ω,λi hi=>ah i Ω⟩
   .have hk:j+J=n:=Ω
    rw[hk] at aJ ag aZ;obtain⟨_,_,cs,bd,_,_,bC,be⟩:=p2 aH Ω;simp only[maxLen] at aV;rw[fM af.u ac.i (l:=q) (h:=n) (m:=cap) mA h5 eJ Ω Ω Ω,if_neg Ω];have bg:U6 (λx:Addr=>x.add (q*1)) (σ ⟨g,0,ν⟩)=σ ⟨g,q,ν⟩:=by simp[T3]
    rw[bg];refine yV af.u ac.i rfl rfl bd Ω Ω λbD bh bE bi=>?_;rw[fM af.u ac.i (l:=0) (h:=q) (m:=cap) h4 mD eJ Ω Ω Ω,if_neg Ω];have bj:U6 (λx:Addr=>x.add (0*1)) (σ ⟨g,0,ν⟩)=σ ⟨g,0,ν⟩:=by simp[T3]
    rw[bj,X];refine⟨aw.trans bh,?_⟩;rw[<-ag];refine ao.of (n:=q) ⟨Θ,.inr ⟨cap,_,Ξ,bi,Ω,by simp only[maxLen];omega,by rw[k0];omega,?_⟩⟩;rw[S2];apply W5;intro i;by_cases hi:i<q
    .rw[Y7 hi,mE _ _ _ Θ,if_neg Ω,ints,u4,Y7 hi];have:(cs.take n)[i]? =(ints .i64 U)[i]?:=by rw[be]
     rw[Y7 Ω,ints,u4] at this;exact this
    .rw[Y9 Θ,Y9 Θ]
  .rw[wrap_i64 Ω Ω];refine⟨⟨j+1,rfl,Ω,Ω,ad,λi hi aC=>?_⟩,by simp only[bS];omega⟩;by_cases bk:i=j
   .subst bk;rw[an,ap];intro he;exact aq (Z9 he)
   .exact am i Ω aC
 .have aE:j=n:=Ω
  rw[ss (n9 _) (by rw[X,<-aE];exact am),o9];exact h.ext Y
theorem KB (ag:n<=1000000):ai x3 Gf [.slice ν 0 0,Δ (n:Int)] w λv w'=>Ext w w'/\ ∃g,w.heap.size<=g/\ao .i64 ac w' g v []:=by
 refine az func271 ?_;refine dv (λV=>w=V) ?_ ?_
 .rintro _ rfl;refine aR (λv w'=>Ext w w'/\ ∃g,w.heap.size<=g/\ao .i64 ac w' g v []) (λ_ _ h=>h) λU J=>?_;rw[yU af.u,gP af.u];simp only[dj];have W:X2.wrap (((0:Nat):Int)-((0:Nat):Int))=0:=Φ
  have X:X2.wrap ((n:Int)-0)=n:=by rw[wrap_i64 Ω Ω];omega
  rw[W,X];simp only[bY,ak];refine⟨λh=>?_,λh=>J _ _ ⟨Ext.refl _,w.heap.size,n9 _,ao.nil _ _ _ _⟩⟩;rw[yU af.u,fM af.u ac.i (l:=0) (h:=0) (m:=0) h4 mD eJ Ω Ω Ω,if_pos rfl];refine G3 (k:=n) (xs:=[]) rfl af.u ac.u ac.i rfl ⟨rfl,0,0,ν,0,rfl,n9 _,X7 _,λh=>absurd h (Nat.lt_irrefl _),λj v h=>by simp at h⟩ Ω Ω Ω Ω λv g w' ah Y hm=>?_;obtain⟨_,⟨_,aj⟩|⟨cap,cs,rfl,aa,h1,ab,ad,al⟩⟩:=hm
  .omega
  rw[gP af.u,fM af.u ac.i (l:=0) (h:=0) (m:=cap) h4 mD eJ Ω Ω Ω,if_neg Ω];have ae:U6 (λx:Addr=>x.add (0*1)) (σ ⟨g,0,ν⟩)=σ ⟨g,0,ν⟩:=by simp[T3]
  rw[ae];refine J _ _ ⟨Y,g,Ω,ao.of (n:=0) ⟨Ξ,.inr ⟨cap,cs,Ξ,aa,Ω,ab,ad,Ξ⟩⟩⟩
 .intro U J;simp only[aQ,ak];exact⟨λh=>Ω,λ_=>J _ rfl⟩
theorem KC {b:Λ} (au:aH .i64 w dk a) (av:aH .i64 w bv b) (aB:a.length<=1000) (aC:b.length<=1000)
  (aD:∀v w' g,Ext w w'->w.heap.size<=g->ao .i64 ac w' g v (a++b)->K v w'):
  ay x3 (Y1 cj 2 #[(0,dk),(1,bv)]) w λt V=>ai x3 F0 [t] V K:=by
 obtain⟨⟨ag,ah,aj,aE⟩,⟨al,am,an,aF⟩⟩:(∃x n c,dk= .slice x n c)/\(∃x n c,bv= .slice x n c):=by
  obtain⟨_,_,_,x,c,h1,_⟩:=id au;obtain⟨_,_,_,y,d,aG,_⟩:=id av;exact⟨⟨x,_,c,h1⟩,⟨y,_,d,aG⟩⟩
 subst aE;subst aF;refine iX cj.u af.i Ω (cs:=#[.slice ag ah aj,.slice al am an]) Ψ λg V a2 X Y=>?_;have Y:ad V g af [.slice ag ah aj,.slice al am an]:=Y;have key:∀i:Nat,i<2-> ∃v l,[y0.slice ag ah aj,.slice al am an][i]? =σ v/\[a,b][i]? =σ l/\aH .i64 w v l/\l.length<=1000:=λi hi=>by
  match i,hi with
  |0,_=>exact⟨_,_,rfl,rfl,au,aB⟩
  |1,_=>exact⟨_,_,rfl,rfl,av,aC⟩
 refine az func240 ?_;rw[gP cj.u];refine bA.range 2 (λi size aa=>Ext V aa/\ ∃n:Nat,n<=1000*i/\size=Δ (n:Int)) Ω ⟨Ext.refl _,0,Ω,rfl⟩ ?_ ?_
 .rintro i _ aa aI hi ⟨J,n,aJ,rfl⟩ aK;simp only[aQ,ak];refine⟨λ_=>?_,λh=>Ω⟩;obtain⟨v,l,ap,aw,aq,aM⟩:=key i hi;refine aR (λv ax=>aa=ax/\v=Δ ((n+l.length:Nat):Int)) ?_ ?_
  .rintro _ _ ⟨rfl,rfl⟩;simp only[aL];exact aK _ _ ⟨J,_,Ω,rfl⟩
  .intro a6 aN;rw[fz (b:=g) (o:=0) cj.u af.i hi (λ_=>rfl),aS Ψ ((Y.ext J).cell (o:=0+i*1) (by rw[<-ap];congr 1;omega)),aU af.u (aq.ext (X.trans J))];simp only[aL,aQ,ak];rw[wrap_i64 Ω Ω];exact⟨λh=>Ω,λ_=>aN _ _ ⟨rfl,by congr 1⟩⟩
 .rintro _ aa aI ⟨J,n,aJ,rfl⟩;simp only[aQ,ak];refine⟨λh=>Ω,λ_=>?_⟩;refine (KB (n:=n) Ω).mono ?_;rintro v0 ax _ ⟨aA,aO,a7,aP⟩;have s1:=X.size;have a8:=J.size;have ba:=aA.size;have aT:=J.trans aA;rw[gP cj.u];refine bA.range 2 (λi v ab=>Ext V ab/\ ∃W,V.heap.size<=W/\ao .i64 ac ab W v (([a,b].take i).flatten)/\(([a,b].take i).flatten).length<=1000*i) Ω ⟨aT,aO,Ω,aP,Ξ⟩ ?_ ?_
  .rintro i v4 ab aV hi ⟨U,W,aW,ae,bb⟩ aX;simp only[aQ,ak];refine⟨λ_=>?_,λh=>Ω⟩;obtain⟨v,l,ap,aw,aq,aM⟩:=key i hi;rw[fz (b:=g) (o:=0) cj.u af.i hi (λ_=>rfl),aS Ψ ((Y.ext U).cell (o:=0+i*1) (by rw[<-ap];congr 1;omega))];refine h6 af.u ac.i rfl ae (aq.ext (X.trans U)) Ω Ω λbc aY bd be aZ a1=>?_;simp only[aL];have bf:=U.size;have e:([a,b].take (i+1)).flatten=([a,b].take i).flatten++l:=by rw[r9,aw];simp
   refine aX _ _ ⟨U.then a1 (by rintro r bg rfl;omega),aY,Ω,by rw[e];exact aZ,by rw[e,r8];omega⟩
  .rintro v4 ab aV ⟨U,W,aW,ae,_⟩;simp only[aQ,ak];refine⟨λh=>Ω,λ_=>aD _ _ W (X.trans U) Ω ?_⟩;have e:([a,b].take 2).flatten=a++b:=Ξ
   rw[e] at ae;exact ae
def oG (s1 J V U vars:Λ):Prop:=∀p∈vars,p∈J->p∈U->ht s1 (gW J p)=ht V (gW U p)
def dm (s1 J U V vars:Λ):Λ:=vars.map λp=>max (ht s1 (gW J p)) (ht U (gW V p))
theorem Br (s1 J U V vars:Λ):(dm s1 J U V vars).length=vars.length:=by simp[dm]
theorem sz {x:Int}:0<=gW l x↔x∈l:=by
 unfold gW;by_cases h:x∈l
 .rw[if_pos h];exact⟨λ_=>h,λ_=>Ω⟩
 .rw[if_neg h];exact⟨λh=>Ω,λJ=>absurd J h⟩
theorem KD {g a8 aJ ba:Nat} {an aK:y0} {s1 W vars U:Λ} {bb:Int} {bc bd:Λ} (h1:cV w g a8 sv s1 k bc) (aO:cV w aJ ba an W bb bd) (X:aH .i64 w aK vars) (be:aH .i64 w dk J) (ap:aH .i64 w bv U) (bg:gF J) (bh:gF U) (bI:vars.length<=1000):
  ai x3 F1 [aK,Γ g,dk,Γ aJ,bv] w λv w'=>Ext w w'/\
   (¬oG s1 J W U vars->v= .tuple #[.slice ν 0 0,.bool false])/\
   (oG s1 J W U vars-> ∃x am,v= .tuple #[x,.bool true]/\w.heap.size<=am/\ao .i64 ac w' am x (dm s1 J W U vars)):=by
 have sub:∀ {w:x2} {g:Nat} {sv:y0} {k:Int} {aI:y0},ad w g cT [sv,Δ k,aI]->w.rangeAt g (0+0) [sv]:=λap=>mM ap (by
  intro j v X
  match j,X with
  |0,X=>exact X)
 refine az func241 ?_;rw[aU af.u X];refine jx af.u ac.i Ω Ω λgz V bJ aP bi=>?_;have bj:ao .i64 ac V gz (.slice (σ ⟨gz,0,ν⟩) vars.length vars.length) (o8 vars.length 0):=ao.of (n:=vars.length) (b1.full bi Ξ (by simp[maxLen];omega));generalize (y0.slice (σ ⟨gz,0,ν⟩) vars.length vars.length)=bk at*;rw[aU af.u (X.ext aP)];have aq:=Br s1 J W U vars;refine lF.range vars.length (λi _ _ aa=>Ext w aa/\ao .i64 ac aa gz bk (upto (dm s1 J W U vars) 0 i)/\ ∀ (j:Nat) (p:Int),j<i->vars[j]? =σ p->p∈J->p∈U->ht s1 (gW J p)=ht W (gW U p)) Ω
  ⟨aP,by rw[oj,aq];exact bj,λj p ah=>Ω⟩ ?_ ?_
 .rintro i _ _ aa bl hi ⟨Y,hm,au⟩ bm;simp only[aQ,ak];refine⟨λ_=>?_,λh=>Ω⟩;obtain⟨p,ab⟩:=aN (l:=vars) hi;rw[bf af.u ac.i Ψ (X.ext Y) ab];refine (vg (be.ext Y) bg).mono ?_;rintro _ bK _ ⟨rfl,av⟩;refine (vg (ap.ext (Y.trans av)) bh).mono ?_;rintro _ bn _ ⟨rfl,aS⟩;have aT:=(Y.trans av).trans aS;refine aR (λv aV=>Ext bn aV/\ ∃c,v= .bool c/\(c=true↔p∈J/\p∈U/\ht s1 (gW J p)≠ht W (gW U p))) ?_ ?_
  .rintro _ aV ⟨aW,c,rfl,aX⟩;have aY:=aT.trans aW;rw[bt];refine⟨λbo=>⟨aY,λ_=>by first|rfl|trivial,λah=>?_⟩,λbp=>?_⟩
   .obtain⟨ae,ag,bq⟩:=aX.1 bo;exact absurd (ah p (x5 ab) ae ag) bq
   .simp only[cK];intro bL aZ _ _;have aw:=aY.trans aZ;obtain⟨⟨aI,gs,ax,ay,_⟩,_⟩:=h1.ext aw;obtain⟨⟨bw,bz,aA,aB,_⟩,_⟩:=aO.ext aw;rw[bu,aM cT.p rfl,br (cs:=[sv]) bx.p bx.i rfl (sub ax),bu,aM cT.p rfl,br (cs:=[an]) bx.p bx.i rfl (sub aA)];refine (pJ ay.ls).mono ?_;rintro _ bM _ ⟨rfl,aj⟩;refine⟨.inl aj,?_⟩;refine (pJ (aB.ls.ext aj)).mono ?_;rintro _ bN _ ⟨rfl,a1⟩;have bA:=(aw.trans aj).trans a1;have a2:=hm.ext ((((av.trans aS).trans aW).trans aZ).trans (aj.trans a1));have bO:(upto (dm s1 J W U vars) 0 i).length=vars.length:=by rw[pC,aq]
    rw[ru,hI rfl af.u ac.i a2 Ω];refine hJ ac.i a2 Ω λbP bB _ a6=>?_;simp only[aL];have bC:(dm s1 J W U vars)[i]? =σ (max (ht s1 (gW J p)) (ht W (gW U p))):=by
     unfold dm;rw[u4,ab];rfl
    rw[om bC] at a6;refine bm _ _ _ ⟨bA.then bB (by rintro r bQ rfl;omega),a6,λj bD ah aC ae ag=>?_⟩;by_cases bE:j=i
    .subst bE;rw[ab] at aC;cases aC;refine Decidable.byContradiction λbF=>?_;have:=aX.2 ⟨ae,ag,bF⟩;rw[bp] at this;cases this
    .exact au j bD Ω aC ae ag
  .intro bR aD;simp only[cK,cr,ak];intro bS al _ _;refine⟨λaE=>⟨λaF=>?_,λaF=>⟨.inl (Ext.refl _),aD _ _ ⟨al,false,rfl,⟨(λh=>by cases h),λh=>absurd (sz.2 h.2.1) aF⟩⟩⟩⟩,λaE=>⟨.inl (Ext.refl _),aD _ _ ⟨al,false,rfl,⟨(λh=>by cases h),λh=>absurd (sz.2 h.1) aE⟩⟩⟩⟩;have a7:=aT.trans al;obtain⟨⟨aI,gs,ax,ay,_⟩,_⟩:=h1.ext a7;obtain⟨⟨bw,bz,aA,aB,_⟩,_⟩:=aO.ext a7;rw[bu,aM cT.p rfl,br (cs:=[sv]) bx.p bx.i rfl (sub ax),bu,aM cT.p rfl,br (cs:=[an]) bx.p bx.i rfl (sub aA)];refine (pJ ay.ls).mono ?_;rintro _ bT _ ⟨rfl,aG⟩;refine⟨.inl aG,?_⟩;refine (pJ (aB.ls.ext aG)).mono ?_;rintro _ bU _ ⟨rfl,bG⟩;simp only[bH];refine aD _ _ ⟨(al.trans aG).trans bG,_,rfl,?_⟩;rw[decide_eq_true_iff];exact⟨λh=>⟨sz.1 aE,sz.1 aF,h⟩,λh=>h.2.2⟩
 .rintro _ _ aa bl ⟨Y,hm,au⟩;simp only[aQ,ak];refine⟨λh=>Ω,λ_=>?_⟩;have ah:oG s1 J W U vars:=λp ab ae ag=>by
   obtain⟨i,hi,he⟩:=List.getElem_of_mem ab;exact au i p hi (by rw[x6 hi,he]) ae ag
  rw[<-aq,ol] at hm;exact⟨Y,λh=>absurd ah h,λ_=>⟨_,gz,rfl,Ω,hm⟩⟩
def vj (J U vars:Λ):Prop:=gF vars/\ ∀x,x∈vars↔x∈J\/x∈U
def nf (s1 W J U X V vars:Λ) (k:Int):Λ:=
 (V0 (aJ (dm s1 J U V vars)).toNat).map λ(q:Nat)=>min (ch s1 W (eV (cF (dm s1 J U V vars) q) vars J)+ch U X (eV (cF (dm s1 J U V vars) q) vars V)) k
theorem Bs (s1 W J U X V vars:Λ) (k:Int):(nf s1 W J U X V vars k).length=(aJ (dm s1 J U V vars)).toNat:=by simp[nf]
theorem Bt {s cs:Λ} (hk:right k) (h:∀x∈cs,c5 x k):c5 (ch s cs t) k:=by
 have J:c5 0 k:=⟨hk,Int.le_refl _,by have:=hk.1;omega⟩;unfold ch;split
 .rename_i n _;rw[u9];cases U:cs[n.toNat]? with
  |none=>exact J
  |some x=>exact h x (x5 U)
 .exact J
def Fits (s l:Λ):Prop:=l.length=s.length/\p0 l
def p3 (e:Int):y0:=.tuple #[.pointer ν,.slice ν 0 0,Δ e]
def Bu (w:x2) (s1 aa J V ab U:Λ) (k W:Int) (v:y0) (w':x2):Prop:=
 Ext w w'/\(¬(Fits s1 J/\Fits V U)->v=p3 1)/\
  (Fits s1 J/\Fits V U-> ∃vars,vj J U vars/\(¬oG s1 J V U vars->v=p3 1)/\(oG s1 J V U vars->(k≠W->v=p3 3)/\
   (k=W->¬bZ (dm s1 J V U vars)->v=p3 1)/\(k=W->bZ (dm s1 J V U vars)->4096<aJ (dm s1 J V U vars)->v=p3 5)/\
   (k=W->bZ (dm s1 J V U vars)->aJ (dm s1 J V U vars)<=4096-> ∃X ac ad Y,v= .tuple #[Γ X,Y,Δ 0]/\
    cV w' X ac ad (dm s1 J V U vars) k (nf s1 aa J V ab U vars k)/\aH .i64 w' Y vars)))
theorem KE {g b4 aZ b5:Nat} {b6:y0} {s1 X U W:Λ} {bk:Int} {al ap:Λ} (h1:cV w g b4 sv s1 k al) (aX:cV w aZ b5 b6 X bk ap) (aY:aH .i64 w dk U) (aB:aH .i64 w bv W)
  (hk:right k) (cP:∀x∈al,c5 x k) (cQ:∀x∈ap,c5 x bk):
  ai x3 Fx [Γ g,dk,Γ aZ,bv] w (Bu w s1 al U X ap W k bk):=by
 have cS:=aY.cells;have cU:=aB.cells;have cW:=h1.2.2.1;have cX:=aX.2.2.1;have sub:∀ {w:x2} {g:Nat} {sv:y0} {k:Int} {aI:y0},ad w g cT [sv,Δ k,aI]->w.rangeAt g (0+0) [sv]:=λaB=>mM aB (by
  intro j v bG
  match j,bG with
  |0,bG=>exact bG)
 refine mw func177 ?_;refine bP λg1 V eg b7 aq=>?_;refine bP λb8 aa eh bI av=>?_;refine bP λb9 ei ej bl ax=>?_;refine bP λca aL ek a1 ay=>?_;have em:=aq.lt;have en:=av.lt;have eo:=ax.lt;have ep:=ay.lt;have er:=b7.size;have es:=bI.size;have et:=bl.size;have eu:=a1.size;have aN:=((b7.trans bI).trans bl).trans a1;have aq:ad aL g1 eB [Γ g]:=((aq.ext bI).ext bl).ext a1;have av:ad aL b8 af [dk]:=by rw[cS.1] at av;exact (av.ext bl).ext a1
 have ax:ad aL b9 eB [Γ aZ]:=ax.ext a1;have ay:ad aL ca af [bv]:=by rw[cU.1] at ay;exact ay
 refine aR (λv cb=>v= .bool false/\aL=cb) ?_ ?_
 rotate_left
 .intro cY bm;rw[aS Ψ (aq.Qz rfl),cR eB.u];simp only[Z7,aT];rw[aS Ψ (ax.Qz rfl),cR eB.u];exact bm _ _ ⟨rfl,rfl⟩
 rintro _ _ ⟨rfl,rfl⟩;simp only[aT];refine aR (λv bJ=>Ext aL bJ/\ ∃c,v= .bool c/\(c=true↔¬(Fits s1 U/\Fits X W))) ?_ ?_
 rotate_left
 .intro cY bm;rw[aS Ψ (aq.Qz rfl),aS Ψ (av.Qz rfl)];refine (Bh (h1.ext aN) (aY.ext aN)).mono ?_;rintro _ cb _ ⟨aO,c,rfl,a2⟩;simp only[bg,bt];refine⟨λbn=>bm _ _ ⟨aO,true,rfl,λ_ h=>?_,λ_=>rfl⟩,λcc=>?_⟩
  .have:=a2.2 h.1;rw[this] at bn;cases bn
  .have cZ:c=true:=by cases c<;>simp_all
   rw[aS Ψ ((ax.ext aO).Qz rfl),aS Ψ ((ay.ext aO).Qz rfl)];refine (Bh ((aX.ext aN).ext aO) ((aB.ext aN).ext aO)).mono ?_;rintro _ ev _ ⟨c1,d,rfl,cd⟩;simp only[bg];refine bm _ _ ⟨aO.trans c1,_,rfl,λh aw=>?_,λh=>?_⟩
   .have:=cd.2 aw.2;rw[this] at h;cases h
   .cases d with
    |false=>rfl
    |true=>exact absurd ⟨a2.1 cZ,cd.1 rfl⟩ h
 rintro _ bJ ⟨a6,c,rfl,a2⟩;have bK:=aN.trans a6;rw[bt];refine⟨λbn ew c2 _=>⟨bK.trans c2,λ_=>rfl,λh=>absurd h (a2.1 bn)⟩,λcc=>?_⟩;have a7:Fits s1 U/\Fits X W:=Classical.byContradiction λh=>by
  have:=a2.2 h;rw[cc] at this;cases this
 obtain⟨⟨ey,c3⟩,ez,c4⟩:=id a7;have eA:=cW.1;have eC:=cX.1;rw[aS Ψ ((av.ext a6).Qz rfl),aS Ψ ((ay.ext a6).Qz rfl)];refine KC (aY.ext bK) (aB.ext bK) Ω Ω λeD eE eF ce eH c6=>?_;refine vd c6.ls (by rw[r8];omega) λeI eJ eK m cg eL ci c7 c8=>?_;have c9:=ci.length_eq;rw[r8] at c9;refine (KA c8 Ω).mono ?_;rintro bo cj _ ⟨da,bN⟩;have eM:=a6.size;have eN:=ce.size;have eO:=cg.size;have ck:Ext bJ cj:=(ce.trans cg).then da (by rintro r bq rfl;omega);obtain⟨db,dc⟩:=Bg c7 (j:=m.length) (n9 _);have eP:=Bf m m.length;have az:vj U W (dedup m m.length):=⟨db,λx=>by rw[dc,o9,ci.mem_iff,l5]⟩;generalize dedup m m.length=vars at*;refine bp af.i λcl eQ eR cm dd=>?_;refine bj af.i bN.ls.cells.1 bN.ls.cells.2 dd (by simp[y0.cells]) λcn de eS a8=>?_;have eU:=ck.size;have eW:=cm.size;have bO:Ext cj cn:=cm.then de (by rintro r bq rfl;omega);have aP:=(a6.trans ck).trans bO;have ba:=aN.trans aP;have eX:=a8.lt;have cp:=bN.ls.ext bO;have a8:ad cn cl af [bo]:=a8;rw[aS Ψ (a8.Qz rfl),aS Ψ ((aq.ext aP).Qz rfl),aS Ψ ((av.ext aP).Qz rfl),aS Ψ ((ax.ext aP).Qz rfl),aS Ψ ((ay.ext aP).Qz rfl)];refine (KD (h1.ext ba) (aX.ext ba) cp (aY.ext ba) (aB.ext ba) c3.up c4.up Ω).mono ?_;rintro eY eZ _ ⟨bb,df,dg⟩;have cq:=ba.trans bb;by_cases aQ:oG s1 U X W vars
 rotate_left
 .rw[df aQ,bL,bM];simp only[bg,W6,bX];intro e0 dh _;exact⟨cq.trans dh,λh=>absurd a7 h,λ_=>⟨vars,az,λ_=>rfl,λh=>absurd h aQ⟩⟩
 obtain⟨xs,am,rfl,e1,di⟩:=dg aQ;rw[bL,bM];simp only[bg,Y6,aT];intro aC aU _ _;have bw:=(aP.trans bb).trans aU;have aV:=cq.trans aU;have aq:=aq.ext bw;have av:=av.ext bw;have ax:=ax.ext bw;have ay:=ay.ext bw;have dj:=(a8.ext bb).ext aU;obtain⟨⟨aI,gs,cr,e2,_⟩,_⟩:=h1.ext aV;obtain⟨⟨e3,e4,dl,e5,_⟩,_⟩:=aX.ext aV;rw[aS Ψ (aq.Qz rfl),aK cT.p 1 cr rfl,aS Ψ (ax.Qz rfl),aK cT.p 1 dl rfl];simp only[bH,ak];refine⟨λaD e6 dn _=>⟨aV.trans dn,λh=>absurd a7 h,λ_=>⟨vars,az,λh=>absurd aQ h,λ_=>⟨λ_=>rfl,λh=>absurd h aD,λh=>absurd h aD,λh=>absurd h aD⟩⟩⟩,λaD=>?_⟩;have aD:k=bk:=X9.1 aD;subst aD;rw[aS Ψ (aq.Qz rfl),aK cT.p 1 cr rfl];have dp:=di.ext aU;refine (rz dp.ls).mono ?_;rintro aF bc _ ⟨ct,dq,dr,_,ds⟩;have e7:=bO.size;have e8:=bb.size;have e9:=aU.size;have fa:=ct.size;obtain⟨bd,e,rfl,fb,bz⟩:∃ (bd:Option Addr) (e:Int),aF= .tuple #[.pointer bd,Δ e]/\(e=0->bd≠ν)/\((e=1/\¬bZ (dm s1 U X W vars))\/(e=5/\bZ (dm s1 U X W vars)/\4096<aJ (dm s1 U X W vars))\/(e=0/\bZ (dm s1 U X W vars)/\aJ (dm s1 U X W vars)<=4096/\
   ∃ag Y ah,bd=σ ⟨ag,0,ν⟩/\aC.heap.size<=ag/\aC.heap.size<=Y/\(∀r,leads ah r->aC.heap.size<=r)/\cV bc ag Y ah (dm s1 U X W vars) k (o8 (aJ (dm s1 U X W vars)).toNat 0))):=by
  by_cases J:bZ (dm s1 U X W vars)
  .by_cases aA:aJ (dm s1 U X W vars)<=4096
   .obtain⟨ag,Y,ah,dt,du,dv,dw,dx⟩:=ds J aA ⟨hk,Ω,by have:=hk.1;omega⟩;exact⟨_,_,dt,(λ_ h=>by cases h),.inr (.inr ⟨rfl,J,aA,ag,Y,ah,rfl,du,dv,dw,dx⟩)⟩
   .exact⟨_,_,dr J Ω,(λh=>Ω),.inr (.inl ⟨rfl,J,Ω⟩)⟩
  .exact⟨_,_,dq J,(λh=>Ω),.inl ⟨rfl,J⟩⟩
 rw[bL,bM];refine bp eB.i λcu fc fd cw bf=>?_;refine bj eB.i rfl rfl bf (by simp[y0.cells]) λdy dz fe bf=>?_;have ff:=cw.size;have bQ:Ext bc dy:=cw.then dz (by rintro r bq rfl;omega);have cz:=ct.trans bQ;have dA:=aV.trans cz;have fg:=bf.lt;simp only[bH,ak];refine⟨λdC fh dD _=>⟨dA.trans dD,λh=>absurd a7 h,λ_=>⟨vars,az,λh=>absurd aQ h,λ_=>⟨λh=>absurd rfl h,λ_ J=>?_,λ_ J aA=>?_,λ_ J aA=>?_⟩⟩⟩,λfi=>?_⟩
 .rcases bz with⟨rfl,_⟩|⟨_,h,_⟩|⟨_,h,_⟩
  .rfl
  .exact absurd h J
  .exact absurd h J
 .rcases bz with⟨_,h⟩|⟨rfl,_⟩|⟨_,_,h,_⟩
  .exact absurd J h
  .rfl
  .omega
 .rcases bz with⟨_,h⟩|⟨_,_,h⟩|⟨h,_⟩
  .exact absurd J h
  .omega
  .exact absurd h dC
 obtain⟨bA,dE,ag,Y,ah,rfl,fj,fk,fm,bB⟩:bZ (dm s1 U X W vars)/\aJ (dm s1 U X W vars)<=4096/\
   ∃ag Y ah,bd=σ ⟨ag,0,ν⟩/\aC.heap.size<=ag/\aC.heap.size<=Y/\(∀r,leads ah r->aC.heap.size<=r)/\cV bc ag Y ah (dm s1 U X W vars) k (o8 (aJ (dm s1 U X W vars)).toNat 0):=by
  rcases bz with⟨h,_⟩|⟨h,_⟩|⟨_,h⟩
  .omega
  .omega
  .exact h
 obtain rfl:e=0:=Ω
 have dF:(dm s1 U X W vars).length=vars.length:=Br _ _ _ _ _;have fo:=prod_bound bA;obtain⟨N,bC⟩:∃N:Nat,(aJ (dm s1 U X W vars)).toNat=N:=⟨_,rfl⟩;rw[bC] at bB;have fp:0<N:=Ω
 have dG:=bB.ext bQ;obtain⟨⟨bR,cA,cB,cC,dH⟩,⟨cD,cE,_⟩,_,fq⟩:=id dG;have fs:ag<bc.heap.size:=by obtain⟨⟨_,_,q,_⟩,_⟩:=id bB;exact q.lt
 have ft:Y<bc.heap.size:=by obtain⟨⟨_,_,_,_,q⟩,_⟩:=id bB;exact oF q Θ
 rw[aS Ψ (bf.Qz rfl),bu,aM cT.p rfl,br (cs:=[ah]) bx.p bx.i rfl (sub cB)];refine rY.mono ?_;rintro _ bh _ ⟨aE,bD,rfl,fu,cG⟩;have fv:=bQ.size;have fw:=aE.size;let S:Nat->Prop:=λr=>r=Y;let aW:=nf s1 al U X ap W vars k;have bS:aW.length=N:=by simp only[aW];rw[Bs,bC]
 have dI:=(cp.ext bb).ext aU;let dJ:x2->Prop:=λw'=>ad w' g1 eB [Γ g]/\ad w' b8 af [dk]/\ad w' b9 eB [Γ aZ]/\ad w' ca af [bv]/\ad w' cl af [bo]/\aH .i64 w' bo vars/\
  ad w' cu eB [Γ ag]/\ad w' ag cT [ah,Δ k,bR]/\cV w' g b4 sv s1 k al/\cV w' aZ b5 b6 X k ap/\aH .i64 w' dk U/\aH .i64 w' bv W/\ao .i64 ac w' cA ah (dm s1 U X W vars)/\ad w' bD bx [ah]/\bh.heap.size<=w'.heap.size
 have cH:=cz.trans aE;have facts:∀ {a:x2},ae S bh a->dJ a:=by
  intro a aj;have aG:Ext aC a:=cH.put aj Ω;have bE:=aV.trans aG;exact⟨aq.ext aG,av.ext aG,ax.ext aG,ay.ext aG,dj.ext aG,dI.ext aG,(bf.ext aE).ab aj (by show ¬(cu=Y);omega),(cB.ext aE).ab aj (by show ¬(ag=Y);exact cD),h1.ext bE,aX.ext bE,aY.ext bE,aB.ext bE,
   be (cC.ext aE) aj (λr bq he=>cE ((show r=Y from he)▸bq)),cG.ab aj (by show ¬(bD=Y);omega),aj.size⟩
 have cI:=rX (g:=bD) (B0:=bh.heap.size) (sv:=ah) bA;rw[bC] at cI;refine lG.old ⟨Nat,false,j7,#[Γ bD],0,_,_,_,λq w'=>ae S bh w'/\ao .i64 an w' Y bR (upto aW 0 q),λ_ _ _=>False,rfl,cI.s,
  ?_,λ_ _ aj h=>⟨h.1.ext aj,h.2.1.ext aj,X8 h.2.2 aj.size⟩,λ_ _ _ aj h=>⟨h.1.trans (aj.ab S),h.2.ext aj⟩,λ_ _ _ _ _ h=>h,⟨cG,(cC.ext aE).ls,n9 _⟩,⟨ae.refl _ _,?_⟩,?_,?_,λ_ _ h=>h.elim,λ_ _ _ h=>h.elim⟩
 .rintro _ _ _ _ ⟨_,_,_,_,rfl,_⟩;rfl
 .rw[oj,bS];exact dH.ext aE
 .rintro _ aF q _ fx ⟨_,_,fy⟩ ⟨bT,rfl,fz,fA,dK,fB,cJ⟩ ⟨bF,dL⟩;cases dK;let x:=cF (dm s1 U X W vars) (q:Int);have cK:x.length=vars.length:=by simp only[x];rw[iC,dF]
  intro fC dM _ _;intro fD dN _ _;have bU:=dM.trans dN;obtain⟨f1,f2,f3,f4,f5,f6,f7,f8,f9,f10,f11,f12,f13,f14,f15⟩:=facts (bF.trans (bU.ab S));rw[aS Ψ (f1.Qz rfl),aS Ψ (f5.Qz rfl),aS Ψ (f2.Qz rfl)];refine (Bj (cJ.ls.ext bU) f6 f11 az.1 (λp aA=>(az.2 p).2 (.inl aA)) cK Ω).mono ?_;rintro fE fF _ ⟨bV,fG,fH,dO⟩;refine⟨.inl bV,?_⟩;refine (uk (f9.ext bV) dO.ls).mono ?_;rintro _ fI _ ⟨rfl,dP⟩;obtain⟨dQ,dR⟩:=vb s1 (eV x vars U) al;have dS:n2 s1 (eV (cF (dm s1 U X W vars) (q:Int)) vars U) al= .tuple #[Δ (ch s1 al (eV x vars U)),Δ dQ]:=dR;rw[dS,bL,bM];intro fJ dT _ _;have bW:=((bU.trans bV).trans dP).trans dT;obtain⟨f1,f2,f3,f4,f5,f6,f7,f8,f9,f10,f11,f12,f13,f14,f15⟩:=facts (bF.trans (bW.ab S));rw[aS Ψ (f3.Qz rfl),aS Ψ (f5.Qz rfl),aS Ψ (f4.Qz rfl)];refine (Bj (cJ.ls.ext bW) f6 f12 az.1 (λp aA=>(az.2 p).2 (.inr aA)) cK Ω).mono ?_;rintro fK fL _ ⟨bY,fM,fN,dU⟩;refine⟨.inl bY,?_⟩;refine (uk (f10.ext bY) dU.ls).mono ?_;rintro _ fO _ ⟨rfl,dV⟩;obtain⟨dW,dX⟩:=vb X (eV x vars W) ap;have dY:n2 X (eV (cF (dm s1 U X W vars) (q:Int)) vars W) ap= .tuple #[Δ (ch X ap (eV x vars W)),Δ dW]:=dX;rw[dY,bL,bM];intro fP dZ _ _;have b0:=((bW.trans bY).trans dV).trans dZ;obtain⟨f1,f2,f3,f4,f5,f6,f7,f8,f9,f10,f11,f12,f13,f14,f15⟩:=facts (bF.trans (b0.ab S));rw[aS Ψ (f7.Qz rfl),aK cT.p 2 f8 rfl,aS Ψ (f7.Qz rfl),aK cT.p 1 f8 rfl];refine zX.mono ?_;rintro _ fQ _ ⟨rfl,b1⟩;refine⟨.inl b1,?_⟩;have ea:pI (ch s1 al (eV x vars U)) (ch X ap (eV x vars W)) k= .tuple #[Δ (min (ch s1 al (eV x vars U)+ch X ap (eV x vars W)) k),Δ 0]:=if_pos ⟨Bt hk cP,Bt hk cQ⟩;rw[ea,h3 (v:=Δ (min (ch s1 al (eV x vars U)+ch X ap (eV x vars W)) k)) rfl,h3 (v:=Δ 0) rfl];have cL:=dL.ext (b0.trans b1);have fR:(upto aW 0 q).length=N:=by rw[pC,bS]
  rw[hI rfl au.u an.i cL Ω];refine hJ an.i cL Ω λec ed fS cM=>?_;have cN:ae S bh ec:=(bF.trans ((b0.trans b1).ab S)).trans (ed.mono λr _ h=>h);obtain⟨f1,f2,f3,f4,f5,f6,f7,f8,f9,f10,f11,f12,f13,f14,f15⟩:=facts cN;have ee:aW[q]? =σ (min (ch s1 al (eV x vars U)+ch X ap (eV x vars W)) k):=by
   simp only[aW,nf];rw[u4,List.getElem?_range (by rw[bC];exact bT)];rfl
  rw[om ee] at cM;exact⟨⟨f14,f13.ls,f15⟩,⟨cN,cM⟩,λh=>by cases h⟩
 .rintro q fU bT ⟨cO,b2⟩;rw[show q=N from bT] at b2;intro fV b3 _ _;obtain⟨f1,f2,f3,f4,f5,f6,f7,f8,f9,f10,f11,f12,f13,f14,f15⟩:=facts (cO.trans (b3.ab S));rw[aS Ψ (f7.Qz rfl),aS Ψ (f5.Qz rfl)];intro fW bi _;rw[<-bS,ol] at b2;have ef:=aV.trans cH;refine⟨((ef.put cO Ω).trans b3).trans bi,λh=>absurd a7 h,λ_=>⟨vars,az,λh=>absurd aQ h,λ_=>⟨λh=>absurd rfl h,λ_ h=>absurd bA h,λ_ _ h=>Ω,λ_ _ _=>⟨ag,Y,ah,bo,rfl,⟨⟨bR,cA,f8.ext bi,f13.ext bi,(b2.ext b3).ext bi⟩,⟨cD,cE,dE⟩,bA,Bs _ _ _ _ _ _ _ _⟩,f6.ext bi⟩⟩⟩⟩
theorem gF.pair (h:gF l):l.Pairwise (·< ·):=U3.2 λi j hi J U=>h i j _ _ U (x6 hi) (x6 J)
theorem KF {m:Λ} (J:gF l) (hm:gF m) (h:∀x,x∈l↔x∈m):l=m:=by
 have U:l.Nodup:=J.pair.imp λh=>Ω
 have V:m.Nodup:=hm.pair.imp λh=>Ω
 exact List.Perm.eq_of_pairwise (le:=(·<= ·)) (λa b _ _ h1 W=>Int.le_antisymm h1 W) (J.pair.imp λh=>Int.le_of_lt h) (hm.pair.imp λh=>Int.le_of_lt h) ((List.perm_ext_iff_of_nodup U V).2 h)
theorem KG {vars:Λ} (h:vj l l vars) (hu:gF l):vars=l:=KF h.1 hu λx=>by rw[h.2];simp
theorem Bv (h:l.Pairwise (·< ·)):gF l:=λi j x y U V W=>by
 have h1:=x4.1 V;have J:=x4.1 W;have:=U3.1 h i j h1.1 J.1 U;rw[h1.2,J.2] at this;exact this
theorem KH {x:Λ} (hu:l.Nodup) (h:x.length=l.length):eV x l l=x:=by
 refine W5 λi=>?_;unfold eV;cases J:l[i]? with
 |none=>rw[u4,J,Y9 (by have:=List.getElem?_eq_none_iff.1 J;omega)];rfl
 |some v=>
  have hi:=(x4.1 J).1;rw[u4,J,Y4,pY hu J,u9,x6 (show i<x.length by omega)];rfl
theorem Bw {s:Λ} (hu:gF l) (h:s.length=l.length):dm s l s l l=s:=by
 refine W5 λi=>?_;unfold dm;cases J:l[i]? with
 |none=>rw[u4,J,Y9 (by have:=List.getElem?_eq_none_iff.1 J;omega)];rfl
 |some v=>
  have hi:=(x4.1 J).1;rw[u4,J,Y4,Bi hu J,Int.max_self,x6 (show i<s.length by omega)];unfold ht;rw[if_pos Ω,u9,j0,x6 (show i<s.length by omega)];rfl
theorem KI {s b:Λ} (hu:l.Pairwise (·< ·)) (h:s.length=l.length) (J:dW s) (U:a.length=(aJ s).toNat) (V:b.length=(aJ s).toNat):nf s a l s b l l k=dQ k a b:=by
 have W:l.Nodup:=hu.imp λh=>Ω
 unfold nf;rw[Bw (Bv hu) h,Jw J U V];apply List.map_congr_left;intro q _;rw[KH W (by rw[iC,h])]
theorem KJ {s b:Λ} (hu:l.Pairwise (·< ·)) (ad:∀x∈l,0<=x) (h:s.length=l.length) (J:bZ s) (ae:aJ s<=4096) (af:a.length=(aJ s).toNat) (ag:b.length=(aJ s).toNat) (V:Bu w s a l s b l k k v w'):
  Ext w w'/\ ∃U W X Y,v= .tuple #[Γ U,Y,Δ 0]/\cV w' U W X s k (dQ k a b):=by
 obtain⟨ah,_,V⟩:=V;have aa:=Bv hu;have ab:Fits s l:=⟨h.symm,J9 aa ad⟩;obtain⟨vars,ai,_,aj⟩:=V ⟨ab,ab⟩;have ak:=KG ai aa;subst ak;obtain⟨_,_,_,ac⟩:=aj λp am an ao=>rfl;rw[Bw aa h,KI hu h J.2 af ag] at ac;obtain⟨U,W,X,Y,rfl,al,_⟩:=ac rfl J ae;exact⟨ah,U,W,X,Y,rfl,al⟩
theorem KK {s:Λ} (J:dW s):(bh s).Nodup:=(A7 J).imp λ{a b} h he=>by subst he;omega
theorem KL {s:Λ} {i:Nat} (J:dW s) (hi:(bh s)[i]? =σ t) (U:(bh s)[j]? =σ t):i=j:=jF (KK J) hi U
theorem KM {s:Λ} (J:dW s) (h:dg s t):∃j:Nat,(bh s)[j]? =σ t:=X4.1 ((A6 J).2 h)
theorem sA {g:Nat} {d:List (y0×y0)} (h:ad w g e cs) (hm:c6 w m d) (J:ae (λr=>r=m) w w'):ad w' g e cs:=h.ab J (λhe=>sk h hm he)
theorem Bx {g:Nat} {k:o6} {d:List (y0×y0)} (h:ao k e w g v l) (hm:c6 w m d) (J:ae (λr=>r=m) w w'):ao k e w' g v l:=be h J (λ_ U he=>Ba h hm U he)
def sB (cs:Λ) (o:Int):Prop:=o∈cs/\ ∀d∈cs,cs.count d<cs.count o\/(cs.count d=cs.count o/\o<=d)
theorem KN {i:Nat} {x:Int} (h:l[i]? =σ x) (y:Int):(l.take (i+1)).count y=(l.take i).count y+if y=x then 1 else 0:=by
 rw[r9,h,List.count_append];congr 1;simp only[j6,List.count_singleton];by_cases J:y=x
 .subst J;simp
 .rw[if_neg J,if_neg (by simpa using λh=>J h.symm)]
def gi (p:Int×Int):y0×y0:=(Δ p.1,Δ p.2)
theorem p4:Keys x3 an λv=>∃n,v=Δ n:=Keys.int an.u
theorem p5 (E:List (Int×Int)):∀p∈E.map gi,∃n,p.1=Δ n:=λp J=>by
 obtain⟨q,_,rfl⟩:=Z6.1 J;exact⟨_,rfl⟩
def vk (cs:Λ) (E:List (Int×Int)):Prop:=(∀x,x∈E.map (·.1)↔x∈cs)/\ ∀p∈E,p.2=(cs.count p.1:Nat)
theorem By {cs:Λ} {E:List (Int×Int)} (h:vk cs E) {x:Int} (U:x∈cs):∃j:Nat,E[j]? =σ (x,((cs.count x:Nat):Int)):=by
 obtain⟨p,J,rfl⟩:=Z6.1 ((h.1 x).2 U);obtain⟨j,V⟩:=X4.1 J;exact⟨j,by rw[V,<-h.2 p J]⟩
theorem Bz {aX:y0} {cs:Λ} (h:aH .i64 w aX cs) (aY:cs≠[]) (bE:cs.length<=1000000):ai x3 rm [aX] w λv w'=>Ext w w'/\ ∃o,v=Δ o/\sB cs o:=by
 refine az func246 ?_;refine ay.dc (r0 λm V hm aB be bF=>?_);rw[aU au.u (h.ext aB)];refine b0.range cs.length (λi aa=>ae (λr=>r=m) V aa/\ ∃E,c6 aa m (E.map gi)/\vk (cs.take i) E) Ω ⟨ae.refl _ _,[],be,by simp[vk]⟩ ?_ ?_
 .rintro i aa bg hi ⟨ag,E,ab,W⟩ aZ;obtain⟨x,aC⟩:=aN (l:=cs) hi;have ah:Ext w aa:=aB.put ag Ω;have bh:∀y,(cs.take i).count y<=1000000:=λy=>by
   have:=List.count_le_length (a:=y) (l:=cs.take i);rw[o5] at this;omega
  refine bk Ω ?_;rw[bf au.u an.i Ψ (h.ext ah) aC];have aq:=KN aC;have a1:∀y,y∈cs.take (i+1)↔y∈cs.take i\/y=x:=λy=>by
   rw[r9,aC];simp
  by_cases aj:x∈cs.take i
  .obtain⟨j,aD⟩:=By W aj;have av:(E.map gi)[j]? =σ (Δ x,Δ (((cs.take i).count x:Nat):Int)):=by rw[u4,aD];rfl
   rw[pK kV.u p4 ab (p5 E) ⟨_,rfl⟩ av];simp only[Bool.false_eq_true,if_false];have:=bh x;rw[aL,wrap_i64 Ω Ω];refine ay.dc (pL kV.u p4 ab (p5 E) ⟨_,rfl⟩ (λal v0 aE aF am aG bi=>?_) (λaE aw=>absurd rfl (aw _ (x5 av))));have bj:al=j:=ab.uniq aF av rfl;subst bj;rw[aL];have aI:(E.map gi).set al (Δ x,Δ ((((cs.take i).count x:Nat):Int)+1))=(E.set al (x,(((cs.take i).count x:Nat):Int)+1)).map gi:=by rw[T8];rfl
   rw[aI] at am;have bl:=(x4.1 aD).1;refine aZ _ ⟨ag.trans aG,_,am,λy=>?_,λp J=>?_⟩
   .rw[T8,oo (by rw[u4,aD];rfl),W.1,a1];exact⟨.inl,λh=>h.elim id (λh=>h▸aj)⟩
   .obtain⟨q,X⟩:=X4.1 J;by_cases aJ:al=q
    .subst aJ;rw[U5 bl] at X;cases X;show _=(((cs.take (i+1)).count x:Nat):Int);rw[aq,if_pos rfl];omega
    .rw[V3 aJ] at X;have aK:p.1≠x:=λhe=>aJ (ab.uniq av (show (E.map gi)[q]? =σ (gi p) by rw[u4,X];rfl) (by rw[gi,he]));rw[W.2 p (x5 X),aq,if_neg aK,Nat.add_zero]
  .have aw:∀p∈E.map gi,p.1≠U1 .i64 x:=λp J he=>by
    obtain⟨q,X,rfl⟩:=Z6.1 J;have:q.1=x:=by simpa[gi] using he
    exact aj ((W.1 x).1 (Z6.2 ⟨q,X,this⟩))
   rw[r1 kV.u p4 ⟨_,_,ac.i⟩ ab (p5 E) ⟨_,rfl⟩ aw];simp only[Bool.false_eq_true,if_false];rw[aL,wrap_i64 Ω Ω];refine ay.dc (pL kV.u p4 ab (p5 E) ⟨_,rfl⟩ (λal v0 aE aF=>absurd rfl (aw _ (x5 aF))) (λaE _ am aG bi=>?_));rw[aL];have aI:E.map gi++[(U1 .i64 x,U1 .i64 (0+1))]=(E++[(x,1)]).map gi:=by rw[j9];rfl
   rw[aI] at am;have bm:(cs.take i).count x=0:=List.count_eq_zero.2 aj;refine aZ _ ⟨ag.trans aG,_,am,λy=>?_,λp J=>?_⟩
   .rw[j9,l5,W.1,a1];simp
   .rcases l5.1 J with J|J
    .have aK:p.1≠x:=λhe=>aj ((W.1 x).1 (Z6.2 ⟨p,J,he⟩));rw[W.2 p J,aq,if_neg aK,Nat.add_zero]
    .rw[l9.1 J];show (1:Int)=(((cs.take (i+1)).count x:Nat):Int);rw[aq,if_pos rfl,bm];rfl
 rintro aa bg ⟨ag,E,ab,W⟩;rw[o9] at W;have ah:Ext w aa:=aB.put ag Ω;refine b2 Ω ?_;refine (H8 (h.ext ah) aY).mono ?_;rintro _ bo bG ⟨rfl,aM⟩;have bH:=ah.size;have bI:=aM.size;refine ay.dc (zZ kV.u (ab.ext aM) λao bJ bK bp bL bq bM=>?_);refine⟨λdl af=>∃b ad Y left a2,dl=Δ b/\b∈cs/\Ext bo af/\gT af ao m (E.map gi) left a2/\left=Y.map gi/\(ad++Y).Perm E/\ ∀p∈ad,cs.count p.1<cs.count b\/(cs.count p.1=cs.count b/\b<=p.1),λ_ af=>oz af ao,
  ⟨uE cs,[],E,E.map gi,ν,rfl,(HK aY).1,bp,bq,rfl,List.Perm.refl _,λp J=>by cases J⟩,?_⟩
 rintro _ af ⟨b,ad,Y,left,a2,rfl,aO,aP,a6,rfl,ax,aS⟩;refine z6 a6 (λ_=>by show w.heap.size<=ao;omega) (λbr=>?_) (λj p aV J a7 bN ap=>?_)
 .rw[h3 (v:=.bool false) rfl,aT];have:Y=[]:=List.map_eq_nil_iff.1 br;subst this;rw[X6] at ax;refine⟨(ah.trans aM).trans aP,b,rfl,aO,λd bu=>?_⟩;obtain⟨q,X,rfl⟩:=Z6.1 ((W.1 d).2 bu);exact aS q (ax.mem_iff.2 X)
 .rw[h3 (v:=.bool true) rfl,bX];refine z7 ap ?_;obtain⟨q,X,rfl⟩:∃q,Y[j]? =σ q/\gi q=p:=by
   rw[u4] at J;exact X5.1 J
  have a8:q∈E:=ax.mem_iff.1 (l5.2 (.inr (x5 X)));have bO:=W.2 q a8;have bw:q.1∈cs:=(W.1 q.1).1 (Z6.2 ⟨q,a8,rfl⟩);obtain⟨bx,bz⟩:=By W aO;have bA:(E.map gi)[bx]? =σ (Δ b,Δ ((cs.count b:Nat):Int)):=by rw[u4,bz];rfl
  rw[h3 (v:=Δ q.1) rfl,h3 (v:=Δ q.2) rfl];have ba:(ad++[q]++Y.eraseIdx j).Perm E:=by
   refine List.Perm.trans ?_ ax;rw[Z4];exact List.Perm.append_left ad (uS X)
  have bb:oz aV ao<oz af ao:=by
   rw[r5 ap,r5 a6];have:=Al (x4.1 J).1;omega
  refine aR (λv bB=>aV=bB/\ ∃r:Bool,v= .bool r/\(r=true↔(cs.count b<cs.count q.1\/(cs.count q.1=cs.count b/\q.1<b)))) ?_ ?_
  .rintro _ _ ⟨rfl,r,rfl,aA⟩;rw[bt];refine⟨λbC=>?_,λbc=>?_⟩
   .have aA:=aA.1 bC;refine⟨⟨q.1,ad++[q],Y.eraseIdx j,_,_,rfl,bw,aP.trans a7,ap,(lZ gi Y j),ba,λp J=>?_⟩,bb⟩;rcases l5.1 J with J|J
    .have:=aS p J;omega
    .rw[l9.1 J];exact .inr ⟨rfl,Int.le_refl _⟩
   .have aA:¬(cs.count b<cs.count q.1\/(cs.count q.1=cs.count b/\q.1<b)):=λh=>by rw[aA.2 h] at bc;cases bc
    refine⟨⟨b,ad++[q],Y.eraseIdx j,_,_,rfl,aO,aP.trans a7,ap,(lZ gi Y j),ba,λp J=>?_⟩,bb⟩;rcases l5.1 J with J|J
    .exact aS p J
    .rw[l9.1 J];omega
  .intro bP aW;have bd:∀K:y0->Prop,U x3 (Instr.lookup kV (.map (σ m)) (Δ b) false) aV K=K (Δ ((cs.count b:Nat):Int)):=λK=>by
    rw[pK kV.u p4 ap.map (p5 E) ⟨_,rfl⟩ bA];simp
   rw[bd,bY,ak];refine⟨λh1=>aW _ _ ⟨rfl,true,rfl,⟨λ_=>.inl Ω,λ_=>rfl⟩⟩,λh1=>?_⟩;rw[bd,bn,ak];refine⟨λbD=>?_,λbD=>aW _ _ ⟨rfl,false,rfl,⟨λh=>(by cases h),λh=>Ω⟩⟩⟩;rw[aQ];refine aW _ _ ⟨rfl,_,rfl,?_⟩;rw[decide_eq_true_eq];omega
theorem KO {g U:Nat} {k:o6} {V:o4} (h:ao k e w g v l) (W:ad w U V cs) (Y:e≠V) {r:Nat} (X:leads v r):r≠U:=by
 obtain⟨rfl,_⟩:=bz h X;obtain⟨_,⟨rfl,_⟩|⟨_,_,_,J,_⟩⟩:=h
 .obtain⟨a,n,c,h,_⟩:=X;cases h
 .rintro rfl;unfold ad at W J;rw[W] at J;injection J with h1;injection h1 with ab aa;exact Y aa.symm
def KP (w:x2) (szs:Λ) (k:Int) (cs:Λ) (v:y0) (w':x2):Prop:=Ext w w'/\ ∃g m o D,v=Γ g/\eD w' g m szs k o D/\D.length<=(aJ szs).toNat/\hQ szs (hN D o) cs/\sB cs o
theorem KQ {g cb:Nat} {cs:Λ} (h:cV w g cb sv szs k cs) (bc:∀c∈cs,c5 c k):ai x3 FC [Γ g] w (KP w szs k cs):=by
 obtain⟨⟨aI,gs,bF,hm,cQ⟩,⟨_,_,bG⟩,J,aV⟩:=id h;have cS:=prod_bound J;have cT:=J.1;have bH:cs≠[]:=λhe=>by rw[he] at aV;simp at aV;omega
 refine mw func185 ?_;rw[cR eB.u];simp only[Z7,aT];refine (lY h).mono ?_;rintro av aa _ ⟨aB,cU,cW,bd⟩;refine bp au.i λaW cX cY bI bJ=>?_;have cZ:=bJ.lt;refine bj au.i bd.ls.cells.1 bd.ls.cells.2 bJ (by simp[y0.cells]) λaX cc c1 aY=>?_;have aY:ad aX aW au [av]:=aY;have c2:=aB.size;have c3:=bI.size;have bK:Ext aa aX:=bI.put cc Ω;have bN:=bd.ext bK;have aL:=aB.trans bK;refine aR (λu aZ=>∃W ak m o aw ax,u=Γ W/\Ext aX aZ/\ad aZ W eI [Γ ak]/\aX.heap.size<=m/\fp aZ ak m aw ax szs k o []/\sB cs o) ?_ ?_
 .rintro _ aZ ⟨W,ak,m,o,aw,ax,rfl,aM,X,c4,al,ao⟩;have cd:=h.ext (aL.trans aM);have ce:=aY.ext aM;have cg:=bN.ext aM;refine (mZ cd).mono ?_;rintro _ c6 _ ⟨rfl,ci⟩;refine rY.mono ?_;rintro _ be _ ⟨cj,bO,rfl,c7,bP⟩;have aC:=ci.trans cj;have bQ:=al.ext aC;have ck:=ce.ext aC;have bR:=X.ext aC;have cl:=cg.ext aC;have bS:=hm.ext ((aL.trans aM).trans aC);have aD:=bQ.2.2.1;have cm:=(aL.trans aM).trans aC;have c8:=aL.size;have cn:=rX (g:=bO) (B0:=be.heap.size) (sv:=sv) J;refine lG.old ⟨Nat,false,j7,#[Γ bO],_,_,_,_,λi w'=>ae (λr=>r=m) be w'/\ ∃D,D.length<=i/\fp w' ak m aw ax szs k o D/\ ∀ (j:Nat) t,(bh szs)[j]? =σ t->hN D o t=if j<i then ch szs cs t else o,λ_ _ _=>False,rfl,cn.s,
   ?_,λ_ _ aE h=>⟨h.1.ext aE,h.2.1.ext aE,X8 h.2.2 aE.size⟩,λ_ _ _ aE ⟨h1,D,cp,cq,bG⟩=>⟨h1.trans (aE.ab _),D,cp,cq.ext aE,bG⟩,λ_ _ _ _ _ h=>h,⟨bP,bS.ls,n9 _⟩,⟨ae.refl _ _,[],n9 _,bQ,λj t _=>by rw[if_neg Ω];rfl⟩,?_,?_,λ_ _ h=>h.elim,λ_ _ _ h=>h.elim⟩
  .rintro _ _ _ _ ⟨_,_,_,_,rfl,_⟩;rfl
  .rintro _ aF i _ cr ⟨c9,da,ct⟩ ⟨hi,rfl,db,dc,cu,dd,ah⟩ ⟨a1,D,bT,bg,bi⟩;cases cu;have bk:(bh szs)[i]? =σ (cF szs (i:Int)):=mU J.2 Ω;have cw:dg szs (cF szs (i:Int)):=uF J.2 hi;generalize cF szs (i:Int)=t at*;have bU:=JD J.2 aV bk;intro cz a2 _ _;intro cA cB _ _;have a6:=a2.trans cB;have a7:ae (λr=>r=m) be cA:=a1.trans (a6.ab _);rw[aS Ψ ((sA bR aD a7).Qz rfl),aS Ψ ((sA ck aD a7).Qz rfl),bf au.u an.i Ψ (Bx cl aD a7).ls bU];have bl:=bg.ext a6;refine (Aj bl.is (ah.ext a6).ls (c:=ch szs cs t)).mono ?_;rintro _ de _ ⟨_,cC⟩;obtain⟨rfl,bm,cD,bV,bW⟩:=cC ⟨cw,bc _ (x5 bU)⟩;have bn:=a7.trans bm;have df:=bV.2;refine⟨⟨sA bP aD bn,(Bx bS aD bn).ls,X8 ct (X8 a6.size bm.size)⟩,⟨bn,cD,Ω,bl.put bm bW,λj s az=>?_⟩,λh=>by cases h⟩;rw[bV.cost bl.is.nodup bW.nodup];by_cases bX:j=i
   .subst bX;rw[bk] at az;cases az;rw[if_pos rfl,if_pos Ω]
   .rw[if_neg (λ(he:s=t)=>bX (KL J.2 (by rw[<-he];exact az) bk)),bi j s az];by_cases h1:j<i
    .rw[if_pos h1,if_pos Ω]
    .rw[if_neg h1,if_neg Ω]
  .rintro i cr rfl ⟨a1,D,bT,bg,bi⟩;rw[aS Ψ ((sA bR aD a1).Qz rfl)];intro cz a2 _;refine⟨(cm.put a1 Ω).trans a2,ak,m,o,D,rfl,bg.is.ext a2,bT,⟨aV,λt cE=>?_⟩,ao⟩;obtain⟨j,az⟩:=KM J.2 cE;have:=(x4.1 az).1;rw[hq J.2] at this;rw[bi j t az,if_pos this]
 intro a8 bY;intro aj aN _ _;have bo:=aL.trans aN;have bZ:=aN;have ba:=h.ext bo;have b0:=bN.ext aN;have dh:=aN.size;rw[aS Ψ ((aY.ext aN).Qz rfl)];have b1:∀ {W:Nat} {w':x2} {aF:y0} {o:Int},Ext aj w'->aj.heap.size<=W->(∃Y,ad w' W eI [Y])->aH .i64 w' aF szs->sB cs o->
   ai x3 nQ [aF,Δ k,Δ o] w' λam af=>U x3 (Y0 am 0) af λaA=>U x3 (Y0 am 1) af λ_=>ay x3 (o7 eI (Γ W) aA) af λ(_:Unit) ap=>a8 (Γ W) ap:=by
  rintro W w' aF o ag ac ⟨Y,X⟩ ah ao;refine (Ad ah).mono ?_;rintro _ af _ ⟨bq,_,_,br⟩;obtain⟨ak,m,rfl,cG,cH,al⟩:=br J (bc _ ao.1);obtain⟨aw,ax,al⟩:=al.at;rw[bL,bM];have cI:=X.lt;have s':=ag.size;refine bj eI.i rfl rfl (X.ext bq) Ξ λap b2 di cJ=>?_;refine bY _ _ ⟨W,ak,m,o,aw,ax,rfl,((bZ.trans ag).trans bq).put b2 Ω,cJ,Ω,al.ab b2 (λhe=>by have he:ak=W:=he;omega) (λhe=>by have he:m=W:=he;omega) (λr bt he=>?_),ao⟩;exact KO al.2.1 (X.ext bq) Φ bt he
 have b3:∀ {W:Nat} {w':x2} {aF:y0},Ext aj w'->aj.heap.size<=W->(∃Y,ad w' W eI [Y])->aH .i64 w' aF szs->
   ai x3 rm [av] w' λaO aa=>ai x3 nQ [aF,Δ k,aO] aa λam af=>U x3 (Y0 am 0) af λaA=>U x3 (Y0 am 1) af λ_=>ay x3 (o7 eI (Γ W) aA) af λ(_:Unit) ap=>a8 (Γ W) ap:=by
  rintro W w' aF ag ac ⟨Y,X⟩ ah;refine (Bz (b0.ext ag).ls bH Ω).mono ?_;rintro _ aa _ ⟨aB,o,rfl,ao⟩;exact b1 (ag.trans aB) ac ⟨Y,X.ext aB⟩ (ah.ext aB) ao
 have b4:∀ {W:Nat} {w':x2} {aF:y0},Ext aj w'->aj.heap.size<=W->(∃Y,ad w' W eI [Y])->aH .i64 w' aF szs->
   ai x3 tS [Γ g] w' λbu V=>(Ext aj V\/bw x3 (x7 au (Γ aW)) av V/\True)/\
    ai x3 rm [av] V λaO aa=>ai x3 nQ [aF,bu,aO] aa λam af=>U x3 (Y0 am 0) af λaA=>U x3 (Y0 am 1) af λ_=>ay x3 (o7 eI (Γ W) aA) af λ(_:Unit) ap=>a8 (Γ W) ap:=by
  rintro W w' aF ag ac ⟨Y,X⟩ ah;refine (uM (ba.ext ag)).mono ?_;rintro _ V _ ⟨rfl,aq⟩;exact⟨.inl (ag.trans aq),b3 (ag.trans aq) ac ⟨Y,X.ext aq⟩ (ah.ext aq)⟩
 have b5:szs.length<=1000:=Ω
 have b6:∀ {W:Nat} {w':x2},Ext aj w'->aj.heap.size<=W->(∃Y,ad w' W eI [Y])->
   ai x3 yd [.agg #[sv]] w' λcK w0=>(Ext aj w0\/bw x3 (x7 au (Γ aW)) av w0/\True)/\
    ai x3 tS [Γ g] w0 λbu V=>(Ext aj V\/bw x3 (x7 au (Γ aW)) av V/\True)/\
    ai x3 rm [av] V λaO aa=>ai x3 nQ [cK,bu,aO] aa λam af=>U x3 (Y0 am 0) af λaA=>U x3 (Y0 am 1) af λ_=>ay x3 (o7 eI (Γ W) aA) af λ(_:Unit) ap=>a8 (Γ W) ap:=by
  rintro W w' ag ac ⟨Y,X⟩;refine (uN (hm.ext (bo.trans ag)).ls b5).mono ?_;rintro aF V _ ⟨aq,_,_,ah⟩;exact⟨.inl (ag.trans aq),b4 (ag.trans aq) ac ⟨Y,X.ext aq⟩ ah.ls⟩
 have aP:∀ {w':x2} {R:y0->x2->Prop},Ext aj w'->(∀W aQ,aj.heap.size<=W->Ext w' aQ->(∃Y,ad aQ W eI [Y])->R (Γ W) aQ)->ay x3 (S8 eI true (.tuple #[])) w' R:=λ{w'} {R} ag cL=>by
  have:=ag.size;exact bp eI.i λW aQ ac cM bF=>cL W aQ Ω cM ⟨_,bF⟩
 refine⟨?_,aP (Ext.refl _) λW dj ac bb X=>⟨.inl bb,?_⟩⟩
 rotate_left
 .refine (mZ (ba.ext bb)).mono ?_;rintro _ dk _ ⟨rfl,bx⟩;obtain⟨Y,X⟩:=X;exact⟨.inl (bb.trans bx),b6 (bb.trans bx) ac ⟨Y,X.ext bx⟩⟩
 refine (mZ ba).mono ?_;rintro _ dl _ ⟨rfl,aG⟩;refine⟨.inl aG,?_,aP aG λW dm ac b7 X=>⟨.inl (aG.trans b7),b6 (aG.trans b7) ac X⟩⟩;refine (uN (hm.ext (bo.trans aG)).ls b5).mono ?_;rintro aF dn _ ⟨cN,_,_,ah⟩;have aJ:=aG.trans cN;refine⟨.inl aJ,?_,aP aJ λW dp ac bz X=>⟨.inl (aJ.trans bz),b4 (aJ.trans bz) ac X (ah.ext bz).ls⟩⟩;refine (uM (ba.ext aJ)).mono ?_;rintro _ dq _ ⟨rfl,bA⟩;have aK:=aJ.trans bA;refine⟨.inl aK,?_,aP aK λW dr ac bB X=>⟨.inl (aK.trans bB),b3 (aK.trans bB) ac X ((ah.ext bA).ext bB).ls⟩⟩;refine (Bz (b0.ext aK).ls bH Ω).mono ?_;rintro _ ds _ ⟨b8,o,rfl,ao⟩;have aU:=aK.trans b8;have b9:=(ah.ext bA).ext b8;refine⟨?_,aP aU λW dt ac bC X=>⟨.inl (aU.trans bC),b1 (aU.trans bC) ac X (b9.ext bC).ls ao⟩⟩;refine (Ad b9.ls).mono ?_;rintro _ du _ ⟨cO,_,_,br⟩;obtain⟨ak,m,rfl,cG,cH,al⟩:=br J (bc _ ao.1);obtain⟨aw,ax,al⟩:=al.at;rw[bL,bM];have bD:=aU.trans cO;refine bp eI.i λW dv ac bE X=>?_;refine⟨.inl (bD.trans bE),?_⟩;have cI:=X.lt;obtain⟨dw,dx,t3⟩:=al.pH;have dy:=aU.size;have dz:=bD.size;refine bj eI.i rfl rfl X (by simp[y0.cells]) λdA ca dC cP=>?_;exact bY _ _ ⟨W,ak,m,o,aw,ax,rfl,((bZ.trans bD).trans bE).put ca Ω,cP,Ω,(al.ext bE).ab ca (λhe=>by have he:ak=W:=he;omega) (λhe=>by have he:m=W:=he;omega) (λr bt he=>by have he:r=W:=he;have:=t3 r bt;omega),ao⟩
theorem BA {acc:List cu} {g:cu} (h:∀x∈acc,x.1≠g.1):hM k acc g=acc++[g]:=by
 unfold hM;rw[if_neg];intro hm;obtain⟨x,J,he⟩:=Z6.1 hm;exact h x J he
theorem KR {acc:List cu} {g h:cu} {i:Nat} (U:ih acc) (hi:acc[i]? =σ h) (he:h.1=g.1):hM k acc g=acc.set i (h.1,dQ k h.2 g.2):=by
 have V:=(x4.1 hi).1;unfold hM;rw[if_pos (Z6.2 ⟨h,x5 hi,he⟩)];refine W5 λj=>?_;rw[u4,W3];by_cases J:i=j
 .subst J;rw[hi,Y4,if_pos he,if_pos rfl,if_pos V]
 .rw[if_neg J];cases W:acc[j]? with
  |none=>rfl
  |some y=>
   have:y.1≠g.1:=λX=>J (by
    have h1:(acc.map (·.1))[i]? =σ g.1:=by rw[u4,hi,Y4,he]
    have Y:(acc.map (·.1))[j]? =σ g.1:=by rw[u4,W,Y4,X]
    exact jF U h1 Y)
   rw[Y4,if_neg this]
theorem KT {α β:Type} {f:β->α->β} {b:β} {l:List α} {i:Nat} {x:α} (h:l[i]? =σ x):(l.take (i+1)).foldl f b=f ((l.take i).foldl f b) x:=by
 rw[r9,h,j6,List.foldl_append];rfl
def l1 (w:x2) (k:Int) (sizes:Λ) (x:cm):Prop:=(∃J,ao .i64 ac w J x.sv x.sc)/\ ∃m o D,eD w x.g m (bI sizes x.sc) k o D/\D.length<=4096/\hQ (bI sizes x.sc) (hN D o) x.cs
theorem l1.ext {x:cm} (h:l1 w k sizes x) (J:Ext w w'):l1 w' k sizes x:=by
 obtain⟨⟨U,h1⟩,m,o,D,V,W⟩:=h;exact⟨⟨U,h1.ext J⟩,m,o,D,V.ext J,W⟩
theorem l1.ab {x:cm} (h:l1 w k sizes x) (Y:ae S w w') (W:∀r,S r-> ∃e c,ad w r e c/\e≠fh/\e≠ac):l1 w' k sizes x:=by
 obtain⟨⟨ag,h1⟩,m,o,D,ah,ai⟩:=h;obtain⟨sv,gs,V⟩:=ah.at;have aa:∀ {g:Nat} {v:y0} {l:Λ},ao .i64 ac w g v l-> ∀r,leads v r->¬S r:=λhm r aj J=>by
  obtain⟨e,c,U,_,X⟩:=W r J;exact b5 hm U (λhe=>X he.symm) aj rfl
 refine⟨⟨ag,be h1 Y (aa h1)⟩,m,o,D,(V.ab Y (λJ=>?_) (λJ=>?_) (aa V.2.1)).is,ai⟩
 .obtain⟨e,c,U,X,_⟩:=W _ J;have af:=V.1;unfold ad at af U;rw[af] at U;exact X (Obj.cells.inj (Z9 U)).2.1.symm
 .obtain⟨e,c,U,_,_⟩:=W _ J;exact sk U V.2.2.1 rfl
def p6 (w:x2) (g:Nat) (v:y0) (k:Int) (sizes:Λ) (L:List cm):Prop:=bb ev 2 cw w g v L/\ ∀x∈L,l1 w k sizes x
theorem p6.ext {g:Nat} {L:List cm} (h:p6 w g v k sizes L) (J:Ext w w'):p6 w' g v k sizes L:=⟨h.1.ext J,λx U=>(h.2 x U).ext J⟩
def KU (w:x2) (B J:Nat) (f:b4):Prop:=∃szv U gz g L,ad w J cv [bU f.name,Δ f.k,szv,U]/\ao .i64 ac w gz szv f.sizes/\p6 w g U f.k f.sizes L/\L.map dM=fl f/\B<=J/\(∀r,leads szv r->B<=r)/\ ∀x∈L,∀r,leads x.sv r->B<=r
theorem KV {g ag:Nat} {L:List cm} {Y:Λ} (h:eW w g v L) (aj:ad w ag af [sv]) (J:aH .i64 w sv Y):
  ai x3 yf [v,.func (.func yg) #[] #[Γ ag]] w λr w'=>Ext w w'/\((r=Δ (-1)/\ ∀x∈L,x.sc≠Y)\/ ∃i:Nat,r=Δ (i:Int)/\ ∃x,L[i]? =σ x/\x.sc=Y):=by
 refine az func175 ?_;rw[dt fJ.u h.1];refine bA.range L.length (λi _ V=>Ext w V/\ ∀x∈L.take i,x.sc≠Y) h.1.le ⟨Ext.refl _,λc U=>by simp at U⟩ ?_ ?_
 .rintro i _ V k hi ⟨W,ab⟩ hk;refine bk Ω ?_;obtain⟨x,ac⟩:=aN (l:=L) hi;rw[sx rfl (h.ext W) ac];show ai x3 yg [jh x,Γ ag] V _;obtain⟨⟨an,hm⟩,_⟩:=(h.ext W).at ac;refine az func176 ?_;refine bP λam aa ao X ae=>?_;have ae:ad aa am cU [x.sv,Γ x.g]:=by
   obtain⟨_,_,_,e⟩:=b7 hm.ls;simp only[jh,ev,e] at ae ⊢;exact ae
  rw[av cU.p 0 ae rfl,aS Ψ ((aj.ext (W.trans X)).Qz rfl)];refine (k4 (hm.ls.ext X) (J.ext (W.trans X))).mono ?_;rintro _ ap _ ⟨rfl,ah⟩;rw[ak];refine⟨λhe=>⟨(W.trans X).trans ah,.inr ⟨i,rfl,x,ac,he⟩⟩,λal=>?_⟩;rw[aL];refine hk _ _ ⟨(W.trans X).trans ah,λc U=>?_⟩;rw[r9,ac] at U;rcases l5.1 U with U|U
  .exact ab c U
  .simp at U;subst U;exact al
 .rintro _ V k ⟨W,ab⟩;rw[o9] at ab;rw[aQ,ak];exact⟨λh=>Ω,λ_=>⟨W,.inl ⟨rfl,ab⟩⟩⟩
def eE (f:b4) (i:Nat):List cu:=((f.funs.take i).map (hs f.sizes f.k)).foldl (hM f.k) []
theorem BB {f:b4} (J:e1 N f) (i:Nat):(∀g∈eE f i,fo f.sizes f.k g)/\ih (eE f i)/\(eE f i).length<=i:=by
 have:=u6 (sizes:=f.sizes) (k:=f.k) (by have:=J.k.1;omega) (l:=(f.funs.take i).map (hs f.sizes f.k)) (acc:=[]) (λh aw=>by cases aw) List.nodup_nil λg V=>by
  obtain⟨x,W,rfl⟩:=Z6.1 V;exact oD J (U9 W)
 refine⟨this.1,this.2.1,?_⟩;have U:=this.2.2;rw[List.length_nil,u5,V8,o5] at U;exact X8 U (Nat.min_le_left _ _)
theorem vl {f:b4} {i:Nat} {x:ce} (h:f.funs[i]? =σ x):eE f (i+1)=hM f.k (eE f i) (hs f.sizes f.k x):=by
 unfold eE;rw[r9,h,j6,j9,List.foldl_append];rfl
theorem BC (f:b4):eE f f.funs.length=e9 f:=by unfold eE e9;rw[o9]
theorem vm {L:List cm} {i:Nat} {x:cm} {D:List cu} (h:L.map dM=D) (J:L[i]? =σ x):dM x∈D:=by rw[<-h];exact Z6.2 ⟨x,x5 J,rfl⟩
def KW (w:x2) (f:b4) (v:y0) (w':x2):Prop:=Ext w w'/\((¬hR f.funs<=16384/\ ∃e:Int,e≠0/\v= .tuple #[.pointer ν,Δ e])\/ ∃J,v= .tuple #[Γ J,Δ 0]/\KU w' w.heap.size J f)
end Go.Proofs.YthjegppepbbojaaGreatDoor
