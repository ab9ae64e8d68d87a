/- own texts, made small by a tool (wip/ holds them as they were written): no statement of the seat. -/
import Derived.Test.YtlcdcbgoaljiiaaGreatDoorWe
set_option linter.unusedVariables false
set_option linter.unusedSimpArgs false
set_option linter.unnecessarySimpa false
open Array renaming getElem?_eq_some_iff→Y2
open Bool renaming false→sp,true→s2,not_true→Y5,not_false→X6,eq_iff_iff→V9,or_eq_false_iff→T3,and_eq_true→T8,true_and→S7
open Decidable renaming not_not→X1
open Go renaming Value→x4,World→x5,TypeId→o4
open Go.Builtin renaming append_→b9,len_→X8
open Go.Instr renaming loadAt→u5,fieldAt→u6,storeAt→o7,indexAt→n9,extract→Z7,alloc→R3
open Go.IntKind renaming u64→U4
open Go.Proofs.Tryz renaming prog→x8
open Int renaming toNat_natCast→u7,eq_ofNat_of_zero_le→Y6,le_refl→S5
open List renaming getElem?_eq_some_iff→x6,mem_of_getElem?→x7,getElem?_eq_getElem→v8,getElem?_map→u4,take_add_one→u9,getD_eq_getElem?_getD→r8,length_map→r9,replicate→o5,take_length→o9,mem_map→l9,mem_append→j5,eq_nil_of_length_eq_zero→j6,take_of_length_le→j9,length_append→c9,map_append→Z2,length_take→Z3,getElem?_set_self→Z6,length_set→Z9,mem_singleton→Y1,ext_getElem?→Y3,mem_iff_getElem?→Y8,getElem?_set_ne→Y9,range→X0,getElem?_append_right→X2,drop_eq_getElem_cons→X4,getElem?_set→X7,getElem?_eq_none→W8,getElem?_take_of_lt→V1,getElem?_append_left→V6,pairwise_iff_getElem→U1,map_set→U2,set_append_right→U7,flatMap_cons→T0,append_assoc→T1,append_nil→T4,map_map→T5,Perm→T9,mem_filter→S6,mem_of_mem_take→R2
open Nat renaming le_refl→o6,le_trans→X3,zero_le→X9,zero_add→V0,mul_le_mul_right→V4,sub_self→V7,mul_one→U3,pow_le_pow_right→T2,add_mul→T6
open Option renaming toList_some→j4,isNone_some→b8,map_eq_some_iff→Y0
open Prod.mk renaming injEq→R4
set_option maxHeartbeats 16000000
open Option renaming some→σ,none→ν
variable{j pos:Nat}{k v w:Int}{O:List Nat}{a:x4}{pl:Λ}
namespace Go.Proofs.YtlcdcbgoaljiiaaGreatDoor
open Go Go.Vc Go.RowKit Go.Proofs Go.Proofs.Tryz
set_option maxRecDepth 100000
section
variable{w:x5}{af ag gy:Nat}{A R:ak}{A9:Nat->ak}{aL:ak}{n:aJ}{s s0:am}{t:aD}{ax:List aD}{cs:List x4}
theorem Ug{i:Nat}{U:x4}{K:x5->Prop}(p:cm w af ag gy A R A9 aL n s (dn s s0 i 0) t ax cs)(aX:Laid w)(an:dJ s0 s)(hi:i<n.d6.length)(aY:U=Γ af)(aZ:bd n.k n.d6 s0)(a1:∀I,cC w af ag gy A R A9 aL n s t ax (dn s s0 (i+1) 0) I->K I):
  ey w λB=>
  ad x8 (u6 aK (Γ gy) 3) B λt22=>
  ad x8 (u5 ca t22) B λO=>
  aq x8 A1 [U,Δ (i:Int)] B λa2 H=>
   (Ext B H\/ch x8 (u5 ca t22) O H/\ch x8 (u6 aK (Γ gy) 3) t22 H/\True)/\
  aq x8 A4 [a2] H λa6 J=>
   (Ext B J\/ch x8 (u5 ca t22) O J/\ch x8 (u6 aK (Γ gy) 3) t22 J/\True)/\
   aq x8 A3 [a6] J λa7 G=>
    (Ext B G\/ch x8 (u5 ca t22) O G/\ch x8 (u6 aK (Γ gy) 3) t22 G/\True)/\
   ad x8 (n9 ca O (Δ (i:Int))) G λba=>
    aM x8 (o7 au ba a7) G λ(_:Unit)x=>
    ad x8 (u6 aK (Γ gy) 5) x λbb=>
  ad x8 (u5 c0 bb) x λbc=>
  ad x8 (n9 c0 bc (Δ (i:Int))) x λbe=>
  ad x8 (u5 aB be) x λbf=>
  ad x8 (X8 #[aB] al #[bf]) x λbg=>
  b7 (Δ 0) x λP C bh=>
   ad x8 (aT .lss al sp sp P bg) C λbj=>
   Split bj (ey C λE=>
   ad x8 (u6 aK (Γ gy) 5) E λV=>
   ad x8 (u5 c0 V) E λao=>
   ad x8 (n9 c0 ao (Δ (i:Int))) E λap=>
   ad x8 (u5 aB ap) E λt45=>
   aq x8 wW [U,Δ (i:Int),P] E λt50 y=>
    (Ext E y\/ch x8 (u5 aB ap) t45 y/\ch x8 (u5 c0 V) ao y/\ch x8 (u6 aK (Γ gy) 5) V y/\True)/\
   ad x8 (Z7 t50 0) y λbk=>
    ad x8 (Z7 t50 1) y λbM=>
    ad x8 (n9 aB t45 P) y λt53=>
    aM x8 (o7 ay t53 bk) y λ(_:Unit)W=>
    ad x8 (aT .add al sp s2 P (Δ 1)) W λbl=>
   bh bl W)
   (K C):=by
 subst aY;have Q:=p.dG.2.2.2.1;have bN:=Q.d9;have bO:=aZ.d9;have av:=an.d9;have bP:=Q.eZ.2.1;obtain⟨j,aw⟩:=aI (l:=s0.d9) (i:=i) Ω;obtain⟨f,M⟩:=aI (l:=s.d9) (i:=i) Ω;obtain⟨z,X⟩:=aI (l:=n.d6) (i:=i) hi;obtain⟨bm,S⟩:=an.var i j f aw M;have bQ:=(Q.var _ f z M X).1;have bR:=Q.eZ.2.2 z (x7 X);have aA:(dn s s0 i 0).d9[i]?=σ j:=by
  show(dL s.d9 s0.d9 i)[i]?=_;rw[Gg av Ω];exact aw
 intro B Y _ _;have Z:=p.W Y;have bn:=aX.W Y;obtain⟨bS,bT,bU,bo,bV,bW,bX,bq⟩:=Gr Z aA;rw[aN aK.p 3 Z.box bo];refine(jF (i:=(i:Int)) Z.dG).Y ?_;rintro _ H _ ⟨⟨bY,bZ,rfl,aC⟩,aa⟩;refine⟨.inl aa,?_⟩;refine mM.Y ?_;rintro _ J _ ⟨aD,bi,rfl,b0,ah⟩;refine⟨.inl (aa.F aD),?_⟩;have aE:=lA aC Ω (by rw[u7];exact M);have ai:=aa.F aD;refine(Ec (L:=az f) (mL (g:=bi) aC.1) (λk vs w hk=>by
    obtain⟨v,ac,rfl⟩:=hk;exact⟨v,by rw[<-aE,u4,ac];rfl,rfl⟩) (λa b N ae=>⟨ae.1.ab N λh=>by have:=ah.lt;have h:=h;omega,iH N (λh=>by have h:=h;have:=ah.lt;omega) ae.2⟩) ⟨ah,bn.W ai⟩ (by rw[<-aE,r9]) (by have:=rn f;omega)).Y ?_
 rintro _ G _ ⟨br,b1,b2,aF⟩;have aH:=ai.F br;refine⟨.inl aH,?_⟩;have b3:=ai.size;refine bq aH (by rw[SL S];exact aF) (λr bs=>by obtain⟨b5,_⟩:=cd aF bs;omega) λx d13=>?_;obtain⟨b6,b8,b9,aJ,cb⟩:=id d13;have aO:=(x6.1 aA).1;have aP:({dn s s0 i 0 with d9:=(dn s s0 i 0).d9.set i {j with mask:=f.mask}}:am).d9[i]?=σ {j with mask:=f.mask}:=Z6 aO;obtain⟨cc,ce,aS,bt,bu,aj,_⟩:=ti aJ aP;have aj:aQ .i64 x aS j.un:=aj;rw[aN aK.p 5 aJ.box bt,e5 c0.u aB.i (x6.1 aP).1 λ_=>rfl,aG (v:=aS) (o:=0+i*1) Ψ (by rw[V0,U3];exact bu),a8 aB.u aj];have bw:cC w af ag gy A R A9 aL n s t ax {dn s s0 i 0 with d9:=(dn s s0 i 0).d9.set i {({j with mask:=f.mask}:bp)with un:=dL f.un j.un 0}} x:=cC.comp (Y.ab _) (λq r h=>.inl ⟨q,h⟩) d13;refine b7.range j.un.length (λv C=>cC w af ag gy A R A9 aL n s t ax {dn s s0 i 0 with d9:=(dn s s0 i 0).d9.set i {({j with mask:=f.mask}:bp)with un:=dL f.un j.un v}} C) Ω bw ?_ ?_
 .rintro v C bx ac d14 bB;obtain⟨wc,cf,cg,bC,bD⟩:=id d14;obtain⟨c,N⟩:=aI (l:=f.un) (i:=v) Ω;refine bF Ω ?_;intro E aU _ _;have ak:=bC.W aU;have aV:({dn s s0 i 0 with d9:=(dn s s0 i 0).d9.set i {({j with mask:=f.mask}:bp)with un:=dL f.un j.un v}}:am).d9[i]?=σ {({j with mask:=f.mask}:bp)with un:=dL f.un j.un v}:=Z6 aO;obtain⟨ci,cj,bE,bG,bH,ck,bI⟩:=ti ak aV;rw[aN aK.p 5 ak.box bG,e5 c0.u aB.i (x6.1 aV).1 λ_=>rfl,aG (v:=bE) (o:=0+i*1) Ψ (by rw[V0,U3];exact bH)];refine(p5 (i:=(i:Int)) (v:=(v:Int)) ak.dG).Y ?_;rintro _ y _ ⟨rfl,aW⟩;refine⟨.inl aW,?_⟩;have bJ:eF n i v:=⟨Ω,Ω,Ω,by rw[u7,r8,X,Option.getD_some];omega⟩;have bK:fz s (i:Int).toNat (v:Int).toNat=c:=by
   unfold fz;rw[u7,M,u7];show f.un.getD v 0=c;rw[r8,N];rfl
  rw[m3 bJ,bK,bz,bA];refine bI aW (by show v<(dL f.un j.un v).length;rw[zm S];exact ac) λW d17=>?_;rw[aR];refine bB _ ?_;have bL:=cC.comp wc bD (cC.comp (aU.ab _) (λq r h=>.inl ⟨q,h⟩) d17.zs);have e:eR {dn s s0 i 0 with d9:=(dn s s0 i 0).d9.set i {({j with mask:=f.mask}:bp)with un:=dL f.un j.un v}} i {({j with mask:=f.mask}:bp)with un:=dL f.un j.un v} ((dL f.un j.un v).set v c)={dn s s0 i 0 with d9:=(dn s s0 i 0).d9.set i {({j with mask:=f.mask}:bp)with un:=dL f.un j.un (v+1)}}:=by
   unfold eR;simp only;rw[List.set_set,vR S N]
  rw[<-e];exact bL
 .rintro C bx d14;refine b4 Ω (a1 _ ?_);have e:({dn s s0 i 0 with d9:=(dn s s0 i 0).d9.set i {({j with mask:=f.mask}:bp)with un:=dL f.un j.un j.un.length}}:am)=dn s s0 (i+1) 0:=by
   rw[vQ S,SK bm];show(⟨s.zero,(dL s.d9 s0.d9 i).set i f,dL s.ho s0.ho 0,s0.dC⟩:am)=_;rw[vR av M];rfl
  rw[<-e];exact d14
end
theorem set_self{α:Type}{l:List α}{i:Nat}{x:α}(h:l[i]?=σ x):l.set i x=l:=by
 refine Y3 λj=>?_;by_cases e:i=j
 .subst e;rw[Z6 (x6.1 h).1,h]
 .rw[Y9 e]
section
variable{w:x5}{af ag gy:Nat}{A R:ak}{A9:Nat->ak}{aL:ak}{n:aJ}{s s0:am}{t:aD}{ax:List aD}{cs:List x4}
theorem Uh{m:Nat}{X:x4}{K:x5->Prop}(p:cm w af ag gy A R A9 aL n s (dn s s0 m j) t ax cs)(Y:dJ s0 s)(Z:j<s0.ho.length)(aO:∀f∈s0.ho,f.live≠0)(aP:X=Γ af)(aS:∀I,cC w af ag gy A R A9 aL n s t ax (dn s s0 m (j+1)) I->K I):
  ad x8 (u6 aK (Γ gy) 6) w λaU=>
  ad x8 (u5 c7 aU) w λaV=>
  ad x8 (n9 c7 aV (Δ (j:Int))) w λaW=>
  ad x8 (u6 cr aW 0) w λt66=>
  ad x8 (u6 ba t66 1) w λaX=>
  ad x8 (u5 au aX) w λaZ=>
  aq x8 wV [aZ] w λaa B=>
  ad x8 (X8 #[ca] al #[aa]) B λt70=>
  b7 (Δ 0) B λC x a2=>
   ad x8 (aT .lss al sp sp C t70) x λa6=>
   Split a6 (ad x8 (n9 ca aa C) x λa7=>
   ad x8 (u5 au a7) x λa8=>
   ey x λz=>
   ad x8 (u6 aK (Γ gy) 6) z λt77=>
   ad x8 (u5 c7 t77) z λac=>
   ad x8 (n9 c7 ac (Δ (j:Int))) z λae=>
   ad x8 (u6 cr ae 0) z λL=>
   ad x8 (u6 ba L 2) z λM=>
   ad x8 (u5 aB M) z λah=>
   aq x8 wX [X,Δ (j:Int),a8] z λai a=>
    (Ext z a\/ch x8 (u5 aB M) ah a/\ch x8 (u6 ba L 2) M a/\ch x8 (u6 cr ae 0) L a/\ch x8 (u5 c7 t77) ac a/\ch x8 (u6 aK (Γ gy) 6) t77 a/\True)/\
   ad x8 (Z7 ai 0) a λbb=>
    ad x8 (Z7 ai 1) a λbM=>
    ad x8 (n9 aB ah C) a λbc=>
    aM x8 (o7 ay bc bb) a λ(_:Unit)N=>
    ad x8 (aT .add al sp s2 C (Δ 1)) N λbd=>
   a2 bd N)
   (K x):=by
 subst aP;have aj:=p.dG.2.2.2.1;have ak:=Y.ho;obtain⟨f0,O⟩:=aI (l:=s0.ho) Z;obtain⟨f1,E⟩:=aI (l:=s.ho) (i:=j) Ω;obtain⟨bf,ao,ap,P⟩:=Y.fn j f0 f1 O E;have bg:=aO f0 (x7 O);have bh:f1.live≠0:=by rw[ap];exact bg
 have av:=x7 E;obtain⟨bi,bj,_⟩:=aj.ho f1 av;obtain⟨az,bN⟩:=ka aj av;have bk:f1.an.length=f1.sc.length:=by rw[bj];simp[b5]
 have Q:(dn s s0 m j).ho[j]?=σ f0:=by
  show(dL s.ho s0.ho j)[j]?=_;rw[Gg ak Z];exact O
 have bl:=(x6.1 Q).1;obtain⟨hv,bO,bP,bQ,bR,bS,bm,_,_,_,_,_,bn,_⟩:=p.look;rw[aN aK.p 6 bm rfl];refine km (i:=j) rfl c7.u cr.i bn (by rw[u4,Q];rfl) λb o bT G H=>?_;obtain⟨bU,bo,v3,rfl,h1,S,bV⟩:=me H;rw[a1 cr.p rfl,a1 ba.p rfl,aG Ψ (G 1 _ rfl)];have S:aQ .i64 w bo f1.an:=by rw[ao];exact c3 S
 refine(sb f1.an S ⟨by rw[bk];exact bi.scope.2,az⟩).Y ?_;rintro bp B _ ⟨U,V⟩;have bW:=U.size;rw[fE ca.u V];have br:=p.olds.W U;have bt:cC B af ag gy A R (λq r=>A9 q r/\r<w.heap.size) aL n s t ax {dn s s0 m j with ho:=(dn s s0 m j).ho.set j {f0 with cs:=dL f1.cs f0.cs 0}} B:=by
  have e:({dn s s0 m j with ho:=(dn s s0 m j).ho.set j {f0 with cs:=dL f1.cs f0.cs 0}}:am)=dn s s0 m j:=by
   show({dn s s0 m j with ho:=(dn s s0 m j).ho.set j f0}:am)=_;rw[set_self Q]
  rw[e];exact cC.same br (Ext.refl _)
 have bX:=p.box.lt;refine b7.range (bs f1.an).length (λk x=>(cC B af ag gy A R (λq r=>A9 q r/\r<w.heap.size) aL n s t ax {dn s s0 m j with ho:=(dn s s0 m j).ho.set j {f0 with cs:=dL f1.cs f0.cs k}} x)/\Seen (λr=>w.heap.size<=r/\r<B.heap.size) x [bp] (bs f1.an)) (oy V) ⟨bt,pB V λr G h=>⟨h.elim id False.elim,G⟩⟩ ?_ ?_
 .rintro k x bw hk ⟨d20,aA⟩ bx;obtain⟨bB,bY,bZ,bC,aC⟩:=id d20;obtain⟨tl,aD⟩:=aI (l:=bs f1.an) hk;obtain⟨c,H⟩:=aI (l:=f1.cs) (i:=k) Ω;have aE:=kr az aD;refine bF Ω ?_;refine fF rfl rfl ca.u au.i Ψ aA aD λaY bD=>?_;intro z J _ _;have W:=bC.W J;have aF:({dn s s0 m j with ho:=(dn s s0 m j).ho.set j {f0 with cs:=dL f1.cs f0.cs k}}:am).ho[j]?=σ {f0 with cs:=dL f1.cs f0.cs k}:=Z6 bl;obtain⟨b0,cap,e9,fi,y,bE,bG,_,b1,bH⟩:=Gp W aF;rw[aN aK.p 6 W.box bE,e5 c7.u cr.i (x6.1 aF).1 λ_=>rfl,a1 cr.p rfl,a1 ba.p rfl,aG Ψ (by rw[V0];exact bG 2 _ rfl)];refine(vz W.dG ((c3 (jS bD)).W J)).Y ?_;rintro _ a _ ⟨rfl,aH⟩;refine⟨.inl aH,?_⟩;obtain⟨bI,bJ⟩:=zt E bh aE;have bK:nc s j tl=c:=by
   rw[bJ];unfold bu;rw[aE];simp only;rw[u7,r8,H];rfl
  rw[m3 bI,bK,bz,bA];refine bH aH (by show k<(dL f1.cs f0.cs k).length;rw[zm P];omega) λN d23=>?_;rw[aR];have aJ:=cC.comp bB aC (cC.comp (J.ab _) (λq r h=>.inl ⟨q,h⟩) d23);have e:et {dn s s0 m j with ho:=(dn s s0 m j).ho.set j {f0 with cs:=dL f1.cs f0.cs k}} j {f0 with cs:=dL f1.cs f0.cs k} ((dL f1.cs f0.cs k).set k c)={dn s s0 m j with ho:=(dn s s0 m j).ho.set j {f0 with cs:=dL f1.cs f0.cs (k+1)}}:=by
   unfold et;simp only;rw[List.set_set,vR P H]
  rw[e]at aJ;refine bx _ ⟨aJ,?_⟩;obtain⟨bL,b2,b3,b6,b8⟩:=id d23;refine aw.ab (bq aA J) bL λr G h be=>?_;have h:=h.elim False.elim id;rcases be with⟨q,be⟩|be
  .rcases aC q r be with⟨b9,be⟩|be
   .have:=be.2;omega
   .omega
  .have be:r=gy:=be;omega
 .rintro x bw ⟨d20,_⟩;refine b4 Ω (aS _ ?_);have e:({dn s s0 m j with ho:=(dn s s0 m j).ho.set j {f0 with cs:=dL f1.cs f0.cs (bs f1.an).length}}:am)=dn s s0 m (j+1):=by
   rw[show(bs f1.an).length=f0.cs.length by omega,vQ P,SM ⟨bf,ao,ap⟩];show(⟨s.zero,dL s.d9 s0.d9 m,(dL s.ho s0.ho j).set j f1,s0.dC⟩:am)=_;rw[vR ak E];rfl
  rw[<-e];exact cC.comp (U.ab _) (λq r h=>.inl ⟨q,h.1⟩) d20
end
def GQ(w:x5)(pl:Λ)(r:x4)(I:x5):Prop:=Ext w I/\((∃cs:List x4,r= .tuple #[.pointer ν,.agg cs.toArray,.bool sp]/\cs.length=8/\∀u∈cs,u.oneCell'=s2)\/∃f af ag av Z aL s cs,r= .tuple #[Γ af,.agg cs.toArray,.bool s2]/\ix (pl.take 300)=σ f/\(cY f).k<=1000/\
 fC Z aL I af ag av (cY f) s/\kd [] Z aL I af ag av (cY f) s s cs/\∀r,Z r->w.heap.size<=r)
section
variable{w:x5}{af ag:Nat}{A R:ak}{n:aJ}{s:am}{t:aD}
theorem Ui{i:Nat}(h:bD w af ag A R n s t)(a:Laid w)(ac:lB n s (i:Int)=s2):aq x8 Bi [Γ af,Δ (i:Int)] w λr I=>Ext w I/\r= .tuple #[Δ (dW n s (i:Int)).1,Δ (dW n s (i:Int)).2,Δ 0]:=by
 obtain⟨_,x,J,_⟩:=FJ h.2.2.2.1 ac;rw[u7]at J;refine(RP h a).Y ?_;rintro r j _ ⟨e,_,f⟩;refine⟨e,?_⟩;rw[f x ac (by rw[u7];exact J)];unfold dW;rw[np J]
end
theorem Uj{l:Λ}{of:Int->Int}:(l=[]/\(cJ k l of).2= -1)\/(cJ k l of).2∈l:=by
 have key:∀(l:Λ)(p:Int×Int),(l.foldl (fk of) p).2=p.2\/(l.foldl (fk of) p).2∈l:=λl=>by
  induction l<;>grind [fk]
 cases l<;>grind [cJ,fk]
def gS(s:am):Nat:=(s.d9.map λx=>(az x).length).sum
def eN(k:Int)(s:am):Nat:=gS s+(k-s.zero).toNat
theorem Uk{l:List Nat}{i x y:Nat}(h:l[i]?=σ x):(l.set i y).sum+x=l.sum+y:=by
 induction l generalizing i with
 |nil=>simp at h
 |cons a l e=>
  cases i<;>grind
theorem GR{s:am}{i:Nat}{x y:bp}(J:s.d9[i]?=σ x):gS {s with d9:=s.d9.set i y}+(az x).length=gS s+(az y).length:=by
 unfold gS;rw[U2];exact Uk (by grind)
section
variable{n:aJ}{s:am}
theorem Ul{x:bp}(hm:0<=x.mask)(h:v∈az x):(az {x with mask:=((x.mask.toNat ||| 2 ^ v.toNat:Nat):Int)}).length<(az x).length:=by
 have ac:=(e2.1 h).1.1;have a:((x.mask.toNat:Nat):Int)=x.mask:=Ω
 have e:az {x with mask:=((x.mask.toNat ||| 2 ^ v.toNat:Nat):Int)}=(az x).filter λu=>decide (u≠v):=by
  unfold az;rw[List.filter_filter]
  grind [List.filter_congr,y7]
 grind [List.filter_sublist]
theorem Um{i:Int}(e:bd n.k n.d6 s)(f:bV s):fB n.k n.d6 s (bh n.k s (fc i v)).1/\(bh n.k s (fc i v)).1.zero=s.zero/\(∀j u,bQ n (bh n.k s (fc i v)).1 j u=bQ n s j u)/\
  ((bh n.k s (fc i v)).2≠0->(bh n.k s (fc i v)).1=s/\∀x,dH s i v=σ x->b6 n.k s.zero (x.un.getD v.toNat 0)<n.k)/\
  ((bh n.k s (fc i v)).2=0->gS (bh n.k s (fc i v)).1<gS s/\v∉aU (bh n.k s (fc i v)).1 i):=by
 have a:bh n.k s (fc i v)=match dH s i v with
  |none=>(s,1)
  |some x=>if b6 n.k s.zero (x.un.getD v.toNat 0)<n.k then(s,7)else(eb s i.toNat v.toNat,0):=by
  grind [bh,fc]
 cases ae:dH s i v with
 |none=>
  rw[ae]at a;rw[a];exact⟨.rfl e f,rfl,λ_ _=>rfl,by grind,by grind⟩
 |some x=>
  rw[ae]at a;simp only at a;obtain⟨r,J,w,ac⟩:=kc ae;by_cases h:b6 n.k s.zero (x.un.getD v.toNat 0)<n.k
  .rw[m3 h]at a;rw[a];exact⟨.rfl e f,rfl,λ_ _=>rfl,by grind,Ω⟩
  .rw[m5 h]at a;have y:=(e2.1 ac).1;have z:(eb s i.toNat v.toNat).zero=s.zero:=by rw[kX J]
   have q:fB n.k n.d6 s (bh n.k s (fc i v)).1:=Gf e f (by show 4<5;omega) (by grind [Gd]) (by grind);refine⟨q,by grind,by grind [SF],by grind,λ_=>⟨?_,λhm=>?_⟩⟩
   .rw[a];show gS (eb s i.toNat v.toNat)<gS s;rw[kX J];have A:=(x6.1 J).1;have B:=e.d9;have h1:=e.var i.toNat x _ J (v8 Ω);have C:=Ul h1.2.2.1 ac
    grind [GR]
   grind [Gd]
theorem zD{i:Int}:∀(L:Λ)(s:am)(b:Bool),bd n.k n.d6 s->bV s->fB n.k n.d6 s (dy n.k i L (s,b)).1/\(dy n.k i L (s,b)).1.zero=s.zero/\(∀j u,bQ n (dy n.k i L (s,b)).1 j u=bQ n s j u)/\gS (dy n.k i L (s,b)).1<=gS s/\
  ((dy n.k i L (s,b)).2=sp->b=sp/\(dy n.k i L (s,b)).1=s)/\((dy n.k i L (s,b)).2=s2->b=s2\/gS (dy n.k i L (s,b)).1<gS s)/\
  ∀v∈L,v∈aU (dy n.k i L (s,b)).1 i->0<=i->∀x,s.d9[i.toNat]?=σ x->x.gone=0->b6 n.k s.zero (bQ n s i v)<n.k
 |[],s,b,a,q=>⟨.rfl a q,rfl,λ_ _=>rfl,o6 _,λh=>⟨h,rfl⟩,λh=>.inl h,by grind⟩
 |v::L,s,b,a,q=>by
  obtain⟨f,B,O,C,E⟩:=Um (i:=i) a q;have e:dy n.k i (v::L) (s,b)=dy n.k i L ((bh n.k s (fc i v)).1,decide ((bh n.k s (fc i v)).2=0)||b):=rfl;obtain⟨r,F,P,G,Q,R,S⟩:=zD L (bh n.k s (fc i v)).1 (decide ((bh n.k s (fc i v)).2=0)||b) f.ok f.gw;rw[e];have H:gS (bh n.k s (fc i v)).1<=gS s:=by
   grind
  refine⟨f.F r,F.F B,by grind,X3 G H,λh=>?_,λh=>?_,λu hu w T x J U=>?_⟩
  .grind
  .grind
  .rcases List.mem_cons.1 hu with rfl|hu
   .by_cases h:(bh n.k s (fc i u)).2=0
    .exact m6 (r.fm i u w) (E h).2
    .have V:u∈az x:=by
      have h1:=f.fm i u (r.fm i u w)
      grind [aU]
     have ac:dH s i u=σ x:=by
      grind [dH]
     have W:=(C h).2 x ac;have I:=(x6.1 J).1;have K:=a.d9;obtain⟨z,M⟩:=aI (l:=n.d6) (i:=i.toNat) Ω;have X:=(a.var i.toNat x z J M).1
     grind [e2,eF,bQ,fz]
   .have A:=f.same;have I:=(x6.1 J).1;have K:=A.d9;obtain⟨y,N⟩:=aI (l:=(bh n.k s (fc i v)).1.d9) (i:=i.toNat) Ω;have h1:=A.var i.toNat x y J N
    grind
def lH(n:aJ)(s:am)(i:Int):Prop:=dw s i.toNat=sp->aU s i≠[]/\(dW n s i).1=0/\∀v∈aU s i,b6 n.k s.zero (bQ n s i v)<n.k
theorem zE{i:Int}(a:bd n.k n.d6 s):(dW n s i).2<0↔aU s i=[]:=by
 grind [Uj,dW,aU,e2]
theorem Un{i:Int}(f:bd n.k n.d6 s)(r:bV s)(w:0<=i)(hi:i<n.d6.length)(F:dw s i.toNat=sp)(G:aU s i≠[]):
  (bh n.k s (mf i (dW n s i).1)).2=0/\fB n.k n.d6 s (bh n.k s (mf i (dW n s i).1)).1/\gS (bh n.k s (mf i (dW n s i).1)).1=gS s/\(bh n.k s (mf i (dW n s i).1)).1.zero=min (s.zero+(dW n s i).1) n.k:=by
 have H:=f.d9;obtain⟨x,J⟩:=aI (l:=s.d9) (i:=i.toNat) Ω;have A:x.gone=0:=by grind [dw]
 have I:aU s i=az x:=by grind [aU]
 have K:∀v∈az x,bQ n s i v=x.un.getD v.toNat 0:=λv ac=>by
  obtain⟨z,h⟩:=aI (l:=n.d6) (i:=i.toNat) Ω;have L:=(f.var i.toNat x z J h).1
  grind [e2,eF,bQ,fz]
 have B:=Gc (i:=i) f;have M:=(Gb (c:=(dW n s i).1) (SE (i:=i) f)).1 (S5 _);have C:(dW n s i).1<=jl x:=SA (by grind) (by grind);have q:=(SB (k:=n.k) (a:=mf i (dW n s i).1) w J A).2.1 rfl B C;have E:∀j u,u∈aU (bh n.k s (mf i (dW n s i).1)).1 j->u∈aU s j:=λj u hu=>by
  rw[q]at hu;have e:aU (iT s i.toNat x (λg=>cK n.k g (dW n s i).1) λg=>b6 n.k g (dW n s i).1) j=aU s j:=F8 J rfl Ga;have hu:u∈aU (iT s i.toNat x (λg=>cK n.k g (dW n s i).1) λg=>b6 n.k g (dW n s i).1) j:=hu
  grind
 have h:(bh n.k s (mf i (dW n s i).1)).1.zero=min (s.zero+(dW n s i).1) n.k:=by rw[q];rfl
 have N:=f.zero;refine⟨by rw[q],Gf f r (by show 2<5;omega) E Ω,?_,h⟩;rw[q];show gS (iT s i.toNat x _ _)=gS s;have:=GR (s:=s) (y:={x with un:=eG (λg=>cK n.k g (dW n s i).1) x.un (az x)}) J;rw[Ga]at this;exact Nat.add_right_cancel this
theorem GS{i:Int}{b:Bool}(j:bd n.k n.d6 s)(G:bV s)(A:0<=i)(hi:i<n.d6.length):fB n.k n.d6 s (fl n i (s,b)).1/\eN n.k (fl n i (s,b)).1<=eN n.k s/\
  ((fl n i (s,b)).2.2=s2->dw s i.toNat=sp/\aU (fl n i (s,b)).1 i=[])/\((fl n i (s,b)).2.2=sp->(fl n i (s,b)).2.1=s2->b=s2\/eN n.k (fl n i (s,b)).1<eN n.k s)/\
  ((fl n i (s,b)).2.2=sp->(fl n i (s,b)).2.1=sp->b=sp/\(fl n i (s,b)).1=s/\lH n s i):=by
 have T:=j.d9;obtain⟨x,J⟩:=aI (l:=s.d9) (i:=i.toNat) Ω;generalize a:fl n i (s,b)=r;unfold fl at a;simp only at a;by_cases B:dw s i.toNat=s2
 .rw[m3 B]at a;subst a;exact⟨.rfl j G,o6 _,by grind,by grind,λ_ h=>⟨h,rfl,λC=>(by rw[B]at C;cases C)⟩⟩
 rw[m5 B]at a;have U:dw s i.toNat=sp:=by grind
 have E:x.gone=0:=by grind [dw]
 obtain⟨f,K,L,M,H,N,w⟩:=zD (n:=n) (i:=i) (aU s i) s sp j G;generalize dy n.k i (aU s i) (s,sp)=q at f K L M H N w a;have O:eN n.k q.1<=eN n.k s:=by grind [eN]
 have P:dw q.1 i.toNat=sp:=by
  have V:=f.same.d9;obtain⟨y,I⟩:=aI (l:=q.1.d9) (i:=i.toNat) Ω;unfold dw;rw[I];simpa[(f.same.var _ x y J I).1]using E
 by_cases Q:(dW n q.1 i).2<0
 .grind [zE,fB.ok]
 .have z:aU q.1 i≠[]:=by grind [zE,fB.ok]
  rw[m5 Q]at a;by_cases F:0<(dW n q.1 i).1
  .obtain⟨W,R,X,Y⟩:=Un f.ok f.gw A hi P z;rw[m3 F]at a;have Z:q.1.zero<n.k:=by
    obtain⟨v,ac⟩:=List.exists_mem_of_ne_nil _ z;have h1:=w v (f.fm i v ac) ac A x J E;have C:=(lC (n:=n) (s:=s) (i:=i) (v:=v) j).1
    grind [b6]
   have S:eN n.k (bh n.k q.1 (mf i (dW n q.1 i).1)).1<eN n.k s:=by
    grind [eN]
   subst a;exact⟨f.F R,Nat.le_of_lt S,by grind,by grind,by grind⟩
  .rw[m5 F]at a;subst a;refine⟨f,O,by grind,λ_ h=>?_,λ_ h=>?_⟩
   .grind [eN]
   .have h:(q.2||b)=sp:=h;rw[T3]at h;obtain⟨_,e⟩:=H h.1;rw[e]at F z w;have aa:=Gc (i:=i) j;exact⟨h.2,e,λ_=>⟨z,Ω,λv ac=>w v ac ac A x J E⟩⟩
theorem GU:∀(L:List Nat)(s:am)(b:Bool),bd n.k n.d6 s->bV s->(∀i∈L,i<n.d6.length)->fB n.k n.d6 s (il n L (s,b)).1/\eN n.k (il n L (s,b)).1<=eN n.k s/\
  ((il n L (s,b)).2.2=s2->(il n L (s,b)).2.1=sp/\∃i∈L,dw s i=sp/\aU (il n L (s,b)).1 (i:Int)=[])/\((il n L (s,b)).2.2=sp->(il n L (s,b)).2.1=s2->b=s2\/eN n.k (il n L (s,b)).1<eN n.k s)/\
  ((il n L (s,b)).2.2=sp->(il n L (s,b)).2.1=sp->b=sp/\(il n L (s,b)).1=s/\∀i∈L,lH n s (i:Int))
 |[],s,b,e,w,_=>⟨.rfl e w,o6 _,λh=>(by cases h),λ_ h=>.inl h,λ_ h=>⟨h,rfl,by grind⟩⟩
 |i::L,s,b,e,w,z=>by
  obtain⟨a,A,B,G,H⟩:=GS (i:=(i:Int)) (b:=b) e w Ω (by have:=z i (.head _);omega);rw[u7]at B;generalize f:il n (i::L) (s,b)=r;unfold il at f;generalize fl n (i:Int) (s,b)=q at a A B G H f;by_cases I:q.2.2=s2
  .grind
  .have Q:q.2.2=sp:=by grind
   rw[m5 I]at f;subst f;obtain⟨K,M,N,R,S⟩:=GU L q.1 q.2.1 a.ok a.gw (by grind);refine⟨a.F K,X3 M A,λh=>?_,λh1 O=>?_,λh1 O=>?_⟩
   .obtain⟨h1,j,C,E,P⟩:=N h;refine⟨h1,j,.tail _ C,?_,P⟩;have T:=z j (.tail _ C);have U:=e.d9;have V:=a.same.d9;obtain⟨x,J⟩:=aI (l:=s.d9) (i:=j) Ω;obtain⟨y,F⟩:=aI (l:=q.1.d9) (i:=j) Ω;unfold dw at E ⊢;rw[F]at E;rw[J];have:=(a.same.var j x y J F).1
    grind
   all_goals grind
theorem GV(a:bd n.k n.d6 s)(e:bV s):fB n.k n.d6 s (fM n s).1/\((fM n s).2.2=s2->(fM n s).2.1=sp/\∃i<n.d6.length,dw s i=sp/\aU (fM n s).1 (i:Int)=[])/\
  ((fM n s).2.2=sp->(fM n s).2.1=s2->eN n.k (fM n s).1<eN n.k s)/\((fM n s).2.2=sp->(fM n s).2.1=sp->(fM n s).1=s/\∀i<n.d6.length,lH n s (i:Int)):=by
 grind [GU,fM]
end
section
variable{n:aJ}{s:am}
def fN(n:aJ)(s:am):Prop:=∀i<n.d6.length,lH n s (i:Int)
theorem GW{i:Int}(a:bd n.k n.d6 s)(f:0<=i):∀(L:Λ)(b:Bool),(∀v∈L,v∈aU s i/\b6 n.k s.zero (bQ n s i v)<n.k)->dy n.k i L (s,b)=(s,b)
 |[],_,_=>rfl
 |v::L,b,h=>by
  obtain⟨ac,r⟩:=h v (.head _);have e:bh n.k s (fc i v)=(s,7)\/bh n.k s (fc i v)=(s,1):=by
   unfold bh fc;simp only;rw[m5 Ω,m5 Ω,m5 Ω,m5 Ω,m3 trivial];cases ae:dH s i v with
   |none=>grind
   |some x=>
    obtain⟨_,J,_,w⟩:=kc ae;left;simp only;have y:=(x6.1 J).1;have A:=a.d9;obtain⟨z,j⟩:=aI (l:=n.d6) (i:=i.toNat) Ω;have B:=(a.var i.toNat x z J j).1
    grind [e2,eF,bQ,fz]
  have q:dy n.k i (v::L) (s,b)=dy n.k i L (s,b):=by
   grind [dy,Decidable.decide]
  rw[q];exact GW a f L b (by grind)
theorem GX(f:bd n.k n.d6 s):∀(L:List Nat),(∀i∈L,lH n s (i:Int))->il n L (s,sp)=(s,sp,sp)
 |[],_=>rfl
 |i::L,h=>by
  have ac:=h i (.head _);have e:fl n (i:Int) (s,sp)=(s,sp,sp):=by
   unfold fl;by_cases a:dw s (i:Int).toNat=s2
   .rw[m3 a]
   .rw[m5 a];obtain⟨h1,j,q⟩:=ac (by grind)
    grind [GW,zE]
  unfold il;rw[e];simp only;rw[m5 Φ];exact GX f L (by grind)
end
theorem GY:∀{l m:List Nat},l.length=m.length->(∀(i:Nat)x y,l[i]?=σ x->m[i]?=σ y->x<=y)->l.sum<=m.sum/\((∃(i:Nat)(x y:Nat),l[i]?=σ x/\m[i]?=σ y/\x<y)->l.sum<m.sum)
 |[],[],_,_=>by grind
 |[],_::_,h,_=>by simp at h
 |_::_,[],h,_=>by simp at h
 |a::l,b::m,h,e=>by
  obtain⟨r,j⟩:=GY (by simpa using h) λi x y J f=>e (i+1) x y (by grind) (by grind);have s:=e 0 a b rfl rfl;rw[List.sum_cons,List.sum_cons];refine⟨Ω,λ⟨i,x,y,J,f,q⟩=>?_⟩;cases i with
  |zero=>grind
  |succ i=>
   have:=j ⟨i,x,y,by simpa using J,by simpa using f,q⟩;omega
theorem GZ{c:Nat}:∀{l:List Nat},(∀x∈l,x<=c)->l.sum<=l.length*c
 |[],_=>Ξ
 |a::l,h=>by
  have h1:=GZ λx J=>h x (.tail _ J);have e:=h a (.head _)
  grind [T6]
def lI(M:Nat):List Nat->Nat
 |[]=>0
 |u::us=>(M-u)*(M+1) ^ us.length+lI M us
theorem zF{M:Nat}:∀us:List Nat,lI M us<(M+1) ^ us.length
 |[]=>by simp[lI]
 |u::us=>by
  have a:=zF (M:=M) us;have h:(M-u)*(M+1) ^ us.length<=M*(M+1) ^ us.length:=V4 _ (Nat.sub_le _ _)
  grind [lI]
theorem G0{M:Nat}:∀(us vs:List Nat)(i:Nat),us.length=vs.length->(∀v∈vs,v<=M)->(∀(j:Nat)u v,j<i->us[j]?=σ u->vs[j]?=σ v->u<=v)->(∃u v,us[i]?=σ u/\vs[i]?=σ v/\u<v)->lI M vs<lI M us
 |[],_,_,_,_,_,⟨_,_,h,_⟩=>by simp at h
 |_::_,[],_,h,_,_,_=>by simp at h
 |a::us,b::vs,i,f,q,r,⟨u,v,hu,ac,w⟩=>by
  have f:us.length=vs.length:=by grind
  have key:a<b->lI M (b::vs)<lI M (a::us):=λs=>by
   have x:=q b (.head _);have h1:=zF (M:=M) vs;unfold lI;rw[f];have y:(M-b+1)*(M+1) ^ vs.length<=(M-a)*(M+1) ^ vs.length:=V4 _ Ω
   grind
  cases i with
  |zero=>
   grind
  |succ i=>
   have z:=r 0 a b Ω rfl rfl;by_cases s:a<b
   .omega
   have e:a=b:=Ω
   have A:=G0 us vs i f (λv ac=>q v (.tail _ ac)) (by grind) (by grind)
   grind [lI]
section
variable{n:aJ}{s s':am}
def n8(n:aJ)(s:am)(i:Nat):Nat:=((aU s (i:Int)).map λv=>(bQ n s (i:Int) v).toNat).sum
def oa(n:aJ)(s:am):List Nat:=(X0 n.d6.length).map (n8 n s)
def rt(n:aJ):Nat:=32*n.k.toNat
theorem Uo{i:Nat}(a:bd n.k n.d6 s):n8 n s i<=rt n:=by
 unfold n8 rt;have h:=GZ (c:=n.k.toNat) (l:=(aU s (i:Int)).map λv=>(bQ n s (i:Int) v).toNat) λx J=>by
  obtain⟨v,_,rfl⟩:=l9.1 J;have:=(lC (n:=n) (s:=s) (i:=(i:Int)) (v:=v) a).2;omega
 rw[r9]at h;exact X3 h (V4 _ (SD a))
theorem G1{i:Nat}(a:bd n.k n.d6 s)(f:bd n.k n.d6 s')(e:aU s' (i:Int)=aU s (i:Int))(h:∀v∈aU s (i:Int),bQ n s (i:Int) v<=bQ n s' (i:Int) v):n8 n s i<=n8 n s' i/\((∃v∈aU s (i:Int),bQ n s (i:Int) v<bQ n s' (i:Int) v)->n8 n s i<n8 n s' i):=by
 unfold n8;rw[e];have q:=GY (l:=(aU s (i:Int)).map λv=>(bQ n s (i:Int) v).toNat) (m:=(aU s (i:Int)).map λv=>(bQ n s' (i:Int) v).toNat) (by grind) λp x y J j=>by
  grind
 refine⟨q.1,λ⟨v,ac,r⟩=>q.2 ?_⟩;obtain⟨p,ae⟩:=Y8.1 ac;refine⟨p,(bQ n s (i:Int) v).toNat,(bQ n s' (i:Int) v).toNat,by grind,by grind,?_⟩;have:=(lC (i:=(i:Int)) (v:=v) a).1;omega
open Classical in
noncomputable def gT(n:aJ)(s:am):Nat:=(2*eN n.k s+if fN n s then 1 else 0)*(rt n+1) ^ n.d6.length+lI (rt n) (oa n s)
theorem G2:lI (rt n) (oa n s)<(rt n+1) ^ n.d6.length:=by
 grind [zF,oa,r9]
theorem G3{a b f e:Nat}(h:a<b)(he:e<f):a*f+e<b*f+j:=by
 have:(a+1)*f<=b*f:=V4 _ h
 grind
theorem Up(h:eN n.k s'<eN n.k s):gT n s'<gT n s:=by
 unfold gT;refine G3 ?_ G2
 grind
theorem G4(h:eN n.k s'=eN n.k s)(a:fN n s)(e:¬fN n s'):gT n s'<gT n s:=by
 unfold gT;rw[m3 a,m5 e,h];exact G3 Ω G2
theorem G5{i:Nat}(h:eN n.k s'=eN n.k s)(a:fN n s)(w:bd n.k n.d6 s)(e:bd n.k n.d6 s')(x:∀q,aU s' q=aU s q)(hi:i<n.d6.length)(z:∀q:Nat,q<=i->∀v∈aU s (q:Int),bQ n s (q:Int) v<=bQ n s' (q:Int) v)(A:∃v∈aU s (i:Int),bQ n s (i:Int) v<bQ n s' (i:Int) v):gT n s'<gT n s:=by
 by_cases f:fN n s'
 .unfold gT;rw[m3 a,m3 f,h];have j:∀(s:am)(q:Nat),q<n.d6.length->(oa n s)[q]?=σ (n8 n s q):=λs q y=>by grind [oa]
  have r:∀s:am,(oa n s).length=n.d6.length:=by grind [oa]
  have:=G0 (oa n s) (oa n s') i (by rw[r,r]) (λv ac=>by
   obtain⟨q,_,rfl⟩:=l9.1 ac;exact Uo e) (λq u v y hu ac=>by
   rw[j s q Ω]at hu;rw[j s' q Ω]at ac;cases hu;cases ac;exact(G1 w e (x _) (by grind)).1) (by grind [G1])
  omega
 .exact G4 h a f
end
def projM(j pos v c:Int):fL:=⟨0,j,pos,v,c⟩
def gA(k:Int)(j pos:Nat)(p:am×Bool)(v:Int):am×Bool:=match dx p.1 j pos v with
 |none=>p
 |some (f,_,_)=>if 0<eM k p.1 f pos v then((bh k p.1 (projM j pos v (eM k p.1 f pos v))).1,s2)else p
def qk(k:Int)(j:Nat)(sc:Λ)(p:am×Bool)(pos:Nat):am×Bool:=(aU p.1 (sc.getD pos 0)).foldl (gA k j pos) p
def eS(k:Int)(p:am×Bool)(j:Nat):am×Bool:=match p.1.ho[j]? with
 |some f=>(X0 f.sc.length).foldl (qk k j f.sc) p
 |none=>p
section
variable{n:aJ}{s:am}
theorem zG{u:Nat}{f:bL}{x:bp}{i:Int}{t un:Int->Int}(J:s.d9[u]?=σ x):bQ n (fA s j f pos u x v t un) i w=if i.toNat=u/\w.toNat=v.toNat/\eF n i w/\v.toNat<x.un.length then un (x.un.getD v.toNat 0)else bQ n s i w:=by
 unfold bQ;by_cases aC:eF n i w
 .rw[m3 aC,m3 aC];unfold fz;have e:(fA s j f pos u x v t un).d9=s.d9.set u {x with un:=x.un.set v.toNat (un (x.un.getD v.toNat 0))}:=rfl
  grind
 grind
structure im(n:aJ)(s s':am):Prop where
 ok:bd n.k n.d6 s'
 gw:bV s'
 same:dJ s s'
 val:∀a,ig s a->eK n.k s' a=eK n.k s a
 fm:∀i,aU s' i=aU s i
 zero:s'.zero=s.zero
 un:∀i u,bQ n s i u<=bQ n s' i u
theorem im.rfl(a:bd n.k n.d6 s)(e:bV s):im n s s:=⟨a,e,.rfl,Ω,λ_=>Eq.refl _,Eq.refl _,Ω⟩
theorem im.F{a b c:am}(h:im n a b)(g:im n b c):im n a c:=
 ⟨g.ok,g.gw,h.same.F g.same,λx J=>(g.val x (vP h.same J)).F (h.val x J),λi=>(g.fm i).F (h.fm i),g.zero.F h.zero,λi u=>Int.le_trans (h.un i u) (g.un i u)⟩
def o3(n:aJ)(s s':am):Prop:=∃i:Nat,i<n.d6.length/\∃v∈aU s (i:Int),bQ n s (i:Int) v<bQ n s' (i:Int) v
theorem o3.then{a b c:am}(h:o3 n a b)(g:im n b c):o3 n a c:=by
 obtain⟨i,hi,v,ac,e⟩:=h;exact⟨i,hi,v,ac,Int.lt_of_lt_of_le e (g.un _ _)⟩
theorem o3.of{a b c:am}(h:im n a b)(g:o3 n b c):o3 n a c:=by
 obtain⟨i,hi,v,ac,e⟩:=g;exact⟨i,hi,v,by grind [im.fm],Int.lt_of_le_of_lt (h.un _ _) e⟩
def ru(n:aJ)(s:am):Prop:=∃i:Nat,i<n.d6.length/\dw s i=sp/\∃v∈aU s (i:Int),bQ n s (i:Int) v=n.k
theorem ru.a7{s':am}(h:ru n s)(f:bd n.k n.d6 s)(hk:im n s s'):ru n s':=by
 obtain⟨i,hi,a,v,ac,hu⟩:=h;have j:=f.d9;have q:=hk.same.d9;obtain⟨x,J⟩:=aI (l:=s.d9) (i:=i) Ω;obtain⟨y,e⟩:=aI (l:=s'.d9) (i:=i) Ω;refine⟨i,hi,?_,v,by grind [im.fm],?_⟩
 .unfold dw at a ⊢;rw[J]at a;rw[e];have:=(hk.same.var i x y J e).1
  grind
 .have h1:=hk.un i v;have r:=(lC (i:=(i:Int)) (v:=v) hk.ok).2;omega
def ob(k:Int)(s:am)(j pos:Nat)(v:Int):Int:=match dx s j pos v with
 |none=>0
 |some (f,_,_)=>eM k s f pos v
theorem G6{f:bL}(a:bd n.k n.d6 s)(ah:f∈s.ho):0<=eM n.k s f pos v/\eM n.k s f pos v<=n.k:=by
 have hk:=a.ep;exact⟨room_le.2 ⟨Ω,λt _=>(nh a ah).1⟩,(room_le.1 (S5 _)).1⟩
theorem Uq{b:Bool}(A:bd n.k n.d6 s)(F:bV s):im n s (gA n.k j pos (s,b) v).1/\((gA n.k j pos (s,b) v).2=s2->b=s2\/o3 n s (gA n.k j pos (s,b) v).1\/ru n (gA n.k j pos (s,b) v).1)/\
  ((gA n.k j pos (s,b) v).2=sp->b=sp/\(gA n.k j pos (s,b) v).1=s/\ob n.k s j pos v=0):=by
 unfold gA ob;simp only;cases ae:dx s (j:Int) (pos:Int) v with
 |none=>exact⟨.rfl A F,λh=>.inl h,by grind⟩
 |some q=>
  obtain⟨f,u,x⟩:=q;obtain⟨_,_,ah,S,hu,ac⟩:=ng ae;obtain⟨T,J,U,O⟩:=kc ac;rw[u7]at ah hu;have I:=x7 ah;have K:=G6 (pos:=pos) (v:=v) A I;simp only;by_cases G:0<eM n.k s f pos v
  .rw[m3 G];have q:=(zg (k:=n.k) (a:=projM j pos v (eM n.k s f pos v)) ae).2.1 rfl K (by show _<=eM n.k s f (pos:Int).toNat v;rw[u7];exact S5 _);unfold projM at q;simp only[u7]at q;have hm:=vM (m:=projM j pos v (eM n.k s f pos v)) A F;have B:=vO (m:=projM j pos v (eM n.k s f pos v)) A;unfold projM at hm B ⊢;obtain⟨C,E,H⟩:=hm;have P:=(room_le).1 (S5 (eM n.k s f pos v));obtain⟨V,W⟩:=ka A I;have X:=ik (v:=v.toNat) A J;have Q:=(e2.1 O).1;generalize Y:eM n.k s f pos v=c at q C E H B P K G;obtain⟨r,L⟩:∃r,r=fA s j f pos u.toNat x v (λg=>cK n.k g c) λg=>b6 n.k g c:=⟨_,rfl⟩;rw[<-L]at q;rw[q]at C E H B ⊢;simp only at C E H B ⊢;refine⟨⟨C,E,B,λa Z=>?_,by grind [zf],by rw[L];rfl,λi w=>?_⟩,λ_=>.inr ?_,by grind⟩
   .grind [n5]
   .grind [zG,bQ,fz,b6]
   .have aa:=(x6.1 J).1;have ab:=A.d9;obtain⟨z,M⟩:=aI (l:=n.d6) (i:=u.toNat) Ω;have ad:=(A.var u.toNat x z J M).1;have af:=A.eZ.2.2 z (x7 M);have aC:eF n (u.toNat:Int) v:=⟨Ω,Ω,Q.1,by grind⟩;have R:v∈aU s (u.toNat:Int):=by
     grind [aU]
    have e:bQ n s (u.toNat:Int) v=x.un.getD v.toNat 0:=by grind [bQ,fz]
    have ag:bQ n r (u.toNat:Int) v=b6 n.k (x.un.getD v.toNat 0) c:=by grind [zG]
    by_cases hk:x.un.getD v.toNat 0<n.k
    .refine .inl ⟨u.toNat,Ω,v,R,?_⟩
     grind [b6]
    .refine .inr ⟨u.toNat,Ω,?_,v,?_,?_⟩
     .obtain⟨y,N⟩:=aI (l:=r.d9) (i:=u.toNat) (by have:=B.d9;omega);unfold dw;rw[N];have:=(B.var u.toNat x y J N).1
      grind
     all_goals grind [zf,b6]
  .rw[m5 G];exact⟨.rfl A F,λh=>.inl h,by grind⟩
end
section
variable{n:aJ}{s:am}
def oc(n:aJ)(s:am)(b:Bool)(r:am×Bool)(R:Prop):Prop:=im n s r.1/\(r.2=s2->b=s2\/o3 n s r.1\/ru n r.1)/\(r.2=sp->b=sp/\r.1=s/\R)
theorem oc.F{b:Bool}{r q:am×Bool}{R:Prop}{R':am->Prop}(h:oc n s b r R)(g:oc n r.1 r.2 q (R' r.1)):oc n s b q (R/\R' s):=by
 obtain⟨h1,e,j⟩:=h;obtain⟨g1,f,w⟩:=g;refine⟨h1.F g1,λa=>?_,λa=>?_⟩
 .rcases f a with h|h|h
  .rcases e h with h|h|h
   .grind
   .exact .inr (.inl (h.then g1))
   .exact .inr (.inr (h.a7 h1.ok g1))
  .exact .inr (.inl (.of h1 h))
  grind
 grind
theorem tp{α:Type}{step:am×Bool->α->am×Bool}{R:α->am->Prop}(h:∀a s b,bd n.k n.d6 s->bV s->oc n s b (step (s,b) a) (R a s)):
  ∀(L:List α)(s:am)(b:Bool),bd n.k n.d6 s->bV s->oc n s b (L.foldl step (s,b)) (∀a∈L,R a s)
 |[],s,b,e,f=>⟨.rfl e f,λh=>.inl h,by grind⟩
 |a::L,s,b,e,f=>by
  have h1:=h a s b e f;have j:=tp h L (step (s,b) a).1 (step (s,b) a).2 h1.1.ok h1.1.gw;obtain⟨q,r,w⟩:=oc.F (R':=λs=>∀a∈L,R a s) h1 j;refine⟨q,r,λx=>?_⟩
  grind
theorem G7{b:Bool}(a:bd n.k n.d6 s)(e:bV s):oc n s b (eS n.k (s,b) j) (∀f,s.ho[j]?=σ f->∀pos∈X0 f.sc.length,∀v∈aU s (f.sc.getD pos 0),ob n.k s j pos v=0):=by
 unfold eS;simp only;cases ah:s.ho[j]? with
 |none=>exact⟨.rfl a e,λh=>.inl h,by grind⟩
 |some f=>
  simp only;have h1:∀(pos:Nat)(s:am)(b:Bool),bd n.k n.d6 s->bV s->oc n s b (qk n.k j f.sc (s,b) pos) (∀v∈aU s (f.sc.getD pos 0),ob n.k s j pos v=0):=λpos s b a e=>
   tp (λv s b a e=>Uq a e) (aU s (f.sc.getD pos 0)) s b a e
  obtain⟨r,w,q⟩:=tp h1 (X0 f.sc.length) s b a e;exact⟨r,w,λh=>⟨(q h).1,(q h).2.1,λg x=>by cases x;exact(q h).2.2⟩⟩
def rv(n:aJ)(O:List Nat)(s:am):Prop:=∀j∈O,∀f,s.ho[j]?=σ f->∀pos∈X0 f.sc.length,∀v∈aU s (f.sc.getD pos 0),ob n.k s j pos v=0
def dM(n:aJ)(O:List Nat)(s:am):am×Bool×Bool:=if(fM n s).2.2=s2\/(fM n s).2.1=s2 then fM n s else((O.foldl (eS n.k) ((fM n s).1,sp)).1,(O.foldl (eS n.k) ((fM n s).1,sp)).2,sp)
theorem G8{s':am}(h:dJ s s')(a:∀i,aU s' i=aU s i):gS s'=gS s:=by
 unfold gS;congr 1;refine Y3 λi=>?_;rw[u4,u4];have e:=h.d9;by_cases hi:i<s.d9.length
 .obtain⟨x,J⟩:=aI (l:=s.d9) hi;obtain⟨y,f⟩:=aI (l:=s'.d9) (i:=i) Ω;have:=a (i:Int)
  grind [aU]
 grind
theorem Ur(a:bd n.k n.d6 s)(h:ru n s):¬fN n s:=λe=>by
 obtain⟨i,hi,f,v,ac,hu⟩:=h;have:=(e i hi (by grind)).2.2 v ac;rw[hu]at this;unfold b6 at this;have:=a.zero.1;omega
theorem im.zH{s':am}(h:im n s s'):fB n.k n.d6 s s':=⟨h.ok,h.gw,h.same,h.val,by grind [im.fm],by grind [im.zero]⟩
theorem G9(f:bd n.k n.d6 s)(y:bV s):fB n.k n.d6 s (dM n O s).1/\((dM n O s).2.2=s2->(dM n O s).2.1=sp/\∃i<n.d6.length,dw s i=sp/\aU (dM n O s).1 (i:Int)=[])/\
  ((dM n O s).2.2=sp->(dM n O s).2.1=s2->gT n (dM n O s).1<gT n s)/\((dM n O s).2.2=sp->(dM n O s).2.1=sp->(dM n O s).1=s/\fN n s/\rv n O s):=by
 obtain⟨h1,K,L,C⟩:=GV f y;generalize w:dM n O s=r;unfold dM at w;by_cases E:(fM n s).2.2=s2\/(fM n s).2.1=s2
 .grind [Up]
 .rw[m5 E]at w;have he:(fM n s).2.2=sp:=by grind
  have F:(fM n s).2.1=sp:=by grind
  obtain⟨e,x⟩:=C he F;have x:=x;rw[e]at w;obtain⟨a,z,A⟩:=tp (λj s b f y=>G7 f y) O s sp f y;generalize O.foldl (eS n.k) (s,sp)=q at a z A w;subst w;refine⟨a.zH,by grind,λ_ h=>?_,λ_ h=>?_⟩
  .have B:eN n.k q.1=eN n.k s:=by grind [eN,G8,im.same,im.fm,im.zero]
   show gT n q.1<gT n s;rcases(z h).resolve_left Φ with⟨i,hi,v,ac,G⟩|H
   .exact G5 B x f a.ok a.fm hi (λq _ v _=>a.un _ _) ⟨v,ac,G⟩
   .exact G4 B x (Ur a.ok H)
  .obtain⟨_,I,J⟩:=A h;exact⟨I,x,J⟩
theorem Ha{s':am}{i:Nat}(h:dJ s s')(hi:i<s.d9.length):dw s' i=dw s i:=by
 have e:=h.d9;obtain⟨x,J⟩:=aI (l:=s.d9) hi;obtain⟨y,a⟩:=aI (l:=s'.d9) (i:=i) Ω;unfold dw;rw[J,a];simp only;rw[(h.var i x y J a).1]
theorem zI{α:Type}{step:am×Bool->α->am×Bool}:∀(L:List α),(∀a∈L,step (s,sp) a=(s,sp))->L.foldl step (s,sp)=(s,sp)
 :=by
 intro a;induction a<;>grind
theorem Us(a:bd n.k n.d6 s)(h:fN n s)(q:rv n O s):dM n O s=(s,sp,sp):=by
 have e:fM n s=(s,sp,sp):=GX a _ λi hi=>h i (List.mem_range.1 hi);have w:O.foldl (eS n.k) (s,sp)=(s,sp):=by
  refine zI O λj r=>?_;unfold eS;simp only;cases ah:s.ho[j]? with
  |none=>rfl
  |some f=>
   simp only;refine zI _ λpos ae=>?_;unfold qk;refine zI _ λv ac=>?_;have:=q j r f ah pos ae v ac
   grind [ob,gA]
 grind [dM]
end
theorem Hb{P:Nat->Prop}:∀m,P m->∃m,P m/\∀k,P k->m<=k:=λm=>by
 induction m using Nat.strongRecOn with
 |ind m a=>
  intro hm;by_cases h:∃k,k<m/\P k
  .obtain⟨k,h1,e⟩:=h;exact a k h1 e
  .exact⟨m,hm,λk hk=>Nat.le_of_not_lt λf=>h ⟨k,f,hk⟩⟩
open Classical in
theorem b7.sink{w:x5}{B:x4->x5->(x4->x5->Prop)->Prop}(aA:Nat->x5->Prop){m:Nat}(r:aA m w)(V:∀(m:Nat)(a:x4)(I:x5)(k:x4->x5->Prop),aA m I->(∀bY a f,bY<m->aA bY f->k a f)->B a I k):b7 a w B:=by
 have j:∀{w:x5},(∃m,aA m w)->∃m,aA m w/\∀k,aA k w->m<=k:=λ⟨m,h⟩=>Hb (P:=λm=>aA m _) m h;refine⟨λ_ w=>∃m,aA m w,λ_ w=>if h:∃m,aA m w then Classical.choose (j h)else 0,⟨m,r⟩,λa I q=>?_⟩;obtain⟨h1,s⟩:=Classical.choose_spec (j q);refine V _ a I _ h1 λbY _ f x e=>⟨⟨bY,e⟩,?_⟩;have y:=(Classical.choose_spec (j ⟨bY,e⟩)).2 bY e;show dite _ _ _<dite _ _ _;rw[dif_pos q,dif_pos ⟨bY,e⟩];omega
theorem Hc{k i:Int}:∀(L M:Λ)(p:am×Bool),dy k i (L++M) p=dy k i M (dy k i L p)
 |[],_,_=>rfl
 |v::L,M,p=>by
  rw[List.cons_append,dy,dy];exact Hc L M _
theorem Ut{i:Int}{L:Λ}{p:am×Bool}(h:L[j]?=σ v):dy k i (L.take (j+1)) p=((bh k (dy k i (L.take j) p).1 (fc i v)).1,decide ((bh k (dy k i (L.take j) p).1 (fc i v)).2=0)||(dy k i (L.take j) p).2):=by
 rw[u9,h,j4,Hc];rfl
section
variable{ax:List aD}{w:x5}{af ag:Nat}{A R:ak}{n:aJ}{s:am}{t:aD}
theorem Uu{i:Nat}{x:bp}(h:bD w af ag A R n s t)(Z:Laid w)(aI:¬A 0)(aC:eu ax t)(J:s.d9[i]?=σ x):aq x8 Kf [Γ af,Δ (i:Int)] w λr I=>r= .bool (dy n.k (i:Int) (az x) (s,sp)).2/\cA ax w af ag A R n (dy n.k (i:Int) (az x) (s,sp)).1 I:=by
 refine jq func158 ?_;refine bn λg1 U bf an B=>?_;refine bn λaJ aa bg ac C=>?_;have bi:=aj.lt B;have bj:=aj.lt C;refine bE ee.i λf bk bl aK aL=>?_;refine bw (o:=0) ee.i rfl rfl aL (by show 0<1;omega) λG aN bo O=>?_;have O:aj G f ee [.bool sp]:=O;have P:Ext aa G:=aK.put aN Ω;have B:aj G g1 ez [Γ af]:=(aj.W B ac).W P;have C:aj G aJ al [Δ (i:Int)]:=aj.W C P;have ad:=(an.F ac).F P;have bq:=an.size;have br:=ac.size;have bs:=P.size;have bt:=B.lt;have bu:=C.lt;have bz:=O.lt;have ae:=rq Z;rw[aG (v:=Γ af) Ψ (B.Qz rfl),aG (v:=Δ (i:Int)) Ψ (C.Qz rfl)];refine(jF (i:=(i:Int)) (h.W ad)).Y ?_;rintro _ bA _ ⟨⟨b,ah,rfl,Q⟩,ap⟩;refine(mM (b:=b) (n:=ah)).Y ?_;rintro _ q _ ⟨aO,H,rfl,bB,au⟩;have av:=lA Q Ω (show s.d9[(i:Int).toNat]?=σ x by rw[u7];exact J);have L:=ap.F aO;have z5:=ap.size;have z46:=L.size;have bC:=au.lt;refine kH.old ⟨_,sp,jQ,#[Γ H],_,_,_,_,λj I=>dD ax w af ag A R n w.heap.size (λr=>q.heap.size<=r) (dy n.k (i:Int) ((az x).take j) (s,sp)).1 I/\ai (λr=>r<w.heap.size\/q.heap.size<=r\/r=f) q I/\aj I f ee [.bool (dy n.k (i:Int) ((az x).take j) (s,sp)).2],λ_ _ _=>False,rfl,(mL (g:=H) Q.1).s,?_,
  λ_ _ J h=>⟨h.1.W J,h.2.W J⟩,λ_ _ _ J h=>⟨h.1.W J,h.2.1.F (J.ab _),h.2.2.W J⟩,λ_ _ _ _ _ h=>h,⟨au,Z.W (ad.F L)⟩,⟨dD.start h Z aI aC (ad.F L) (o6 _),ai.refl _ _,O.W L⟩,?_,?_,λ_ _ h=>h.elim,λ_ _ _ h=>h.elim⟩
 .rintro _ _ _ _ ⟨_,_,_,_,rfl⟩;rfl
 .rintro _ j _ bF ⟨aw,aP⟩ ⟨bG,rfl,v,aQ,aR⟩ ⟨S,V,W⟩;cases aR;intro aT M _ _;have aU:(az x)[j]?=σ (v:Int):=by rw[<-av,u4,aQ];rfl
  have a7:∀{g:Nat}{e:o4}{cs:List x4},w.heap.size<=g->g<f->aj G g e cs->aj aT g e cs:=λaV aW aX=>((aX.W L).ab V Ω).W M;have ak:=Ut (k:=n.k) (i:=(i:Int)) (p:=(s,sp)) aU;obtain⟨bH,bI,aY,aZ,a1,a2⟩:=S.qg;have ay:∀{z:x5}{c:x4}{d:Bool},d=(dy n.k (i:Int) ((az x).take (j+1)) (s,sp)).2->aj z H ci [.int .u64 b,Δ ah]->Laid z->dD ax w af ag A R n w.heap.size (λr=>q.heap.size<=r) (dy n.k (i:Int) ((az x).take (j+1)) (s,sp)).1 z->ai (λr=>r<w.heap.size\/q.heap.size<=r\/r=f) q z->aj z f ee [c]->
    ∀{K:Unit->x5->Prop},(∀y,(aj y H ci [.int .u64 b,Δ ah]/\Laid y)/\(dD ax w af ag A R n w.heap.size (λr=>q.heap.size<=r) (dy n.k (i:Int) ((az x).take (j+1)) (s,sp)).1 y/\ai (λr=>r<w.heap.size\/q.heap.size<=r\/r=f) q y/\aj y f ee [.bool (dy n.k (i:Int) ((az x).take (j+1)) (s,sp)).2])->K () y)->
    aM x8 (o7 ee (Γ f) (.bool d)) z K:=λ{z c d}Q X E aA aB a6{K}a8=>by
   subst Q;refine bw (o:=0) ee.i rfl rfl a6 Ξ λy Y bJ ba=>?_;have z9:=aB.size;exact a8 _ ⟨⟨X.ab Y λh=>by have h:H=f:=h;omega,iH Y (λh=>by have h:0=f:=h;omega) E⟩,aA.own Y λr N=>by have N:r=f:=N;subst N;exact⟨Ω,Ω⟩,aB.F (Y.Y λr _ N=>.inr (.inr N)),ba⟩
  rw[aG (v:=Γ af) Ψ ((a7 Ω Ω B).Qz rfl),aG (v:=Δ (i:Int)) Ψ ((a7 Ω Ω C).Qz rfl)];have bK:=V.size;refine(GF (a:=fc (i:Int) (v:Int)) rfl (aY.W M) (aP.W M) a1 aZ).Y ?_;rintro _ aD _ ⟨rfl,bb,aE,aS,bx,bc,aF,bd,bL⟩;rw[<-show(dy n.k (i:Int) ((az x).take (j+1)) (s,sp)).1=(bh n.k (dy n.k (i:Int) ((az x).take j) (s,sp)).1 (fc (i:Int) (v:Int))).1 by rw[ak]]at aF;obtain⟨X,E,aA⟩:=a2 (D':=λr=>q.heap.size<=r) (iN M bb) ((Grow.W M).F bc) aF bd (λr h=>h) λr aV aW=>Ω
  have am:aj aD f ee _:=W.ab E Ω;rw[bm,ao];have aH:ai (λr=>r<w.heap.size\/q.heap.size<=r\/r=f) q aD:=V.F (E.Y λr _ h=>h.imp id .inl);refine⟨λhe=>?_,λhe=>?_⟩
  .have e:(dy n.k (i:Int) ((az x).take (j+1)) (s,sp)).2=s2:=by rw[ak,ms he,Bool.true_or]
   exact ay e.symm (aw.ab E Ω) aE X aH am λy h=>⟨h.1,h.2,λh=>by cases h⟩
  .have e:(dy n.k (i:Int) ((az x).take (j+1)) (s,sp)).2=(dy n.k (i:Int) ((az x).take j) (s,sp)).2:=by rw[ak,rc he,Bool.false_or]
   rw[aG Ψ (am.Qz rfl)];exact ay e.symm (aw.ab E Ω) aE X aH am λy h=>⟨h.1,h.2,λh=>by cases h⟩
 .rintro k bM rfl ⟨S,V,W⟩;rw[j9 (by rw[<-av,r9];exact o6 _)]at S W;rw[aG Ψ (W.Qz rfl)];intro bN be _;exact⟨rfl,S.done be⟩
theorem Uv{N i:Nat}(h:i<N):(X0 N).drop i=i::(X0 N).drop (i+1):=by
 rw[X4 (by simpa using h),List.getElem_range]
def zJ(ax:List aD)(w:x5)(af ag:Nat)(A R:ak)(n:aJ)(q:am×Bool×Bool)(r:x4)(I:x5):Prop:=r= .tuple #[.bool q.2.1,Δ (if q.2.2=s2 then 8 else 0)]/\cA ax w af ag A R n q.1 I
theorem Uw(h:bD w af ag A R n s t)(ah:Laid w)(ai:¬A 0)(aC:eu ax t)(aj:bV s):aq x8 JD [Γ af] w (zJ ax w af ag A R n (fM n s)):=by
 have E:=h.2.2.2.1;have aM:=E.d9;have aN:=E.eZ.2.1;refine aE func98 ?_;rw[dl ez.u];simp only[b8,bc];refine(Fv h).Y ?_;rintro _ U _ ⟨rfl,ak⟩;refine rG.range n.d6.length (λi _ _ c aa=>∃s1 b,c= .bool b/\cA ax w af ag A R n s1 aa/\fB n.k n.d6 s s1/\fM n s=il n ((X0 n.d6.length).drop i) (s1,b)) Ω ⟨s,sp,rfl,cA.same h ah ai aC ak,.rfl E aj,rfl⟩ ?_ ?_
 .rintro i aO t3 _ aa al hi ⟨s1,b,rfl,hm,f,j⟩ am;refine bF Ω ?_;obtain⟨aP,aQ,W,an,ap,au,av⟩:=hm.open;have aS:=f.ok.d9;obtain⟨x,J⟩:=aI (l:=s1.d9) (i:=i) Ω;rw[Uv hi,il]at j;have aw:aU s1 (i:Int)=az x:=np J;refine Ca (λ_ _ r I=>r= .bool (fl n (i:Int) (s1,b)).2.1/\(fl n (i:Int) (s1,b)).2.2=sp/\cA ax w af ag A R n (fl n (i:Int) (s1,b)).1 I) ?_ λaA y=>?_
  .rintro _ _ _ aT ⟨rfl,he,ay⟩;rw[aR];refine am _ _ _ _ ⟨_,_,rfl,ay,f.F (GS (i:=(i:Int)) (b:=b) f.ok f.gw Ω Ω).1,?_⟩;rw[j,m5 (by rw[he];decide)]
  refine(vw (i:=(i:Int)) W).Y ?_;rintro _ aV _ ⟨rfl,B⟩;rw[ms Ω,S7,u7,cb];refine⟨λC=>?_,λC=>?_⟩
  .have e:fl n (i:Int) (s1,b)=(s1,b,sp):=by unfold fl;rw[u7,m3 C]
   rw[e]at y;exact y _ _ _ _ ⟨rfl,rfl,hm.W B⟩
  have ac:fl n (i:Int) (s1,b)=(let q:=dy n.k (i:Int) (az x) (s1,sp);if(dW n q.1 (i:Int)).2<0 then(q.1,sp,s2)else if 0<(dW n q.1 (i:Int)).1 then((bh n.k q.1 (mf (i:Int) (dW n q.1 (i:Int)).1)).1,s2,sp)else(q.1,q.2||b,sp)):=by
   unfold fl;rw[u7,m5 (by rw[C];decide),aw]
  have ae:=(zD (i:=(i:Int)) (az x) s1 sp f.ok f.gw).1;simp only at ac;generalize aB:dy n.k (i:Int) (az x) (s1,sp)=q at ac ae;refine a6 (λr I=>r= .bool (q.2||b)/\cA ax w af ag A R n q.1 I) ?_ λaX X=>?_
  rotate_left
  .refine (Uu (W.W B) (an.W B) ap au J).Y ?_;rintro _ aD _ ⟨rfl,Y⟩;rw[aB]at Y ⊢;have Z:cA ax w af ag A R n q.1 aD:=by
    obtain⟨G,H,K,L,M,N,O,P⟩:=Y;exact av ⟨iN B G,H,K,L,(Grow.W B).F M,N,O,P⟩
   rw[cb];exact⟨λh=>X _ _ ⟨by rw[h,Bool.true_or],Z⟩,λh=>X _ _ ⟨by rw[h,Bool.false_or],Z⟩⟩
  rintro _ aY ⟨rfl,Q⟩;obtain⟨aZ,t5,ab,ad,aF,aG,aH⟩:=Q.open;have aJ:dw q.1 i=sp:=by rw[Ha ae.same Ω];exact C
  have aK:lB n q.1 (i:Int)=s2:=by
   unfold lB;rw[u7,aJ,ms (show(0:Int)<=i/\(i:Int)<n.d6.length by omega)];rfl
  refine(Ui ab ad aK).Y ?_;rintro _ a1 _ ⟨z,rfl⟩;rw[fS,fT,fU,aW,ao];refine⟨λS=>?_,λS=>?_⟩
  .rw[m3 S]at ac;rw[ac,m3 rfl]at j;rw[j];exact⟨rfl,Q.W z⟩
  rw[m5 S]at ac;rw[bU,ao];refine⟨λV=>?_,λV=>?_⟩
  .rw[m3 V]at ac;rw[ac]at y;refine(GD (a:=mf (i:Int) (dW n q.1 (i:Int)).1) rfl (ab.W z) (ad.W z) aF aG).Y ?_;rintro _ a2 _ ⟨_,aL⟩;refine y _ _ _ _ ⟨rfl,rfl,?_⟩;obtain⟨G,H,K,L,M,N,O,P⟩:=aL;exact aH ⟨iN z G,H,K,L,(Grow.W z).F M,N,O,P⟩
  .rw[m5 V]at ac;rw[ac]at y;exact y _ _ _ _ ⟨rfl,rfl,Q.W z⟩
 .rintro _ _ _ aa al ⟨s1,b,rfl,hm,f,j⟩;refine b4 Ω ?_;rw[List.drop_eq_nil_of_le Ξ,il]at j;rw[j];exact⟨rfl,hm⟩
end
theorem Ux{b n:Nat}{w:x5}(a:mK b n):aq x8 A2 [kq b n] w λr I=>r=Δ (rp b:Int)/\Ext w I:=by
 have e:b<4294967296:=by
  have:=a.2;have:(2:Nat) ^ n<=2 ^ 32:=T2 Ω a.1;omega
 refine aE func26 ?_;refine bn λg U q f h=>?_;rw[aN ci.p 0 h rfl];refine(Gy e).Y ?_;rintro _ aa _ ⟨rfl,j⟩;exact⟨rfl,f.F j⟩
section
variable{w:x5}{dm:x4}{n:aJ}{s:am}
theorem Uy{i:Nat}{x:bp}(a:bd n.k n.d6 s)(J:s.d9[i]?=σ x):lH n s (i:Int)↔(x.gone=0->az x≠[]/\(cJ n.k (az x) λv=>x.un.getD v.toNat 0).1=0/\∀v∈az x,min (s.zero+x.un.getD v.toNat 0) n.k<n.k):=by
 unfold lH;rw[u7,np J,Uf a J];have j:dw s i=decide (x.gone≠0):=by unfold dw;rw[J]
 rw[j,decide_eq_false_iff_not];refine⟨λh q=>?_,λh q=>?_⟩
 .obtain⟨h1,e,f⟩:=h Ω;refine⟨h1,e,λv ac=>?_⟩;have:=f v ac;rw[we a J ac]at this;exact this
 .obtain⟨h1,e,f⟩:=h Ω;refine⟨h1,e,λv ac=>?_⟩;rw[we a J ac];exact f v ac
theorem Uz(h:e3 w dm n.k n.d6 s)(f:bd n.k n.d6 s):aq x8 IX [dm] w λr I=>Ext w I/\∃b:Bool,r= .bool b/\(b=s2↔fN n s):=by
 have aT:=f.d9;have aU:=f.eZ.2.1;have aV:=f.ep;have aW:=f.zero;refine aE func42 ?_;refine bn λg1 U aX L ag=>?_;have W:=h.box L ag;obtain⟨hv,aY,aZ,a1,a2,a7,z,ah,_,X,ai,aj,ba,bb⟩:=id W;rw[aN aK.p 1 z rfl,a8 au.u ah];refine ce.range n.d6.length (λi _ aa=>Ext U aa/\∀q,q<i->lH n s ((q:Nat):Int)) Ω ⟨Ext.refl _,λq j=>m6 j (Nat.not_lt_zero _)⟩ ?_ ?_
 rotate_left
 .rintro _ aa ak ⟨y,M⟩;exact b4 Ω ⟨L.F y,s2,rfl,λ_=>M,λ_=>rfl⟩
 rintro i bc aa ak hi ⟨y,M⟩ am;obtain⟨x,J⟩:=aI (l:=s.d9) (i:=i) Ω;have bf:=rn x;have E:=Uy f J;refine bF Ω ?_;have an:lH n s (i:Int)->∀q,q<i+1->lH n s ((q:Nat):Int):=λh q j=>by
  rcases Nat.lt_or_eq_of_le (Nat.le_of_lt_succ j)with be|rfl
  .exact M q be
  .exact h
 have no:∀{I:x5},Ext U I->¬lH n s (i:Int)->Ext w I/\∃b:Bool,x4.bool sp= .bool b/\(b=s2↔fN n s):=λap A=>⟨L.F ap,sp,rfl,λh=>(by cases h),λh=>m6 (h i hi) A⟩;refine a6 (λ_ I=>Ext U I/\lH n s (i:Int)) (λ_ I Y=>by rw[aR];exact am _ _ ⟨Y.1,an Y.2⟩) λaA Z=>?_;rw[aN aK.p 4 (z.W y) rfl];refine fF (α:=Bool) rfl rfl jo.u ee.i Ψ (bq ai y) (by rw[u4,J];rfl) λav aw=>?_;obtain rfl:av= .bool (decide (x.gone≠0)):=(List.cons.inj aw).1;rw[ao];refine⟨λax=>Z _ _ ⟨y,E.2 λh=>m6 h ax⟩,λbg=>?_⟩;have ab:x.gone=0:=Ω
 refine(W.W y).load λbh aC=>?_;refine(TR aC f J).Y ?_;rintro _ bi _ ⟨aD,rfl⟩;have G:=y.F aD;rw[bz,bA];have bj:0<=(cJ n.k (az x) λv=>x.un.getD v.toNat 0).1:=(tf Ω λv _=>ik f J).1;refine a6 (λr I=>Ext U I/\r= .bool (decide (az x=[]\/0<(cJ n.k (az x) λv=>x.un.getD v.toNat 0).1))) ?_ λbl ad=>?_
 rotate_left
 .rw[aN aK.p 3 (z.W G) rfl];refine fF rfl rfl ca.u au.i Ψ (bq X G) (by rw[u4,J];rfl) λaF N=>?_;rw[a8 au.u (c3 N),bm,ao];refine⟨λO=>ad _ _ ⟨G,by rw[ms (.inl (j6 Ω))]⟩,λO=>?_⟩;rw[bU];refine ad _ _ ⟨G,?_⟩;congr 1;exact decide_eq_decide.2 ⟨λh=>.inr h,λh=>h.resolve_left λe=>by rw[e]at O;exact O rfl⟩
 rintro _ aG ⟨B,rfl⟩;rw[ao];refine⟨λH=>no B λA=>?_,λH=>?_⟩
 .obtain⟨h1,bo,_⟩:=E.1 A ab;exact H.elim h1 λh=>Ω
 have aH:az x≠[]:=λe=>H (.inl e);have aJ:(cJ n.k (az x) λv=>x.un.getD v.toNat 0).1=0:=by
  have:¬0<(cJ n.k (az x) λv=>x.un.getD v.toNat 0).1:=λe=>H (.inr e);omega
 rw[aN aK.p 3 (z.W B) rfl];refine fF rfl rfl ca.u au.i Ψ (bq X B) (by rw[u4,J];rfl) λaF N=>?_;have P:=c3 N;rw[a8 au.u P];refine ce.range (az x).length (λq _ Q=>Ext aG Q/\∀v∈(az x).take q,min (s.zero+x.un.getD v.toNat 0) n.k<n.k) P.le ⟨Ext.refl _,λv ac=>by cases ac⟩ ?_ ?_
 rotate_left
 .rintro _ Q aL ⟨C,j⟩;rw[o9]at j;exact b4 Ω (Z _ _ ⟨B.F C,E.2 λ_=>⟨aH,aJ,j⟩⟩)
 rintro q bp Q aL j ⟨C,aM⟩ aO;obtain⟨v,ac⟩:=aI (l:=az x) j;have ae:=x7 ac;have aP:=(e2.1 ae).1;obtain⟨R,rfl⟩:=Y6 aP.1;have br:=ik (v:=R) f J;have aQ:=B.F C;refine bF Ω ?_;rw[bk au.u al.i Ψ (P.W C) ac];intro bs af _ _;have S:=aQ.F af;have K:=z.W S;rw[aN aK.p 2 K rfl,aN aK.p 5 K rfl];refine fF (a:=x.un) (i:=i) rfl rfl c0.u aB.i Ψ (bq aj S) (by rw[u4,J];rfl) λbt aS=>?_;rw[bk aB.u ay.i Ψ (c3 aS) (getD_some (i:=R) Ω),aN aK.p 0 K rfl,aN aK.p 0 K rfl];refine(mQ Ω Ω).Y ?_;rintro _ bu _ ⟨rfl,V⟩;refine⟨.inl V,?_⟩;rw[bm,ao];refine⟨λhe=>no (S.F V) λA=>?_,λhe=>?_⟩
 .have:=(E.1 A ab).2.2 (R:Int) ae;rw[u7]at this;omega
 .rw[aR];refine aO _ _ ⟨(C.F af).F V,λu hu=>?_⟩;rw[u9,ac,j4,j5,Y1]at hu;rcases hu with hu|rfl
  .exact aM u hu
  .rw[u7];omega
end
structure UA(P:am->Prop)(n:aJ)(s:am)(q:am×Bool):Prop where
 a7:fB n.k n.d6 s q.1
 emp:q.2=s2->∃i<n.d6.length,dw q.1 i=sp/\aU q.1 (i:Int)=[]
 WC:q.2=sp->fN n q.1/\P q.1
 quiet:fN n s->P s->q=(s,sp)
section
variable{ax:List aD}{w:x5}{af ag:Nat}{A R:ak}{n:aJ}{s:am}{t:aD}
end
section
variable{w:x5}{dm:x4}{n:aJ}{s:am}
end
structure k1(n:Nat)(H:List (Int×Int))(P:Λ):Prop where
 len:P.length=n
 ae:∀(i:Nat)a,H[i]?=σ a->0<=a.2/\a.2<n/\P[a.2.toNat]?=σ (i:Int)
 pl:∀(x:Nat)i,P[x]?=σ i->i= -1\/∃(j:Nat)(a:Int×Int),i=(j:Int)/\H[j]?=σ a/\a.2=(x:Int)
section
variable{n:Nat}{H:List (Int×Int)}{P:Λ}
theorem k1.new(n:Nat):k1 n [] (o5 n (-1)):=⟨Ξ,by grind,λx i h=>.inl (List.mem_replicate.1 (x7 h)).2⟩
theorem k1.swap(h:k1 n H P){i k:Nat}{a b:Int×Int}(q:H[i]?=σ a)(r:H[k]?=σ b):k1 n ((H.set i b).set k a) ((P.set b.2.toNat i).set a.2.toNat k):=by
 obtain⟨a0,B,C⟩:=h.ae i a q;obtain⟨E,F,G⟩:=h.ae k b r;have I:=(x6.1 q).1;have J:=(x6.1 r).1;have K:=h.len;refine⟨by grind,λj c f=>?_,λx v ac=>?_⟩
 .rw[X7]at f;by_cases s:k=j
  .grind
  .rw[m5 s,X7]at f;by_cases w:i=j
   .grind
   .rw[m5 w]at f;obtain⟨gG,L,M⟩:=h.ae j c f
    grind
 .rw[X7]at ac;by_cases y:a.2.toNat=x
  .grind
  .rw[m5 y,X7]at ac;by_cases z:b.2.toNat=x
   .grind [Y9]
   .rw[m5 z]at ac;rcases h.pl x v ac with e|⟨j,c,e,f,A⟩
    .omega
    .refine .inr ⟨j,c,e,?_,A⟩
     grind
theorem k1.push(h:k1 n H P){x:Nat}{p:Int}(J:P[x]?=σ (-1)):k1 n (H++[(p,(x:Int))]) (P.set x H.length):=by
 have q:=(x6.1 J).1;have s:=h.len;have w:∀(j:Nat)c,H[j]?=σ c->c.2≠(x:Int):=λj c a e=>by
  have:=(h.ae j c a).2.2
  grind
 refine⟨by grind,λj c a=>?_,λy v ac=>?_⟩
 .by_cases r:j<H.length
  .rw[V6 r]at a;obtain⟨gG,z,A⟩:=h.ae j c a
   grind
  .rw[X2 Ω]at a
   grind
 .rw[X7]at ac;by_cases f:x=y
  .subst f;rw[m3 rfl,m3 q]at ac;cases ac;exact .inr ⟨H.length,(p,(x:Int)),rfl,by grind,rfl⟩
  .rw[m5 f]at ac;rcases h.pl y v ac with e|⟨j,c,e,a,B⟩
   all_goals grind
theorem k1.drop{a:Int×Int}(h:k1 n (H++[a]) P):k1 n H (P.set a.2.toNat (-1)):=by
 have w:=h.len;obtain⟨a0,x,z⟩:=h.ae H.length a (by grind);refine⟨by grind,λj c f=>?_,λy v ac=>?_⟩
 .have q:=(x6.1 f).1;have r:(H++[a])[j]?=σ c:=by grind
  obtain⟨gG,A,B⟩:=h.ae j c r
  grind
 .rw[X7]at ac;by_cases s:a.2.toNat=y
  .grind
  .rw[m5 s]at ac;rcases h.pl y v ac with e|⟨j,c,e,f,C⟩
   .omega
   .by_cases q:j<H.length
    .grind
    .rw[X2 Ω]at f
     grind
theorem Hd{i k:Nat}{a b:Int×Int}(e:H[i]?=σ a)(f:H[k]?=σ b):((H.set i b).set k a).Perm H:=by
 grind
def mm(H:List (Int×Int)):Λ:=H.map (·.2)
end
def pa(a:Int×Int):List x4:=[Δ a.1,Δ a.2]
def ql(i:Int):List x4:=[Δ i]
theorem zK(a:Int×Int):∀u∈pa a,u.oneCell'=s2:=by intro u hu;simp[pa]at hu;rcases hu with rfl|rfl<;>rfl
def ev(S:ak)(w:x5)(g:Nat)(H:List (Int×Int))(P:Λ):Prop:=
 (k1 P.length H P/\H.length<=1000000)/\∃e bg ac a,aj w g dt [ac,a]/\bo pa 2 cM w e ac H/\bo ql 1 al w bg a P/\∀r,r=g\/hx ac r\/hx a r->S r
section
variable{S X:ak}{w I:x5}{g:Nat}{H:List (Int×Int)}{P:Λ}
theorem ev.ab(h:ev S w g H P)(f:ai X w I)(j:∀r,r<w.heap.size->S r->¬X r):ev S I g H P:=by
 obtain⟨x,y,bg,ac,z,h1,q,s,e⟩:=h;exact⟨x,y,bg,ac,z,h1.ab f (j _ h1.lt (e _ (.inl rfl))),q.ab f λr a=>j r (by have:=q.lc a;omega) (e r (.inr (.inl a))),s.ab f λr a=>j r (by have:=s.lc a;omega) (e r (.inr (.inr a))),e⟩
theorem ev.W(h:ev S w g H P)(J:Ext w I):ev S I g H P:=h.ab (J.ab λ_=>False) λ_ _ _ h=>h
theorem ev.Y(h:ev S w g H P)(j:∀r,r<w.heap.size->S r->X r):ev X w g H P:=by
 obtain⟨q,s,bg,ac,x,h1,e,f,y⟩:=h;refine⟨q,s,bg,ac,x,h1,e,f,λr a=>j r ?_ (y r a)⟩;rcases a with rfl|a|a
 .exact h1.lt
 .have:=e.lc a;omega
 .have:=f.lc a;omega
theorem wg{q bg:Nat}{ac:x4}(h1:aj w g dt [ac,a])(e:bo pa 2 cM w q ac H)(f:bo ql 1 al w bg a P):¬hx ac g/\¬hx a g/\(∀r,hx ac r->¬hx a r)/\∀r,hx a r->¬hx ac r:=by
 refine⟨cP e h1 Φ,cP f h1 Φ,λr h=>?_,λr h=>?_⟩
 .obtain⟨rfl,c,j⟩:=dY e h;exact cP f j Φ
 .obtain⟨rfl,c,j⟩:=dY f h;exact cP e j Φ
theorem wh{bg x:Nat}{i:Int}(h:bo ql 1 al w bg a P)(J:P[x]?=σ i):w.cell? ⟨bg,x*1,ν⟩=σ (Δ i):=h.range J 0 _ rfl
theorem zL{a b:Int×Int}:aq x8 Lu [.agg (pa a).toArray,.agg (pa b).toArray] w λr I=>(∃c,r= .bool c)/\Ext w I:=by
 refine aE func271 ?_;refine bn λg1 U x s e=>?_;refine bn λy aa z q f=>?_;have J:=s.F q;have e:=aj.W e q;have f:=f;refine a6 (λr I=>(∃c,r= .bool c)/\Ext w I) (λ_ _ h=>h) λaA j=>?_;rw[aN cM.p 0 e rfl,aN cM.p 0 f rfl,aW,ao];refine⟨λ_=>j _ _ ⟨⟨_,rfl⟩,J⟩,λ_=>?_⟩;rw[aN cM.p 0 e rfl,aN cM.p 0 f rfl,bm,ao];refine⟨λ_=>?_,λ_=>j _ _ ⟨⟨_,rfl⟩,J⟩⟩;rw[aN cM.p 1 e rfl,aN cM.p 1 f rfl,aW];exact j _ _ ⟨⟨_,rfl⟩,J⟩
theorem He{i k:Nat}{a b:Int×Int}(h:ev S w g H P)(hi:H[i]?=σ a)(hk:H[k]?=σ b):aq x8 Bs [Γ g,Δ (i:Int),Δ (k:Int)] w λ_ I=>ai S w I/\ev S I g ((H.set i b).set k a) ((P.set b.2.toNat i).set a.2.toNat k):=by
 have f:=(x6.1 hi).1;have q:=(x6.1 hk).1;refine aE func225 ?_;intro U G _ _;obtain⟨⟨y,hm⟩,Q,bg,ac,R,h1,e,J,z⟩:=h.W G;obtain⟨a0,ap,av⟩:=y.ae i a hi;obtain⟨aw,ax,V⟩:=y.ae k b hk;obtain⟨W,X,Y,Z⟩:=wg h1 e J;rw[aP dt.p 0 h1 rfl,aP dt.p 0 h1 rfl,aP dt.p 0 h1 rfl,cu rfl eO.u cM.i e q,bH cM.p cM.i rfl (e.range hk),
  aP dt.p 0 h1 rfl,cu rfl eO.u cM.i e f,bH cM.p cM.i rfl (e.range hi),cu rfl eO.u cM.i e f]
 refine xW cM.i e rfl (zK b) f λaa ad ay K=>?_;rw[cu rfl eO.u cM.i K (by rw[Z9];exact q)];refine xW cM.i K rfl (zK a) (by rw[Z9];exact q) λaz af aA ag=>?_;intro aB L _ _;have A:=(ad.F af).F (L.ab _);have s:=h1.ab A W;have x:=ag.W L;have M:=J.ab A Z;have ah:((H.set i b).set k a)[i]?=σ b:=by
  rw[X7];by_cases N:k=i
  .subst N;rw[hi]at hk;cases hk;rw[m3 rfl,m3 (by rw[Z9];exact f)]
  .rw[m5 N,Z6 f]
 have aj:((H.set i b).set k a)[k]?=σ a:=Z6 (by rw[Z9];exact q);have B:((H.set i b).set k a).length=H.length:=by rw[Z9,Z9]
 have aC:=y.len;rw[aP dt.p 1 s rfl,aP dt.p 0 s rfl,cu rfl eO.u cM.i x (by rw[B];exact f),a1 cM.p rfl,aG Ψ (x.range ah 1 _ rfl),
  aP dt.p 1 s rfl,aP dt.p 0 s rfl,cu rfl eO.u cM.i x (by rw[B];exact q),a1 cM.p rfl,aG Ψ (x.range aj 1 _ rfl),
  cu (i:=b.2.toNat) Ω au.u al.i M Ω]
 refine lk (j:=0) (a':=(i:Int)) al.i rfl rfl M V rfl Ω λaD ak aF O=>?_;rw[cu (i:=a.2.toNat) Ω au.u al.i O (by rw[Z9];omega)];obtain⟨c,am⟩:=aI (l:=P.set b.2.toNat (i:Int)) (i:=a.2.toNat) (by rw[Z9];omega);refine lk (j:=0) (a':=(k:Int)) al.i rfl rfl O am rfl Ω λaH an aJ ao=>?_;have C:=ak.F an;refine⟨(G.ab _).F ((A.Y λr _ E=>z r (.inr (.inl E))).F (C.Y λr _ E=>z r (.inr (.inr E)))),⟨?_,by rw[B];exact hm⟩,Q,bg,ac,R,s.ab C X,x.ab C Y,ao,z⟩;rw[Z9,Z9];exact y.swap hi hk
end
section
variable{S X:ak}{w I:x5}{g:Nat}{H:List (Int×Int)}{P:Λ}
def nq(S:ak)(w:x5)(g:Nat)(H:List (Int×Int))(P:Λ)(I:x5):Prop:=∃a e,ai S w I/\ev S I g a e/\a.Perm H/\e.length=P.length
theorem nq.W{aa:x5}(h:nq S w g H P I)(J:Ext I aa):nq S w g H P aa:=by
 obtain⟨a,e,h1,f,j⟩:=h;exact⟨a,e,h1.F (J.ab _),f.W J,j⟩
theorem nq.swap{e:List (Int×Int)}{f:Λ}{U:x5}{i k:Nat}(r:ai S w U)(h:ev S U g e f)(ae:e.Perm H)(s:f.length=P.length)(hi:i<e.length)(hk:k<e.length):
  aq x8 Bs [Γ g,Δ (i:Int),Δ (k:Int)] U λ_ I=>nq S w g H P I:=by
 obtain⟨a,j⟩:=aI (l:=e) hi;obtain⟨b,q⟩:=aI (l:=e) hk;refine(He h j q).Y ?_;rintro _ aa _ ⟨x,y⟩;exact⟨_,_,r.F x,y,(Hd j q).F ae,by rw[Z9,Z9];exact s⟩
theorem Hf{i:Nat}(h:ev S w g H P)(hi:i<H.length):aq x8 K2 [Γ g,Δ (i:Int)] w λ_ I=>nq S w g H P I:=by
 have hm:=h.1.2;refine aE func223 ?_;refine⟨λv U=>∃i:Nat,v=Δ (i:Int)/\i<H.length/\nq S w g H P U,λv _=>(b2 v).toNat,⟨i,rfl,hi,H,P,ai.refl _ _,h,.refl _,rfl⟩,?_⟩;rintro _ U ⟨i,rfl,hi,j⟩;refine a6 (λv aa=>Ext U aa/\∃c,v= .bool c/\(c=s2->0<i)) ?_ λaA z=>?_
 rotate_left
 .intro aa x _ _;rw[bU,ao];refine⟨λq=>?_,λ_=>z _ _ ⟨x,_,rfl,λh=>by cases h⟩⟩;obtain⟨f,A,r,⟨⟨J,_⟩,K,bg,ac,L,h1,e,M,N⟩,ae,s⟩:=j.W x;have B:=ae.length_eq;obtain⟨a,C⟩:=aI (l:=f) (i:=i) Ω;obtain⟨b,E⟩:=aI (l:=f) (i:=(i-1) / 2) Ω;rw[aP dt.p 0 h1 rfl,cu rfl eO.u cM.i e Ω,bH cM.p cM.i rfl (e.range C),aP dt.p 0 h1 rfl,dr,lm Ω Ω,ow Ω,
   show(((i:Int)-1).tdiv 2)=(((i-1) / 2:Nat):Int) by rw[Int.tdiv_eq_ediv_of_nonneg Ω];omega,lm Ω Ω,cu rfl eO.u cM.i e Ω,bH cM.p cM.i rfl (e.range E)]
  refine zL.Y ?_;rintro _ ak _ ⟨⟨c,rfl⟩,al⟩;exact z _ _ ⟨x.F al,c,rfl,λ_=>Ω⟩
 rintro _ aa ⟨x,c,rfl,q⟩;have O:=j.W x;rw[cb];refine⟨λQ=>?_,λ_=>?_⟩
 .have q:=q Q;obtain⟨f,A,r,R,ae,s⟩:=O;have B:=ae.length_eq;rw[dr,lm Ω Ω,ow Ω,show(((i:Int)-1).tdiv 2)=(((i-1) / 2:Nat):Int) by rw[Int.tdiv_eq_ediv_of_nonneg Ω];omega,lm Ω Ω];refine(nq.swap r R ae s Ω Ω).Y ?_;rintro _ ak _ am;rw[dr,lm Ω Ω,ow Ω,show(((i:Int)-1).tdiv 2)=(((i-1) / 2:Nat):Int) by rw[Int.tdiv_eq_ediv_of_nonneg Ω];omega,lm Ω Ω];refine⟨⟨(i-1) / 2,rfl,Ω,am⟩,?_⟩;show(((i-1) / 2:Nat):Int).toNat<((i:Nat):Int).toNat;omega
 clear j x q;refine⟨λv U=>∃i:Nat,v=Δ (i:Int)/\i<H.length/\nq S w g H P U,λv _=>H.length-(b2 v).toNat,⟨i,rfl,hi,O⟩,?_⟩;clear O hi i;rintro _ V ⟨i,rfl,hi,j⟩;rw[fQ,lm Ω Ω,aR,lm Ω Ω];refine⟨λv u W=>v=Δ (i:Int)/\∃k:Nat,u=Δ (k:Int)/\2*i+1<=k/\k<=2*i+3/\Ext V W,λ_ u _=>2*i+3-(b2 u).toNat,⟨rfl,2*i+1,by congr 1,Ω,Ω,Ext.refl _⟩,?_⟩;rintro _ _ W ⟨rfl,k,rfl,ax,ay,X⟩;refine a6 (λv af=>Ext W af/\∃c,v= .bool c/\(c=s2->k<=2*i+2/\k<H.length)) ?_ λaA z=>?_
 rotate_left
 .rw[fQ,lm Ω Ω,aR,lm Ω Ω,mB,ao];refine⟨λq=>?_,λ_=>z _ _ ⟨Ext.refl _,_,rfl,λh=>by cases h⟩⟩;obtain⟨f,A,r,⟨⟨J,_⟩,K,bg,ac,L,h1,e,M,N⟩,ae,s⟩:=j.W X;have B:=ae.length_eq;rw[aP dt.p 0 h1 rfl,ek eO.u e,aW];exact z _ _ ⟨Ext.refl _,_,rfl,λh=>⟨Ω,by have:=rs h;omega⟩⟩
 rintro _ af ⟨ag,c,rfl,q⟩;rw[cb];refine⟨λQ=>?_,λ_=>j.W (X.F ag)⟩;obtain⟨az,an⟩:=q Q;rw[fQ,lm Ω Ω,aR,lm Ω Ω,dr,lm Ω Ω,show 4*(i:Int)+3-(k:Int)=((4*i+3-k:Nat):Int) by omega];have ap:=X.F ag;refine a6 (λv Y=>Ext V Y/\∃c,v= .bool c) ?_ λaB ah=>?_
 rotate_left
 .intro Y Z _ _;have ab:=ap.F Z;obtain⟨f,A,r,⟨⟨J,_⟩,K,bg,ac,L,h1,e,M,N⟩,ae,s⟩:=j.W ab;have B:=ae.length_eq;rw[aP dt.p 0 h1 rfl,ek eO.u e,cT,ao];refine⟨λ_=>ah _ _ ⟨ab,_,rfl⟩,λaC=>?_⟩;obtain⟨a,C⟩:=aI (l:=f) (i:=k) Ω;obtain⟨b,E⟩:=aI (l:=f) (i:=4*i+3-k) Ω;rw[aP dt.p 0 h1 rfl,cu rfl eO.u cM.i e Ω,bH cM.p cM.i rfl (e.range C),aP dt.p 0 h1 rfl,cu rfl eO.u cM.i e Ω,bH cM.p cM.i rfl (e.range E)];refine zL.Y ?_;rintro _ G _ ⟨⟨c,rfl⟩,y⟩;exact ah _ _ ⟨ab.F y,_,rfl⟩
 rintro _ Y ⟨Z,aD,rfl⟩;refine a6 (λv G=>Ext V G/\∃c,v= .bool c) ?_ λaF aj=>?_
 rotate_left
 .intro G y _ _;have ad:=Z.F y;rw[cb];refine⟨λ_=>?_,λ_=>aj _ _ ⟨ad,_,rfl⟩⟩;obtain⟨f,A,r,⟨⟨J,_⟩,K,bg,ac,L,h1,e,M,N⟩,ae,s⟩:=j.W ad;have B:=ae.length_eq;obtain⟨a,C⟩:=aI (l:=f) (i:=k) Ω;obtain⟨b,E⟩:=aI (l:=f) (i:=i) Ω;rw[aP dt.p 0 h1 rfl,cu rfl eO.u cM.i e Ω,bH cM.p cM.i rfl (e.range C),aP dt.p 0 h1 rfl,cu rfl eO.u cM.i e Ω,bH cM.p cM.i rfl (e.range E)];refine zL.Y ?_;rintro _ au _ ⟨⟨c,rfl⟩,av⟩;exact aj _ _ ⟨ad.F av,_,rfl⟩
 rintro _ G ⟨y,aG,rfl⟩;rw[cb];refine⟨λ_=>?_,λ_=>?_⟩
 .obtain⟨f,A,r,R,ae,s⟩:=j.W y;have B:=ae.length_eq;refine(nq.swap r R ae s Ω Ω).Y ?_;rintro _ au _ aw;refine⟨⟨k,rfl,an,aw⟩,?_⟩;show H.length-((k:Nat):Int).toNat<H.length-((i:Nat):Int).toNat;omega
 .rw[aR,lm Ω Ω];refine⟨⟨rfl,k+1,rfl,Ω,Ω,y⟩,?_⟩;show 2*i+3-((k:Int)+1).toNat<2*i+3-((k:Nat):Int).toNat;omega
theorem UB(h:ev S w g H P):aq x8 K3 [Γ g] w λr I=>r=Δ (H.length:Int)/\Ext w I:=by
 obtain⟨_,e,bg,ac,f,h1,a,j,q⟩:=h;refine aE func224 ?_;rw[dl rT.u];simp only[b8,bc];rw[aP dt.p 0 h1 rfl,ek eO.u a];exact⟨rfl,Ext.refl _⟩
theorem Hg{x:Nat}{i:Int}(h:ev S w g H P)(J:P[x]?=σ i):aq x8 K1 [Γ g,Δ (x:Int)] w λr I=>r= .bool (decide (0<=i))/\Ext w I:=by
 have e:=(x6.1 J).1;obtain⟨_,j,bg,ac,q,h1,s,a,y⟩:=h;refine aE func222 ?_;refine a6 (λr I=>r= .bool (decide (0<=i))/\Ext w I) (λ_ _ h=>h) λaA f=>?_;rw[xe rT.u];simp only[b8,X6,bS];rw[cT,ao];refine⟨λ_=>?_,λh=>m6 Ω h⟩;rw[aP dt.p 1 h1 rfl,ek au.u a];refine bF Ω ?_;rw[aP dt.p 1 h1 rfl,cu rfl au.u al.i a e,aG Ψ (wh a J),cT];exact f _ _ ⟨rfl,Ext.refl _⟩
theorem UC(h:ev S w g H P):aq x8 Ki [Γ g] w λr I=>Ext w I/\match H[0]? with
  |some a=>r= .tuple #[Δ a.2,Δ a.1,.bool s2]
  |none=>r= .tuple #[Δ 0,Δ 0,.bool sp]:=by
 refine aE func162 ?_;refine(UB h).Y ?_;rintro _ U _ ⟨rfl,f⟩;rw[bm,ao];refine⟨λs=>?_,λs=>?_⟩
 .rw[W8 Ω];exact⟨f,rfl⟩
 .intro aa q _ _;obtain⟨_,x,bg,ac,z,h1,e,A,B⟩:=(h.W f).W q;obtain⟨a,j⟩:=aI (l:=H) (i:=0) Ω;rw[aP dt.p 0 h1 rfl,cu (y:=0) (i:=0) rfl eO.u cM.i e Ω,a1 cM.p rfl,aG Ψ (e.range j 1 _ rfl),
   aP dt.p 0 h1 rfl,cu (y:=0) (i:=0) rfl eO.u cM.i e Ω,a1 cM.p rfl,aG Ψ (e.range j 0 _ rfl),j]
  exact⟨f.F q,rfl⟩
end
theorem UD(l:Λ):l.flatMap ql=ints .i64 l:=by
 induction l with
 |nil=>rfl
 |cons a l e=>rw[T0,e];rfl
theorem UE{α:Type}{L:List α}{a:α}{m:Nat}(h:L[m]?=σ a)(hm:L.length=m+1):L=L.take m++[a]:=by
 have e:=u9 (l:=L) (i:=m);rw[h,j4,j9 Ω]at e;exact e
section
variable{S X:ak}{w I:x5}{g:Nat}{H:List (Int×Int)}{P:Λ}
theorem UF{n:Nat}(N:n<=1000000)(A:∀r,w.heap.size<=r->S r):aq x8 Kg [Δ (n:Int)] w λr I=>∃g,r=Γ g/\Ext w I/\w.heap.size<=g/\ev S I g [] (o5 n (-1)):=by
 refine aE func160 ?_;rw[rY,show max (n:Int) 0=(n:Int) by omega];refine kM au.u al.i Ω Ω λbg U O B C=>?_;have E:bo ql 1 al U bg (.slice (σ ⟨bg,0,ν⟩) n n) (o5 n 0):=⟨by rw[List.length_replicate,UD];exact cf.full C Ξ (by simp[maxLen];omega),λa _=>rfl⟩;rw[ds (cs:=#[.slice ν 0 0,.slice (σ ⟨bg,0,ν⟩) n n]) Ψ];refine bn λg aa P y s=>?_;have s:=s;rw[aP dt.p 1 s rfl,ek au.u (E.W y),List.length_replicate];have Q:=B.size;have R:=y.size;have V:=s.lt;have W:=C.lt;refine b7.range n (λi z=>bo ql 1 al z bg (.slice (σ ⟨bg,0,ν⟩) n n) (o5 i (-1)++o5 (n-i) 0)/\ai (λr=>r=bg) aa z) Ω ⟨E.W y,ai.refl _ _⟩ ?_ ?_
 .rintro i z G hi ⟨q,x⟩ H;refine bF Ω ?_;have J:=s.ab x Ω;obtain⟨c,K⟩:=aI (l:=o5 i (-1:Int)++o5 (n-i) 0) (i:=i) Θ;rw[aP dt.p 1 J rfl,cu rfl au.u al.i q Θ];refine lk (j:=0) (a':=-1) al.i rfl rfl q K rfl Ω λX L Y M=>?_;rw[aR];refine H _ ⟨?_,x.F (L.Y λr _ f=>(q.lc f).1)⟩;have e:(o5 i (-1:Int)++o5 (n-i) 0).set i (-1)=o5 (i+1) (-1)++o5 (n-(i+1)) 0:=by
   rw[U7 _ _ Ξ,List.length_replicate,V7,show n-i=(n-(i+1))+1 by omega,List.replicate_succ,List.set_cons_zero,List.replicate_succ',T1];rfl
  rw[<-e];exact M
 .rintro z G ⟨q,x⟩;refine b4 Ω ?_;rw[V7,List.replicate_zero,T4]at q;refine⟨g,rfl,(B.F y).then x λr f h=>Ω,Ω,⟨by rw[List.length_replicate];exact k1.new n,Ξ⟩,0,bg,_,_,s.ab x Ω,bo.nil _ _ _ _ _,q,λr f=>?_⟩;rcases f with rfl|f|f
  .exact A _ Ω
  .exact (gp f).elim
  .exact A _ (by have:=(q.lc f).1;omega)
theorem UG{x:Nat}{p:Int}(h:ev S w g H P)(J:P[x]?=σ (-1))(aS:H.length<1000000)(aT:P.length<=1000000)(ax:∀r,w.heap.size<=r->S r):aq x8 Kh [Γ g,Δ (x:Int),Δ p] w λ_ I=>∃G K,ai S w I/\ev S I g G K/\G.Perm (H++[(p,(x:Int))])/\K.length=P.length:=by
 have L:=(x6.1 J).1;refine aE func161 ?_;rw[dl rT.u];simp only[b8,bc];refine a6 (λv U=>w=U/\v= .bool sp) ?_ λaA Q=>?_
 rotate_left
 .obtain⟨_,R,bg,ac,C,h1,z,s,y⟩:=h;rw[aW,ao];refine⟨λh=>Ω,λ_=>?_⟩;rw[aP dt.p 1 h1 rfl,ek au.u s,cT,rc Ω];exact Q _ _ ⟨rfl,rfl⟩
 rintro _ _ ⟨rfl,rfl⟩;rw[bc];refine dh (λaa=>ai S w aa/\ev S aa g (H++[(p,(x:Int))]) (P.set x H.length)) ?_ λaA Q=>?_
 .rintro aa ⟨az,aB⟩;intro aU aj _ _;obtain⟨⟨V,hm⟩,R,bg,ac,C,h1,z,s,y⟩:=aB.W aj;obtain⟨W,X,ak,Y⟩:=wg h1 z s;have am:(P.set x (H.length:Int))[x]?=σ (H.length:Int):=Z6 L;have aC:(H++[(p,(x:Int))])[H.length]?=σ (p,(x:Int)):=by rw[X2 (o6 _),V7];rfl
  rw[aP dt.p 0 h1 rfl,aP dt.p 1 h1 rfl,cu rfl au.u al.i s (by rw[Z9];exact L),aG Ψ (wh s am),cu rfl eO.u cM.i z Ξ,a1 cM.p rfl];refine lk (f:=pa) (j:=0) (a':=(p,(x:Int))) ay.i rfl rfl z aC rfl Ω λaD Z aV an=>?_;have ap:ev S aD g (H++[(p,(x:Int))]) (P.set x H.length):=by
   have e:(H++[(p,(x:Int))]).set H.length (p,(x:Int))=H++[(p,(x:Int))]:=by rw[U7 _ _ (o6 _),V7];rfl
   rw[e]at an;exact⟨⟨V,hm⟩,R,bg,ac,C,h1.ab Z W,an,s.ab Z Y,y⟩
  have aF:=(az.F (aj.ab _)).F (Z.Y λr _ q=>y r (.inr (.inl q)));obtain⟨_,aX,aY,aZ,a2,A,M,B,_⟩:=id ap;rw[aP dt.p 1 A rfl,cu rfl au.u al.i B (by rw[Z9];exact L),aG Ψ (wh B am)];refine(Hf ap Ξ).Y ?_;rintro _ a7 _ ⟨G,K,aH,aI,ae,aJ⟩;exact⟨G,K,aF.F aH,aI,ae,by rw[aJ,Z9]⟩
 refine(Hg h J).Y ?_;rintro _ a8 _ ⟨rfl,aK⟩;rw[bN,rc Ω,X6,bS];intro ba aL _ _;have ad:=aK.F aL;have bb:=ad.size;obtain⟨⟨V,hm⟩,R,bg,ac,C,h1,z,s,y⟩:=h.W ad;obtain⟨W,X,ak,Y⟩:=wg h1 z s;rw[aP dt.p 1 h1 rfl,aP dt.p 0 h1 rfl,ek eO.u z,cu rfl au.u al.i s L];refine lk (j:=0) (a':=(H.length:Int)) al.i rfl rfl s J rfl Ω λbd N be aM=>?_;have A:=h1.ab N X;have M:=z.ab N ak;rw[aP dt.p 0 A rfl,ds (cs:=#[Δ p,Δ (x:Int)]) Ψ];refine jc (f:=pa) (a:=(p,(x:Int))) eO.u cM.i Ω rfl rfl λv9 bf bh bi E aN=>?_;have A:=A.W E;have M:=M.W E;have B:=aM.W E;refine jB eO.u cM.i rfl M (by simpa using aN.sl) (zK _) Ω Ω λav aO bj O aQ af=>?_;rw[cc,a1 dt.p rfl];have aw:=A.ab af W;have B:=B.ab af Y;refine bw eO.i (eJ O.sl).1 (eJ O.sl).2 aw Ξ λbk ag bl ah=>?_;have ah:=ah;have bm:=N.size;have bn:=E.size;have aR:∀r,r=g\/hx av r\/hx C r->S r:=λr q=>by
  rcases q with q|q|q
  .exact y r (.inl q)
  .rcases aQ r q with h|h
   .exact y r (.inr (.inl h))
   .exact ax r Ω
  .exact y r (.inr (.inr q))
 refine Q _ ⟨?_,⟨?_,Θ⟩,aO,bg,av,C,ah,O.ab ag λr q e=>cP O aw Φ (by rw[<-e];exact q),B.ab ag λr q e=>X (by rw[<-e];exact q),aR⟩
 .exact (((((ad.ab _).F (N.Y λr _ q=>y r (.inr (.inr q)))).F (E.ab _)).F (af.Y λr _ q=>y r (.inr (.inl q)))).F (ag.Y λr _ q=>y r (.inl q)))
 .rw[Z9];exact V.push J
theorem UH{i:Nat}{a:Int×Int}(h:ev S w g H P)(hi:H[i]?=σ a):aq x8 Kj [Γ g,Δ a.2] w λ_ I=>∃s y,ai S w I/\ev S I g s y/\H.Perm (s++[a])/\y.length=P.length:=by
 have aX:=(x6.1 hi).1;obtain⟨a0,aY,A⟩:=h.1.1.ae i a hi;have hm:=h.1.2;obtain⟨x,E⟩:=Y6 a0;rw[E,u7]at A;have aB:=(x6.1 A).1;refine aE func163 ?_;rw[E];refine(Hg h A).Y ?_;rintro _ U _ ⟨rfl,aC⟩;rw[bN,ms Ω,Y5,bc];intro aa aD _ _;have W:=aC.F aD;have X:=h.W W;obtain⟨_,Y,bg,ac,G,h1,B,z,C⟩:=id X;rw[aP dt.p 1 h1 rfl,cu rfl au.u al.i z aB,aG Ψ (wh z A),aP dt.p 0 h1 rfl,ek eO.u B,dr,lm Ω Ω,show(H.length:Int)-1=((H.length-1:Nat):Int) by omega];obtain⟨b,Z⟩:=aI (l:=H) (i:=H.length-1) Ω;refine(He X hi Z).Y ?_;rintro _ aZ _ ⟨aF,J⟩;intro a2 ad _ _;have K:=Hd hi Z;have af:((H.set i b).set (H.length-1) a)[H.length-1]?=σ a:=Z6 (by rw[Z9];omega);generalize a6:(H.set i b).set (H.length-1) a=ag at J K af;generalize aH:(P.set b.2.toNat (i:Int)).set a.2.toNat ((H.length-1:Nat):Int)=L at J;have a7:=K.length_eq;have ah:L.length=P.length:=by rw[<-aH,Z9,Z9]
 obtain⟨⟨ak,a8⟩,Y,bg,ac,G,h1,B,z,C⟩:=J.W ad;obtain⟨aJ,am,aK,ba⟩:=wg h1 B z;obtain⟨an,aL,M,N⟩:=SU (i:=H.length-1) eO.u cM.i B Ω;rw[aP dt.p 1 h1 rfl,aP dt.p 0 h1 rfl,aL,cc,a1 dt.p rfl];refine bw eO.i (eJ M.sl).1 (eJ M.sl).2 h1 Ξ λaM O bb Q=>?_;have Q:aj aM g dt [an,G]:=Q;have aN:=M.ab O λr q e=>aJ (by rw[<-e];exact N r q);have ap:=z.ab O λr q e=>am (by rw[<-e];exact q);rw[cu rfl au.u al.i ap Ω];obtain⟨c,aO⟩:=aI (l:=L) (i:=x) Ω;refine lk (f:=ql) (j:=0) (a':=-1) al.i rfl rfl ap aO rfl Ω λaQ R bd aR=>?_;have av:=UE af Ω;have aw:ev S aQ g (ag.take (H.length-1)) (L.set x (-1)):=by
  refine⟨⟨?_,by rw[Z3];omega⟩,Y,bg,an,G,Q.ab R am,aN.ab R λr q e=>aK r (N r q) e,aR,λr q=>C r (q.imp id (.imp (N r) id))⟩;rw[Z9];rw[av]at ak;have:=ak.drop;rw[E,u7]at this;exact this
 have ax:=((((W.ab _).F aF).F (ad.ab _)).F (O.Y λr _ q=>C r (.inl q))).F (R.Y λr _ q=>C r (.inr (.inr q)));have ay:H.Perm (ag.take (H.length-1)++[a]):=by rw[<-av];exact K.symm
 refine dh (λV=>∃s y,ai S w V/\ev S V g s y/\H.Perm (s++[a])/\y.length=P.length) (λ_ h=>h) λaA az=>?_;rw[aW,ao];refine⟨λbe=>?_,λ_=>az _ ⟨_,_,ax,aw,ay,by rw[Z9];exact ah⟩⟩;refine(Hf aw (by rw[Z3];omega)).Y ?_;rintro _ V _ ⟨s,y,aS,aT,aU,aV⟩;exact az _ ⟨s,y,ax.F aS,aT,ay.F (aU.symm.append_right _),by rw[aV,Z9];exact ah⟩
theorem UI(h:ev S w g H P):aq x8 JF [Γ g] w λr I=>(H=[]/\Ext w I/\r= .tuple #[Δ 0,Δ 0,.bool sp])\/
  ∃a e f,r= .tuple #[Δ a.2,Δ a.1,.bool s2]/\ai S w I/\ev S I g e f/\H.Perm (e++[a])/\f.length=P.length:=by
 refine aE func100 ?_;refine(UC h).Y ?_;rintro _ U _ ⟨s,j⟩;cases ax:H[0]? with
 |none=>
  rw[ax]at j;subst j;rw[fS,fT,fU];refine dh (λaa=>Ext w aa) (λaa J=>.inl ⟨j6 (Nat.le_zero.1 (List.getElem?_eq_none_iff.1 ax)),J,rfl⟩) λaA x=>?_;rw[bc];exact x _ s
 |some a=>
  rw[ax]at j;subst j;rw[fS,fT,fU];refine dh (λaa=>∃e f,ai S w aa/\ev S aa g e f/\H.Perm (e++[a])/\f.length=P.length) (λaa ⟨e,f,q⟩=>.inr ⟨a,e,f,rfl,q⟩) λaA x=>?_;rw[bS];refine(UH (h.W s) ax).Y ?_;rintro _ z _ ⟨e,f,y,q⟩;exact x _ ⟨e,f,(s.ab _).F y,q⟩
end
theorem UJ{α:Type}{step:am×Bool->α->am×Bool}(h:∀s b a,step (s,b) a=((step (s,sp) a).1,(step (s,sp) a).2||b)):∀(L:List α)(s:am)(b:Bool),L.foldl step (s,b)=((L.foldl step (s,sp)).1,(L.foldl step (s,sp)).2||b)
 :=by
 intro a;induction a<;>grind
theorem UK(s:am)(b:Bool)(v:Int):gA k j pos (s,b) v=((gA k j pos (s,sp) v).1,(gA k j pos (s,sp) v).2||b):=by
 grind [gA]
theorem UL(s:am)(b:Bool)(j:Nat):eS k (s,b) j=((eS k (s,sp) j).1,(eS k (s,sp) j).2||b):=by
 grind [eS,UJ,qk,UK]
section
variable{ax:List aD}{w U aa:x5}{af ag m:Nat}{A R:ak}{n:aJ}{s s':am}{t:aD}{D D':ak}
theorem dD.Y(h:dD ax w af ag A R n m D s' U)(f:∀r,r<U.heap.size->D r->D' r):dD ax w af ag A R n m D' s' U:=by
 obtain⟨h1,j,aS,bx,q,a,s,x⟩:=h;exact⟨h1,j,aS,bx,q,a,s,λr e=>(x r e).imp id (f r (a.lt (.inl e)))⟩
def ke(k:Int)(j:Nat)(sc:Λ)(s:am)(i:Nat):am×Bool:=(X0 i).foldl (qk k j sc) (s,sp)
theorem UM{i:Nat}{sc:Λ}:ke k j sc s (i+1)=qk k j sc (ke k j sc s i) i:=by
 grind [ke,List.range_succ]
theorem UN{α β:Type}{f:β->α->β}{l:List α}{a:α}{b:β}(h:l[j]?=σ a):(l.take (j+1)).foldl f b=f ((l.take j).foldl f b) a:=by
 grind [u9]
theorem UO{f:bL}(h:bD w af ag A R n s t)(aM:Laid w)(ba:¬A 0)(aC:eu ax t)(ah:s.ho[j]?=σ f):aq x8 JG [Γ af,Δ (j:Int)] w λr I=>r= .bool (eS n.k (s,sp) j).2/\cA ax w af ag A R n (eS n.k (s,sp) j).1 I:=by
 have bb:=h.2.2.2.1;obtain⟨aN,_,_⟩:=bb.ho f (x7 ah);have bc:eS n.k (s,sp) j=ke n.k j f.sc s f.sc.length:=by grind [eS,ke]
 rw[bc];refine jq func101 ?_;refine bn λg1 U bV aO z=>?_;refine bn λbW aa bX ay E=>?_;have bY:=aj.lt z;have bZ:=aj.lt E;refine bE ee.i λL b0 b1 bd be=>?_;refine bw ee.i rfl rfl be (by show 0<1;omega) λb2 bf b3 am=>?_;have am:=am;have an:=bd.put bf Ω;have z:=(aj.W z ay).W an;have E:=aj.W E an;have aP:=(aO.F ay).F an;have b5:=aO.size;have b6:=ay.size;have b8:=an.size;have b9:=z.lt;have ca:=E.lt;have cb:=am.lt;have ae:=rq aM;rw[aG Ψ (z.cell rfl),aG Ψ (E.cell rfl)];refine(md (h.W aP) ah).Y ?_;rintro sv H _ ⟨W,gs,cc,aA⟩;rw[a8 au.u aA.ls];have z5:=W.size;have z:=z.W W;have E:=E.W W;refine b7.range f.sc.length (λi B=>dD ax w af ag A R n w.heap.size (λr=>H.heap.size<=r) (ke n.k j f.sc s i).1 B/\ai (λr=>r<w.heap.size\/H.heap.size<=r\/r=L) H B/\aj B L ee [.bool (ke n.k j f.sc s i).2]) aA.ls.le ⟨dD.start h aM ba aC (aP.F W) (o6 _),ai.refl _ _,am.W W⟩ ?_ ?_
 .rintro i B bg hi ⟨X,Y,aB⟩ bi;refine bF Ω ?_;obtain⟨u,hu⟩:=aI (l:=f.sc) hi;have aQ:=x7 hu;have bj:=(aN.scope.1 u aQ).1;have cd:=aN.d9 u aQ;have Z:∀{g:Nat}{e:o4}{cs:List x4},w.heap.size<=g->g<L->aj H g e cs->aj B g e cs:=λce cf bk=>bk.ab Y Ω;have bl:=(aA.ab Y Ω).ls;refine nR rfl au.u al.i bl hu λcg ch bm=>?_;rw[aG Ψ bm];refine bE al.i λcj ck cl bo bp=>?_;refine bw al.i rfl rfl bp (by show 0<1;omega) λcm bq cn ac=>?_;have ac:=ac;have ap:=bo.put bq Ω;have cp:=Y.size;have cq:=ap.size;have cr:=ac.lt;obtain⟨ct,cu,aT,cw,cz,cB⟩:=X.qg;have br:=X.2.1.1;have bs:=aT.2.2.2.1;have cC:=bs.d9;obtain⟨x,J⟩:=aI (l:=(ke n.k j f.sc s i).1.d9) (i:=u.toNat) Ω;have cD:aU (ke n.k j f.sc s i).1 u=az x:=by grind [aU]
  rw[aG Ψ (((Z Ω Ω z).W ap).cell rfl)];refine(jF (aT.W ap)).Y ?_;rintro _ cE _ ⟨⟨b,aV,rfl,aW⟩,aX⟩;refine(mM (n:=aV)).Y ?_;rintro _ O _ ⟨aY,aD,rfl,cF,aZ⟩;have bt:=lA aW bj J;have aE:=aX.F aY;have K:=ap.F aE;have z9:=aX.size;have cG:=aY.size;have cH:=aZ.lt;have bu:ke n.k j f.sc s (i+1)=(az x).foldl (gA n.k j i) (ke n.k j f.sc s i):=by
   grind [UM,qk]
  have cI:(ke n.k j f.sc s i)=((ke n.k j f.sc s i).1,(ke n.k j f.sc s i).2):=rfl;generalize ke n.k j f.sc s i=P at*;refine kH.old ⟨_,sp,jQ,#[Γ aD],_,_,_,_,λM I=>dD ax w af ag A R n w.heap.size (λr=>H.heap.size<=r/\¬(B.heap.size<=r/\r<O.heap.size)) (((az x).take M).foldl (gA n.k j i) P).1 I/\ai (λr=>r<w.heap.size\/(H.heap.size<=r/\¬(B.heap.size<=r/\r<O.heap.size))\/r=L) O I/\aj I L ee [.bool (((az x).take M).foldl (gA n.k j i) P).2],λ_ _ _=>False,rfl,(mL (g:=aD) aW.1).s,?_,
   λ_ _ J h=>⟨h.1.W J,h.2.W J⟩,λ_ _ _ J h=>⟨h.1.W J,h.2.1.F (J.ab _),h.2.2.W J⟩,by grind,⟨aZ,br.W K⟩,⟨(X.Y Ω).W K,ai.refl _ _,aB.W K⟩,?_,?_,by grind,by grind⟩
  .grind
  .rintro _ M _ cJ ⟨a1,aF⟩ ⟨cK,rfl,v,cL,bB⟩ ⟨Q,q,S⟩;cases bB;intro cM C _ _;have bC:(az x)[M]?=σ (v:Int):=by grind
   have aH:=UN (f:=gA n.k j i) (b:=P) bC;generalize cN:((az x).take M).foldl (gA n.k j i) P=y at Q S aH;obtain⟨cO,cP,a2,bG,bH,bI⟩:=Q.qg;have cQ:=q.size;have z12:=C.size;have aJ:=((((Z Ω Ω z).W K).ab q Ω).W C).Qz rfl;have aK:=((((Z Ω Ω E).W K).ab q Ω).W C).Qz rfl;have aL:=(((ac.W aE).ab q Ω).W C).Qz rfl;rw[aG Ψ aJ,aG Ψ aK,aG Ψ aL];refine(Tk (a2.W C) (aF.W C)).Y ?_;rintro _ V _ ⟨N,ad⟩;have G:=C.F N;have no:gA n.k j i y (v:Int)=y->(aj V aD ci [.int .u64 b,Δ aV]/\Laid V)/\(dD ax w af ag A R n w.heap.size (λr=>H.heap.size<=r/\¬(B.heap.size<=r/\r<O.heap.size)) (((az x).take (M+1)).foldl (gA n.k j i) P).1 V/\ai (λr=>r<w.heap.size\/(H.heap.size<=r/\¬(B.heap.size<=r/\r<O.heap.size))\/r=L) O V/\aj V L ee [.bool (((az x).take (M+1)).foldl (gA n.k j i) P).2]):=λe=>by
    refine⟨⟨a1.W G,aF.W G⟩,?_⟩;rw[aH,e];exact⟨Q.W G,q.F (G.ab _),S.W G⟩
   have ak:gA n.k j i y (v:Int)=match dx y.1 j i v with
    |none=>y
    |some (f,_,_)=>if 0<eM n.k y.1 f i v then((bh n.k y.1 (projM j i v (eM n.k y.1 f i v))).1,s2)else y:=rfl
   cases a6:dx y.1 (j:Int) (i:Int) (v:Int)with
   |none=>
    rw[a6]at ad ak;subst ad;rw[bz,bA,bU,ao];refine⟨λh=>Ω,λ_=>?_⟩
    grind
   |some bJ=>
    obtain⟨bK,cR,cS⟩:=bJ;rw[a6]at ad ak;simp only[u7]at ad ak;subst ad;rw[bz,bA,bU,ao];refine⟨λa7=>?_,λa7=>?_⟩
    rotate_left
    .grind
    rw[m3 a7]at ak;have aJ:=((((((Z Ω Ω z).W K).ab q Ω).W C)).W N).Qz rfl;have aK:=((((((Z Ω Ω E).W K).ab q Ω).W C)).W N).Qz rfl;have aL:=((((ac.W aE).ab q Ω).W C).W N).Qz rfl;rw[aG Ψ aJ,aG Ψ aK,aG Ψ aL];have cT:=N.size;refine(zv (a:=projM j i v (eM n.k y.1 bK i v)) rfl (a2.W G) (aF.W G) bH bG).Y ?_;rintro _ cU _ ⟨rfl,bM,bN,aS,bx,bO,bP,bQ,cV⟩;obtain⟨bR,av,cW⟩:=bI (iN G bM) ((Grow.W G).F bO) bP bQ (λr h=>h) Ω;have cX:=av.size;have bS:=S.ab av Ω;refine bw ee.i rfl rfl bS Ξ λcY aw cZ bT=>?_;refine⟨⟨(a1.ab av Ω).ab aw Ω,iH aw Ω bN⟩,?_,by grind⟩;dsimp only;rw[aH,ak];exact⟨bR.own aw Ω,(q.F (av.Y Ω)).F (aw.Y Ω),bT⟩
  .rintro k c0 rfl ⟨Q,q,S⟩;rw[j9 (by rw[<-bt,r9];exact o6 _),<-bu]at Q S;rw[aR];exact bi _ ⟨Q.Y λr _ h=>h.1,(Y.F (K.ab _)).F (q.Y Ω),S⟩
 .rintro B bg ⟨X,Y,aB⟩;refine b4 Ω ?_;rw[aG Ψ (aB.cell rfl)];intro V N _;exact⟨rfl,X.done N⟩
end
section
variable{n:aJ}{s:am}
def qm(n:aJ)(s:am):Prop:=∀(j:Nat)f,s.ho[j]?=σ f->f.live≠0->∀p,p<f.sc.length->∀v∈aU s (f.sc.getD p 0),¬(0<(lD n s j f p v).1\/(lD n s j f p v).2=ν)
def tq(n:aJ)(s:am):Prop:=∀(j:Nat)f,s.ho[j]?=σ f->f.live≠0->f.sc.length=2->∀v∈aU s (f.sc.getD 0 0),¬0<(oZ n s j f v).1
end
section
variable{w:x5}{dm:x4}{n:aJ}{s:am}
theorem UP{a b:Int}{f:bL}{y:bp}(h:bd n.k n.d6 s)(ah:s.ho[j]?=σ f)(w:f.live≠0)(q:f.sc=[a,b])(ae:pos=0\/pos=1)(ac:v∈aU s (if pos=1 then b else a))(e:s.d9[(if pos=1 then a else b).toNat]?=σ y):
  (cJ n.k (az y) λu=>min (bu f.an f.cs (if pos=1 then[u,v]else[v,u])+y.un.getD u.toNat 0) n.k)=cJ n.k (az y) (iU n s j (pos:Int) v (if pos=1 then a else b)):=by
 refine GJ λu hu=>?_;obtain⟨r,_,_⟩:=h.ho f (x7 ah);obtain⟨o,aC⟩:∃o,o=(if pos=1 then a else b):=⟨_,rfl⟩;have x:0<=o:=by
  have h1:=(r.scope.1 a (by rw[q];exact .head _)).1;have z:=(r.scope.1 b (by rw[q];exact .tail _ (.head _))).1;rw[aC];split<;>omega
 rw[<-aC]at e ⊢;obtain⟨on,rfl⟩:=Y6 x;rw[u7]at e;obtain⟨m,hm⟩:=GN h (x7 ah) q ae ac (by rw[<-aC,np e];exact hu);unfold iU;rw[we h e hu,show((if(pos:Int)=1 then[u,v]else[v,u]):Λ)=if pos=1 then[u,v]else[v,u] by
  rcases ae with rfl|rfl<;>rfl,(tg ah w hm).1]
end
section
variable{w:x5}{dm:x4}{n:aJ}{s:am}
theorem zM{p:Nat}{f:bL}(a:bd n.k n.d6 s)(ah:s.ho[j]?=σ f)(e:f.live≠0)(ae:p<f.sc.length)(ac:v∈aU s (f.sc.getD p 0)):lD n s j f p v=gb n.k (bu f.an f.cs) (bW s f.sc p v):=by
 unfold lD;rw[RR ae];refine TT λtl h=>?_;obtain⟨m,hm⟩:=oY a (x7 ah) (λu hu=>by rw[r8,hu]at ac;exact ac) h;exact(tg ah e hm).1
theorem UQ{f:bL}{a b:Int}{y:bp}(r:bd n.k n.d6 s)(ah:s.ho[j]?=σ f)(w:f.live≠0)(e:f.sc=[a,b])(ac:v∈aU s a)(q:s.d9[b.toNat]?=σ y):oZ n s j f v=cJ n.k (az y) λu=>min (bu f.an f.cs [v,u]+y.un.getD u.toNat 0) n.k:=by
 have h:=UP r ah w e (.inl rfl) ac q;simp only[show¬(0:Nat)=1 by decide,if_false]at h;rw[h];unfold oZ;rw[e];show cJ n.k (aU s b) _=_;unfold aU;rw[q];rfl
theorem UR{f:x4}{o:Option (Λ)}{K:x4->Prop}(h:rr w f o):ad x8 (aT .eql au sp s2 f (.slice ν 0 0)) w K=K (.bool (decide (o=ν))):=by
 obtain⟨a,n,c,rfl,e⟩:=h.nil;rw[qG au.u,e]
theorem US(h:e3 w dm n.k n.d6 s)(B:bd n.k n.d6 s)(aB:qj s)(bp:s.ho.length<=1000):aq x8 IY [dm] w λr I=>Ext w I/\∃b:Bool,r= .bool b/\(b=s2↔qm n s/\fN n s):=by
 have br:=B.d9;refine aE func43 ?_;refine bn λg1 U bs N O=>?_;have P:=h.box N O;obtain⟨hv,bt,bu,bw,bx,bB,af,bC,_,aC,bD,bG,ag,bH⟩:=id P;rw[aN aK.p 6 af rfl,fE c7.u ag,r9];have no:∀{I:x5},Ext U I->¬qm n s->Ext w I/\∃b:Bool,x4.bool sp= .bool b/\(b=s2↔qm n s/\fN n s):=λaD Q=>⟨N.F aD,sp,rfl,λh=>(by cases h),λh=>m6 h.1 Q⟩;refine ce.range s.ho.length (λj _ aa=>Ext U aa/\∀q,q<j->∀f,s.ho[q]?=σ f->∀p,p<f.sc.length->∀v∈aU s (f.sc.getD p 0),¬(0<(lD n s q f p v).1\/(lD n s q f p v).2=ν)) Ω ⟨Ext.refl _,λq C=>m6 C (Nat.not_lt_zero _)⟩ ?_ ?_
 rotate_left
 .rintro _ aa aF ⟨E,R⟩;refine b4 Ω ?_;refine(P.W E).load λaH S=>?_;refine(Uz S B).Y ?_;rintro _ bI _ ⟨aJ,b,rfl,O⟩;exact⟨(N.F E).F aJ,b,rfl,O.F ⟨λh=>⟨λj f ah _=>R j (x6.1 ah).1 f ah,h⟩,λh=>h.2⟩⟩
 rintro j bJ aa aF aL ⟨E,R⟩ aM;obtain⟨fn,a⟩:=aI (l:=s.ho) aL;have V:=aB fn (x7 a);obtain⟨ai,_,_⟩:=B.ho fn (x7 a);refine bF Ω ?_;refine lV cr.p rfl c7.u cr.i (bq ag E) (by rw[u4,a];rfl) λcs aO=>?_;obtain⟨aZ,aP,bf,rfl,aj,aQ,aS⟩:=me aO;refine bE cr.i λga bK bL aT aV=>?_;refine b3 (vs:=[aZ,aP,bf,.bool (decide (fn.live≠0))]) cr.i rfl rfl (Gn aj aQ aS) aV λaW aX bM ak=>?_;have am:=aT.put aX Ω;have an:=E.F am;have W:=c3 (bq aj am);rw[a1 cr.p rfl,a1 ba.p rfl,aG Ψ (ak.cell rfl),a8 au.u W];refine ce.range fn.sc.length (λpos _ G=>Ext aW G/\∀p,p<pos->∀v∈aU s (fn.sc.getD p 0),¬(0<(lD n s j fn p v).1\/(lD n s j fn p v).2=ν)) W.le ⟨Ext.refl _,λp ae=>m6 ae (Nat.not_lt_zero _)⟩ ?_ ?_
 rotate_left
 .rintro t5 G aY ⟨z,X⟩;refine b4 Ω ?_;rw[aR];refine aM _ _ ⟨an.F z,λq C f ah=>?_⟩;rcases Nat.lt_or_eq_of_le (Nat.le_of_lt_succ C)with be|rfl
  .exact R q be f ah
  .rw[a]at ah;cases ah;exact X
 rintro pos t5 G aY H ⟨z,X⟩ a2;obtain⟨u,hu⟩:=aI (l:=fn.sc) H;have ap:=x7 hu;have a7:=(ai.scope.1 u ap).1;have bN:=ai.d9 u ap;obtain⟨un,rfl⟩:=Y6 a7;obtain⟨x,J⟩:=aI (l:=s.d9) (i:=un) Ω;have av:aU s (fn.sc.getD pos 0)=az x:=by rw[r8,hu];exact np J
 have Y:=an.F z;refine bF Ω ?_;rw[bk au.u al.i Ψ (W.W z) hu,aN aK.p 3 (af.W Y) rfl];refine fF rfl rfl ca.u au.i Ψ (bq aC Y) (by rw[u4,J];rfl) λbO bb=>?_;have Z:=c3 bb;rw[a8 au.u Z];refine ce.range (az x).length (λq _ ab=>Ext G ab/\∀v∈(az x).take q,¬(0<(lD n s j fn pos v).1\/(lD n s j fn pos v).2=ν)) Z.le ⟨Ext.refl _,λv ac=>by cases ac⟩ ?_ ?_
 rotate_left
 .rintro bc ab bg ⟨A,K⟩;rw[o9]at K;refine b4 Ω ?_;rw[aR];refine a2 _ _ ⟨z.F A,λp ae=>?_⟩;rcases Nat.lt_or_eq_of_le (Nat.le_of_lt_succ ae)with be|rfl
  .exact X p be
  .rw[av];exact K
 rintro q bc ab bg C ⟨A,K⟩ bh;obtain⟨v,ac⟩:=aI (l:=az x) C;have bi:=x7 ac;have aw:=Y.F A;have L:v∈aU s (fn.sc.getD pos 0):=by rw[av];exact bi
 refine bF Ω ?_;rw[bk au.u al.i Ψ (Z.W A) ac];refine(P.W aw).load λaH S=>?_;refine(TV S B a H λu' bj=>by rw[r8,bj]at L;exact L).Y ?_;rintro _ bl _ ⟨ad,fv2,rfl,ax⟩;rw[<-zM B a V H L]at ax ⊢;rw[bz,bA];have bm:=aw.F ad;refine a6 (λr bo=>bo=bl/\r= .bool (decide (0<(lD n s j fn pos v).1\/(lD n s j fn pos v).2=ν))) ?_ λaA ay=>?_
 .rintro _ _ ⟨rfl,rfl⟩;rw[ao];refine⟨λe=>no bm λQ=>Q j fn a V pos H v L e,λe=>?_⟩;rw[aR];refine bh _ _ ⟨A.F ad,λy M=>?_⟩;rw[u9,ac,j4,j5,Y1]at M;rcases M with M|rfl
  .exact K y M
  .exact e
 .rw[a1 cr.p rfl,aG Ψ (((ak.W z).W (A.F ad)).cell rfl),ms V,bS,bU,ao];refine⟨λe=>ay _ _ ⟨rfl,by rw[ms (.inl e)]⟩,λe=>?_⟩;rw[UR ax];refine ay _ _ ⟨rfl,?_⟩;congr 1;exact decide_eq_decide.2 ⟨λh=>.inr h,λh=>h.resolve_left e⟩
theorem UT(h:e3 w dm n.k n.d6 s)(E:bd n.k n.d6 s)(ag:qj s)(aD:s.ho.length<=1000):aq x8 IZ [dm] w λr I=>Ext w I/\∃b:Bool,r= .bool b/\(b=s2↔tq n s/\qm n s/\fN n s):=by
 have bp:=E.d9;refine aE func44 ?_;refine bn λg1 U br P Q=>?_;have R:=h.box P Q;obtain⟨hv,bs,bt,bu,bw,bx,ai,bB,_,aF,bC,bD,aj,bG⟩:=id R;rw[aN aK.p 6 ai rfl,fE c7.u aj,r9];have no:∀{I:x5},Ext U I->¬tq n s->Ext w I/\∃b:Bool,x4.bool sp= .bool b/\(b=s2↔tq n s/\qm n s/\fN n s):=λaH S=>⟨P.F aH,sp,rfl,λh=>(by cases h),λh=>m6 h.1 S⟩;refine ce.range s.ho.length (λj _ aa=>Ext U aa/\∀q,q<j->∀f,s.ho[q]?=σ f->f.sc.length=2->∀v∈aU s (f.sc.getD 0 0),¬0<(oZ n s q f v).1) Ω ⟨Ext.refl _,λq G=>m6 G (Nat.not_lt_zero _)⟩ ?_ ?_
 rotate_left
 .rintro _ aa aJ ⟨H,V⟩;refine b4 Ω ?_;refine(R.W H).load λaL W=>?_;refine(US W E ag aD).Y ?_;rintro _ X _ ⟨Y,b,rfl,Q⟩;exact⟨(P.F H).F Y,b,rfl,Q.F ⟨λh=>⟨λj f ah _=>V j (x6.1 ah).1 f ah,h⟩,λh=>h.2⟩⟩
 rintro j bH aa aJ aM ⟨H,V⟩ aO;obtain⟨fn,A⟩:=aI (l:=s.ho) aM;have Z:=ag fn (x7 A);obtain⟨M,_,_⟩:=E.ho fn (x7 A);refine bF Ω ?_;refine a6 (λ_ X=>Ext U X/\(fn.sc.length=2->∀v∈aU s (fn.sc.getD 0 0),¬0<(oZ n s j fn v).1)) ?_ λaA ak=>?_
 .rintro _ X ⟨Y,aP⟩;rw[aR];refine aO _ _ ⟨Y,λq G f ah=>?_⟩;rcases Nat.lt_or_eq_of_le (Nat.le_of_lt_succ G)with be|rfl
  .exact V q be f ah
  .rw[A]at ah;cases ah;exact aP
 refine lV cr.p rfl c7.u cr.i (bq aj H) (by rw[u4,A];rfl) λcs aQ=>?_;obtain⟨aZ,aS,bf,rfl,am,aT,aV⟩:=me aQ;refine bE cr.i λga bI bJ aW aX=>?_;refine b3 (vs:=[aZ,aS,bf,.bool (decide (fn.live≠0))]) cr.i rfl rfl (Gn am aT aV) aX λaY a2 a7 ab=>?_;have an:=aW.put a2 Ω;have ap:=H.F an;have av:=c3 (bq am an);refine a6 (λr K=>K=aY/\r= .bool (decide (fn.sc.length≠2))) ?_ λbK bb=>?_
 rotate_left
 .rw[a1 cr.p rfl,aG Ψ (ab.cell rfl),ms Z,bN,Y5,bc,a1 cr.p rfl,a1 ba.p rfl,aG Ψ (ab.cell rfl),a8 au.u av,bM];refine bb _ _ ⟨rfl,?_⟩;congr 1;exact decide_eq_decide.2 ⟨λh e=>h Ω,λh e=>h Ω⟩
 rintro _ _ ⟨rfl,rfl⟩;rw[ao];refine⟨λC=>ak _ _ ⟨ap,λh=>m6 h C⟩,λC=>?_⟩;have C:=X1.1 C;obtain⟨a,b,z⟩:∃a b,fn.sc=[a,b]:=by
  match a7:fn.sc,C with
  |[a,b],_=>exact⟨a,b,rfl⟩
 have bL:=M.d9 a (by rw[z];exact .head _);have bO:=M.d9 b (by rw[z];exact .tail _ (.head _));have bg:=(M.scope.1 a (by rw[z];exact .head _)).1;have bP:=(M.scope.1 b (by rw[z];exact .tail _ (.head _))).1;obtain⟨un,rfl⟩:=Y6 bg;obtain⟨x,J⟩:=aI (l:=s.d9) (i:=un) Ω;obtain⟨y,B⟩:=aI (l:=s.d9) (i:=b.toNat) Ω;have aw:aU s (fn.sc.getD 0 0)=az x:=by rw[z];exact np J
 have hu:fn.sc[0]?=σ (un:Int):=by rw[z];rfl
 intro bh ad _ _;have N:=ap.F ad;rw[aN aK.p 3 (ai.W N) rfl,a1 cr.p rfl,a1 ba.p rfl,aG Ψ ((ab.W ad).cell rfl),ft (y:=0) (i:=0) rfl au.u al.i Ψ (av.W ad) hu];refine fF rfl rfl ca.u au.i Ψ (bq aF N) (by rw[u4,J];rfl) λbQ bi=>?_;have ae:=c3 bi;rw[a8 au.u ae];refine ce.range (az x).length (λq _ K=>Ext bh K/\∀v∈(az x).take q,¬0<(oZ n s j fn v).1) ae.le ⟨Ext.refl _,λv ac=>by cases ac⟩ ?_ ?_
 rotate_left
 .rintro bj K bl ⟨L,O⟩;rw[o9]at O;refine b4 Ω ?_;exact ak _ _ ⟨N.F L,λ_=>by rw[aw];exact O⟩
 rintro q bj K bl G ⟨L,O⟩ bm;obtain⟨v,ac⟩:=aI (l:=az x) G;have ax:=x7 ac;have ay:=N.F L;have aB:v∈aU s (un:Int):=by rw[np J];exact ax
 refine bF Ω ?_;rw[bk au.u al.i Ψ (ae.W L) ac];refine(R.W ay).load λaL W=>?_;have bo:=UQ E A Z z aB B;refine(TW W E A z (.inl rfl) aB B).Y ?_;rintro _ bR _ ⟨aC,rfl⟩;simp only[show¬(0:Nat)=1 by decide,if_false];rw[bz,bA,<-bo,bU,ao];refine⟨λaf=>no (ay.F aC) λS=>S j fn A Z C v (by rw[aw];exact ax) af,λaf=>?_⟩;rw[aR];refine bm _ _ ⟨L.F aC,λy B=>?_⟩;rw[u9,ac,j4,j5,Y1]at B;rcases B with B|rfl
 .exact O y B
 .exact af
end
def dq(pos:Nat)(v w:Int):Λ:=if pos=1 then[w,v]else[v,w]
structure gU(n:aJ)(s s':am):Prop where
 ok:bd n.k n.d6 s'
 gw:bV s'
 same:dJ s s'
 val:∀a,ig s a->eK n.k s' a=eK n.k s a
 fm:∀i,aU s' i=aU s i
 zero:s'.zero=s.zero
section
variable{n:aJ}{s:am}
theorem gU.rfl(a:bd n.k n.d6 s)(e:bV s):gU n s s:=⟨a,e,.rfl,Ω,λ_=>Eq.refl _,Eq.refl _⟩
theorem gU.F{a b c:am}(h:gU n a b)(g:gU n b c):gU n a c:=
 ⟨g.ok,g.gw,h.same.F g.same,λx J=>(g.val x (vP h.same J)).F (h.val x J),λi=>(g.fm i).F (h.fm i),g.zero.F h.zero⟩
structure dP(n:aJ)(s:am)(j:Nat)(pos:Nat)(f:bL)(i o:Int):Prop where
 ah:s.ho[j]?=σ f
 live:f.live≠0
 len:f.sc.length=2
 p:pos=0\/pos=1
 hi:f.sc[pos]?=σ i
 aC:f.sc[1-pos]?=σ o
theorem dP.rx{f:bL}{i o:Int}(h:dP n s j pos f i o)(r:bd n.k n.d6 s):0<=i/\i<n.d6.length/\0<=o/\o<n.d6.length/\i≠o:=by
 have a:=(r.ho f (x7 h.ah)).1;have h1:=x7 h.hi;have q:=x7 h.aC;refine⟨(a.scope.1 _ h1).1,a.d9 _ h1,(a.scope.1 _ q).1,a.d9 _ q,λe=>?_⟩;have w:f.sc.Pairwise (·< ·):=a.up;have x:=h.len;rw[U1]at w;have y:=(x6.1 h.hi);have z:=(x6.1 h.aC)
 grind
theorem wi:(dq pos v w).length=2:=by grind [dq]
theorem Hh(ae:pos=0\/pos=1):(dq pos v w)[pos]?=σ v/\(dq pos v w)[1-pos]?=σ w:=by
 grind [dq]
theorem Hi{f:bL}{i o x:Int}(h:dP n s j pos f i o)(ac:v∈aU s i)(hw:w∈aU s o):(dq pos v w∈bW s f.sc pos x↔v=x)/\(dq pos v w∈bW s f.sc (1-pos) x↔w=x):=by
 obtain⟨r,y⟩:=Hh (v:=v) (w:=w) h.p;have key:∀(q:Nat)u b,f.sc[q]?=σ u->(dq pos v w)[q]?=σ b->(q=pos/\b=v/\u=i)\/(q=1-pos/\b=w/\u=o):=λq u b hu a=>by
  have z:=(x6.1 a).1;rw[wi]at z;by_cases e:q=pos
  .subst e;rw[r]at a;have hi:=h.hi
   grind
  .have A:q=1-pos:=by grind [dP.p]
   subst A;rw[y]at a;have aC:=h.aC
   grind
 have B:pos≠1-pos:=Ω
 refine⟨⟨λhm=>?_,λe=>?_⟩,⟨λhm=>?_,λe=>?_⟩⟩
 .grind [oU]
 .subst e;refine oU.2 ⟨wi.F h.len.symm,λq u b hu a=>?_⟩
  grind
 .grind [oU]
 .subst e;refine oU.2 ⟨wi.F h.len.symm,λq u b hu a=>?_⟩
  grind
theorem Hj{f:bL}{i o:Int}(h:dP n s j pos f i o)(a:bd n.k n.d6 s)(ac:v∈aU s i)(hw:w∈aU s o):∃m:Nat,cj f.an (dq pos v w) 0=σ (m:Int):=
 oY a (x7 h.ah) (λu hu=>by have:=h.hi;grind) ((Hi (x:=v) h ac hw).1.2 rfl)
theorem Hk{i:Int}(a:bd n.k n.d6 s)(h:0<=i)(ac:v∈aU s i)(e:∀x,s.d9[i.toNat]?=σ x->x.gone=0):∃x,dH s i v=σ x/\s.d9[i.toNat]?=σ x/\bQ n s i v=x.un.getD v.toNat 0/\eF n i v/\v.toNat<x.un.length:=by
 unfold aU at ac;cases J:s.d9[i.toNat]? with
 |none=>grind
 |some x=>
  rw[J]at ac;have j:v∈az x:=ac;have q:=e x J;have r:=(x6.1 J).1;have w:=a.d9;obtain⟨z,f⟩:=aI (l:=n.d6) (i:=i.toNat) Ω;have y:=(a.var i.toNat x z J f).1
  grind [e2,eF,dH,bQ,fz]
theorem UU{f:bL}{i o:Int}{x:bp}(h:dP n s j pos f i o)(ac:dH s i v=σ x):dx s (j:Int) (pos:Int) v=σ (f,i,x):=by
 unfold dx;rw[m3 ⟨Ω,Ω⟩,u7,h.ah];simp only;rw[m3 h.live,u7,h.hi]
 grind
theorem dP.flip{f:bL}{i o:Int}(h:dP n s j pos f i o):dP n s j (1-pos) f o i:=⟨h.ah,h.live,h.len,Ω,h.aC,by have:=h.p;grind [dP.hi]⟩
theorem UV(ae:pos=0\/pos=1):dq (1-pos) w v=dq pos v w:=by
 grind [dq]
def fd(b:Bool)(j pos:Nat)(v c:Int):fL:=⟨if b then 1 else 0,j,pos,v,c⟩
theorem Hl{f:bL}{i o c:Int}{b:Bool}(h:dP n s j pos f i o)(z:bd n.k n.d6 s)(G:bV s)(ac:v∈aU s i)(B:0<=c/\c<=n.k)(H:if b then c<=bQ n s i v else∀w∈aU s o,c<=ec s j (dq pos v w)):
  gU n s (bh n.k s (fd b j pos v c)).1/\(∃g,dP n (bh n.k s (fd b j pos v c)).1 j pos g i o)/\
  (∀A∈aU s i,∀w∈aU s o,ec (bh n.k s (fd b j pos v c)).1 j (dq pos A w)=if A=v then(if b then b6 n.k (ec s j (dq pos A w)) c else cK n.k (ec s j (dq pos A w)) c)else ec s j (dq pos A w))/\
  ∀r u,0<=r->0<=u->bQ n (bh n.k s (fd b j pos v c)).1 r u=if r=i/\u=v then(if b then cK n.k (bQ n s i v) c else b6 n.k (bQ n s i v) c)else bQ n s r u:=by
 have R:=h.rx z;have I:=x7 h.ah;have S:∀x,s.d9[i.toNat]?=σ x->x.gone=0:=G f I h.live i (x7 h.hi);obtain⟨x,T,J,U,V,ab⟩:=Hk z R.1 ac S;have ae:=UU h T;have ad:0<=v:=V.2.2.1;obtain⟨tup,un,C⟩:∃tup un:Int->Int,bh n.k s (fd b j pos v c)=(fA s j f pos i.toNat x v tup un,0)/\tup=(if b then λg=>b6 n.k g c else λg=>cK n.k g c)/\un=(if b then λg=>cK n.k g c else λg=>b6 n.k g c):=by
  cases b with
  |true=>
   refine⟨_,_,?_,rfl,rfl⟩;have K:c<=bQ n s i v:=by grind
   rw[U]at K;have q:=(zg (k:=n.k) (a:=fd s2 j pos v c) ae).2.2.2 rfl B K
   grind [fd]
  |false=>
   refine⟨_,_,?_,rfl,rfl⟩;have H:∀w∈aU s o,c<=ec s j (dq pos v w):=by grind
   have q:=(zg (k:=n.k) (a:=fd sp j pos v c) ae).2.1 rfl B (room_le.2 ⟨B.2,λt L=>?_⟩)
   .grind [fd]
   .have L:t∈bW s f.sc pos v:=by grind [fd]
    obtain⟨af,M⟩:=oU.1 L;have ag:=h.len;obtain⟨w,hw⟩:=aI (l:=t) (i:=1-pos) Ω;obtain⟨y,W⟩:=aI (l:=t) (i:=pos) (by have:=h.p;omega);have h1:=M pos i y h.hi W;rw[m3 rfl]at h1;have E:=M (1-pos) o w h.aC hw;rw[m5 (by have:=h.p;omega)]at E;have e:t=dq pos v w:=by
     obtain⟨ai,aj⟩:=Hh (v:=v) (w:=w) h.p;refine Y3 λq=>?_
     grind [wi]
    obtain⟨m,hm⟩:=Hj h z ac E;have N:=H w E;rw[(tg h.ah h.live hm).1]at N;rw[e];exact N
 obtain⟨C,ak,al⟩:=C;have hm:=vM (m:=fd b j pos v c) z G;have F:=vO (m:=fd b j pos v c) z;rw[C]at hm F ⊢;obtain⟨O,P,X⟩:=hm;simp only at O P X F ⊢;have Y:∀r,aU (fA s j f pos i.toNat x v tup un) r=aU s r:=zf J;have Z:=(x6.1 h.ah).1;have Q:(fA s j f pos i.toNat x v tup un).ho[j]?=σ {f with cs:=er tup (bW s f.sc pos v) f.an f.cs}:=Z6 Z;obtain⟨am,ao⟩:=ka z I;refine⟨⟨O,P,F,λa ap=>?_,Y,rfl⟩,⟨_,Q,h.live,h.len,h.p,h.hi,h.aC⟩,λA aa w hw=>?_,λr u aq hu=>?_⟩
 .grind [n5,fd]
 .obtain⟨m,hm⟩:=Hj h z aa hw;rw[(tg Q h.live hm).1,(tg h.ah h.live hm).1]
  grind [FN,Hi]
 grind [zG]
end
def fo(s:am)(j pos:Nat)(need:Int->Int)(N:Λ)(w:Int):Int:=N.foldl (λm v=>max m (need v-ec s j (dq pos v w))) 0
theorem UW{g:Int->Int}{c:Int}:∀(l:Λ)(z:Int),l.foldl (λm v=>max m (g v)) z<=c↔z<=c/\∀v∈l,g v<=c
 :=by
 intro a;induction a<;>grind
theorem wj{s:am}{need:Int->Int}{N:Λ}{c:Int}:fo s j pos need N w<=c↔0<=c/\∀v∈N,need v-ec s j (dq pos v w)<=c:=UW N 0
theorem Hm{s:am}{need:Int->Int}{N:Λ}:0<=fo s j pos need N w/\∀v∈N,need v-ec s j (dq pos v w)<=fo s j pos need N w:=wj.1 (S5 _)
theorem UX{s s':am}{need:Int->Int}:∀{N:Λ}(z:Int),(∀v∈N,ec s' j (dq pos v w)=ec s j (dq pos v w))->N.foldl (λm v=>max m (need v-ec s' j (dq pos v w))) z=N.foldl (λm v=>max m (need v-ec s j (dq pos v w))) z
 :=by
 intro a;induction a<;>grind
def gB(n:aJ)(j pos:Nat)(need:Int->Int)(N:Λ):Λ->am->am
 |[],s=>s
 |w::L,s=>gB n j pos need N L (bh n.k s (fd s2 j (1-pos) w (fo s j pos need N w))).1
def kC(n:aJ)(j pos:Nat)(need:Int->Int):Λ->am->am
 |[],s=>s
 |v::M,s=>kC n j pos need M (bh n.k s (fd sp j pos v (need v))).1
section
variable{n:aJ}
theorem Hn{j pos:Nat}{i o:Int}{need:Int->Int}{N:Λ}:∀(L:Λ)(s:am)(f:bL),dP n s j pos f i o->bd n.k n.d6 s->bV s->L.Nodup->(∀w∈L,w∈aU s o/\fo s j pos need N w<=bQ n s o w)->(∀v∈N,v∈aU s i)->
  gU n s (gB n j pos need N L s)/\(∃g,dP n (gB n j pos need N L s) j pos g i o)/\
  (∀v∈aU s i,∀w∈aU s o,ec (gB n j pos need N L s) j (dq pos v w)=if w∈L then b6 n.k (ec s j (dq pos v w)) (fo s j pos need N w)else ec s j (dq pos v w))/\
  ∀a u,0<=a->0<=u->bQ n (gB n j pos need N L s) a u=if a=o/\u∈L then cK n.k (bQ n s o u) (fo s j pos need N u)else bQ n s a u
 |[],s,f,h,q,y,_,_,_=>⟨.rfl q y,⟨f,h⟩,λ_ _ _ _=>(m5 Ξ).symm,λ_ _ _ _=>(m5 Ξ).symm⟩
 |w::L,s,f,h,q,y,C,E,K=>by
  obtain⟨hw,F⟩:=E w (.head _);obtain⟨M,G⟩:=List.nodup_cons.1 C;have O:=(lC (n:=n) (s:=s) (i:=o) (v:=w) q).2;obtain⟨r,⟨g,x⟩,A,z⟩:=Hl (b:=s2) (v:=w) (c:=fo s j pos need N w) h.flip q y hw ⟨Hm.1,Ω⟩ F;have x:dP n (bh n.k s (fd s2 j (1-pos) w (fo s j pos need N w))).1 j pos g i o:=by
   have:=x.flip
   grind [dP.p]
  have A:∀v∈aU s i,∀I∈aU s o,ec (bh n.k s (fd s2 j (1-pos) w (fo s j pos need N w))).1 j (dq pos v I)=if I=w then b6 n.k (ec s j (dq pos v I)) (fo s j pos need N w)else ec s j (dq pos v I):=by grind [UV,dP.p]
  have z:∀a u,0<=a->0<=u->bQ n (bh n.k s (fd s2 j (1-pos) w (fo s j pos need N w))).1 a u=if a=o/\u=w then cK n.k (bQ n s o w) (fo s j pos need N w)else bQ n s a u:=z;have e:gB n j pos need N (w::L) s=gB n j pos need N L (bh n.k s (fd s2 j (1-pos) w (fo s j pos need N w))).1:=rfl;rw[e];generalize (bh n.k s (fd s2 j (1-pos) w (fo s j pos need N w))).1=s1 at r x A z;have P:∀I∈L,I∈aU s o->fo s1 j pos need N I=fo s j pos need N I:=λI B Q=>by
   have R:I≠w:=by grind
   refine UX 0 λv ac=>?_
   grind
  have S:=h.rx q;have T:∀I∈aU s o,0<=I:=by grind [vN]
  obtain⟨H,J,U,V⟩:=Hn (need:=need) (N:=N) L s1 g x r.ok r.gw G (λI B=>by
   grind [gU.fm]) (by grind [gU.fm])
  refine⟨r.F H,J,λv ac I B=>?_,λa u W hu=>?_⟩
  all_goals grind [gU.fm]
theorem Ho{j pos:Nat}{i o:Int}{need:Int->Int}:∀(M:Λ)(s:am)(f:bL),dP n s j pos f i o->bd n.k n.d6 s->bV s->M.Nodup->(∀v∈M,v∈aU s i/\(0<=need v/\need v<=n.k)/\∀w∈aU s o,need v<=ec s j (dq pos v w))->
  gU n s (kC n j pos need M s)/\(∃g,dP n (kC n j pos need M s) j pos g i o)/\∀a u,0<=a->0<=u->bQ n (kC n j pos need M s) a u=if a=i/\u∈M then b6 n.k (bQ n s i u) (need u)else bQ n s a u
 |[],s,f,h,q,z,_,_=>⟨.rfl q z,⟨f,h⟩,λ_ _ _ _=>(m5 Ξ).symm⟩
 |v::M,s,f,h,q,z,E,F=>by
  obtain⟨ac,G,H⟩:=F v (.head _);obtain⟨O,I⟩:=List.nodup_cons.1 E;obtain⟨r,⟨g,B⟩,A,x⟩:=Hl (b:=sp) (v:=v) (c:=need v) h q z ac G H;have A:∀y∈aU s i,∀w∈aU s o,ec (bh n.k s (fd sp j pos v (need v))).1 j (dq pos y w)=if y=v then cK n.k (ec s j (dq pos y w)) (need v)else ec s j (dq pos y w):=A;have x:∀a u,0<=a->0<=u->bQ n (bh n.k s (fd sp j pos v (need v))).1 a u=if a=i/\u=v then b6 n.k (bQ n s i v) (need v)else bQ n s a u:=x;have e:kC n j pos need (v::M) s=kC n j pos need M (bh n.k s (fd sp j pos v (need v))).1:=rfl;rw[e];generalize (bh n.k s (fd sp j pos v (need v))).1=s1 at r B A x;have P:=h.rx q;obtain⟨J,K,L⟩:=Ho (need:=need) M s1 g B r.ok r.gw I λu hu=>by
   grind [gU.fm]
  refine⟨r.F J,K,λa u C hu=>?_⟩;rw[L a u C hu];by_cases N:a=i/\u∈M
  .have Q:u≠v:=by grind
   grind
  .rw[m5 N,x a u C hu]
   grind
def jM(n:aJ)(s:am)(j pos:Nat)(o v:Int):Int:=(cJ n.k (aU s o) (iU n s j pos v o)).1
def dQ(n:aJ)(s:am)(j pos:Nat)(i o:Int):Λ:=(aU s i).filter λv=>decide (0<jM n s j pos o v)
def lJ(n:aJ)(s:am)(j pos:Nat)(i o:Int)(M:Λ):am:=kC n j pos (jM n s j pos o) M (gB n j pos (jM n s j pos o) (dQ n s j pos i o) (aU s o) s)
theorem Hp{s:am}{i:Int}:(aU s i).Nodup:=by
 grind [aU,qa]
theorem UY{s:am}{o:Int}:iU n s j pos v o w=min (ec s j (dq pos v w)+bQ n s o w) n.k:=by
 grind [iU,dq]
theorem UZ{s:am}{i o:Int}{f:bL}{M:Λ}(h:dP n s j pos f i o)(a:bd n.k n.d6 s)(B:bV s)(r:M.Perm (dQ n s j pos i o)):
  gU n s (lJ n s j pos i o M)/\∀e u,0<=e->0<=u->bQ n (lJ n s j pos i o M) e u=if e=i/\u∈dQ n s j pos i o then b6 n.k (bQ n s i u) (jM n s j pos o u)else if e=o/\u∈aU s o then cK n.k (bQ n s o u) (fo s j pos (jM n s j pos o) (dQ n s j pos i o) u)else bQ n s e u:=by
 have hk:=a.ep;have H:=h.rx a;have x:∀v∈dQ n s j pos i o,v∈aU s i:=λv ac=>(S6.1 ac).1;have C:∀v,∀w∈aU s o,w≠ -1/\iU n s j pos v o w<=n.k:=λv w hw=>⟨by have:=(vN a hw).1;omega,(zh a).2⟩;have y:∀v,(0<=jM n s j pos o v/\jM n s j pos o v<=n.k)/\∀w∈aU s o,jM n s j pos o v<=ec s j (dq pos v w)+bQ n s o w:=λv=>by
  refine⟨tf Ω λw _=>zh a,λw hw=>?_⟩;have:=((Gb (c:=jM n s j pos o v) (C v)).1 (S5 _)).2 w hw
  grind [UY]
 obtain⟨q,⟨g,z⟩,A,E⟩:=Hn (need:=jM n s j pos o) (N:=dQ n s j pos i o) (aU s o) s f h a B Hp (λw hw=>⟨hw,wj.2 ⟨(lC a).1,λv _=>by have:=(y v).2 w hw;omega⟩⟩) x;have F:M.Nodup:=(r.nodup_iff).2 (Hp.sublist List.filter_sublist);unfold lJ;generalize gB n j pos (jM n s j pos o) (dQ n s j pos i o) (aU s o) s=s1 at q z A E;obtain⟨G,_,I⟩:=Ho (need:=jM n s j pos o) M s1 g z q.ok q.gw F λv ac=>by
  have ac:=r.mem_iff.1 ac;refine⟨by grind [gU.fm],(y v).1,λw hw=>?_⟩;rw[q.fm]at hw;rw[A v (x v ac) w hw,m3 hw];have h1:=Hm (s:=s) (j:=j) (pos:=pos) (need:=jM n s j pos o) (N:=dQ n s j pos i o) (w:=w)
  grind [b6]
 refine⟨q.F G,λe u J hu=>?_⟩
 grind
end
section
variable{n:aJ}{s:am}
def ry(n:aJ)(s:am):Prop:=∀(j:Nat)f i o,dP n s j 0 f i o->dQ n s j 0 i o=[]
def nr(n:aJ)(O:List Nat)(s:am)(r:am×Bool×Bool):Prop:=
 if(dM n O s).2.2=s2\/(dM n O s).2.1=s2 then r=dM n O s else
 (ry n s/\r=(s,sp,sp))\/∃(j:Nat)(f:bL)(i o:Int)(M:Λ),dP n s j 0 f i o/\dQ n s j 0 i o≠[]/\M.Perm (dQ n s j 0 i o)/\r=(lJ n s j 0 i o M,s2,sp)
theorem gU.zH{s':am}(h:gU n s s'):fB n.k n.d6 s s':=⟨h.ok,h.gw,h.same,h.val,by grind [gU.fm],by grind [gU.zero]⟩
theorem gU.U0{s':am}(h:gU n s s'):eN n.k s'=eN n.k s:=by unfold eN;rw[G8 h.same h.fm,h.zero]
theorem Va{i:Nat}(a:fN n s)(e:bd n.k n.d6 s)(hi:i<n.d6.length)(f:dw s i=sp)(ac:v∈aU s (i:Int)):bQ n s (i:Int) v<n.k:=by
 have:=(a i hi (by grind)).2.2 v ac;have h:=e.zero.1
 grind [b6]
theorem dP.there{f:bL}{i o:Int}(h:dP n s j pos f i o)(a:bV s):dw s i.toNat=sp:=by
 have:=a f (x7 h.ah) h.live i (x7 h.hi)
 grind [dw]
theorem dP.up{f:bL}{i o:Int}(h:dP n s j 0 f i o)(e:bd n.k n.d6 s):i<o:=by
 have a:f.sc.Pairwise (·< ·):=(e.ho f (x7 h.ah)).1.up;have q:=h.len;rw[U1]at a;have r:=(x6.1 h.hi).2;have w:=(x6.1 h.aC).2;have:=a 0 1 Ω Ω Ω
 grind
theorem Hq{r:am×Bool×Bool}(a:bd n.k n.d6 s)(y:bV s)(h:nr n O s r):fB n.k n.d6 s r.1/\(r.2.2=s2->r.2.1=sp/\∃i<n.d6.length,dw s i=sp/\aU r.1 (i:Int)=[])/\
  (r.2.2=sp->r.2.1=s2->gT n r.1<gT n s)/\(r.2.2=sp->r.2.1=sp->r.1=s/\fN n s/\rv n O s/\ry n s):=by
 obtain⟨h1,L,N,F⟩:=G9 (n:=n) (O:=O) a y;unfold nr at h;by_cases G:(dM n O s).2.2=s2\/(dM n O s).2.1=s2
 .grind
 rw[m5 G]at h;have he:(dM n O s).2.2=sp:=by grind
 have H:(dM n O s).2.1=sp:=by grind
 obtain⟨_,A,P⟩:=F he H;rcases h with⟨Q,rfl⟩|⟨j,f,i,o,M,e,I,J,rfl⟩
 .grind
 obtain⟨x,B⟩:=UZ e a y J;refine⟨x.zH,by grind,λ_ _=>?_,by grind⟩;have K:=e.rx a;have R:=e.up a;have S:=e.there y;obtain⟨i,rfl⟩:=Y6 K.1;have C:i<n.d6.length:=Ω
 show gT n (lJ n s j 0 (i:Int) o M)<gT n s;have T:∀v,0<=jM n s j 0 o v:=λv=>(tf (by have:=a.ep;omega) λw _=>zh a).1;refine G5 (i:=i) x.U0 A a x.ok x.fm C (λq U v ac=>?_) ?_
 .rw[B q v Ω (vN a ac).1];by_cases h1:(q:Int)=(i:Int)/\v∈dQ n s j 0 (i:Int) o
  .rw[m3 h1];have:=(lC (n:=n) (s:=s) (i:=(i:Int)) (v:=v) a).2
   grind [b6]
  grind
 .obtain⟨v,ac⟩:=List.exists_mem_of_ne_nil _ I;obtain⟨z,E⟩:=S6.1 ac;have E:=rs E;refine⟨v,z,?_⟩;rw[B i v Ω (vN a z).1,m3 ⟨rfl,ac⟩];have:=Va A a C (by grind [u7]) z
  grind [b6]
theorem Vb{r:am×Bool×Bool}(q:bd n.k n.d6 s)(h:fN n s)(w:rv n O s)(x:ry n s)(a:nr n O s r):r=(s,sp,sp):=by
 unfold nr at a;rw[Us q h w]at a;rw[m5 Ξ]at a;rcases a with⟨_,e⟩|⟨j,f,i,o,M,y,z,_⟩
 .exact e
 .exact m6 (x j f i o y) z
end
theorem Vd{of:Λ->Int}{l:List (Λ)}(h:∀t∈l,of t<=k):(gb k of l).1=(l.map of).foldl min k/\((gb k of l).2=ν↔l=[]):=by
 unfold gb;have key:∀(l:List (Λ))(c:Int)(t:Λ),(l.foldl (simpStep of) (c,σ t)).1=(l.map of).foldl min c/\(l.foldl (simpStep of) (c,σ t)).2≠ν:=λl=>by
  induction l<;>grind [simpStep]
 cases l<;>grind [simpStep]
section
variable{n:aJ}{s:am}
theorem Ve(a:bd n.k n.d6 s)(r:bV s)(w:∀(j:Nat)f,s.ho[j]?=σ f->f.live≠0->j∈O):rv n O s↔ ∀(j:Nat)f,s.ho[j]?=σ f->f.live≠0->∀(pos:Nat)i,f.sc[pos]?=σ i->∀v∈aU s i,(gb n.k (bu f.an f.cs) (bW s f.sc pos v)).1<=0/\(gb n.k (bu f.an f.cs) (bW s f.sc pos v)).2≠ν:=by
 have hk:=a.ep;have key:∀(j:Nat)f,s.ho[j]?=σ f->f.live≠0->∀(pos:Nat)i,f.sc[pos]?=σ i->∀v∈aU s i,(ob n.k s j pos v=0↔(gb n.k (bu f.an f.cs) (bW s f.sc pos v)).1<=0/\(gb n.k (bu f.an f.cs) (bW s f.sc pos v)).2≠ν):=λj f ah e pos i hi v ac=>by
  have q:=x7 ah;have y:=((a.ho f q).1.scope.1 i (x7 hi)).1;obtain⟨x,z,_⟩:=Hk a y ac (r f q e i (x7 hi));have ae:dx s (j:Int) (pos:Int) v=σ (f,i,x):=by
   grind [dx]
  obtain⟨A,B⟩:=Vd (k:=n.k) (of:=bu f.an f.cs) (l:=bW s f.sc pos v) λt _=>(nh a q).2;have C:=G6 (pos:=pos) (v:=v) a q
  grind [ob,eM]
 constructor
 .intro h j f ah e pos i hi v ac;refine(key j f ah e pos i hi v ac).1 (h j (w j f ah e) f ah pos (List.mem_range.2 (x6.1 hi).1) v ?_)
  grind
 .intro h j E f ah pos F v ac
  grind [ob,dx,u7]
end
structure Vf(P:am->Prop)(n:aJ)(s:am)(q:am×Bool×Bool):Prop where
 a7:fB n.k n.d6 s q.1
 emp:q.2.2=s2->q.2.1=sp/\∃i<n.d6.length,dw s i=sp/\aU q.1 (i:Int)=[]
 less:q.2.2=sp->q.2.1=s2->gT n q.1<gT n s
 same:q.2.2=sp->q.2.1=sp->q.1=s/\fN n s/\P s
 quiet:fN n s->P s->q=(s,sp,sp)
section
variable{n:aJ}{s:am}
def zN(s:am)(O:List Nat):Prop:=∀(j:Nat)f,s.ho[j]?=σ f->f.live≠0->j∈O
theorem Hr(e:bd n.k n.d6 s)(q:bV s)(r:zN s O):rv n O s↔qm n s:=by
 rw[Ve e q r];constructor
 .intro h j f ah a p ae v ac x
  grind [zM]
 .intro h j f ah a p i hi v ac;have ae:=(x6.1 hi).1;have w:v∈aU s (f.sc.getD p 0):=by grind
  have y:=h j f ah a p ae v w
  grind [zM]
theorem Hs:tq n s↔ry n s:=by
 constructor
 .intro h j f i o e;unfold dQ;rw[List.filter_eq_nil_iff];intro v ac y;have z:=rs y;have C:f.sc.getD 0 0=i:=by rw[r8,e.hi];rfl
  have A:f.sc.getD 1 0=o:=by rw[r8,show f.sc[1]?=σ o from e.aC];rfl
  refine h j f e.ah e.live e.len v (by grind) ?_;unfold oZ;rw[A];exact z
 .intro h j f ah B x v ac r;obtain⟨a,b,q⟩:∃a b,f.sc=[a,b]:=by
   match E:f.sc,x with
   |[a,b],_=>grind
  have w:=h j f a b ⟨ah,B,x,.inl rfl,by rw[q];rfl,by rw[q];rfl⟩;unfold dQ at w;rw[List.filter_eq_nil_iff]at w;rw[q]at ac;refine w v ac (ms ?_);unfold oZ at r;rw[q]at r;exact r
def tr(n:aJ)(s:am):Prop:=tq n s/\qm n s
theorem Vg{r:am×Bool×Bool}(e:bd n.k n.d6 s)(f:bV s)(j:zN s O)(h:nr n O s r):Vf (tr n) n s r:=by
 obtain⟨q,w,x,y⟩:=Hq e f h;refine⟨q,w,x,λh1 a=>?_,λh1 a=>Vb e h1 ((Hr e f j).2 a.2) (Hs.1 a.1) h⟩;obtain⟨z,A,C,B⟩:=y h1 a;exact⟨z,A,Hs.2 B,by grind [Hr]⟩
end
def iF(s:am)(m:Nat):List Nat:=(X0 m).filter (e1 s)
theorem Ht{s:am}{m:Nat}:iF s (m+1)=iF s m++if e1 s m=s2 then[m]else[]:=by
 grind [iF,List.range_succ]
theorem Vh{s:am}(h:O.Perm (iF s s.ho.length)):zN s O:=λj f ah a=>by
 refine h.symm.subset (S6.2 ⟨List.mem_range.2 (x6.1 ah).1,?_⟩)
 grind [e1]
theorem Vi{s:am}:∀m,(iF s m).length<=m:=λm=>by
 have:=List.length_filter_le (e1 s) (X0 m);rw[List.length_range]at this;exact this
open Classical in
theorem kE.sink{b c:x4}{w:x5}{B:x4->x4->x4->x5->(x4->x4->x4->x5->Prop)->Prop}(aA:Nat->x4->x5->Prop){m:Nat}(r:aA m c w)(V:∀(m:Nat)(a b c:x4)(I:x5)(k:x4->x4->x4->x5->Prop),aA m c I->(∀bY a b c f,bY<m->aA bY c f->k a b c f)->B a b c I k):kE a b c w B:=by
 have j:∀{c:x4}{w:x5},(∃m,aA m c w)->∃m,aA m c w/\∀k,aA k c w->m<=k:=λ⟨m,h⟩=>Hb (P:=λm=>aA m _ _) m h;refine⟨λ_ _ c w=>∃m,aA m c w,λ_ _ c w=>if h:∃m,aA m c w then Classical.choose (j h)else 0,⟨m,r⟩,λa b c I q=>?_⟩;obtain⟨h1,s⟩:=Classical.choose_spec (j q);refine V _ a b c I _ h1 λbY _ _ x f y e=>⟨⟨bY,e⟩,?_⟩;have z:=(Classical.choose_spec (j ⟨bY,e⟩)).2 bY e;show dite _ _ _<dite _ _ _;rw[dif_pos q,dif_pos ⟨bY,e⟩];omega
section
variable{ax:List aD}{w:x5}{af ag:Nat}{A R:ak}{n:aJ}{s:am}{t:aD}
theorem Vj(h:bD w af ag A R n s t)(ah:s.ho.length<=1000000):aq x8 JE [Γ af] w λr I=>∃g H P,r=Γ g/\Ext w I/\ev (λr=>w.heap.size<=r/\r<I.heap.size) I g H P/\(mm H).Perm ((iF s s.ho.length).map λj:Nat=>(j:Int)):=by
 refine aE func99 ?_;refine(p4 h).Y ?_;rintro _ U _ ⟨rfl,B⟩;have ak:=B.size;refine(UF (S:=λr=>w.heap.size<=r) ah Ω).Y ?_;rintro _ aa _ ⟨g,rfl,E,al,N⟩;refine(p4 (h.W (B.F E))).Y ?_;rintro _ am _ ⟨rfl,G⟩;have O:=(B.F E).F G;refine b7.range s.ho.length (λi z=>Ext w z/\∃H P,ev (λr=>w.heap.size<=r) z g H P/\P.length=s.ho.length/\(mm H).Perm ((iF s i).map λj:Nat=>(j:Int))) Ω ⟨O,[],_,N.W G,Ξ,.refl _⟩ ?_ ?_
 .rintro i z Q hi ⟨q,H,P,x,J,ae⟩ an;refine bF Ω ?_;have z4:=q.size;refine dh (λC=>Ext w C/\∃H P,ev (λr=>w.heap.size<=r) C g H P/\P.length=s.ho.length/\(mm H).Perm ((iF s (i+1)).map λj:Nat=>(j:Int))) ?_ λaA K=>?_
  .rintro C ao;rw[aR]
   grind
  refine(sZ (j:=(i:Int)) (h.W q)).Y ?_;rintro _ ap _ ⟨rfl,y⟩;rw[ms Ω,S7,u7,cb];refine⟨λV=>?_,λV=>K _ ⟨q.F y,H,P,x.W y,J,by grind [Ht]⟩⟩;obtain⟨f,W⟩:=aI (l:=s.ho) hi;refine(md (h.W (q.F y)) W).Y ?_;rintro sv av _ ⟨L,gs,aw,X⟩;rw[a8 au.u X.ls];have M:=(q.F y).F L;have ax:=M.size;have Y:P[i]?=σ (-1):=by
   obtain⟨v,ac⟩:=aI (l:=P) (i:=i) Ω;rcases x.1.1.pl i v ac with e|⟨j,a,_,Z,e⟩
   .rw[ac,e]
   .have:(i:Int)∈mm H:=l9.2 ⟨a,x7 Z,e⟩;obtain⟨k,hk,ay⟩:=l9.1 (ae.subset this);have:=List.mem_range.1 (S6.1 hk).1;omega
  have az:H.length<=i:=by
   grind [T9.length_eq,Vi,mm,r9]
  refine(UG ((x.W y).W L) Y Ω Ω Ω).Y ?_;rintro _ aB _ ⟨ab,ad,ai,aj,aC,aD⟩;refine K _ ⟨M.then ai Ω,ab,ad,aj,Ω,?_⟩
  grind [Ht,mm]
 .rintro z Q ⟨q,H,P,x,J,ae⟩;refine b4 Ω ?_;exact⟨g,H,P,rfl,q,x.Y Ω,ae⟩
def Vk(ax:List aD)(w:x5)(af ag:Nat)(A R:ak)(n:aJ)(s:am)(r:x4)(I:x5):Prop:=∃O:List Nat,O.Perm (iF s s.ho.length)/\zJ ax w af ag A R n (dM n O s) r I
theorem Hu{s':am}(h:dJ s s'):iF s' s'.ho.length=iF s s.ho.length:=by
 unfold iF;rw[h.ho];refine List.filter_congr λj a=>?_;have a:=List.mem_range.1 a;have r:=h.ho;obtain⟨f,ah⟩:=aI (l:=s.ho) a;obtain⟨q,e⟩:=aI (l:=s'.ho) (i:=j) Ω;unfold e1;rw[ah,e];simp only;rw[(h.fn j f q ah e).2.2.1]
theorem Vl(h:bD w af ag A R n s t)(X:Laid w)(Y:¬A 0)(aC:eu ax t)(C:bV s)(ah:s.ho.length<=1000000):aq x8 I4 [Γ af] w (Vk ax w af ag A R n s):=by
 have G:=h.2.2.2.1;refine aE func53 ?_;refine(Uw h X Y aC C).Y ?_;rintro _ U _ ⟨rfl,I⟩;obtain⟨z,_⟩:=GV (n:=n) G C;rw[bz,bA];generalize aV:fM n s=q at I z;have M:∀O,dM n O s=if q.2.2=s2\/q.2.1=s2 then q else((O.foldl (eS n.k) (q.1,sp)).1,(O.foldl (eS n.k) (q.1,sp)).2,sp):=by grind [dM]
 refine a6 (λv aa=>U=aa/\v= .bool (q.2.2||q.2.1)) ?_ λaA aW=>?_
 rotate_left
 .rw[bM,ao]
  grind
 rintro _ _ ⟨rfl,rfl⟩;rw[cb];refine⟨λy=>⟨_,.refl _,?_⟩,λy=>?_⟩
 .have e:=M (iF s s.ho.length);rw[m3 (by simpa using y)]at e;rw[e];exact⟨rfl,I⟩
 rw[T3]at y;obtain⟨Z,aX,ac,aY,aZ,a1,ad⟩:=I.open;have ai:=Hu z.same;have a2:=z.same.ho;refine(Vj ac Ω).Y ?_;rintro _ J _ ⟨g,H,P,rfl,aj,ak,N⟩;rw[ai]at N;have z3:=aj.size;refine kE.sink (λm c E=>∃(B:List (Int×Int))(Q:Λ)(x:List Nat),B.length=m/\ev (λr=>U.heap.size<=r/\r<J.heap.size) E g B Q/\(x.map (λj:Nat=>(j:Int))++mm B).Perm ((iF s s.ho.length).map λj:Nat=>(j:Int))/\c= .bool (x.foldl (eS n.k) (q.1,sp)).2/\
   dD ax U af ag Z R n U.heap.size (λr=>J.heap.size<=r) (x.foldl (eS n.k) (q.1,sp)).1 E/\J.heap.size<=E.heap.size) ⟨H,P,[],rfl,ak,N,by grind,by grind [dD.start],o6 _⟩ ?_
 rintro m al am _ E an ⟨B,Q,x,rfl,ap,ae,rfl,S,a7⟩ au;have av:=(tp (λj s b G C=>G7 G C) x q.1 sp z.ok z.gw).1;refine(UI ap).Y ?_;rintro _ a8 _ (⟨rfl,aw,rfl⟩|⟨a,K,ay,rfl,T,az,aB,ba⟩)
 .rw[fS,fT,fU,bN,X6,bS];have aD:x.Perm (iF s s.ho.length):=by
   have bb:=ae.map Int.toNat;have e:∀L:List Nat,(L.map λj:Nat=>(j:Int)).map Int.toNat=L:=λL=>by rw[T5];exact(List.map_congr_left λj _=>u7 j).F (List.map_id L)
   grind [mm]
  refine⟨x,aD,?_⟩;have e:=M x;rw[m5 (by rw[y.1,y.2];simp)]at e;rw[e];exact⟨rfl,ad (S.done aw)⟩
 rw[fS,fT,fU,bN,Y5,bc];have V:=S.own T Ω;have z5:=T.size;have bd:(mm B).Perm (mm K++[a.2]):=by
  grind [mm]
 have aF:a.2∈(iF s s.ho.length).map λj:Nat=>(j:Int):=by grind
 obtain⟨j,aG,aH⟩:=l9.1 aF;have be:=List.mem_range.1 (S6.1 aG).1;have bf:=av.same.ho;obtain⟨f,aJ⟩:=aI (l:=(x.foldl (eS n.k) (q.1,sp)).1.ho) (i:=j) Ω;obtain⟨bg,t5,aK,aL,aM,aN⟩:=V.qg;rw[<-aH];refine(UO aK V.2.1.1 aM aL aJ).Y ?_;rintro _ aO _ ⟨rfl,aP,bh,aS,bx,aQ,aR,aT,bi⟩;obtain⟨bj,W,bk⟩:=aN aP aQ aR aT (λr h=>h) λr bl y=>Ω
 have bm:=W.size;have aU:=aB.length_eq;rw[c9,List.length_singleton]at aU;have bn:(x++[j]).foldl (eS n.k) (q.1,sp)=((eS n.k ((x.foldl (eS n.k) (q.1,sp)).1,sp) j).1,(eS n.k ((x.foldl (eS n.k) (q.1,sp)).1,sp) j).2||(x.foldl (eS n.k) (q.1,sp)).2):=by
  grind [UL]
 have go:∀{c:x4},c= .bool ((eS n.k ((x.foldl (eS n.k) (q.1,sp)).1,sp) j).2||(x.foldl (eS n.k) (q.1,sp)).2)->an al am c aO:=λ{c}bo=>by
  refine au K.length _ _ _ _ Ω ⟨K,ay,x++[j],rfl,az.ab W Ω,?_,by grind,by grind,Ω⟩;rw[Z2,T1];refine(T9.append_left _ ?_).F ae
  grind
 rw[cb]
 grind
end
section
variable{w:x5}{af ag av:Nat}{A R:ak}{A9:Nat->ak}{aL:ak}{n:aJ}{s s0:am}{t:aD}{ax:List aD}{cs:List x4}
theorem Hv(p:cm w af ag av A R A9 aL n s s0 t ax cs)(am:Laid w)(H:dJ s0 s)(J:bd n.k n.d6 s0)(aH:∀f∈s0.ho,f.live≠0)(aI:s0.ho.length<=1000)(aJ:s0.dC.length<=1000):
  aq x8 IF [Γ af,.agg cs.toArray] w λr I=>Ext w I/\∃e bK,r= .agg bK.toArray/\gQ s2 e aL I bK n.k n.d6 s/\∀q r,e q r->w.heap.size<=r:=by
 have bm:=J.eZ.2.1;have bo:=J.d9;obtain⟨aM,bp⟩:=bI.len p.doc;have bq:=rq am;refine aE func11 ?_;refine bn λg1 U br an P=>?_;have P:aj U g1 aK cs:=P;refine bE aK.i λgt aa bs ao ap=>?_;have L:=an.F ao;rw[bH aK.p aK.i aM (P.W ao).range];refine(Sk (p.doc.W L) (λr a=>by have:=(p.read r a).2.1;have:=L.size;omega) J aI aJ).Y ?_;rintro _ x _ ⟨Q,e,bK,rfl,aw,B⟩;obtain⟨aO,aP⟩:=bI.len aw;have bt:=L.size;have bu:=an.size;have z3:=Q.size;have lt:=ap.lt;refine bE aK.i λgy bw bx aQ aS=>?_;refine b3 (vs:=bK) aK.i aO rfl aP aS λy aU bz ay=>?_;have M:Ext x y:=aQ.put aU Ω;have S:=(L.F Q).F M;have bA:=M.size;have bB:=ay.lt;have az:cm y af ag gy A R (λq r=>e q r/\r<x.heap.size) aL n s s0 t ax bK:=by
  have N:=p.W S;refine⟨N.dG,N.iR,ay,(bI.old aw).W M,λq r a=>⟨λh=>?_,λh=>?_,by have:=a.2;omega⟩,λr a=>⟨(N.read r a).1,(N.read r a).2.1,by have:=(p.read r a).2.1;omega⟩,λh=>?_,λh=>?_⟩
  .have:=n4 p.dG r (.inl h);have:=B q r a.1;omega
  .have:=n4 p.dG r (.inr h);have:=B q r a.1;omega
  .have:=n4 p.dG gy (.inl h);omega
  .have:=n4 p.dG gy (.inr h);omega
 refine(sY az.dG).Y ?_;rintro _ bC _ ⟨rfl,aA⟩;have aV:=az.W aA;rw[a1 aK.p rfl];refine Gq aV λaW d7=>?_;have aB:cC y af ag gy A R (λq r=>e q r/\r<x.heap.size) aL n s t ax (dn s s0 0 0) aW:=cC.comp (aA.ab _) (λq r h=>.inl ⟨q,h⟩) d7;obtain⟨bD,bG,bJ,aX,bL⟩:=id aB;obtain⟨hv,bM,bN,bO,bP,bQ,aY,aZ,_⟩:=aX.look;rw[aN aK.p 1 aY rfl,a8 au.u aZ];have a2:∀{z:x5},ai (λr=>(∃q,e q r/\r<x.heap.size)\/r=gy) y z->Laid z:=λa6=>iH a6 (λh=>by
  rcases h with⟨q,h,_⟩|h
  .have:=B q 0 h;omega
  .omega) (am.W S)
 refine b7.range n.d6.length (λi z=>cC y af ag gy A R (λq r=>e q r/\r<x.heap.size) aL n s t ax (dn s s0 i 0) z) Ω aB ?_ ?_
 .rintro i z C hi d8 V;obtain⟨W,a7,ba,X,aC⟩:=id d8;refine bF Ω ?_;refine Ug (K:=λY=>ad x8 (aT .add al sp s2 (Δ (i:Int)) (Δ 1)) Y λt55=>C t55 Y) X (a2 W) H hi rfl J λY d14=>?_;rw[aR];exact V _ (cC.comp W aC d14)
 rintro z C d8;refine b4 Ω ?_;obtain⟨W,a7,ba,X,aC⟩:=id d8;obtain⟨_,_,_,_,bR,_,bb,_,_,_,_,_,bc,_⟩:=X.look;have bf:(dn s s0 n.d6.length 0).ho.length=s0.ho.length:=zm H.ho;rw[aN aK.p 6 bb rfl,fE c7.u bc,r9,bf];refine b7.range s0.ho.length (λj O=>cC y af ag gy A R (λq r=>e q r/\r<x.heap.size) aL n s t ax (dn s s0 n.d6.length j) O) Ω d8 ?_ ?_
 .rintro j O C bg d18 V;obtain⟨E,Z,ac,G,ae⟩:=id d18;refine bF Ω ?_;refine Uh (K:=λah=>ad x8 (aT .add al sp s2 (Δ (j:Int)) (Δ 1)) ah λbh=>C bh ah) G H bg aH rfl λah d20=>?_;rw[aR];exact V _ (cC.comp E ae d20)
 rintro O C d18;refine b4 Ω ?_;rw[show n.d6.length=s0.d9.length by omega,SJ H]at d18;obtain⟨E,Z,ac,G,ae⟩:=d18;obtain⟨ak,bi⟩:=bI.len G.doc;have bS:=E.size;rw[bH aK.p aK.i ak G.box.range];have aD:∀r,(∃q,e q r/\r<x.heap.size)\/r=gy->aa.heap.size<=r:=λr a=>by
  rcases a with⟨q,h,_⟩|h
  .exact B q r h
  .omega
 have bj:aj O gt aK _:=((ap.W Q).W M).ab E λh=>by have:=aD gt h;omega
 refine b3 (vs:=ac) aK.i ak rfl bi bj λbT aF bU bk=>?_;rw[fu aK.p aK.i ak bk.range];have aG:∀q r,Z q r->aa.heap.size<=r:=λq r a=>by
  rcases ae q r a with⟨bl,h,_⟩|h
  .exact B bl r h
  .omega
 refine⟨(S.then E λr a h=>by have:=aD r h;omega).then aF λr a h=>by have h:r=gt:=h;omega,Z,ac,rfl,G.doc.ab aF λr a h be=>?_,λq r h=>by have:=aG q r h;omega⟩;have be:r=gt:=be;rcases h with⟨q,h⟩|h
 .have:=aG q r h;omega
 .have:=(p.read r h).2.1;omega
end
section
variable{w:x5}{af ag av:Nat}{A R S:ak}{A9:Nat->ak}{aL:ak}{n:aJ}{s s0:am}{t:aD}{ax:List aD}{cs:List x4}
theorem Vm{all:x4}{L:List (Λ)}(p:cm w af ag av A R A9 aL n s s0 t ax cs)(V:Laid w)(M:dJ s0 s)(N:bd n.k n.d6 s0)(W:∀f∈s0.ho,f.live≠0)(X:s0.ho.length<=1000)(Y:s0.dC.length<=1000)(Z:bV s0)(ab:bV s)(B:Seen S w [all] L)(ac:∀a∈L,ig s0 a)(ad:∀a,ig s0 a->eK n.k s a=eK n.k s0 a):
  aq x8 II [Γ af,.agg cs.toArray,all] w λr I=>r= .bool s2/\Ext w I:=by
 obtain⟨ae,aG⟩:=bI.len p.doc;refine aE func14 ?_;refine bn λg1 U aH e j=>?_;have j:aj U g1 aK cs:=j;rw[bH aK.p aK.i ae j.range];refine(Hv (p.W e) (V.W e) M N W X Y).Y ?_;rintro _ aa _ ⟨ah,aJ,bK,rfl,O,aM⟩;obtain⟨ai,ak⟩:=bI.len O;refine bE aK.i λgy aN aO al am=>?_;refine b3 (vs:=bK) aK.i ai rfl ak am λq an aP ap=>?_;have P:Ext aa q:=al.put an Ω;have C:=ah.F P;have E:=e.F C;have aw:kY q g1 n.k n.d6 s0:=e3.box (gQ.s9 (p.W e).doc) C (j.W C);have ay:kY q gy n.k n.d6 s:=e3.box (gQ.s9 O) P ap;rw[fE ca.u (bq B E)];refine ce.range L.length (λi _ G=>Ext q G) (oy B) (Ext.refl _) ?_ ?_
 .rintro i az G aA hi x aB;obtain⟨tl,Q⟩:=aI (l:=L) hi;have H:=ac tl (x7 Q);refine bF Ω ?_;refine fF (α:=Λ) (a:=tl) rfl rfl ca.u au.i Ψ (bq B (E.F x)) Q λaY y=>?_;have y:=c3 (jS y);intro aQ J _ _;have K:=x.F J;refine(ay.W K).load λaS aC=>?_;refine(aw.W K).load λdm aD=>?_;refine(F4 aC p.dG.2.2.2.1 ab (vP M H) (y.W J)).Y ?_;rintro _ aT _ ⟨rfl,z⟩;refine⟨.inl z,(F4 (aD.W z) N Z H (y.W (J.F z))).Y ?_⟩;rintro _ aU _ ⟨rfl,aF⟩;rw[ad tl H,bM,ao];refine⟨λh=>m6 rfl h,λ_=>?_⟩;rw[aR];exact aB _ _ ((K.F z).F aF)
 .rintro az G aA x;exact b4 Ω ⟨rfl,E.F x⟩
end
theorem Hw{n:aJ}{j pos:Nat}{need:Int->Int}{N:Λ}:∀(L M:Λ)(s:am),gB n j pos need N (L++M) s=gB n j pos need N M (gB n j pos need N L s)
 |[],_,_=>rfl
 |w::L,M,s=>by
  rw[List.cons_append,gB,gB];exact Hw L M _
theorem Hx{n:aJ}{j pos:Nat}{need:Int->Int}:∀(L M:Λ)(s:am),kC n j pos need (L++M) s=kC n j pos need M (kC n j pos need L s)
 |[],_,_=>rfl
 |v::L,M,s=>by
  rw[List.cons_append,kC,kC];exact Hx L M _
theorem Vn{s:am}{need:Int->Int}{L N:Λ}(h:L.Perm N):fo s j pos need L w=fo s j pos need N w:=by
 have key:∀c,fo s j pos need L w<=c↔fo s j pos need N w<=c:=λc=>by
  rw[wj,wj];exact and_congr_right λ_=>⟨λk v ac=>k v (h.mem_iff.2 ac),λk v ac=>k v (h.mem_iff.1 ac)⟩
 have h1:=(key _).1 (S5 _);have a:=(key _).2 (S5 _);omega
def ns(need:Int->Int)(v:Int):x4×x4:=(Δ v,Δ (need v))
section
variable{ax:List aD}{w:x5}{af ag:Nat}{A R:ak}{n:aJ}{s:am}{t:aD}
theorem Vo{u:Int}(h:bD w af ag A R n s t):aq x8 JI [.agg #[Γ af,Δ (j:Int),Δ (pos:Int)],Δ v,Δ u] w λr I=>r=Δ (ec s j (dq pos v u))/\Ext w I:=by
 refine aE func103 ?_;refine bn λg1 U L C q=>?_;have q:=q;refine oB (l:=[v,u]) au.u al.i Ξ rfl Ψ λM ga aa N x E=>?_;have y:=C.F x;refine a6 (λr a=>Ext w a/\Ext U a/\aQ .i64 a r (dq pos v u)) ?_ λaA z=>?_
 .rintro aY a ⟨f,G,H⟩;have B:=q.W G;rw[aN lR.p 0 B rfl,aN lR.p 1 B rfl];refine FH (h.W f) H λe O J=>?_;rw[bz,bA];exact⟨rfl,f.F J⟩
 rw[aN lR.p 2 (q.W x) rfl,bm,ao];refine⟨λae=>?_,λae=>z _ _ ⟨y,x,by unfold dq;rw[m5 Ω];exact E.ls⟩⟩;refine oB (l:=[u,v]) au.u al.i Ξ rfl Ψ λP Q a S f K=>?_;exact z _ _ ⟨y.F f,x.F f,by unfold dq;rw[m3 Ω];exact K.ls⟩
def Vp(ax:List aD)(w:x5)(af ag:Nat)(A R:ak)(n:aJ)(s:am)(j pos:Nat)(i o:Int)(r:x4)(I:x5):Prop:=
 (dQ n s j pos i o=[]/\r= .bool sp/\cA ax w af ag A R n s I)\/(dQ n s j pos i o≠[]/\r= .bool s2/\∃M:Λ,M.Perm (dQ n s j pos i o)/\cA ax w af ag A R n (lJ n s j pos i o M) I)
theorem Vq:Keys x8 al λv=>∃n,v=Δ n:=Keys.int al.u
theorem Vr{f:bL}{i o:Int}(h:bD w af ag A R n s t)(aF:Laid w)(bT:¬A 0)(aC:eu ax t)(H:dP n s j pos f i o):aq x8 I5 [Γ af,Δ (j:Int),Δ (pos:Int)] w (Vp ax w af ag A R n s j pos i o):=by
 have aw:=h.2.2.2.1;have dE:=aw.d9;have bb:=H.rx aw;have dF:=H.p;obtain⟨x,J⟩:=aI (l:=s.d9) (i:=i.toNat) Ω;obtain⟨y,bd⟩:=aI (l:=s.d9) (i:=o.toNat) Ω;have cC:aU s i=az x:=by unfold aU;rw[J]
 have bV:aU s o=az y:=by unfold aU;rw[bd]
 obtain⟨need,aY⟩:∃need:Int->Int,need=jM n s j pos o:=⟨_,rfl⟩;have cD:dQ n s j pos i o=(az x).filter λv=>decide (0<need v):=by unfold dQ;rw[cC,aY]
 have cE:∀v,0<=need v/\need v<=n.k:=λv=>by
  rw[aY];have hk:=aw.ep;exact tf Ω λu _=>⟨by unfold iU;have:=(vD (j:=j) (tl:=if(pos:Int)=1 then[u,v]else[v,u]) aw).1;have:=(lC (n:=n) (i:=o) (v:=u) aw).1;omega,by unfold iU;omega⟩
 have dG:=aw.ep;refine jq func55 ?_;refine bn λg1 U dH be K=>?_;refine bn λcF aa dI aZ V=>?_;refine bn λcG bf dJ aH Q=>?_;have K:aj bf g1 ez [Γ af]:=(aj.W K aZ).W aH;have V:aj bf cF al [Δ (j:Int)]:=aj.W V aH;have Q:aj bf cG al [Δ (pos:Int)]:=Q;have dK:=be.size;have dL:=aZ.size;have z3:=aH.size;rw[aG (v:=Γ af) Ψ (K.Qz rfl),aG (v:=Δ (j:Int)) Ψ (V.cell rfl),aG Ψ (Q.cell rfl),
  ds (cs:=#[Γ af,Δ (j:Int),Δ (pos:Int)]) Ψ]
 refine bE lR.i λdM dN dO bW cH=>?_;refine b3 lR.i rfl rfl (by intro v ac;simp at ac;rcases ac with rfl|rfl|rfl<;>rfl) cH λdR cI dS a1=>?_;have aJ:=bW.put cI Ω;have bX:=((be.F aZ).F aH).F aJ;have dT:=aJ.size;rw[aG Ψ ((K.W aJ).cell rfl),aG Ψ ((V.W aJ).cell rfl)];refine(md (h.W bX) H.ah).Y ?_;rintro sv dU _ ⟨aK,gs,dV,aL⟩;have dW:=sF aL (by have:=H.len;omega);refine sm λm dX dY ay bY=>?_;refine bE my.i λdZ ea eb bZ cK=>?_;refine bw my.i rfl rfl cK (by show 0<1;omega) λbi cL ec aA=>?_;have aA:=aA;have aB:=bZ.put cL Ω;have ed:=aK.size;have ee:=ay.size;have ef:=aB.size;have bj:=((aJ.F aK).F ay).F aB;have b0:=((bX.F aK).F ay).F aB;have K:=K.W bj;have V:=V.W bj;have Q:=Q.W bj;have a1:=((a1.W aK).W ay).W aB;have aL:=(aL.W ay).W aB;have bk:=bY.W aB;have eg:=bk.lt;have eh:=bY.lt;have ei:=K.lt;have ej:=V.lt;have ek:=Q.lt;have em:=a1.lt;have en:=aA.lt;intro eo X _ _;have er:=X.size;have es:=X;have cM:=b0.F X;rw[aG Ψ ((K.W X).cell rfl),aG Ψ ((Q.W X).cell rfl)];refine nR rfl au.u al.i (aL.W X).ls H.hi λcN cO bl=>?_;rw[aG Ψ bl];refine(jF (h.W cM)).Y ?_;rintro _ et _ ⟨⟨b,ev,rfl,B⟩,bo⟩;refine(mM).Y ?_;rintro _ cP _ ⟨bp,cQ,rfl,ew,bq⟩;have br:=lA B bb.1 J;have ey:=bo.size;have z12:=bp.size;have aM:=(X.F bo).F bp;have bs:=b0.F aM;have eA:=bq.lt;obtain⟨E,ak⟩:∃E:Nat->List (x4×x4),E=λz=>(((az x).take z).filter λv=>decide (0<need v)).map (ns need):=⟨_,rfl⟩;have cR:(az x).Nodup:=qa _;refine kH.old ⟨_,sp,jQ,#[Γ cQ],_,_,_,_,λz I=>ai (λr=>r=m) cP I/\de I m (E z),λ_ _ _=>False,rfl,(mL B.1).s,?_,
  λ_ _ J h=>⟨h.1.W J,h.2.W J⟩,λ_ _ _ J h=>⟨h.1.F (J.ab _),h.2.W J⟩,λ_ _ _ _ _ h=>h,⟨bq,aF.W bs⟩,⟨ai.refl _ _,by rw[ak];exact bk.W aM⟩,?_,?_,λ_ _ h=>h.elim,λ_ _ _ h=>h.elim⟩
 .rintro _ _ _ _ ⟨_,_,_,_,rfl⟩;rfl
 .rintro _ z _ eB ⟨b1,b2⟩ ⟨cS,rfl,v,bt,bu⟩ ⟨L,S⟩;cases bu;intro cT a2 _ _;have aN:(az x)[z]?=σ (v:Int):=by rw[<-br,u4,bt];rfl
  have cU:=x7 aN;have eC:=L.size;have b4:=bs.then L λr a6 h=>by have h:=h;omega
  have a7:∀{g:Nat}{e:o4}{cs:List x4},g≠m->aj bi g e cs->aj cT g e cs:=λO aO=>((aO.W aM).ab L O).W a2;rw[aG Ψ ((a7 Ω K).cell rfl),aG Ψ ((a7 Ω V).cell rfl),aG Ψ ((a7 Ω Q).cell rfl)];have aP:(az x).take (z+1)=(az x).take z++[(v:Int)]:=by rw[u9,aN];rfl
  refine(Sr (h.W (b4.F a2)) (aF.W (b4.F a2))).Y ?_;rintro _ eD _ ⟨b5,cV⟩;have cW:n3 s (j:Int) (pos:Int) (v:Int) f i x:=⟨Ω,by rw[u7];exact H.ah,H.live,Ω,by rw[u7];exact H.hi,bb.1,J,cU⟩;have a6:=(cV.2 f i x cW).2 H.len o y (by rw[show((1:Int)-(pos:Int)).toNat=1-pos by omega];exact H.aC) bd;rw[u7]at a6;subst a6;have cX:(cJ n.k (az y) (iU n s j (pos:Int) (v:Int) o)).1=need (v:Int):=by rw[aY];unfold jM;rw[bV]
  rw[fS,fT,fU,cX,bU,ao];have Y:=a2.F b5;refine⟨λbz=>?_,λbz=>?_⟩
  .rw[aG Ψ (((a7 Ω aA).W b5).cell rfl)];have bA:E (z+1)=E z++[ns need (v:Int)]:=by
    rw[ak];simp only;rw[aP,List.filter_append,Z2,List.filter_cons_of_pos (by exact ms bz)];rfl
   have cY:∀p∈E z,p.1≠ Δ (v:Int):=λp ae e=>by
    rw[ak]at ae;obtain⟨u,hu,rfl⟩:=l9.1 ae;have hu:=(S6.1 hu).1;have e:u=(v:Int):=by
     have e:=e;cases e;rfl
    subst e;obtain⟨q,am⟩:=Y8.1 hu;have cZ:=(x6.1 am).1;rw[Z3]at cZ;rw[V1 Ω]at am;have:=l1 cR am aN;omega
   refine q0 my.u Vq (S.W Y) (λp ae=>?_) ⟨_,rfl⟩ (λq v0 I am _ _=>m6 rfl (cY _ (x7 am))) λeE _ c0 bB=>?_
   .rw[ak]at ae;obtain⟨u,_,rfl⟩:=l9.1 ae;exact⟨u,rfl⟩
   .refine⟨⟨((b1.W Y)).ab bB λe=>by have e:=e;omega,iH bB (λe=>by have e:=e;omega) (b2.W Y)⟩,⟨(L.F (Y.ab _)).F bB,by rw[bA];exact c0⟩,λh=>by cases h⟩
  .have bA:E (z+1)=E z:=by
    rw[ak];simp only;rw[aP,List.filter_append,Z2,List.filter_cons_of_neg (by rw[rc bz];decide)];simp
   exact⟨⟨b1.W Y,b2.W Y⟩,⟨L.F (Y.ab _),by rw[bA];exact S.W Y⟩,λh=>by cases h⟩
 rintro c1 c2 rfl ⟨L,S⟩;rw[ak]at S;simp only at S;rw[j9 (by rw[<-br,r9];exact o6 _),<-cD]at S;clear ak E;have eF:=L.size;have b6:=bs.then L λr a6 h=>by have h:=h;omega
 have aQ:∀{g:Nat}{e:o4}{cs:List x4},g≠m->aj bi g e cs->aj c2 g e cs:=λO aO=>(aO.W aM).ab L O;rw[aG Ψ ((aQ Ω aA).cell rfl),Db my.u S,bm,ao];refine⟨λbC=>?_,λbC=>?_⟩
 .intro eH c3 _;refine .inl ⟨?_,rfl,cA.same h aF bT aC (b6.F c3)⟩;rw[r9]at bC;exact j6 Ω
 obtain⟨N,aR⟩:∃N:Λ,N=dQ n s j pos i o:=⟨_,rfl⟩;have c4:N≠[]:=λe=>bC (by rw[<-aR,e];rfl);rw[<-aR]at S;intro eI an _ _;have b7:=b6.F an;have eJ:=an.size;have c5:=((aQ Ω K).W an).Qz rfl;have c6:=((aQ Ω Q).W an).Qz rfl;rw[aG Ψ c5,aG Ψ c6,dr,lm Ω Ω,show(1:Int)-(pos:Int)=((1-pos:Nat):Int) by omega];have c7:=((aL.W aM).ab L λ_ e=>by have e:=e;omega).W an;refine nR rfl au.u al.i c7.ls H.aC λcN cO bl=>?_;rw[aG Ψ bl];refine(jF (h.W b7)).Y ?_;rintro _ eK _ ⟨⟨eL,eM,rfl,b8⟩,b9⟩;refine(mM).Y ?_;rintro _ Z _ ⟨ca,bg,rfl,eN,cb⟩;have cc:=lA b8 bb.2.2.1 bd;have bF:=b9.F ca;have cd:=b7.F bF;have eO:=b9.size;have eP:=ca.size;have eQ:=cb.lt;have ce:=(S.W an).W bF;have aT:∀{g:Nat}{e:o4}{cs:List x4},g≠m->aj bi g e cs->aj Z g e cs:=λO aO=>((aQ O aO).W an).W bF;have cf:=aT Ω K;have cg:=aT Ω V;have ch:=aT Ω Q;have c8:=aT Ω a1;have ci:=aT Ω aA;have eR:∀{B C:Λ}{q:Int},(B++C).Perm N->q∈C->q∈N:=λae am=>ae.mem_iff.1 (j5.2 (.inr am));clear L S bk be aZ aH bW aK ay bZ X bo bp bq B br aQ;refine kH.old ⟨_,sp,jQ,#[Γ bg],_,_,_,_,λz I=>dD ax w af ag A R n w.heap.size (λr=>Z.heap.size<=r) (gB n j pos need N ((az y).take z) s) I/\ai (λr=>r<w.heap.size\/Z.heap.size<=r) Z I,λ_ _ _=>False,rfl,(mL b8.1).s,?_,
  λ_ _ J h=>⟨h.1.W J,h.2.W J⟩,λ_ _ _ J h=>⟨h.1.W J,h.2.F (J.ab _)⟩,λ_ _ _ _ _ h=>h,⟨cb,aF.W cd⟩,⟨dD.start h aF bT aC cd (o6 _),ai.refl _ _⟩,?_,?_,λ_ _ h=>h.elim,λ_ _ _ h=>h.elim⟩
 .rintro _ _ _ _ ⟨_,_,_,_,rfl⟩;rfl
 .rintro _ z _ eS ⟨c9,da⟩ ⟨cS,rfl,v,bt,bu⟩ ⟨aD,G⟩;cases bu;intro eU W _ _;have aN:(az y)[z]?=σ (v:Int):=by rw[<-cc,u4,bt];rfl
  have aP:gB n j pos need N ((az y).take (z+1)) s=(bh n.k (gB n j pos need N ((az y).take z) s) (fd s2 j (1-pos) (v:Int) (fo (gB n j pos need N ((az y).take z) s) j pos need N (v:Int)))).1:=by
   rw[u9,aN,Hw];rfl
  generalize gB n j pos need N ((az y).take z) s=s1 at aD aP;obtain⟨db,dc,aV,bG,bI,bJ⟩:=aD.qg;have dd:=aV.2.2.2.1;have z22:=G.size;have eV:=W.size;have df:=(cf.ab G Ω).W W;have dg:=(cg.ab G Ω).W W;have dh:=(ch.ab G Ω).W W;have di:=(c8.ab G Ω).W W;rw[aG Ψ (((ci.ab G Ω).W W).cell rfl)];refine uK my.u ((ce.ab G Ω).W W) λP dj dk cj _ bK=>?_;refine⟨λlu aE=>∃B C left aW,lu=Δ (fo s1 j pos need B (v:Int))/\Ext dj aE/\iz aE P m (N.map (ns need)) left aW/\left=C.map (ns need)/\(B++C).Perm N,λ_ aE=>ll aE P,⟨[],N,_,ν,rfl,Ext.refl _,bK,rfl,T9.refl _⟩,?_⟩;rintro _ aE ⟨B,C,left,aW,rfl,bM,ck,rfl,ap⟩;refine uL ck (λ_=>by show w.heap.size<=P;omega) (λbN=>?_) (λq p eW ae cl eX cm=>?_)
  .rw[gk (v:=.bool sp) rfl,bc];have:C=[]:=List.map_eq_nil_iff.1 bN;subst this;rw[T4]at ap;have a8:=cj.F bM;have aX:=W.F a8;rw[Vn ap,aG Ψ ((df.W a8).cell rfl),aG Ψ ((dg.W a8).cell rfl),aG Ψ ((dh.W a8).cell rfl),dr,lm Ω Ω,show(1:Int)-(pos:Int)=((1-pos:Nat):Int) by omega];refine(Gz (a:=fd s2 j (1-pos) (v:Int) (fo s1 j pos need N (v:Int))) rfl (aV.W aX) (da.W aX) bI bG).Y ?_;rintro _ dl _ ⟨_,bO,dm,aS,bx,O,bP,bQ,dn⟩;have z25:=aX.size;obtain⟨bR,ba,cn⟩:=bJ (iN aX bO) ((Grow.W aX).F O) bP bQ (λr h=>h) λr dp dt=>Ω
   refine⟨⟨c9.ab ba Ω,dm⟩,⟨?_,G.F ba⟩,λh=>by cases h⟩;show dD ax w af ag A R n w.heap.size (λr=>Z.heap.size<=r) (gB n j pos need N ((az y).take (z+1)) s) dl;rw[aP];exact bR
  .rw[gk (v:=.bool s2) rfl,bS];refine uM cm ?_;obtain⟨u,hu,rfl⟩:∃u,C[q]?=σ u/\ns need u=p:=by
    rw[u4]at ae;exact Y0.1 ae
   have cp:=(cj.F bM).F cl;have du:=W.F cp;rw[gk rfl,gk (v:=Δ (need u)) rfl,bH lR.p lR.i rfl (di.W cp).range];refine(Vo (v:=u) (u:=(v:Int)) (aV.W du)).Y ?_;rintro _ dv dw ⟨rfl,cq⟩;have eY:=vD (s:=s1) (j:=j) (tl:=dq pos u (v:Int)) dd;have eZ:=cE u;rw[dr,lm Ω Ω,rY];have cr:=cm.W cq dw.kD;refine⟨⟨B++[u],C.eraseIdx q,_,_,?_,(bM.F cl).F cq,cr,mR (ns need) C q,?_⟩,?_⟩
   .unfold fo;rw[List.foldl_append];rfl
   .refine T9.F ?_ ap;rw[T1];exact T9.append_left B (sx hu)
   .show ll dv P<ll aE P;rw[oI cr,oI ck];have:=uP (x6.1 ae).1;omega
 rintro c1 e0 rfl ⟨aD,G⟩;rw[j9 (by rw[<-cc,r9];exact o6 _)]at aD;have ct:∀M,lJ n s j pos i o M=kC n j pos need M (gB n j pos need N (az y) s):=λM=>by unfold lJ;rw[<-aY,<-aR,bV]
 generalize gB n j pos need N (az y) s=dx at aD ct;have e1:=G.size;rw[aG Ψ ((ci.ab G Ω).cell rfl)];refine uK my.u (ce.ab G Ω) λP e2 dk cu _ bK=>?_;refine⟨λav=>∃B C left aW,(dD ax w af ag A R n w.heap.size (λr=>Z.heap.size<=r) (kC n j pos need B dx) av/\ai (λr=>r<w.heap.size\/Z.heap.size<=r) Z av)/\iz av P m (N.map (ns need)) left aW/\left=C.map (ns need)/\(B++C).Perm N,λav=>ll av P,⟨[],N,_,ν,⟨aD.W cu,G.F (cu.ab _)⟩,bK,rfl,T9.refl _⟩,?_⟩;rintro av ⟨B,C,left,aW,⟨d1,d2⟩,cw,rfl,ap⟩;refine uL cw (λ_=>by show w.heap.size<=P;omega) (λbN=>?_) (λq p e3 ae ad e4 cz=>?_)
 .rw[gk (v:=.bool sp) rfl,bc];have:C=[]:=List.map_eq_nil_iff.1 bN;subst this;rw[T4]at ap;intro e5 dy _;refine .inr ⟨by rw[<-aR];exact c4,rfl,B,by rw[<-aR];exact ap,?_⟩;rw[ct];exact d1.done dy
 .rw[gk (v:=.bool s2) rfl,bS];refine uM cz ?_;obtain⟨u,hu,rfl⟩:∃u,C[q]?=σ u/\ns need u=p:=by
   rw[u4]at ae;exact Y0.1 ae
  obtain⟨db,dc,aV,bG,bI,bJ⟩:=d1.qg;have e6:=d2.size;have e7:=ad.size;rw[gk rfl,gk rfl,aG Ψ (((cf.ab d2 Ω).W ad).cell rfl),aG Ψ (((cg.ab d2 Ω).W ad).cell rfl),aG Ψ (((ch.ab d2 Ω).W ad).cell rfl)];refine(zv (a:=fd sp j pos u (need u)) rfl (aV.W ad) (d1.2.1.1.W ad) bI bG).Y ?_;rintro _ dz dA ⟨_,bO,e8,aS,bx,O,bP,bQ,dn⟩;obtain⟨bR,ba,cn⟩:=bJ (iN ad bO) ((Grow.W ad).F O) bP bQ (λr h=>h) λr dp dt=>Ω
  have cB:=cz.a7 O.1 (λdC=>by have:=cn m (O.2.2 m dC);omega) dA.kD;refine⟨⟨B++[u],C.eraseIdx q,_,_,⟨?_,d2.F ba⟩,cB,mR (ns need) C q,?_⟩,?_⟩
  .rw[Hx];exact bR
  .refine T9.F ?_ ap;rw[T1];exact T9.append_left B (sx hu)
  .show ll dz P<ll av P;rw[oI cB,oI cw];have:=uP (x6.1 ae).1;omega
end
section
variable{ax:List aD}{w:x5}{af ag:Nat}{A R:ak}{n:aJ}{s:am}{t:aD}
def Vs(ax:List aD)(w:x5)(af ag:Nat)(A R:ak)(n:aJ)(s:am)(r:x4)(I:x5):Prop:=∃(O:List Nat)(q:am×Bool×Bool),O.Perm (iF s s.ho.length)/\nr n O s q/\zJ ax w af ag A R n q r I
theorem Hy(h:bD w af ag A R n s t)(aw:Laid w)(ay:¬A 0)(aC:eu ax t)(ad:bV s)(ah:s.ho.length<=1000000):aq x8 IN [Γ af] w (Vs ax w af ag A R n s):=by
 have az:=h.2.2.2.1;refine aE func22 ?_;refine(Vl h aw ay aC ad ah).Y ?_;rintro _ U _ ⟨O,N,rfl,P⟩;obtain⟨aY,aZ,a1,aB⟩:=G9 (n:=n) az ad;have E:∀q,(if(dM n O s).2.2=s2\/(dM n O s).2.1=s2 then q=dM n O s else(ry n s/\q=(s,sp,sp))\/∃(j:Nat)(f:bL)(i o:Int)(M:Λ),dP n s j 0 f i o/\dQ n s j 0 i o≠[]/\M.Perm (dQ n s j 0 i o)/\q=(lJ n s j 0 i o M,s2,sp))->nr n O s q:=λq h=>h;rw[bz,bA];refine a6 (λv aa=>U=aa/\v= .bool ((dM n O s).2.2||(dM n O s).2.1)) ?_ λaA z=>?_
 rotate_left
 .rw[bM,ao];refine⟨λK=>z _ _ ⟨rfl,?_⟩,λhe=>z _ _ ⟨rfl,?_⟩⟩
  .cases he:(dM n O s).2.2 with
   |true=>rfl
   |false=>rw[he]at K;exact m6 rfl K
  .have he:(dM n O s).2.2=sp:=by
    cases aD:(dM n O s).2.2 with
    |true=>rw[aD]at he;exact m6 Φ he
    |false=>rfl
   rw[he,Bool.false_or]
 rintro _ _ ⟨rfl,rfl⟩;rw[cb];refine⟨λB=>⟨O,dM n O s,N,E _ (by rw[m3 (by simpa using B)]),rfl,P⟩,λB=>?_⟩;rw[T3]at B;obtain⟨V,_,_⟩:=aB B.1 B.2;have E:∀q,((ry n s/\q=(s,sp,sp))\/∃(j:Nat)(f:bL)(i o:Int)(M:Λ),dP n s j 0 f i o/\dQ n s j 0 i o≠[]/\M.Perm (dQ n s j 0 i o)/\q=(lJ n s j 0 i o M,s2,sp))->nr n O s q:=λq h=>E q (by rw[m5 (by rw[B.1,B.2];simp)];exact h);rw[V]at P;obtain⟨a2,a7,ae,aF,aG,aH,aJ⟩:=P.open;refine(p4 ae).Y ?_;rintro _ ba _ ⟨rfl,aK⟩;refine⟨λ_ _ c ai=>∃r:Nat,c=Δ (r:Int)/\r<=s.ho.length/\cA ax w af ag A R n s ai/\∀j f i o,j<r->dP n s j 0 f i o->dQ n s j 0 i o=[],λ_ _ c _=>s.ho.length-(b2 c).toNat,⟨0,rfl,Ω,aJ (cA.same ae aF aG aH aK),λj f i o aL=>Ω⟩,?_⟩;rintro aM t3 _ ai ⟨r,rfl,aj,L,ak⟩;rw[aW,ao];refine⟨λbb=>?_,λbd=>?_⟩
 rotate_left
 .refine⟨O,(s,sp,sp),N,E _ (.inl ⟨λj f i o x=>ak j f i o ?_ x,rfl⟩),rfl,L⟩;have:=(x6.1 x.ah).1;omega
 have aj:r<s.ho.length:=Ω
 obtain⟨f,G⟩:=aI (l:=s.ho) aj;obtain⟨be,t4,Q,aN,aO,aP,al⟩:=L.open;have go:∀{I:x5}{am:x4->x4->x4->x5->Prop},(∀a b c S,(∃r:Nat,c=Δ (r:Int)/\r<=s.ho.length/\cA ax w af ag A R n s S/\∀j f i o,j<r->dP n s j 0 f i o->dQ n s j 0 i o=[])/\s.ho.length-(b2 c).toNat<s.ho.length-r->am a b c S)->cA ax w af ag A R n s I->(∀y i o,dP n s r 0 y i o->dQ n s r 0 i o=[])->am aM t3 (Δ ((r:Int)+1)) I:=λaQ hm H=>by
  refine aQ _ _ _ _ ⟨⟨r+1,rfl,Ω,hm,λj f i o aL x=>?_⟩,?_⟩
  .by_cases e:j=r
   .subst e;exact H f i o x
   .exact ak j f i o Ω x
  .show s.ho.length-((r:Int)+1).toNat<s.ho.length-r;omega
 refine a6 (λv W=>(v= .bool sp/\cA ax w af ag A R n s W/\∀y i o,dP n s r 0 y i o->dQ n s r 0 i o=[])\/(v= .bool s2/\∃y i o M,dP n s r 0 y i o/\dQ n s r 0 i o≠[]/\M.Perm (dQ n s r 0 i o)/\cA ax w af ag A R n (lJ n s r 0 i o M) W)) ?_ λaA z=>?_
 .rintro _ W (⟨rfl,X,aS⟩|⟨rfl,y,i,o,M,x,K,Y,X⟩)
  .rw[bc,aR,lm (by have:=ah;omega) (by have:=ah;omega)];exact go (λa b c S h=>h) X aS
  .rw[bS];exact⟨O,_,N,E _ (.inr ⟨r,y,i,o,M,x,K,Y,rfl⟩),rfl,X⟩
 refine(sZ Q).Y ?_;rintro _ bf _ ⟨rfl,Z⟩;rw[ms Ω,S7,u7,cb];refine⟨λC=>?_,λC=>z _ _ (.inl ⟨rfl,L.W Z,λy i o x=>?_⟩)⟩
 rotate_left
 .have:=x.live;unfold e1 at C;rw[x.ah]at C;exact m6 this (by simpa using C)
 have aT:f.live≠0:=by
  unfold e1 at C;rw[G]at C;exact rs C
 refine(md (h:=Q.W Z) G).Y ?_;rintro sv bg _ ⟨aU,gs,bh,aV⟩;have J:=Z.F aU;rw[a8 au.u aV.ls,bm,ao];refine⟨λaX=>?_,λaX=>z _ _ (.inl ⟨rfl,L.W J,λy i o x=>?_⟩)⟩
 rotate_left
 .have e:=x.ah;rw[G]at e;cases e;have:=x.len;omega
 obtain⟨i,hi⟩:=aI (l:=f.sc) (i:=0) Ω;obtain⟨o,an⟩:=aI (l:=f.sc) (i:=1) Ω;have x:dP n s r 0 f i o:=⟨G,aT,Ω,.inl rfl,hi,an⟩;refine(Vr (Q.W J) (aN.W J) aO aP x).Y ?_;rintro _ bi _ (⟨H,rfl,ab⟩|⟨H,rfl,M,Y,ab⟩)
 .refine z _ _ (.inl ⟨rfl,al (ab.before J),λy bj o' ac=>?_⟩);have e:=ac.ah;rw[G]at e;cases e;have ap:=ac.hi;rw[hi]at ap;cases ap;have av:=ac.aC;rw[show 1-0=1 from rfl,an]at av;cases av;exact H
 .exact z _ _ (.inr ⟨rfl,f,i,o,M,x,H,Y,al (ab.before J)⟩)
end
def ts(s:am):List (Nat×Int×Int):=(X0 s.ho.length).filterMap λj=>match s.ho[j]? with
 |some f=>if f.live≠0 then(match f.sc with
  |[a,b]=>σ (j,a,b)
  |_=>ν)else ν
 |none=>ν
def wk(n:aJ)(O:List Nat)(s:am):Option (am×Bool×Bool):=if(dM n O s).2.2=s2\/(dM n O s).2.1=s2 then σ (dM n O s)else
 match(ts s).filter λp=>!(dQ n s p.1 0 p.2.1 p.2.2).isEmpty with
 |[]=>σ (s,sp,sp)
 |[p]=>match dQ n s p.1 0 p.2.1 p.2.2 with
  |[v]=>σ (lJ n s p.1 0 p.2.1 p.2.2 [v],s2,sp)
  |_=>ν
 |_=>ν
def qn(n:aJ)(O:List Nat):Nat->am->Option (am×Bool)
 |0,_=>ν
 |f+1,s=>match wk n O s with
  |none=>ν
  |some q=>if q.2.2=s2 then σ (q.1,s2)else if q.2.1=s2 then qn n O f q.1 else σ (q.1,sp)
section
variable{n:aJ}{s:am}
theorem Vt{i o:Int}:(j,i,o)∈ts s↔ ∃f,dP n s j 0 f i o:=by
 unfold ts;rw[List.mem_filterMap];constructor
 .rintro⟨k,hk,h⟩;cases ah:s.ho[k]? with
  |none=>rw[ah]at h;cases h
  |some f=>
   rw[ah]at h;simp only at h;by_cases q:f.live≠0
   .rw[m3 q]at h
    match e:f.sc,h with
    |[a,b],h=>
     cases h;exact⟨f,ah,q,by rw[e];rfl,.inl rfl,by rw[e];rfl,by rw[e];rfl⟩
   .rw[m5 q]at h;cases h
 .rintro⟨f,h⟩;refine⟨j,List.mem_range.2 (x6.1 h.ah).1,?_⟩;have h1:=h.hi;have r:=h.aC;have w:=h.len;rw[h.ah];simp only;rw[m3 h.live]
  match e:f.sc,w with
  |[a,b],_=>
   rw[e]at h1 r;cases h1;cases r;rfl
theorem Vu{q r:am×Bool×Bool}(h:wk n O s=σ q)(a:nr n O s r):r=q:=by
 unfold wk at h;unfold nr at a;by_cases z:(dM n O s).2.2=s2\/(dM n O s).2.1=s2
 .rw[m3 z]at h a;cases h;exact a
 rw[m5 z]at h a;have e:∀p,p∈((ts s).filter λp=>!(dQ n s p.1 0 p.2.1 p.2.2).isEmpty)↔(∃f,dP n s p.1 0 f p.2.1 p.2.2)/\dQ n s p.1 0 p.2.1 p.2.2≠[]:=λp=>by
  rw[S6,<-Vt];refine and_congr_right λ_=>?_;cases dQ n s p.1 0 p.2.1 p.2.2<;>simp
 generalize ((ts s).filter λp=>!(dQ n s p.1 0 p.2.1 p.2.2).isEmpty)=L at h e;rcases a with⟨B,rfl⟩|⟨j,f,i,o,M,w,x,A,rfl⟩
 .cases L with
  |nil=>cases h;rfl
  |cons p L=>
   obtain⟨⟨f,w⟩,x⟩:=(e p).1 (.head _);exact m6 (B _ _ _ _ w) x
 .have y:=(e (j,i,o)).2 ⟨⟨f,w⟩,x⟩
  match L,y,h with
  |[p],y,h=>
   obtain rfl:=Y1.1 y;simp only at h
   match C:dQ n s j 0 i o,h with
   |[v],h=>
    cases h;rw[C]at A;rw[List.perm_singleton.1 A]
end
section
variable{ax:List aD}{w:x5}{af ag:Nat}{A R:ak}{n:aJ}{s:am}{t:aD}
theorem Vv(h:bD w af ag A R n s t)(H:Laid w)(J:¬A 0)(aC:eu ax t)(K:bV s)(ah:s.ho.length<=1000000):aq x8 AZ [Γ af] w λr I=>∃q:am×Bool,UA (tr n) n s q/\r=Δ (if q.2=s2 then 8 else 0)/\cA ax w af ag A R n q.1 I:=by
 have L:=h.2.2.2.1;refine aE func10 ?_;refine b7.sink (λm U=>∃s1,cA ax w af ag A R n s1 U/\fB n.k n.d6 s s1/\gT n s1=m/\(fN n s->tr n s->s1=s)) ⟨s,cA.same h H J aC (Ext.refl _),.rfl L K,rfl,λ_ _=>rfl⟩ ?_;rintro m _ U ab ⟨s1,hm,f,ac,B⟩ M;obtain⟨ad,ae,N,P,Q,S,T⟩:=hm.open;have ai:=f.same.ho;refine(Hy N P Q S f.gw Ω).Y ?_;rintro _ aa _ ⟨O,q,V,W,rfl,y⟩;have a:=Vg f.ok f.gw (Vh V) W;have y:=T y;have aj:=f.ok.d9;rw[bz,bA];refine a6 (λr I=>I=aa/\r= .bool (q.2.2|| !q.2.1)) ?_ λaA C=>?_
 .rintro _ _ ⟨rfl,rfl⟩;rw[cb];refine⟨λj=>?_,λj=>?_⟩
  .cases he:q.2.2 with
   |true=>
    obtain⟨_,i,hi,X,Y⟩:=a.emp he;refine⟨(q.1,s2),⟨f.F a.a7,λ_=>⟨i,hi,?_,Y⟩,λh=>(by cases h),λh1 x=>?_⟩,rfl,y⟩
    .show dw q.1 i=sp;rw[Ha a.a7.same Ω];exact X
    .have e:=B h1 x;subst e;rw[a.quiet h1 x]at he;cases he
   |false=>
    rw[he,Bool.false_or,Bool.not_eq_true']at j;obtain⟨e,h1,x⟩:=a.same he j;refine⟨(q.1,sp),⟨f.F a.a7,λh=>(by cases h),λ_=>?_,λE z=>?_⟩,rfl,y⟩
    .show fN n q.1/\tr n q.1;rw[e];exact⟨h1,x⟩
    .rw[e,B E z]
  .rw[T3,Bool.not_eq_false']at j;have E:=a.less j.1 j.2;refine M (gT n q.1) _ _ Ω ⟨q.1,y,f.F a.a7,rfl,λh1 x=>?_⟩;have e:=B h1 x;subst e;have z:=j.2;rw[a.quiet h1 x]at z;cases z
 rw[bM,ao];refine⟨λG=>C _ _ ⟨rfl,?_⟩,λhe=>?_⟩
 .cases he:q.2.2 with
  |true=>rfl
  |false=>rw[he]at G;exact m6 rfl G
 .have he:q.2.2=sp:=by
   cases Z:q.2.2 with
   |true=>rw[Z]at he;exact m6 Φ he
   |false=>rfl
  rw[bN];exact C _ _ ⟨rfl,by rw[he,Bool.false_or]⟩
theorem Vw{u:Nat}{E:am×Bool}(h:bD w af ag A R n s t)(G:Laid w)(H:¬A 0)(aC:eu ax t)(J:bV s)(ah:s.ho.length<=1000000)(K:∀j,j.Perm (iF s s.ho.length)->j=O)(L:qn n O u s=σ E):
  aq x8 AZ [Γ af] w λr I=>r=Δ (if E.2=s2 then 8 else 0)/\cA ax w af ag A R n E.1 I:=by
 have M:=h.2.2.2.1;refine aE func10 ?_;refine b7.sink (λm U=>∃s1,cA ax w af ag A R n s1 U/\fB n.k n.d6 s s1/\qn n O m s1=σ E) ⟨s,cA.same h G H aC (Ext.refl _),.rfl M J,L⟩ ?_;rintro m _ U Z ⟨s1,hm,e,a⟩ N;obtain⟨ab,ac,P,Q,S,T,V⟩:=hm.open;have ad:=e.same.ho;cases m with
 |zero=>cases a
 |succ m=>
 rw[qn]at a;refine(Hy P Q S T e.gw Ω).Y ?_;rintro _ aa _ ⟨j,q,W,z,rfl,x⟩;obtain rfl:=K j (by rw[<-Hu e.same];exact W);have x:=V x;have X:=(Hq e.ok e.gw z).1;cases y:wk n j s1 with
 |none=>rw[y]at a;cases a
 |some ae=>
 rw[y]at a;obtain rfl:=Vu y z;simp only at a;rw[bz,bA];refine a6 (λr I=>aa=I/\r= .bool (q.2.2|| !q.2.1)) ?_ λaA B=>?_
 .rintro _ _ ⟨rfl,rfl⟩;rw[cb];refine⟨λf=>?_,λf=>?_⟩
  .cases he:q.2.2 with
   |true=>
    rw[he,m3 rfl]at a;cases a;exact⟨by rw[m3 rfl],x⟩
   |false=>
    rw[he,Bool.false_or,Bool.not_eq_true']at f;rw[he,f,m5 Φ,m5 Φ]at a;cases a;exact⟨rfl,x⟩
  .rw[T3,Bool.not_eq_false']at f;rw[f.1,f.2,m5 Φ,m3 rfl]at a;exact N m _ _ Ω ⟨q.1,x,e.F X,a⟩
 rw[bM,ao];refine⟨λC=>B _ _ ⟨rfl,?_⟩,λhe=>?_⟩
 .cases he:q.2.2 with
  |true=>rfl
  |false=>rw[he]at C;exact m6 rfl C
 .have he:q.2.2=sp:=by
   cases Y:q.2.2 with
   |true=>rw[Y]at he;exact m6 Φ he
   |false=>rfl
  rw[bN];exact B _ _ ⟨rfl,by rw[he,Bool.false_or]⟩
end
theorem Hz{w:x5}{p:x4}(ae:aQ .u8 w p pl)(Q:Bytes pl)(aX:fH w):aq x8 IP [p] w (SN w (pl.take 300)):=by
 refine aE func24 ?_;refine bE aK.i λz U bN ai X=>?_;have X:aj U z aK z12:=X;rw[a8 cW.u (ae.W ai),nK];refine Mt (i:=min pl.length 300) Ω cW.u cV.i (ae.W ai) Ω λbO ak=>?_;have aY:pl.take (min pl.length 300)=pl.take 300:=by
  by_cases h:pl.length<=300
  .rw[Nat.min_eq_left h,o9,j9 h]
  .rw[Nat.min_eq_right Ω]
 rw[aY]at ak;have Y:Bytes (pl.take 300):=λb a=>Q b (R2 a);have aZ:(pl.take 300).length<=300:=by rw[Z3];omega
 generalize pl.take 300=q at ak Y aZ;refine(RG ak Ω).Y ?_;rintro bP aa _ ⟨am,bQ,an⟩;have aG:=ai.F am;refine(Pr an.ls Y Ω (aX.W aG)).Y ?_;rintro bR bT _ ⟨S,B⟩;have aH:=aG.F S;cases E:ix q with
 |none=>
  rw[E]at B;obtain⟨n,e,rfl,he⟩:=B;rw[fS,fT,fU];refine(Fc (an.W S).ls Y Ω).Y ?_;rintro a1 ap _ ⟨K,a2,ba,au,_⟩;obtain rfl:=au E;rw[fS,fT,fU];refine a6 (λv W=>v= .bool s2/\Ext ap W) ?_ ?_
  .rintro _ W ⟨rfl,H⟩;rw[bS,ds (cs:=#[Δ 0,.slice ν 0 0,Δ 0,.slice ν 0 0,.slice ν 0 0,.slice ν 0 0,.slice ν 0 0,.slice ν 0 0]) Ψ];obtain⟨_,_,s,C⟩:=FB;refine b3 (vs:=z12) aK.i rfl rfl (by intro u hu;simp[z12]at hu;rcases hu with rfl|rfl|rfl|rfl<;>rfl) ((((X.W am).W S).W K).W H) λbU bb bV bd=>?_;rw[fu aK.p aK.i rfl bd.range];refine⟨((aH.F K).F H).then bb λr B he=>by have he:r=z:=he;omega,_,_,sp,rfl,⟨rfl,(FB).elim λ_ h=>by obtain⟨_,_,h⟩:=h;exact λu hu=>by simp[z12]at hu;rcases hu with rfl|rfl|rfl|rfl<;>rfl⟩,.inl ⟨rfl,rfl⟩,λf ah=>?_⟩;rw[E]at ah;cases ah
  .intro aA I;rw[bM,ao];exact⟨λ_=>I _ _ ⟨rfl,Ext.refl _⟩,λh=>m6 he h⟩
 |some f=>
  rw[E]at B;obtain⟨bW,n,rfl,be⟩:=B;obtain⟨N,bf,L,bg,bh⟩:=RE Ω E;have M:=DY L;have Z:=yW L;rw[fS,fT,fU];refine(Fc (an.W S).ls Y Ω).Y ?_;rintro a1 ap _ ⟨K,a2,ba,_,au⟩;obtain⟨bX,rfl,bi⟩:=au f E;rw[fS,fT,fU];refine a6 (λv W=>v= .bool sp/\Ext ap W) ?_ ?_
  rotate_left
  .intro aA I;rw[bM,ao];refine⟨λh=>m6 rfl h,λ_=>?_⟩;rw[dl xa.u];exact I _ _ ⟨rfl,Ext.refl _⟩
  rintro _ W ⟨rfl,H⟩;rw[bc];have aI:=(aH.F K).F H;refine(Qz ((be.W K).W H) L bf ⟨bg,bh⟩).Y ?_;rintro bY bj _ ⟨av,bk⟩;have ad:=aI.F av;have O:=((((X.W am).W S).W K).W H).W av;have aJ:=(bi.W H).W av;have bZ:=ad.size;have b0:w.heap.size<=z:=Ω
  have b1:=O.lt;rcases bk with⟨bl,e,he,rfl⟩|⟨b2,rfl,bn⟩
  .rw[bz,bA];refine RF.Y ?_;rintro _ aM _ ⟨rfl,j⟩;refine iX (λaw t4 x=>aw= .pointer ν/\t4= .bool sp/\Ext w x/\∃cs:List x4,aj x z aK cs/\cs.length=8/\∀u∈cs,u.oneCell'=s2) ?_ ?_
   .rintro _ _ x ⟨rfl,rfl,ax,cs,ay,s,C⟩;rw[fu aK.p aK.i s ay.range];exact⟨ax,_,cs,sp,rfl,⟨s,C⟩,.inl ⟨rfl,rfl⟩,λb4 aN bo=>m6 bo (by rw[E]at aN;cases aN;exact bl)⟩
   .intro aA I;have bp:=j.size;refine(Fo (aJ.W j) L).Y ?_;rintro bq az _ ⟨y,aB⟩;refine(FY (R:=λr=>w.heap.size<=r/\∃c,aj az r al c) (λr h=>h.2.elim λc a=>a.lt) (λr c Q a=>⟨Ω,c,a⟩) aB M.1 Z).Y ?_;rintro br bs _ ⟨G,A9,cs,rfl,P,aC⟩;obtain⟨s,C⟩:=P.len;rw[bm,ao];refine⟨λh=>m6 h he,λ_=>?_⟩;refine b3 (vs:=cs) aK.i s rfl C (((O.W j).W y).W G) λbt J aO aD=>?_;exact I _ _ _ ⟨rfl,rfl,(((ad.F j).F y).F G).then J λr B he=>by have he:r=z:=he;omega,cs,aD,s,C⟩
  .rw[bz,bA];obtain⟨b5,bu,aP,bw⟩:=bn;have z5:=aI.size;refine(QV (R0:=λr=>w.heap.size<=r/\r<bj.heap.size) bu aP (λr o h V=>⟨by have:=bw r o h V;omega,(Y2.1 (aP.a7 r o h V)).1⟩) (λr h=>h.2) M.1 Z).Y ?_;rintro _ aM _ ⟨j,af,ag,A,R,t,rfl,bx,ac,aR,aS,bB⟩;have aT:bD aM af ag A R (cY f) (dp (cY f)) t:=⟨bx,ac,RI M.1 Z ac aR,QI M.1,M.1⟩;refine iX (λaw t4 x=>aw=Γ af/\t4= .bool s2/\Ext w x/\∃cs:List x4,aj x z aK cs/\cs.length=8/\(∀u∈cs,u.oneCell'=s2)/\∃R' A9 aL,bD x af ag A R' (cY f) (dp (cY f)) t/\gQ s2 A9 aL x cs (cY f).k (cY f).d6 (dp (cY f))/\(∀q r,A9 q r->¬A r/\¬R' r/\w.heap.size<=r)/\(∀r,aL r->¬eQ x r/\r<x.heap.size/\w.heap.size<=r)/\∀r,R' r->w.heap.size<=r) ?_ ?_
   .rintro _ _ x ⟨rfl,rfl,ax,cs,ay,s,C,R',A9,aL,bC,P,bF,bG⟩;rw[fu aK.p aK.i s ay.range];exact⟨ax,_,cs,s2,rfl,⟨s,C⟩,.inr ⟨rfl,f,E,af,ag,A,R',t,N,A9,aL,L,rfl,bC,aR,λr B=>by have:=aS r B;omega,P,bF,bG⟩,λ_ _ _=>rfl⟩
   .intro aA I;have bp:=j.size;refine(Fo (aJ.W j) L).Y ?_;rintro bq az _ ⟨y,aB⟩;refine(FY (R:=λr=>w.heap.size<=r/\∃c,aj az r al c) (λr h=>h.2.elim λc a=>a.lt) (λr c Q a=>⟨Ω,c,a⟩) aB M.1 Z).Y ?_;rintro br bs _ ⟨G,A9,cs,rfl,P,aC⟩;obtain⟨s,C⟩:=P.len;rw[bm,ao];refine⟨λ_=>?_,λh=>m6 rfl h⟩;rw[xe ez.u];have aU:=((O.W j).W y).W G;have bH:=((ad.F j).F y).F G;refine b3 (vs:=cs) aK.i s rfl C aU λbt J aO aD=>?_;have aV:=(aT.W y).W G;obtain⟨R',aW,bI⟩:=aV.1.put aU J λh=>by have:=aS z h;omega
    have b6:=((ad.F j).F y).size;have b7:=G.size;obtain⟨_,_,_,_,⟨_,_,bJ,bK⟩,_⟩:=(aT.W y).1;have b8:=O.lt;have b9:=(j.F y).size;have bL:=P.ab J λr B h he=>by
     have he:r=z:=he;rcases h with⟨q,h⟩|⟨_,c,a⟩
     .have:=aC q r h;omega
     .subst he;exact m6 (fI a (((O.W j).W y))) Φ
    refine I _ _ _ ⟨rfl,rfl,bH.then J λr B he=>by have he:r=z:=he;omega,cs,aD,s,C,R',A9,_,⟨bI,aV.2⟩,bL,λq r h=>?_,λr h=>?_,λr h=>?_⟩
    .have ca:=aC q r h;refine⟨λaF=>by have:=bK r aF;omega,λaF=>by have:=bJ r (aW r aF).1;omega,Ω⟩
    .obtain⟨Q,c,a⟩:=h;have cb:=a.lt;have aO:=J.size;refine⟨RD ((a.W G).ab J λhe=>?_) Φ,Ω,Q⟩;have he:r=z:=he;subst he;exact m6 (fI a (((O.W j).W y))) Φ
    .rcases bB r (aW r h).1 with h|h
     .exact h.1
     .omega
section
variable{Z aL:ak}{w I:x5}{af ag av:Nat}{A R:ak}{A9:Nat->ak}{n:aJ}{s s':am}{t:aD}{cs:List x4}{a:gd}
theorem Vx(h:fC Z aL w af ag av n s)(W:a.ok):aq x8 wU [Γ af,Γ av,.agg a.cg.toArray] w λ_ I=>lG Z aL w af ag av n (nl n s a) I:=by
 obtain⟨A,R,A9,t,cs,p,⟨az,Q⟩,aB,S,aC⟩:=id h;have O:=p.dG.2.2.2.1;have bs:=O.ep;have bt:=a.TZ;have G:¬A 0:=λh=>Q ((S 0).2 (.inl h));have X:=Ua (a:=a) aB O;refine aE func27 ?_;refine bn λga U bu aD Y=>?_;have Y:aj U ga dk [.int .u8 a.d,Δ a.i,Δ a.pos,Δ a.v,Δ a.c]:=Y;intro aa aF _ _;have C:=aD.F aF;have B:=Y.W aF;have bw:=aD.size;have bx:=C.size;have bz:=B.lt;have ac:(a.d % 7).toNat=a.kind:=rfl;obtain⟨hv,bA,bB,bC,bD,bE,aV,_⟩:=p.qc;have aW:cs[0]?=σ (Δ n.k):=by rw[aV];rfl
 have hu:U4.wrap a.c=a.c.emod 18446744073709551616:=rfl;have aX:0<=a.c.emod 18446744073709551616:=Int.emod_nonneg _ Φ;have bF:=Int.emod_nonneg (a.c.emod 18446744073709551616) (show n.k+1≠0 by omega);have bG:=Int.emod_lt_of_pos (a.c.emod 18446744073709551616) (show 0<n.k+1 by omega);have aY:a.c.emod 18446744073709551616 % (n.k+1)=wc n.k a:=rfl;rw[aN dk.p 4 B rfl,fR ay.u gi.u,aP aK.p 0 (p.box.W C) aW,aR,lm Ω Ω,fR ay.u gi.u,lw (x:=n.k+1) Ω Ω,hu,rX Ω,Int.tmod_eq_emod_of_nonneg aX,fR gi.u ay.u,lm Ω Ω,aY,
  aN dk.p 0 B rfl,zC W.1,ac,bm,ao]
 have E:=p.W C;refine⟨λad=>?_,λad=>?_⟩
 .have ad:a.kind=6:=Ω
  have H:nl n s a=if eF n a.i a.v then eb s a.i.toNat a.v.toNat else s:=by unfold nl;rw[m3 ad]
  refine dh (λI=>lG Z aL w af ag av n (nl n s a) I) (λI h=>h) λaA aH=>?_;rw[aN dk.p 1 B rfl,aN dk.p 3 B rfl];refine(yV (i:=a.i) (v:=a.v) E.dG (.inl p.iR.1)).Y ?_;rintro bH bI _ ⟨aZ,a2⟩;by_cases L:eF n a.i a.v
  rotate_left
  .obtain⟨rfl,a6⟩:=aZ L;rw[bm,ao];exact⟨λh=>m6 h Φ,λ_=>aH _ (by rw[H,m5 L];exact lG.same h (C.F a6))⟩
  obtain⟨rfl,aI,aS,y,ae,a7⟩:=a2 L;rw[m3 L]at H;rw[bm,ao];refine⟨λ_=>?_,λh=>m6 rfl h⟩;have a8:=E.prog aI ae a7 E.iR.set (λ_ h=>.inl h) (λ_ _ _ h=>h) E.box.lt;obtain⟨ba,x,J,bb,bJ⟩:=GO O L;obtain⟨ah,V⟩:=Y6 ba;rw[V,u7]at J;intro ai ak _ _;have j:=a8.W ak;have am:∀r,A r->r<w.heap.size:=λr h=>n4 p.dG r (.inl h);have P:=(B.ab ae.1 λh=>by have:=am ga h;omega).W ak;rw[V]at P;have aJ:ah<s.d9.length:=(x6.1 J).1;obtain⟨g,cap,aM,gy,e,an,bc,bd,be,bf⟩:=Ub j J;have bK:=rn x;have bL:x.un.length<=32:=by obtain⟨bM,aO,bN,bg,_⟩:=L.var O;rw[V,u7,J]at aO;cases aO;exact bg
  have ap:∀r,lc aM r->r≠ga/\r≠av:=λr f=>by
   have h1:A9 0 r/\r<aa.heap.size:=be r f;exact⟨λhe=>by have:=aC 0 r h1.1;omega,λhe=>(p.apart 0 r h1.1).2.2 he⟩
  rw[aP aK.p 3 j.box an,aN dk.p 1 P rfl,aP aK.p 3 j.box an,aN dk.p 1 P rfl,e5 ca.u au.i aJ λ_=>rfl,aG (v:=aM) (o:=0+ah*1) Ψ bc,lS];refine(St (p:=λy=>decide (y=a.v)) bd Ω λI y bi bO=>?_).Y ?_
  .refine aE func72 ?_;rw[aN dk.p 3 (P.ab bi λh=>(ap ga h).1 rfl) rfl,bm];exact⟨rfl,Ext.refl _⟩
  rintro bP aw _ ⟨ax,bj,bk⟩;have bl:=P.ab ax λh=>(ap ga h).1 rfl;have bo:=j.box.ab ax λh=>(ap av h).2 rfl;refine⟨.inr ⟨ur Ψ (bl.cell (o:=0+1) rfl),Go.Vc.mT λK=>a1 dk.p rfl,ur Ψ (bo.cell (o:=0+3) an),Go.Vc.mT λK=>a1 aK.p rfl,Go.Vc.mT λK=>cc,trivial⟩,?_⟩;rw[e5 ca.u au.i aJ λ_=>rfl];refine bf (m:=((x.mask.toNat ||| 2 ^ a.v.toNat:Nat):Int)) (Ext.refl _) ax (by rw[zd bb];exact bj) bk λbQ aQ=>aH _ ?_;have bp:eb s a.i.toNat a.v.toNat={s with d9:=s.d9.set ah {x with mask:=((x.mask.toNat ||| 2 ^ a.v.toNat:Nat):Int)}}:=by rw[V,u7];unfold eb;rw[J]
  rw[H];rw[<-bp]at aQ;have bq:=cC.comp (ak.ab _) (λq r f=>.inl ⟨q,f⟩) aQ;exact lG.before C (fC.Uc E S (by rw[<-H];exact X) Q (az.W C) aI ae (λq r (f:A9 q r/\r<aa.heap.size)=>f.1) bq)
 have bR:(ml n.k a).kind=a.kind:=rfl;have H:nl n s a=(bh n.k s (ml n.k a)).1:=by unfold nl;rw[m5 Ω]
 rw[aN dk.p 0 B rfl,zC W.1,ac,fR cV.u al.u,lm Ω Ω,aN dk.p 1 B rfl,aN dk.p 2 B rfl,aN dk.p 3 B rfl];refine(TI (m:=ml n.k a) E O aB.1 Ω).Y ?_;rintro _ ai _ ⟨rfl,aT⟩;obtain⟨aU,bS,bT,j,bU⟩:=id aT;have am:∀r,(∃q,A9 q r)\/r=av->r<w.heap.size:=λr f=>f.elim (λ⟨q,h⟩=>aC q r h) λh=>by rw[h];exact p.box.lt
 have z:=B.ab aU λf=>by have:=am ga f;omega
 have M:Laid ai:=iH aU (λh=>Q ((S 0).2 (h.elim (λh=>.inr (.inr (.inl h))) λh=>.inr (.inr (.inr (.inr h)))))) (az.W C);have N:∀{r:x4}{aw:x5},qi [] ai af ag A R n s (ml n.k a) r aw->lG Z aL w af ag av n (nl n s a) aw:=λbr=>by
  rw[H]at X ⊢;exact lG.before C (fC.step E S X Q aT (Ext.refl _) br.2)
 rw[aN dk.p 0 z rfl,zC W.1,ac,bm,ao];refine⟨λhk=>?_,λbV=>?_⟩
 .rw[aN dk.p 1 z rfl,aN dk.p 2 z rfl,aN dk.p 3 z rfl];exact(zv (a:=ml n.k a) Ω j.dG M G j.iR.m).Y λr I _ f=>N f
 rw[bm,ao];refine⟨λhk=>?_,λbW=>?_⟩
 .rw[aN dk.p 1 z rfl,aN dk.p 2 z rfl,aN dk.p 3 z rfl];exact(Gz (a:=ml n.k a) Ω j.dG M G j.iR.m).Y λr I _ f=>N f
 rw[bm,ao];refine⟨λhk=>?_,λbX=>?_⟩
 .rw[aN dk.p 1 z rfl];exact(GD (a:=ml n.k a) Ω j.dG M G j.iR.m).Y λr I _ f=>N f
 rw[bm,ao];refine⟨λhk=>?_,λbY=>?_⟩
 .rw[aN dk.p 1 z rfl];exact(Tz (a:=ml n.k a) Ω j.dG M G j.iR.m).Y λr I _ f=>N f
 rw[bm,ao];refine⟨λhk=>?_,λbZ=>?_⟩
 .rw[aN dk.p 1 z rfl,aN dk.p 3 z rfl];exact(GF (a:=ml n.k a) Ω j.dG M G j.iR.m).Y λr I _ f=>N f
 .rw[aN dk.p 1 z rfl,aN dk.p 3 z rfl];exact(TA (a:=ml n.k a) Ω j.dG M G j.iR.m).Y λr I _ f=>N f
end
section
variable{w0 w I:x5}{af ag av:Nat}{n:aJ}{s:am}{Z aL:ak}
theorem nn.Vy{a:gd}(h:nn w0 w af ag av n)(q:a.ok):aq x8 wU [Γ af,Γ av,.agg a.cg.toArray] w λ_ I=>nn w0 I af ag av n:=by
 obtain⟨e,s,Z,aL,x,f⟩:=h;refine(Vx x q).Y ?_;rintro v U _ ⟨y,A,B,C⟩;have z:=e.size;exact⟨e.then y λr j h=>by have:=f r h.1;omega,_,A,aL,C,λr j=>(B r j).elim (f r) λh=>Ω⟩
theorem Vz{e:x4}{L:List nk}{K:x4->x5->Prop}{i:Nat}{x:nk}(j:Seen eW w [e] L)(J:L[i]?=σ x)(q:∀g I,Ext w I->w.heap.size<=g->aj I g dk (o2 x).cg->K (Γ g) I):
  ad x8 (n9 pr e (Δ (i:Int))) w λr=>
  ad x8 (u5 dk r) w λs=>
  aM x8 (R3 dk s2 (.tuple #[])) w λa f=>
  aM x8 (o7 dk a s) f λ(_:Unit)h=>K a h:=by
 refine lV (α:=nk) dk.p rfl pr.u dk.i j J λcs y=>?_;obtain rfl:=TX y;refine bE dk.i λgy f E z A=>?_;refine b3 (vs:=(o2 x).cg) dk.i rfl rfl (gd.one _) A λh B F C=>?_;exact q _ _ (z.put B Ω) Ω C
theorem VA{r:x4}{L:List nk}{m:Int}{K:x5->Prop}(h:nn w0 w af ag av n)(e:Seen eW w0 [r] L)(H:∀x∈L,(o2 x).ok)(J:∀I,nn w0 I af ag av n->K I):
  ad x8 (X8 #[pr] al #[r]) w λM=>
 b7 (Δ 0) w λj a k=>
  ad x8 (aT .lss al sp sp j M) a λN=>
  Split N (cG (α:=x5->Prop) (λ(y:x5)=>
   ad x8 (aT .add al sp s2 j (Δ 1)) y λO=>
   k O y) λz=>
  ad x8 (n9 pr r j) a λP=>
  ad x8 (u5 dk P) a λQ=>
  aM x8 (R3 dk s2 (.tuple #[])) a λb A=>
  aM x8 (o7 dk b Q) A λ(_:Unit)q=>
  ad x8 (aT .lss al sp s2 j (Δ m)) q λR=>
  Split R (ad x8 (u5 dk b) q λS=>
   aq x8 wU [Γ af,Γ av,S] q λZ B=>
   z B)
   (z q))
   (K a):=by
 rw[fE pr.u (bq e h.1)];refine b7.range L.length (λi s=>nn w0 s af ag av n) (oy e) h ?_ ?_
 .rintro i s U hi f V;obtain⟨x,C⟩:=aI (l:=L) hi;have W:=H x (x7 C);refine bF Ω ?_;refine dh (λa=>nn w0 a af ag av n) (λa X=>by rw[aR];exact V _ X) λaA E=>?_;refine Vz (bq e f.1) C λgy A G _ Y=>?_;rw[aW,ao];refine⟨λ_=>?_,λ_=>E _ (f.W G)⟩;rw[bH dk.p dk.i rfl Y.range];exact((f.W G).Vy W).Y λv B _ e=>E _ e
 .rintro s U f;exact b4 Ω (J _ f)
end
theorem VB{p Y:x4}{L:List nk}{w:x5}(ae:aQ .u8 w p pl)(az:∀b∈pl,0<=b/\b<256)(aB:Seen eW w [Y] L)(aC:∀x∈L,(o2 x).ok)(aD:fH w)(M:Laid w):aq x8 IC [p,Y] w (GQ w pl):=by
 have a1:=rq M;refine aE func7 ?_;refine bE aK.i λj U a2 y ab=>?_;have a7:=ab.lt;have a8:=y.size;refine(Hz (ae.W y) az (aD.W y)).Y ?_;rintro _ aa _ ⟨N,ba,cs,ok,rfl,⟨E,G⟩,aF,_⟩;rw[fS,fT,fU];refine bE aK.i λav bb bd aG aH=>?_;refine b3 (vs:=cs) aK.i E rfl G aH λH aI be O=>?_;have ac:Ext aa H:=aG.put aI Ω;have I:=N.F ac;have ak:=y.F I;have bf:=N.size;have out:∀{a:x5}{z:List x4}{K:x4->x5->Prop},Ext U a->aj a av aK z->z.length=8->(∀u∈z,u.oneCell'=s2)->(∀e,ai (λr=>r=j) a e->K (.agg z.toArray) e)->
   ad x8 (u5 aK (Γ av)) a λt25=>aM x8 (o7 aK (Γ j) t25) a λ(_:Unit)e=>ad x8 (do loadVar aK (<-asAddr (Γ j))) e λr=>K r e:=λ{a z K}J aJ P aO aP=>by
  rw[bH aK.p aK.i P aJ.range];refine b3 (vs:=z) aK.i P rfl aO (ab.W J) λe B bg aR=>?_;rw[fu aK.p aK.i P aR.range];exact aP _ B
 have no:∀{e:x5},(∃a,Ext H a/\ai (λr=>r=j) a e)->GQ w pl (.tuple #[.pointer ν,.agg cs.toArray,.bool sp]) e:=λ⟨a,q,aS⟩=>⟨(ak.F q).then aS λr C h=>by have h:r=j:=h;omega,.inl ⟨cs,rfl,E,G⟩⟩;rcases aF with⟨rfl,rfl⟩|⟨rfl,f,ah,aT⟩
 .refine a6 (λv Q=>Q=H/\v= .bool s2) ?_ λaA S=>?_
  .rintro _ _ ⟨rfl,rfl⟩;rw[bS];intro a q _ _;exact out (I.F q) (O.W q) E G λe B=>no ⟨a,q,B⟩
  .rw[bN,X6,bS];exact S _ _ ⟨rfl,rfl⟩
 obtain⟨af,ag,Z,aL,rfl,al,aU⟩:=TJ aT ac O Ω N.size (rq (M.W y)) (M.W ak);obtain⟨hv,bh,bi,bj,bk,bl,aV,_⟩:=al.look;refine a6 (λv Q=>Q=H/\v= .bool (decide (1000<(cY f).k))) ?_ λaA S=>?_
 rotate_left
 .rw[bN,Y5,bc,aN aK.p 0 aV rfl,bU];exact S _ _ ⟨rfl,rfl⟩
 rintro _ _ ⟨rfl,rfl⟩;rw[ao];refine⟨λhk=>?_,λhk=>?_⟩
 .intro a q _ _;exact out (I.F q) (O.W q) E G λe B=>no ⟨a,q,B⟩
 refine VA (w0:=U) ⟨I,_,Z,aL,al,aU⟩ (bq aB y) aC λbm aW=>?_;obtain⟨am,s,an,aX,aY,ap⟩:=aW;intro bn V _ _;have au:=aY.W V;obtain⟨W,aw,aZ⟩:=au.dd;have ax:W.length=8/\∀u∈W,u.oneCell'=s2:=by
  obtain⟨A,R,A9,t,p,_⟩:=id aw;exact bI.len p.doc
 have ay:∀r,an r->¬r=j:=λr C h=>by have:=ap r C;omega
 refine out (am.F V) aZ ax.1 ax.2 λbo X=>⟨((y.F am).F V).then X λr C h=>by have h:r=j:=h;omega,.inr ⟨f,af,ag,av,an,aX,s,W,rfl,ah,Ω,au.side X ay (λh=>by have h:0=j:=h;omega),aw.side X ay (λh=>by have h:0=j:=h;omega),λr C=>by have:=ap r C;omega⟩⟩
def mn:Λ:=[116,32,50,32,50,32,50,32,57,32,49,32,50,32,49,32,49,32,48,32,49,32,48,32,50,32,50,32,48,32,49,32,48,32,49,32,48,32,49,32,50]
def io:cn:=⟨[116],9,[1,2],[⟨[1],[2],0,[([0],2)]⟩,⟨[0,1],[1,2],0,[([0,1],2)]⟩]⟩
theorem VC:ix mn=σ io:=by
 have h:(match ix mn with
  |some f=>decide (f.name=io.name/\f.k=io.k/\f.d6=io.d6)&&decide (f.ho.map (λx=>(x.scope,x.d6,x.other,x.lines))=io.ho.map λx=>(x.scope,x.d6,x.other,x.lines))
  |none=>sp)=s2:=by decide+kernel
 cases q:ix mn with
 |none=>rw[q]at h;cases h
 |some f=>
  rw[q]at h;simp only[T8,ro]at h;obtain⟨⟨h1,r,s⟩,e⟩:=h;obtain⟨nm,k,z,j⟩:=f;simp only at h1 r s e;subst h1;subst r;subst s;have:j=io.ho:=by
   have w:j.length=2:=by have:=congrArg List.length e;simpa[io]using this
   match j,w with
   |[x,y],_=>
    obtain⟨a,b,c,d⟩:=x;obtain⟨a',A,B,C⟩:=y;simp[io]at e;obtain⟨⟨rfl,rfl,rfl,rfl⟩,rfl,rfl,rfl,rfl⟩:=e;rfl
  subst this;rfl
theorem VD:nZ io.ho<=16384:=by decide+kernel
theorem VE:∃E,qn (cY io) [0] 20 (dp (cY io))=σ E/\E.2=sp/\E.1.zero=2/\(E.1.d9[1]?.map λx=>(az x,x.un.length))=σ ([0,1],2):=by
 have h:(match qn (cY io) [0] 20 (dp (cY io))with
  |some E=>decide (E.2=sp/\E.1.zero=2/\(E.1.d9[1]?.map λx=>(az x,x.un.length))=σ ([0,1],2))
  |none=>sp)=s2:=by decide+kernel
 cases a:qn (cY io) [0] 20 (dp (cY io))with
 |none=>rw[a]at h;cases h
 |some E=>
  rw[a]at h;exact⟨E,rfl,rs h⟩
theorem VF:iF (dp (cY io)) (dp (cY io)).ho.length=[0]:=by decide+kernel
theorem VG:(dp (cY io)).ho.length<=1000000:=by decide+kernel
theorem VH{w:x5}(Q:fH w)(y:Laid w):aq x8 IB [] w λv I=>v= .bool s2/\Ext w I:=by
 refine aE func6 ?_;refine lb (k:=1) (cs:=(ints .u8 mn).toArray) cW.u cV.i Ω Ψ λg U aV a q=>?_;have z:aH .u8 cV U g (.slice (σ ⟨g,0,ν⟩) 41 41) mn:=aH.of (n:=41) (cf.full (by simpa using q) (by simp[mn]) (by simp[maxLen]));refine SR q λB C G=>?_;have a:=a.put C Ω;have ae:aQ .u8 B (.slice (σ ⟨g,0,ν⟩) 41 41) mn:=by
  obtain⟨S,b,o,base,cap,V,W,X,Y,Z⟩:=z.ls;cases V;cases Y (by simp[mn]);exact⟨S,g,0,_,41,rfl,W,X,λ_=>rfl,G _ _ Z⟩
 clear z q G C;refine(Hz ae (by intro b ab;simp[mn]at ab;omega) (Q.W a)).Y ?_;rintro _ aa _ ⟨ac,ad,cs,ok,rfl,⟨ai,aj⟩,ak,al⟩;have H:ix (mn.take 300)=σ io:=by
  rw[j9 Φ];exact VC
 have am:=al io H VD;subst am;obtain⟨f,ah,af,ag,A,R,t,N,A9,aL,aW,rfl,an,ap,K,_⟩:∃f,ix (mn.take 300)=σ f/\vS B.heap.size aa ad cs f:=by
  rcases ak with⟨h,_⟩|⟨_,h⟩
  .cases h
  .exact h
 rw[H]at ah;cases ah;have L:=a.F ac;rw[fS,fT,fU];refine bE aK.i λav aX aY au aw=>?_;refine b3 aK.i ai rfl aj aw λaZ ax a1 ay=>?_;have s:=au.put ax Ω;have az:=an.W s;have aB:¬A 0:=λh=>by have:=K 0 h;have:=rq (y.W a);omega
 refine a6 (λv aC=>v= .bool s2/\Ext w aC) (λ_ _ h=>h) λaA aD=>?_;rw[bS];obtain⟨E,aF,aG,aI,aJ⟩:=VE;refine(Vw az (y.W (L.F s)) aB ap.2.2.1.m (Gj _) VG (λa2 aM=>List.perm_singleton.1 (VF▸aM)) aF).Y ?_;rintro _ a7 _ ⟨rfl,hm⟩;obtain⟨a8,ba,aS,bx,aN,M,_⟩:=hm;have aO:=(L.F s).then aN.1 λr bb h=>by have:=K r h;have:=a.size;omega
 rw[aG,m5 Φ,bm,ao];refine⟨λ_=>?_,λh=>m6 rfl h⟩;refine(sY M).Y ?_;rintro _ bc _ ⟨rfl,O⟩;rw[aI,bm,ao];refine⟨λ_=>?_,λh=>m6 rfl h⟩;refine(jF (M.W O)).Y ?_;rintro _ bd _ ⟨⟨b,aP,rfl,e⟩,aR⟩;refine(Ux e.1).Y ?_;rintro _ be _ ⟨rfl,aT⟩;obtain⟨x,J,P⟩:=Y0.1 aJ;simp only[R4]at P;have j:=lA e Ω J;have bf:=(e.2.2 x Ω J).1;have ay:=e.1.2;have aU:aP=2:=Ω
 subst aU;rw[P.1]at j;rw[bm];refine aD _ _ ⟨?_,((aO.F O).F aR).F aT⟩;rcases(show b=0\/b=1\/b=2\/b=3 by omega)with rfl|rfl|rfl|rfl
 .exact m6 j Φ
 .exact m6 j Φ
 .exact m6 j Φ
 .rfl
theorem VI{sv:x4}{l:Λ}{w:x5}(h:aQ .i64 w sv l)(V:∀x∈l,1<=x/\x<=32)(an:l.length<=64):
  aq x8 ID [sv] w λv I=>Ext w I/\∃L,bB (e7 w.heap.size) bX I [v] L/\TK l L:=by
 refine aE func8 ?_;have ae:=mE l V;refine a6 (λv aa=>Ext w aa/\∃b,v= .bool b/\(b=s2->l.length<=11/\aX l<=90)) ?_ λaA K=>?_
 rotate_left
 .rw[a8 au.u h,aW,ao];refine⟨λap=>?_,λ_=>K _ _ ⟨Ext.refl _,sp,rfl,λh=>by cases h⟩⟩;refine(TP h V).Y ?_;rintro _ U _ ⟨⟨c,rfl,P⟩,e⟩;rw[mB];exact K _ _ ⟨e,_,rfl,λh=>⟨Ω,by rw[<-P Ω];exact rs h⟩⟩
 rintro _ U ⟨e,b,rfl,Q⟩;rw[cb];refine⟨λS=>?_,λ_=>?_⟩
 .obtain⟨av,ax⟩:=Q S;refine(xv l (h.W e) ⟨Ω,V,Ω⟩).Y ?_;rintro v aa _ ⟨f,aC⟩;have ay:=jt V;have W:=e.size;exact⟨e.F f,bs l,aw.Y aC (λr _ h=>by have h:U.heap.size<=r:=h;show w.heap.size<=r;omega) λ_ _ h=>h,Ω,λa C=>TM C⟩
 have W:=e.size;refine ce.range 60 (λk out aa=>Ext U aa/\bB (e7 U.heap.size) bX aa [out] ((X0 k).map (mj l))) Ω ⟨Ext.refl _,gH⟩ ?_ ?_
 .rintro k out aa X hk ⟨f,aC⟩ Y;refine bF Ω ?_;have E:=e.F f;rw[a8 au.u (h.W E)];refine kM (k:=.i64) au.u al.i Ω Ω λs Z az M N=>?_;have ab:aH .i64 al Z s (.slice (σ ⟨s,0,ν⟩) l.length l.length) (o5 l.length 0):=by
   refine aH.of (n:=l.length) ⟨Ξ,.inr ⟨l.length,ints .i64 (o5 l.length 0),rfl,N,Ω,by simp only[maxLen];omega,Ξ,Ξ⟩⟩
  have ac:=E.F M;have aB:=f.size;have aD:=N.lt;rw[a8 au.u (h.W ac)];refine b7.range l.length (λq B=>Ext aa B/\aH .i64 al B s (.slice (σ ⟨s,0,ν⟩) l.length l.length) (upto (mj l k) 0 q)) h.le ⟨M,by rw[qQ,tn];exact ab⟩ ?_ ?_
  .rintro q B ad af ⟨y,j⟩ ag;obtain⟨z,G⟩:=aI (l:=l) af;have aF:=V z (x7 G);refine bF Ω ?_;have aG:0<=(k:Int)*(2*(q:Int)+1)/\(k:Int)*(2*(q:Int)+1)<=60*200:=⟨Int.mul_nonneg Ω Ω,Int.mul_le_mul Ω Ω Ω Ω⟩;have aJ:0<=(k:Int) / 3/\(k:Int) / 3<=60:=Ω
   have aK:(2*(q:Int)+1)=2*(q:Int)+1:=rfl;rw[bk au.u al.i Ψ (h.W (E.F y)) G,fQ,lm (x:=2*(q:Int)) Ω Ω,aR,lm Ω Ω,fQ,lm Ω Ω,ow Φ,Int.tdiv_eq_ediv_of_nonneg Ω,lm Ω Ω,aR,lm Ω Ω,rX Ω,Int.tmod_eq_emod_of_nonneg Ω,
    ju rfl au.u al.i j (by rw[pJ,tn];omega)]
   refine jv al.i j (by rw[pJ,tn];omega) λah H aL ai=>?_;rw[aR];refine ag _ ⟨y.then H λr aj he=>by have he:r=s:=he;omega,?_⟩;rw[<-qS (GI G)];exact ai
  rintro B ad ⟨y,j⟩;refine b4 Ω ?_;rw[show upto (mj l k) 0 l.length=mj l k by rw[<-tn l k,qR]]at j;have z4:=y.size;refine jU (α:=Λ) (a:=mj l k) (A:=e7 aa.heap.size) (R:=bX) ca.u au.i Φ (lU (mD j (R:=bX))) (aw.Y (mD j) (λr _ h=>by subst h;show aa.heap.size<=r;omega) λ_ _ h=>h) λaM ah J _ H=>?_;have O:=y.F J;have z5:=J.size;refine oz (α:=Λ) (a:=mj l k) (A:=e7 aa.heap.size) ca.u au.i rfl (bq (nO aC) O) H (bq (aw.Y (mD j) (λr _ h=>by subst h;show aa.heap.size<=r;omega) λ_ _ h=>h) J) (λr _ h be=>?_) (by simp only[r9,List.length_range];omega) (by simp only[r9,List.length_range];omega) λaN aO ak am=>?_
  .rcases be with be|be
   .have:=h.2;have:aa.heap.size<=r:=be;omega
   .exact be
  rw[aR];refine Y _ _ ⟨(f.F O).then am (λr aj h=>by have:=h.1;have:U.heap.size<=r:=this;omega),?_⟩;rw[List.range_succ,Z2,List.map_singleton];refine aw.Y ak (λr _ h=>?_) λ_ _ h=>h;show U.heap.size<=r;rcases h with h|h|h
  .exact h.1
  .have:aa.heap.size<=r:=h;omega
  .omega
 .rintro out aa X ⟨f,aC⟩;rw[show((60:Nat):Int)=60 from rfl,aW,ao];refine⟨λh=>Ω,λ_=>⟨e.F f,_,aw.Y aC (λr _ h=>by have h:U.heap.size<=r:=h;show w.heap.size<=r;omega) λ_ _ h=>h,Ξ,λa C=>?_⟩⟩;obtain⟨k,_,rfl⟩:=l9.1 C;exact TL k V
section
variable{w:x5}{n:aJ}{s:am}
theorem VJ{dm:x4}(h:e3 w dm n.k n.d6 s)(f:bd n.k n.d6 s)(j:qj s)(q:s.ho.length<=1000):aq x8 IM [dm,Δ 3] w λr I=>Ext w I/\∃b:Bool,r= .bool b/\(b=s2↔fN n s/\tr n s):=by
 refine aE func18 ?_;refine bn λg1 U A e a=>?_;have x:=h.box e a;rw[bm,ao];refine⟨λh=>(by cases h),λ_=>?_⟩;rw[bm,ao];refine⟨λh=>(by cases h),λ_=>?_⟩;rw[bm,ao];refine⟨λ_=>?_,λh=>m6 rfl h⟩;refine x.load λB y=>?_;refine(UT y f j q).Y ?_;rintro _ aa _ ⟨z,b,rfl,a⟩;exact⟨e.F z,b,rfl,a.F ⟨λh=>⟨h.2.2,h.1,h.2.1⟩,λh=>⟨h.2.1,h.2.2,h.1⟩⟩⟩
end
section
variable{w:x5}{dm:x4}{n:aJ}{s:am}
theorem VK{dd:x4}{l:Λ}(h:aQ .i64 w dd l):aq x8 A6 [dd] w λr I=>r= .bool (decide (l=[]))/\Ext w I:=by
 refine aE func41 ?_;rw[a8 au.u h,bm];refine⟨?_,Ext.refl _⟩;congr 1;exact decide_eq_decide.2 ⟨λh=>j6 Ω,λh=>by rw[h];rfl⟩
theorem VL{sv:x4}{L:List (Λ)}{m:Bool}{S R:ak}(h:aw.rep (α:=List (Λ)) m S R w [sv] L):
  aq x8 IW [sv,.func (.func A6) #[] #[]] w λv I=>v= .bool (L.any λl=>decide (l=[]))/\Ext w I:=by
 refine aE func40 ?_;refine aq.Y (K:=λv I=>Ext w I/\∃r:Int,v=Δ r/\(0<=r↔ ∃c∈L,c=[])) ?_ ?_
 .refine aE func88 ?_;rw[fE ca.u h];refine ce.range L.length (λi _ U=>Ext w U/\∀c∈L.take i,c≠[]) (oy h) ⟨Ext.refl _,λc a=>by simp at a⟩ ?_ ?_
  .rintro i _ U k hi ⟨J,e⟩ hk;refine bF Ω ?_;obtain⟨x,f⟩:=aI (l:=L) hi;refine fF rfl rfl ca.u au.i Ψ (bq h J) f λu hu=>?_;refine aq.Y (VK (c3 hu)) ?_;rintro _ aa _ ⟨rfl,j⟩;rw[ao];refine⟨λae=>⟨J.F j,i,rfl,⟨λ_=>⟨x,x7 f,ae⟩,λ_=>Ω⟩⟩,λq=>?_⟩;rw[aR];refine hk _ _ ⟨J.F j,λc a=>?_⟩;rw[u9,f]at a;rcases j5.1 a with a|a
   .exact e c a
   .simp at a;subst a;exact q
  .rintro _ U k ⟨J,e⟩;rw[o9]at e;refine b4 Ω ?_;exact⟨J,-1,rfl,⟨λh=>Ω,λ⟨c,a,ae⟩=>m6 ae (e c a)⟩⟩
 .rintro _ U _ ⟨J,r,rfl,s⟩;rw[cT];refine⟨?_,J⟩;congr 1;rw[V9,ro,List.any_eq_true,s];exact⟨λ⟨c,a,ae⟩=>⟨c,a,ms ae⟩,λ⟨c,a,ae⟩=>⟨c,a,rs ae⟩⟩
theorem HA(h:e3 w dm n.k n.d6 s):aq x8 IL [dm] w λr I=>Ext w I/\∃b:Bool,r= .bool b/\(b=s2↔ ∃i,i<s.d9.length/\aU s ((i:Nat):Int)=[]):=by
 refine aE func17 ?_;refine bn λg1 U z a e=>?_;obtain⟨hv,A,B,C,E,G,f,H,_,j,_⟩:=h.box a e;rw[aN aK.p 3 f rfl];refine(VL j).Y ?_;rintro _ aa _ ⟨rfl,q⟩;refine⟨a.F q,_,rfl,?_⟩;rw[List.any_eq_true];constructor
 .rintro⟨l,y,he⟩;obtain⟨x,J,rfl⟩:=l9.1 y;obtain⟨i,hi⟩:=Y8.1 J;exact⟨i,(x6.1 hi).1,by rw[np hi];exact rs he⟩
 .rintro⟨i,hi,he⟩;obtain⟨x,J⟩:=aI (l:=s.d9) hi;rw[np J]at he;exact⟨az x,l9.2 ⟨x,x7 J,rfl⟩,ms he⟩
end
theorem VM{p aH:x4}{L:List nk}{w:x5}{Q:x4->x5->Prop}(X:∀I,Ext w I->Q (.bool s2) I)(ae:aQ .u8 w p pl)(bj:∀b∈pl,0<=b/\b<256)(bk:Seen eW w [aH] L)(bl:∀x∈L,(o2 x).ok)(aJ:fH w)(aM:Laid w):
  aq x8 AY [p,aH] w Q:=by
 refine aE func4 ?_;refine(VH aJ aM).Y ?_;rintro _ U _ ⟨rfl,y⟩;rw[bN,Y5,bc];refine(VB (ae.W y) bj (bq bk y) bl (aJ.W y) (aM.W y)).Y ?_;rintro _ aa _ ⟨aO,bn⟩;have aP:=y.F aO;have cg:=y.size;have ch:=aO.size;rcases bn with⟨cs,rfl,bo,bp⟩|⟨f,af,ag,ci,Z,aL,s,cs,rfl,ah,hk,Y,ad,br⟩
 .rw[fS,fT,fU];refine bE aK.i λav bs bt C ai=>?_;refine b3 (vs:=cs) aK.i bo rfl bp ai λG aj bu ak=>?_;rw[bN,X6,bS,dl ez.u];exact X _ (aP.F (C.put aj Ω))
 rw[fS,fT,fU];have H:cs.length=8/\∀u∈cs,u.oneCell'=s2:=by
  obtain⟨A,R,A9,t,p,_⟩:=id ad;exact bI.len p.doc
 refine bE aK.i λav bs bt C ai=>?_;refine b3 (vs:=cs) aK.i H.1 rfl H.2 ai λG aj bu ak=>?_;have al:Ext aa G:=C.put aj Ω;have bw:=aP.F al;rw[bN,Y5,bc];have aR:=ad.W al;have bx:kY G av (cY f).k (cY f).d6 s:=e3.box aR.ok.2 (Ext.refl _) ak;obtain⟨hv,cj,ck,cl,cm,cn,aS,bz,_⟩:=id bx;obtain⟨z,aT,aU,_⟩:=Y.ok;have am:∀g∈s.ho,g.live≠0:=Y.live.1;have cp:s.ho.length<=256:=Y.live.2;have aV:s.dC=[]:=aU.dC;have aX:s.dC.length<=1000:=by rw[aV];exact X9 _
 rw[aN aK.p 1 aS rfl];refine(VI bz z.eZ.2.2 z.eZ.2.1).Y ?_;rintro dd bA _ ⟨K,aY,bB,cq,bC⟩;have aZ:=ad.lt;have z3:=al.size;obtain⟨A,R,t,bD,bF,bG,bJ,bL⟩:=(aR.W K).go;refine(Vv bD bF bG bJ aT Ω).Y ?_;rintro _ a1 _ ⟨q,bO,rfl,hm⟩;obtain⟨M,cr,ct,a2⟩:=bL (Ext.refl _) hm;have bP:Ext w a1:=(bw.F K).then M λr an h=>by have:=br r h.1;omega
 have a7:¬(Z av/\¬aL av):=λh=>by have:=aZ av h.1;have:=C.size;omega
 have ap:=(ak.W K).ab M a7;have cu:=(aS.W K).ab M a7;have bQ:Seen (λr=>G.heap.size<=r/\r<bA.heap.size) a1 [dd] aY:=aw.ab (pB bB λr an h=>⟨h.elim id False.elim,an⟩) M λr an h be=>by
  have h:=h.elim False.elim id;have:=aZ r be.1;omega
 obtain⟨j,bR,bT,_⟩:=bO;obtain⟨cw,cz,cA,cB,N,⟨a8,_,_⟩,_⟩:=id a2;rw[bH aK.p aK.i H.1 ap.range];refine(Hv N a8 j.same z am Ω aX).Y ?_;rintro _ bU _ ⟨bV,cC,bK,rfl,ba,cD⟩;obtain⟨bW,bX⟩:=bI.len ba;refine bE aK.i λgy cE cF bY bZ=>?_;refine b3 (vs:=bK) aK.i bW rfl bX bZ λau b0 cG b1=>?_;have bb:Ext bU au:=bY.put b0 Ω;have ax:=bV.F bb;have O:kY au gy (cY f).k (cY f).d6 q.1:=e3.box (gQ.s9 ba) bb b1;have b2:∀a∈aY,ig s a:=λa b4=>TN z (bC a b4);refine a6 (λv ay=>v= .bool sp/\Ext au ay) ?_ λaA az=>?_
 .rintro _ ay ⟨rfl,P⟩;rw[bc];have bd:Ext w ay:=bP.F (ax.F P);cases he:q.2 with
  |true=>
   obtain⟨i,hi,cH,aB⟩:=bR he;rw[m3 rfl,bm,ao];refine⟨λ_=>?_,λh=>m6 rfl h⟩;refine(O.W P).load λbf B=>?_;refine(HA B).Y ?_;rintro _ b5 _ ⟨S,b,rfl,aC⟩;rw[aC.2 ⟨i,by have:=j.ok.d9;omega,aB⟩];exact X _ (bd.F S)
  |false=>
   have bg:=bT he;rw[m5 Φ,bm,ao];refine⟨λh=>m6 h Φ,λ_=>?_⟩;refine a6 (λv I=>v= .bool s2/\Ext w I) (λv I h=>by rw[h.1];exact X _ h.2) λaA az=>?_;rw[bm,ao];refine⟨λ_=>?_,λh=>m6 rfl h⟩;refine(O.W P).load λbf B=>?_;refine(HA B).Y ?_;rintro _ b5 _ ⟨S,b,rfl,aC⟩;have b6:b=sp:=by
    cases b with
    |false=>rfl
    |true=>
     obtain⟨i,hi,aB⟩:=aC.1 rfl;obtain⟨x,J⟩:=aI (l:=q.1.d9) (i:=i) hi;have ac:=bg.1 i (by have:=j.ok.d9;omega) (by rw[u7];unfold dw;rw[J];simp[Ue (aU.F j.same) J]);exact m6 aB ac.1
   rw[b6,bN,X6,bS];refine(O.W (P.F S)).load λbf B=>?_;refine(VJ B j.ok (GP j.same am) (by have:=j.same.ho;omega)).Y ?_;rintro _ cI _ ⟨b7,cJ,rfl,b8⟩;rw[b8.2 bg];exact az _ _ ⟨rfl,(bd.F S).F b7⟩
 .intro cK bh _ _;have V:=ax.F bh;rw[bH aK.p aK.i H.1 (ap.W V).range];refine(Vm (N.W V) (a8.W V) j.same z am Ω aX aT j.gw (bq bQ V) b2 j.val).Y ?_;rintro _ b9 _ ⟨rfl,ca⟩;have aD:=bh.F ca;have W:=ax.F aD;obtain⟨_,_,_,_,_,_,cb,_⟩:=id O;obtain⟨_,_,_,_,cL,_,bi,_,_,_,_,_,cc,_⟩:kY b9 av (cY f).k (cY f).d6 s:=e3.box a2.ok.2 W (ap.W W);rw[bN,Y5,bc,aN aK.p 2 (cb.W aD) rfl,aN aK.p 2 bi rfl,aW,ao];refine⟨λh=>m6 h (by have:=j.zero;omega),λ_=>?_⟩;rw[aN aK.p 6 bi rfl,fE c7.u cc,r9];refine(p4 (N.dG.W W)).Y ?_;rintro _ cM _ ⟨rfl,aF⟩;refine⟨.inl aF,?_⟩;rw[j.same.ho,bM,ao];refine⟨λh=>m6 rfl h,λ_=>?_⟩;have aG:q.1.dC=[]:=by rw[j.same.dC,aV]
  refine(SX (N.dG.W (W.F aF)) (λe h=>by rw[aG]at h;cases h) (by rw[aG];exact X9 _)).Y ?_;rintro cN cO _ ⟨cd,cP,⟨E,ce,cf,_⟩,_⟩;rw[ek pt.u ce,bM,cf,aG];exact az _ _ ⟨rfl,(aD.F aF).F cd⟩
theorem VN{p:x4}{L:List nk}{w:x5}(ae:aQ .u8 w p pl)(e:∀b∈pl,0<=b/\b<256)(f:Seen eW w [a] L)(h:∀x∈L,(o2 x).ok)(j:fH w)(q:Laid w):
  aq x8 AY [p,a] w λv I=>v= .bool s2/\Ext w I:=VM (λI J=>⟨rfl,J⟩) ae e f h j q
end Go.Proofs.YtlcdcbgoaljiiaaGreatDoor
