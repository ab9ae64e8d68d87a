/- own texts, made small by a tool (wip/ holds them as they were written): no statement of the seat. -/
import Derived.Test.YtikkpokkcdocoaaGreatDoorXe
set_option linter.unusedVariables false
set_option linter.unusedSimpArgs false
set_option linter.unnecessarySimpa false
open Array renaming getElem?_eq_some_iff→n9
open Bool renaming not_true→Y6,not_false→W5,eq_iff_iff→U1,and_eq_true→U4,or_eq_false_iff→U5,true_and→T6
open Decidable renaming not_not→X3
open Go renaming Value→x1,World→x3,TypeId→r9,IntKind→o4,FuncId→Q1
open Go.Builtin renaming len_→V2
open Go.Instr renaming loadAt→u4,fieldAt→u5,storeAt→o6,indexAt→j5
open Go.IntKind renaming i64→X7,u64→T1
open Go.Proofs.Tryz renaming prog→x7
open Int renaming toNat_natCast→u6,eq_ofNat_of_zero_le→U7
open List renaming getElem?_eq_some_iff→x4,mem_of_getElem?→x5,getElem?_eq_getElem→x6,getElem?_map→x8,getD_eq_getElem?_getD→v8,take_add_one→u7,length_map→u9,length_append→r8,replicate→p9,take_length→o5,length_take→o7,mem_append→o9,mem_singleton→l7,mem_map→l9,take_of_length_le→j0,eq_nil_of_length_eq_zero→j4,length_cons→c9,getElem?_set_self→Z0,map_append→Z4,length_set→Z6,getElem?_eq_none→Y0,getElem?_append_left→Y1,getElem?_append_right→Y2,getElem?_set_ne→Y8,ext_getElem?→X2,mem_iff_getElem?→X5,drop_eq_getElem_cons→X8,flatMap_cons→W0,append_nil→W7,range→V0,length_eq_one_iff→V1,mem_cons→V3,mem_of_mem_take→V5,map_set→U6,length_singleton→U9,map_cons→T4,foldl_cons→T9,mem_filter→S4,length→R6,map_map→Q0,mem_range→Q3
open Nat renaming le_refl→p8,mul_le_mul_right→Y4,le_trans→Y5,zero_le→X4,zero_add→X6,mul_one→T0,lt_of_lt_of_le→T7,pow_le_pow_right→T8,add_sub_cancel_left→S3,add_assoc→S6,min_eq_left→R5,eq_zero_or_pos→Q4
open Option renaming toList_some→o8,isNone_some→j9,map_some→Z7,map_eq_some_iff→Y9,getD_some→V8,isSome_some→R2,isSome_none→R4
open Option.some renaming inj→Z2
open Prod.mk renaming injEq→S2
set_option maxHeartbeats 16000000
open Option renaming some→σ,none→ν
variable{c k pos v:Int}{B a ga gt gtb gy j l:Nat}{pl tl:Λ}{J U w w':x3}{D:Nat->Prop}
namespace Go.Proofs.YtikkpokkcdocoaaGreatDoor
open Go Go.Vc Go.RowKit Go.Proofs Go.Proofs.Tryz
set_option maxRecDepth 100000
def ol(ag t:Λ):Int:=(cB ag t 0).getD 0
def lq(s:am)(f:cL)(pos:Nat)(v:Int):Λ:=(ce s f.sc pos v).map (ol f.ag)
def kH(s:am)(sc:Λ)(pos:Nat)(v:Int)(t:Λ):Bool:=decide (t.getD pos 0=v)&&fg s sc t
section
variable{k:Int}{sizes:Λ}{s:am}{f:cL}{pos:Nat}{v:Int}
theorem Pz{sc t:Λ}:fg s sc t=true↔ ∀(p:Nat)u w,sc[p]?=σ u->t[p]?=σ w->w∈bB s u:=by
 unfold fg;rw[List.all_eq_true];constructor
 .intro h p u w hu hw;have:=h (u,w) (x5 (List.getElem?_zip_eq_some.2 ⟨hu,hw⟩));unfold bB;cases a:s.vars[u.toNat]? with
  |none=>simp[a]at this
  |some x=>simpa[a]using this
 .rintro h ⟨u,w⟩ hm;obtain⟨p,e⟩:=X5.1 hm;obtain⟨h1,f⟩:=List.getElem?_zip_eq_some.1 e;have:=h p u w h1 f;unfold bB at this;simp only;cases a:s.vars[u.toNat]? with
  |none=>rw[a]at this;cases this
  |some x=>rw[a]at this;simpa using this
theorem PA(q:bh k sizes s)(B:f∈s.funs)(C:pos<f.sc.length)(r:∀u,f.sc[pos]?=σ u->v∈bB s u):ce s f.sc pos v=(bg f.ag).filter (kH s f.sc pos v):=by
 obtain⟨x,y,_⟩:=q.funs f B;have j:=wV q (λu hu=>⟨(x.scope.1 u hu).1,x.vars u hu⟩) r;rw[<-y]at j;have h1:∀t∈bg f.ag,(mQ (oa s pos v f.sc 0) t=true↔t∈ce s f.sc pos v):=λt a=>by rw[j,S4];exact⟨λh=>⟨a,h⟩,λh=>h.2⟩
 rw[j];refine List.filter_congr λt a=>?_;have E:t.length=f.sc.length:=by rw[r1 a,y];simp[bV]
 rw[U1,h1 t a,w1,kH,U4,decide_eq_true_eq,Pz];constructor
 .rintro⟨_,h⟩;obtain⟨u,hu⟩:=aF (l:=f.sc) C;obtain⟨w,hw⟩:=aF (l:=t) (i:=pos) Ω;have z:=h pos u w hu hw;rw[if_pos rfl]at z;refine⟨by rw[v8,hw];exact z,λp u' w' A F=>?_⟩;have:=h p u' w' A F;split at this
  .rename_i e;subst e;rw[this];exact r u' A
  .exact this
 .rintro⟨h1,G⟩;refine⟨E,λp u w hu hw=>?_⟩;split
  .rename_i e;subst e;rw[v8,hw]at h1;exact h1
  .exact G p u w hu hw
end
section
variable{w:x3}{ec:x1}{k:Int}{sizes:Λ}{s:am}
theorem PB{j:Int}(h:h6 w ec k sizes s)(ab:bh k sizes s)(am:cr s):ai x7 HO [ec,Δ j,Δ pos,Δ v] w λr w'=>Ext w w'/\∃u,r= .tuple #[Δ u,.bool (er s j pos v).isSome]:=by
 have aH:=ab.vars;refine az func201 ?_;refine bj λg1 J aI H an=>?_;have ac:=h.box H an;obtain⟨szv,aJ,aK,aM,aN,aO,I,aP,_,ao,aS,aV,ad,aY⟩:=id ac;refine aT (λr U=>Ext J U/\((r= .bool true/\er s j pos v=ν)\/(r= .bool false/\∃f u,0<=j/\0<=pos/\s.funs[j.toNat]?=σ f/\f.live≠0/\f.sc[pos.toNat]?=σ u))) ?_ λax E=>?_
 .rintro _ U ⟨A,⟨rfl,z⟩|⟨rfl,f,u,K,ae,e,af,hu⟩⟩
  .rw[bL,z];exact⟨H.trans A,0,rfl⟩
  .rw[aU];have ag:=x5 e;have L:=x5 hu;obtain⟨ak,aZ,_⟩:=ab.funs f ag;have M:=(ak.scope.1 u L).1;have a1:=ak.vars u L;have M:0<=u:=M;obtain⟨x,N⟩:=aF (l:=s.vars) (i:=u.toNat) Ω;rw[aL aX.p 6 (I.ext A) rfl];refine lS (i:=j.toNat) Ω gh.u fz.i (bT ad A) (by rw[x8,e];rfl) λb o cs O Q=>?_;obtain⟨R,aq,v3,rfl,h1,au,av⟩:=ps Q;rw[aR fz.p rfl,aR a6.p rfl,aB (v:=R) Ψ (O 0 _ rfl),gl (y:=pos) (i:=pos.toNat) Ω ap.u ah.i Ψ (ew h1) hu,aL aX.p 3 (I.ext A) rfl];refine jm (α:=Λ) (a:=ay x) (i:=u.toNat) rfl Ω dn.u ap.i Ψ (bT ao A) (by rw[x8,N];rfl) λa2 aw=>?_;refine(wP (ew aw)).mono ?_;rintro _ a7 _ ⟨rfl,aA⟩;refine⟨(H.trans A).trans aA,u,?_⟩;have aC:=am f ag af u L x N;have S:er s j pos v=(dA s u v).map λx=>(f,u,x):=by
    unfold er;rw[if_pos ⟨K,ae⟩,e];simp only;rw[if_pos af,hu]
   have aD:dA s u v=if v∈ay x then σ x else ν:=by
    unfold dA;rw[if_pos M,N];simp only[aC,true_and]
   rw[S,aD];by_cases G:v∈ay x
   .rw[if_pos G,decide_eq_true G];rfl
   .rw[if_neg G,decide_eq_false G];rfl
 have V:∀{P:Prop},(¬∃f u,0<=j/\0<=pos/\s.funs[j.toNat]?=σ f/\f.live≠0/\f.sc[pos.toNat]?=σ u)->(er s j pos v=ν->P)->P:=λz aE=>aE (by
  cases S:er s j pos v with
  |none=>rfl
  |some q=>
   obtain⟨f,u,x⟩:=q;obtain⟨W,X,a3,a4,a5,_⟩:=mT S;exact absurd ⟨f,u,W,X,a3,a4,a5⟩ z)
 refine ac.load λu hu=>?_;refine(OU (j:=j) hu).mono ?_;rintro _ a8 _ ⟨rfl,B⟩;have same:∀{f Y:cL},s.funs[j.toNat]?=σ f->s.funs[j.toNat]?=σ Y->Y=f:=λa b=>by rw[a]at b;exact(Z2 b).symm
 rw[bC,b7];refine⟨λZ=>V (λ⟨f,u,W,X,a3,a4,a5⟩=>?_) λz=>E _ _ ⟨B,.inl ⟨rfl,z⟩⟩,λaa=>?_⟩
 .unfold gC at Z;rw[a3]at Z;simp[W,a4]at Z
 have aa:0<=j/\gC s j.toNat=true:=by simpa using aa
 obtain⟨K,C⟩:=aa;obtain⟨f,e,aG⟩:∃f,s.funs[j.toNat]?=σ f/\f.live≠0:=by
  unfold gC at C;cases e:s.funs[j.toNat]? with
  |none=>rw[e]at C;cases C
  |some f=>rw[e]at C;exact⟨f,rfl,by simpa using C⟩
 rw[aQ,aj];refine⟨λba=>V (λ⟨_,_,_,X,_⟩=>Ω) λz=>E _ _ ⟨B,.inl ⟨rfl,z⟩⟩,λae=>?_⟩;rw[aL aX.p 6 (I.ext B) rfl];refine lS (i:=j.toNat) Ω gh.u fz.i (bT ad B) (by rw[x8,e];rfl) λb o cs O Q=>?_;obtain⟨R,aq,v3,rfl,h1,au,av⟩:=ps Q;rw[aR fz.p rfl,aR a6.p rfl,aB (v:=R) Ψ (O 0 _ rfl),aW ap.u (ew h1),cI];by_cases al:(f.sc.length:Int)<=pos
 .refine V (λ⟨Y,u,_,_,a3,_,a5⟩=>?_) λz=>E _ _ ⟨B,.inl ⟨by rw[decide_eq_true al],z⟩⟩;obtain rfl:=same e a3;have:=(x4.1 a5).1;omega
 .obtain⟨u,hu⟩:=aF (l:=f.sc) (i:=pos.toNat) Ω;exact E _ _ ⟨B,.inr ⟨by rw[decide_eq_false al],f,u,K,Ω,e,aG,hu⟩⟩
theorem Eh{pos:Nat}{f:cL}(h:h6 w ec k sizes s)(M:bh k sizes s)(ae:s.funs[j]?=σ f)(aJ:pos<f.sc.length)(aN:∀u,f.sc[pos]?=σ u->v∈bB s u):
  ai x7 G5 [ec,Δ (j:Int),Δ (pos:Int),Δ v] w λr w'=>Ext w w'/\aH .i64 w' r (lq s f pos v)/\∀q,leads r q->w.heap.size<=q:=by
 have bA:=M.vars;have V:=x5 ae;obtain⟨N,af,_⟩:=M.funs f V;have O:=(ll M V).1;have aO:f.ag.length=f.sc.length:=by rw[af];simp[bV]
 have bC:=iI O;have bD:(bg f.ag).length<=4096:=by
  have P:aK (bV sizes f.sc)<=4096:=N.small;rw[<-af]at P;omega
 refine az func141 ?_;refine bj λg1 J bE W aQ=>?_;obtain⟨szv,bF,bG,bI,bJ,bK,aj,bL,_,aS,bM,bN,aU,bO⟩:=h.box W aQ;rw[aL aX.p 6 aj rfl];refine lS (i:=j) rfl gh.u fz.i aU (by rw[x8,ae];rfl) λb o cs G aV=>?_;obtain⟨X,Y,v3,rfl,h1,P,aY⟩:=ps aV;rw[aR fz.p rfl,bH (cs:=[X,Y,v3]) a6.p a6.i rfl (λq u z=>by
  have:q<3:=(x4.1 z).1
  match q,this,z with
  |0,_,z=>cases z;exact G 0 _ rfl
  |1,_,z=>cases z;exact G 1 _ rfl
  |2,_,z=>cases z;exact G 2 _ rfl)]
 refine bz a6.i λbP U bR aZ a1=>?_;have a2:∀u∈[X,Y,v3],u.oneCell'=true:=λu hu=>by
  simp only[V3,List.not_mem_nil,or_false]at hu;rcases hu with rfl|rfl|rfl
  .exact jk h1
  .exact jk P
  .exact jk aY
 refine b6 (vs:=[X,Y,v3]) a6.i rfl rfl a2 a1 λa7 a8 bS ak=>?_;have al:Ext J a7:=aZ.put a8 Ω;have s1:=ew h1;have ba:=ew P;rw[aL a6.p 1 ak rfl];refine(Ai f.ag (ba.ext al) ⟨by rw[aO];exact N.scope.2,O⟩).mono ?_;rintro bU H _ ⟨am,an⟩;have Z:=al.trans am;rw[jl dn.u an];refine cd.range (bg f.ag).length (λi out E=>Ext H E/\(∃g,aq .i64 ah E g out ((((bg f.ag).take i).filter (kH s f.sc pos v)).map (ol f.ag)))/\∀r,leads out r->H.heap.size<=r) Ω ⟨Ext.refl _,⟨0,aq.nil _ _ _ _⟩,λr G=>by obtain⟨_,_,_,e,_⟩:=G;cases e⟩ ?_ ?_
 .rintro q out E bb z ⟨A,⟨g,hm⟩,Q⟩ bc;have I:(bg f.ag)[q]?=σ (cJ f.ag (q:Int)):=oV O Ω;generalize cJ f.ag (q:Int)=tl at I;have bW:=u1 I;have bf:=jq O I;have bi:ol f.ag tl=(q:Int):=by unfold ol;rw[bf];rfl
  have R:=Z.trans A;have au:((bg f.ag).take (q+1)).filter (kH s f.sc pos v)=((bg f.ag).take q).filter (kH s f.sc pos v)++(if kH s f.sc pos v tl=true then[tl]else[]):=by
   rw[u7,I,o8,List.filter_append];congr 1;cases ao:kH s f.sc pos v tl<;>simp[ao]
  obtain⟨aa,av⟩:=aF (l:=tl) (i:=pos) Ω;refine bQ Ω ?_;refine aT (λaw aA=>Ext H aA/\(∃g,aq .i64 ah aA g aw ((((bg f.ag).take (q+1)).filter (kH s f.sc pos v)).map (ol f.ag)))/\∀r,leads aw r->H.heap.size<=r) (λ_ _ ab=>by rw[aP];exact bc _ _ ab) λax K=>?_;refine jm (α:=Λ) rfl rfl dn.u ap.i Ψ (bT an A) I λaM S=>?_;have S:=ew S;rw[be ap.u ah.i Ψ S av,bd,aL a6.p 0 (ak.ext (am.trans A)) rfl,aW ap.u (s1.ext R)];refine cd.range f.sc.length (λp ok ac=>Ext E ac/\ok= .bool (decide (aa=v)&&fg s (f.sc.take p) (tl.take p))) s1.le ⟨Ext.refl _,by simp[fg]⟩ ?_ ?_
  .rintro p _ ac bk bl ⟨B,rfl⟩ bm;obtain⟨u,ad⟩:=aF (l:=f.sc) bl;obtain⟨y,aB⟩:=aF (l:=tl) (i:=p) Ω;have aC:=x5 ad;have aD:=(N.scope.1 u aC).1;have aE:=N.vars u aC;have aE:u<sizes.length:=aE;have aD:0<=u:=aD;obtain⟨x,aG⟩:=aF (l:=s.vars) (i:=u.toNat) Ω;have aI:fg s (f.sc.take (p+1)) (tl.take (p+1))=(fg s (f.sc.take p) (tl.take p)&&decide (y∈ay x)):=by
    unfold fg;rw[u7,u7,ad,aB,o8,o8,List.zip_append Θ,List.all_append];simp[aG]
   refine bQ Ω ?_;refine aT (λok bn=>Ext E bn/\ok= .bool (decide (aa=v)&&fg s (f.sc.take (p+1)) (tl.take (p+1)))) (λ_ _ ab=>by rw[aP];exact bm _ _ ab) λax K=>?_;rw[be ap.u ah.i Ψ (s1.ext (R.trans B)) ad];intro bX bo _ _;have L:=B.trans bo;rw[b7];refine⟨λC=>?_,λC=>K _ _ ⟨L,by rw[aI,<-Bool.and_assoc,C];rfl⟩⟩;rw[aL aX.p 3 (aj.ext (R.trans L)) rfl];refine jm (α:=Λ) (a:=ay x) (i:=u.toNat) rfl Ω dn.u ap.i Ψ (bT aS (R.trans L)) (by rw[x8,aG];rfl) λbY bp=>?_;rw[be ap.u ah.i Ψ (S.ext L) aB];refine(wP (ew bp)).mono ?_;rintro _ bZ _ ⟨rfl,bq⟩;exact K _ _ ⟨L.trans bq,by rw[aI,<-Bool.and_assoc,C,T6]⟩
  .rintro _ ac bk ⟨B,rfl⟩;rw[o5,j0 Ω];refine cn Ω ?_;have br:(decide (aa=v)&&fg s f.sc tl)=kH s f.sc pos v tl:=by unfold kH;rw[v8,av];rfl
   rw[br,b7];refine⟨λC=>?_,λC=>K _ _ ⟨A.trans B,⟨g,by rw[au,if_neg (by rw[C];decide),W7];exact hm.ext B⟩,Q⟩⟩;refine Ee (w0:=H) (A.trans B) (hm.ext B) Q ?_ λb0 w' bt bu bw bx=>K _ _ ⟨bu,⟨bt,?_⟩,bx⟩
   .rw[u9];have h1:=List.length_filter_le (kH s f.sc pos v) ((bg f.ag).take q);rw[o7]at h1;omega
   .rw[au,if_pos C,Z4,List.map_singleton,bi];exact bw
 .rintro out E bb ⟨A,⟨g,hm⟩,Q⟩;rw[o5,<-PA M V aJ aN]at hm;refine cn Ω ?_;exact⟨(W.trans Z).trans A,hm.ls,λq z=>by have:=Q q z;have:=(W.trans Z).size;omega⟩
theorem PC{j:Int}(h:h6 w ec k sizes s)(e:bh k sizes s)(R:cr s):
  ai x7 G3 [ec,Δ j,Δ pos,Δ v] w λr w'=>Ext w w'/\r=(match er s j pos v with|some (f,_,_)=>.tuple #[Δ (l4 k s f pos.toNat v),.bool true]|none=>.tuple #[Δ 0,.bool false]):=by
 refine az func139 ?_;refine bj λg1 J ay z S=>?_;have H:=h.box z S;refine H.load λu hu=>?_;refine(PB hu e R).mono ?_;rintro _ U _ ⟨A,eW,rfl⟩;rw[br,bt,bC];cases V:er s j pos v with
 |none=>
  rw[R4,W5,bL];exact⟨z.trans A,rfl⟩
 |some q=>
 obtain⟨f,u',x⟩:=q;rw[R2,Y6,aU];obtain⟨W,X,y,aA,B,Y⟩:=mT V;obtain⟨aC,Z,aD,aa⟩:=jy Y;obtain⟨j,rfl⟩:=U7 W;obtain⟨pos,rfl⟩:=U7 X;rw[u6]at y B;have I:=x5 y;have ab:=(x4.1 B).1;have K:∀u,f.sc[pos]?=σ u->v∈bB s u:=λu hu=>by
  rw[B]at hu;cases hu;unfold bB;rw[Z];exact aa
 have L:=H.ext A;obtain⟨szv,aE,aG,aH,aI,aJ,M,aK,_,aN,aO,aQ,ac,aS⟩:=id L;rw[aL aX.p 0 M rfl];refine L.load λaT ad=>?_;refine(Eh ad e y ab K).mono ?_;rintro aM ae _ ⟨N,C,_⟩;rw[aW ap.u C];have O:(lq s f pos v).length=(ce s f.sc pos v).length:=by unfold lq;rw[u9]
 rw[O];refine cd.range (ce s f.sc pos v).length (λi af E=>Ext ae E/\af=Δ ((((ce s f.sc pos v).take i).map (bn f.ag f.cs)).foldl min k)) (by rw[<-O];exact C.le) ⟨Ext.refl _,rfl⟩ ?_ ?_
 .rintro i _ E aj hi ⟨a,rfl⟩ ak;obtain⟨tl,G⟩:=aF (l:=ce s f.sc pos v) hi;obtain⟨m,hm⟩:=tB e I K (x5 G);have am:(lq s f pos v)[i]?=σ (m:Int):=by
   unfold lq;rw[x8,G];unfold ol;rw[Z7,hm];rfl
  obtain⟨an,aV⟩:=ll e I;have aY:=(x4.1 (mD an hm)).1;obtain⟨c,P⟩:=aF (l:=f.cs) (i:=m) Ω;have ao:bn f.ag f.cs tl=c:=by
   unfold bn;rw[hm];simp[v8,P]
  have Q:=N.trans a;refine bQ Ω ?_;rw[be ap.u ah.i Ψ (C.ext a) am,aL aX.p 6 (M.ext Q) rfl];refine lS (i:=j) rfl gh.u fz.i (bT ac Q) (by rw[x8,y];rfl) λb o cs aq av=>?_;obtain⟨aZ,a1,v3,rfl,h1,a2,aw⟩:=ps av;rw[aR fz.p rfl,aR a6.p rfl,aB (v:=v3) Ψ (aq 2 _ rfl),be au.u al.i Ψ (ew aw) P];refine Db.mono ?_;rintro _ a7 _ ⟨rfl,ax⟩;rw[aP];refine ak _ _ ⟨a.trans ax,?_⟩;rw[u7,G,o8,Z4,List.foldl_append,List.map_singleton,ao];rfl
 .rintro _ E aj ⟨a,rfl⟩;rw[o5];refine cn Ω ?_;exact⟨(z.trans A).trans (N.trans a),rfl⟩
theorem tH{a b k:Int}(h1:0<=a/\a<=4294967296)(f:0<=b/\b<=4294967296):ai x7 G6 [Δ a,Δ b,Δ k] w λr w'=>r=Δ (da k a b)/\Ext w w':=by
 refine az func142 ?_;refine(show ai x7 HR [Δ a,Δ b,Δ k] w λr w'=>(∃q,r= .tuple #[Δ (da k a b),q])/\Ext w w' from ?_).mono ?_
 .refine az func204 ?_;unfold da;rw[bd,aj];refine⟨λh=>⟨⟨_,by rw[if_pos h]⟩,Ext.refl _⟩,λh=>?_⟩;rw[dD,wrap_i64 Ω Ω,mp,if_neg h];exact⟨⟨_,rfl⟩,Ext.refl _⟩
 .rintro _ J _ ⟨⟨q,rfl⟩,e⟩;rw[br,bt];exact⟨rfl,e⟩
end
def dr(w:x3)(ab ac ak:Nat)(A R:af)(A9:Nat->af)(aA:af)(n:aI)(s:am)(t:aw)(h:List aw)(u:am)(w':x3):Prop:=ae (λr=>(∃q,A9 q r)\/r=ak) w w'/\∃cg cs,ca w' ab ac ak A R cg aA n s u t h cs/\∀q r,cg q r->(∃a,A9 a r)\/w.heap.size<=r
section
variable{w w' J U:x3}{ab ac ak:Nat}{A R:af}{A9:Nat->af}{aA:af}{n:aI}{s u eV eW:am}{t:aw}{h:List aw}{cs:List x1}
theorem dr.same(p:ca w ab ac ak A R A9 aA n s u t h cs)(a:Ext w w'):dr w ab ac ak A R A9 aA n s t h u w':=⟨a.V _,A9,cs,p.ext a,λq r h=>.inl ⟨q,h⟩⟩
theorem dr.comp{cg:Nat->af}(e:ae (λr=>(∃q,A9 q r)\/r=ak) w J)(f:∀q r,cg q r->(∃a,A9 a r)\/w.heap.size<=r)(d:dr J ab ac ak A R cg aA n s t h eW U):dr w ab ac ak A R A9 aA n s t h eW U:=by
 obtain⟨p,x,b8,y,B⟩:=d;have z:=e.size;refine⟨?_,x,b8,y,λq r j=>(B q r j).elim (λ⟨a,h⟩=>f a r h) λh=>.inr Ω⟩;refine((e.mono λr _ h=>.inl h).trans (p.mono λr _ h=>?_):ae (λr=>((∃q,A9 q r)\/r=ak)\/w.heap.size<=r) w U).mono λr j h=>h.elim id λh=>Ω
 rcases h with⟨q,h⟩|h
 .exact (f q r h).imp .inl id
 .exact .inl (.inr h)
def jB(w:x3)(ab ac ak:Nat)(A R:af)(A9:Nat->af)(aA:af)(n:aI)(s:am)(t:aw)(h:List aw)(u:am)(w':x3):Prop:=ae (A9 2) w w'/\∃cg cs,ca w' ab ac ak A R cg aA n s u t h cs/\(∀q r,cg q r->(∃a,A9 a r)\/w.heap.size<=r)/\∀r,cg 2 r->A9 2 r\/w.heap.size<=r
theorem jB.Ei(d:jB w ab ac ak A R A9 aA n s t h u w'):dr w ab ac ak A R A9 aA n s t h u w':=by
 obtain⟨h1,cg,cs,a,e,_⟩:=d;exact⟨h1.mono λr _ h=>.inl ⟨2,h⟩,cg,cs,a,e⟩
theorem jB.same(p:ca w ab ac ak A R A9 aA n s u t h cs)(a:Ext w w'):jB w ab ac ak A R A9 aA n s t h u w':=⟨a.V _,A9,cs,p.ext a,λq r h=>.inl ⟨q,h⟩,λr h=>.inl h⟩
theorem jB.comp{cg:Nat->af}(f:ae (A9 2) w J)(p:∀q r,cg q r->(∃e,A9 e r)\/w.heap.size<=r)(j:∀r,cg 2 r->A9 2 r\/w.heap.size<=r)(d:jB J ab ac ak A R cg aA n s t h eW U):jB w ab ac ak A R A9 aA n s t h eW U:=by
 obtain⟨x,y,b8,B,C,E⟩:=d;have z:=f.size;refine⟨?_,y,b8,B,λq r a=>(C q r a).elim (λ⟨e,h⟩=>p e r h) λh=>.inr Ω,λr a=>(E r a).elim (j r) λh=>.inr Ω⟩;exact((f.mono λr _ h=>.inl h).trans (x.mono λr _ h=>j r h):ae (λr=>A9 2 r\/w.heap.size<=r) w U).mono λr a h=>h.elim id λh=>Ω
theorem ca.PD{T:af}{v:x1}{u':am}(p:ca w ab ac ak A R A9 aA n s u t h cs)(z:∀q r,A9 q r->r<w.heap.size)(C:cs[5]?=σ v)(e:ae T w w')(f:∀r,r<w.heap.size->T r->A9 2 r)(E:bD (λr=>A9 2 r\/w.heap.size<=r) aA w' [v] (u'.vars.map (·.un)))(F:u'.zero=u.zero)(G:u'.vars.map ay=u.vars.map ay)(H:(u'.vars.map λx=>decide (x.gone≠0))=u.vars.map λx=>decide (x.gone≠0))(I:u'.funs=u.funs)(J:u'.c5=u.c5):
  ∃cg,ca w' ab ac ak A R cg aA n s u' t h cs/\(∀q r,cg q r->(∃K,A9 K r)\/w.heap.size<=r)/\∀r,cg 2 r->A9 2 r\/w.heap.size<=r:=by
 have L:=b9.kD p.doc (w7 e) (λr a=>.inl (f r a.2 a.1)) E (λj r M a=>?_) (λr a=>?_)
 .have y:=w8 (w:=w) (A9:=A9) (q:=2) (B:=λr=>A9 2 r\/w.heap.size<=r) λr h=>h;refine⟨_,p.row e f ?_ y,y,λr a=>a⟩;have:=b9.qa C L;unfold iw;rw[F,G,H,I,J];exact this
 .rcases a with a|a
  .exact p.gI.1 2 j r (Ne.symm M) a
  .exact λh=>by have:=z j r h;omega
 .rcases a with a|a
  .exact p.gI.2 2 r a
  .exact λh=>by have:=(p.read r h).2.1;omega
theorem xk(p:ca w ab ac ak A R A9 aA n s u t h cs){i:Nat}{x:bq}(B:u.vars[i]?=σ x):∃g cap y,cs[5]?=σ (.slice (σ ⟨g,0,ν⟩) u.vars.length cap)/\w.cell? ⟨g,i,ν⟩=σ y/\aH .i64 w y x.un/\
  ∀{w':x3}{v:Nat}{c:Int}{K:Unit->x3->Prop},Ext w w'->v<x.un.length->(∀H,jB w ab ac ak A R A9 aA n s t h (eH u i x (x.un.set v c)) H->K () H)->
   aa x7 (j5 au y (Δ (v:Int))) w' λa=>aC x7 (o6 al a (Δ c)) w' K:=by
 have I:=p.olds;obtain⟨szv,aj,am,ao,ap,aq,J,_,_,_,L,_,_,C⟩:=id I.doc;obtain⟨g,cap,c,av,e,Q,M,aw,_⟩:=tA (i:=i) (a:=x.un) L (by rw[x8,B];rfl) λr _ h=>(C rfl).2 2 r h;obtain⟨y,rfl⟩:=V1.1 (an.len M);have N:w.cell? ⟨g,i,ν⟩=σ y:=by
  have:=Q 0 y rfl;simpa[show an.n (Λ)=1 from rfl]using this
 rw[u9]at e;refine⟨g,cap,y,by rw[J,<-e];rfl,N,ew (jM M),λ{w' v c K}j S U=>?_⟩;have W:=I.ext j;have z:=j.size;obtain⟨ax,az,aB,aD,O,X,P,E,Y⟩:=tA (i:=i) (a:=x.un) (bT L j) (by rw[x8,B];rfl) λr _ h=>(C rfl).2 2 r h;obtain⟨F,rfl⟩:=V1.1 (an.len P);rw[u9,e]at O;cases O;have Z:F=y:=by
  have h1:=X 0 F rfl;have h1:w'.cell? ⟨g,i,ν⟩=σ F:=by simpa[show an.n (Λ)=1 from rfl]using h1
  rw[iE j N]at h1;exact(Z2 h1).symm
 subst Z;refine DR (α:=Int) (i:=v) (A:=λ_=>False) rfl rfl au.u al.i P S rfl rfl (λr _ f=>⟨λh=>h,(C rfl).2 2 r (E r f)⟩) λaE G ad=>?_;have ae:=Y G (λr _ h=>h) ad λr f=>f.elim .inl False.elim;obtain⟨cg,af,ag,ah⟩:=W.PD (u':=eH u i x (x.un.set v c)) (λq r h=>by have:=h.2;omega) (by rw[J];rfl) G (λr _ h=>E r h) (by show bD _ _ _ _ ((u.vars.set i {x with un:=x.un.set v c}).map (·.un));rw[U6];exact ae) rfl (pt B (by unfold ay;simp)) (pt B rfl) rfl rfl;refine U _ ⟨(j.V _).trans (G.mono λr _ h=>(E r h).1),cg,cs,af,λq r f=>?_,λr f=>?_⟩
 .rcases ag q r f with⟨ai,h⟩|h
  .exact .inl ⟨ai,h.1⟩
  .exact .inr Ω
 .exact (ah r f).imp (λh=>h.1) λh=>Ω
theorem PE(p:ca w ab ac ak A R A9 aA n s u t h cs){f:cL}(N:u.funs[j]?=σ f):∃g cap x E y,cs[6]?=σ (.slice (σ ⟨g,0,ν⟩) u.funs.length cap)/\w.rangeAt g (j*4) [x,E,y,.bool (decide (f.live≠0))]/\aH .i64 w x f.sc/\aH .i64 w y f.cs/\
  ∀{w':x3}{m:Nat}{c:Int}{K:Unit->x3->Prop},Ext w w'->m<f.cs.length->(∀O,dr w ab ac ak A R A9 aA n s t h (dN u j f (f.cs.set m c)) O->K () O)->
   aa x7 (j5 au y (Δ (m:Int))) w' λa=>aC x7 (o6 al a (Δ c)) w' K:=by
 have P:=p.olds;obtain⟨szv,az,aB,aD,aE,aF,Q,_,_,_,_,S,_,F⟩:=id P.doc;obtain⟨g,cap,c,aG,e,G,W,aI,_⟩:=tA (i:=j) (a:=iv f) S (by rw[x8,N];rfl) λr _ h=>(F rfl).2 3 r h;have X:=ps W;obtain⟨x,E,y,rfl,Y,aJ,Z⟩:=X;rw[u9]at e;have G:w.rangeAt g (j*4) [x,E,y,.bool (decide (f.live≠0))]:=G;refine⟨g,cap,x,E,y,by rw[Q,<-e];rfl,G,ew Y,ew Z,λ{w' m c K}B hm ad=>?_⟩;have ae:=P.ext B;have z:=B.size;obtain⟨aK,aL,aM,aN,U,L,af,H,ag⟩:=tA (i:=j) (a:=iv f) (bT S B) (by rw[x8,N];rfl) λr _ h=>(F rfl).2 3 r h;rw[u9,e]at U;cases U;obtain⟨ah,ai,M,aO,rfl,aj,I,am⟩:=O1 af λr h=>(F rfl).2 3 r (H r h);have L:w'.rangeAt g (j*4) [ah,ai,M,.bool (decide (f.live≠0))]:=L;have ao:M=y:=by
  have h1:=L 2 M rfl;rw[(ns B G) 2 y rfl]at h1;exact(Z2 h1).symm
 subst ao;refine DR (α:=Int) (i:=m) (A:=λ_=>False) rfl rfl au.u al.i aj hm rfl rfl (λr _ C=>⟨λh=>h,(F rfl).2 3 r (H r (I r C))⟩) λaP J ap=>?_;have aq:=am J (an.mono ap (λr _ h=>h.elim id False.elim) λ_ _ h=>h);have av:=ag J (λr _ h=>I r h) aq λr C=>.inl C;obtain⟨cg,aw,ax⟩:=ae.OZ (u':=dN u j f (f.cs.set m c)) (λq r h=>by have:=h.2;omega) (by rw[Q];rfl) J (λr _ h=>H r (I r h)) (by show bD _ _ _ _ ((u.funs.set j {f with cs:=f.cs.set m c}).map iv);rw[U6];exact av) rfl rfl rfl;refine ad _ ⟨(B.V _).trans (J.mono λr _ h=>.inl ⟨3,(H r (I r h)).1⟩),cg,cs,aw,λq r C=>?_⟩;rcases ax q r C with⟨ay,h⟩|h
 .exact .inl ⟨ay,h.1⟩
 .exact .inr Ω
theorem PF(p:ca w ab ac ak A R A9 aA n s u t h cs){K:Unit->x3->Prop}(f:∀e,dr w ab ac ak A R A9 aA n s t h {u with zero:=c} e->K () e):aC x7 (o6 al (.pointer (σ ⟨ak,0+2,ν⟩)) (Δ c)) w K:=by
 refine bk (o:=0+2) al.i rfl rfl p.box (by rw[p.doc.len.1];omega) λU a x j=>?_;refine f _ ⟨a.mono λr _ h=>.inr h,A9,_,p.DV a (λr _ h=>.inr h) j ?_ λq r h=>.inl ⟨q,h⟩,λq r h=>.inl ⟨q,h⟩⟩;exact(b9.V p.doc a λr _ h he=>h.elim (λ⟨q,h⟩=>(p.apart q r h).2.2 he) λh=>(p.read r h).2.2 he).OM
theorem PG(p:ca w ab ac ak A R A9 aA n s u t h cs){i:Nat}{x:bq}(B:u.vars[i]?=σ x):∃g cap y,cs[3]?=σ (.slice (σ ⟨g,0,ν⟩) u.vars.length cap)/\w.cell? ⟨g,i,ν⟩=σ y/\aH .i64 w y (ay x)/\(∀r,leads y r->A9 0 r)/\
  ∀{w':x3}{m:Int}{z:x1}{gz:Nat}{K:Unit->x3->Prop},Ext w w'->aq .i64 ah w' gz z (ay {x with mask:=m})->(∀r,leads z r->w.heap.size<=r)->(∀I,dr w ab ac ak A R A9 aA n s t h {u with vars:=u.vars.set i {x with mask:=m}} I->K () I)->
   aa x7 (j5 dn (.slice (σ ⟨g,0,ν⟩) u.vars.length cap) (Δ (i:Int))) w' λa=>aC x7 (o6 ap a z) w' K:=by
 have J:=p.olds;have X:=(x4.1 B).1;obtain⟨szv,Y,aF,aG,aI,aJ,L,_,Z,_,_,_,_,af⟩:=id J.doc;obtain⟨g,cap,full,ag,c,aK,e,C,ai,E,M,F,aj,aL,al⟩:=DW (i:=i) (a:=ay x) Z (by rw[x8,B];rfl) λr _ h=>(af rfl).2 0 r h;obtain⟨y,rfl⟩:=V1.1 (an.len F);rw[u9]at e;have am:full[i]?=σ y:=by have:=M 0 y rfl;simpa[show an.n (Λ)=1 from rfl]using this
 refine⟨g,cap,y,by rw[L,<-e];rfl,by have:=C.cell (o:=i) am;exact this,ew (jM F),λr f=>?_,λ{w' m N gz K}G O P ao=>?_⟩
 .obtain⟨aM,aN,au,av⟩:=zA F;rcases av with rfl|aw
  .obtain⟨_,_,_,e,_⟩:=f;cases e
  .obtain⟨e,_⟩:=bO au f;rw[e];exact(aj _ aw).1
 have z:=G.size;have E:i*1+1<=full.length:=E;rw[e3 dn.u ap.i X λ_=>rfl];obtain⟨_,_,_,Q⟩:=dg O.ls;refine bk (o:=0+i*1) ap.i (by rw[Q];rfl) (by rw[Q];rfl) (C.ext G) Ω λS U aO j=>?_;have j:ad S g ag (over full (i*1) [N]):=by
  have e:=DX (full:=full) (c:=[y]) (o:=i*1) (q:=0) (x:=N) M E Ξ;rw[X6]at j;rw[Nat.add_zero]at e;rw[e]at j;exact j
 have aP:g<w.heap.size:=C.lt;have H:ae (λr=>r=g) w S:=(G.V _).trans U;have ax:=bo O U λr f he=>by have he:r=g:=he;have:=P r f;omega
 have az:=al H (λr _ h=>.inr h) j (mS (R:=aA) ax) λr f=>.inr (P r f);have W:∀r,r<w.heap.size->r=g->A9 0 r/\r<w.heap.size:=λr f h=>by rw[h];exact ai
 obtain⟨cg,aB,aD⟩:=J.oe (u':={u with vars:=u.vars.set i {x with mask:=m}}) (λq r h=>h.2) (v:=Y) (by rw[L];rfl) H W (by show bD _ _ _ _ ((u.vars.set i {x with mask:=m}).map ay);rw[U6];exact az) rfl (pt B rfl) (pt B rfl) rfl rfl;refine ao _ ⟨H.mono λr f h=>.inl ⟨0,(W r f h).1⟩,cg,cs,aB,λq r f=>?_⟩;rcases aD q r f with⟨aE,h⟩|h
 .exact .inl ⟨aE,h.1⟩
 .exact .inr h
end
def fM(s:am)(sc:Λ)(pos:Int)(v:Int):Nat->Nat->Λ->List (Λ)
 |0,_,tl=>[tl]
 |m+1,p,tl=>if(p:Int)=pos then fM s sc pos v m (p+1) (tl.set p v)else(bB s (sc.getD p 0)).flatMap λx=>fM s sc pos v m (p+1) (tl.set p x)
theorem tI{α:Type}{l:List α}{p:Nat}{x:α}(h:p<l.length):(l.set p x).take (p+1)=l.take p++[x]:=by
 rw[u7,Z0 h,List.take_set_of_le (p8 _)];rfl
theorem q9{s:am}{sc:Λ}{pos:Nat}{v:Int}:∀(m p:Nat)(tl:Λ),sc.length=p+m->tl.length=sc.length->fM s sc pos v m p tl=(iu (jv s pos v (sc.drop p) p)).map (tl.take p++ ·)
 |0,p,tl,h1,a=>by
  rw[List.drop_eq_nil_of_le Ω,j0 Ω];unfold fM jv iu;rw[List.map_singleton,W7]
 |m+1,p,tl,h1,a=>by
  have e:p<sc.length:=Ω
  obtain⟨u,hu⟩:=aF (l:=sc) e;have h:sc.drop p=u::sc.drop (p+1):=by rw[X8 e,(x4.1 hu).2]
  have j:sc.getD p 0=u:=by rw[v8,hu];rfl
  rw[h];unfold fM jv;rw[iu];by_cases f:p=pos
  .rw[if_pos Ω,if_pos f,List.flatMap_singleton,q9 m (p+1) (tl.set p v) Ω (by rw[Z6];exact a),Q0,tI Ω];refine List.map_congr_left λr _=>?_;simp
  .rw[if_neg Ω,if_neg f,j,List.map_flatMap];congr 1;funext x;rw[q9 m (p+1) (tl.set p x) Ω (by rw[Z6];exact a),Q0,tI Ω];refine List.map_congr_left λr _=>?_;simp
theorem PH{s:am}{sc:Λ}{pos:Nat}{m p:Nat}{a:Λ}(h1:sc.length=p+m)(e:tl.length=sc.length)(f:a.length=sc.length)(h:a.take p=tl.take p):fM s sc pos v m p a=fM s sc pos v m p tl:=by
 rw[q9 m p tl h1 e,q9 m p a h1 f,h]
theorem PI{s:am}{sc:Λ}{pos:Nat}(h:tl.length=sc.length):fM s sc pos v sc.length 0 tl=ce s sc pos v:=by
 rw[q9 sc.length 0 tl Ω h];unfold ce;simp
def mX(w:x3)(ab gs bF bm aZ:Nat)(aN:x1)(pos v:Int):Prop:=ad w gs de [Γ ab]/\ad w bF ap [aN]/\ad w bm ah [Δ pos]/\ad w aZ ah [Δ v]
theorem mX.V{S:af}{ab gs bF bm aZ:Nat}{aN:x1}(h:mX w ab gs bF bm aZ aN pos v)(a:ae S w w')(e:¬S gs/\¬S bF/\¬S bm/\¬S aZ):mX w' ab gs bF bm aZ aN pos v:=
 ⟨h.1.V a e.1,h.2.1.V a e.2.1,h.2.2.1.V a e.2.2.1,h.2.2.2.V a e.2.2.2⟩
theorem mX.ext{ab gs bF bm aZ:Nat}{aN:x1}(h:mX w ab gs bF bm aZ aN pos v)(a:Ext w w'):mX w' ab gs bF bm aZ aN pos v:=h.V (a.V λ_=>False) ⟨id,id,id,id⟩
def gd(ab ac:Nat)(R:af)(n:aI)(s:am)(gs bF bm aZ:Nat)(aN:x1)(sc:Λ)(pos v:Int)(B0:Nat)(D:Nat->Prop)(w:x3):Prop:=
 mX w ab gs bF bm aZ aN pos v/\(gs<B0/\bF<B0/\bm<B0/\aZ<B0)/\aH .i64 w aN sc/\(∀r,leads aN r->r<B0)/\(Laid w/\B0<=w.heap.size)/\∃A s' bi,bp w ab ac A R n s' bi/\(∀i,bB s' i=bB s i)/\∀r,A r\/R r->r<B0\/D r
section
variable{ab ac gs bF bm aZ B0:Nat}{R:af}{n:aI}{s:am}{aN:x1}{sc:Λ}{pos v:Int}
theorem gd.ext(h:gd ab ac R n s gs bF bm aZ aN sc pos v B0 D w)(a:Ext w w'):gd ab ac R n s gs bF bm aZ aN sc pos v B0 D w':=by
 obtain⟨h1,f,j,p,e,A,s',bi,q,r,x⟩:=h;exact⟨h1.ext a,f,j.ext a,p,⟨e.1.ext a,Y5 e.2 a.size⟩,A,s',bi,q.ext a,r,x⟩
def j1(w:x3)(l gy gt gtb ga:Nat)(ho:Array x1)(q:Nat)(tl:Λ):Prop:=ad w gy zh [.func (.yield l) #[] #[]]/\ad w gtb ap [.slice (σ ⟨gt,0,ν⟩) q q]/\ad w ga oG [.func (.func lJ) #[] ho]/\
 aq .i64 ah w gt (.slice (σ ⟨gt,0,ν⟩) q q) tl
theorem j1.V{S:af}{q:Nat}{ho:Array x1}(h:j1 w l gy gt gtb ga ho q tl)(f:ae S w w')(j:¬S gy/\¬S gtb/\¬S ga/\¬S gt):j1 w' l gy gt gtb ga ho q tl:=
 ⟨h.1.V f j.1,h.2.1.V f j.2.1,h.2.2.1.V f j.2.2.1,bo h.2.2.2 f λr p=>by
  obtain⟨a,_,_,e,s⟩:=p;cases e;rw[<-s];exact j.2.2.2⟩
theorem j1.ext{q:Nat}{ho:Array x1}(h:j1 w l gy gt gtb ga ho q tl)(a:Ext w w'):j1 w' l gy gt gtb ga ho q tl:=h.V (a.V λ_=>False) ⟨id,id,id,id⟩
theorem PJ(I:aH .i64 w aN sc):ai x7 za [Γ ab,aN,Δ pos,Δ v] w λr w'=>Ext w w'/\∃gs bF bm aZ,r= .func (.func lI) #[] #[Γ bF,Γ bm,Γ aZ,Γ gs]/\mX w' ab gs bF bm aZ aN pos v/\w.heap.size<=gs/\w.heap.size<=bF/\w.heap.size<=bm/\w.heap.size<=aZ:=by
 obtain⟨_,_,_,x⟩:=dg I;refine az func206 ?_;refine bj λgs J z s h=>?_;refine bj λbF U A j a=>?_;refine bj λbm B C e p=>?_;refine bj λaZ q E f y=>?_;have h:ad q gs de [Γ ab]:=((ad.ext h j).ext e).ext f;have a:ad q bF ap [aN]:=by rw[x]at a ⊢;exact(ad.ext a e).ext f
 have p:ad q bm ah [Δ pos]:=ad.ext p f;rw[ki];have G:=s.size;have H:=j.size;have z3:=e.size;exact⟨((s.trans j).trans e).trans f,gs,bF,bm,aZ,rfl,⟨h,a,p,y⟩,Ω,Ω,Ω,Ω⟩
theorem gd.own{S:af}(h:gd ab ac R n s gs bF bm aZ aN sc pos v B0 D w)(j:ae S w w')(q:∀r,S r->B0<=r/\¬D r):gd ab ac R n s gs bF bm aZ aN sc pos v B0 D w':=by
 obtain⟨h1,f,C,x,y,A,s',bi,z,E,B⟩:=h;have no:∀{r:Nat},r<B0->¬S r:=λh1 f=>by have:=(q _ f).1;omega
 refine⟨h1.V j ⟨no f.1,no f.2.1,no f.2.2.1,no f.2.2.2⟩,f,hX C j λr p a n c e F=>?_,x,⟨?_,Y5 y.2 j.size⟩,A,s',bi,⟨z.1.V j λr _ p I=>?_,z.2⟩,E,B⟩
 .exact no (x r ⟨a,n,c,e,F⟩) p
 .exact hx j (no Ω) y.1
 .exact (B r p).elim (λh=>no h I) (q r I).2
def PK(P:(Nat->Prop)->x3->Prop)(ax:(Nat->Prop)->Nat->x3->Prop)(L:List (Λ))(l B:Nat):Prop:=∀(D:Nat->Prop)(k:Nat)tl aM w',(∀r,D r->B<=r/\r<w'.heap.size)->B<=w'.heap.size->P D w'->L[k]?=σ tl->aH .i64 w' aM tl->ax D k w'->
 hQ x7 l [aM] w' λu a=>u= .bool true/\(∃D',(∀r,D' r->D r\/w'.heap.size<=r/\r<a.heap.size)/\(∀r,D r->D' r)/\P D' a/\ax D' (k+1) a)/\cF w' a/\w'.heap.size<=a.heap.size/\ae (λr=>r<B\/D r) w' a
def ra(D:Nat->Prop)(B gy gtb ga gt:Nat):Prop:=(B<=gy/\¬D gy)/\(B<=gtb/\¬D gtb)/\(B<=ga/\¬D ga)/\B<=gt/\¬D gt
theorem ra.go{D':Nat->Prop}{m bU:Nat}(h:ra D B gy gtb ga gt)(a:∀r,D' r->D r\/m<=r/\r<bU)(hm:gy<m/\gtb<m/\ga<m/\gt<m):ra D' B gy gtb ga gt:=
 have f:∀{g:Nat},g<m->¬D g->¬D' g:=λh1 e j=>(a _ j).elim e λh=>Ω
 ⟨⟨h.1.1,f hm.1 h.1.2⟩,⟨h.2.1.1,f hm.2.1 h.2.1.2⟩,⟨h.2.2.1.1,f hm.2.2.1 h.2.2.1.2⟩,h.2.2.2.1,f hm.2.2.2 h.2.2.2.2⟩
theorem j1.lt{q:Nat}{ho:Array x1}(h:j1 w l gy gt gtb ga ho q tl):gy<w.heap.size/\gtb<w.heap.size/\ga<w.heap.size/\gt<w.heap.size:=
 ⟨h.1.lt,h.2.1.lt,h.2.2.1.lt,(bO h.2.2.2 ⟨_,_,_,rfl,rfl⟩).2⟩
def AtR(l gy gt gtb ga:Nat)(ho:Array x1)(P:(Nat->Prop)->x3->Prop)(ax:(Nat->Prop)->Nat->x3->Prop)(S:af)(D:Nat->Prop)(w:x3)(sl k p:Nat)(tl:Λ)(w':x3):Prop:=
 w.heap.size<=w'.heap.size/\∃D' a,a.length=sl/\a.take p=tl.take p/\j1 w' l gy gt gtb ga ho sl a/\((∀r,D' r->D r\/w.heap.size<=r/\r<w'.heap.size)/\∀r,D r->D' r)/\P D' w'/\ax D' k w'/\ae S w w'
section
variable{l gy gt gtb ga B:Nat}{ho:Array x1}{P:(Nat->Prop)->x3->Prop}{ax:(Nat->Prop)->Nat->x3->Prop}{S T:af}{D:Nat->Prop}{w J U:x3}{sl k p:Nat}{tl:Λ}
theorem AtR.own(s:∀D T J U,ae T J U->(∀r,T r->B<=r/\¬D r)->P D J->P D U)(x:∀D k J U,ae (λr=>B<=r/\¬D r) J U->fx B J U->ax D k J->ax D k U)(h:AtR l gy gt gtb ga ho P ax S D w sl k p tl J)(e:ae T J U)(y:fx B J U)(a:∀r,T r->r<w.heap.size/\¬D r/\B<=r/\S r/\r≠gy/\r≠gtb/\r≠ga/\r≠gt):AtR l gy gt gtb ga ho P ax S D w sl k p tl U:=by
 obtain⟨z,D',A,h1,C,E,⟨j,F⟩,G,H,I⟩:=h;have q:∀r,T r->B<=r/\¬D' r:=λr f=>⟨(a r f).2.2.1,λK=>(j r K).elim (a r f).2.1 λh=>by have:=(a r f).1;omega⟩;exact⟨Y5 z e.size,D',A,h1,C,E.V e ⟨λh=>(a _ h).2.2.2.2.1 rfl,λh=>(a _ h).2.2.2.2.2.1 rfl,λh=>(a _ h).2.2.2.2.2.2.1 rfl,λh=>(a _ h).2.2.2.2.2.2.2 rfl⟩,
  ⟨λr f=>(j r f).imp id λh=>⟨h.1,T7 h.2 e.size⟩,F⟩,s D' T J U e q G,x D' k J U (e.mono λr _ h=>q r h) y H,I.trans (e.mono λr _ h=>(a r h).2.2.2.1)⟩
theorem AtR.base{w0:x3}(h:AtR l gy gt gtb ga ho P ax S D w sl k p tl J)(a:Ext w0 w)(e:∀r,r<w0.heap.size->S r->T r):AtR l gy gt gtb ga ho P ax T D w0 sl k p tl J:=by
 obtain⟨f,D',j,h1,q,s,⟨x,y⟩,z,A,B⟩:=h;exact⟨Y5 a.size f,D',j,h1,q,s,⟨λr C=>(x r C).imp id λh=>⟨Y5 a.size h.1,h.2⟩,y⟩,z,A,((a.V S).trans B).mono e⟩
theorem AtR.comp{a:Nat->Prop}{j:Λ}{x:Int}(f:∀r,r<B\/D r\/r=gt->S r)(q:∀r,a r->D r\/w.heap.size<=r/\r<J.heap.size)(y:∀r,D r->a r)(s:ae S w J)(z:j.take p=tl.take p)(h:AtR l gy gt gtb ga ho P ax (λr=>r<B\/a r\/r=gt) a J sl k (p+1) (j.set p x) U):AtR l gy gt gtb ga ho P ax S D w sl k p tl U:=by
 obtain⟨A,D',C,h1,E,F,⟨G,H⟩,K,L,M⟩:=h;have I:=s.size;refine⟨Y5 I A,D',C,h1,?_,F,⟨λr e=>?_,λr e=>H r (y r e)⟩,K,L,?_⟩
 .have:=congrArg (List.take p) E;rw[List.take_take,List.take_take,R5 Ω,List.take_set_of_le (p8 _)]at this;rw[this,z]
 .rcases G r e with h|h
  .exact (q r h).imp id λh=>⟨h.1,Ω⟩
  .exact .inr ⟨Ω,h.2⟩
 .refine ((s.mono λr _ h=>.inl h).trans (M.mono λr _ h=>?_):ae (λr=>S r\/w.heap.size<=r) w U).mono λr e h=>h.elim id λh=>Ω
  rcases h with h|h|h
  .exact .inl (f r (.inl h))
  .exact (q r h).elim (λh=>.inl (f r (.inr (.inl h)))) λh=>.inr h.1
  .exact .inl (f r (.inr (.inr h)))
end
theorem PL{α β:Type}{l:List α}{a:α->List β}{i:Nat}{y:α}{z:β}(h:l[j]?=σ y)(hi:(a y)[i]?=σ z):(l.flatMap a)[((l.take j).flatMap a).length+i]?=σ z:=by
 have f:=(x4.1 h).1;have e:l=l.take j++y::l.drop (j+1):=by
  conv=>lhs;rw[<-List.take_append_drop j l,X8 f,(x4.1 h).2]
 conv=>lhs;rw[e,List.flatMap_append,W0]
 have p:=(x4.1 hi).1;have el:((l.take j++y::l.drop (j+1)).take j)=l.take j:=by rw[List.take_append_of_le_length (by rw[o7];omega),List.take_take,Nat.min_self]
 rw[el,Y2 Ω,S3,Y1 p];exact hi
theorem PM{t:r9}{b o:Nat}{x:x1}{K:x1->Prop}(a:jL x7 t=true)(h:w.cell? ⟨b,o,ν⟩=σ x):aa x7 (do loadVar t (<-asAddr (.pointer (σ ⟨b,o,ν⟩)))) w K=K x:=aa.of λw' e=>by
 have h':=iE e h;unfold jL at a;cases hu:x7.underlying t with
 |none=>rw[hu]at a;cases a
 |some d=>
  rw[hu]at a;cases d<;>first|(cases a;done)|simp[asAddr,loadVar,isAgg,run_underlying hu,h']
def j2(bF gy gtb bm aZ ga gs:Nat):Array x1:=#[Γ bF,Γ gy,Γ gtb,Γ bm,Γ aZ,Γ ga,Γ gs]
def tJ(p:Nat)(bF gy gtb bm aZ ga gs:Nat):List x1:=[Δ (p:Int),Γ bF,Γ gy,Γ gtb,Γ bm,Γ aZ,Γ ga,Γ gs]
theorem PN{L:List (Λ)}{ax:(Nat->Prop)->Nat->x3->Prop}(bY:0<=pos)(bZ:∀u∈sc,0<=u/\u<n.sizes.length)(c4:sc.length<=6)(b0:B0<=B)(ag:gt≠gy/\gt≠gtb/\gt≠ga)(Q:∀D k J U,ae (λr=>B<=r/\¬D r) J U->fx B J U->ax D k J->ax D k U)(b1:PK (gd ab ac R n s gs bF bm aZ aN sc pos v B0) ax L l B):
  ∀(q p:Nat)(tl:Λ)(k:Nat)(D:Nat->Prop)(w:x3),sc.length=p+q->tl.length=sc.length->(∀r,D r->B<=r/\r<w.heap.size)->B<=w.heap.size->ra D B gy gtb ga gt->j1 w l gy gt gtb ga (j2 bF gy gtb bm aZ ga gs) sc.length tl->gd ab ac R n s gs bF bm aZ aN sc pos v B0 D w->ax D k w->
   (∀i x,(fM s sc pos v q p tl)[i]?=σ x->L[k+i]?=σ x)->
   ai x7 lJ (tJ p bF gy gtb bm aZ ga gs) w λr w'=>r= .bool true/\AtR l gy gt gtb ga (j2 bF gy gtb bm aZ ga gs) (gd ab ac R n s gs bF bm aZ aN sc pos v B0) ax (λr=>r<B\/D r\/r=gt) D w sc.length (k+(fM s sc pos v q p tl).length) p tl w':=by
 obtain⟨f,rfl⟩:=U7 bY;have ak:∀D T J U,ae T J U->(∀r,T r->B<=r/\¬D r)->gd ab ac R n s gs bF bm aZ aN sc f v B0 D J->gd ab ac R n s gs bF bm aZ aN sc f v B0 D U:=λD T J U aV bp h=>h.own aV λr z=>⟨Y5 b0 (bp r z).1,(bp r z).2⟩;have aX:∀{N:x3}{K:x1->Prop},ad N bF ap [aN]->K aN->aa x7 (u4 ap (Γ bF)) N K:=λa1 a2=>by rw[aB (v:=aN) Ψ (a1.Qz rfl)];exact a2
 have a6:∀{a7 p:Nat}{tl:Λ}{D:Nat->Prop}{w U N:x3}{a:Nat}{b:Bool},Ext w U->w.heap.size<=a->a<U.heap.size->(∀r,D r->B<=r/\r<w.heap.size)->B<=w.heap.size->(gy<w.heap.size/\gtb<w.heap.size/\ga<w.heap.size/\gt<w.heap.size)->
   AtR l gy gt gtb ga (j2 bF gy gtb bm aZ ga gs) (gd ab ac R n s gs bF bm aZ aN sc f v B0) ax (λr=>r<B\/D r\/r=gt\/r=a) D U sc.length a7 p tl N->ad N a ek [.bool b]->
   aC x7 (o6 ek (Γ a) (.bool true)) N λ(_:Unit)aJ=>aa x7 (do loadVar ek (<-asAddr (Γ a))) aJ λr=>uh w.heap.size aJ λbq=>r= .bool true/\AtR l gy gt gtb ga (j2 bF gy gtb bm aZ ga gs) (gd ab ac R n s gs bF bm aZ aN sc f v B0) ax (λr=>r<B\/D r\/r=gt) D w sc.length a7 p tl bq:=by
  intro a7 p tl D w U N a b H br al C am au a8 ba;have b2:∀r,r=a->r<U.heap.size/\¬D r/\B<=r/\(r<B\/D r\/r=gt\/r=a)/\r≠gy/\r≠gtb/\r≠ga/\r≠gt:=by
   rintro r rfl;exact⟨al,λh=>by have:=(C _ h).2;omega,Ω,.inr (.inr (.inr rfl)),Ω,Ω,Ω,Ω⟩
  refine aC.cj (bk ek.i rfl rfl ba Ξ λaJ b3 c5 bb b4=>?_);have bb:ad aJ a ek [.bool true]:=bb;have b5:=a8.own ak Q b3 b4.o b2;rw[PM (x:=.bool true) Ψ (bb.Qz rfl)];intro bq b6 b7;refine⟨rfl,((b5.own ak Q (b6.V λ_=>False) (b7.2.mono am) λ_ h=>h.elim).base H λr z h=>?_)⟩;rcases h with h|h|h|h
  .exact .inl h
  .exact .inr (.inl h)
  .exact .inr (.inr h)
  .omega
 intro q;induction q with
 |zero=>
  intro p tl k D w b8 av C am E aw bc bf az;refine hU func250 ?_;refine aC.cj (bj λg1 J b9 aA G bg=>?_);refine aC.cj (bz ek.i λa U br Y O bh=>?_);have H:=aA.trans Y;have ca:=aA.size;have cb:=Y.size;have G:ad U g1 ah [Δ (p:Int)]:=ad.ext G Y;have O:ad U a ek [.bool false]:=O;have al:=O.lt;have aK:=Q D k w U (H.V _) (bg.trans bh).o bf;have M:=bc.ext H;have I:=aw.ext H;rw[aB (v:=Δ (p:Int)) Ψ (G.Qz rfl)];refine aX M.1.2.1 ?_;rw[aW ap.u M.2.2.1,bd,aj];refine⟨λ_=>?_,λh=>absurd Ω h⟩;rw[aB (v:=.func (.yield l) #[] #[]) Ψ (I.1.Qz rfl),aB (v:=.slice (σ ⟨gt,0,ν⟩) sc.length sc.length) Ψ (I.2.1.Qz rfl)];have cc:L[k]?=σ tl:=az 0 tl rfl;refine(show hQ x7 l [.slice (σ ⟨gt,0,ν⟩) sc.length sc.length] U _ from hQ.mono (b1 D k tl _ U (λr z=>⟨(C r z).1,by have:=(C r z).2;omega⟩) Ω M cc I.2.2.2.ls aK) ?_);rintro _ bt ⟨rfl,⟨D',d1,d2,cd,ce⟩,cg,ch,bl⟩;refine⟨cg,?_⟩;have au:=aw.lt;have aL:∀{g:Nat},w.heap.size<=g->¬D g:=λh1 aD=>by have:=(C _ aD).2;omega
  have aE:∀{g:Nat},B<=g->¬D g->¬(g<B\/D g):=λh1 aD ci=>ci.elim Ω aD;have ba:ad bt a ek [.bool false]:=O.V bl (aE Ω (aL Ω));have a8:AtR l gy gt gtb ga (j2 bF gy gtb bm aZ ga gs) (gd ab ac R n s gs bF bm aZ aN sc f v B0) ax (λr=>r<B\/D r\/r=gt\/r=a) D U sc.length (k+1) p tl bt:=
   ⟨ch,D',tl,av,rfl,I.V bl ⟨aE E.1.1 E.1.2,aE E.2.1.1 E.2.1.2,aE E.2.2.1.1 E.2.2.1.2,aE E.2.2.2.1 E.2.2.2.2⟩,⟨d1,d2⟩,cd,ce,bl.mono λr _ h=>h.imp id .inl⟩
  exact a6 H Ω al C am au a8 ba
 |succ q bu=>
  intro p tl k D w b8 av C am E aw bc bf az;refine hU func250 ?_;refine aC.cj (bj λg1 J b9 aA G bg=>?_);refine aC.cj (bz ek.i λa U br Y O bh=>?_);have H:=aA.trans Y;have ca:=aA.size;have cb:=Y.size;have G:ad U g1 ah [Δ (p:Int)]:=ad.ext G Y;have O:ad U a ek [.bool false]:=O;have al:=O.lt;have h1:=G.lt;have aK:=Q D k w U (H.V _) (bg.trans bh).o bf;have M:=bc.ext H;have I:=aw.ext H;have au:=aw.lt;have aL:∀{g:Nat},w.heap.size<=g->¬D g:=λh1 aD=>by have:=(C _ aD).2;omega
  rw[aB (v:=Δ (p:Int)) Ψ (G.Qz rfl)];refine aX M.1.2.1 ?_;rw[aW ap.u M.2.2.1,bd,aj];refine⟨λh=>absurd h Ω,λ_=>?_⟩;rw[aB (v:=Δ (p:Int)) Ψ (G.Qz rfl),aB (v:=Δ (f:Int)) Ψ (M.1.2.2.1.Qz rfl),bd,aj];have bw:∀{N:x3}{K:x1->Prop},ad N gtb ap [.slice (σ ⟨gt,0,ν⟩) sc.length sc.length]->K (.slice (σ ⟨gt,0,ν⟩) sc.length sc.length)->aa x7 (u4 ap (Γ gtb)) N K:=λa1 a2=>by rw[aB (v:=.slice (σ ⟨gt,0,ν⟩) sc.length sc.length) Ψ (a1.Qz rfl)];exact a2
  have aM:∀{D:Nat->Prop}(r:Nat),ra D B gy gtb ga gt->r=gt->B<=r/\¬D r:=λr h e=>e▸⟨h.2.2.2.1,h.2.2.2.2⟩;refine⟨λhe=>?_,λck=>?_⟩
  .refine bw I.2.1 ?_;rw[aB (v:=Δ (p:Int)) Ψ (G.Qz rfl),aB (v:=Δ v) Ψ (M.1.2.2.2.Qz rfl),ic rfl ap.u ah.i I.2.2.2 Ω];refine aC.cj (ie ah.i I.2.2.2 Ω λan X c6 cl cm=>?_);have bx:j1 an l gy gt gtb ga (j2 bF gy gtb bm aZ ga gs) sc.length (tl.set p v):=⟨I.1.V X λh=>ag.1 h.symm,I.2.1.V X λh=>ag.2.1 h.symm,I.2.2.1.V X λh=>ag.2.2 h.symm,cl⟩;have cn:=ak D _ _ _ X (λr h=>aM r E h) M;have cp:=Q D k U an (X.mono λr _ h=>aM r E h) cm.o aK;have cq:ad an g1 ah [Δ (p:Int)]:=G.V X Ω;have cr:ad an a ek [.bool false]:=O.V X Ω;rw[aB (v:=.func (.func lJ) #[] (j2 bF gy gtb bm aZ ga gs)) Ψ (bx.2.2.1.Qz rfl),aB (v:=Δ (p:Int)) Ψ (cq.Qz rfl),aP,wrap_i64 Ω Ω];have hw:fM s sc f v (q+1) p tl=fM s sc f v q (p+1) (tl.set p v):=by rw[fM,if_pos he]
   rw[hw];rw[hw]at az;refine(show ai x7 lJ (tJ (p+1) bF gy gtb bm aZ ga gs) an _ from ai.mono (bu (p+1) (tl.set p v) k D an Ω (by rw[Z6];exact av) (λr z=>⟨(C r z).1,by have:=(C r z).2;omega⟩) Ω E bx cn cp az) ?_);rintro _ ct c7 ⟨rfl,bA⟩;have cu:ad ct a ek [.bool false]:=by
    obtain⟨_,_,_,_,_,_,_,_,_,cw⟩:=bA;exact cr.V cw λh=>by
     rcases h with h|h|h
     .omega
     .exact aL Ω h
     .omega
   exact a6 H Ω al C am au (AtR.comp (λr h=>h.imp id λh=>h.imp id .inl) (λr h=>.inl h) (λ_ h=>h) (X.mono λr _ h=>.inr (.inr (.inl h))) rfl bA) cu
  intro c8 aO _ cz;have aQ:=M.ext aO;obtain⟨A,s',bi,bD,cA,c9⟩:=id aQ.2.2.2.2.2;obtain⟨u,hu⟩:=aF (l:=sc) (i:=p) Ω;obtain⟨cB,da⟩:=bZ u (x5 hu);have db:=bD.2.2.2.1.vars;obtain⟨x,bE⟩:=aF (l:=s'.vars) (i:=u.toNat) Ω;rw[aB (v:=Γ ab) Ψ (aQ.1.1.Qz rfl)];refine aX aQ.1.2.1 ?_;rw[aB (v:=Δ (p:Int)) Ψ ((G.ext aO).Qz rfl),be ap.u ah.i Ψ aQ.2.2.1 hu];refine(iX (i:=u) bD).mono ?_;rintro _ dc cC ⟨⟨b,cD,rfl,bG⟩,bH⟩;refine(mC (b:=b) (n:=cD)).mono ?_;rintro _ aR cE ⟨cF,bI,rfl,dd,bJ⟩;have bK:=kF bG cB bE;have cG:bB s (sc.getD p 0)=ay x:=by
   rw[<-cA,v8,hu,V8];unfold bB;rw[bE]
  have bL:fM s sc f v (q+1) p tl=(ay x).flatMap λy=>fM s sc f v q (p+1) (tl.set p y):=by rw[fM,if_neg ck,cG]
  have Z:=(aO.trans bH).trans cF;have cH:=(cz.trans cC).trans cE;have z12:=Z.size;have de:=(aO.trans bH).size;have df:=bJ.lt;have bM:B<=aR.heap.size:=Ω
  have cI:=Q D k U aR (Z.V _) cH.o aK;have bN:=M.ext Z;have bO:=I.ext Z;refine⟨Nat,false,false,jd,#[Γ bI],0,_,_,λ_=>_,λ_ j w'=>AtR l gy gt gtb ga (j2 bF gy gtb bm aZ ga gs) (gd ab ac R n s gs bF bm aZ aN sc f v B0) ax (λr=>r<B\/D r\/r=gt) D aR sc.length (k+(((ay x).take j).flatMap λy=>fM s sc f v q (p+1) (tl.set p y)).length) p tl w'/\ad w' g1 ah [Δ (p:Int)]/\ad w' a ek [.bool false],
   λ_ _ _ _=>False,rfl,(mB (g:=bI) bG.1).s.x,?_,λ_ _ _ ao h=>⟨h.1.ext ao,h.2.ext ao⟩,?_,λ_ _ _ _ _ _ _ h=>h,⟨bJ,bN.2.2.2.2.1.1⟩,?_,?_,?_,λ_ _ _ h=>h.elim,λ_ _ _ _ h=>h.elim⟩
  .rintro _ _ _ _ ⟨_,_,_,_,rfl⟩;rfl
  .rintro _ j dg dh aV cJ ⟨af,aG,P⟩;have ao:=aV.ext λ_ _ h=>nomatch h.1;exact⟨af.own ak Q (ao.V λ_=>False) (cJ.mono bM) λ_ h=>h.elim,aG.ext ao,P.ext ao⟩
  .exact⟨⟨p8 _,D,tl,av,rfl,bO,⟨λ_ h=>.inl h,λ_ h=>h⟩,bN,by simpa using cI,ae.refl _ _⟩,G.ext Z,O.ext Z⟩
  .rintro _ _ j _ di _ _ ⟨cK,dj⟩ ⟨dk,rfl,y,cL,cM⟩ ⟨cN,bP,cO⟩;cases cM;intro bQ aH cP _;have bR:(ay x)[j]?=σ (y:Int):=by rw[<-bK,x8,cL];rfl
   have cQ:=cN.own ak Q (aH.V λ_=>False) (cP.2.mono bM) λ_ h=>h.elim;obtain⟨dl,aI,aS,af,aG,P,⟨aT,cR⟩,cS,cT,cU⟩:=cQ;have cV:=bO.lt;have bn:=E.go aT cV;have bS:∀r,aI r->B<=r/\r<bQ.heap.size:=λr z=>(aT r z).elim (λh=>⟨(C r h).1,by have:=(C r h).2;omega⟩) λh=>⟨Ω,h.2⟩;refine bw P.2.1 ?_;rw[aB (v:=Δ (p:Int)) Ψ ((bP.ext aH).Qz rfl),ic rfl ap.u ah.i P.2.2.2 Ω];refine aC.cj (ie ah.i P.2.2.2 Ω λaq W dm cW cX=>?_);have bT:j1 aq l gy gt gtb ga (j2 bF gy gtb bm aZ ga gs) sc.length (aS.set p y):=⟨P.1.V W λh=>ag.1 h.symm,P.2.1.V W λh=>ag.2.1 h.symm,P.2.2.1.V W λh=>ag.2.2 h.symm,cW⟩;have cY:=ak aI _ _ _ W (λr h=>aM r bn h) cS;have cZ:=Q aI _ bQ aq (W.mono λr _ h=>aM r bn h) cX.o cT;have bU:ad aq g1 ah [Δ (p:Int)]:=(bP.ext aH).V W Ω;have c0:ad aq a ek [.bool false]:=(cO.ext aH).V W Ω;have c1:=(cK.ext aH).V W Ω;rw[aB (v:=.func (.func lJ) #[] (j2 bF gy gtb bm aZ ga gs)) Ψ (bT.2.2.1.Qz rfl),aB (v:=Δ (p:Int)) Ψ (bU.Qz rfl),aP,wrap_i64 Ω Ω];have bV:fM s sc f v q (p+1) (aS.set p (y:Int))=fM s sc f v q (p+1) (tl.set p (y:Int)):=PH Ω (by rw[Z6];exact av) (by rw[Z6];exact af) (by rw[tI Ω,tI Ω,aG]);refine(show ai x7 lJ (tJ (p+1) bF gy gtb bm aZ ga gs) aq _ from ai.mono (bu (p+1) (aS.set p y) _ aI aq Ω (by rw[Z6];exact af) (λr z=>⟨(bS r z).1,by have:=(bS r z).2;omega⟩) Ω bn bT cY cZ λi dn hi=>?_) ?_)
   .rw[bV]at hi;rw[S6];refine az _ _ ?_;rw[bL];exact PL bR hi
   rintro _ dp dq ⟨rfl,bW⟩;rw[bC,Y6,aU];have bX:=AtR.comp (S:=λr=>r<B\/D r\/r=gt) (λr h=>h) (λr h=>(aT r h).imp id λh=>⟨h.1,Ω⟩) cR (cU.trans (W.mono λr _ h=>.inr (.inr h))) aG bW;obtain⟨_,_,_,_,_,_,_,c2,_,bo⟩:=bW;have aY:∀{g:Nat},w.heap.size<=g->g<aR.heap.size->¬(g<B\/aI g\/g=gt):=λc3 dr h=>by
    rcases h with h|h|h
    .omega
    .exact (aT _ h).elim (aL c3) λh=>Ω
    .omega
   refine⟨⟨c1.V bo (aY Ω Ω),c2.2.2.2.2.1.1⟩,⟨?_,bU.V bo (aY Ω Ω),c0.V bo (aY Ω Ω)⟩,λh=>by cases h⟩;have e:k+(((ay x).take j).flatMap λy=>fM s sc f v q (p+1) (tl.set p y)).length+(fM s sc f v q (p+1) (aS.set p (y:Int))).length=k+(((ay x).take (j+1)).flatMap λy=>fM s sc f v q (p+1) (tl.set p y)).length:=by
    rw[bV,u7,bR,o8,List.flatMap_append,List.flatMap_singleton,r8];omega
   rw[e]at bX;exact bX
  .rintro _ j ds rfl ⟨af,aG,P⟩;rw[j0 (by rw[<-bK,u9];exact p8 _),<-bL]at af;exact a6 H Ω al C am au (af.base Z λr _ h=>h.imp id λh=>h.imp id .inl) P
end
section
variable{ab ac gs bF bm aZ B0:Nat}{R:af}{n:aI}{s:am}{aN:x1}{sc:Λ}{v:Int}
theorem Ej{e:Nat}(W:∀u∈sc,0<=u/\u<n.sizes.length)(X:sc.length<=6):
  pL x7 true false lI [Γ bF,Γ bm,Γ aZ,Γ gs] 0 (λk=>k=(ce s sc e v).length)
   (λk vs Y w=>Y=k+1/\∃tl aM,(ce s sc e v)[k]?=σ tl/\vs=[aM]/\aH .i64 w aM tl) (gd ab ac R n s gs bF bm aZ aN sc e v B0):=by
 refine⟨lI.enters,λl ax aY w Z _ af hj ag=>?_⟩;have E:∀D k J U,ae (λr=>w.heap.size<=r/\¬D r) J U->fx w.heap.size J U->ax D k J->ax D k U:=λD k J U ai aj=>Z D k J U (ai.mono λr _ h=>⟨rfl,h⟩) aj;have I:=hj.2.2.1;have ak:=hj.2.2.2.2.1.2;obtain⟨_,_,_,a1⟩:=dg I;refine oK func249 ?_;refine aC.cj (bj λgy J a2 p G al=>?_);have am:∀{H:x3}{K:x1->Prop},ad H bF ap [aN]->K aN->aa x7 (u4 ap (Γ bF)) H K:=λan ao=>by rw[aB (v:=aN) Ψ (an.Qz rfl)];exact ao
 refine am (hj.1.2.1.ext p) ?_;rw[aW ap.u (I.ext p)];refine aC.cj (kk (k:=.i64) ap.u ah.i Ω Ω λgt U a6 A M au=>?_);refine aC.cj (bz ap.i λgtb a7 a8 q N av=>?_);refine aC.cj (bk ap.i rfl rfl N (by simp[x1.cells]) λba C bb aw ay=>?_);refine aC.cj (bz oG.i λga bc bd f O az=>?_);rw[ki];refine aC.cj (bk oG.i rfl rfl O (by simp[x1.cells]) λa y be aA aD=>?_);have bf:=p.size;have bg:=A.size;have z3:=q.size;have z5:=f.size;have bh:=G.lt;have bi:=M.lt;have bl:=N.lt;have bn:=O.lt;have aE:ad a gy zh [.func (.yield l) #[] #[]]:=(((((ad.ext G A).ext q).V C Ω).ext f).V y Ω);have aF:ad a gt ah (ints .i64 (p9 sc.length 0)):=((((M.ext q).V C Ω).ext f).V y Ω);have aG:ad a gtb ap [.slice (σ ⟨gt,0,ν⟩) sc.length sc.length]:=((ad.ext aw f).V y Ω);have P:ad a ga oG [.func (.func lJ) #[] (j2 bF gy gtb bm aZ ga gs)]:=aA;rw[aB (v:=.func (.func lJ) #[] (j2 bF gy gtb bm aZ ga gs)) Ψ (P.Qz rfl)];have hm:aq .i64 ah a gt (.slice (σ ⟨gt,0,ν⟩) sc.length sc.length) (p9 sc.length 0):=by
  have:=bW.full (n:=sc.length) (k:=1) aF Ξ (by simp only[maxLen];omega);unfold aq;rw[List.length_replicate];exact this
 have aI:=(p.trans A).trans q;have Q:ae (λr=>w.heap.size<=r/\¬False) w a:=(((aI.V _).trans (C.mono λr _ h=>⟨by have h:r=gtb:=h;omega,id⟩)).trans (f.V _)).trans (y.mono λr _ h=>⟨by have h:r=ga:=h;omega,id⟩);have aJ:cF w a:=((((al.trans au).trans av).trans ay).trans az).trans aD;have aK:gd ab ac R n s gs bF bm aZ aN sc e v B0 (λ_=>False) a:=hj.own Q λr aL=>⟨Ω,aL.2⟩;have S:=PI (s:=s) (sc:=sc) (pos:=e) (v:=v) (tl:=p9 sc.length 0) Ξ;refine(show gE x7 lJ (tJ 0 bF gy gtb bm aZ ga gs) a _ from(PN (L:=ce s sc e v) (B:=w.heap.size) (l:=l) (gy:=gy) (gt:=gt) (gtb:=gtb) (ga:=ga) (pos:=e) Ω W X ak ⟨Ω,Ω,Ω⟩ E ?_ sc.length 0 (p9 sc.length 0) 0 (λ_=>False) a Ω Ξ (λ_ h=>h.elim) Ω ⟨⟨Ω,id⟩,⟨Ω,id⟩,⟨Ω,id⟩,Ω,id⟩ ⟨aE,aG,P,hm⟩ aK (E _ _ _ _ Q aJ.o ag) λi x hi=>?_).free.mono ?_)
 .intro D k tl aM w' aO aP aQ aR aS z;refine hQ.mono (af D k (k+1) [aM] w' aO aP aQ ⟨rfl,tl,aM,aR,rfl,aS⟩ z) ?_;rintro u bo (⟨h1,aT,aU,aV,aX⟩|⟨h,_⟩)
  .exact⟨h1,aT,aU (.inr rfl),aV,aX rfl⟩
  .cases h
 .rw[S]at hi;rw[X6];exact hi
 .rintro _ bp ⟨_,rfl,_,D',_,_,_,_,_,_,z,_⟩;rw[S,X6]at z;exact .inl ⟨D',_,rfl,z⟩
end
def Ek(m gs bF bm aZ:Nat)(aN:x1):Prop:=(m<=gs/\m<=bF/\m<=bm/\m<=aZ)/\∀r,leads aN r->m<=r
section
variable{ab ac gs bF bm aZ B0 m:Nat}{A R:af}{n:aI}{s s':am}{t:aw}{aN:x1}{sc:Λ}{pos v:Int}{w w':x3}
theorem bp.lt(h:bp w ab ac A R n s t){r:Nat}(a:A r\/R r):r<w.heap.size:=by
 obtain⟨⟨j,p,q,x,⟨_,_,e,f⟩,_⟩,_⟩:=h;exact a.elim (f r) (e r)
theorem gd.put{D' S:Nat->Prop}(h:gd ab ac R n s gs bF bm aZ aN sc pos v B0 D w)(j:ae S w w')(hm:Ek m gs bF bm aZ aN)(y:∀r,S r->r<m\/B0<=r)(z:Laid w')(B:bp w' ab ac A R n s' t)(C:∀i,bB s' i=bB s i)(E:∀r,A r\/R r->r<B0\/D' r):gd ab ac R n s gs bF bm aZ aN sc pos v B0 D' w':=by
 obtain⟨h1,f,p,q,F,_⟩:=h;have no:∀{r:Nat},m<=r->r<B0->¬S r:=λh1 f p=>by have:=y _ p;omega
 exact⟨h1.V j ⟨no hm.1.1 f.1,no hm.1.2.1 f.2.1,no hm.1.2.2.1 f.2.2.1,no hm.1.2.2.2 f.2.2.2⟩,f,hX p j λr G a n c e x=>no (hm.2 r ⟨a,n,c,e,x⟩) (q r ⟨a,n,c,e,x⟩) G,q,⟨z,Y5 F.2 j.size⟩,A,s',t,B,C,E⟩
theorem El{f:cL}{y:x3->Prop}{K:x1->x3->Prop}(h:bp w ab ac A R n s t)(B:Laid w)(C:s.funs[j]?=σ f)(E:∀aN gs bF bm aZ w',Ext w w'->Ek w.heap.size gs bF bm aZ aN->gd ab ac R n s gs bF bm aZ aN f.sc pos v w'.heap.size (λ_=>False) w'->K (.func (.func lI) #[] #[Γ bF,Γ bm,Γ aZ,Γ gs]) w'):
  ai x7 rM [Γ ab,Δ (j:Int)] w λaN J=>(Ext w J\/y J)/\ai x7 za [Γ ab,aN,Δ pos,Δ v] J K:=by
 refine(wU h C).mono ?_;rintro aN J _ ⟨q,g,G,hm⟩;refine⟨.inl q,(PJ hm.ls).mono ?_⟩;rintro _ U _ ⟨x,gs,bF,bm,aZ,rfl,a,H,I,L,M⟩;have p:=q.trans x;have N:=q.size;have z:=p.size;refine E aN gs bF bm aZ U p ⟨⟨Ω,Ω,Ω,Ω⟩,λr e=>(bO hm e).1▸G⟩ ⟨a,⟨a.1.lt,a.2.1.lt,a.2.2.1.lt,a.2.2.2.lt⟩,hm.ls.ext x,λr e=>?_,⟨B.ext p,p8 _⟩,A,s,t,h.ext p,λ_=>rfl,λr e=>.inl ?_⟩
 .have:=bO hm e;have:=x.size;omega
 .have:=h.lt e;omega
end
section
variable{k:Int}{sizes:Λ}{s:am}{f:cL}{j pos:Nat}{v:Int}{tl:Λ}
theorem Em{m:Nat}(a:s.funs[j]?=σ f)(e:f.live≠0)(hm:cB f.ag tl 0=σ (m:Int)):(h5 s j tl).isSome=true/\n7 s j tl=bn f.ag f.cs tl:=by
 unfold h5 n7;rw[a];simp[e,hm]
end
section
variable{w:x3}{ab ac:Nat}{A R:af}{n:aI}{s:am}{t:aw}
theorem PO{pos:Nat}{f:cL}(h:bp w ab ac A R n s t)(ak:Laid w)(N:s.funs[j]?=σ f)(ax:f.live≠0)(ay:∀u,f.sc[pos]?=σ u->v∈bB s u):
  ai x7 Ha [Γ ab,Δ (j:Int),Δ (pos:Int),Δ v] w λr w'=>r=Δ (l4 n.k s f pos v)/\Ext w w':=by
 have am:=h.2.2.2.1;have an:=x5 N;obtain⟨O,aU,_⟩:=am.funs f an;refine hU func146 ?_;refine bj λg1 J aV P y=>?_;refine bj λQ U aW K L=>?_;have y:ad U g1 de [Γ ab]:=ad.ext y K;have L:ad U Q ah [Δ (j:Int)]:=L;rw[aB (v:=Γ ab) Ψ (y.Qz rfl)];refine(mP (h.ext (P.trans K))).mono ?_;rintro _ aX _ ⟨rfl,S⟩;refine bz al.i λz a1 a2 W ao=>?_;have a6:=P.size;have a7:=K.size;have z3:=S.size;have z4:=W.size;have a8:=y.lt;have ba:=L.lt;have bb:=ao.lt;refine bk al.i rfl rfl ao (by simp[x1.cells]) λaz X bc Y=>?_;have Y:ad az z al [Δ n.k]:=Y;intro Z B _ _;have bd:=B.size;have ap:=S.trans W;have aa:Ext w Z:=((((P.trans K).trans S).trans W).then X (by rintro r p rfl;omega)).trans B;have ae:ad Z g1 de [Γ ab]:=((y.ext ap).V X Ω).ext B;have aq:ad Z Q ah [Δ (j:Int)]:=((L.ext ap).V X Ω).ext B;have au:=Y.ext B;have be:=au.lt;rw[aB (v:=Γ ab) Ψ (ae.Qz rfl),aB (v:=Γ ab) Ψ (ae.Qz rfl),aB (v:=Δ (j:Int)) Ψ (aq.Qz rfl)];refine El (h.ext aa) (ak.ext aa) N λaN gs bF bm aZ aA C aD aE=>?_;have bf:=C.size;refine⟨Nat,true,false,lI,#[Γ bF,Γ bm,Γ aZ,Γ gs],0,_,_,_,λD k w'=>Ext w w'/\ad w' g1 de [Γ ab]/\ad w' Q ah [Δ (j:Int)]/\ad w' z al [Δ ((((ce s f.sc pos v).take k).map (bn f.ag f.cs)).foldl min n.k)],
  λ_ _ _ _=>False,rfl,Ej (λu hu=>⟨(O.scope.1 u hu).1,O.vars u hu⟩) O.scope.2,?_,λ_ _ _ aF h=>h.ext aF,?_,λ_ _ _ _ _ _ _ h=>h,aE,?_,?_,?_,λ_ _ _ h=>h.elim,λ_ _ _ _ h=>h.elim⟩
 .rintro _ _ _ _ ⟨_,_,_,_,rfl,_⟩;rfl
 .rintro D k aG aH M bg ⟨q,E,G,x⟩;have aY:∀{g:Nat}{e:r9}{cs:List x1},g<aA.heap.size->ad aG g e cs->ad aH g e cs:=λbh aI=>aI.V M λh=>by have:=h.2.1;omega
  exact⟨q.then M λr p h=>by have:=h.2.1;omega,aY Ω E,aY Ω G,aY Ω x⟩
 .exact⟨aa.trans C,ae.ext C,aq.ext C,au.ext C⟩
 .rintro aM D k bi bl bo bq aJ ⟨rfl,tl,bu,av,e,aK⟩ ⟨q,E,G,x⟩;cases e;intro bw H _ aL;obtain⟨m,hm⟩:=tB am an ay (x5 av);obtain⟨aO,M⟩:=Em N ax hm;rw[aB (v:=Γ ab) Ψ ((E.ext H).Qz rfl),aB (v:=Δ (j:Int)) Ψ ((G.ext H).Qz rfl)];refine(wN (j:=j) (h.ext (q.trans H)) (aK.ext H)).mono ?_;rintro _ bx aP ⟨rfl,aQ⟩;have a:=H.trans aQ;rw[if_pos aO,M,br,bt,aB (v:=Δ ((((ce s f.sc pos v).take k).map (bn f.ag f.cs)).foldl min n.k)) Ψ ((x.ext a).Qz rfl),lN];refine aC.cj (bk al.i rfl rfl (x.ext a) Ξ λaw I bA af aR=>?_);have bC:=a.size;have aj:Ext w aw:=(q.trans a).then I (by rintro r p rfl;omega);have aS:=h.ext aj;refine⟨⟨D,λr h=>.inl h,λ_ h=>h,(aJ.ext a).put I aD (λr p=>.inl (by have p:r=z:=p;omega)) (ak.ext aj) aS (λ_=>rfl) λr p=>.inl (by have:=h.lt p;omega),aj,(E.ext a).V I Ω,(G.ext a).V I Ω,?_⟩,aL.trans (aP.kb.trans aR.kb),(a.V _).trans (I.mono λr _ h=>.inl (by have h:r=z:=h;omega))⟩;have af:ad aw z al [Δ (min ((((ce s f.sc pos v).take k).map (bn f.ag f.cs)).foldl min n.k) (bn f.ag f.cs tl))]:=af;rw[u7,av,o8,Z4,List.foldl_append];exact af
 .rintro D k bD rfl ⟨q,E,G,x⟩;rw[aB (v:=Δ ((((ce s f.sc pos v).take (ce s f.sc pos v).length).map (bn f.ag f.cs)).foldl min n.k)) Ψ (x.Qz rfl)];intro bE aT _;refine⟨?_,q.trans aT⟩;rw[j0 (p8 _)];rfl
end
def py(t:aw):Prop:=∀m,t.marks.getLast? =σ m->m.olds+t.cells.length<100000000/\t.olds.length<=m.olds+t.cells.countP λc=>decide (c.st=m.st)
def dW(ao:List aw)(t:aw):Prop:=ey t ao/\py t
theorem ey.m{t:aw}(h:ey t []):dW [] t:=⟨h,λm hm=>by rw[h.1]at hm;cases hm⟩
theorem dW.room{ao:List aw}{t:aw}(h:dW ao t):Room t:=by
 cases hm:t.marks.getLast? with
 |none=>exact .inl (List.getLast?_eq_none_iff.1 hm)
 |some m=>
  obtain⟨h1,a⟩:=h.2 m hm;have:=List.countP_le_length (p:=λc:Cell=>decide (c.st=m.st)) (l:=t.cells);exact .inr Ω
theorem py.set{t:aw}{i:Nat}{x:Int}(h:py t):py (t.set i x):=by
 unfold aw.set;cases e:t.cells[i]? with
 |none=>exact h
 |some c=>
  obtain⟨f,j⟩:=x4.1 e;cases hm:t.marks.getLast? with
  |none=>
   intro m a;have a:t.marks.getLast? =σ m:=a;rw[hm]at a;cases a
  |some m=>
   obtain⟨h1,q⟩:=h m hm;simp only;split
   .rename_i r;intro bU a;have a:t.marks.getLast? =σ bU:=a;rw[hm]at a;cases a;show m.olds+(t.cells.set i _).length<_/\(t.olds++[_]).length<=m.olds+(t.cells.set i _).countP _;rw[Z6,List.countP_set f,j,r8,U9,if_neg (by rw[decide_eq_true_eq];omega),if_pos Ξ];exact⟨h1,Ω⟩
   .intro bU a;have a:t.marks.getLast? =σ bU:=a;rw[hm]at a;cases a;show m.olds+(t.cells.set i _).length<_/\t.olds.length<=m.olds+(t.cells.set i _).countP _;rw[Z6,List.countP_set f,j];refine⟨h1,?_⟩;by_cases I:c.st=m.st
    .have:=List.countP_pos_iff (p:=λc:Cell=>decide (c.st=m.st)).2 ⟨c,x5 e,decide_eq_true I⟩;rw[if_pos (decide_eq_true I)];omega
    .rw[if_neg (by rw[decide_eq_true_eq];exact I)];omega
theorem dW.set{ao:List aw}{t:aw}{i:Nat}{x:Int}(h:dW ao t):dW ao (t.set i x):=⟨h.1.set,h.2.set⟩
theorem dW.mark{ao:List aw}{t:aw}(h:dW ao t)(a:t.olds.length+t.cells.length<100000000):dW (t::ao) t.mark:=by
 refine⟨h.1.mark,λm hm=>?_⟩;have hm:(t.marks++[_]).getLast? =σ m:=hm;rw[List.getLast?_concat]at hm;cases hm;exact⟨a,Nat.le_add_right _ _⟩
def cN(ao:List aw)(w:x3)(ab ac:Nat)(A R:af)(n:aI)(s':am)(w':x3):Prop:=ae (eg w) w w'/\Laid w'/\∃aE bi,Grow A w aE w'/\bp w' ab ac aE R n s' bi/\dW ao bi/\¬aE 0
def eR(ao:List aw)(w:x3)(ab ac:Nat)(A R:af)(n:aI)(m:Nat)(D:Nat->Prop)(s':am)(w':x3):Prop:=
 ae (λr=>eg w r\/w.heap.size<=r) w w'/\(Laid w'/\w.heap.size<=m/\0<w.heap.size/\(∀r,A r\/R r->r<w.heap.size))/\∃aE bi,Grow A w aE w'/\bp w' ab ac aE R n s' bi/\(dW ao bi/\¬aE 0)/\∀r,aE r->r<m\/D r
section
variable{ao:List aw}{w J U:x3}{ab ac m:Nat}{A R:af}{n:aI}{s s' om:am}{t:aw}{D D' S:Nat->Prop}
theorem eR.start(h:bp w ab ac A R n s t)(f:Laid w)(j:¬A 0)(p:dW ao t)(a:Ext w J)(hm:w.heap.size<=m):eR ao w ab ac A R n m D s J:=
 ⟨a.V _,⟨f.ext a,hm,by
  obtain⟨x,y,z,B,⟨h1,_,_,q⟩,_⟩:=h.1;have:=q _ h1;omega,λr e=>h.lt e⟩,A,t,Grow.ext a,h.ext a,⟨p,j⟩,λr e=>.inl (by have:=h.lt (.inl e);omega)⟩
theorem eR.own(h:eR ao w ab ac A R n m D s' J)(e:ae S J U)(f:∀r,S r->m<=r/\¬D r):eR ao w ab ac A R n m D s' U:=by
 obtain⟨h1,⟨s,x,y,j⟩,aE,bi,⟨g1,z,B⟩,p,C,q⟩:=h;refine⟨h1.trans (e.mono λr _ h=>.inr (by have:=(f r h).1;omega)),⟨hx e (λh=>by have:=(f _ h).1;omega) s,x,y,j⟩,aE,bi,⟨?_,z,B⟩,⟨p.1.V e λr _ a I=>?_,p.2⟩,C,q⟩
 .exact ((g1.mono λr _ h=>.inl h).trans (e.mono λr _ h=>.inr (f r h).1):ae (λr=>A r\/m<=r) w U).mono λr a h=>h.elim id λh=>Ω
 .obtain⟨F,E⟩:=f r I;rcases a with a|a
  .exact (q r a).elim Ω E
  .have:=j r (.inr a);omega
theorem eR.ext(h:eR ao w ab ac A R n m D s' J)(a:Ext J U):eR ao w ab ac A R n m D s' U:=h.own (a.V λ_=>False) λ_ h=>h.elim
theorem eR.En(h:eR ao w ab ac A R n m D s' J):∃aE bi,bp J ab ac aE R n s' bi/\dW ao bi/\¬aE 0/\∀{U:x3}{om:am}{D' a:Nat->Prop}{j:aw},ae (eg J) J U->Grow aE J a U->bp U ab ac a R n om j->dW ao j->(∀r,D r->D' r)->(∀r,J.heap.size<=r->r<U.heap.size->D' r)->
  eR ao w ab ac A R n m D' om U/\ae (λr=>r<m\/D r) J U/\∀r,a r->r<m\/D' r:=by
 obtain⟨h1,⟨y,z,B,C⟩,aE,bi,E,F,p,q⟩:=h;refine⟨aE,bi,F,p.1,p.2,λ{U om D' a j}G e s H K L=>?_⟩;have P:=h1.size;have M:¬a 0:=λh=>(e.2.1 0 h).elim p.2 λh=>Ω
 have x:∀r,a r->r<m\/D' r:=λr f=>(e.2.1 r f).elim (λh=>(q r h).imp id (K r)) λh=>.inr (L r h (s.lt (.inl f)));refine⟨⟨h1.trans (G.mono λr _ h=>?_),⟨hx e.1 p.2 y,z,B,C⟩,a,j,E.trans e,s,⟨H,M⟩,x⟩,e.1.mono λr _ h=>q r h,x⟩;by_cases f:w.heap.size<=r
 .exact .inr f
 .exact .inl (mL (λo N I O=>h1.aY r o N I λh=>h.elim O f) h)
theorem eR.open(h:eR ao w ab ac A R n m D s' J):∃aE bi,bp J ab ac aE R n s' bi/\dW ao bi/\∀{U:x3}{om:am}{D' e:Nat->Prop}{f:aw},ae (eg J) J U->Grow aE J e U->bp U ab ac e R n om f->dW ao f->(∀r,D r->D' r)->(∀r,J.heap.size<=r->r<U.heap.size->D' r)->
  eR ao w ab ac A R n m D' om U/\ae (λr=>r<m\/D r) J U/\∀r,e r->r<m\/D' r:=by
 obtain⟨aE,bi,a,b,_,d⟩:=h.En;exact⟨aE,bi,a,b,d⟩
theorem eR.done(h:eR ao w ab ac A R n m D s' J)(e:Ext J U):cN ao w ab ac A R n s' U:=by
 obtain⟨h1,⟨f,q,s,x⟩,aE,bi,j,p,a,y⟩:=h.ext e;exact⟨h1.mono λr z h=>h.elim id λh=>Ω,f,aE,bi,j,p,a.1,a.2⟩
end
section
variable{ao:List aw}{w:x3}{ab ac:Nat}{A R:af}{n:aI}{s:am}{t:aw}
theorem oo{u:Nat}{x:bq}(a:bh n.k n.sizes s)(f:s.vars[u]?=σ x)(h:v∈ay x):eP n (u:Int) v:=by
 have p:=(x4.1 f).1;have q:=a.vars;obtain⟨z,e⟩:=aF (l:=n.sizes) (i:=u) Ω;have r:=(a.var _ x z f e).1;have w:=a.eO.2.2 z (x5 e);have j:=(fb.1 h).1;refine⟨Ω,Ω,j.1,?_⟩;rw[u6,v8,e,V8];omega
theorem Eo{sizes:Λ}{f:cL}{g:Int->Int}(p:bh k sizes s)(a:s.funs[j]?=σ f):dN s j f (dz g [] f.ag f.cs)=s:=by
 obtain⟨q,r⟩:=ll p (x5 a);rw[O2 q Ω (λ_ h=>absurd h List.not_mem_nil)];have:s.funs.set j f=s.funs:=by
  apply X2;intro i;by_cases e:j=i
  .subst e;rw[Z0 (x4.1 a).1,a]
  .rw[Y8 e]
 unfold dN;show{s with funs:=s.funs.set j f}=s;rw[this]
theorem Ep{pos u:Nat}{f:cL}{x:bq}{F1 F2:Q1}{tup un:Int->Int}(h:bp w ab ac A R n s t)(aQ:Laid w)(bi:¬A 0)(bk:dW ao t)(E:s.funs[j]?=σ f)(bl:f.live≠0)(hu:f.sc[pos]?=σ (u:Int))(y:s.vars[u]?=σ x)(aR:v∈ay x)(h1:∀tl∈ce s f.sc pos v,(0<=tup (bn f.ag f.cs tl)/\tup (bn f.ag f.cs tl)<=n.k)/\∀{w:x3}{A:af}{s:am}{t:aw},bp w ab ac A R n s t->ai x7 F1 [Γ ab,Δ (bn f.ag f.cs tl),Δ c] w λr w'=>r=Δ (tup (bn f.ag f.cs tl))/\Ext w w')(aS:(0<=un (x.un.getD v.toNat 0)/\un (x.un.getD v.toNat 0)<=n.k)/\∀{w:x3}{A:af}{s:am}{t:aw},bp w ab ac A R n s t->ai x7 F2 [Γ ab,Δ (x.un.getD v.toNat 0),Δ c] w λr w'=>r=Δ (un (x.un.getD v.toNat 0))/\Ext w w'):
  ai x7 Hb [.agg #[.func (.func F1) #[] #[],.func (.func F2) #[] #[]],Γ ab,Δ (j:Int),Δ (pos:Int),Δ v,Δ c] w λ_ w'=>cN ao w ab ac A R n (iY s j f pos u x v tup un) w':=by
 have G:=h.2.2.2.1;have ak:=x5 E;obtain⟨an,b5,_⟩:=G.funs f ak;have aT:∀u',f.sc[pos]?=σ u'->v∈bB s u':=λu' aU=>by
  rw[hu]at aU;cases aU;unfold bB;rw[u6,y];exact aR
 have bo:=D9 G ak aT;refine hU func147 ?_;refine bj λbu J b6 aV P=>?_;refine bj λg1 U b7 aq a=>?_;refine bj λbw b8 b9 Z B=>?_;refine bj λbx z ca aa Q=>?_;have P:ad z bu pS [.func (.func F1) #[] #[],.func (.func F2) #[] #[]]:=((ad.ext P aq).ext Z).ext aa;have a:ad z g1 de [Γ ab]:=(ad.ext a Z).ext aa;have B:ad z bw ah [Δ (j:Int)]:=ad.ext B aa;have Q:ad z bx al [Δ c]:=Q;have au:=((aV.trans aq).trans Z).trans aa;have cb:=aV.size;have cc:=aq.size;have z3:=Z.size;have cd:=au.size;have aW:=P.lt;have H:=a.lt;have aX:=B.lt;have a1:=Q.lt;rw[aB (v:=Γ ab) Ψ (a.Qz rfl),aB (v:=Δ (j:Int)) Ψ (B.Qz rfl)];refine(wU (h.ext au) E).mono ?_;rintro cg ch _ ⟨bz,_,_,bA⟩;rw[be ap.u ah.i Ψ bA.ls hu];intro ci bC _ _;have I:=bz.trans bC;have av:=au.trans I;have z46:=I.size;rw[aB (v:=Γ ab) Ψ ((a.ext I).Qz rfl),aB (v:=Γ ab) Ψ ((a.ext I).Qz rfl),aB (v:=Δ (j:Int)) Ψ ((B.ext I).Qz rfl)];refine El (h.ext av) (aQ.ext av) E λaN gs bF bm aZ a2 ax bD bE=>?_;have cj:=ax.size;have bG:=I.trans ax;refine⟨Nat,true,false,lI,#[Γ bF,Γ bm,Γ aZ,Γ gs],0,_,_,_,
  λD k w'=>eR ao w ab ac A R n w.heap.size D (dN s j f (dz tup ((ce s f.sc pos v).take k) f.ag f.cs)) w'/\(ae (λr=>r<w.heap.size\/a2.heap.size<=r) z w'/\a2.heap.size<=w'.heap.size),
  λ_ _ _ _=>False,rfl,Ej (λu hu=>⟨(an.scope.1 u hu).1,an.vars u hu⟩) an.scope.2,?_,λ_ _ _ y h=>h.ext y,?_,λ_ _ _ _ _ _ _ h=>h,bE,?_,?_,?_,λ_ _ _ h=>h.elim,λ_ _ _ _ h=>h.elim⟩
 .rintro _ _ _ _ ⟨_,_,_,_,rfl,_⟩;rfl
 .rintro D k ck cl S cm ⟨K,L,az⟩;exact⟨K.own S λr q=>⟨Ω,q.2.2⟩,L.trans (S.mono λr _ h=>.inr h.2.1),Y5 az S.size⟩
 .refine⟨?_,bG.V _,p8 _⟩;have e:dN s j f (dz tup ((ce s f.sc pos v).take 0) f.ag f.cs)=s:=Eo G E;rw[e];exact eR.start h aQ bi bk (av.trans ax) (p8 _)
 .rintro aM D k cn aA a6 cp bH ⟨rfl,tl,cq,aC,e,a7⟩ ⟨K,L,az⟩;cases e;intro cr W _ bI;obtain⟨m,hm⟩:=tB G ak aT (x5 aC);obtain⟨bJ,bK⟩:=Ea (g:=tup) G E bo aC hm;obtain⟨⟨bL,bM⟩,bN⟩:=h1 tl (x5 aC);have aY:∀{X:x3}{g:Nat}{e:r9}{cs:List x1},Ext aA X->w.heap.size<=g->g<z.heap.size->ad z g e cs->ad X g e cs:=λy M aD aF=>(aF.V L Ω).ext y;have bO:=(x4.1 E).1;have a8:(dN s j f (dz tup ((ce s f.sc pos v).take k) f.ag f.cs)).funs[j]?=σ {f with cs:=dz tup ((ce s f.sc pos v).take k) f.ag f.cs}:=Z0 bO;obtain⟨M,S⟩:=Em (tl:=tl) a8 bl hm;obtain⟨A9,t9,aG,ba,aH⟩:=K.open;rw[aB (v:=Γ ab) Ψ ((aY W Ω H a).Qz rfl),aB (v:=Δ (j:Int)) Ψ ((aY W Ω aX B).Qz rfl)];refine(wN (j:=j) (aG.ext W) (a7.ext W)).mono ?_;rintro _ ct bP ⟨rfl,bQ⟩;rw[if_pos M,S,br,bt];intro bR bS _ bT;have C:=(W.trans bQ).trans bS;rw[aB (v:=Γ ab) Ψ ((aY C Ω H a).Qz rfl),aB (v:=Δ (j:Int)) Ψ ((aY C Ω aX B).Qz rfl),
   aL pS.p 0 (aY C Ω aW P) rfl,aB (v:=Γ ab) Ψ ((aY C Ω H a).Qz rfl),aB (v:=Δ c) Ψ ((aY C Ω a1 Q).Qz rfl)]
  show ai x7 F1 [Γ ab,Δ (bn f.ag (dz tup ((ce s f.sc pos v).take k) f.ag f.cs) tl),Δ c] bR _;rw[bJ];refine(bN (aG.ext C)).mono ?_;rintro _ cu bU ⟨rfl,bb⟩;have Y:=C.trans bb;refine⟨.inl bb,(Ow (j:=j) (aG.ext Y) ba.room (a7.ext Y)).mono ?_⟩;rintro r bc bV ⟨_,_,aI⟩;obtain⟨_,aj,aE,bW,bX,aJ,N⟩:=aI M ⟨bL,bM⟩ _ m a8 hm;rw[bK]at N;have cw:=Y.size;have cz:=aj.size;obtain⟨bd,aK,bY⟩:=aH (D':=λr=>D r\/aA.heap.size<=r/\r<bc.heap.size) (ir Y aj) ((Grow.ext Y).trans aJ) N ba.set (λr h=>.inl h) λr M aD=>.inr ⟨M,aD⟩;refine⟨⟨λr=>D r\/aA.heap.size<=r/\r<bc.heap.size,λr h=>h,λr h=>.inl h,?_,bd,L.trans (aK.mono λr _ h=>h.imp id λh=>(a6 r h).1),Ω⟩,bI.trans ((((bP.trans bT).trans bU).trans bV).kb),aK.mono λr _ h=>h.imp (λh=>Ω) id⟩;refine bH.put aK bD (λr q=>?_) bd.2.1.1 N (λ_=>rfl) λr q=>?_
  .rcases q with q|q
   .exact .inl Ω
   .exact .inr (a6 r q).1
  .rcases q with q|q
   .exact (bY r q).imp (λh=>Ω) id
   .exact .inl (by have:=h.lt (.inr q);omega)
 .rintro D k bZ rfl ⟨K,L,az⟩;rw[j0 (p8 _)]at K;have bf:=oo G y aR;obtain⟨cA,cB,aO,bg,aH⟩:=K.open;have aY:∀{X:x3}{g:Nat}{e:r9}{cs:List x1},Ext bZ X->w.heap.size<=g->g<z.heap.size->ad z g e cs->ad X g e cs:=λy M aD aF=>(aF.V L Ω).ext y;rw[aB (v:=Γ ab) Ψ ((aY (Ext.refl _) Ω H a).Qz rfl)];refine(n5 (i:=(u:Int)) (v:=v) aO).mono ?_;rintro _ cC _ ⟨rfl,b0⟩;have b1:fY (dN s j f (dz tup (ce s f.sc pos v) f.ag f.cs)) (u:Int).toNat v.toNat=x.un.getD v.toNat 0:=by
   unfold fY;rw[u6,show(dN s j f (dz tup (ce s f.sc pos v) f.ag f.cs)).vars[u]?=σ x from y]
  rw[if_pos bf,b1,br,bt];intro b2 b3 _ _;have O:=b0.trans b3;rw[aB (v:=Γ ab) Ψ ((aY O Ω H a).Qz rfl),aL pS.p 1 (aY O Ω aW P) rfl,aB (v:=Γ ab) Ψ ((aY O Ω H a).Qz rfl),aB (v:=Δ c) Ψ ((aY O Ω a1 Q).Qz rfl)];show ai x7 F2 [Γ ab,Δ (x.un.getD v.toNat 0),Δ c] b2 _;refine(aS.2 (aO.ext O)).mono ?_;rintro _ cD _ ⟨rfl,bh⟩;have aP:=O.trans bh;refine⟨.inl bh,(DA (i:=(u:Int)) (v:=v) (aO.ext aP) bg.room).mono ?_⟩;rintro r cE _ ⟨_,_,aI⟩;obtain⟨_,aj,aE,bW,bX,aJ,N⟩:=aI bf aS.1;have e:kD (dN s j f (dz tup (ce s f.sc pos v) f.ag f.cs)) (u:Int).toNat v.toNat (un (x.un.getD v.toNat 0))=iY s j f pos u x v tup un:=by
   unfold kD iY eH;rw[u6,show(dN s j f (dz tup (ce s f.sc pos v) f.ag f.cs)).vars[u]?=σ x from y]
  rw[e]at N;intro cF b4 _;exact(aH (D':=λ_=>True) (ir aP aj) ((Grow.ext aP).trans aJ) N bg.set (λ_ _=>trivial) λ_ _ _=>trivial).1.done b4
end
theorem rb(h e:Nat)(f:l<256)(hm:a<256):(256*h+l) &&& (256*e+a)=256*(h &&& e)+(l &&& a):=by
 have j:l &&& a<2 ^ 8:=Nat.and_lt_two_pow _ hm;apply Nat.eq_of_testBit_eq;intro i;rw[Nat.testBit_and,show 256=2 ^ 8 from rfl,Nat.testBit_two_pow_mul_add _ f,Nat.testBit_two_pow_mul_add _ hm,Nat.testBit_two_pow_mul_add _ j];split
 .rw[Nat.testBit_and]
 .rw[Nat.testBit_and]
def gR(m x:Nat):Nat:=(x / 2 &&& m)+(x &&& m)
def hP(m x:Nat):Nat:=(x / 4 &&& m)+(x &&& m)
def jC(m x:Nat):Nat:=(x / 16+x) &&& m
def cX(a:Nat):Nat:=jC 15 (hP 51 (gR 85 a))
theorem PP:∀e<2,∀l<256,(128*e+l / 2) &&& 85=l / 2 &&& 85:=by decide+kernel
theorem PQ:∀e<4,∀l<256,(64*e+l / 4) &&& 51=l / 4 &&& 51:=by decide+kernel
theorem PR:∀e<5,∀l<69,(16*e+l / 16+l) &&& 15=(l / 16+l) &&& 15:=by decide+kernel
theorem mY:∀l<256,gR 85 l<256/\hP 51 (gR 85 l)<69/\hP 51 (gR 85 l) % 16<5/\cX l<=8/\(cX l=0->l=0):=by decide+kernel
theorem tK(h a:Nat)(e:l<256):gR (256*a+85) (256*h+l)=256*gR a h+gR 85 l:=by
 unfold gR;rw[show(256*h+l) / 2=256*(h / 2)+(128*(h % 2)+l / 2) by omega,rb _ _ Ω Ω,rb _ _ e Ω,PP _ Ω _ e];omega
theorem tL(h a:Nat)(e:l<256):hP (256*a+51) (256*h+l)=256*hP a h+hP 51 l:=by
 unfold hP;rw[show(256*h+l) / 4=256*(h / 4)+(64*(h % 4)+l / 4) by omega,rb _ _ Ω Ω,rb _ _ e Ω,PQ _ Ω _ e];omega
theorem tM(h a:Nat)(e:l<69)(he:h % 16<5):jC (256*a+15) (256*h+l)=256*jC a h+jC 15 l:=by
 unfold jC;rw[show(256*h+l) / 16+(256*h+l)=256*(h / 16+h)+(16*(h % 16)+l / 16+l) by omega,rb _ _ Ω Ω,PR _ he _ e]
def four(a b c d:Nat):Nat:=256*(256*(256*d+c)+b)+a
theorem PS{b c d:Nat}(e:a<256)(f:b<256)(h:c<256)(j:d<256):gR 6148914691236517205 (four a b c d)=four (gR 85 a) (gR 85 b) (gR 85 c) (gR 85 d):=by
 unfold four;rw[show 6148914691236517205=256*(256*(256*(256*1431655765+85)+85)+85)+85 from rfl,tK _ _ e,tK _ _ f,tK _ _ h];have:=tK 0 1431655765 j;rw[show 256*0+d=d by omega,show gR 1431655765 0=0 from by unfold gR;simp]at this;rw[this,Nat.mul_zero,X6]
theorem PT{b c d:Nat}(e:a<256)(f:b<256)(h:c<256)(j:d<256):hP 3689348814741910323 (four a b c d)=four (hP 51 a) (hP 51 b) (hP 51 c) (hP 51 d):=by
 unfold four;rw[show 3689348814741910323=256*(256*(256*(256*858993459+51)+51)+51)+51 from rfl,tL _ _ e,tL _ _ f,tL _ _ h];have:=tL 0 858993459 j;rw[show 256*0+d=d by omega,show hP 858993459 0=0 from by unfold hP;simp]at this;rw[this,Nat.mul_zero,X6]
theorem PU{b c d:Nat}(e:a<69)(f:b<69/\b % 16<5)(h:c<69/\c % 16<5)(j:d<69/\d % 16<5):jC 1085102592571150095 (four a b c d)=four (jC 15 a) (jC 15 b) (jC 15 c) (jC 15 d):=by
 unfold four;rw[show 1085102592571150095=256*(256*(256*(256*252645135+15)+15)+15)+15 from rfl,tM _ _ e Ω,tM _ _ f.1 Ω,tM _ _ h.1 Ω];have:=tM 0 252645135 j.1 Ω;rw[show 256*0+d=d by omega,show jC 252645135 0=0 from by unfold jC;simp]at this;rw[this,Nat.mul_zero,X6]
def pz(x:Nat):Nat:=cX (x % 256)+cX (x / 256 % 256)+cX (x / 65536 % 256)+cX (x / 16777216)
theorem PV{x:Nat}(h:x<4294967296):pz x=0↔x=0:=by
 constructor
 .intro a;unfold pz at a;have h1:=(mY (x % 256) Ω).2.2.2.2 Ω;have e:=(mY (x / 256 % 256) Ω).2.2.2.2 Ω;have f:=(mY (x / 65536 % 256) Ω).2.2.2.2 Ω;have j:=(mY (x / 16777216) Ω).2.2.2.2 Ω;omega
 .rintro rfl;decide
theorem Er{x:Nat}(an:x<4294967296):ai x7 Gn [.int .u64 (x:Int)] w λv w'=>v=Δ (pz x:Int)/\Ext w w':=by
 obtain⟨a,b,c,d,G,H,I,J,e,Q,R,S,U⟩:∃a b c d,a<256/\b<256/\c<256/\d<256/\x=four a b c d/\a=x % 256/\b=x / 256 % 256/\c=x / 65536 % 256/\d=x / 16777216:=
  ⟨x % 256,x / 256 % 256,x / 65536 % 256,x / 16777216,Ω,Ω,Ω,Ω,by unfold four;omega,rfl,rfl,rfl,rfl⟩
 obtain⟨V,W,a3,a4,_⟩:=mY a G;obtain⟨X,Y,Z,ao,_⟩:=mY b H;obtain⟨ab,ac,ad,ap,_⟩:=mY c I;obtain⟨d1,d2,d3,d4,_⟩:=mY d J;have g1:=PS G H I J;have L:=PT V X ab d1;have ae:=PU W ⟨Y,Z⟩ ⟨ac,ad⟩ ⟨d2,d3⟩;have af:pz x=cX a+cX b+cX c+cX d:=by unfold pz;rw[<-Q,<-R,<-S,<-U]
 rw[<-e]at g1;have ag:gR 6148914691236517205 x<4294967296:=by rw[g1];unfold four;omega
 have M:hP 3689348814741910323 (gR 6148914691236517205 x)<4294967296:=by rw[g1,L];unfold four;omega
 have A:jC 1085102592571150095 (hP 3689348814741910323 (gR 6148914691236517205 x))=four (cX a) (cX b) (cX c) (cX d):=by rw[g1,L,ae];rfl
 have aj:four (cX a) (cX b) (cX c) (cX d)<4294967296:=by unfold four;omega
 refine az func70 ?_;have s:∀{t:r9}{cx cy:Bool}{K:x1->Prop}(p q:Nat),p+q<18446744073709551616->aa x7 (aJ .add t cx cy (.int .u64 (p:Int)) (.int .u64 (q:Int))) w K=K (.int .u64 ((p+q:Nat):Int)):=λp q h=>by
  rw[aP,wrap_u64 Ω Ω];rfl
 have small:∀(p m:Nat),p &&& m<=p:=λp m=>Nat.and_le_left;rw[show(1:Int)=((1:Nat):Int)from rfl,kY Ω,show(6148914691236517205:Int)=((6148914691236517205:Nat):Int)from rfl,u64_and Ω Ω,u64_and Ω Ω,s (x / 2 ^ 1 &&& 6148914691236517205) (x &&& 6148914691236517205) (by exact Nat.lt_of_le_of_lt (Nat.add_le_add (small _ _) (small _ _)) Ω)];obtain⟨y,B⟩:∃y,(x / 2 ^ 1 &&& 6148914691236517205)+(x &&& 6148914691236517205)=y:=⟨_,rfl⟩;rw[B];have B:gR 6148914691236517205 x=y:=B;rw[B]at ag M A;rw[show(2:Int)=((2:Nat):Int)from rfl,kY Ω,show(3689348814741910323:Int)=((3689348814741910323:Nat):Int)from rfl,u64_and Ω Ω,u64_and Ω Ω,s (y / 2 ^ 2 &&& 3689348814741910323) (y &&& 3689348814741910323) (by exact Nat.lt_of_le_of_lt (Nat.add_le_add (small _ _) (small _ _)) Ω)];obtain⟨z,C⟩:∃z,(y / 2 ^ 2 &&& 3689348814741910323)+(y &&& 3689348814741910323)=z:=⟨_,rfl⟩;rw[C];have C:hP 3689348814741910323 y=z:=C;rw[C]at M A;rw[show(4:Int)=((4:Nat):Int)from rfl,kY Ω,s (z / 2 ^ 4) z Ω,show(1085102592571150095:Int)=((1085102592571150095:Nat):Int)from rfl,u64_and Ω Ω];have A:z / 2 ^ 4+z &&& 1085102592571150095=four (cX a) (cX b) (cX c) (cX d):=A;rw[A];obtain⟨j,E⟩:∃j,four (cX a) (cX b) (cX c) (cX d)=j:=⟨_,rfl⟩;rw[E]at aj ⊢;unfold four at E;rw[show(8:Int)=((8:Nat):Int)from rfl,kY Ω,s j (j / 2 ^ 8) Ω];obtain⟨r,N⟩:∃r,j+j / 2 ^ 8=r:=⟨_,rfl⟩;rw[N];rw[show(16:Int)=((16:Nat):Int)from rfl,kY Ω,s r (r / 2 ^ 16) Ω];obtain⟨f,O⟩:∃f,r+r / 2 ^ 16=f:=⟨_,rfl⟩;rw[O];rw[show(32:Int)=((32:Nat):Int)from rfl,kY Ω,s f (f / 2 ^ 32) Ω,fl fj.u ah.u,wrap_i64 Ω Ω,show(127:Int)=((127:Nat):Int)from rfl,Dn Ω Ω];refine⟨?_,Ext.refl _⟩;rw[af,show 127=2 ^ 7-1 from rfl,Nat.and_two_pow_sub_one_eq_mod];have ak:j / 2 ^ 8=65536*cX d+256*cX c+cX b:=Ω
 have al:r / 2 ^ 16=256*cX d+(cX c+cX d):=Ω
 have P:f / 2 ^ 32=0:=Ω
 have aq:f=128*(131072*cX d+512*(cX c+cX d)+2*(cX b+cX c+cX d))+(cX a+cX b+cX c+cX d):=Ω
 have am:(f+f / 2 ^ 32) % 2 ^ 7=cX a+cX b+cX c+cX d:=by rw[P];clear E N O ak al P;omega
 rw[am]
theorem hz{b n:Nat}(a:kZ b n):ai x7 yM [iL b n] w λr w'=>(∃q:Int,r=Δ q/\(q=0↔b=0))/\Ext w w':=by
 have e:b<4294967296:=by
  have:=a.2;have:(2:Nat) ^ n<=2 ^ 32:=T8 Ω a.1;omega
 refine az func27 ?_;refine bj λg J s f h=>?_;rw[aL bX.p 0 h rfl];refine(Er e).mono ?_;rintro _ U _ ⟨rfl,j⟩;refine⟨⟨_,rfl,?_⟩,f.trans j⟩;rw[<-PV e];omega
def oq(ao:List aw)(w:x3)(ab ac:Nat)(A R:af)(n:aI)(s:am)(a:fZ)(r:x1)(w':x3):Prop:=r=Δ (bf n.k s a).2/\cN ao w ab ac A R n (bf n.k s a).1 w'
section
variable{ao:List aw}{w:x3}{ab ac:Nat}{A R:af}{n:aI}{s:am}{t:aw}{a:fZ}
theorem cN.same(h:bp w ab ac A R n s t)(a:Laid w)(e:¬A 0)(f:dW ao t)(j:Ext w w'):cN ao w ab ac A R n s w':=(eR.start (m:=w.heap.size) (D:=λ_=>False) h a e f j (p8 _)).done (Ext.refl _)
theorem cN.before{s':am}(a:Ext w J)(h:cN ao J ab ac A R n s' w'):cN ao w ab ac A R n s' w':=by
 obtain⟨h1,e,aE,bi,f,j⟩:=h;exact⟨ir a h1,e,aE,bi,(Grow.ext a).trans f,j⟩
theorem xl{j u:Int}{f:cL}{x:bq}(h:er s j pos v=σ (f,u,x)):∃p e u':Nat,j=p/\pos=e/\u=u'/\s.funs[p]?=σ f/\f.live≠0/\f.sc[e]?=σ (u':Int)/\s.vars[u']?=σ x/\v∈ay x/\∀q,f.sc[e]?=σ q->v∈bB s q:=by
 obtain⟨h1,z,A,B,a,C⟩:=mT h;obtain⟨E,r,F,w⟩:=jy C;obtain⟨j,rfl⟩:=U7 h1;obtain⟨pos,rfl⟩:=U7 z;obtain⟨u,rfl⟩:=U7 E;refine⟨j,pos,u,rfl,rfl,rfl,A,B,a,r,w,λu' y=>?_⟩;have a:f.sc[pos]?=σ (u:Int):=a;rw[a]at y;cases y;unfold bB;rw[r];exact w
theorem PW(hk:a.kind=0)(h:bp w ab ac A R n s t)(z:Laid w)(E:¬A 0)(G:dW ao t):ai x7 Gr [Γ ab,Δ a.i,Δ a.pos,Δ a.v,Δ a.c] w (oq ao w ab ac A R n s a):=by
 have K:=h.2.2.2.1;refine az func75 ?_;refine(Eb h).mono ?_;rintro _ J _ ⟨y,u,e,rfl,q⟩;rw[br,bt];have p:bf n.k s a=match er s a.i a.pos a.v with
  |none=>(s,1)
  |some (f,u,x)=>if db n.k a.c (l4 n.k s f a.pos.toNat a.v)≠0 then(s,db n.k a.c (l4 n.k s f a.pos.toNat a.v))else(iY s a.i.toNat f a.pos.toNat u.toNat x a.v (λg=>da n.k g a.c) λg=>cM n.k g a.c,0):=by unfold bf;rw[if_pos hk];cases er s a.i a.pos a.v<;>rfl
 rcases q with⟨rfl,f,x,q⟩|⟨rfl,q⟩
 rotate_left
 .rw[q]at p;rw[bI,aj];exact⟨λ_=>⟨by rw[p],by rw[p];exact cN.same h z E G y⟩,λh=>absurd Φ h⟩
 rw[q]at p;rw[bI,aj];refine⟨λh=>absurd rfl h,λ_=>?_⟩;obtain⟨j,pos,u,V,W,X,H,L,hu,M,Y,Z⟩:=xl q;have aa:=x5 H;simp only[V,W,X,u6]at p ⊢;refine(PO (j:=j) (pos:=pos) (h.ext y) (z.ext y) H L Z).mono ?_;rintro _ U _ ⟨rfl,N⟩;refine(tD (h.ext (y.trans N))).mono ?_;rintro _ ak _ ⟨ad,rfl⟩;have B:=(y.trans N).trans ad;refine dd (λw'=>cN ao w ab ac A R n (bf n.k s a).1 w') ?_ λax O=>?_
 .intro w' ae;refine⟨?_,ae⟩;rw[p];split
  .rfl
  .rename_i r;rw[X3.1 r]
 rw[bd,aj];refine⟨λr=>?_,λr=>O _ ?_⟩
 .obtain⟨C,hm⟩:=lp (λh=>h r);rw[dh (cs:=#[.func (.func nk) #[] #[],.func (.func nl) #[] #[]]) Ψ];have P:∀t∈ce s f.sc pos a.v,a.c<=bn f.ag f.cs t:=λt af=>((og _ _ _).1 hm).2 _ (l9.2 ⟨t,af,rfl⟩);have Q:=hn (v:=a.v.toNat) K M;refine(Ep (t:=t) (F1:=nk) (F2:=nl) (tup:=λg=>da n.k g a.c) (un:=λg=>cM n.k g a.c) (h.ext B) (z.ext B) E G H L hu M Y (λtl S=>?_) ⟨mV Q C.1,λ{w A s t}I=>q5 I Q C⟩).mono ?_
  .have T:=oh (t:=tl) K aa;exact⟨mU T ⟨C.1,P tl S⟩,λ{w A s t}I=>tE I T C (.inr (P tl S))⟩
  .rintro _ al _ ah;refine O _ ?_;rw[p,if_neg (λh=>h r)];exact ah.before B
 .rw[p,if_pos r];exact cN.same h z E G B
theorem PX(hk:a.kind=1)(h:bp w ab ac A R n s t)(E:Laid w)(G:¬A 0)(H:dW ao t):ai x7 Gs [Γ ab,Δ a.i,Δ a.pos,Δ a.v,Δ a.c] w (oq ao w ab ac A R n s a):=by
 have I:=h.2.2.2.1;refine az func76 ?_;refine(Eb h).mono ?_;rintro _ J _ ⟨y,u,e,rfl,q⟩;rw[br,bt];have p:bf n.k s a=match er s a.i a.pos a.v with
  |none=>(s,1)
  |some (f,u,x)=>if db n.k a.c (x.un.getD a.v.toNat 0)≠0 then(s,db n.k a.c (x.un.getD a.v.toNat 0))else(iY s a.i.toNat f a.pos.toNat u.toNat x a.v (λg=>cM n.k g a.c) λg=>da n.k g a.c,0):=by unfold bf;rw[if_neg Ω,if_pos hk];cases er s a.i a.pos a.v<;>rfl
 rcases q with⟨rfl,f,x,q⟩|⟨rfl,q⟩
 rotate_left
 .rw[q]at p;rw[bI,aj];exact⟨λ_=>⟨by rw[p],by rw[p];exact cN.same h E G H y⟩,λh=>absurd Φ h⟩
 rw[q]at p;rw[bI,aj];refine⟨λh=>absurd rfl h,λ_=>?_⟩;obtain⟨j,pos,u,S,T,V,L,W,hu,z,M,ae⟩:=xl q;have X:=x5 L;simp only[S,T,V,u6]at p ⊢;refine(n5 (i:=(u:Int)) (v:=a.v) (h.ext y)).mono ?_;rintro _ U _ ⟨rfl,N⟩;have Y:fY s (u:Int).toNat a.v.toNat=x.un.getD a.v.toNat 0:=by
  unfold fY;rw[u6,z]
 rw[if_pos (oo I z M),Y,br,bt];refine(tD (h.ext (y.trans N))).mono ?_;rintro _ af _ ⟨Z,rfl⟩;have B:=(y.trans N).trans Z;refine dd (λw'=>cN ao w ab ac A R n (bf n.k s a).1 w') ?_ λax O=>?_
 .intro w' aa;refine⟨?_,aa⟩;rw[p];split
  .rfl
  .rename_i r;rw[X3.1 r]
 rw[bd,aj];refine⟨λr=>?_,λr=>O _ ?_⟩
 .obtain⟨C,hm⟩:=lp (λh=>h r);rw[dh (cs:=#[.func (.func nl) #[] #[],.func (.func nk) #[] #[]]) Ψ];have P:=hn (v:=a.v.toNat) I z;refine(Ep (t:=t) (F1:=nl) (F2:=nk) (tup:=λg=>cM n.k g a.c) (un:=λg=>da n.k g a.c) (h.ext B) (E.ext B) G H L W hu z M (λtl ag=>?_) ⟨mU P ⟨C.1,hm⟩,λ{w A s t}K=>tE K P C (.inr hm)⟩).mono ?_
  .have Q:=oh (t:=tl) I X;exact⟨mV Q C.1,λ{w A s t}K=>q5 K Q C⟩
  .rintro _ ah _ ad;refine O _ ?_;rw[p,if_neg (λh=>h r)];exact ad.before B
 .rw[p,if_pos r];exact cN.same h E G H B
end
def gS(s:am)(i:Int):Option bq:=match(if 0<=i then s.vars[i.toNat]? else ν)with
 |some x=>if x.gone=0 then σ x else ν
 |none=>ν
theorem xm{s:am}{i:Int}{x:bq}(h:gS s i=σ x):0<=i/\s.vars[i.toNat]?=σ x/\x.gone=0:=by
 unfold gS at h;by_cases a:0<=i
 .rw[if_pos a]at h;cases e:s.vars[i.toNat]? with
  |none=>rw[e]at h;cases h
  |some y=>
   rw[e]at h;simp only at h;split at h
   .rename_i f;cases h;exact⟨a,rfl,f⟩
   .cases h
 .rw[if_neg a]at h;cases h
theorem Es{g:Int->Int}{un L:Λ}(h:L[j]?=σ v):dV g un (L.take (j+1))=(dV g un (L.take j)).set v.toNat (g ((dV g un (L.take j)).getD v.toNat 0)):=by
 unfold dV;rw[u7,h,o8,List.foldl_append];rfl
theorem Et{i:Nat}{v:Int}:∀(L M:Λ)(s:am),gb s i v (L++M)=gb (gb s i v L) i v M
 |[],_,_=>rfl
 |w::L,M,s=>by
  rw[List.cons_append,gb,gb];exact Et L M _
theorem PY{s:am}{i:Nat}{w:Int}{L:Λ}(h:L[j]?=σ w):gb s i v (L.take (j+1))=if w≠v then dH (gb s i v (L.take j)) i w.toNat else gb s i v (L.take j):=by
 rw[u7,h,o8,Et];rfl
def j3(m u:Int):Int:=if m<0\/u<m then u else m
theorem Eu:∀(l:Λ)(m:Int),0<=m->(∀c∈l,0<=c)->l.foldl j3 m=l.foldl min m
 |[],_,_,_=>rfl
 |c::l,m,hm,a=>by
  have f:=a c (.head _);have e:j3 m c=min m c:=by unfold j3;split<;>omega
  rw[T9,T9,e];exact Eu l _ Ω λc h=>a c (.tail _ h)
theorem PZ{x:bq}(h:∀v∈ay x,0<=x.un.getD v.toNat 0):((ay x).map λv=>x.un.getD v.toNat 0).foldl j3 (-1)=gQ x:=by
 unfold gQ;have a:∀c∈(ay x).map (λv=>x.un.getD v.toNat 0),0<=c:=λc e=>by
  obtain⟨v,f,rfl⟩:=l9.1 e;exact h v f
 generalize (ay x).map (λv=>x.un.getD v.toNat 0)=l at a;cases l with
 |nil=>rfl
 |cons c l=>exact Eu l c (a c (.head _)) λc h=>a c (.tail _ h)
section
variable{ao:List aw}{w:x3}{ab ac:Nat}{A R:af}{n:aI}{s:am}{t:aw}{a:fZ}
theorem Ev{i:Int}(h:bp w ab ac A R n s t):ai x7 GL [Γ ab,Δ i] w λr w'=>Ext w w'/\r=Δ (if(gS s i).isSome=true then 0 else 1):=by
 have p:=h.2.2.2.1;have O:=p.vars;refine az func101 ?_;rw[cP de.u];simp only[j9,aU];refine aT (λr J=>r= .bool (!(gS s i).isSome)/\Ext w J) ?_ ?_
 .rintro _ J ⟨rfl,C⟩;rw[b7];exact⟨λq=>⟨C,by rw[if_neg (by simpa using q)]⟩,λq=>⟨C,by rw[if_pos (by simpa using q)]⟩⟩
 intro ax E;refine(qU (i:=i) h).mono ?_;rintro _ U _ ⟨rfl,y⟩;rw[b7];refine⟨λa=>E _ _ ⟨?_,y⟩,λa=>?_⟩
 .rw[U4,decide_eq_true_eq]at a;have K:gS s i=ν:=by
   unfold gS;rw[if_pos a.1];have B:=a.2;unfold dM at B;cases f:s.vars[i.toNat]? with
   |none=>rfl
   |some x=>
    rw[f]at B;simp only;rw[if_neg λh=>by simp[h]at B]
  rw[K];rfl
 refine(iX (i:=i) (h.ext y)).mono ?_;rintro _ P _ ⟨⟨b,m,rfl,G⟩,L⟩;refine(vn (b:=b) (n:=m)).mono ?_;rintro _ Q _ ⟨rfl,M⟩;rw[bd];refine E _ _ ⟨?_,(y.trans L).trans M⟩;congr 1;by_cases j:0<=i/\i<n.sizes.length
 .obtain⟨x,f⟩:=aF (l:=s.vars) (i:=i.toNat) Ω;obtain⟨z,H⟩:=aF (l:=n.sizes) (i:=i.toNat) Ω;have S:=p.eO.2.2 z (x5 H);have V:=(p.var _ x z f H).1;have hm:=(G.2.2 x j.1 f).1;have N:x.gone=0:=by
   rw[decide_eq_true j.1,T6]at a;unfold dM at a;rw[f]at a;simpa using a
  have e:gS s i=σ x:=by
   unfold gS;rw[if_pos j.1,f];simp only;rw[if_pos N]
  rw[e,decide_eq_false Ω];rfl
 .obtain⟨rfl,rfl⟩:=G.2.1 j;have e:gS s i=ν:=by
   unfold gS;by_cases I:0<=i
   .rw[if_pos I,Y0 Ω]
   .rw[if_neg I]
  rw[e];rfl
theorem Ew{u:Nat}{x:bq}{F1 F2:Q1}{g z:Int->Int}(h:bp w ab ac A R n s t)(aD:Laid w)(a2:¬A 0)(a6:dW ao t)(a:s.vars[u]?=σ x)(h1:∀v∈ay x,(0<=g (x.un.getD v.toNat 0)/\g (x.un.getD v.toNat 0)<=n.k)/\∀{w:x3}{A:af}{s:am}{t:aw},bp w ab ac A R n s t->ai x7 F1 [Γ ab,Δ (x.un.getD v.toNat 0),Δ c] w λr w'=>r=Δ (g (x.un.getD v.toNat 0))/\Ext w w')(aF:(0<=z s.zero/\z s.zero<=n.k)/\∀{w:x3}{A:af}{s':am}{t:aw},bp w ab ac A R n s' t->ai x7 F2 [Γ ab,Δ s.zero,Δ c] w λr w'=>r=Δ (z s.zero)/\Ext w w'):
  ai x7 GN [Γ ab,Δ (u:Int),Δ c,.func (.func F1) #[] #[],.func (.func F2) #[] #[]] w λ_ w'=>cN ao w ab ac A R n (hl s u x g z) w':=by
 have a7:=h.2.2.2.1;have X:=(x4.1 a).1;refine hU func103 ?_;refine bj λg1 J bE aG f=>?_;refine bj λa8 U bF Y B=>?_;refine bj λba bG bH I C=>?_;refine bj λbb p bI K L=>?_;have f:ad p g1 de [Γ ab]:=((ad.ext f Y).ext I).ext K;have B:ad p a8 ah [Δ (u:Int)]:=(ad.ext B I).ext K;have C:ad p ba al [Δ c]:=ad.ext C K;have L:ad p bb IH [.func (.func F1) #[] #[]]:=L;have M:=((aG.trans Y).trans I).trans K;have bJ:=aG.size;have bK:=Y.size;have z3:=I.size;have bL:=M.size;have N:=f.lt;have aH:=B.lt;have aI:=C.lt;have bc:=L.lt;rw[aB (v:=Γ ab) Ψ (f.Qz rfl),aB (v:=Δ (u:Int)) Ψ (B.Qz rfl)];refine(iX (i:=(u:Int)) (h.ext M)).mono ?_;rintro _ bM _ ⟨⟨b,bd,rfl,aJ⟩,aK⟩;refine(mC (b:=b) (n:=bd)).mono ?_;rintro _ O _ ⟨be,aL,rfl,bN,aM⟩;have aN:=kF aJ Ω (show s.vars[(u:Int).toNat]?=σ x by rw[u6];exact a);have E:=aK.trans be;have z5:=aK.size;have z46:=E.size;have bO:=aM.lt;have aO:=q1 x;have bf:eH s u x (dV g x.un ((ay x).take 0))=s:=by
  unfold eH;show{s with vars:=s.vars.set u x}=s;have:s.vars.set u x=s.vars:=by
   apply X2;intro i;by_cases e:u=i
   .subst e;rw[Z0 X,a]
   .rw[Y8 e]
  rw[this]
 refine kf.old ⟨_,false,jd,#[Γ aL],_,_,_,_,λj w'=>eR ao w ab ac A R n w.heap.size (λr=>O.heap.size<=r) (eH s u x (dV g x.un ((ay x).take j))) w'/\ae (λr=>r<w.heap.size\/O.heap.size<=r) O w',λ_ _ _=>False,rfl,(mB (g:=aL) aJ.1).s,?_,
  λ_ _ a h=>⟨h.1.ext a,h.2.ext a⟩,λ_ _ _ a h=>⟨h.1.ext a,h.2.trans (a.V _)⟩,λ_ _ _ _ _ h=>h,⟨aM,aD.ext (M.trans E)⟩,?_,?_,?_,λ_ _ h=>h.elim,λ_ _ _ h=>h.elim⟩
 .rintro _ _ _ _ ⟨_,_,_,_,rfl⟩;rfl
 .refine⟨?_,ae.refl _ _⟩;rw[bf];exact eR.start h aD a2 a6 (M.trans E) (p8 _)
 .rintro _ j _ bg ⟨bh,bP⟩ ⟨bQ,rfl,v,bi,bk⟩ ⟨P,G⟩;cases bk;intro bR Q _ _;have Z:(ay x)[j]?=σ (v:Int):=by rw[<-aN,x8,bi];rfl
  have aP:=x5 Z;have aY:∀{H:x3}{g:Nat}{e:r9}{cs:List x1},Ext bg H->w.heap.size<=g->g<p.heap.size->ad p g e cs->ad H g e cs:=λa aQ aR aa=>((aa.ext E).V G Ω).ext a;obtain⟨bS,bT,ag,aS,aj⟩:=P.open;have aT:eP n (u:Int) (v:Int):=oo a7 a aP;have bl:∀y∈ay x,0<=y/\y<x.un.length:=λy ak=>(fb.1 ak).1;have an:=tv (g:=g) ((ay x).take j) x.un (v:Int) (aO.sublist (List.take_sublist _ _)) (λy ak=>bl y (V5 ak)) Ω;rw[if_neg (xg aO Z)]at an;have bm:fY (eH s u x (dV g x.un ((ay x).take j))) (u:Int).toNat (v:Int).toNat=x.un.getD (v:Int).toNat 0:=by
   unfold fY eH;rw[u6,Z0 X];exact an
  rw[aB (v:=Γ ab) Ψ ((aY Q Ω N f).Qz rfl),aB (v:=Δ (u:Int)) Ψ ((aY Q Ω aH B).Qz rfl)];refine(n5 (i:=(u:Int)) (v:=(v:Int)) (ag.ext Q)).mono ?_;rintro _ bU _ ⟨rfl,bn⟩;rw[if_pos aT,bm,br,bt];intro bo bu _ _;have q:=(Q.trans bn).trans bu;rw[aB (v:=Γ ab) Ψ ((aY q Ω N f).Qz rfl),aB (v:=Δ (u:Int)) Ψ ((aY q Ω aH B).Qz rfl),
   aB (v:=.func (.func F1) #[] #[]) Ψ ((aY q Ω bc L).Qz rfl),aB (v:=Γ ab) Ψ ((aY q Ω N f).Qz rfl),aB (v:=Δ c) Ψ ((aY q Ω aI C).Qz rfl)]
  show ai x7 F1 [Γ ab,Δ (x.un.getD (v:Int).toNat 0),Δ c] bo _;obtain⟨bw,bx⟩:=h1 v aP;refine(bx (ag.ext q)).mono ?_;rintro _ bV _ ⟨rfl,aU⟩;have ap:=q.trans aU;refine⟨.inl aU,(DA (i:=(u:Int)) (v:=(v:Int)) (ag.ext ap) aS.room).mono ?_⟩;rintro r bW _ ⟨_,_,aq⟩;obtain⟨_,au,aE,bz,bA,av,S⟩:=aq aT bw;have e:kD (eH s u x (dV g x.un ((ay x).take j))) (u:Int).toNat (v:Int).toNat (g (x.un.getD (v:Int).toNat 0))=eH s u x (dV g x.un ((ay x).take (j+1))):=by
   rw[Es Z,an];unfold kD eH;rw[u6,Z0 X];simp only[List.set_set]
  rw[e]at S;have bX:=G.size;obtain⟨aV,aW,bY⟩:=aj (D':=λr=>O.heap.size<=r) (ir ap au) ((Grow.ext ap).trans av) S aS.set (λr h=>h) λr aQ aR=>Ω
  exact⟨⟨bh.V aW Ω,aV.2.1.1⟩,⟨aV,G.trans aW⟩,λh=>by cases h⟩
 .rintro k bB rfl ⟨P,G⟩;rw[j0 (by rw[<-aN,u9];exact p8 _)]at P;obtain⟨bZ,b0,ax,aX,aj⟩:=P.open;have aY:∀{H:x3}{g:Nat}{e:r9}{cs:List x1},Ext bB H->w.heap.size<=g->g<p.heap.size->ad p g e cs->ad H g e cs:=λa aQ aR aa=>((aa.ext E).V G Ω).ext a;intro b1 W _ _;have az:=aY W Ω N f;rw[aB (v:=Γ ab) Ψ (az.Qz rfl),aB (v:=Γ ab) Ψ (az.Qz rfl),aB (v:=Γ ab) Ψ (az.Qz rfl),aB (v:=Δ c) Ψ ((aY W Ω aI C).Qz rfl)];refine(qT (ax.ext W)).mono ?_;rintro _ bC _ ⟨rfl,aA⟩;have aZ:=W.trans aA;refine⟨.inl aA,?_⟩;show ai x7 F2 [Γ ab,Δ s.zero,Δ c] bC _;refine(aF.2 (ax.ext aZ)).mono ?_;rintro _ b2 _ ⟨rfl,a1⟩;have aC:=aZ.trans a1;refine⟨.inl (aA.trans a1),(Ov (ax.ext aC) aX.room).mono ?_⟩;rintro r b3 _ ⟨_,aq⟩;obtain⟨_,au,aE,bz,bA,av,S⟩:=aq aF.1;intro b4 bD _;exact(aj (D':=λ_=>True) (ir aC au) ((Grow.ext aC).trans av) S aX.set (λ_ _=>trivial) λ_ _ _=>trivial).1.done bD
end
section
variable{w:x3}{ab ac ak:Nat}{A R:af}{A9:Nat->af}{aA:af}{n:aI}{s u:am}{t:aw}{h:List aw}{cs:List x1}{a:fZ}
theorem P0(hk:a.kind<2):bf n.k u a=match er u a.i a.pos a.v with
  |none=>(u,1)
  |some (f,v,x)=>if db n.k a.c (if a.kind=1 then x.un.getD a.v.toNat 0 else l4 n.k u f a.pos.toNat a.v)≠0 then(u,db n.k a.c (if a.kind=1 then x.un.getD a.v.toNat 0 else l4 n.k u f a.pos.toNat a.v))
   else(iY u a.i.toNat f a.pos.toNat v.toNat x a.v (λg=>if a.kind=0 then da n.k g a.c else cM n.k g a.c) λg=>if a.kind=0 then cM n.k g a.c else da n.k g a.c,0):=by
 unfold bf;by_cases e:a.kind=0
 .rw[if_pos e];simp only[e];cases er u a.i a.pos a.v<;>rfl
 .have h1:a.kind=1:=Ω
  rw[if_neg e,if_pos h1];simp only[h1];cases er u a.i a.pos a.v<;>rfl
theorem getD_some{l:Λ}{i:Nat}(h:i<l.length):l[i]?=σ (l.getD i 0):=by
 rw[v8,x6 h];rfl
theorem P1(p:ca w ab ac ak A R A9 aA n s u t h cs)(G:bh n.k n.sizes u)(bS:cr u)(hk:a.kind<2):ai x7 uJ [Γ ak,Δ (a.kind:Int),Δ a.i,Δ a.pos,Δ a.v,Δ a.c] w λr w'=>r=Δ (bf n.k u a).2/\dr w ab ac ak A R A9 aA n s t h (bf n.k u a).1 w':=by
 have C:=P0 (n:=n) (u:=u) hk;have c2:=G.vars;have bT:=G.fI;refine az func74 ?_;have bU:cs[0]?=σ (Δ n.k):=by obtain⟨_,_,_,_,_,_,rfl,_⟩:=p.od;rfl
 rw[aG aX.p 0 p.box bU,aQ,aj];refine⟨λ_=>?_,λh=>Ω⟩;rw[bJ];refine p.look.load λec bV=>?_;refine(PC bV G bS).mono ?_;rintro _ J _ ⟨aD,rfl⟩;cases aV:er u a.i a.pos a.v with
 |none=>
  rw[aV]at C;simp only;rw[br,bt,bC,W5,bL];exact⟨by rw[C],by rw[C];exact dr.same p aD⟩
 |some q=>
 obtain⟨f,N,x⟩:=q;rw[aV]at C;simp only;rw[br,bt,bC,Y6,aU];obtain⟨j,pos,N,bW,bX,bY,Q,c3,hu,M,b0,aY⟩:=xl aV;have aE:=x5 Q;simp only[bW,bX,bY,u6]at C ⊢;have b1:=(x4.1 Q).1;have bo:=(x4.1 M).1;have b2:=(x4.1 hu).1;obtain⟨b3,c4⟩:=ll G aE;have b4:=D9 G aE aY;have b5:=(fb.1 b0).1;obtain⟨v,S⟩:=U7 b5.1;have bp:=hn (v:=a.v.toNat) G M;have aI:=p.ext aD;have bq:∀{U:x3}{eW:am}{bu:List x1}{bw:Nat->af}{f2:cL},ca U ab ac ak A R bw aA n s eW t h bu->eW.funs[j]?=σ f2->∃W cap X aZ y,bu[6]?=σ (.slice (σ ⟨W,0,ν⟩) eW.funs.length cap)/\j<eW.funs.length/\U.cell? ⟨W,0+j*4+0+0,ν⟩=σ X/\U.cell? ⟨W,0+j*4+0+2,ν⟩=σ y/\aH .i64 U X f2.sc/\aH .i64 U y f2.cs/\
   ∀{w':x3}{m:Nat}{c:Int}{K:Unit->x3->Prop},Ext U w'->m<f2.cs.length->(∀bx,dr U ab ac ak A R bw aA n s t h (dN eW j f2 (f2.cs.set m c)) bx->K () bx)->aa x7 (j5 au y (Δ (m:Int))) w' λa=>aC x7 (o6 al a (Δ c)) w' K:=λb6 aJ=>by
  obtain⟨W,cap,X,aZ,y,b9,bz,cb,cc,Y⟩:=PE b6 aJ;exact⟨W,cap,X,aZ,y,b9,(x4.1 aJ).1,by rw[X6];exact bz 0 _ rfl,by rw[X6];exact bz 2 _ rfl,cb,cc,Y⟩
 obtain⟨W,c5,X,aZ,c6,cd,cg,ch,_,ci,_,_⟩:=bq aI Q;rw[aG aX.p 6 aI.box cd,e3 gh.u fz.i cg λ_=>rfl,aR fz.p rfl,aR a6.p rfl,aB (v:=X) (o:=0+j*4+0+0) Ψ ch,be ap.u ah.i Ψ ci hu];generalize bA:(if a.kind=1 then x.un.getD a.v.toNat 0 else l4 n.k u f pos a.v)=most at C;refine aT (λr U=>r=Δ most/\Ext w U) ?_ λax bB=>?_
 rotate_left
 .rw[bd,aj];refine⟨λh1=>?_,λh1=>bB _ _ ⟨by rw[<-bA,if_neg Ω],aD⟩⟩;have h1:a.kind=1:=Ω
  obtain⟨a1,bD,y,a2,a7,aK,_⟩:=xk aI M;rw[aG aX.p 5 aI.box a2,e3 ei.u au.i bo λ_=>rfl,aB (v:=y) (o:=0+N*1) Ψ (by rw[X6,T0];exact a7),S,be au.u al.i Ψ aK (getD_some Ω)];refine bB _ _ ⟨?_,aD⟩;rw[<-bA,if_pos h1,S,u6]
 rintro _ U ⟨rfl,cj⟩;refine zC.mono ?_;rintro _ c7 _ ⟨rfl,ck⟩;have Z:=cj.trans ck;have bE:cp a.c n.k↔0<=a.c/\a.c<=n.k:=⟨λh=>h.2,λaJ=>⟨bT,aJ⟩⟩;rw[bC,b7];refine⟨λad=>?_,λad=>?_⟩
 .have cl:¬cp a.c n.k:=by simpa using ad
  have E:db n.k a.c most=3:=by unfold db;rw[if_pos λh=>cl (bE.2 h)]
  rw[if_pos (by rw[E];decide),E]at C;exact⟨by rw[C],by rw[C];exact dr.same p Z⟩
 have bF:=bE.1 (show cp a.c n.k by simpa using ad);rw[bP,aj];refine⟨λcm=>?_,λcq=>?_⟩
 .have E:db n.k a.c most=7:=by unfold db;rw[if_neg (λh=>h bF),if_pos cm]
  rw[if_pos (by rw[E];decide),E]at C;exact⟨by rw[C],by rw[C];exact dr.same p Z⟩
 have E:db n.k a.c most=0:=by unfold db;rw[if_neg (λh=>h bF),if_neg cq]
 rw[if_neg (λh=>h E)]at C;have ct:=p.ext Z;rw[bJ];refine ct.look.load λc8 cu=>?_;refine(Eh cu G Q b2 aY).mono ?_;rintro aM a8 _ ⟨cw,ba,cz⟩;have bG:=Z.trans cw;rw[aW ap.u ba];have bH:(lq u f pos a.v).length=(ce u f.sc pos a.v).length:=by unfold lq;rw[u9]
 rw[bH];obtain⟨tup,bb⟩:∃tup:Int->Int,tup=λg=>if a.kind=0 then da n.k g a.c else cM n.k g a.c:=⟨_,rfl⟩;obtain⟨un,bc⟩:∃un:Int->Int,un=λg=>if a.kind=0 then cM n.k g a.c else da n.k g a.c:=⟨_,rfl⟩;rw[<-bb,<-bc]at C;have cA:=p.olds.ext bG;have c9:=p.box.lt;have dc:=Z.size;have cB:∀{w':x3},ae (λr=>(∃q,A9 q r/\r<w.heap.size)\/r=ak) a8 w'->aH .i64 w' aM (lq u f pos a.v):=λcC=>hX ba cC λr E b n c e ad=>by
  have:=cz r ⟨b,n,c,e,ad⟩;rcases E with⟨q,E⟩|E
  .have:=E.2;omega
  .omega
 refine bZ.range (ce u f.sc pos a.v).length (λq w'=>dr a8 ab ac ak A R (λq r=>A9 q r/\r<w.heap.size) aA n s t h (dN u j f (dz tup ((ce u f.sc pos a.v).take q) f.ag f.cs)) w') (by rw[<-bH];exact ba.le) ?_ ?_ ?_
 .rw[List.take_zero,Eo G Q];exact dr.same cA (Ext.refl _)
 .rintro q an cD cE aL cF;obtain⟨tl,bg⟩:=aF (l:=ce u f.sc pos a.v) cE;obtain⟨m,hm⟩:=tB G aE aY (x5 bg);have cG:(lq u f pos a.v)[q]?=σ (m:Int):=by
   unfold lq;rw[x8,bg];unfold ol;rw[Z7,hm];rfl
  obtain⟨bI,bK⟩:=Ea (g:=tup) G Q b4 bg hm;have cH:=(x4.1 (mD b3 hm)).1;have de:m<f.cs.length:=by rw[u6]at cH;omega
  obtain⟨Y,cI,bM,P,bi⟩:=id aL;obtain⟨b8,bO⟩:∃b8,b8=dz tup ((ce u f.sc pos a.v).take q) f.ag f.cs:=⟨_,rfl⟩;have df:b8.length=f.cs.length:=by rw[bO,n8 _ _ _ _ Ω]
  rw[<-bO]at P bI bK;have bR:(dN u j f b8).funs[j]?=σ {f with cs:=b8}:=Z0 b1;obtain⟨aN,cJ,dg,dh,aO,cK,cN,_,bj,_,cO,cP⟩:=bq P bR;have cQ:b8[m]?=σ (bn f.ag f.cs tl):=by
   rw[getD_some Ω,<-bI];unfold bn;rw[hm];simp
  have di:=oh (t:=tl) G aE;have dj:bM[0]?=σ (Δ n.k):=by obtain⟨_,_,_,_,_,_,rfl,_⟩:=P.od;rfl
  have cR:=cB Y;refine bQ Ω ?_;refine dd (λH=>dr a8 ab ac ak A R (λq r=>A9 q r/\r<w.heap.size) aA n s t h (dN u j f (dz tup ((ce u f.sc pos a.v).take (q+1)) f.ag f.cs)) H) (λH O=>by rw[aP];exact cF _ O) λcS cT=>?_;have ao:∀{I:x3},Ext an I->aa x7 (j5 au aO (Δ (m:Int))) I λa'=>aC x7 (o6 al a' (Δ (tup (bn f.ag f.cs tl)))) I λ(_:Unit)H=>cS H:=λbk=>by
   refine cP bk (by show m<b8.length;omega) λH O=>cT _ (dr.comp Y bi ?_);have cU:dN (dN u j f b8) j {f with cs:=b8} (b8.set m (tup (bn f.ag f.cs tl)))=kE (dN u j f b8) j m (tup (bn f.ag f.cs tl)):=by unfold kE;rw[bR];rfl
   rw[cU,bK]at O;exact O
  have row:∀{z:x3}{K:x1->x1->x1->x1->x1->x1->Prop},Ext an z->K (Γ ak) (.pointer (σ ⟨ak,0+6,ν⟩)) (.slice (σ ⟨aN,0,ν⟩) (dN u j f b8).funs.length cJ) (.pointer (σ ⟨aN,0+j*4,ν⟩)) (.pointer (σ ⟨aN,0+j*4+0,ν⟩)) (.pointer (σ ⟨aN,0+j*4+0+2,ν⟩))->
    aa x7 (bN (Γ ak)) z λaq=>aa x7 (u5 aX aq 6) z λav=>aa x7 (u4 gh av) z λaw=>aa x7 (j5 gh aw (Δ (j:Int))) z λay=>aa x7 (u5 fz ay 0) z λaS=>aa x7 (u5 a6 aS 2) z λcV=>K aq av aw ay aS cV:=λM bl=>by
   rw[aG aX.p 6 (P.box.ext M) cK,e3 gh.u fz.i cN λ_=>rfl,aR fz.p rfl,aR a6.p rfl];exact bl
  rw[be ap.u ah.i Ψ cR cG];refine row (Ext.refl _) ?_;rw[aB (v:=aO) (o:=0+j*4+0+2) Ψ bj,be au.u al.i Ψ cO cQ,bd,aj];refine⟨λbm=>?_,λbm=>?_⟩
  .intro z B _ _;refine row B ?_;rw[aB (v:=aO) (o:=0+j*4+0+2) Ψ (iE B bj)];refine(tH Ω Ω).mono ?_;rintro _ I _ ⟨rfl,L⟩;refine⟨.inl L,?_⟩;have:=ao (B.trans L);rw[bb]at this;simp only[if_pos (show a.kind=0 by omega)]at this;exact this
  .intro z B _ _;refine row B ?_;rw[aB (v:=aO) (o:=0+j*4+0+2) Ψ (iE B bj)];refine(nP Ω Ω).mono ?_;rintro _ I _ ⟨rfl,L⟩;refine⟨.inl L,?_⟩;have:=ao (B.trans L);rw[bb]at this;simp only[if_neg (show¬a.kind=0 by omega)]at this;exact this
 .rintro an cD aL;rw[o5]at aL;refine cn Ω ?_;obtain⟨Y,cI,bM,P,bi⟩:=id aL;have cW:(dN u j f (dz tup (ce u f.sc pos a.v) f.ag f.cs)).vars[N]?=σ x:=M;obtain⟨a1,bD,y,a2,a7,aK,cX⟩:=xk P cW;refine dd (λH=>dr w ab ac ak A R A9 aA n s t h (iY u j f pos N x a.v tup un) H) (λH O=>⟨by rw[C],by rw[C];exact O⟩) λcY cZ=>?_;have c0:N<(dN u j f (dz tup (ce u f.sc pos a.v) f.ag f.cs)).vars.length:=bo;have row:∀{z:x3}{K:x1->x1->x1->x1->x1->Prop},Ext an z->K (Γ ak) (.pointer (σ ⟨ak,0+5,ν⟩)) (.slice (σ ⟨a1,0,ν⟩) (dN u j f (dz tup (ce u f.sc pos a.v) f.ag f.cs)).vars.length bD) (.pointer (σ ⟨a1,0+N*1,ν⟩)) y->
    aa x7 (bN (Γ ak)) z λaq=>aa x7 (u5 aX aq 5) z λav=>aa x7 (u4 ei av) z λaw=>aa x7 (j5 ei aw (Δ (N:Int))) z λay=>aa x7 (u4 au ay) z λaS=>K aq av aw ay aS:=λM bl=>by
   rw[aG aX.p 5 (P.box.ext M) a2,e3 ei.u au.i c0 λ_=>rfl,aB (v:=y) (o:=0+N*1) Ψ (by rw[X6,T0];exact iE M a7)];exact bl
  have ao:∀{I:x3},Ext an I->aa x7 (j5 au y (Δ (v:Int))) I λa'=>aC x7 (o6 al a' (Δ (un (x.un.getD v 0)))) I λ(_:Unit)H=>cY H:=λbk=>by
   refine cX bk Ω λH O=>cZ _ ?_;have c1:=dr.comp Y bi O.Ei;have:=dr.comp (A9:=A9) (w:=w) (bG.V _) (λq r E=>.inl ⟨q,E.1⟩) c1;unfold iY;rw[show a.v.toNat=v by omega];exact this
  rw[bd,aj];refine⟨λbm=>?_,λbm=>?_⟩
  .intro z B _ _;refine row B (row B ?_);rw[S,be au.u al.i Ψ (aK.ext B) (getD_some Ω)];rw[S,u6]at bp;refine(nP Ω Ω).mono ?_;rintro _ I _ ⟨rfl,L⟩;refine⟨.inl L,?_⟩;have:=ao (B.trans L);rw[bc]at this;simp only[if_pos (show a.kind=0 by omega)]at this;exact this
  .intro z B _ _;refine row B (row B ?_);rw[S,be au.u al.i Ψ (aK.ext B) (getD_some Ω)];rw[S,u6]at bp;refine(tH Ω Ω).mono ?_;rintro _ I _ ⟨rfl,L⟩;refine⟨.inl L,?_⟩;have:=ao (B.trans L);rw[bc]at this;simp only[if_neg (show¬a.kind=0 by omega)]at this;exact this
end
section
variable{ao:List aw}{w:x3}{ab ac:Nat}{A R:af}{n:aI}{s:am}{t:aw}{a:fZ}
theorem cN.step{aE:af}{s':am}{bi:aw}(h:bp w ab ac A R n s t)(j:Laid w)(f:¬A 0)(a:Ext w J)(p:ae (eg J) J U)(e:Grow A J aE U)(q:bp U ab ac aE R n s' bi)(r:dW ao bi):cN ao w ab ac A R n s' U:=by
 refine⟨ir a p,hx e.1 f (j.ext a),aE,bi,(Grow.ext a).trans e,q,r,λx=>(e.2.1 0 x).elim f λy=>?_⟩;obtain⟨z,B,C,E,⟨h1,_⟩,_⟩:=h.1;have:=h.lt (.inl h1);have:=a.size;omega
theorem xn(hk:a.kind=2):bf n.k s a=match gS s a.i with
  |none=>(s,1)
  |some x=>if db n.k a.c (gQ x)≠0 then(s,db n.k a.c (gQ x))else(hl s a.i.toNat x (λg=>da n.k g a.c) λg=>cM n.k g a.c,0):=by
 unfold bf gS;rw[if_neg Ω,if_neg Ω,if_pos hk];cases (if 0<=a.i then s.vars[a.i.toNat]? else ν)with
 |none=>rfl
 |some x=>
  simp only;by_cases e:x.gone=0
  .rw[if_neg Ω,if_pos e]
  .rw[if_pos e,if_neg e]
theorem xo(hk:a.kind=3):bf n.k s a=match gS s a.i with
  |none=>(s,1)
  |some x=>if db n.k a.c (if ay x=[]then-1 else s.zero)≠0 then(s,db n.k a.c (if ay x=[]then-1 else s.zero))else(hl s a.i.toNat x (λg=>cM n.k g a.c) λg=>da n.k g a.c,0):=by
 unfold bf gS;rw[if_neg Ω,if_neg Ω,if_neg Ω,if_pos hk];cases (if 0<=a.i then s.vars[a.i.toNat]? else ν)with
 |none=>rfl
 |some x=>
  simp only;by_cases e:x.gone=0
  .rw[if_neg Ω,if_pos e]
  .rw[if_pos e,if_neg e]
theorem Ex(hk:a.kind=2)(h:bp w ab ac A R n s t)(M:Laid w)(aa:¬A 0)(af:dW ao t):ai x7 F9 [Γ ab,Δ a.i,Δ a.c] w (oq ao w ab ac A R n s a):=by
 have E:=h.2.2.2.1;have f:=xn (n:=n) (s:=s) hk;refine hU func55 ?_;refine bj λg1 J bH aF G=>?_;refine bj λag U bJ ak H=>?_;have G:ad U g1 de [Γ ab]:=ad.ext G ak;have H:ad U ag ah [Δ a.i]:=H;have am:=aF.trans ak;have bK:=aF.size;have bL:=ak.size;have bM:=G.lt;have bN:=H.lt;rw[aB (v:=Γ ab) Ψ (G.Qz rfl),aB (v:=Δ a.i) Ψ (H.Qz rfl)];refine(Ev (i:=a.i) (h.ext am)).mono ?_;rintro _ bO _ ⟨an,rfl⟩;have aZ:=am.trans an;have z3:=an.size;cases B:gS s a.i with
 |none=>
  rw[B]at f;rw[if_neg Ξ,bI,aj];refine⟨λ_=>?_,λh=>absurd Φ h⟩;intro a1 a2 _;exact⟨by rw[f],by rw[f];exact cN.same h M aa af (aZ.trans a2)⟩
 |some x=>
 rw[B]at f;simp only at f;obtain⟨aG,e,bP⟩:=xm B;obtain⟨u,hu⟩:=U7 aG;rw[hu,u6]at e;rw[hu,u6]at f;rw[if_pos (by rfl),bI,aj];refine⟨λh=>absurd rfl h,λ_=>?_⟩;refine bz al.i λN bQ bR aH aI=>?_;refine bk al.i rfl rfl aI (by simp[x1.cells]) λO ap bS P=>?_;have P:ad O N al [Δ (-1)]:=P;have z5:=aH.size;have bT:=aI.lt;have aq:=an.trans aH;have au:ad O g1 de [Γ ab]:=(G.ext aq).V ap Ω;have av:ad O ag ah [Δ a.i]:=(H.ext aq).V ap Ω;have Q:Ext w O:=(am.trans aq).then ap (by rintro r aJ rfl;omega);rw[aB (v:=Γ ab) Ψ (au.Qz rfl),aB (v:=Δ a.i) Ψ (av.Qz rfl)];refine(iX (i:=a.i) (h.ext Q)).mono ?_;rintro _ bU _ ⟨⟨b,a6,rfl,aK⟩,aL⟩;refine(mC (b:=b) (n:=a6)).mono ?_;rintro _ a7 _ ⟨a8,aM,rfl,bV,aN⟩;have aO:=kF aK aG (show s.vars[a.i.toNat]?=σ x by rw[hu,u6];exact e);have p:=aL.trans a8;have bW:=aL.size;have bX:=aN.lt;have bY:=P.lt;have aP:∀j (v:Nat),(ay x)[j]?=σ (v:Int)->(((ay x).take (j+1)).map λv=>x.un.getD v.toNat 0).foldl j3 (-1)=j3 ((((ay x).take j).map λv=>x.un.getD v.toNat 0).foldl j3 (-1)) (x.un.getD v 0):=λj v aR=>by
  rw[u7,aR,o8,Z4,List.foldl_append];rfl
 refine kf.old ⟨_,false,jd,#[Γ aM],_,_,_,_,λj w'=>ae (λr=>r=N) a7 w'/\ad w' N al [Δ ((((ay x).take j).map λv=>x.un.getD v.toNat 0).foldl j3 (-1))],λ_ _ _=>False,rfl,(mB (g:=aM) aK.1).s,?_,
  λ_ _ e h=>⟨h.1.ext e,h.2.ext e⟩,λ_ _ _ e h=>⟨h.1.trans (e.V _),h.2.ext e⟩,λ_ _ _ _ _ h=>h,⟨aN,M.ext (Q.trans p)⟩,⟨ae.refl _ _,P.ext p⟩,?_,?_,λ_ _ h=>h.elim,λ_ _ _ h=>h.elim⟩
 .rintro _ _ _ _ ⟨_,_,_,_,rfl⟩;rfl
 .rintro _ j _ ba ⟨aS,aU⟩ ⟨aR,rfl,v,bb,bc⟩ ⟨y,S⟩;cases bc;intro be aV _ _;have aw:(ay x)[j]?=σ (v:Int):=by rw[<-aO,x8,bb];rfl
  have bg:=oo E e (x5 aw);have az:=y.trans (aV.V _);have bh:Ext w be:=(Q.trans p).then az (by rintro r aJ rfl;omega);rw[aB (v:=Γ ab) Ψ (((au.ext p).V az Ω).Qz rfl),aB (v:=Δ a.i) Ψ (((av.ext p).V az Ω).Qz rfl)];refine(n5 (i:=a.i) (v:=(v:Int)) (h.ext bh)).mono ?_;rintro _ bl _ ⟨rfl,bm⟩;have bn:fY s a.i.toNat (v:Int).toNat=x.un.getD v 0:=by
   unfold fY;rw[hu,u6,e];rfl
  rw[if_pos (by rw[hu];exact bg),bn,br,bt];have I:=aV.trans bm;have K:=S.ext I;refine aT (λr bo=>(r= .bool (decide ((((ay x).take j).map λv=>x.un.getD v.toNat 0).foldl j3 (-1)<0\/x.un.getD v 0<(((ay x).take j).map λv=>x.un.getD v.toNat 0).foldl j3 (-1))))/\bo=bl) ?_ λax L=>?_
  .rintro _ _ ⟨rfl,rfl⟩;rw[aj];refine⟨λW=>?_,λX=>?_⟩
   .refine bk al.i rfl rfl K Ξ λbq bu bZ bw=>?_;have q:ae (λr=>r=N) ba bq:=(I.V _).trans bu;refine⟨⟨aS.V q Ω,hx q Ω aU⟩,⟨y.trans q,?_⟩,λh=>by cases h⟩;rw[aP j v aw];unfold j3 at W ⊢;rw[if_pos W];exact bw
   .refine⟨⟨aS.ext I,aU.ext I⟩,⟨y.trans (I.V _),?_⟩,λh=>by cases h⟩;rw[aP j v aw];unfold j3 at X K ⊢;rw[if_neg X];exact K
  rw[aB (v:=Δ _) Ψ (K.Qz rfl),aQ,aj];refine⟨λW=>L _ _ ⟨by rw[decide_eq_true (Or.inl W)],rfl⟩,λX=>?_⟩;rw[aB (v:=Δ _) Ψ (K.Qz rfl),aQ];refine L _ _ ⟨?_,rfl⟩;congr 1;exact decide_eq_decide.2 ⟨.inr,λh=>h.resolve_left X⟩
 .rintro k aA rfl ⟨y,S⟩;rw[j0 (by rw[<-aO,u9];exact p8 _),PZ λv _=>(hn E e).1]at S;have aW:Ext w aA:=(Q.trans p).then y (by rintro r aJ rfl;omega);have aX:ad aA g1 de [Γ ab]:=(au.ext p).V y Ω;have bx:ad aA ag ah [Δ a.i]:=(av.ext p).V y Ω;rw[aB (v:=Γ ab) Ψ (aX.Qz rfl),aB (v:=Δ (gQ x)) Ψ (S.Qz rfl)];refine(tD (h.ext aW)).mono ?_;rintro _ b0 _ ⟨aC,rfl⟩;have Y:=aW.trans aC;refine dd (λw'=>cN ao w ab ac A R n (bf n.k s a).1 w') ?_ λax L=>?_
  .intro w' bA b1 Z _;obtain⟨bB,bC,aE,bi,bD,bE,bF⟩:=bA;refine⟨?_,bB.trans (Z.V _),bC.ext Z,aE,bi,bD.trans (Grow.ext Z),bE.ext Z,bF⟩;rw[f];split
   .rfl
   .rename_i C;rw[X3.1 C]
  rw[bd,aj];refine⟨λC=>?_,λC=>L _ ?_⟩
  .obtain⟨q,hm⟩:=lp (λh=>h C);rw[aB (v:=Γ ab) Ψ ((aX.ext aC).Qz rfl),aB (v:=Δ a.i) Ψ ((bx.ext aC).Qz rfl),hu];refine(Ew (t:=t) (u:=u) (F1:=nk) (F2:=nl) (g:=λg=>da n.k g a.c) (z:=λg=>cM n.k g a.c) (h.ext Y) (M.ext Y) aa af e (λv B=>?_) ⟨mV E.zero q.1,λ{w A s' t}aD=>q5 aD E.zero q⟩).mono ?_
   .have aY:=hn (v:=v.toNat) E e;exact⟨mU aY ⟨q.1,xb B hm⟩,λ{w A s t}aD=>tE aD aY q (.inr (xb B hm))⟩
   .rintro _ a1 _ bG;refine L _ ?_;rw[f,if_neg (λh=>h C)];exact bG.before Y
  .rw[f,if_pos C];exact cN.same h M aa af Y
theorem P2{b m:Nat}{i:Int}{x:bq}(p:tk s n i b m)(hi:0<=i)(q:s.vars[i.toNat]?=σ x):b=0↔ay x=[]:=by
 have a:=kF p hi q;constructor
 .rintro rfl;rw[<-a];have:fR 0 m=[]:=List.eq_nil_iff_forall_not_mem.2 λv e=>by
   have:=(vl.1 e).2;simp at this
  rw[this];rfl
 .intro he;rw[he]at a;have e:=List.map_eq_nil_iff.1 a;refine Nat.eq_of_testBit_eq λj=>?_;rw[Nat.zero_testBit];cases f:b.testBit j with
  |false=>rfl
  |true=>
   have r:j<m:=by
    rcases Nat.lt_or_ge j m with h|h
    .exact h
    .have:=Nat.testBit_lt_two_pow (x:=b) (i:=j) (T7 p.1.2 (T8 Ω h));rw[this]at f;cases f
   have:j∈fR b m:=vl.2 ⟨r,f⟩;rw[e]at this;cases this
theorem P3(hk:a.kind=3)(h:bp w ab ac A R n s t)(G:Laid w)(H:¬A 0)(I:dW ao t):ai x7 Gt [Γ ab,Δ a.i,Δ a.c] w (oq ao w ab ac A R n s a):=by
 have K:=h.2.2.2.1;have f:=xo (n:=n) (s:=s) hk;refine az func77 ?_;refine(Ev (i:=a.i) h).mono ?_;rintro _ J _ ⟨L,rfl⟩;cases y:gS s a.i with
 |none=>
  rw[y]at f;rw[if_neg Ξ,bI,aj];exact⟨λ_=>⟨by rw[f],by rw[f];exact cN.same h G H I L⟩,λh=>absurd Φ h⟩
 |some x=>
 rw[y]at f;simp only at f;obtain⟨N,B,ah⟩:=xm y;rw[if_pos (by rfl),bI,aj];refine⟨λh=>absurd rfl h,λ_=>?_⟩;refine(qT (h.ext L)).mono ?_;rintro _ U _ ⟨rfl,Y⟩;have O:=L.trans Y;refine aT (λr w'=>r=Δ (if ay x=[]then-1 else s.zero)/\Ext w w') ?_ λax p=>?_
 .rintro _ ak ⟨rfl,P⟩;refine(tD (h.ext P)).mono ?_;rintro _ al _ ⟨Z,rfl⟩;have C:=P.trans Z;refine dd (λw'=>cN ao w ab ac A R n (bf n.k s a).1 w') ?_ λax p=>?_
  .intro w' aa;refine⟨?_,aa⟩;rw[f];generalize (if ay x=[]then(-1:Int)else s.zero)=am;split
   .rfl
   .rename_i j;rw[X3.1 j]
  rw[bd,aj];refine⟨λj=>?_,λj=>p _ ?_⟩
  .obtain⟨E,hm⟩:=lp (λh=>h j);have Q:a.c<=s.zero:=by
    split at hm
    .omega
    .exact hm
   obtain⟨u,hu⟩:=U7 N;rw[hu,u6]at B;rw[hu];refine(Ew (t:=t) (u:=u) (F1:=nl) (F2:=nk) (g:=λg=>cM n.k g a.c) (z:=λg=>da n.k g a.c) (h.ext C) (G.ext C) H I B (λv y=>?_) ⟨mU K.zero ⟨E.1,Q⟩,λ{w A s' t}M=>tE M K.zero E (.inr Q)⟩).mono ?_
   .have S:=hn (v:=v.toNat) K B;exact⟨mV S E.1,λ{w A s t}M=>q5 M S E⟩
   .rintro _ an _ ad;refine p _ ?_;rw[f,if_neg (λh=>h j),hu,u6];exact ad.before C
  .rw[f,if_pos j];exact cN.same h G H I C
 refine(iX (i:=a.i) (h.ext O)).mono ?_;rintro _ ap _ ⟨⟨b,ae,rfl,T⟩,af⟩;refine(hz (b:=b) (n:=ae) T.1).mono ?_;rintro _ aq _ ⟨⟨q,rfl,V⟩,ag⟩;have W:=(O.trans af).trans ag;have X:=P2 T N B;rw[bd,aj];refine⟨λh=>p _ _ ⟨by rw[if_pos (X.1 (V.1 h))],W⟩,λh=>p _ _ ⟨by rw[if_neg λe=>h (V.2 (X.2 e))],W⟩⟩
theorem Ey(hk:a.kind=4)(h:bp w ab ac A R n s t)(j:Laid w)(p:¬A 0)(f:dW ao t):ai x7 Gu [Γ ab,Δ a.i,Δ a.v] w (oq ao w ab ac A R n s a):=by
 have q:=h.2.2.2.1;have e:bf n.k s a=match dA s a.i a.v with
  |none=>(s,1)
  |some x=>if cM n.k s.zero (x.un.getD a.v.toNat 0)<n.k then(s,7)else(dH s a.i.toNat a.v.toNat,0):=by
  unfold bf;rw[if_neg Ω,if_neg Ω,if_neg Ω,if_neg Ω,if_pos hk];cases dA s a.i a.v<;>rfl
 refine az func78 ?_;refine(xh h).mono ?_;rintro _ J _ ⟨z,rfl⟩;cases B:dA s a.i a.v with
 |none=>
  rw[B]at e;rw[if_neg Ξ,bI,aj];exact⟨λ_=>⟨by rw[e],by rw[e];exact cN.same h j p f z⟩,λh=>absurd Φ h⟩
 |some x=>
 rw[B]at e;simp only at e;obtain⟨Z,C,aa,L⟩:=jy B;rw[if_pos (by rfl),bI,aj];refine⟨λh=>absurd rfl h,λ_=>?_⟩;have G:eP n a.i a.v:=by
  have:=oo q C L;rwa [show((a.i.toNat:Nat):Int)=a.i by omega]at this
 refine(n5 (i:=a.i) (v:=a.v) (h.ext z)).mono ?_;rintro _ U _ ⟨rfl,M⟩;have N:fY s a.i.toNat a.v.toNat=x.un.getD a.v.toNat 0:=by
  unfold fY;rw[C]
 rw[if_pos G,N,br,bt];have H:=z.trans M;refine(qT (h.ext H)).mono ?_;rintro _ ad _ ⟨rfl,O⟩;have I:=H.trans O;refine(q5 (h.ext I) q.zero (hn q C)).mono ?_;rintro _ ae _ ⟨rfl,P⟩;have K:=I.trans P;refine(mP (h.ext K)).mono ?_;rintro _ af _ ⟨rfl,Q⟩;have E:=K.trans Q;rw[aQ,aj];refine⟨λS=>?_,λT=>?_⟩
 .rw[if_pos S]at e;exact⟨by rw[e],by rw[e];exact cN.same h j p f E⟩
 .rw[if_neg T]at e;refine(wO (i:=a.i) (v:=a.v) (h.ext E) f.room).mono ?_;rintro r ag _ ⟨_,V⟩;obtain⟨rfl,W,aE,y,X,Y⟩:=V G;refine⟨by rw[e],?_⟩;rw[e];exact cN.step h j p E W X Y f.set
theorem P4(hk:5<=a.kind)(h:bp w ab ac A R n s t)(P:Laid w)(W:¬A 0)(X:dW ao t):ai x7 Gv [Γ ab,Δ a.i,Δ a.v] w (oq ao w ab ac A R n s a):=by
 have aw:=h.2.2.2.1;have q:bf n.k s a=match dA s a.i a.v with
  |none=>(s,1)
  |some x=>(gb s a.i.toNat a.v (ay x),0):=by
  unfold bf;rw[if_neg Ω,if_neg Ω,if_neg Ω,if_neg Ω,if_neg Ω];cases dA s a.i a.v<;>rfl
 refine hU func79 ?_;refine bj λg1 J aZ Y z=>?_;refine bj λax U a1 Q B=>?_;refine bj λaz C a2 K E=>?_;have z:ad C g1 de [Γ ab]:=(ad.ext z Q).ext K;have B:ad C ax ah [Δ a.i]:=ad.ext B K;have E:ad C az ah [Δ a.v]:=E;have L:=(Y.trans Q).trans K;have a6:=Y.size;have a7:=Q.size;have z3:=K.size;have aA:=z.lt;have aC:=B.lt;have aD:=E.lt;rw[aB (v:=Γ ab) Ψ (z.Qz rfl),aB (v:=Δ a.i) Ψ (B.Qz rfl),aB (v:=Δ a.v) Ψ (E.Qz rfl)];refine(xh (h.ext L)).mono ?_;rintro _ a8 _ ⟨G,rfl⟩;have Z:=L.trans G;have z4:=G.size;cases S:dA s a.i a.v with
 |none=>
  rw[S]at q;rw[if_neg Ξ,bI,aj];refine⟨λ_=>?_,λh=>absurd Φ h⟩;intro ba aF _;exact⟨by rw[q],by rw[q];exact cN.same h P W X (Z.trans aF)⟩
 |some x=>
 rw[S]at q;simp only at q;obtain⟨aG,f,bb,bc⟩:=jy S;rw[if_pos (by rfl),bI,aj];refine⟨λh=>absurd rfl h,λ_=>?_⟩;rw[aB (v:=Γ ab) Ψ ((z.ext G).Qz rfl),aB (v:=Δ a.i) Ψ ((B.ext G).Qz rfl)];refine(iX (i:=a.i) (h.ext Z)).mono ?_;rintro _ bd _ ⟨⟨b,aH,rfl,aa⟩,af⟩;refine(mC (b:=b) (n:=aH)).mono ?_;rintro _ M _ ⟨aI,ag,rfl,be,ak⟩;have al:=kF aa aG f;have N:=(G.trans af).trans aI;have bg:=af.size;have bh:=N.size;have bi:=ak.lt;refine kf.old ⟨_,false,jd,#[Γ ag],_,_,_,_,λj w'=>eR ao w ab ac A R n w.heap.size (λr=>M.heap.size<=r) (gb s a.i.toNat a.v ((ay x).take j)) w'/\ae (λr=>r<w.heap.size\/M.heap.size<=r) M w',λ_ _ _=>False,rfl,(mB (g:=ag) aa.1).s,?_,
  λ_ _ f h=>⟨h.1.ext f,h.2.ext f⟩,λ_ _ _ f h=>⟨h.1.ext f,h.2.trans (f.V _)⟩,λ_ _ _ _ _ h=>h,⟨ak,P.ext (L.trans N)⟩,⟨eR.start h P W X (L.trans N) (p8 _),ae.refl _ _⟩,?_,?_,λ_ _ h=>h.elim,λ_ _ _ h=>h.elim⟩
 .rintro _ _ _ _ ⟨_,_,_,_,rfl⟩;rfl
 .rintro _ j _ bk ⟨am,aJ⟩ ⟨bl,rfl,v,aK,aL⟩ ⟨H,I⟩;cases aL;intro aM p _ _;have an:(ay x)[j]?=σ (v:Int):=by rw[<-al,x8,aK];rfl
  have aN:eP n a.i (v:Int):=by
   have:=oo aw f (x5 an);rwa [show((a.i.toNat:Nat):Int)=a.i by omega]at this
  have aY:∀{g:Nat}{e:r9}{cs:List x1},w.heap.size<=g->g<C.heap.size->ad C g e cs->ad aM g e cs:=λaO aP aQ=>((aQ.ext N).V I Ω).ext p;have O:=PY (s:=s) (i:=a.i.toNat) (v:=a.v) an;obtain⟨bm,bn,aR,ap,aS⟩:=H.open;rw[aB (v:=Δ a.v) Ψ ((aY Ω aD E).Qz rfl),bI,aj];refine⟨λaT=>?_,λhe=>?_⟩
  .rw[if_pos aT]at O;rw[aB (v:=Γ ab) Ψ ((aY Ω aA z).Qz rfl),aB (v:=Δ a.i) Ψ ((aY Ω aC B).Qz rfl)];refine(wO (i:=a.i) (v:=(v:Int)) (aR.ext p) ap.room).mono ?_;rintro r bo _ ⟨_,aU⟩;obtain⟨rfl,aV,aE,y,aW,aq⟩:=aU aN;rw[<-O]at aq;have bq:=I.size;obtain⟨au,av,br⟩:=aS (D':=λr=>M.heap.size<=r) (ir p aV) ((Grow.ext p).trans aW) aq ap.set (λr h=>h) λr aO aP=>Ω
   exact⟨⟨am.V av Ω,au.2.1.1⟩,⟨au,I.trans av⟩,λh=>by cases h⟩
  .rw[if_neg he]at O;exact⟨⟨am.ext p,aJ.ext p⟩,⟨by rw[O];exact H.ext p,I.trans (p.V _)⟩,λh=>by cases h⟩
 .rintro k bt rfl ⟨H,I⟩;rw[j0 (by rw[<-al,u9];exact p8 _)]at H;intro bu aX _;exact⟨by rw[q],by rw[q];exact H.done aX⟩
end
theorem P5{cG:x1}{l:Λ}(h:aH .i64 w cG l)(N:l.length<=1000000):ai x7 G8 [cG,Δ v] w λr w'=>Ext w w'/\(∃g,aq .i64 ah w' g r (l.filter λy=>!decide (y=v)))/\∀q,leads r q->w.heap.size<=q:=by
 refine az func144 ?_;rw[aW ap.u h];refine cd.range l.length (λi out f=>Ext w f/\(∃g,aq .i64 ah f g out ((l.take i).filter λy=>!decide (y=v)))/\∀r,leads out r->w.heap.size<=r) h.le ⟨Ext.refl _,⟨0,aq.nil _ _ _ _⟩,λr B=>by obtain⟨_,_,_,e,_⟩:=B;cases e⟩ ?_ ?_
 .rintro q out f C E ⟨a,⟨g,hm⟩,j⟩ G;obtain⟨y,p⟩:=aF (l:=l) E;have s:(l.take (q+1)).filter (λy=>!decide (y=v))=(l.take q).filter (λy=>!decide (y=v))++(if y≠v then[y]else[]):=by
   rw[u7,p,o8,List.filter_append];congr 1;by_cases ao:y=v<;>simp[ao]
  refine bQ Ω ?_;refine aT (λx z=>Ext w z/\(∃g,aq .i64 ah z g x ((l.take (q+1)).filter λy=>!decide (y=v)))/\∀r,leads x r->w.heap.size<=r) (λ_ _ H=>by rw[aP];exact G _ _ H) λax A=>?_;rw[be ap.u ah.i Ψ (h.ext a) p,bI,aj];refine⟨λI=>?_,λhe=>A _ _ ⟨a,⟨g,by rw[s,if_neg he,W7];exact hm⟩,j⟩⟩;refine Ee (w0:=w) a hm j ?_ λO w' J K L M=>A _ _ ⟨K,⟨J,by rw[s,if_pos I];exact L⟩,M⟩;have h1:=List.length_filter_le (λy=>!decide (y=v)) (l.take q);rw[o7]at h1;omega
 .rintro out f C ⟨a,hm,j⟩;rw[o5]at hm;refine cn Ω ?_;exact⟨a,hm,j⟩
theorem xp{i:Nat}{v:Int}:∀(L:Λ)(s:am)(x:bq),s.vars[i]?=σ x->(∀y∈L,0<=y)->∃m,gb s i v L={s with vars:=s.vars.set i {x with mask:=m}}/\ay {x with mask:=m}=(ay x).filter λy=>!(decide (y∈L)&& !decide (y=v))
 |[],s,x,f,_=>by
  refine⟨x.mask,?_,(List.filter_eq_self.2 λy _=>Ξ).symm⟩;have:s.vars.set i x=s.vars:=by
   apply X2;intro q;by_cases e:i=q
   .subst e;rw[Z0 (x4.1 f).1,f]
   .rw[Y8 e]
  show s={s with vars:=s.vars.set i x};rw[this]
 |w::L,s,x,f,j=>by
  have hw:=j w (.head _);have z:=(x4.1 f).1;rw[gb];by_cases e:w≠v
  .rw[if_pos e];have r:dH s i w.toNat={s with vars:=s.vars.set i {x with mask:=((x.mask.toNat ||| 2 ^ w.toNat:Nat):Int)}}:=by unfold dH;rw[f]
   obtain⟨m,h1,p⟩:=xp L (dH s i w.toNat) {x with mask:=((x.mask.toNat ||| 2 ^ w.toNat:Nat):Int)} (by rw[r];exact Z0 z) λy a=>j y (.tail _ a);refine⟨m,?_,?_⟩
   .rw[h1,r];simp only[List.set_set]
   .rw[p,w9 hw,List.filter_filter];refine List.filter_congr λy _=>?_;by_cases a:y=w
    .subst a;simp[e]
    .simp[a]
  .rw[if_neg e];obtain⟨m,h1,p⟩:=xp L s x f λy a=>j y (.tail _ a);refine⟨m,h1,?_⟩;rw[p];have e:=X3.1 e;refine List.filter_congr λy _=>?_;by_cases a:y=v
   .simp[a]
   .have:y≠w:=λh=>a (h.trans e);simp[a,this]
theorem filter_one{l:Λ}(j:l.Nodup)(f:v∈l):l.filter (λy=>decide (y=v))=[v]:=by
 induction l with
 |nil=>cases f
 |cons a l p=>
  have h:=List.nodup_cons.1 j;by_cases e:a=v
  .subst e;rw[List.filter_cons_of_pos Ξ,List.filter_eq_nil_iff.2 λx q=>by simp;intro r;exact h.1 (r▸q)]
  .rw[List.filter_cons_of_neg (by simpa using e)];exact p h.2 ((V3.1 f).resolve_left (Ne.symm e))
def jD(u:am)(a:fZ):Option bq:=if 3<a.kind then dA u a.i a.v else gS u a.i
section
variable{w:x3}{ab ac ak:Nat}{A R:af}{A9:Nat->af}{aA:af}{n:aI}{s u:am}{t:aw}{h:List aw}{cs:List x1}{a:fZ}
theorem Ez{x:bq}(h:jD u a=σ x):0<=a.i/\u.vars[a.i.toNat]?=σ x/\x.gone=0/\(3<a.kind->a.v∈ay x):=by
 unfold jD at h;split at h
 .obtain⟨h1,e,f,j⟩:=jy h;exact⟨h1,e,f,λ_=>j⟩
 .rename_i hk;obtain⟨h1,e,f⟩:=xm h;exact⟨h1,e,f,λh=>absurd h hk⟩
theorem P6(h:¬(0<=a.i/\a.i<u.vars.length)):jD u a=ν:=by
 cases he:jD u a with
 |none=>rfl
 |some x=>
  obtain⟨h1,e,_⟩:=Ez he;exact absurd ⟨h1,by have:=(x4.1 e).1;omega⟩ h
theorem P7{x:bq}(e:0<=a.i)(f:u.vars[a.i.toNat]?=σ x):jD u a=if x.gone=0/\(3<a.kind->a.v∈ay x)then σ x else ν:=by
 unfold jD;by_cases hk:3<a.kind
 .rw[if_pos hk];unfold dA;rw[if_pos e,f];simp only[hk,true_implies]
 .rw[if_neg hk];unfold gS;rw[if_pos e,f];simp only[hk,false_implies,and_true]
theorem P8(hk:2<=a.kind/\a.kind<=5)(h:jD u a=ν):bf n.k u a=(u,1):=by
 unfold jD at h;by_cases e:3<a.kind
 .rw[if_pos e]at h;unfold bf;rw[if_neg Ω,if_neg Ω,if_neg Ω,if_neg Ω,h];split<;>rfl
 .rw[if_neg e]at h;by_cases f:a.kind=2
  .rw[xn f,h]
  .rw[xo Ω,h]
theorem EA{x:bq}(q:0<=c):gQ x<c↔ay x=[]\/∃v∈ay x,x.un.getD v.toNat 0<c:=by
 unfold gQ;constructor
 .intro h;cases e:ay x with
  |nil=>exact .inl rfl
  |cons b l=>
   refine .inr ?_;rw[e]at h;simp only[T4]at h;by_cases f:∀v∈b::l,c<=x.un.getD v.toNat 0
   .have:=(og (l.map λv=>x.un.getD v.toNat 0) (x.un.getD b.toNat 0) c).2 ⟨f b (.head _),λy j=>by obtain⟨v,a,rfl⟩:=l9.1 j;exact f v (.tail _ a)⟩;omega
   .simp only[Classical.not_forall]at f;obtain⟨v,a,r⟩:=f;exact⟨v,a,Ω⟩
 .rintro (h|⟨v,a,s⟩)
  .rw[h];show(-1:Int)<c;omega
  .cases e:ay x with
   |nil=>rw[e]at a;cases a
   |cons b l=>
    rw[e]at a;simp only[T4];rcases Int.lt_or_le ((l.map λv=>x.un.getD v.toNat 0).foldl min (x.un.getD b.toNat 0)) c with ao|ao
    .exact ao
    .obtain⟨w,p⟩:=(og _ _ _).1 ao;rcases V3.1 a with rfl|a
     .omega
     .have:=p _ (l9.2 ⟨v,a,rfl⟩);omega
def xq(n:aI)(u:am)(x:bq)(a:fZ):Prop:=ay x=[]\/(a.kind=3/\u.zero<a.c)\/(a.kind=2/\∃v∈ay x,x.un.getD v.toNat 0<a.c)
theorem P9{x:bq}(hk:a.kind=2\/a.kind=3)(h:jD u a=σ x):(¬(0<=a.c/\a.c<=n.k)->bf n.k u a=(u,3))/\((0<=a.c/\a.c<=n.k)->xq n u x a->bf n.k u a=(u,7))/\
  ((0<=a.c/\a.c<=n.k)->¬xq n u x a->bf n.k u a=(hl u a.i.toNat x (λg=>if a.kind=2 then da n.k g a.c else cM n.k g a.c) (λg=>if a.kind=2 then cM n.k g a.c else da n.k g a.c),0)/\(a.kind=2->∀v∈ay x,a.c<=x.un.getD v.toNat 0)/\(a.kind=3->a.c<=u.zero)):=by
 have r:gS u a.i=σ x:=by unfold jD at h;rwa [if_neg Ω]at h
 rcases hk with hk|hk
 .have e:=xn (n:=n) (s:=u) hk;rw[r]at e;simp only at e;simp only[hk];refine⟨λf=>?_,λf hi=>?_,λf hi=>?_⟩
  .have j:∀m,db n.k a.c m=3:=λm=>by unfold db;rw[if_pos f]
   rw[j,if_pos Φ]at e;exact e
  .have p:gQ x<a.c:=(EA f.1).2 (hi.elim .inl λh=>h.elim (λh=>Ω) λh=>.inr h.2);have j:∀m,m<a.c->db n.k a.c m=7:=λm hm=>by unfold db;rw[if_neg (λh=>h f),if_pos hm]
   rw[j _ p,if_pos Φ]at e;exact e
  .have p:¬gQ x<a.c:=λh=>hi (((EA f.1).1 h).elim .inl λh=>.inr (.inr ⟨hk,h⟩));have j:db n.k a.c (gQ x)=0:=by unfold db;rw[if_neg (λh=>h f),if_neg p]
   rw[j,if_neg Φ]at e;refine⟨by rw[e];simp,λ_ v r=>?_,λh=>absurd h Φ⟩;rcases Int.lt_or_le (x.un.getD v.toNat 0) a.c with ao|ao
   .exact absurd (.inr (.inr ⟨hk,v,r,ao⟩)) hi
   .exact ao
 .have e:=xo (n:=n) (s:=u) hk;rw[r]at e;simp only at e;simp only[hk];refine⟨λf=>?_,λf hi=>?_,λf hi=>?_⟩
  .have j:∀m,db n.k a.c m=3:=λm=>by unfold db;rw[if_pos f]
   rw[j,if_pos Φ]at e;exact e
  .have p:(if ay x=[]then-1 else u.zero)<a.c:=by
    by_cases q:ay x=[]
    .rw[if_pos q];omega
    .rw[if_neg q];rcases hi with hi|hi|hi
     .exact absurd hi q
     .exact hi.2
     .omega
   have j:∀m,m<a.c->db n.k a.c m=7:=λm hm=>by unfold db;rw[if_neg (λh=>h f),if_pos hm]
   rw[j _ p,if_pos Φ]at e;exact e
  .have q:¬ay x=[]:=λh=>hi (.inl h);have w:¬u.zero<a.c:=λh=>hi (.inr (.inl ⟨hk,h⟩));have j:db n.k a.c u.zero=0:=by unfold db;rw[if_neg (λh=>h f),if_neg w]
   rw[if_neg q,j,if_neg Φ]at e;exact⟨by rw[e];simp,λh=>absurd h Φ,λ_=>Ω⟩
end
section
variable{w:x3}{ab ac ak:Nat}{A R:af}{A9:Nat->af}{aA:af}{n:aI}{s u:am}{t:aw}{h:List aw}{cs:List x1}{a:fZ}
theorem Qa(p:ca w ab ac ak A R A9 aA n s u t h cs)(av:bh n.k n.sizes u)(hk:2<=a.kind/\a.kind<=5):ai x7 uJ [Γ ak,Δ (a.kind:Int),Δ a.i,Δ a.pos,Δ a.v,Δ a.c] w λr w'=>r=Δ (bf n.k u a).2/\dr w ab ac ak A R A9 aA n s t h (bf n.k u a).1 w':=by
 have cu:=av.vars;have cw:=av.fI;refine az func74 ?_;have bR:cs[0]?=σ (Δ n.k):=by obtain⟨_,_,_,_,_,_,rfl,_⟩:=p.od;rfl
 rw[aG aX.p 0 p.box bR,aQ,aj];refine⟨λh=>Ω,λ_=>?_⟩;refine aT (λr w'=>r= .bool (!(jD u a).isSome)/\Ext w w') ?_ λax a7=>?_
 rotate_left
 .rw[bJ];refine p.look.load λec cz=>?_;refine(OT (i:=a.i) cz).mono ?_;rintro _ J _ ⟨rfl,Y⟩;rw[bC,b7];refine⟨λP=>a7 _ _ ⟨by rw[P6 (λh=>by rw[cu]at h;rw[decide_eq_true h]at P;cases P)];rfl,Y⟩,λP=>?_⟩;have a8:0<=a.i/\a.i<n.sizes.length:=by simpa using P
  obtain⟨x,I⟩:=aF (l:=u.vars) (i:=a.i.toNat) Ω;have bp:=P7 a8.1 I;obtain⟨szv,cA,dk,aV,dl,br,bS,_,_,cB,cC,dm,dp,dq⟩:=(p.look).ext Y;rw[aG aX.p 4 bS rfl];refine jm (α:=Bool) (a:=decide (x.gone≠0)) (i:=a.i.toNat) rfl Ω jI.u ek.i Ψ cC (by rw[x8,I];rfl) λbT bt=>?_;have bt:[bT]=[x1.bool (decide (x.gone≠0))]:=bt;obtain rfl:bT=x1.bool (decide (x.gone≠0)):=by simpa using bt
  rw[aj];refine⟨λQ=>a7 _ _ ⟨by rw[bp,if_neg λh=>Q h.1];rfl,Y⟩,λQ=>?_⟩;have Q:=X3.1 Q;rw[bP,aj];refine⟨λbu=>?_,λbu=>a7 _ _ ⟨by rw[bp,if_pos ⟨Q,λh=>absurd h Ω⟩];rfl,Y⟩⟩;rw[aG aX.p 3 bS rfl];refine jm (α:=Λ) (a:=ay x) (i:=a.i.toNat) rfl Ω dn.u ap.i Ψ cB (by rw[x8,I];rfl) λds cD=>?_;refine(wP (ew cD)).mono ?_;rintro _ U _ ⟨rfl,L⟩;rw[bC];refine a7 _ _ ⟨?_,Y.trans L⟩;rw[bp];by_cases H:a.v∈ay x
  .rw[if_pos ⟨Q,λ_=>H⟩,decide_eq_true H];rfl
  .rw[if_neg λh=>H (h.2 Ω),decide_eq_false H];rfl
 rintro _ J ⟨rfl,Y⟩;cases hm:jD u a with
 |none=>
  have f:=P8 (n:=n) hk hm;rw[R4,W5,bL];exact⟨by rw[f],by rw[f];exact dr.same p Y⟩
 |some x=>
 rw[R2,Y6,aU];obtain⟨cE,I,dt,cF⟩:=Ez hm;obtain⟨B,aK⟩:=U7 cE;rw[aK,u6]at I;have bw:=(x4.1 I).1;have G:∀y∈ay x,0<=y/\y<x.un.length:=λy O=>(fb.1 O).1;simp only[aK];have bU:∀v:Nat,0<=x.un.getD v 0/\x.un.getD v 0<=n.k:=λv=>hn av I;have N:=p.ext Y;have du:cs[0]?=σ (Δ n.k):=bR;have bx:∀{U:x3}{eW:am}{bV:List x1}{bz:Nat->af}{aL:bq},ca U ab ac ak A R bz aA n s eW t h bV->eW.vars[B]?=σ aL->∃aV aw y,aH .i64 U y aL.un/\(∀{j:x3}{K:x1->x1->x1->x1->x1->Prop},Ext U j->K (Γ ak) (.pointer (σ ⟨ak,0+5,ν⟩)) aV (.pointer (σ ⟨aw,0+B*1,ν⟩)) y->
    aa x7 (bN (Γ ak)) j λaD=>aa x7 (u5 aX aD 5) j λaE=>aa x7 (u4 ei aE) j λaM=>aa x7 (j5 ei aM (Δ (B:Int))) j λba=>aa x7 (u4 au ba) j λcG=>K aD aE aM ba cG)/\
   ∀{w':x3}{v:Nat}{c:Int}{K:Unit->x3->Prop},Ext U w'->v<aL.un.length->(∀bW,jB U ab ac ak A R bz aA n s t h (eH eW B aL (aL.un.set v c)) bW->K () bW)->aa x7 (j5 au y (Δ (v:Int))) w' λa=>aC x7 (o6 al a (Δ c)) w' K:=λ{U eW bV bz aL}bX C=>by
  obtain⟨aw,cH,y,cI,cJ,ag,bA⟩:=xk bX C;have cK:=(x4.1 C).1;refine⟨.slice (σ ⟨aw,0,ν⟩) eW.vars.length cH,aw,y,ag,λ{j K}aI aY=>?_,bA⟩;rw[aG aX.p 5 (bX.box.ext aI) cI,e3 ei.u au.i cK λ_=>rfl,aB (v:=y) (o:=0+B*1) Ψ (by rw[X6,T0];exact iE aI cJ)];exact aY
 obtain⟨cL,cN,bb,bY,cO,an,cP,b0⟩:=PG N I;have b1:∀{j:x3}{K:x1->x1->x1->Prop},Ext J j->K (Γ ak) (.pointer (σ ⟨ak,0+3,ν⟩)) (.slice (σ ⟨cL,0,ν⟩) u.vars.length cN)->
   aa x7 (bN (Γ ak)) j λaD=>aa x7 (u5 aX aD 3) j λaE=>aa x7 (u4 dn aE) j λaM=>K aD aE aM:=λaI aY=>by
  rw[aG aX.p 3 (N.box.ext aI) bY];exact aY
 have oe:∀{j:x3}{K:x1->Prop},Ext J j->K bb->
   aa x7 (bN (Γ ak)) j λaD=>aa x7 (u5 aX aD 3) j λaE=>aa x7 (u4 dn aE) j λaM=>aa x7 (j5 dn aM (Δ (B:Int))) j λba=>aa x7 (u4 ap ba) j K:=λaI aY=>by
  rw[aG aX.p 3 (N.box.ext aI) bY,e3 dn.u ap.i bw λ_=>rfl,aB (v:=bb) (o:=0+B*1) Ψ (by rw[X6,T0];exact iE aI cO)];exact aY
 have low:∀{u':am}{w':x3},dr J ab ac ak A R A9 aA n s t h u' w'->dr w ab ac ak A R A9 aA n s t h u' w':=λbc=>dr.comp (Y.V _) (λq r G=>.inl ⟨q,G⟩) bc;refine aT (λ_ w'=>dr w ab ac ak A R A9 aA n s t h (bf n.k u a).1 w'/\(bf n.k u a).2=0) (λ_ w' bc=>⟨by rw[bc.2],bc.1⟩) λcQ bB=>?_;refine aT (λr w'=>r= .bool (decide (a.kind=2\/a.kind=3))/\J=w') ?_ λdv b2=>?_
 rotate_left
 .rw[bd,aj];refine⟨λC=>b2 _ _ ⟨?_,rfl⟩,λC=>?_⟩
  .congr 1;exact decide_eq_decide.2 ⟨λ_=>.inl Ω,λ_=>C⟩
  .rw[bd];refine b2 _ _ ⟨?_,rfl⟩;congr 1;exact decide_eq_decide.2 ⟨λh=>.inr Ω,λh=>Ω⟩
 rintro _ _ ⟨rfl,rfl⟩;rw[aj];refine⟨λcR=>?_,λdw=>?_⟩
 .
  obtain⟨cS,bg,bD⟩:=P9 (n:=n) cR hm;refine zC.mono ?_;rintro _ U _ ⟨rfl,L⟩;have dx:=L;have b3:cp a.c n.k↔0<=a.c/\a.c<=n.k:=⟨λh=>h.2,λC=>⟨cw,C⟩⟩;rw[bC,b7];refine⟨λP=>?_,λP=>?_⟩
  .have f:=cS λh=>absurd (b3.2 h) (by simpa using P);exact⟨by rw[f],by rw[f];exact low (dr.same N L)⟩
  have a8:=b3.1 (show cp a.c n.k by simpa using P);have bg:=bg a8;have bD:=bD a8;refine aT (λr w'=>Ext J w'/\∃b,r= .bool b/\(b=true↔ay x=[]\/(a.kind=3/\u.zero<a.c))) ?_ λdy bE=>?_
  rotate_left
  .refine oe L ?_;rw[aW ap.u (an.ext L),bd,aj];refine⟨λhe=>bE _ _ ⟨L,true,rfl,⟨λ_=>.inl (j4 Ω),λ_=>rfl⟩⟩,λbi=>?_⟩;have bi:ay x≠[]:=λh=>bi (by rw[h];rfl);rw[bd,aj];refine⟨λbu=>?_,λbu=>bE _ _ ⟨L,false,rfl,⟨(λh=>by cases h),λh=>h.elim (λh=>absurd h bi) λh=>Ω⟩⟩⟩;have bF:cs[2]?=σ (Δ u.zero):=by obtain⟨_,_,_,_,_,_,rfl,_⟩:=p.od;rfl
   rw[aG aX.p 2 (N.box.ext L) bF,bP];exact bE _ _ ⟨L,_,rfl,by rw[decide_eq_true_eq];exact⟨λh=>.inr ⟨Ω,h⟩,λh=>h.elim (λh=>absurd h bi) λh=>h.2⟩⟩
  rintro _ cT ⟨aN,b,rfl,b4⟩;rw[b7];refine⟨λcU=>?_,λb5=>?_⟩
  .have f:=bg ((b4.1 cU).elim .inl λh=>.inr (.inl h));exact⟨by rw[f],by rw[f];exact low (dr.same N aN)⟩
  have b6:¬(ay x=[]\/(a.kind=3/\u.zero<a.c)):=λh=>by rw[b4.2 h]at b5;cases b5
  refine oe aN ?_;rw[aW ap.u (an.ext aN)];refine cd.range (ay x).length (λq _ w'=>Ext J w'/\(a.kind=2->∀v∈(ay x).take q,a.c<=x.un.getD v.toNat 0)) an.le ⟨aN,λ_ v H=>by simp at H⟩ ?_ ?_
  .rintro q b8 aJ cV bG ⟨M,bj⟩ cW;obtain⟨v,H⟩:=aF (l:=ay x) bG;have aq:=x5 H;have bk:=G v aq;obtain⟨E,rfl⟩:=U7 bk.1;refine bQ Ω ?_;rw[be ap.u ah.i Ψ (an.ext M) H];refine aT (λr w'=>aJ=w'/\r= .bool (decide (a.kind=2/\x.un.getD E 0<a.c))) ?_ λdz b9=>?_
   .rintro _ _ ⟨rfl,rfl⟩;rw[aj];refine⟨λaZ=>?_,λbH=>?_⟩
    .have f:=bg (.inr (.inr ⟨aZ.1,_,aq,aZ.2⟩));exact⟨by rw[f],by rw[f];exact low (dr.same N M)⟩
    .rw[aP];refine cW _ _ ⟨M,λC y O=>?_⟩;rw[u7,H,o8,o9,l7]at O;rcases O with O|rfl
     .exact bj C y O
     .rcases Int.lt_or_le (x.un.getD E 0) a.c with ao|ao
      .exact absurd ⟨C,ao⟩ bH
      .exact ao
   rw[bd,aj];refine⟨λC=>?_,λC=>b9 _ _ ⟨rfl,by rw[decide_eq_false λh=>C Ω]⟩⟩;obtain⟨aV,aw,y,ag,look,_⟩:=bx (N.ext M) I;refine look (Ext.refl _) ?_;rw[be au.u al.i Ψ ag (getD_some (i:=E) Ω),bP];refine b9 _ _ ⟨rfl,?_⟩;congr 1;exact decide_eq_decide.2 ⟨λh=>⟨Ω,h⟩,λh=>h.2⟩
  rintro b8 aJ cV ⟨M,bj⟩;rw[o5]at bj;have cX:¬xq n u x a:=λhi=>hi.elim (λh=>b6 (.inl h)) λh=>h.elim (λh=>b6 (.inr h)) λ⟨C,v,H,aZ⟩=>by have:=bj C v H;omega
  obtain⟨f,dC,dD⟩:=bD cX;rw[aK,u6]at f;refine cn Ω ?_;refine oe M ?_;rw[aW ap.u (an.ext M)];obtain⟨g,Q⟩:∃g:Int->Int,g=λg=>if a.kind=2 then da n.k g a.c else cM n.k g a.c:=⟨_,rfl⟩;obtain⟨z,bI⟩:∃z:Int->Int,z=λg=>if a.kind=2 then cM n.k g a.c else da n.k g a.c:=⟨_,rfl⟩;rw[<-Q,<-bI]at f;have cY:=N.ext M;have cZ:=an.ext M;have cb:=q1 x;obtain⟨cc,dE⟩:∃cc,bb=cc:=⟨_,rfl⟩;have c0:eH u B x (dV g x.un ((ay x).take 0))=u:=by
   unfold eH;show{u with vars:=u.vars.set B x}=u;have:u.vars.set B x=u.vars:=by
    apply X2;intro i;by_cases e:B=i
    .subst e;rw[Z0 bw,I]
    .rw[Y8 e]
   rw[this]
  have c1:∀{w':x3},ae (A9 2) aJ w'->aH .i64 w' bb (ay x):=λc2=>hX cZ c2 λr G b n c e P=>N.gI.1 0 2 r Φ (cP r ⟨b,n,c,e,P⟩) G;refine bZ.range (ay x).length (λq w'=>jB aJ ab ac ak A R A9 aA n s t h (eH u B x (dV g x.un ((ay x).take q))) w') an.le (by rw[c0];exact jB.same cY (Ext.refl _)) ?_ ?_
  .rintro q bl c3 bG aO c4;obtain⟨bm,ce,cg,aS,bK,c5⟩:=id aO;obtain⟨v,H⟩:=aF (l:=ay x) bG;have aq:=x5 H;have bk:=G v aq;obtain⟨E,rfl⟩:=U7 bk.1;have bn:(eH u B x (dV g x.un ((ay x).take q))).vars[B]?=σ {x with un:=dV g x.un ((ay x).take q)}:=Z0 bw;have dF:(dV g x.un ((ay x).take q)).length=x.un.length:=q0 _ _;have bM:=tv (g:=g) ((ay x).take q) x.un (E:Int) (cb.sublist (List.take_sublist _ _)) (λy O=>G y (V5 O)) Ω;rw[if_neg (xg cb H),u6]at bM;have c6:=bU E;obtain⟨aV,aw,y,ag,look,bA⟩:=bx aS bn;refine bQ Ω ?_;refine dd (λS=>jB aJ ab ac ak A R A9 aA n s t h (eH u B x (dV g x.un ((ay x).take (q+1)))) S) (λS W=>by rw[aP];exact c4 _ W) λc7 c8=>?_;have a1:∀{X:x3},Ext bl X->aa x7 (j5 au y (Δ (E:Int))) X λa'=>aC x7 (o6 al a' (Δ (g (x.un.getD E 0)))) X λ(_:Unit)S=>c7 S:=λbo=>by
    refine bA bo (by show E<(dV g x.un ((ay x).take q)).length;omega) λS W=>c8 _ (jB.comp bm bK c5 ?_);have e:eH (eH u B x (dV g x.un ((ay x).take q))) B {x with un:=dV g x.un ((ay x).take q)} ((dV g x.un ((ay x).take q)).set E (g (x.un.getD E 0)))=eH u B x (dV g x.un ((ay x).take (q+1))):=by
     rw[Es H,u6,bM];unfold eH;simp only[List.set_set]
    rw[e]at W;exact W
   have ch:(dV g x.un ((ay x).take q))[E]?=σ (x.un.getD E 0):=by rw[getD_some Ω,bM]
   rw[be ap.u ah.i Ψ (c1 bm) H,bd,aj];refine⟨λC=>?_,λC=>?_⟩
   .intro j Z _ _;refine look Z (look Z ?_);rw[be au.u al.i Ψ (ag.ext Z) ch];refine(tH Ω Ω).mono ?_;rintro _ X _ ⟨rfl,ad⟩;refine⟨.inl ad,?_⟩;have:=a1 (Z.trans ad);rw[Q]at this;simp only[if_pos (show a.kind=2 by omega)]at this;exact this
   .intro j Z _ _;refine look Z (look Z ?_);rw[be au.u al.i Ψ (ag.ext Z) ch];refine(nP Ω Ω).mono ?_;rintro _ X _ ⟨rfl,ad⟩;refine⟨.inl ad,?_⟩;have:=a1 (Z.trans ad);rw[Q]at this;simp only[if_neg (show¬a.kind=2 by omega)]at this;exact this
  .rintro bl c3 aO;rw[o5]at aO;refine cn Ω ?_;have aO:=aO.Ei;obtain⟨bm,ce,cg,aS,bK⟩:=id aO;have ci:cg[2]?=σ (Δ u.zero):=by obtain⟨_,_,_,_,_,_,rfl,_⟩:=aS.od;rfl
   have c9:=av.zero;have a1:∀{X:x3},Ext bl X->aC x7 (o6 al (.pointer (σ ⟨ak,0+2,ν⟩)) (Δ (z u.zero))) X λ(_:Unit)S=>cQ b8 S:=λbo=>by
    refine PF (aS.ext bo) λS W=>bB _ _ ⟨?_,by rw[f]⟩;rw[f];have cj:=dr.comp (A9:=ce) (bo.V _) (λq r G=>.inl ⟨q,G⟩) W;have a2:=dr.comp bm bK cj;exact low (dr.comp (M.V _) (λq r G=>.inl ⟨q,G⟩) a2)
   rw[bd,aj];refine⟨λC=>?_,λC=>?_⟩
   .rw[aG aX.p 2 aS.box ci];refine(nP Ω Ω).mono ?_;rintro _ X _ ⟨rfl,ad⟩;rw[bJ,aR aX.p rfl];have:=a1 ad;rw[bI]at this;simp only[if_pos (show a.kind=2 by omega)]at this;exact this
   .rw[aG aX.p 2 aS.box ci];refine(tH Ω Ω).mono ?_;rintro _ X _ ⟨rfl,ad⟩;rw[bJ,aR aX.p rfl];have:=a1 ad;rw[bI]at this;simp only[if_neg (show¬a.kind=2 by omega)]at this;exact this
 .
  have ck:3<a.kind:=Ω
  have aq:=cF ck;obtain⟨E,br⟩:=U7 (G _ aq).1;have bk:=(G _ aq).2;have cl:dA u a.i a.v=σ x:=by unfold jD at hm;rwa [if_pos ck]at hm
  rw[bd,aj];refine⟨λa2=>?_,λa2=>?_⟩
  .have a2:a.kind=4:=Ω
   have f:bf n.k u a=if cM n.k u.zero (x.un.getD a.v.toNat 0)<n.k then(u,7)else(dH u a.i.toNat a.v.toNat,0):=by
    unfold bf;rw[if_neg Ω,if_neg Ω,if_neg Ω,if_neg Ω,if_pos a2,cl]
   have c9:=av.zero;have c6:=bU E;intro U L _ _;have bF:cs[2]?=σ (Δ u.zero):=by obtain⟨_,_,_,_,_,_,rfl,_⟩:=p.od;rfl
   obtain⟨aV,aw,y,ag,look,_⟩:=bx (N.ext L) I;rw[aG aX.p 2 (N.box.ext L) bF];refine look (Ext.refl _) ?_;rw[br,be au.u al.i Ψ ag (getD_some (i:=E) Ω)];refine(nP Ω Ω).mono ?_;rintro _ cT _ ⟨rfl,aN⟩;have cm:=L.trans aN;rw[br,u6]at f;unfold cM at f;rw[aQ,aj];refine⟨λaZ=>?_,λbH=>?_⟩
   .rw[if_pos aZ]at f;exact⟨by rw[f],by rw[f];exact low (dr.same N cm)⟩
   .rw[if_neg bH]at f;intro aJ M _ _;have a6:=cm.trans M;refine b1 a6 ?_;refine oe a6 ?_;have dG:=pv x;have db:=av.eO.2.2;refine(P5 (v:=(E:Int)) (an.ext a6) (by
     obtain⟨cq,cr⟩:=aF (l:=n.sizes) (i:=B) Ω;have h1:=(av.var B x cq I cr).1;have C:=db cq (x5 cr);omega)).mono ?_
    rintro cA bl _ ⟨bn,⟨gz,dc⟩,de⟩;refine⟨.inl bn,?_⟩;have df:=a6.trans bn;have dI:=a6.size;refine b0 (m:=((x.mask.toNat ||| 2 ^ E:Nat):Int)) df (gz:=gz) (by rw[show E=(E:Int).toNat from rfl,w9 Ω];exact dc) (λr G=>by have:=de r G;omega) λS W=>bB _ _ ⟨?_,by rw[f]⟩;rw[f,aK,u6];unfold dH;rw[I];exact low W
  .have cj:a.kind=5:=Ω
   obtain⟨m,dg,dh⟩:=xp (i:=a.i.toNat) (v:=a.v) (ay x) u x (by rw[aK,u6];exact I) λy O=>(G y O).1;have f:bf n.k u a=(gb u a.i.toNat a.v (ay x),0):=by
    unfold bf;rw[if_neg Ω,if_neg Ω,if_neg Ω,if_neg Ω,if_neg Ω,cl]
   have di:ay {x with mask:=m}=[a.v]:=by
    rw[dh,<-filter_one (q1 x) aq];refine List.filter_congr λy O=>?_;rw[decide_eq_true O,T6,Bool.not_not]
   rw[bd,aj];refine⟨λ_=>?_,λh=>Ω⟩;refine b1 (Ext.refl _) ?_;refine en (k:=.i64) ap.u ah.i rfl λv4 dj aJ dJ M ct=>?_;refine b0 (m:=m) M (gz:=dj) (by rw[di];exact ct) (λr G=>by have:=bO ct G;omega) λS W=>bB _ _ ⟨?_,by rw[f]⟩;rw[f,dg,aK,u6];exact low W
end
def gT(A R:af)(A9:Nat->af)(aA:af)(ak:Nat)(r:Nat):Prop:=A r\/R r\/(∃q,A9 q r)\/aA r\/r=ak
section
variable{P:af}{gZ w w':x3}{ab ac ak RF RG RH:Nat}{A R aE R':af}{A9 cg:Nat->af}{aA xa:af}{n:aI}{s s':am}{t bi:aw}{h h':List aw}{cs b8:List x1}{m bU:Nat}
variable{Z hp:af}
end
theorem tN(h:Laid w):0<w.heap.size:=by
 rcases Q4 w.heap.size with e|e
 .have a:=h 0 _ rfl;unfold x3.cell? at a;rw[Array.getElem?_eq_none Ω]at a;cases a
 .exact e
def fc(Z aA:af)(w:x3)(ab ac ak:Nat)(n:aI)(s:am):Prop:=∃A R A9 t cs,ca w ab ac ak A R A9 aA n s s t [] cs/\(Laid w/\¬Z 0)/\(cr s/\dO (dq n) s/\n.funs.length<=256)/\(∀r,Z r↔gT A R A9 aA ak r)/\∀q r,A9 q r->r<w.heap.size
section
variable{Z aA S:af}{w w' J:x3}{ab ac ak:Nat}{A R:af}{A9:Nat->af}{n:aI}{s u:am}{t:aw}{cs:List x1}
theorem fc.ext(h:fc Z aA w ab ac ak n s)(a:Ext w w'):fc Z aA w' ab ac ak n s:=by
 obtain⟨A,R,A9,t,cs,p,⟨e,f⟩,j,x,y⟩:=h;exact⟨A,R,A9,t,cs,p.ext a,⟨e.ext a,f⟩,j,x,λq r z=>by have:=y q r z;have:=a.size;omega⟩
theorem fc.side(h:fc Z aA w ab ac ak n s)(e:ae S w w')(y:∀r,Z r->¬S r)(z:¬S 0):fc Z aA w' ab ac ak n s:=by
 obtain⟨A,R,A9,t,cs,p,⟨B,C⟩,E,j,F⟩:=h;refine⟨A,R,A9,t,cs,p.side e λr _ f=>?_,⟨hx e z B,C⟩,E,j,λq r f=>by have:=F q r f;have:=e.size;omega⟩;have a:∀{x:Prop},(x->gT A R A9 aA ak r)->¬x:=λG h=>y r ((j r).2 (G h)) f;exact⟨a .inl,a λh=>.inr (.inl h),λq=>a λh=>.inr (.inr (.inl ⟨q,h⟩)),a λh=>.inr (.inr (.inr (.inl h))),a λh=>.inr (.inr (.inr (.inr h)))⟩
theorem fc.ok(h:fc Z aA w ab ac ak n s):bh n.k n.sizes s/\cr s/\dO (dq n) s/\n.funs.length<=256:=by
 obtain⟨A,R,A9,t,cs,p,_,a,_⟩:=h;exact⟨p.eh.2.2.2.1,a⟩
theorem fc.look(h:fc Z aA w ab ac ak n s):l3 w ak n.k n.sizes s:=by
 obtain⟨A,R,A9,t,cs,p,_⟩:=h;exact p.look
theorem fc.step{J:x3}(p:ca w ab ac ak A R A9 aA n s u t [] cs)(f:∀r,Z r↔gT A R A9 aA ak r){u':am}(F:cr u'/\dO (dq n) u'/\n.funs.length<=256)(G:¬Z 0)(H:dr w ab ac ak A R A9 aA n s t [] u' J)(j:Ext J w')(hm:cN [] w' ab ac A R n u' U):ae (λr=>Z r/\¬aA r) w U/\∃hp,(∀r,hp r->Z r\/w.heap.size<=r)/\fc hp aA U ab ac ak n u':=by
 obtain⟨B,cg,b8,I,K⟩:=H;obtain⟨x,L,aE,bi,y,M,N,W⟩:=hm;have X:=B.size;have Y:=j.size;have z3:=x.size;have z:=I.ext j;have O:=z.prog x y M N.1 (λ_ h=>.inl h) (λ_ _ _ h=>h) z.box.lt;have P:=p.Ed;have Q:ae (λr=>Z r/\¬aA r) w U:=(((B.mono (T:=λr=>Z r/\¬aA r) λr _ h=>⟨(f r).2 (h.elim (λh=>.inr (.inr (.inl h))) λh=>.inr (.inr (.inr (.inr h)))),h.elim (λ⟨q,h⟩=>P q r h) λh h'=>(p.read r h').2.2 h⟩)).trans (j.V _)).trans
  ((q2 y.1 x).mono λr _ h=>⟨(f r).2 (.inl h.1),λh'=>(z.read r h').1 h.2⟩)
 have aa:=p.box.lt;have e:∀{r:Nat}{C:Prop},(C->gT A R A9 aA ak r)->C->Z r\/w.heap.size<=r:=λS h=>.inl ((f _).2 (S h));have E:∀r,gT aE R (λq r=>cg q r/\r<w'.heap.size) aA ak r->Z r\/w.heap.size<=r:=by
  intro r a;rcases a with a|a|⟨q,a,_⟩|a|a
  .exact (y.2.1 r a).elim (e .inl) λh=>.inr Ω
  .exact e (λh=>.inr (.inl h)) a
  .exact (K q r a).elim (e λh=>.inr (.inr (.inl h))) .inr
  .exact e (λh=>.inr (.inr (.inr (.inl h)))) a
  .exact e (λh=>.inr (.inr (.inr (.inr h)))) a
 exact⟨Q,λr=>gT aE R (λq r=>cg q r/\r<w'.heap.size) aA ak r,E,aE,R,_,bi,b8,O,⟨L,λh=>(E 0 h).elim G λh=>Ω⟩,F,λr=>Iff.rfl,λq r a=>by have:=a.2;omega⟩
theorem Qb(h:cr s/\dO (dq n) s/\n.funs.length<=256)(a:bh n.k n.sizes s)(m:fZ):cr (bf n.k s m).1/\dO (dq n) (bf n.k s m).1/\n.funs.length<=256:=
 ⟨(D0 a h.1).2.1,h.2.1.trans (D7 a),h.2.2⟩
theorem Qc{m:fZ}(p:ca w ab ac ak A R A9 aA n s u t [] cs)(a:bh n.k n.sizes u)(e:cr u)(hk:m.kind<=5):ai x7 uJ [Γ ak,Δ (m.kind:Int),Δ m.i,Δ m.pos,Δ m.v,Δ m.c] w λr w'=>r=Δ (bf n.k u m).2/\dr w ab ac ak A R A9 aA n s t [] (bf n.k u m).1 w':=by
 by_cases h:m.kind<2
 .exact P1 p a e h
 .exact Qa p a ⟨Ω,hk⟩
theorem Qd{e:x3}{ak:Nat}{j:x1}{cs:List x1}{f:b2}(w:tC B U j cs f)(x:Ext U e)(y:ad e ak aX cs)(z:U.heap.size<=ak)(K:B<=U.heap.size)(L:0<B)(C:Laid e):
  ∃ab ac Z aA,j=Γ ab/\fc Z aA e ab ac ak (c3 f) (dq (c3 f))/\∀r,Z r->B<=r:=by
 obtain⟨ab,ac,A,R,A9,aA,t,rfl,p,_,E,F,_,_,G,_,H,I⟩:=Pk w x y z;have J:=p.olds;have s:∀r,gT A R (λq r=>A9 q r/\r<e.heap.size) aA ak r->B<=r:=by
  intro r a;rcases a with a|a|⟨q,a,_⟩|a|a
  .exact E r a
  .exact I r a
  .exact F q r a
  .exact H r a
  .omega
 exact⟨ab,ac,_,aA,rfl,⟨A,R,_,t,cs,J,⟨C,λh=>by have:=s 0 h;omega⟩,⟨Ec _,dO.rfl,G⟩,λr=>Iff.rfl,λq r a=>a.2⟩,s⟩
end
section
variable{ao:List aw}{w J U:x3}{ab ac ak:Nat}{A R S Z aA:af}{n:aI}{s s0 s1:am}{cs:List x1}
theorem cN.open(h:cN ao w ab ac A R n s1 J):∃a e,bp J ab ac a R n s1 e/\Laid J/\¬a 0/\dW ao e/\∀{f:am}{U:x3},cN ao J ab ac a R n f U->cN ao w ab ac A R n f U:=by
 obtain⟨h1,j,a,e,p,q,r,s⟩:=h;refine⟨a,e,q,j,s,r,λ{f U}k=>?_⟩;obtain⟨x,y,z,B,C,E,F,G⟩:=k;exact⟨tf h1 x,y,z,B,p.trans C,E,F,G⟩
theorem cN.ext(h:cN ao w ab ac A R n s1 J)(a:Ext J U):cN ao w ab ac A R n s1 U:=by
 obtain⟨p,q,h1,e,f,j,k⟩:=h.open;exact k (.same h1 e f j a)
def fh(ao:List aw)(Z aA:af)(w:x3)(ab ac ak:Nat)(n:aI)(s s0:am)(cs:List x1):Prop:=∃A R A9 t,ca w ab ac ak A R A9 aA n s s0 t ao cs/\(Laid w/\¬Z 0/\py t)/\(∀r,Z r↔gT A R A9 aA ak r)/\∀q r,A9 q r->r<w.heap.size
theorem fh.lt(h:fh ao Z aA w ab ac ak n s s0 cs):∀r,Z r->r<w.heap.size:=by
 obtain⟨A,R,A9,t,p,_,e,f⟩:=h;intro r a;rcases(e r).1 a with a|a|⟨q,a⟩|a|a
 .exact q3 p.eh r (.inl a)
 .exact q3 p.eh r (.inr a)
 .exact f q r a
 .exact (p.read r a).2.1
 .subst a;exact p.box.lt
theorem fh.ext(h:fh ao Z aA w ab ac ak n s s0 cs)(a:Ext w J):fh ao Z aA J ab ac ak n s s0 cs:=by
 obtain⟨A,R,A9,t,p,⟨e,f⟩,j,x⟩:=h;exact⟨A,R,A9,t,p.ext a,⟨e.ext a,f⟩,j,λq r y=>by have:=x q r y;have:=a.size;omega⟩
theorem fh.side(h:fh ao Z aA w ab ac ak n s s0 cs)(e:ae S w J)(y:∀r,Z r->¬S r)(z:¬S 0):fh ao Z aA J ab ac ak n s s0 cs:=by
 obtain⟨A,R,A9,t,p,⟨B,C⟩,j,E⟩:=h;refine⟨A,R,A9,t,p.side e λr _ f=>?_,⟨hx e z B,C⟩,j,λq r f=>by have:=E q r f;have:=e.size;omega⟩;have a:∀{x:Prop},(x->gT A R A9 aA ak r)->¬x:=λF h=>y r ((j r).2 (F h)) f;exact⟨a .inl,a λh=>.inr (.inl h),λq=>a λh=>.inr (.inr (.inl ⟨q,h⟩)),a λh=>.inr (.inr (.inr (.inl h))),a λh=>.inr (.inr (.inr (.inr h)))⟩
theorem fh.ok(h:fh ao Z aA w ab ac ak n s s0 cs):bh n.k n.sizes s/\h6 w (.agg cs.toArray) n.k n.sizes s0:=by
 obtain⟨A,R,A9,t,p,_⟩:=h;exact⟨p.eh.2.2.2.1,p.doc.w5⟩
theorem fh.go(h:fh ao Z aA w ab ac ak n s s0 cs):∃A R t,bp w ab ac A R n s t/\Laid w/\¬A 0/\dW ao t/\∀{J U:x3}{s1:am},Ext w J->cN ao J ab ac A R n s1 U->ae (λr=>Z r/\¬aA r) w U/\∃hp,(∀r,hp r->Z r\/w.heap.size<=r)/\fh ao hp aA U ab ac ak n s1 s0 cs:=by
 obtain⟨A,R,A9,t,p,⟨G,B,a⟩,f,M⟩:=h;refine⟨A,R,t,p.eh,G,λh=>B ((f 0).2 (.inl h)),⟨p.ft,a⟩,λ{J U s1}j hm=>?_⟩;obtain⟨x,H,aE,bi,y,I,C,N⟩:=hm;have O:=j.size;have z3:=x.size;have z:=p.ext j;have K:=z.prog x y I C.1 (λ_ h=>.inl h) (λ_ _ _ h=>h) z.box.lt;have e:∀{r:Nat}{E:Prop},(E->gT A R A9 aA ak r)->E->Z r\/w.heap.size<=r:=λL h=>.inl ((f _).2 (L h));have F:∀r,gT aE R (λq r=>A9 q r/\r<J.heap.size) aA ak r->Z r\/w.heap.size<=r:=by
  intro r a;rcases a with a|a|⟨q,a,_⟩|a|a
  .exact (y.2.1 r a).elim (e .inl) λh=>.inr Ω
  .exact e (λh=>.inr (.inl h)) a
  .exact e (λh=>.inr (.inr (.inl ⟨q,h⟩))) a
  .exact e (λh=>.inr (.inr (.inr (.inl h)))) a
  .exact e (λh=>.inr (.inr (.inr (.inr h)))) a
 exact⟨(j.V _).trans ((q2 y.1 x).mono λr _ h=>⟨(f r).2 (.inl h.1),λh'=>(z.read r h').1 h.2⟩),λr=>gT aE R (λq r=>A9 q r/\r<J.heap.size) aA ak r,F,aE,R,_,bi,K,⟨H,λh=>(F 0 h).elim B λh=>by have:=p.box.lt;omega,C.2⟩,λr=>Iff.rfl,λq r a=>by have:=a.2;omega⟩
theorem fc.cG(h:fc Z aA w ab ac ak n s):∃cs,fh [] Z aA w ab ac ak n s s cs/\ad w ak aX cs:=by
 obtain⟨A,R,A9,t,cs,p,⟨a,e⟩,q,f,j⟩:=h;exact⟨cs,⟨A,R,A9,t,p,⟨a,e,p.ft.m.2⟩,f,j⟩,p.box⟩
end
theorem Qe{f g:Int->Int}:∀{l:Λ},(∀v∈l,f v=g v)->dm k l f=dm k l g:=by
 intro l;unfold dm;generalize (k,(-1:Int))=p;induction l generalizing p with
 |nil=>intro _;rfl
 |cons v l a=>
  intro h;rw[T9,T9,show eQ f p v=eQ g p v by unfold eQ;rw[h v (.head _)]];exact a _ λu hu=>h u (.tail _ hu)
theorem Qf{f:Int->Int}:∀(l:Λ)(p:Int×Int),(∀v∈l,0<=v)->(p.2= -1\/0<=p.2)->((l.foldl (eQ f) p).2= -1\/0<=(l.foldl (eQ f) p).2)/\(k=k):=by
 intro l;induction l with
 |nil=>intro p _ h;exact⟨h,rfl⟩
 |cons v l e=>
  intro p a h;refine e _ (λu hu=>a u (.tail _ hu)) ?_;unfold eQ;split
  .exact .inr (a v (.head _))
  .exact h
section
variable{w:x3}{ec:x1}{k:Int}{sizes:Λ}{s:am}
theorem Qg{f:Int->Int}{l:Λ}{q:Nat}(a:l[q]?=σ v):dm k (l.take (q+1)) f=eQ f (dm k (l.take q) f) v:=by
 unfold dm;rw[u7,a,o8,List.foldl_append];rfl
theorem Qh{f:Int->Int}{l:Λ}(a:∀v∈l,0<=v):(dm k l f).2= -1\/0<=(dm k l f).2:=(Qf (k:=k) l (k,-1) a (.inl rfl)).1
theorem Qi{i:Nat}{x:bq}(h:h6 w ec k sizes s)(an:bh k sizes s)(G:s.vars[i]?=σ x):
  ai x7 FP [ec,Δ (i:Int)] w λr w'=>Ext w w'/\r= .tuple #[Δ (dm k (ay x) λv=>x.un.getD v.toNat 0).1,Δ (dm k (ay x) λv=>x.un.getD v.toNat 0).2]:=by
 have ao:=pv x;refine az func13 ?_;refine bj λg1 J aq H P=>?_;obtain⟨szv,av,aw,aA,aB,aC,C,aD,_,Q,aE,R,aG,aH⟩:=h.box H P;rw[aL aX.p 0 C rfl,aL aX.p 3 C rfl];refine jm (α:=Λ) (a:=ay x) (i:=i) rfl rfl dn.u ap.i Ψ Q (by rw[x8,G];rfl) λaI S=>?_;have E:=ew S;rw[aW ap.u E];obtain⟨f,I⟩:∃f:Int->Int,f=λv=>x.un.getD v.toNat 0:=⟨_,rfl⟩;rw[<-I];refine nb.range (ay x).length (λq b a U=>Ext J U/\b=Δ (dm k ((ay x).take q) f).1/\a=Δ (dm k ((ay x).take q) f).2) E.le ⟨Ext.refl _,rfl,rfl⟩ ?_ ?_
 .rintro q _ _ U V W ⟨j,rfl,rfl⟩ X;obtain⟨v,z⟩:=aF (l:=ay x) W;have Y:=(fb.1 (x5 z)).1;obtain⟨y,rfl⟩:=U7 Y.1;have A:=Qg (k:=k) (f:=f) z;have aJ:=Qh (k:=k) (f:=f) (l:=(ay x).take q) λv z=>(fb.1 (V5 z)).1.1;have Z:f (y:Int)=x.un.getD y 0:=by rw[I];rfl
  refine bQ Ω ?_;refine iA (λb a w'=>Ext J w'/\b=Δ (dm k ((ay x).take (q+1)) f).1/\a=Δ (dm k ((ay x).take (q+1)) f).2) (λb a w' ab=>by rw[aP];exact X _ _ _ ab) λax L=>?_;rw[be ap.u ah.i Ψ (E.ext j) z];have M:∀{K:x1->Prop}{e:x3},Ext J e->K (Δ (f (y:Int)))->aa x7 (u5 aX (Γ g1) 5) e λac=>aa x7 (u4 ei ac) e λad=>aa x7 (j5 ei ad (Δ (i:Int))) e λt39=>aa x7 (u4 au t39) e λae=>aa x7 (j5 au ae (Δ (y:Int))) e λaf=>aa x7 (u4 al af) e K:=λ{K e}N ag=>by
   rw[aL aX.p 5 (C.ext N) rfl];refine jm (α:=Λ) (a:=x.un) (i:=i) rfl rfl ei.u au.i Ψ (bT R N) (by rw[x8,G];rfl) λaK ak=>?_;rw[be au.u al.i Ψ (ew ak) (getD_some (i:=y) Ω),<-Z];exact ag
  refine aT (λr w'=>U=w'/\r= .bool (decide ((dm k ((ay x).take q) f).2= -1\/f (y:Int)<(dm k ((ay x).take q) f).1))) ?_ λaM O=>?_
  .rintro _ _ ⟨rfl,rfl⟩;unfold eQ at A;rw[aj];refine⟨λB=>M j (L _ _ _ ⟨j,?_,?_⟩),λB=>L _ _ _ ⟨j,?_,?_⟩⟩
   .rw[A,if_pos B]
   .rw[A,if_pos B]
   .rw[A,if_neg B]
   .rw[A,if_neg B]
  .rw[aQ,aj];refine⟨λam=>O _ _ ⟨rfl,by rw[decide_eq_true (.inl Ω)]⟩,λam=>?_⟩;refine M j ?_;rw[aQ];refine O _ _ ⟨rfl,?_⟩;congr 1;exact decide_eq_decide.2 ⟨.inr,λh=>h.resolve_left λh=>Ω⟩
 .rintro _ _ U V ⟨j,rfl,rfl⟩;rw[o5];exact cn Ω ⟨H.trans j,rfl⟩
end
abbrev lr:Type:=lR .u8×Int×Int×Int×Int
structure gf where
 d:Int
 i:Int
 pos:Int
 v:Int
 c:Int
def gf.ok(a:gf):Prop:=0<=a.d/\a.d<256
def gf.kind(a:gf):Nat:=(a.d % 7).toNat
def gf.bG(a:gf):List x1:=[.int .u8 a.d,Δ a.i,Δ a.pos,Δ a.v,Δ a.c]
def mZ(x:lr):gf:=⟨x.1.val,x.2.1,x.2.2.1,x.2.2.2.1,x.2.2.2.2⟩
theorem Qj{R:af}{cs:List x1}{x:lr}(h:Seen R w cs x):cs=(mZ x).bG:=by
 obtain⟨q,_,_,_,rfl,_,_,_,a,r,_,_,_,rfl,_,_,_,e,s,_,_,_,rfl,_,_,_,f,y,z,_,_,rfl,_,_,_,j,p⟩:=h;have a:q=[.int .u8 x.1]:=a;have e:r=[Δ x.2.1]:=e;have f:s=[Δ x.2.2.1]:=f;have j:y=[Δ x.2.2.2.1]:=j;have p:z=[Δ x.2.2.2.2]:=p;subst a e f j p;rfl
theorem Qk{x:lr}(h:(o4.u8.min<=x.1.val/\x.1.val<=o4.u8.max)/\(X7.min<=x.2.1/\x.2.1<=X7.max)/\(X7.min<=x.2.2.1/\x.2.2.1<=X7.max)/\(X7.min<=x.2.2.2.1/\x.2.2.2.1<=X7.max)/\(X7.min<=x.2.2.2.2/\x.2.2.2.2<=X7.max)):(mZ x).ok:=by
 have a:o4.u8.min=0:=Φ
 have e:o4.u8.max=255:=Φ
 rw[a,e]at h;exact⟨h.1.1,by have:=h.1.2;show x.1.val<256;omega⟩
theorem gf.one(a:gf):∀u∈a.bG,u.oneCell'=true:=by
 intro u hu;unfold gf.bG at hu;simp only[V3,List.not_mem_nil,or_false]at hu;rcases hu with rfl|rfl|rfl|rfl|rfl<;>rfl
theorem gf.Ql(a:gf):a.kind<7:=by
 unfold gf.kind;have:=Int.emod_lt_of_pos a.d (show(0:Int)<7 by decide);omega
def EB(k:Int)(a:gf):Int:=a.c.emod 18446744073709551616 % (k+1)
def kI(k:Int)(a:gf):fZ:=⟨a.kind,a.i,a.pos,a.v,EB k a⟩
def lu(n:aI)(s:am)(a:gf):am:=if a.kind=6 then(if eP n a.i a.v then dH s a.i.toNat a.v.toNat else s)else(bf n.k s (kI n.k a)).1
theorem xr{d:Int}{K:x1->Prop}(h:0<=d):aa x7 (aJ .rem cD false true (.int .u8 d) (.int .u8 7)) w K=K (.int .u8 (((d % 7).toNat:Nat):Int)):=by
 rw[rU Φ,Int.tmod_eq_emod_of_nonneg h];have:=Int.emod_nonneg d (show(7:Int)≠0 by decide);rw[Int.toNat_of_nonneg this]
section
variable{w:x3}{ab ac ak:Nat}{A R:af}{A9:Nat->af}{aA:af}{n:aI}{s u:am}{t:aw}{h:List aw}{cs:List x1}{a:gf}
theorem EC(a:bh n.k n.sizes s){i:Int}(h:eP n i v):0<=i/\∃x,s.vars[i.toNat]?=σ x/\0<=v/\v<x.un.length:=by
 obtain⟨x,e,h1,_,f⟩:=h.var a;exact⟨h.1,x,e,h.2.2.1,by have:=h.2.2.2;omega⟩
theorem Qm(f:cr s/\dO (dq n) s/\n.funs.length<=256)(j:bh n.k n.sizes s):cr (lu n s a)/\dO (dq n) (lu n s a)/\n.funs.length<=256:=by
 unfold lu;split
 .split
  .rename_i h;obtain⟨r,x,p,w,_⟩:=EC j h;have e:=jw (v:=a.v) p;have q:dO s (dH s a.i.toNat a.v.toNat):=xe (v:=a.v);exact⟨by rw[e];exact cr.vars f.1 p rfl,f.2.1.trans q,f.2.2⟩
  .exact f
 .exact Qb f j _
theorem Qn(p:ca w ab ac ak A R A9 aA n s u t h cs){i:Nat}{x:bq}(C:u.vars[i]?=σ x):∃g cap y gy e,cs[3]?=σ (.slice (σ ⟨g,0,ν⟩) u.vars.length cap)/\w.cell? ⟨g,0+i*1,ν⟩=σ y/\aq .i64 e w gy y (ay x)/\(∀r,leads y r->A9 0 r)/\
  ∀{J U:x3}{m:Int}{z:x1}{K:Unit->x3->Prop},Ext w J->ae (λr=>leads y r) J U->aq .i64 e U gy z (ay {x with mask:=m})->(∀r,leads z r->leads y r)->(∀L,dr w ab ac ak A R A9 aA n s t h {u with vars:=u.vars.set i {x with mask:=m}} L->K () L)->
   aC x7 (o6 ap (.pointer (σ ⟨g,0+i*1,ν⟩)) z) U K:=by
 have M:=p.olds;have aK:=(x4.1 C).1;obtain⟨szv,ai,aL,aM,aN,aO,N,_,aj,_,_,_,_,al⟩:=id M.doc;obtain⟨g,cap,full,am,c,ao,e,E,au,F,O,P,Q,av,aw⟩:=DW (i:=i) (a:=ay x) aj (by rw[x8,C];rfl) λr _ h=>(al rfl).2 0 r h;obtain⟨y,rfl⟩:=V1.1 (an.len P);rw[u9]at e;have ax:full[i]?=σ y:=by have:=O 0 y rfl;simpa[show an.n (Λ)=1 from rfl]using this
 obtain⟨gy,az,S,aB⟩:=zA P;have j:∀r,leads y r->ao r:=λr f=>by
  rcases aB with rfl|aD
  .obtain⟨_,_,_,e,_⟩:=f;cases e
  .obtain⟨e,_⟩:=bO S f;rw[e];exact aD
 refine⟨g,cap,y,gy,az,by rw[N,<-e];rfl,by have:=E.cell (o:=i) ax;rw[X6,T0];exact this,S,λr f=>(Q r (j r f)).1,λ{J U m W K}G H X Y aE=>?_⟩;have aP:=G.size;have aQ:=H.size;have F:i*1+1<=full.length:=F;obtain⟨_,_,_,Z⟩:=dg X.ls;have aa:¬leads y g:=λh=>av (j g h);refine bk (o:=0+i*1) ap.i (by rw[Z];rfl) (by rw[Z];rfl) ((E.ext G).V H aa) Ω λaf ag aR B=>?_;have B:ad af g am (over full (i*1) [W]):=by
  have e:=DX (full:=full) (c:=[y]) (o:=i*1) (q:=0) (x:=W) O F Ξ;rw[X6]at B;rw[Nat.add_zero]at e;rw[e]at B;exact B
 have aS:g<w.heap.size:=E.lt;have I:ae (λr=>leads y r\/r=g) w af:=((G.V _).trans (H.mono λr _ h=>.inl h)).trans (ag.mono λr _ h=>.inr h);have aF:=bo X ag λr f he=>by have he:r=g:=he;exact aa (he▸Y r f)
 have aG:=aw I (λr _ h=>h.imp (j r) id) B (mS (R:=aA) aF) λr f=>.inl (j r (Y r f));have ah:∀r,r<w.heap.size->(leads y r\/r=g)->A9 0 r/\r<w.heap.size:=λr f h=>h.elim (λh=>Q r (j r h)) λh=>by rw[h];exact au
 obtain⟨cg,aH,aI⟩:=M.oe (u':={u with vars:=u.vars.set i {x with mask:=m}}) (λq r h=>h.2) (v:=ai) (by rw[N];rfl) I ah (by show bD _ _ _ _ ((u.vars.set i {x with mask:=m}).map ay);rw[U6];exact aG) rfl (pt C rfl) (pt C rfl) rfl rfl;refine aE _ ⟨I.mono λr f h=>.inl ⟨0,(ah r f h).1⟩,cg,cs,aH,λq r f=>?_⟩;rcases aI q r f with⟨aJ,h⟩|h
 .exact .inl ⟨aJ,h.1⟩
 .exact .inr h
end
section
variable{Z aA:af}{w w':x3}{ab ac ak:Nat}{A R:af}{A9:Nat->af}{n:aI}{s s':am}{t:aw}{cs:List x1}{a:gf}
def j7(Z aA:af)(w:x3)(ab ac ak:Nat)(n:aI)(s':am)(w':x3):Prop:=ae (λr=>Z r/\¬aA r) w w'/\∃hp,(∀r,hp r->Z r\/w.heap.size<=r)/\fc hp aA w' ab ac ak n s'
theorem fc.Qo{aE:af}{cg:Nat->af}{bi:aw}(p:ca w ab ac ak A R A9 aA n s s t [] cs)(f:∀r,Z r↔gT A R A9 aA ak r)(I:cr s'/\dO (dq n) s'/\n.funs.length<=256)(x:¬Z 0)(K:Laid w)(y:ae (eg w) w J)(z:Grow A w aE J)(j:∀q r,cg q r->A9 q r)(L:dr J ab ac ak aE R cg aA n s' bi [] s' U):j7 Z aA w ab ac ak n s' U:=by
 obtain⟨B,C,b8,M,N⟩:=L;have Q:=y.size;have S:=B.size;have O:=p.Ed;have E:ae (λr=>Z r/\¬aA r) w U:=((q2 z.1 y).mono (T:=λr=>Z r/\¬aA r) λr _ h=>⟨(f r).2 (.inl h.1),λh'=>(p.read r h').1 h.2⟩).trans
  (B.mono λr _ h=>⟨(f r).2 (h.elim (λ⟨q,h⟩=>.inr (.inr (.inl ⟨q,j q r h⟩))) λh=>.inr (.inr (.inr (.inr h)))),h.elim (λ⟨q,h⟩=>O q r (j q r h)) λh h'=>(p.read r h').2.2 h⟩)
 have V:=p.box.lt;have e:∀{r:Nat}{F:Prop},(F->gT A R A9 aA ak r)->F->Z r\/w.heap.size<=r:=λP h=>.inl ((f _).2 (P h));have G:∀r,gT aE R (λq r=>C q r/\r<U.heap.size) aA ak r->Z r\/w.heap.size<=r:=by
  intro r a;rcases a with a|a|⟨q,a,_⟩|a|a
  .exact (z.2.1 r a).elim (e .inl) .inr
  .exact e (λh=>.inr (.inl h)) a
  .exact (N q r a).elim (λ⟨H,h⟩=>e (λh=>.inr (.inr (.inl h))) ⟨H,j H r h⟩) λh=>.inr Ω
  .exact e (λh=>.inr (.inr (.inr (.inl h)))) a
  .exact e (λh=>.inr (.inr (.inr (.inr h)))) a
 exact⟨E,λr=>gT aE R (λq r=>C q r/\r<U.heap.size) aA ak r,G,aE,R,_,bi,b8,M.olds,⟨hx E (λh=>x h.1) K,λh=>(G 0 h).elim x λh=>Ω⟩,I,λr=>Iff.rfl,λq r a=>a.2⟩
theorem j7.same(h:fc Z aA w ab ac ak n s)(a:Ext w w'):j7 Z aA w ab ac ak n s w':=⟨a.V _,Z,λ_ h=>.inl h,h.ext a⟩
theorem j7.before(a:Ext w J)(h:j7 Z aA J ab ac ak n s w'):j7 Z aA w ab ac ak n s w':=by
 obtain⟨c,hp,e,f⟩:=h;have:=a.size;exact⟨(a.V _).trans c,hp,λr j=>(e r j).imp id λh=>Ω,f⟩
end
def tO(s:am):Prop:=∀f∈s.funs,f.live≠0
theorem Qp(n:aI):tO (dq n):=by
 intro f a;unfold dq at a;obtain⟨g,_,rfl⟩:=l9.1 a;exact(by decide:(1:Int)≠0)
theorem Qq{a b:am}(h:dO a b)(k:tO a):tO b:=by
 intro g q;obtain⟨j,e⟩:=List.getElem?_of_mem q;have r:=(x4.1 e).1;obtain⟨f,p⟩:=aF (l:=a.funs) (i:=j) (by have:=h.funs;omega);rw[(h.fn j f g p e).2.2.1];exact k f (x5 p)
section
variable{w:x3}{ab ac:Nat}{A R:af}{n:aI}{s:am}{t:aw}{ec:x1}
end
def lv(w0 w:x3)(ab ac ak:Nat)(n:aI):Prop:=Ext w0 w/\∃s Z aA,fc Z aA w ab ac ak n s/\∀r,Z r->w0.heap.size<=r
section
variable{w0 w w':x3}{ab ac ak:Nat}{n:aI}{s:am}{Z aA:af}
theorem lv.ext(h:lv w0 w ab ac ak n)(a:Ext w w'):lv w0 w' ab ac ak n:=by
 obtain⟨e,s,Z,aA,f,j⟩:=h;exact⟨e.trans a,s,Z,aA,f.ext a,j⟩
end
theorem fc.live{Z aA:af}{ab ac ak:Nat}{n:aI}{s:am}(h:fc Z aA w ab ac ak n s):tO s/\s.funs.length<=256:=by
 obtain⟨_,_,a,e⟩:=h.ok;refine⟨Qq a (Qp n),?_⟩;rw[a.funs];unfold dq;rw[u9];exact e
section
variable{w:x3}{ab ac:Nat}{A R:af}{n:aI}{s:am}{t:aw}
theorem xt{i:Nat}{x:bq}(e:bh n.k n.sizes s)(a:s.vars[i]?=σ x)(f:v∈ay x):eA n s (i:Int) v=x.un.getD v.toNat 0:=by
 unfold eA;rw[if_pos (oo e a f),u6];unfold fY;rw[a]
theorem tP{i:Nat}{x:bq}(a:s.vars[i]?=σ x):bB s (i:Int)=ay x:=by
 unfold bB;rw[u6,a]
theorem Qr{i:Nat}{x:bq}(e:bh n.k n.sizes s)(a:s.vars[i]?=σ x):dw n s (i:Int)=dm n.k (ay x) λv=>x.un.getD v.toNat 0:=by
 unfold dw;rw[tP a];exact Qe λv f=>xt e a f
end
theorem ED{p:x1}(aE:aH .u8 w p pl)(W:Bytes pl)(a2:e6 w):ai x7 FS [p] w (Pe w (pl.take 300)):=by
 refine az func25 ?_;refine bz aX.i λz J bP ag Z=>?_;have Z:ad J z aX z12:=Z;rw[aW cH.u (aE.ext ag),lN];refine Jg (i:=min pl.length 300) Ω cH.u cD.i (aE.ext ag) Ω λbQ ak=>?_;have a6:pl.take (min pl.length 300)=pl.take 300:=by
  by_cases h:pl.length<=300
  .rw[R5 h,o5,j0 h]
  .rw[Nat.min_eq_right Ω]
 rw[a6]at ak;have aa:Bytes (pl.take 300):=λb a=>W b (V5 a);have a7:(pl.take 300).length<=300:=by rw[o7];omega
 generalize pl.take 300=q at ak aa a7;refine(On ak Ω).mono ?_;rintro bR U _ ⟨al,bS,am⟩;have aF:=ag.trans al;refine(L8 am.ls aa Ω (a2.ext aF)).mono ?_;rintro bT bU _ ⟨X,B⟩;have aG:=aF.trans X;cases E:gp q with
 |none=>
  rw[E]at B;obtain⟨n,e,rfl,he⟩:=B;rw[gW,gX,gY];refine(Da (am.ext X).ls aa Ω).mono ?_;rintro a8 an _ ⟨M,ba,bb,ao,_⟩;obtain rfl:=ao E;rw[gW,gX,gY];refine aT (λv Y=>v= .bool true/\Ext an Y) ?_ ?_
  .rintro _ Y ⟨rfl,H⟩;rw[bL,dh (cs:=#[Δ 0,.slice ν 0 0,Δ 0,.slice ν 0 0,.slice ν 0 0,.slice ν 0 0,.slice ν 0 0,.slice ν 0 0]) Ψ];obtain⟨_,_,s,C⟩:=Dy;refine b6 (vs:=z12) aX.i rfl rfl (by intro u hu;simp[z12]at hu;rcases hu with rfl|rfl|rfl|rfl<;>rfl) ((((Z.ext al).ext X).ext M).ext H) λbV bc bW be=>?_;rw[fC aX.p aX.i rfl be.range];refine⟨((aG.trans M).trans H).then bc λr B he=>by have he:r=z:=he;omega,_,_,false,rfl,⟨rfl,(Dy).elim λ_ h=>by obtain⟨_,_,h⟩:=h;exact λu hu=>by simp[z12]at hu;rcases hu with rfl|rfl|rfl|rfl<;>rfl⟩,.inl ⟨rfl,rfl⟩,λf aI=>?_⟩;rw[E]at aI;cases aI
  .intro ax K;rw[bI,aj];exact⟨λ_=>K _ _ ⟨rfl,Ext.refl _⟩,λh=>absurd he h⟩
 |some f=>
  rw[E]at B;obtain⟨bX,n,rfl,bf⟩:=B;obtain⟨N,bg,O,bh,bi⟩:=Ol Ω E;have P:=BV O;have ae:=wQ O;rw[gW,gX,gY];refine(Da (am.ext X).ls aa Ω).mono ?_;rintro a8 an _ ⟨M,ba,bb,_,ao⟩;obtain⟨bY,rfl,bj⟩:=ao f E;rw[gW,gX,gY];refine aT (λv Y=>v= .bool false/\Ext an Y) ?_ ?_
  rotate_left
  .intro ax K;rw[bI,aj];refine⟨λh=>absurd rfl h,λ_=>?_⟩;rw[cP uU.u];exact K _ _ ⟨rfl,Ext.refl _⟩
  rintro _ Y ⟨rfl,H⟩;rw[aU];have aJ:=(aG.trans M).trans H;refine(Nd ((bf.ext M).ext H) O bg ⟨bh,bi⟩).mono ?_;rintro bZ bk _ ⟨ap,bl⟩;have af:=aJ.trans ap;have Q:=((((Z.ext al).ext X).ext M).ext H).ext ap;have aK:=(bj.ext H).ext ap;have b0:=af.size;have b1:w.heap.size<=z:=Ω
  have b2:=Q.lt;rcases bl with⟨bm,e,he,rfl⟩|⟨b3,rfl,bn⟩
  .rw[br,bt];refine Om.mono ?_;rintro _ aL _ ⟨rfl,j⟩;refine iA (λaq t4 x=>aq= .pointer ν/\t4= .bool false/\Ext w x/\∃cs:List x1,ad x z aX cs/\cs.length=8/\∀u∈cs,u.oneCell'=true) ?_ ?_
   .rintro _ _ x ⟨rfl,rfl,au,cs,av,s,C⟩;rw[fC aX.p aX.i s av.range];exact⟨au,_,cs,false,rfl,⟨s,C⟩,.inl ⟨rfl,rfl⟩,λb4 aM bo=>absurd bo (by rw[E]at aM;cases aM;exact bm)⟩
   .intro ax K;have bq:=j.size;refine(Dk (aK.ext j) O).mono ?_;rintro bu aw _ ⟨y,ay⟩;refine(DU (R:=λr=>w.heap.size<=r/\∃c,ad aw r ah c) (λr h=>h.2.elim λc a=>a.lt) (λr c W a=>⟨Ω,c,a⟩) ay P.1 ae).mono ?_;rintro bw bx _ ⟨G,A9,cs,rfl,S,aB⟩;obtain⟨s,C⟩:=S.len;rw[bd,aj];refine⟨λh=>absurd h he,λ_=>?_⟩;refine b6 (vs:=cs) aX.i s rfl C (((Q.ext j).ext y).ext G) λbA L aN aC=>?_;exact K _ _ _ ⟨rfl,rfl,(((af.trans j).trans y).trans G).then L λr B he=>by have he:r=z:=he;omega,cs,aC,s,C⟩
  .rw[br,bt];obtain⟨b5,bB,aO,bC⟩:=bn;have z5:=aJ.size;refine(ND (R0:=λr=>w.heap.size<=r/\r<bk.heap.size) bB aO (λr o h I=>⟨by have:=bC r o h I;omega,(n9.1 (aO.aY r o h I)).1⟩) (λr h=>h.2) P.1 ae).mono ?_;rintro _ aL _ ⟨j,ab,ac,A,R,t,rfl,bD,aP,aQ,aR,bE⟩;have aS:bp aL ab ac A R (c3 f) (dq (c3 f)) t:=⟨bD,aP,Oq P.1 ae aP aQ,Nq P.1,P.1⟩;refine iA (λaq t4 x=>aq=Γ ab/\t4= .bool true/\Ext w x/\∃cs:List x1,ad x z aX cs/\cs.length=8/\(∀u∈cs,u.oneCell'=true)/\∃R' A9 aA,bp x ab ac A R' (c3 f) (dq (c3 f)) t/\iw true A9 aA x cs (c3 f).k (c3 f).sizes (dq (c3 f))/\(∀q r,A9 q r->¬A r/\¬R' r/\w.heap.size<=r)/\(∀r,aA r->¬eg x r/\r<x.heap.size/\w.heap.size<=r)/\∀r,R' r->w.heap.size<=r) ?_ ?_
   .rintro _ _ x ⟨rfl,rfl,au,cs,av,s,C,R',A9,aA,bF,S,bG,bH⟩;rw[fC aX.p aX.i s av.range];exact⟨au,_,cs,true,rfl,⟨s,C⟩,.inr ⟨rfl,f,E,ab,ac,A,R',t,N,A9,aA,O,rfl,bF,aQ,λr B=>by have:=aR r B;omega,S,bG,bH⟩,λ_ _ _=>rfl⟩
   .intro ax K;have bq:=j.size;refine(Dk (aK.ext j) O).mono ?_;rintro bu aw _ ⟨y,ay⟩;refine(DU (R:=λr=>w.heap.size<=r/\∃c,ad aw r ah c) (λr h=>h.2.elim λc a=>a.lt) (λr c W a=>⟨Ω,c,a⟩) ay P.1 ae).mono ?_;rintro bw bx _ ⟨G,A9,cs,rfl,S,aB⟩;obtain⟨s,C⟩:=S.len;rw[bd,aj];refine⟨λ_=>?_,λh=>absurd rfl h⟩;rw[zn de.u];have aV:=((Q.ext j).ext y).ext G;have bJ:=((af.trans j).trans y).trans G;refine b6 (vs:=cs) aX.i s rfl C aV λbA L aN aC=>?_;have aZ:=(aS.ext y).ext G;obtain⟨R',a1,bK⟩:=aZ.1.put aV L λh=>by have:=aR z h;omega
    have b7:=((af.trans j).trans y).size;have b8:=G.size;obtain⟨_,_,_,_,⟨_,_,bM,bN⟩,_⟩:=(aS.ext y).1;have b9:=Q.lt;have ca:=(j.trans y).size;have bO:=S.V L λr B h he=>by
     have he:r=z:=he;rcases h with⟨q,h⟩|⟨_,c,a⟩
     .have:=aB q r h;omega
     .subst he;exact absurd (ep a (((Q.ext j).ext y))) Φ
    refine K _ _ _ ⟨rfl,rfl,bJ.then L λr B he=>by have he:r=z:=he;omega,cs,aC,s,C,R',A9,_,⟨bK,aZ.2⟩,bO,λq r h=>?_,λr h=>?_,λr h=>?_⟩
    .have cb:=aB q r h;refine⟨λaD=>by have:=bN r aD;omega,λaD=>by have:=bM r (a1 r aD).1;omega,Ω⟩
    .obtain⟨W,c,a⟩:=h;have cc:=a.lt;have aN:=L.size;refine⟨Oj ((a.ext G).V L λhe=>?_) Φ,Ω,W⟩;have he:r=z:=he;subst he;exact absurd (ep a (((Q.ext j).ext y))) Φ
    .rcases bE r (a1 r h).1 with h|h
     .exact h.1
     .omega
section
variable{Z aA:af}{w w':x3}{ab ac ak:Nat}{A R:af}{A9:Nat->af}{n:aI}{s s':am}{t:aw}{cs:List x1}{a:gf}
theorem Qs(h:fc Z aA w ab ac ak n s)(X:a.ok):ai x7 uI [Γ ab,Γ ak,.agg a.bG.toArray] w λ_ w'=>j7 Z aA w ab ac ak n (lu n s a) w':=by
 obtain⟨A,R,A9,t,cs,p,⟨aC,Q⟩,aD,S,aF⟩:=id h;have N:=p.eh.2.2.2.1;have br:=N.fI;have bt:=a.Ql;have G:¬A 0:=λh=>Q ((S 0).2 (.inl h));have Y:=Qm (a:=a) aD N;refine az func28 ?_;refine bj λga J bu aH aa=>?_;have aa:ad J ga c0 [.int .u8 a.d,Δ a.i,Δ a.pos,Δ a.v,Δ a.c]:=aa;intro U aI _ _;have C:=aH.trans aI;have B:=aa.ext aI;have bw:=aH.size;have bx:=C.size;have bz:=B.lt;have ae:(a.d % 7).toNat=a.kind:=rfl;obtain⟨szv,bA,bB,bC,bD,bE,aU,_⟩:=p.od;have aV:cs[0]?=σ (Δ n.k):=by rw[aU];rfl
 have hu:T1.wrap a.c=a.c.emod 18446744073709551616:=rfl;have aW:0<=a.c.emod 18446744073709551616:=Int.emod_nonneg _ Φ;have bF:=Int.emod_nonneg (a.c.emod 18446744073709551616) (show n.k+1≠0 by omega);have bH:=Int.emod_lt_of_pos (a.c.emod 18446744073709551616) (show 0<n.k+1 by omega);have aY:a.c.emod 18446744073709551616 % (n.k+1)=EB n.k a:=rfl;rw[aL c0.p 4 B rfl,fl al.u fj.u,aG aX.p 0 (p.box.ext C) aV,aP,wrap_i64 Ω Ω,fl al.u fj.u,wrap_u64 (x:=n.k+1) Ω Ω,hu,rU Ω,Int.tmod_eq_emod_of_nonneg aW,fl fj.u al.u,wrap_i64 Ω Ω,aY,
  aL c0.p 0 B rfl,xr X.1,ae,bd,aj]
 have E:=p.ext C;refine⟨λaf=>?_,λaf=>?_⟩
 .have af:a.kind=6:=Ω
  have H:lu n s a=if eP n a.i a.v then dH s a.i.toNat a.v.toNat else s:=by unfold lu;rw[if_pos af]
  refine dd (λw'=>j7 Z aA w ab ac ak n (lu n s a) w') (λw' h=>h) λax aJ=>?_;rw[aL c0.p 1 B rfl,aL c0.p 3 B rfl];refine(wO (i:=a.i) (v:=a.v) E.eh (.inl p.ft.1)).mono ?_;rintro bI bK _ ⟨aZ,a1⟩;by_cases I:eP n a.i a.v
  rotate_left
  .obtain⟨rfl,a2⟩:=aZ I;rw[bd,aj];exact⟨λh=>absurd h Φ,λ_=>aJ _ (by rw[H,if_neg I];exact j7.same h (C.trans a2))⟩
  obtain⟨rfl,aK,aE,y,ag,a6⟩:=a1 I;rw[if_pos I]at H;rw[bd,aj];refine⟨λ_=>?_,λh=>absurd rfl h⟩;have a7:=E.prog aK ag a6 E.ft.set (λ_ h=>.inl h) (λ_ _ _ h=>h) E.box.lt;obtain⟨a8,x,O,ba,bL⟩:=EC N I;obtain⟨am,W⟩:=U7 a8;rw[W,u6]at O;intro an ao _ _;have j:=a7.ext ao;have aq:∀r,A r->r<w.heap.size:=λr h=>q3 p.eh r (.inl h);have P:=(B.V ag.1 λh=>by have:=aq ga h;omega).ext ao;rw[W]at P;have aM:am<s.vars.length:=(x4.1 O).1;obtain⟨g,cap,aN,gy,e,au,bb,bc,be,bg⟩:=Qn j O;have bM:=pv x;have bN:x.un.length<=32:=by obtain⟨bO,aO,bP,bh,_⟩:=I.var N;rw[W,u6,O]at aO;cases aO;exact bh
  have av:∀r,leads aN r->r≠ga/\r≠ak:=λr f=>by
   have h1:A9 0 r/\r<U.heap.size:=be r f;exact⟨λhe=>by have:=aF 0 r h1.1;omega,λhe=>(p.apart 0 r h1.1).2.2 he⟩
  rw[aG aX.p 3 j.box au,aL c0.p 1 P rfl,aG aX.p 3 j.box au,aL c0.p 1 P rfl,e3 dn.u ap.i aM λ_=>rfl,aB (v:=aN) (o:=0+am*1) Ψ bb,ki];refine(OY (p:=λy=>decide (y=a.v)) bc Ω λw' y bi bQ=>?_).mono ?_
  .refine az func73 ?_;rw[aL c0.p 3 (P.V bi λh=>(av ga h).1 rfl) rfl,bd];exact⟨rfl,Ext.refl _⟩
  rintro bR aw _ ⟨ay,bk,bl⟩;have bm:=P.V ay λh=>(av ga h).1 rfl;have bn:=j.box.V ay λh=>(av ak h).2 rfl;refine⟨.inr ⟨jo Ψ (bm.cell (o:=0+1) rfl),Go.Vc.hG λK=>aR c0.p rfl,jo Ψ (bn.cell (o:=0+3) au),Go.Vc.hG λK=>aR aX.p rfl,Go.Vc.hG λK=>bJ,trivial⟩,?_⟩;rw[e3 dn.u ap.i aM λ_=>rfl];refine bg (m:=((x.mask.toNat ||| 2 ^ a.v.toNat:Nat):Int)) (Ext.refl _) ay (by rw[w9 ba];exact bk) bl λbS aQ=>aJ _ ?_;have bo:dH s a.i.toNat a.v.toNat={s with vars:=s.vars.set am {x with mask:=((x.mask.toNat ||| 2 ^ a.v.toNat:Nat):Int)}}:=by rw[W,u6];unfold dH;rw[O]
  rw[H];rw[<-bo]at aQ;have bp:=dr.comp (ao.V _) (λq r f=>.inl ⟨q,f⟩) aQ;exact j7.before C (fc.Qo E S (by rw[<-H];exact Y) Q (aC.ext C) aK ag (λq r (f:A9 q r/\r<U.heap.size)=>f.1) bp)
 have bT:(kI n.k a).kind=a.kind:=rfl;have H:lu n s a=(bf n.k s (kI n.k a)).1:=by unfold lu;rw[if_neg Ω]
 rw[aL c0.p 0 B rfl,xr X.1,ae,fl cD.u ah.u,wrap_i64 Ω Ω,aL c0.p 1 B rfl,aL c0.p 2 B rfl,aL c0.p 3 B rfl];refine(Qc (m:=kI n.k a) E N aD.1 Ω).mono ?_;rintro _ an _ ⟨rfl,aS⟩;obtain⟨aT,bU,bV,j,bW⟩:=id aS;have aq:∀r,(∃q,A9 q r)\/r=ak->r<w.heap.size:=λr f=>f.elim (λ⟨q,h⟩=>aF q r h) λh=>by rw[h];exact p.box.lt
 have z:=B.V aT λf=>by have:=aq ga f;omega
 have L:Laid an:=hx aT (λh=>Q ((S 0).2 (h.elim (λh=>.inr (.inr (.inl h))) λh=>.inr (.inr (.inr (.inr h)))))) (aC.ext C);have M:∀{r:x1}{aw:x3},oq [] an ab ac A R n s (kI n.k a) r aw->j7 Z aA w ab ac ak n (lu n s a) aw:=λbq=>by
  rw[H]at Y ⊢;exact j7.before C (fc.step E S Y Q aS (Ext.refl _) bq.2)
 rw[aL c0.p 0 z rfl,xr X.1,ae,bd,aj];refine⟨λhk=>?_,λbX=>?_⟩
 .rw[aL c0.p 1 z rfl,aL c0.p 2 z rfl,aL c0.p 3 z rfl];exact(PW (a:=kI n.k a) Ω j.eh L G j.ft.m).mono λr w' _ f=>M f
 rw[bd,aj];refine⟨λhk=>?_,λbY=>?_⟩
 .rw[aL c0.p 1 z rfl,aL c0.p 2 z rfl,aL c0.p 3 z rfl];exact(PX (a:=kI n.k a) Ω j.eh L G j.ft.m).mono λr w' _ f=>M f
 rw[bd,aj];refine⟨λhk=>?_,λbZ=>?_⟩
 .rw[aL c0.p 1 z rfl];exact(Ex (a:=kI n.k a) Ω j.eh L G j.ft.m).mono λr w' _ f=>M f
 rw[bd,aj];refine⟨λhk=>?_,λb0=>?_⟩
 .rw[aL c0.p 1 z rfl];exact(P3 (a:=kI n.k a) Ω j.eh L G j.ft.m).mono λr w' _ f=>M f
 rw[bd,aj];refine⟨λhk=>?_,λb1=>?_⟩
 .rw[aL c0.p 1 z rfl,aL c0.p 3 z rfl];exact(Ey (a:=kI n.k a) Ω j.eh L G j.ft.m).mono λr w' _ f=>M f
 .rw[aL c0.p 1 z rfl,aL c0.p 3 z rfl];exact(P4 (a:=kI n.k a) Ω j.eh L G j.ft.m).mono λr w' _ f=>M f
end
section
variable{w0 w w':x3}{ab ac ak:Nat}{n:aI}{s:am}{Z aA:af}
theorem lv.Qt{a:gf}(h:lv w0 w ab ac ak n)(p:a.ok):ai x7 uI [Γ ab,Γ ak,.agg a.bG.toArray] w λ_ w'=>lv w0 w' ab ac ak n:=by
 obtain⟨e,s,Z,aA,q,f⟩:=h;refine(Qs q p).mono ?_;rintro v J _ ⟨x,y,A,B⟩;have z:=e.size;exact⟨e.then x λr j h=>by have:=f r h.1;omega,_,y,aA,B,λr j=>(A r j).elim (f r) λh=>Ω⟩
theorem Qu{e:x1}{L:List lr}{K:x1->x3->Prop}{i:Nat}{x:lr}(j:Seen fm w [e] L)(q:L[i]?=σ x)(r:∀g w',Ext w w'->w.heap.size<=g->ad w' g c0 (mZ x).bG->K (Γ g) w'):
  aa x7 (j5 nr e (Δ (i:Int))) w λs=>
  aa x7 (u4 c0 s) w λy=>
  aC x7 (Instr.alloc c0 true (.tuple #[])) w λa f=>
  aC x7 (o6 c0 a y) f λ(_:Unit)h=>K a h:=by
 refine nB (α:=lr) c0.p rfl nr.u c0.i j q λcs z=>?_;obtain rfl:=Qj z;refine bz c0.i λgy f F A B=>?_;refine b6 (vs:=(mZ x).bG) c0.i rfl rfl (gf.one _) B λh C G E=>?_;exact r _ _ (A.put C Ω) Ω E
theorem Qv{r:x1}{L:List lr}{m:Int}{K:x3->Prop}(h:lv w0 w ab ac ak n)(e:Seen fm w0 [r] L)(H:∀x∈L,(mZ x).ok)(I:∀w',lv w0 w' ab ac ak n->K w'):
  aa x7 (V2 #[nr] ah #[r]) w λJ=>
 bZ (Δ 0) w λj a k=>
  aa x7 (aJ .lss ah false false j J) a λM=>
  Split M (ck (α:=x3->Prop) (λ(y:x3)=>
   aa x7 (aJ .add ah false true j (Δ 1)) y λN=>
   k N y) λz=>
  aa x7 (j5 nr r j) a λO=>
  aa x7 (u4 c0 O) a λP=>
  aC x7 (Instr.alloc c0 true (.tuple #[])) a λb A=>
  aC x7 (o6 c0 b P) A λ(_:Unit)q=>
  aa x7 (aJ .lss ah false true j (Δ m)) q λQ=>
  Split Q (aa x7 (u4 c0 b) q λR=>
   ai x7 uI [Γ ab,Γ ak,R] q λY B=>
   z B)
   (z q))
   (K a):=by
 rw[jl nr.u (bT e h.1)];refine bZ.range L.length (λi s=>lv w0 s ab ac ak n) (rZ e) h ?_ ?_
 .rintro i s S hi f U;obtain⟨x,C⟩:=aF (l:=L) hi;have V:=H x (x5 C);refine bQ Ω ?_;refine dd (λa=>lv w0 a ab ac ak n) (λa W=>by rw[aP];exact U _ W) λax E=>?_;refine Qu (bT e f.1) C λgy A G _ X=>?_;rw[aQ,aj];refine⟨λ_=>?_,λ_=>E _ (f.ext G)⟩;rw[bH c0.p c0.i rfl X.range];exact((f.ext G).Qt V).mono λv B _ e=>E _ e
 .rintro s S f;exact cn Ω (I _ f)
end
def EE(w:x3)(pl:Λ)(r:x1)(w':x3):Prop:=Ext w w'/\((∃cs:List x1,r= .tuple #[.pointer ν,.agg cs.toArray,.bool false]/\cs.length=8/\∀u∈cs,u.oneCell'=true)\/∃f ab ac ak Z aA s cs,r= .tuple #[Γ ab,.agg cs.toArray,.bool true]/\gp (pl.take 300)=σ f/\(c3 f).k<=1000/\
 fc Z aA w' ab ac ak (c3 f) s/\fh [] Z aA w' ab ac ak (c3 f) s s cs/\∀r,Z r->w.heap.size<=r)
theorem Qw{p Y:x1}{L:List lr}(aw:aH .u8 w p pl)(ay:∀b∈pl,0<=b/\b<256)(aB:Seen fm w [Y] L)(aD:∀x∈L,(mZ x).ok)(aE:e6 w)(M:Laid w):ai x7 FO [p,Y] w (EE w pl):=by
 have a6:=tN M;refine az func8 ?_;refine bz aX.i λj J a7 y af=>?_;have a8:=af.lt;have ba:=y.size;refine(ED (aw.ext y) ay (aE.ext y)).mono ?_;rintro _ U _ ⟨N,bb,cs,ok,rfl,⟨E,G⟩,aF,_⟩;rw[gW,gX,gY];refine bz aX.i λak bc bd aG aI=>?_;refine b6 (vs:=cs) aX.i E rfl G aI λH aJ be O=>?_;have ag:Ext U H:=aG.put aJ Ω;have I:=N.trans ag;have ah:=y.trans I;have bf:=N.size;have out:∀{a:x3}{z:List x1}{K:x1->x3->Prop},Ext J a->ad a ak aX z->z.length=8->(∀u∈z,u.oneCell'=true)->(∀e,ae (λr=>r=j) a e->K (.agg z.toArray) e)->
   aa x7 (u4 aX (Γ ak)) a λt25=>aC x7 (o6 aX (Γ j) t25) a λ(_:Unit)e=>aa x7 (do loadVar aX (<-asAddr (Γ j))) e λr=>K r e:=λ{a z K}aK aM P aN aO=>by
  rw[bH aX.p aX.i P aM.range];refine b6 (vs:=z) aX.i P rfl aN (af.ext aK) λe B bg aP=>?_;rw[fC aX.p aX.i P aP.range];exact aO _ B
 have no:∀{e:x3},(∃a,Ext H a/\ae (λr=>r=j) a e)->EE w pl (.tuple #[.pointer ν,.agg cs.toArray,.bool false]) e:=λ⟨a,q,aQ⟩=>⟨(ah.trans q).then aQ λr C h=>by have h:r=j:=h;omega,.inl ⟨cs,rfl,E,G⟩⟩;rcases aF with⟨rfl,rfl⟩|⟨rfl,f,aR,aS⟩
 .refine aT (λv Q=>Q=H/\v= .bool true) ?_ λax S=>?_
  .rintro _ _ ⟨rfl,rfl⟩;rw[bL];intro a q _ _;exact out (I.trans q) (O.ext q) E G λe B=>no ⟨a,q,B⟩
  .rw[bC,W5,bL];exact S _ _ ⟨rfl,rfl⟩
 obtain⟨ab,ac,Z,aA,rfl,al,aV⟩:=Qd aS ag O Ω N.size (tN (M.ext y)) (M.ext ah);obtain⟨szv,bh,bi,bj,bk,bl,aW,_⟩:=al.look;refine aT (λv Q=>Q=H/\v= .bool (decide (1000<(c3 f).k))) ?_ λax S=>?_
 rotate_left
 .rw[bC,Y6,aU,aL aX.p 0 aW rfl,bP];exact S _ _ ⟨rfl,rfl⟩
 rintro _ _ ⟨rfl,rfl⟩;rw[aj];refine⟨λhk=>?_,λhk=>?_⟩
 .intro a q _ _;exact out (I.trans q) (O.ext q) E G λe B=>no ⟨a,q,B⟩
 refine Qv (w0:=J) ⟨I,_,Z,aA,al,aV⟩ (bT aB y) aD λbm aY=>?_;obtain⟨am,s,an,aZ,a1,ao⟩:=aY;intro bn V _ _;have ap:=a1.ext V;obtain⟨W,aq,a2⟩:=ap.cG;have au:W.length=8/\∀u∈W,u.oneCell'=true:=by
  obtain⟨A,R,A9,t,p,_⟩:=id aq;exact b9.len p.doc
 have av:∀r,an r->¬r=j:=λr C h=>by have:=ao r C;omega
 refine out (am.trans V) a2 au.1 au.2 λbo X=>⟨((y.trans am).trans V).then X λr C h=>by have h:r=j:=h;omega,.inr ⟨f,ab,ac,ak,an,aZ,s,W,rfl,aR,Ω,ap.side X av (λh=>by have h:0=j:=h;omega),aq.side X av (λh=>by have h:0=j:=h;omega),λr C=>by have:=ao r C;omega⟩⟩
section
variable{w:x3}{ab ac:Nat}{A R:af}{n:aI}{s:am}{t:aw}
theorem Qx{i:Nat}(h:bp w ab ac A R n s t)(f:Laid w)(e:jZ n s (i:Int)=true):ai x7 yQ [Γ ab,Δ (i:Int)] w λr w'=>Ext w w'/\r= .tuple #[Δ (dw n s (i:Int)).1,Δ (dw n s (i:Int)).2,Δ 0]:=by
 obtain⟨_,x,a,_⟩:=DD h.2.2.2.1 e;rw[u6]at a;refine(OC (i:=(i:Int)) h f).mono ?_;rintro r q _ ⟨j,_,p⟩;refine⟨j,?_⟩;rw[p x e (by rw[u6];exact a)];unfold dw;rw[tP a]
end
theorem Qy{l:Λ}{of:Int->Int}:(l=[]/\(dm k l of).2= -1)\/(dm k l of).2∈l:=by
 have key:∀(l:Λ)(p:Int×Int),(l.foldl (eQ of) p).2=p.2\/(l.foldl (eQ of) p).2∈l:=λl=>by
  induction l with
  |nil=>exact λp=>.inl rfl
  |cons v l a=>
   intro p;rw[T9];rcases a (eQ of p v)with h|h
   .rw[h];unfold eQ;split
    .exact .inr (.head _)
    .exact .inl rfl
   .exact .inr (.tail _ h)
 cases l with
 |nil=>exact .inl ⟨rfl,rfl⟩
 |cons v l=>
  right;unfold dm;rw[T9];have e:eQ of (k,-1) v=(of v,v):=by unfold eQ;rw[if_pos (.inl rfl)]
  rw[e];rcases key l (of v,v)with h|h
  .rw[h];exact .head _
  .exact .tail _ h
def hq(s:am):Nat:=(s.vars.map λx=>(ay x).length).sum
def fv(k:Int)(s:am):Nat:=hq s+(k-s.zero).toNat
theorem Qz{l:List Nat}{i x y:Nat}(h:l[i]?=σ x):(l.set i y).sum+x=l.sum+y:=by
 induction l generalizing i with
 |nil=>simp at h
 |cons a l e=>
  cases i with
  |zero=>simp at h;subst h;rw[List.set_cons_zero,List.sum_cons,List.sum_cons];omega
  |succ i=>rw[List.set_cons_succ,List.sum_cons,List.sum_cons];have:=e (i:=i) (by simpa using h);omega
theorem EF{s:am}{i:Nat}{x y:bq}(a:s.vars[i]?=σ x):hq {s with vars:=s.vars.set i y}+(ay x).length=hq s+(ay y).length:=by
 unfold hq;rw[U6];exact Qz (by rw[x8,a];rfl)
section
variable{n:aI}{s:am}
theorem QA{x:bq}(hm:0<=x.mask)(h:v∈ay x):(ay {x with mask:=((x.mask.toNat ||| 2 ^ v.toNat:Nat):Int)}).length<(ay x).length:=by
 have a:=(fb.1 h).1.1;have f:((x.mask.toNat:Nat):Int)=x.mask:=Ω
 have e:ay {x with mask:=((x.mask.toNat ||| 2 ^ v.toNat:Nat):Int)}=(ay x).filter λu=>decide (u≠v):=by
  unfold ay;rw[List.filter_filter];refine List.filter_congr λu hu=>?_;obtain⟨q,_,rfl⟩:=l9.1 hu;simp only;rw[w3 a Ω,f];cases dropped x.mask (q:Int)<;>simp
 rw[e];refine Nat.lt_of_le_of_ne (List.length_filter_le _ _) λhe=>?_;have:=(List.filter_eq_self).1 (List.filter_sublist.eq_of_length he) v h;simp at this
theorem QB{i:Int}(f:bh n.k n.sizes s)(p:cr s):hM n.k n.sizes s (bf n.k s (et i v)).1/\(bf n.k s (et i v)).1.zero=s.zero/\(∀j u,eA n (bf n.k s (et i v)).1 j u=eA n s j u)/\
  ((bf n.k s (et i v)).2≠0->(bf n.k s (et i v)).1=s/\∀x,dA s i v=σ x->cM n.k s.zero (x.un.getD v.toNat 0)<n.k)/\
  ((bf n.k s (et i v)).2=0->hq (bf n.k s (et i v)).1<hq s/\v∉bB (bf n.k s (et i v)).1 i):=by
 have a:bf n.k s (et i v)=match dA s i v with
  |none=>(s,1)
  |some x=>if cM n.k s.zero (x.un.getD v.toNat 0)<n.k then(s,7)else(dH s i.toNat v.toNat,0):=by
  unfold bf et;simp only;rw[if_neg Ω,if_neg Ω,if_neg Ω,if_neg Ω,if_pos trivial];cases dA s i v<;>rfl
 cases q:dA s i v with
 |none=>
  rw[q]at a;rw[a];exact⟨.rfl f p,rfl,λ_ _=>rfl,λ_=>⟨rfl,λx e=>by cases e⟩,λh=>by cases h⟩
 |some x=>
  rw[q]at a;simp only at a;obtain⟨E,e,F,w⟩:=jy q;by_cases r:cM n.k s.zero (x.un.getD v.toNat 0)<n.k
  .rw[if_pos r]at a;rw[a];exact⟨.rfl f p,rfl,λ_ _=>rfl,λ_=>⟨rfl,λy A=>by cases A;exact r⟩,λh=>by cases h⟩
  .rw[if_neg r]at a;have z:=(fb.1 w).1;have B:(dH s i.toNat v.toNat).zero=s.zero:=by rw[jw e]
   have C:hM n.k n.sizes s (bf n.k s (et i v)).1:=D8 f p (by show 4<5;omega) (λj u hu=>by rw[a]at hu;exact((D4 f e z.1).1 hu).1) (by rw[a];show s.zero<=(dH s i.toNat v.toNat).zero;omega);refine⟨C,by rw[a];exact B,λj u=>by rw[a];exact Pa e,λh=>absurd (by rw[a]) h,λ_=>⟨?_,λhm=>?_⟩⟩
   .rw[a];show hq (dH s i.toNat v.toNat)<hq s;rw[jw e];have G:=(x4.1 e).1;have H:=f.vars;have h1:=f.var i.toNat x _ e (x6 Ω);have I:=QA h1.2.2.1 w;have:=EF (s:=s) (y:={x with mask:=((x.mask.toNat ||| 2 ^ v.toNat:Nat):Int)}) e;omega
   .rw[a]at hm;exact((D4 f e z.1).1 hm).2 rfl rfl
theorem xu{i:Int}:∀(L:Λ)(s:am)(b:Bool),bh n.k n.sizes s->cr s->hM n.k n.sizes s (dc n.k i L (s,b)).1/\(dc n.k i L (s,b)).1.zero=s.zero/\(∀j u,eA n (dc n.k i L (s,b)).1 j u=eA n s j u)/\hq (dc n.k i L (s,b)).1<=hq s/\
  ((dc n.k i L (s,b)).2=false->b=false/\(dc n.k i L (s,b)).1=s)/\((dc n.k i L (s,b)).2=true->b=true\/hq (dc n.k i L (s,b)).1<hq s)/\
  ∀v∈L,v∈bB (dc n.k i L (s,b)).1 i->0<=i->∀x,s.vars[i.toNat]?=σ x->x.gone=0->cM n.k s.zero (eA n s i v)<n.k
 |[],s,b,f,q=>⟨.rfl f q,rfl,λ_ _=>rfl,p8 _,λh=>⟨h,rfl⟩,λh=>.inl h,λ_ h=>by cases h⟩
 |v::L,s,b,f,q=>by
  obtain⟨p,G,H,r,w⟩:=QB (i:=i) (v:=v) f q;have e:dc n.k i (v::L) (s,b)=dc n.k i L ((bf n.k s (et i v)).1,decide ((bf n.k s (et i v)).2=0)||b):=rfl;obtain⟨A,P,Q,I,R,S,T⟩:=xu (i:=i) L (bf n.k s (et i v)).1 (decide ((bf n.k s (et i v)).2=0)||b) p.ok p.l5;rw[e];have J:hq (bf n.k s (et i v)).1<=hq s:=by
   by_cases h:(bf n.k s (et i v)).2=0
   .exact Nat.le_of_lt (w h).1
   .rw[(r h).1];exact p8 _
  refine⟨p.trans A,P.trans G,λj u=>(Q j u).trans (H j u),Y5 I J,λh=>?_,λh=>?_,λu hu B C x a K=>?_⟩
  .obtain⟨h1,E⟩:=R h;rw[U5,decide_eq_false_iff_not]at h1;rw[E];exact⟨h1.2,(r h1.1).1⟩
  .rcases S h with h1|h1
   .rw[Bool.or_eq_true,decide_eq_true_eq]at h1;rcases h1 with h1|h1
    .exact .inr (Nat.lt_of_le_of_lt I (w h1).1)
    .exact .inl h1
   .exact .inr (T7 h1 J)
  .rcases V3.1 hu with rfl|hu
   .by_cases h:(bf n.k s (et i u)).2=0
    .exact absurd (A.pu i u B) (w h).2
    .have M:u∈ay x:=by
      have h1:=p.pu i u (A.pu i u B);unfold bB at h1;rw[a]at h1;exact h1
     have U:dA s i u=σ x:=by
      unfold dA;rw[if_pos C,a];simp only;rw[if_pos ⟨K,M⟩]
     have E:=(r h).2 x U;have V:=(x4.1 a).1;have W:=f.vars;obtain⟨z,F⟩:=aF (l:=n.sizes) (i:=i.toNat) Ω;have aa:=(f.var i.toNat x z a F).1;have ab:=f.eO.2.2 z (x5 F);have X:=(fb.1 M).1;have Y:eP n i u:=⟨C,Ω,X.1,by rw[v8,F,V8];omega⟩;have Z:eA n s i u=x.un.getD u.toNat 0:=by unfold eA fY;rw[if_pos Y,a]
     rw[Z];exact E
   .have N:=p.same;have V:=(x4.1 a).1;have W:=N.vars;obtain⟨y,O⟩:=aF (l:=(bf n.k s (et i v)).1.vars) (i:=i.toNat) Ω;have h1:=N.var i.toNat x y a O;have:=T u hu B C y O (h1.1.trans K);rw[G,H]at this;exact this
def j8(n:aI)(s:am)(i:Int):Prop:=dM s i.toNat=false->bB s i≠[]/\(dw n s i).1=0/\∀v∈bB s i,cM n.k s.zero (eA n s i v)<n.k
theorem xv{i:Int}(e:bh n.k n.sizes s):(dw n s i).2<0↔bB s i=[]:=by
 rcases Qy (k:=n.k) (l:=bB s i) (of:=eA n s i)with⟨h1,a⟩|h
 .unfold dw;rw[a];exact⟨λ_=>h1,λ_=>Φ⟩
 .have h:(dw n s i).2∈bB s i:=h;generalize (dw n s i).2=w at h;have f:0<=w:=by
   unfold bB at h;split at h
   .exact (fb.1 h).1.1
   .cases h
  refine⟨λa=>Ω,λa=>?_⟩;rw[a]at h;cases h
theorem QC{i:Int}(f:bh n.k n.sizes s)(E:cr s)(B:0<=i)(hi:i<n.sizes.length)(w:dM s i.toNat=false)(F:bB s i≠[]):
  (bf n.k s (kG i (dw n s i).1)).2=0/\hM n.k n.sizes s (bf n.k s (kG i (dw n s i).1)).1/\hq (bf n.k s (kG i (dw n s i).1)).1=hq s/\(bf n.k s (kG i (dw n s i).1)).1.zero=min (s.zero+(dw n s i).1) n.k:=by
 have M:=f.vars;obtain⟨x,h⟩:=aF (l:=s.vars) (i:=i.toNat) Ω;have G:x.gone=0:=by unfold dM at w;rw[h]at w;simpa using w
 have C:bB s i=ay x:=by unfold bB;rw[h]
 have H:∀v∈ay x,eA n s i v=x.un.getD v.toNat 0:=λv r=>by
  obtain⟨z,p⟩:=aF (l:=n.sizes) (i:=i.toNat) Ω;have N:=(f.var i.toNat x z h p).1;have O:=f.eO.2.2 z (x5 p);have A:=(fb.1 r).1;have I:eP n i v:=⟨B,hi,A.1,by rw[v8,p,V8];omega⟩;unfold eA fY;rw[if_pos I,h]
 have A:=D3 (i:=i) f;have J:=(O8 (c:=(dw n s i).1) (O9 (i:=i) f)).1 (Int.le_refl _);have K:(dw n s i).1<=gQ x:=O5 (by rw[<-C];exact F) λv r=>by
  have:=J.2 v (by rw[C];exact r);rw[H v r]at this;exact this
 have q:=(O6 (k:=n.k) (a:=kG i (dw n s i).1) B h G).2.1 rfl A K;have L:∀j u,u∈bB (bf n.k s (kG i (dw n s i).1)).1 j->u∈bB s j:=λj u hu=>by
  rw[q]at hu;have e:bB (hl s i.toNat x (λg=>da n.k g (dw n s i).1) λg=>cM n.k g (dw n s i).1) j=bB s j:=O3 h rfl D1;have hu:u∈bB (hl s i.toNat x (λg=>da n.k g (dw n s i).1) λg=>cM n.k g (dw n s i).1) j:=hu;rw[e]at hu;exact hu
 have p:(bf n.k s (kG i (dw n s i).1)).1.zero=min (s.zero+(dw n s i).1) n.k:=by rw[q];rfl
 have P:=f.zero;refine⟨by rw[q],D8 f E (by show 2<5;omega) L (by rw[p];omega),?_,p⟩;rw[q];show hq (hl s i.toNat x _ _)=hq s;have:=EF (s:=s) (y:={x with un:=dV (λg=>da n.k g (dw n s i).1) x.un (ay x)}) h;rw[D1]at this;exact Nat.add_right_cancel this
theorem EG{i:Int}{b:Bool}(j:bh n.k n.sizes s)(L:cr s)(G:0<=i)(hi:i<n.sizes.length):hM n.k n.sizes s (eZ n i (s,b)).1/\fv n.k (eZ n i (s,b)).1<=fv n.k s/\
  ((eZ n i (s,b)).2.2=true->dM s i.toNat=false/\bB (eZ n i (s,b)).1 i=[])/\((eZ n i (s,b)).2.2=false->(eZ n i (s,b)).2.1=true->b=true\/fv n.k (eZ n i (s,b)).1<fv n.k s)/\
  ((eZ n i (s,b)).2.2=false->(eZ n i (s,b)).2.1=false->b=false/\(eZ n i (s,b)).1=s/\j8 n s i):=by
 have W:=j.vars;obtain⟨x,w⟩:=aF (l:=s.vars) (i:=i.toNat) Ω;generalize a:eZ n i (s,b)=r;unfold eZ at a;simp only at a;by_cases z:dM s i.toNat=true
 .rw[if_pos z]at a;subst a;exact⟨.rfl j L,p8 _,λh=>(by cases h),λ_ h=>.inl h,λ_ h=>⟨h,rfl,λH=>(by rw[z]at H;cases H)⟩⟩
 rw[if_neg z]at a;have A:dM s i.toNat=false:=by simpa using z
 have I:x.gone=0:=by unfold dM at A;rw[w]at A;simpa using A
 obtain⟨f,B,Q,R,M,N,C⟩:=xu (n:=n) (i:=i) (bB s i) s false j L;generalize dc n.k i (bB s i) (s,false)=q at f B Q R M N C a;have J:fv n.k q.1<=fv n.k s:=by unfold fv;rw[B];omega
 have S:dM q.1 i.toNat=false:=by
  have X:=f.same.vars;obtain⟨y,O⟩:=aF (l:=q.1.vars) (i:=i.toNat) Ω;unfold dM;rw[O];simpa[(f.same.var _ x y w O).1]using I
 by_cases E:(dw n q.1 i).2<0
 .rw[if_pos E]at a;subst a;exact⟨f,J,λ_=>⟨A,(xv f.ok).1 E⟩,λh=>(by cases h),λh=>(by cases h)⟩
 .have F:bB q.1 i≠[]:=λh=>E ((xv f.ok).2 h);rw[if_neg E]at a;by_cases K:0<(dw n q.1 i).1
  .obtain⟨Y,T,U,V⟩:=QC f.ok f.l5 G hi S F;rw[if_pos K]at a;have Z:q.1.zero<n.k:=by
    obtain⟨v,p⟩:=List.exists_mem_of_ne_nil _ F;have h1:=C v (f.pu i v p) p G x w I;have H:=(wT (n:=n) (s:=s) (i:=i) (v:=v) j).1;rw[B];unfold cM at h1;omega
   have P:fv n.k (bf n.k q.1 (kG i (dw n q.1 i).1)).1<fv n.k s:=by
    refine T7 ?_ J;unfold fv;rw[U,V];omega
   subst a;exact⟨f.trans T,Nat.le_of_lt P,λh=>(by cases h),λ_ _=>.inr P,λ_ h=>(by cases h)⟩
  .rw[if_neg K]at a;subst a;refine⟨f,J,λh=>(by cases h),λ_ h=>?_,λ_ h=>?_⟩
   .have h:(q.2||b)=true:=h;rw[Bool.or_eq_true]at h;rcases h with h|h
    .refine .inr ?_;have:=(N h).resolve_left Φ;show fv n.k q.1<_;unfold fv;rw[B];omega
    .exact .inl h
   .have h:(q.2||b)=false:=h;rw[U5]at h;obtain⟨_,e⟩:=M h.1;rw[e]at K F C;have aa:=D3 (i:=i) j;exact⟨h.2,e,λ_=>⟨F,Ω,λv p=>C v p p G x w I⟩⟩
theorem EH:∀(L:List Nat)(s:am)(b:Bool),bh n.k n.sizes s->cr s->(∀i∈L,i<n.sizes.length)->hM n.k n.sizes s (gD n L (s,b)).1/\fv n.k (gD n L (s,b)).1<=fv n.k s/\
  ((gD n L (s,b)).2.2=true->(gD n L (s,b)).2.1=false/\∃i∈L,dM s i=false/\bB (gD n L (s,b)).1 (i:Int)=[])/\((gD n L (s,b)).2.2=false->(gD n L (s,b)).2.1=true->b=true\/fv n.k (gD n L (s,b)).1<fv n.k s)/\
  ((gD n L (s,b)).2.2=false->(gD n L (s,b)).2.1=false->b=false/\(gD n L (s,b)).1=s/\∀i∈L,j8 n s (i:Int))
 |[],s,b,w,B,_=>⟨.rfl w B,p8 _,λh=>(by cases h),λ_ h=>.inl h,λ_ h=>⟨h,rfl,λ_ hi=>by cases hi⟩⟩
 |i::L,s,b,w,B,C=>by
  obtain⟨e,z,A,G,H⟩:=EG (n:=n) (i:=(i:Int)) (b:=b) w B Ω (by have:=C i (.head _);omega);rw[u6]at A;generalize f:gD n (i::L) (s,b)=r;unfold gD at f;generalize eZ n (i:Int) (s,b)=q at e z A G H f;by_cases p:q.2.2=true
  .rw[if_pos p]at f;subst f;exact⟨e,z,λ_=>⟨rfl,i,.head _,(A p).1,(A p).2⟩,λh=>(by cases h),λh=>(by cases h)⟩
  .have I:q.2.2=false:=by simpa using p
   rw[if_neg p]at f;subst f;obtain⟨P,J,Q,R,S⟩:=EH L q.1 q.2.1 e.ok e.l5 λj a=>C j (.tail _ a);refine⟨e.trans P,Y5 J z,λh=>?_,λh1 E=>?_,λh1 E=>?_⟩
   .obtain⟨h1,j,a,F,T⟩:=Q h;refine⟨h1,j,.tail _ a,?_,T⟩;have V:=C j (.tail _ a);have W:=w.vars;have X:=e.same.vars;obtain⟨x,K⟩:=aF (l:=s.vars) (i:=j) Ω;obtain⟨y,M⟩:=aF (l:=q.1.vars) (i:=j) Ω;unfold dM at F ⊢;rw[M]at F;rw[K];have:=(e.same.var j x y K M).1;simpa[this]using F
   .rcases R h1 E with h|h
    .rcases G I h with h|h
     .exact .inl h
     .exact .inr (Nat.lt_of_le_of_lt J h)
    .exact .inr (T7 h z)
   .obtain⟨U,N,O⟩:=S h1 E;obtain⟨f1,f2,f3⟩:=H I U;rw[f2]at N O;refine⟨f1,?_,λj a=>?_⟩
    .rw[f2];exact N
    .rcases V3.1 a with rfl|a
     .exact f3
     .exact O j a
theorem EI(j:bh n.k n.sizes s)(p:cr s):hM n.k n.sizes s (eI n s).1/\((eI n s).2.2=true->(eI n s).2.1=false/\∃i<n.sizes.length,dM s i=false/\bB (eI n s).1 (i:Int)=[])/\
  ((eI n s).2.2=false->(eI n s).2.1=true->fv n.k (eI n s).1<fv n.k s)/\((eI n s).2.2=false->(eI n s).2.1=false->(eI n s).1=s/\∀i<n.sizes.length,j8 n s (i:Int)):=by
 obtain⟨h1,_,q,r,f⟩:=EH (n:=n) (V0 n.sizes.length) s false j p λi hi=>Q3.1 hi;unfold eI;refine⟨h1,λh=>?_,λa e=>(r a e).resolve_left Φ,λa e=>⟨(f a e).2.1,λi hi=>(f a e).2.2 i (Q3.2 hi)⟩⟩;obtain⟨w,i,hi,x⟩:=q h;exact⟨w,i,Q3.1 hi,x⟩
end
def iZ(n:aI):Nat->am->am×Bool
 |0,s=>(s,false)
 |f+1,s=>if(eI n s).2.2=true then((eI n s).1,true)else if(eI n s).2.1=true then iZ n f (eI n s).1 else((eI n s).1,false)
section
variable{n:aI}{s:am}
def l8(n:aI)(s:am):Prop:=∀i<n.sizes.length,j8 n s (i:Int)
theorem EJ:∀(f:Nat)(s:am),bh n.k n.sizes s->cr s->fv n.k s<f->hM n.k n.sizes s (iZ n f s).1/\((iZ n f s).2=true->∃i<n.sizes.length,dM (iZ n f s).1 i=false/\bB (iZ n f s).1 (i:Int)=[])/\((iZ n f s).2=false->l8 n (iZ n f s).1)
 |0,s,_,_,h=>Ω
 |f+1,s,q,A,K=>by
  obtain⟨h1,B,C,E⟩:=EI (n:=n) q A;generalize a:iZ n (f+1) s=r;unfold iZ at a;by_cases he:(eI n s).2.2=true
  .rw[if_pos he]at a;subst a;obtain⟨_,i,hi,p,F⟩:=B he;refine⟨h1,λ_=>⟨i,hi,?_,F⟩,λh=>(by cases h)⟩;have L:=q.vars;have M:=h1.same.vars;obtain⟨x,w⟩:=aF (l:=s.vars) (i:=i) Ω;obtain⟨y,z⟩:=aF (l:=(eI n s).1.vars) (i:=i) Ω;unfold dM at p ⊢;rw[w]at p;show(match(eI n s).1.vars[i]? with|some x=>_|none=>_)=false;rw[z];have:=(h1.same.var i x y w z).1;simpa[this]using p
  have he:(eI n s).2.2=false:=by simpa using he
  rw[if_neg (by rw[he];decide)]at a;by_cases j:(eI n s).2.1=true
  .rw[if_pos j]at a;subst a;have:=C he j;obtain⟨G,H,I⟩:=EJ f (eI n s).1 h1.ok h1.l5 Ω;exact⟨h1.trans G,H,I⟩
  .rw[if_neg j]at a;subst a;have j:(eI n s).2.1=false:=by simpa using j
   obtain⟨e,J⟩:=E he j;refine⟨h1,λh=>(by cases h),λ_=>?_⟩;show l8 n (eI n s).1;rw[e];exact J
theorem EK{i:Int}(a:bh n.k n.sizes s)(p:0<=i):∀(L:Λ)(b:Bool),(∀v∈L,v∈bB s i/\cM n.k s.zero (eA n s i v)<n.k)->dc n.k i L (s,b)=(s,b)
 |[],_,_=>rfl
 |v::L,b,h=>by
  obtain⟨E,q⟩:=h v (.head _);have e:bf n.k s (et i v)=(s,7)\/bf n.k s (et i v)=(s,1):=by
   unfold bf et;simp only;rw[if_neg Ω,if_neg Ω,if_neg Ω,if_neg Ω,if_pos trivial];cases r:dA s i v with
   |none=>exact .inr rfl
   |some x=>
    obtain⟨_,f,_,w⟩:=jy r;left;simp only;have F:=(x4.1 f).1;have G:=a.vars;obtain⟨z,j⟩:=aF (l:=n.sizes) (i:=i.toNat) Ω;have H:=(a.var i.toNat x z f j).1;have I:=a.eO.2.2 z (x5 j);have y:=(fb.1 w).1;have A:eP n i v:=⟨p,Ω,y.1,by rw[v8,j,V8];omega⟩;have B:eA n s i v=x.un.getD v.toNat 0:=by unfold eA fY;rw[if_pos A,f]
    rw[B]at q;rw[if_pos q]
  have C:dc n.k i (v::L) (s,b)=dc n.k i L (s,b):=by
   show dc n.k i L ((bf n.k s (et i v)).1,decide ((bf n.k s (et i v)).2=0)||b)=_;rcases e with e|e<;>rw[e]<;>rfl
  rw[C];exact EK a p L b λu hu=>h u (.tail _ hu)
theorem EL(f:bh n.k n.sizes s):∀(L:List Nat),(∀i∈L,j8 n s (i:Int))->gD n L (s,false)=(s,false,false)
 |[],_=>rfl
 |i::L,h=>by
  have a:=h i (.head _);have e:eZ n (i:Int) (s,false)=(s,false,false):=by
   unfold eZ;by_cases p:dM s (i:Int).toNat=true
   .rw[if_pos p]
   .rw[if_neg p];obtain⟨h1,w,q⟩:=a (by simpa using p);simp only;rw[EK f Ω (bB s i) false λv a=>⟨a,q v a⟩];simp only;rw[if_neg (λh=>h1 ((xv f).1 h)),if_neg Ω];rfl
  unfold gD;rw[e];simp only;rw[if_neg Φ];exact EL f L λj r=>h j (.tail _ r)
theorem QD{f:Nat}(a:bh n.k n.sizes s)(h:l8 n s):iZ n (f+1) s=(s,false):=by
 have e:eI n s=(s,false,false):=EL a _ λi hi=>h i (Q3.1 hi);unfold iZ;rw[e];rfl
end
section
variable{n:aI}{s:am}
theorem QE{s':am}{i:Nat}(h:dO s s')(hi:i<s.vars.length):dM s' i=dM s i:=by
 have f:=h.vars;obtain⟨x,a⟩:=aF (l:=s.vars) hi;obtain⟨y,e⟩:=aF (l:=s'.vars) (i:=i) Ω;unfold dM;rw[a,e];simp only;rw[(h.var i x y a e).1]
end
theorem QF{P:Nat->Prop}:∀m,P m->∃m,P m/\∀k,P k->m<=k:=λm=>by
 induction m using Nat.strongRecOn with
 |ind m a=>
  intro hm;by_cases h:∃k,k<m/\P k
  .obtain⟨k,h1,e⟩:=h;exact a k h1 e
  .exact⟨m,hm,λk hk=>Nat.le_of_not_lt λf=>h ⟨k,f,hk⟩⟩
open Classical in
theorem bZ.sink{a:x1}{B:x1->x3->(x1->x3->Prop)->Prop}(ax:Nat->x3->Prop){m:Nat}(q:ax m w)(I:∀(m:Nat)(a:x1)(w':x3)(k:x1->x3->Prop),ax m w'->(∀bU a f,bU<m->ax bU f->k a f)->B a w' k):bZ a w B:=by
 have j:∀{w:x3},(∃m,ax m w)->∃m,ax m w/\∀k,ax k w->m<=k:=λ⟨m,h⟩=>QF (P:=λm=>ax m _) m h;refine⟨λ_ w=>∃m,ax m w,λ_ w=>if h:∃m,ax m w then Classical.choose (j h)else 0,⟨m,q⟩,λa w' p=>?_⟩;obtain⟨h1,r⟩:=Classical.choose_spec (j p);refine I _ a w' _ h1 λbU _ f s e=>⟨⟨bU,e⟩,?_⟩;have x:=(Classical.choose_spec (j ⟨bU,e⟩)).2 bU e;show dite _ _ _<dite _ _ _;rw[dif_pos p,dif_pos ⟨bU,e⟩];omega
theorem EM{k i:Int}:∀(L M:Λ)(p:am×Bool),dc k i (L++M) p=dc k i M (dc k i L p)
 |[],_,_=>rfl
 |v::L,M,p=>by
  rw[List.cons_append,dc,dc];exact EM L M _
theorem QG{i:Int}{L:Λ}{p:am×Bool}(h:L[j]?=σ v):dc k i (L.take (j+1)) p=((bf k (dc k i (L.take j) p).1 (et i v)).1,decide ((bf k (dc k i (L.take j) p).1 (et i v)).2=0)||(dc k i (L.take j) p).2):=by
 rw[u7,h,o8,EM];rfl
section
variable{ao:List aw}{w:x3}{ab ac:Nat}{A R:af}{n:aI}{s:am}{t:aw}
theorem QH{i:Nat}{x:bq}(h:bp w ab ac A R n s t)(aa:Laid w)(aH:¬A 0)(aI:dW ao t)(z:s.vars[i]?=σ x):ai x7 F8 [Γ ab,Δ (i:Int)] w λr w'=>r= .bool (dc n.k (i:Int) (ay x) (s,false)).2/\cN ao w ab ac A R n (dc n.k (i:Int) (ay x) (s,false)).1 w':=by
 refine hU func53 ?_;refine bj λg1 J be an C=>?_;refine bj λaJ U bg af E=>?_;have bh:=ad.lt C;have bl:=ad.lt E;refine bz ek.i λf bm bn aK aL=>?_;refine bk (o:=0) ek.i rfl rfl aL (by show 0<1;omega) λH aM bo O=>?_;have O:ad H f ek [.bool false]:=O;have P:Ext U H:=aK.put aM Ω;have C:ad H g1 de [Γ ab]:=(ad.ext C af).ext P;have E:ad H aJ ah [Δ (i:Int)]:=ad.ext E P;have ag:=(an.trans af).trans P;have br:=an.size;have bt:=af.size;have bu:=P.size;have bw:=C.lt;have bx:=E.lt;have bA:=O.lt;have bB:=tN aa;rw[aB (v:=Γ ab) Ψ (C.Qz rfl),aB (v:=Δ (i:Int)) Ψ (E.Qz rfl)];refine(iX (i:=(i:Int)) (h.ext ag)).mono ?_;rintro _ bC _ ⟨⟨b,ak,rfl,Q⟩,ap⟩;refine(mC (b:=b) (n:=ak)).mono ?_;rintro _ q _ ⟨aN,I,rfl,bD,aq⟩;have au:=kF Q Ω (show s.vars[(i:Int).toNat]?=σ x by rw[u6];exact z);have L:=ap.trans aN;have z5:=ap.size;have z46:=L.size;have bE:=aq.lt;refine kf.old ⟨_,false,jd,#[Γ I],_,_,_,_,λj w'=>eR ao w ab ac A R n w.heap.size (λr=>q.heap.size<=r) (dc n.k (i:Int) ((ay x).take j) (s,false)).1 w'/\ae (λr=>r<w.heap.size\/q.heap.size<=r\/r=f) q w'/\ad w' f ek [.bool (dc n.k (i:Int) ((ay x).take j) (s,false)).2],λ_ _ _=>False,rfl,(mB (g:=I) Q.1).s,?_,
  λ_ _ z h=>⟨h.1.ext z,h.2.ext z⟩,λ_ _ _ z h=>⟨h.1.ext z,h.2.1.trans (z.V _),h.2.2.ext z⟩,λ_ _ _ _ _ h=>h,⟨aq,aa.ext (ag.trans L)⟩,⟨eR.start h aa aH aI (ag.trans L) (p8 _),ae.refl _ _,O.ext L⟩,?_,?_,λ_ _ h=>h.elim,λ_ _ _ h=>h.elim⟩
 .rintro _ _ _ _ ⟨_,_,_,_,rfl⟩;rfl
 .rintro _ j _ bF ⟨av,aO⟩ ⟨bG,rfl,v,aP,aQ⟩ ⟨S,W,X⟩;cases aQ;intro aR M _ _;have aS:(ay x)[j]?=σ (v:Int):=by rw[<-au,x8,aP];rfl
  have aY:∀{g:Nat}{e:r9}{cs:List x1},w.heap.size<=g->g<f->ad H g e cs->ad aR g e cs:=λaT aU aV=>((aV.ext L).V W Ω).ext M;have al:=QG (k:=n.k) (i:=(i:Int)) (p:=(s,false)) aS;obtain⟨bH,bI,aW,aX,aZ,a1⟩:=S.En;have aw:∀{B:x3}{c:x1}{d:Bool},d=(dc n.k (i:Int) ((ay x).take (j+1)) (s,false)).2->ad B I bX [.int .u64 b,Δ ak]->Laid B->eR ao w ab ac A R n w.heap.size (λr=>q.heap.size<=r) (dc n.k (i:Int) ((ay x).take (j+1)) (s,false)).1 B->ae (λr=>r<w.heap.size\/q.heap.size<=r\/r=f) q B->ad B f ek [c]->
    ∀{K:Unit->x3->Prop},(∀y,(ad y I bX [.int .u64 b,Δ ak]/\Laid y)/\(eR ao w ab ac A R n w.heap.size (λr=>q.heap.size<=r) (dc n.k (i:Int) ((ay x).take (j+1)) (s,false)).1 y/\ae (λr=>r<w.heap.size\/q.heap.size<=r\/r=f) q y/\ad y f ek [.bool (dc n.k (i:Int) ((ay x).take (j+1)) (s,false)).2])->K () y)->
    aC x7 (o6 ek (Γ f) (.bool d)) B K:=λ{B c d}Q Y G ax az a2{K}a6=>by
   subst Q;refine bk (o:=0) ek.i rfl rfl a2 Ξ λy Z bJ a7=>?_;have z9:=az.size;exact a6 _ ⟨⟨Y.V Z λh=>by have h:I=f:=h;omega,hx Z (λh=>by have h:0=f:=h;omega) G⟩,ax.own Z λr N=>by have N:r=f:=N;subst N;exact⟨Ω,Ω⟩,az.trans (Z.mono λr _ N=>.inr (.inr N)),a7⟩
  rw[aB (v:=Γ ab) Ψ ((aY Ω Ω C).Qz rfl),aB (v:=Δ (i:Int)) Ψ ((aY Ω Ω E).Qz rfl)];have bK:=W.size;refine(Ey (a:=et (i:Int) (v:Int)) rfl (aW.ext M) (aO.ext M) aZ aX).mono ?_;rintro _ aA _ ⟨rfl,a8,aD,aE,bi,ba,aF,bb,bL⟩;rw[<-show(dc n.k (i:Int) ((ay x).take (j+1)) (s,false)).1=(bf n.k (dc n.k (i:Int) ((ay x).take j) (s,false)).1 (et (i:Int) (v:Int))).1 by rw[al]]at aF;obtain⟨Y,G,ax⟩:=a1 (D':=λr=>q.heap.size<=r) (ir M a8) ((Grow.ext M).trans ba) aF bb (λr h=>h) λr aT aU=>Ω
  have am:ad aA f ek _:=X.V G Ω;rw[bd,aj];have aG:ae (λr=>r<w.heap.size\/q.heap.size<=r\/r=f) q aA:=W.trans (G.mono λr _ h=>h.imp id .inl);refine⟨λhe=>?_,λhe=>?_⟩
  .have e:(dc n.k (i:Int) ((ay x).take (j+1)) (s,false)).2=true:=by rw[al,decide_eq_true he,Bool.true_or]
   exact aw e.symm (av.V G Ω) aD Y aG am λy h=>⟨h.1,h.2,λh=>by cases h⟩
  .have e:(dc n.k (i:Int) ((ay x).take (j+1)) (s,false)).2=(dc n.k (i:Int) ((ay x).take j) (s,false)).2:=by rw[al,decide_eq_false he,Bool.false_or]
   rw[aB Ψ (am.Qz rfl)];exact aw e.symm (av.V G Ω) aD Y aG am λy h=>⟨h.1,h.2,λh=>by cases h⟩
 .rintro k bM rfl ⟨S,W,X⟩;rw[j0 (by rw[<-au,u9];exact p8 _)]at S X;rw[aB Ψ (X.Qz rfl)];intro bN bc _;exact⟨rfl,S.done bc⟩
theorem QI{N i:Nat}(h:i<N):(V0 N).drop i=i::(V0 N).drop (i+1):=by
 rw[X8 (by simpa using h),List.getElem_range]
def QJ(ao:List aw)(w:x3)(ab ac:Nat)(A R:af)(n:aI)(q:am×Bool×Bool)(r:x1)(w':x3):Prop:=r= .tuple #[.bool q.2.1,Δ (if q.2.2=true then 8 else 0)]/\cN ao w ab ac A R n q.1 w'
theorem QK(h:bp w ab ac A R n s t)(af:Laid w)(ag:¬A 0)(ah:dW ao t)(ak:cr s):ai x7 yK [Γ ab] w (QJ ao w ab ac A R n (eI n s)):=by
 have E:=h.2.2.2.1;have aK:=E.vars;have aL:=E.eO.2.1;refine az func21 ?_;rw[cP de.u];simp only[j9,aU];refine(wI h).mono ?_;rintro _ J _ ⟨rfl,al⟩;refine pH.range n.sizes.length (λi _ _ c U=>∃s1 b,c= .bool b/\cN ao w ab ac A R n s1 U/\hM n.k n.sizes s s1/\eI n s=gD n ((V0 n.sizes.length).drop i) (s1,b)) Ω ⟨s,false,rfl,cN.same h af ag ah al,.rfl E ak,rfl⟩ ?_ ?_
 .rintro i aM t3 _ U am hi ⟨s1,b,rfl,hm,j,p⟩ an;refine bQ Ω ?_;obtain⟨aN,aO,V,ap,aq,au,av⟩:=hm.open;have aR:=j.ok.vars;obtain⟨x,W⟩:=aF (l:=s1.vars) (i:=i) Ω;rw[QI hi,gD]at p;have aw:bB s1 (i:Int)=ay x:=tP W;refine zR (λ_ _ r w'=>r= .bool (eZ n (i:Int) (s1,b)).2.1/\(eZ n (i:Int) (s1,b)).2.2=false/\cN ao w ab ac A R n (eZ n (i:Int) (s1,b)).1 w') ?_ λax y=>?_
  .rintro _ _ _ aS ⟨rfl,he,aA⟩;rw[aP];refine an _ _ _ _ ⟨_,_,rfl,aA,j.trans (EG (i:=(i:Int)) (b:=b) j.ok j.l5 Ω Ω).1,?_⟩;rw[p,if_neg (by rw[he];decide)]
  refine(qU (i:=(i:Int)) V).mono ?_;rintro _ aV _ ⟨rfl,B⟩;rw[decide_eq_true Ω,T6,u6,b7];refine⟨λC=>?_,λC=>?_⟩
  .have e:eZ n (i:Int) (s1,b)=(s1,b,false):=by unfold eZ;rw[u6,if_pos C]
   rw[e]at y;exact y _ _ _ _ ⟨rfl,rfl,hm.ext B⟩
  have f:eZ n (i:Int) (s1,b)=(let q:=dc n.k (i:Int) (ay x) (s1,false);if(dw n q.1 (i:Int)).2<0 then(q.1,false,true)else if 0<(dw n q.1 (i:Int)).1 then((bf n.k q.1 (kG (i:Int) (dw n q.1 (i:Int)).1)).1,true,false)else(q.1,q.2||b,false)):=by
   unfold eZ;rw[u6,if_neg (by rw[C];decide),aw]
  have X:=(xu (i:=(i:Int)) (ay x) s1 false j.ok j.l5).1;simp only at f;generalize aB:dc n.k (i:Int) (ay x) (s1,false)=q at f X;refine aT (λr w'=>r= .bool (q.2||b)/\cN ao w ab ac A R n q.1 w') ?_ λaW Y=>?_
  rotate_left
  .refine (QH (V.ext B) (ap.ext B) aq au W).mono ?_;rintro _ aC _ ⟨rfl,Z⟩;rw[aB]at Z ⊢;have aa:cN ao w ab ac A R n q.1 aC:=by
    obtain⟨G,H,I,K,L,M,N,O⟩:=Z;exact av ⟨ir B G,H,I,K,(Grow.ext B).trans L,M,N,O⟩
   rw[b7];exact⟨λh=>Y _ _ ⟨by rw[h,Bool.true_or],aa⟩,λh=>Y _ _ ⟨by rw[h,Bool.false_or],aa⟩⟩
  rintro _ aX ⟨rfl,P⟩;obtain⟨aY,t5,ad,ae,aD,aE,aG⟩:=P.open;have aH:dM q.1 i=false:=by rw[QE X.same Ω];exact C
  have aI:jZ n q.1 (i:Int)=true:=by
   unfold jZ;rw[u6,aH,decide_eq_true (show(0:Int)<=i/\(i:Int)<n.sizes.length by omega)];rfl
  refine(Qx ad ae aI).mono ?_;rintro _ aZ _ ⟨z,rfl⟩;rw[gW,gX,gY,aQ,aj];refine⟨λQ=>?_,λQ=>?_⟩
  .rw[if_pos Q]at f;rw[f,if_pos rfl]at p;rw[p];exact⟨rfl,P.ext z⟩
  rw[if_neg Q]at f;rw[bP,aj];refine⟨λS=>?_,λS=>?_⟩
  .rw[if_pos S]at f;rw[f]at y;refine(Ex (a:=kG (i:Int) (dw n q.1 (i:Int)).1) rfl (ad.ext z) (ae.ext z) aD aE).mono ?_;rintro _ a1 _ ⟨_,aJ⟩;refine y _ _ _ _ ⟨rfl,rfl,?_⟩;obtain⟨G,H,I,K,L,M,N,O⟩:=aJ;exact aG ⟨ir z G,H,I,K,(Grow.ext z).trans L,M,N,O⟩
  .rw[if_neg S]at f;rw[f]at y;exact y _ _ _ _ ⟨rfl,rfl,P.ext z⟩
 .rintro _ _ _ U am ⟨s1,b,rfl,hm,j,p⟩;refine cn Ω ?_;rw[List.drop_eq_nil_of_le Ξ,gD]at p;rw[p];exact⟨rfl,hm⟩
def m3(n:aI)(s:am):am×Bool:=iZ n (fv n.k s+1) s
theorem EN(h:bp w ab ac A R n s t)(C:Laid w)(E:¬A 0)(G:dW ao t)(H:cr s):ai x7 uE [Γ ab] w λr w'=>r=Δ (if(m3 n s).2=true then 8 else 0)/\cN ao w ab ac A R n (m3 n s).1 w':=by
 have I:=h.2.2.2.1;refine az func11 ?_;refine bZ.sink (λm J=>∃s1 f,cN ao w ab ac A R n s1 J/\bh n.k n.sizes s1/\cr s1/\fv n.k s1=m/\m<f/\iZ n f s1=m3 n s) ⟨s,_,cN.same h C E G (Ext.refl _),I,H,rfl,Nat.lt_succ_self _,rfl⟩ ?_;rintro m _ J T ⟨s1,f,hm,K,x,V,W,a⟩ L;obtain⟨f,rfl⟩:∃g,f=g+1:=⟨f-1,Ω⟩;obtain⟨X,Y,M,N,O,P,Q⟩:=hm.open;obtain⟨p,Z,y,aa⟩:=EI (n:=n) K x;rw[iZ]at a;refine(QK M N O P x).mono ?_;rintro _ U _ ⟨rfl,j⟩;have j:=Q j;generalize eI n s1=q at p y a j;rw[br,bt];refine aT (λr w'=>w'=U/\r= .bool (q.2.2|| !q.2.1)) ?_ λax z=>?_
 .rintro _ _ ⟨rfl,rfl⟩;rw[b7];refine⟨λe=>?_,λe=>?_⟩
  .cases he:q.2.2 with
   |true=>
    rw[he,if_pos rfl]at a;rw[<-a];exact⟨by rw[if_pos rfl],j⟩
   |false=>
    rw[he,Bool.false_or,Bool.not_eq_true']at e;rw[he,e,if_neg Φ,if_neg Φ]at a;rw[<-a];exact⟨rfl,j⟩
  .rw[U5,Bool.not_eq_false']at e;have ad:=y e.1 e.2;rw[e.1,e.2,if_neg Φ,if_pos rfl]at a;exact L (fv n.k q.1) _ _ Ω ⟨q.1,f,j,p.ok,p.l5,rfl,Ω,a⟩
 rw[bI,aj];refine⟨λB=>z _ _ ⟨rfl,?_⟩,λhe=>?_⟩
 .cases he:q.2.2 with
  |true=>rfl
  |false=>rw[he]at B;exact absurd rfl B
 .have he:q.2.2=false:=by
   cases S:q.2.2 with
   |true=>rw[S]at he;exact absurd Φ he
   |false=>rfl
  rw[bC];exact z _ _ ⟨rfl,by rw[he,Bool.false_or]⟩
end
def kJ:Λ:=[116,32,49,32,50,32,49,32,57,32,50,32,49,32,48,32,48,32,50,32,48,32,49,32,49,32,57]
def gU:b2:=⟨[116],9,[2],[⟨[0],[2],0,[([0],1),([1],9)]⟩]⟩
theorem QL:gp kJ=σ gU:=by
 have h:(match gp kJ with
  |some f=>decide (f.name=gU.name/\f.k=gU.k/\f.sizes=gU.sizes)&&decide (f.funs.map (λx=>(x.scope,x.sizes,x.other,x.lines))=gU.funs.map λx=>(x.scope,x.sizes,x.other,x.lines))
  |none=>false)=true:=by decide+kernel
 cases p:gp kJ with
 |none=>rw[p]at h;cases h
 |some f=>
  rw[p]at h;simp only[U4,decide_eq_true_eq]at h;obtain⟨⟨h1,q,r⟩,e⟩:=h;obtain⟨nm,k,w,j⟩:=f;simp only at h1 q r e;subst h1;subst q;subst r;have:j=gU.funs:=by
   have s:j.length=1:=by have:=congrArg R6 e;simpa[gU]using this
   match j,s with
   |[x],_=>
    obtain⟨a,b,c,d⟩:=x;simp[gU]at e;obtain⟨rfl,rfl,rfl,rfl⟩:=e;rfl
  subst this;rfl
theorem QM:lY gU.funs<=16384:=by decide+kernel
def EO:am:=(m3 (c3 gU) (dq (c3 gU))).1
theorem QN:(m3 (c3 gU) (dq (c3 gU))).2=false/\EO.zero=1/\(EO.vars[0]?.map λx=>(ay x,x.un.length))=σ ([0],2):=by decide+kernel
theorem QO{b n:Nat}(a:kZ b n):ai x7 yM [iL b n] w λr w'=>r=Δ (pz b:Int)/\Ext w w':=by
 have e:b<4294967296:=by
  have:=a.2;have:(2:Nat) ^ n<=2 ^ 32:=T8 Ω a.1;omega
 refine az func27 ?_;refine bj λg J q f h=>?_;rw[aL bX.p 0 h rfl];refine(Er e).mono ?_;rintro _ U _ ⟨rfl,j⟩;exact⟨rfl,f.trans j⟩
theorem QP(V:e6 w)(C:Laid w):ai x7 FN [] w λv w'=>v= .bool true/\Ext w w':=by
 refine az func7 ?_;refine kj (k:=1) (cs:=(ints .u8 kJ).toArray) cH.u cD.i Ω Ψ λg J aY e s=>?_;have E:aq .u8 cD J g (.slice (σ ⟨g,0,ν⟩) 27 27) kJ:=aq.of (n:=27) (bW.full (by simpa using s) (by simp[kJ]) (by simp[maxLen]));refine Pj s λy G H=>?_;have e:Ext w y:=e.put G Ω;have W:aH .u8 y (.slice (σ ⟨g,0,ν⟩) 27 27) kJ:=by
  obtain⟨X,b,o,base,cap,Y,Z,aa,ad,ae⟩:=E.ls;cases Y;cases ad (by simp[kJ]);exact⟨X,g,0,_,27,rfl,Z,aa,λ_=>rfl,H _ _ ae⟩
 clear E s H G;refine(ED W (by intro b af;simp[kJ]at af;omega) (V.ext e)).mono ?_;rintro _ U _ ⟨ag,ah,cs,ok,rfl,⟨al,am⟩,an,ao⟩;have I:gp (kJ.take 300)=σ gU:=by
  rw[j0 Φ];exact QL
 have ap:ok=true:=ao gU I QM;subst ap;obtain⟨f,K,ab,ac,A,R,t,N,A9,aA,aZ,rfl,au,av,L,_⟩:∃f,gp (kJ.take 300)=σ f/\tC y.heap.size U ah cs f:=by
  rcases an with⟨h,_⟩|⟨_,h⟩
  .cases h
  .exact h
 rw[I]at K;cases K;have M:=e.trans ag;rw[gW,gX,gY];refine bz aX.i λak a1 a2 aw aB=>?_;refine b6 (vs:=cs) aX.i al rfl am aB λaC aD a6 aF=>?_;have z:Ext U aC:=aw.put aD Ω;have aG:=au.ext z;have aI:¬A 0:=λh=>by have:=L 0 h;have:=tN (C.ext e);omega
 refine aT (λv aJ=>v= .bool true/\Ext w aJ) (λ_ _ h=>h) λax aK=>?_;rw[bL];refine(EN aG (C.ext (M.trans z)) aI av.2.2.1.m (Ec _)).mono ?_;rintro _ aL _ ⟨rfl,hm⟩;obtain⟨aM,aN,aO⟩:=QN;obtain⟨a7,a8,aE,bi,aP,O,_⟩:=hm;have aQ:Ext w aL:=(M.trans z).then aP.1 λr ba h=>by have:=L r h;have:=e.size;omega
 rw[aM,if_neg Φ,bd,aj];refine⟨λ_=>?_,λh=>absurd rfl h⟩;refine(qT O).mono ?_;rintro _ bb _ ⟨rfl,P⟩;have aR:(m3 (c3 gU) (dq (c3 gU))).1.zero=1:=aN;rw[aR,bd,aj];refine⟨λ_=>?_,λh=>absurd rfl h⟩;refine(iX (i:=0) (O.ext P)).mono ?_;rintro _ bc _ ⟨⟨b,Q,rfl,p⟩,aS⟩;refine(QO p.1).mono ?_;rintro _ be _ ⟨rfl,aU⟩;have aV:((m3 (c3 gU) (dq (c3 gU))).1.vars[0]?.map λx=>(ay x,x.un.length))=σ ([0],2):=aO;obtain⟨x,S,j⟩:=Y9.1 aV;cases B:ay x with
 |nil=>rw[B]at j;cases j
 |cons a l=>
 rw[B]at j;simp only[S2]at j;have q:=kF p Ω S;have bf:=(p.2.2 x Ω S).1;have aF:b<2 ^ Q:=p.1.2;have aW:Q=2:=Ω
 subst aW;rw[B,j.1]at q;rw[bd];refine aK _ _ ⟨?_,((aQ.trans P).trans aS).trans aU⟩;rcases(show b=0\/b=1\/b=2\/b=3 by omega)with rfl|rfl|rfl|rfl
 .exact absurd q Φ
 .rfl
 .exact absurd q Φ
 .exact absurd q Φ
section
variable{w:x3}{ec:x1}{n:aI}{s:am}
theorem QQ{i:Nat}{x:bq}(f:bh n.k n.sizes s)(a:s.vars[i]?=σ x):j8 n s (i:Int)↔(x.gone=0->ay x≠[]/\(dm n.k (ay x) λv=>x.un.getD v.toNat 0).1=0/\∀v∈ay x,min (s.zero+x.un.getD v.toNat 0) n.k<n.k):=by
 unfold j8;rw[u6,tP a,Qr f a];have q:dM s i=decide (x.gone≠0):=by unfold dM;rw[a]
 rw[q,decide_eq_false_iff_not];refine⟨λh r=>?_,λh r=>?_⟩
 .obtain⟨h1,j,p⟩:=h Ω;refine⟨h1,j,λv e=>?_⟩;have:=p v e;rw[xt f a e]at this;exact this
 .obtain⟨h1,j,p⟩:=h Ω;refine⟨h1,j,λv e=>?_⟩;rw[xt f a e];exact p v e
theorem QR(h:h6 w ec n.k n.sizes s)(f:bh n.k n.sizes s):ai x7 FZ [ec] w λr w'=>Ext w w'/\∃b:Bool,r= .bool b/\(b=true↔l8 n s):=by
 have aR:=f.vars;have aS:=f.eO.2.1;have aU:=f.fI;have aV:=f.zero;refine az func43 ?_;refine bj λg1 J aY M af=>?_;have X:=h.box M af;obtain⟨szv,aZ,a1,a2,a6,a7,A,ag,_,Y,ak,am,a8,ba⟩:=id X;rw[aL aX.p 1 A rfl,aW ap.u ag];refine cd.range n.sizes.length (λi _ U=>Ext J U/\∀q,q<i->j8 n s ((q:Nat):Int)) Ω ⟨Ext.refl _,λq j=>absurd j (Nat.not_lt_zero _)⟩ ?_ ?_
 rotate_left
 .rintro _ U an ⟨z,N⟩;exact cn Ω ⟨M.trans z,true,rfl,λ_=>N,λ_=>rfl⟩
 rintro i bb U an hi ⟨z,N⟩ ao;obtain⟨x,y⟩:=aF (l:=s.vars) (i:=i) Ω;have bc:=pv x;have H:=QQ f y;refine bQ Ω ?_;have aq:j8 n s (i:Int)->∀q,q<i+1->j8 n s ((q:Nat):Int):=λh q j=>by
  rcases Nat.lt_or_eq_of_le (Nat.le_of_lt_succ j)with h'|rfl
  .exact N q h'
  .exact h
 have no:∀{w':x3},Ext J w'->¬j8 n s (i:Int)->Ext w w'/\∃b:Bool,x1.bool false= .bool b/\(b=true↔l8 n s):=λav B=>⟨M.trans av,false,rfl,λh=>(by cases h),λh=>absurd (h i hi) B⟩;refine aT (λ_ w'=>Ext J w'/\j8 n s (i:Int)) (λ_ w' Z=>by rw[aP];exact ao _ _ ⟨Z.1,aq Z.2⟩) λax aa=>?_;rw[aL aX.p 4 (A.ext z) rfl];refine jm (α:=Bool) (a:=decide (x.gone≠0)) (i:=i) rfl rfl jI.u ek.i Ψ (bT ak z) (by rw[x8,y];rfl) λaw aA=>?_;obtain rfl:aw= .bool (decide (x.gone≠0)):=(List.cons.inj aA).1;rw[aj];refine⟨λaB=>aa _ _ ⟨z,H.2 λh=>absurd h aB⟩,λbf=>?_⟩;have ab:x.gone=0:=Ω
 refine(X.ext z).load λbg aC=>?_;refine(Qi (i:=i) aC f y).mono ?_;rintro _ bi _ ⟨aD,rfl⟩;have I:=z.trans aD;rw[br,bt];have bk:0<=(dm n.k (ay x) λv=>x.un.getD v.toNat 0).1:=(D2 Ω λv _=>hn f y).1;refine aT (λr w'=>Ext J w'/\r= .bool (decide (ay x=[]\/0<(dm n.k (ay x) λv=>x.un.getD v.toNat 0).1))) ?_ λbl ac=>?_
 rotate_left
 .rw[aL aX.p 3 (A.ext I) rfl];refine jm (α:=Λ) (a:=ay x) (i:=i) rfl rfl dn.u ap.i Ψ (bT Y I) (by rw[x8,y];rfl) λaE O=>?_;rw[aW ap.u (ew O),bd,aj];refine⟨λP=>ac _ _ ⟨I,by rw[decide_eq_true (.inl (j4 Ω))]⟩,λP=>?_⟩;rw[bP];refine ac _ _ ⟨I,?_⟩;congr 1;exact decide_eq_decide.2 ⟨λh=>.inr h,λh=>h.resolve_left λe=>by rw[e]at P;exact P rfl⟩
 rintro _ aG ⟨C,rfl⟩;rw[aj];refine⟨λK=>no C λB=>?_,λK=>?_⟩
 .obtain⟨h1,bm,_⟩:=H.1 B ab;exact K.elim h1 λh=>Ω
 have aH:ay x≠[]:=λe=>K (.inl e);have aI:(dm n.k (ay x) λv=>x.un.getD v.toNat 0).1=0:=by
  have:¬0<(dm n.k (ay x) λv=>x.un.getD v.toNat 0).1:=λe=>K (.inr e);omega
 rw[aL aX.p 3 (A.ext C) rfl];refine jm (α:=Λ) (a:=ay x) (i:=i) rfl rfl dn.u ap.i Ψ (bT Y C) (by rw[x8,y];rfl) λaE O=>?_;have Q:=ew O;rw[aW ap.u Q];refine cd.range (ay x).length (λq _ R=>Ext aG R/\∀v∈(ay x).take q,min (s.zero+x.un.getD v.toNat 0) n.k<n.k) Q.le ⟨Ext.refl _,λv E=>by cases E⟩ ?_ ?_
 rotate_left
 .rintro _ R aJ ⟨G,j⟩;rw[o5]at j;exact cn Ω (aa _ _ ⟨C.trans G,H.2 λ_=>⟨aH,aI,j⟩⟩)
 rintro q bn R aJ j ⟨G,aK⟩ aM;obtain⟨v,E⟩:=aF (l:=ay x) j;have ad:=x5 E;have aN:=(fb.1 ad).1;obtain⟨S,rfl⟩:=U7 aN.1;have bo:=hn (v:=S) f y;have aO:=C.trans G;refine bQ Ω ?_;rw[be ap.u ah.i Ψ (Q.ext G) E];intro bp ae _ _;have V:=aO.trans ae;have L:=A.ext V;rw[aL aX.p 2 L rfl,aL aX.p 5 L rfl];refine jm (α:=Λ) (a:=x.un) (i:=i) rfl rfl ei.u au.i Ψ (bT am V) (by rw[x8,y];rfl) λbq aQ=>?_;rw[be au.u al.i Ψ (ew aQ) (getD_some (i:=S) Ω),aL aX.p 0 L rfl,aL aX.p 0 L rfl];refine(nP Ω Ω).mono ?_;rintro _ bu _ ⟨rfl,W⟩;refine⟨.inl W,?_⟩;rw[bd,aj];refine⟨λhe=>no (V.trans W) λB=>?_,λhe=>?_⟩
 .have:=(H.1 B ab).2.2 (S:Int) ad;rw[u6]at this;omega
 .rw[aP];refine aM _ _ ⟨(G.trans ae).trans W,λu hu=>?_⟩;rw[u7,E,o8,o9,l7]at hu;rcases hu with hu|rfl
  .exact aK u hu
  .rw[u6];omega
theorem QS(h:h6 w ec n.k n.sizes s)(f:bh n.k n.sizes s):ai x7 yJ [ec,Δ 1] w λr w'=>Ext w w'/\∃b:Bool,r= .bool b/\(b=true↔l8 n s):=by
 refine az func19 ?_;refine bj λg1 J x e a=>?_;have j:=h.box e a;rw[bd,aj];refine⟨λ_=>?_,λh=>absurd rfl h⟩;refine j.load λy p=>?_;refine(QR p f).mono ?_;rintro _ U _ ⟨q,b,rfl,a⟩;exact⟨e.trans q,b,rfl,a⟩
end
structure QT(P:am->Prop)(n:aI)(s:am)(q:am×Bool):Prop where
 aY:hM n.k n.sizes s q.1
 emp:q.2=true->∃i<n.sizes.length,dM q.1 i=false/\bB q.1 (i:Int)=[]
 EP:q.2=false->l8 n q.1/\P q.1
 quiet:l8 n s->P s->q=(s,false)
section
variable{ao:List aw}{w:x3}{ab ac:Nat}{A R:af}{n:aI}{s:am}{t:aw}
def EQ(_:aI)(_:am):Prop:=True
theorem ER(h:bp w ab ac A R n s t)(f:Laid w)(j:¬A 0)(p:dW ao t)(a:cr s):ai x7 uE [Γ ab] w λr w'=>∃q:am×Bool,QT (EQ n) n s q/\r=Δ (if q.2=true then 8 else 0)/\cN ao w ab ac A R n q.1 w':=by
 have e:=h.2.2.2.1;refine(EN h f j p a).mono ?_;rintro _ J _ ⟨rfl,hm⟩;obtain⟨x,y,z⟩:=EJ (n:=n) (fv n.k s+1) s e a (Nat.lt_succ_self _);exact⟨m3 n s,⟨x,y,λh=>⟨z h,trivial⟩,λh _=>QD e h⟩,rfl,hm⟩
theorem QU{ec:x1}(h:h6 w ec n.k n.sizes s)(a:bh n.k n.sizes s):ai x7 yJ [ec,Δ 1] w λr w'=>Ext w w'/\∃b:Bool,r= .bool b/\(b=true↔l8 n s/\EQ n s):=
 (QS h a).mono λr w' _ ⟨f,b,e,j⟩=>⟨f,b,e,j.trans ⟨λh=>⟨h,trivial⟩,λh=>h.1⟩⟩
end
section
variable{w:x3}{ec:x1}{n:aI}{s:am}
end
theorem xw{α:Type}{f:α->Λ}:∀(l m:List α),l.length=m.length->(∀(i:Nat)x y,l[i]?=σ x->m[i]?=σ y->(f x).length=(f y).length)->∀i,((l.take i).flatMap f).length=((m.take i).flatMap f).length
 |[],[],_,_,_=>rfl
 |[],_::_,h,_,_=>by simp at h
 |_::_,[],h,_,_=>by simp at h
 |a::l,b::m,h,e,i=>by
  cases i with
  |zero=>rfl
  |succ i=>
   rw[List.take_succ_cons,List.take_succ_cons,W0,W0,r8,r8,e 0 a b rfl rfl,xw l m (by simpa using h) (λi x y j p=>e (i+1) x y (by simpa using j) (by simpa using p)) i]
theorem dO.shape{s s':am}(h:dO s s'):lf s s':=by
 have p:∀i,((s'.vars.take i).flatMap fX).length=((s.vars.take i).flatMap fX).length:=λi=>(xw (f:=fX) s.vars s'.vars h.vars.symm (λi x y a e=>by
  have:=(h.var i x y a e).2;show x.un.length+1+1=y.un.length+1+1;omega) i).symm
 have z:∀i,((s'.funs.take i).flatMap gx).length=((s.funs.take i).flatMap gx).length:=λi=>(xw (f:=gx) s.funs s'.funs h.funs.symm (λi x y a e=>by
  have:=(h.fn i x y a e).2.2.2;show x.cs.length+1=y.cs.length+1;omega) i).symm
 refine⟨?_,h.funs,λj A q=>?_,h.c5⟩
 .unfold hf;rw[h.vars];refine List.map_congr_left λi _=>?_;unfold fa;rw[p]
 .obtain⟨f,r⟩:=aF (l:=s.funs) (i:=j) (by have:=(x4.1 q).1;have:=h.funs;omega);obtain⟨h1,B,_,_⟩:=h.fn j f A r q;refine⟨f,r,h1,B,?_⟩;have w:=p s'.vars.length;rw[o5,h.vars,o5]at w;unfold eN;rw[w,z]
theorem dO.xj{s s':am}(h:dO s s'):q7 s s':=h.shape.xj
theorem QV{sizes:Λ}{s:am}(a:bh k sizes s)(e:s.funs.length<=1000):s.cells.length<=10000000:=by
 have q:=a.vars;have r:=a.eO.2.1;have h1:=ji (L:=s.vars) (f:=fX) (b:=34) λx p=>by
  obtain⟨i,hi⟩:=X5.1 p;obtain⟨z,h⟩:=aF (l:=sizes) (i:=i) (by have:=(x4.1 hi).1;omega);have:=(a.var i x z hi h).1;have:=a.eO.2.2 z (x5 h);show x.un.length+1+1<=34;omega
 have w:=ji (L:=s.funs) (f:=gx) (b:=4097) λf e=>by
  obtain⟨j,_⟩:=a.funs f e;have:=j.len;have:=j.small;show f.cs.length+1<=4097;simp only at*;omega
 have y:s.vars.length*34<=64*34:=Y4 _ Ω;have A:s.funs.length*4097<=1000*4097:=Y4 _ e;unfold am.cells;rw[r8,r8];have B:(ip s).length=3:=rfl;omega
section
variable{w:x3}{ab ac ak:Nat}{Z aA:af}{n:aI}{s s0:am}{cs:List x1}
theorem fh.mark(h:fh [] Z aA w ab ac ak n s s0 cs)(N:s.cells.length<=10000000):ai x7 uG [Γ ab] w λv w'=>v=Δ 0/\ae (λr=>Z r/\¬aA r) w w'/\∃t0 hp,t0.bG=s.cells/\(∀r,hp r->Z r\/w.heap.size<=r)/\fh [t0] hp aA w' ab ac ak n s s0 cs:=by
 obtain⟨A,R,A9,t,p,⟨G,y,a⟩,j,O⟩:=h;have H:¬A 0:=λh=>y ((j 0).2 (.inl h));have I:t.marks.length=0:=by rw[p.ft.1];rfl
 have J:t.cells.length=s.cells.length:=by
  have:=congrArg R6 p.eh.2.1;unfold aw.bG at this;rw[u9]at this;exact this
 refine(Pn p.eh Ω p.ft.2.2.2).mono ?_;rintro _ U _ ⟨rfl,z,x,e,K⟩;rw[I];have L:=p.prog (B:=w.heap.size) z e K p.ft.mark (λ_ h=>.inl h) (λ_ _ _ h=>h) p.box.lt;have hm:py t.mark:=(dW.mark ⟨p.ft,a⟩ (by rw[p.ft.2.1,J];simp;omega)).2;have f:∀{r:Nat}{C:Prop},(C->gT A R A9 aA ak r)->C->Z r\/w.heap.size<=r:=λM h=>.inl ((j _).2 (M h));have E:∀r,gT x R (λq r=>A9 q r/\r<w.heap.size) aA ak r->Z r\/w.heap.size<=r:=by
  intro r a;rcases a with a|a|⟨q,a,_⟩|a|a
  .exact (e.2.1 r a).elim (f .inl) λh=>.inr Ω
  .exact f (λh=>.inr (.inl h)) a
  .exact f (λh=>.inr (.inr (.inl ⟨q,h⟩))) a
  .exact f (λh=>.inr (.inr (.inr (.inl h)))) a
  .exact f (λh=>.inr (.inr (.inr (.inr h)))) a
 exact⟨rfl,(q2 e.1 z).mono λr _ h=>⟨(j r).2 (.inl h.1),λh'=>(p.read r h').1 h.2⟩,t,λr=>gT x R (λq r=>A9 q r/\r<w.heap.size) aA ak r,p.eh.2.1,E,x,R,_,t.mark,L,⟨hx e.1 H G,λh=>(E 0 h).elim y λh=>by have:=p.box.lt;omega,hm⟩,λr=>Iff.rfl,λq r a=>by have:=a.2;have:=e.1.size;omega⟩
theorem fh.hB{t0:aw}{s1:am}(h:fh [t0] Z aA w ab ac ak n s1 s0 cs)(f:t0.bG=s.cells)(j:bh n.k n.sizes s)(q:dO s s1):ai x7 uH [Γ ab,Δ 0] w λv w'=>v=Δ 0/\ae Z w w'/\Laid w'/\∃A R t,bp w' ab ac A R n s t:=by
 obtain⟨A,R,A9,t,p,⟨x,y,E⟩,a,G⟩:=h;have z:¬A 0:=λh=>y ((a 0).2 (.inl h));refine(Pt (m:=0) (tm:=t0) (sm:=s) p.eh p.ft rfl f j q.xj).mono ?_;rintro _ U _ ⟨rfl,H,B,e,C⟩;exact⟨rfl,e.1.mono λr _ h=>(a r).2 (.inl h),hx e.1 z x,B,R,_,C⟩
theorem fh.facts{ao:List aw}(h:fh ao Z aA w ab ac ak n s s0 cs)(he:s.c5=[])(f:s.funs.length<=1000):ai x7 uF [Γ ab] w λv w'=>Ext w w'/\∃g,aq .i64 al w' g v (pw s)/\∀r,leads v r->w.heap.size<=r:=by
 obtain⟨A,R,A9,t,p,⟨a,_,_⟩,_⟩:=h;exact Eg p.eh a (λe h=>by rw[he]at h;cases h) Ω (by rw[he];exact X4 _)
def fd(ao:List aw)(S:af)(w:x3)(ab ac:Nat)(n:aI)(s s0:am)(cs:List x1):Prop:=∃ak Z aA,fh ao Z aA w ab ac ak n s s0 cs/\(∀r,Z r->¬S r)/\∀r,S r->r<w.heap.size
variable{ao:List aw}{S:af}{w':x3}
theorem fd.ext(h:fd ao S w ab ac n s s0 cs)(a:Ext w w'):fd ao S w' ab ac n s s0 cs:=by
 obtain⟨ak,Z,aA,h1,e,f⟩:=h;have:=a.size;exact⟨ak,Z,aA,h1.ext a,e,λr j=>by have:=f r j;omega⟩
theorem fd.start{a:x3}{ak:Nat}{Z aA:af}(f:fh [] Z aA U ab ac ak n s s0 cs)(p:∀r,Z r->B<=r)(j:Ext U a)(q:B<=U.heap.size):fd [] (λr=>r<B\/(U.heap.size<=r/\r<a.heap.size)) a ab ac n s s0 cs:=by
 have:=j.size;exact⟨ak,Z,aA,f.ext j,λr e h=>by have:=p r e;have:=f.lt r e;omega,λr e=>Ω⟩
theorem fd.own(h:fd ao S w ab ac n s s0 cs)(e:Ext w w'):fd ao (λr=>S r\/(w.heap.size<=r/\r<w'.heap.size)) w' ab ac n s s0 cs:=by
 obtain⟨ak,Z,aA,h1,f,j⟩:=h;have:=e.size;exact⟨ak,Z,aA,h1.ext e,λr a h=>h.elim (f r a) λh=>by have:=h1.lt r a;omega,λr a=>a.elim (λh=>by have:=j r h;omega) λh=>h.2⟩
theorem fd.go(h:fd ao S w ab ac n s s0 cs):∃A R t,bp w ab ac A R n s t/\Laid w/\¬A 0/\dW ao t/\∀{J U:x3}{s1:am},Ext w J->cN ao J ab ac A R n s1 U->ae (λr=>¬S r) w U/\fd ao S U ab ac n s1 s0 cs:=by
 obtain⟨ak,Z,aA,h1,e,f⟩:=h;obtain⟨A,R,t,p,q,x,y,B⟩:=h1.go;refine⟨A,R,t,p,q,x,y,λ{J U s1}C hm=>?_⟩;obtain⟨j,hp,E,F⟩:=B C hm;have z:=j.size;exact⟨j.mono λr _ h=>e r h.1,ak,hp,aA,F,λr a=>(E r a).elim (e r) λh I=>by have:=f r I;omega,λr a=>by have:=f r a;omega⟩
theorem fd.less{S':af}(h:fd ao S w ab ac n s s0 cs)(I:∀r,S' r->S r):fd ao S' w ab ac n s s0 cs:=by
 obtain⟨ak,Z,aA,h1,e,f⟩:=h;exact⟨ak,Z,aA,h1,λr a h=>e r a (I r h),λr a=>f r (I r a)⟩
theorem fd.pair(h:fd ao S w ab ac n s s0 cs):∃ak A R A9 aA t,ca w ab ac ak A R A9 aA n s s0 t ao cs/\Laid w:=by
 obtain⟨ak,Z,aA,⟨A,R,A9,t,p,⟨a,_⟩,_⟩,_⟩:=h;exact⟨ak,A,R,A9,aA,t,p,a⟩
theorem fd.facts(h:fd ao S w ab ac n s s0 cs)(he:s.c5=[])(a:s.funs.length<=1000):ai x7 uF [Γ ab] w λv w'=>Ext w w'/\∃g,aq .i64 al w' g v (pw s)/\∀r,leads v r->w.heap.size<=r:=by
 obtain⟨ak,Z,aA,h1,_⟩:=h;exact h1.facts he a
theorem fd.mark(h:fd [] S w ab ac n s s0 cs)(p:bh n.k n.sizes s)(q:s.funs.length<=1000):ai x7 uG [Γ ab] w λv w'=>v=Δ 0/\ae (λr=>¬S r) w w'/\∃t0,t0.bG=s.cells/\fd [t0] S w' ab ac n s s0 cs:=by
 obtain⟨ak,Z,aA,h1,e,f⟩:=h;refine(h1.mark (QV p q)).mono ?_;rintro _ U _ ⟨rfl,j,t0,hp,x,y,A⟩;have z:=j.size;exact⟨rfl,j.mono λr _ h=>e r h.1,t0,x,ak,hp,aA,A,λr a=>(y r a).elim (e r) λh I=>by have:=f r I;omega,λr a=>by have:=f r a;omega⟩
theorem fd.hB{t0:aw}{s1:am}(h:fd [t0] S w ab ac n s1 s0 cs)(a:t0.bG=s.cells)(e:bh n.k n.sizes s)(f:dO s s1):ai x7 uH [Γ ab,Δ 0] w λv w'=>v=Δ 0/\ae (λr=>¬S r) w w'/\Laid w'/\∃A R t,bp w' ab ac A R n s t:=by
 obtain⟨ak,Z,aA,h1,j,q⟩:=h;refine(h1.hB a e f).mono ?_;rintro _ U _ ⟨rfl,p,h⟩;exact⟨rfl,p.mono λr _ h=>j r h,h⟩
end
theorem ES:ai x7 yK [.pointer ν] w λr w'=>r= .tuple #[.bool false,Δ 2]/\Ext w w':=by
 refine az func21 ?_;rw[cP de.u];simp only[Option.isNone_none,bL];exact⟨by trivial,Ext.refl _⟩
theorem QW:ai x7 uE [.pointer ν] w λr w'=>r=Δ 2/\Ext w w':=by
 refine az func11 ?_;refine bZ.sink (m:=0) (λ_ J=>Ext w J) (Ext.refl _) ?_;rintro m _ J j a _;refine ES.mono ?_;rintro _ U _ ⟨rfl,e⟩;rw[br,bt];refine aT (λv w'=>v= .bool true/\w'=U) ?_ λax f=>?_
 .rintro _ _ ⟨rfl,rfl⟩;rw[bL];exact⟨rfl,a.trans e⟩
 .rw[bI,aj];exact⟨λ_=>f _ _ ⟨rfl,rfl⟩,λh=>absurd Φ h⟩
theorem QX{p aC:x1}{L:List lr}{Q:x1->x3->Prop}(aD:∀w',Ext w w'->Q (.bool true) w')(bh:aH .u8 w p pl)(bi:∀b∈pl,0<=b/\b<256)(bj:Seen fm w [aC] L)(bk:∀x∈L,(mZ x).ok)(aE:e6 w)(aF:Laid w):
  ai x7 yI [p,aC] w Q:=by
 refine az func6 ?_;refine(QP aE aF).mono ?_;rintro _ J _ ⟨rfl,y⟩;rw[bC,Y6,aU];refine(Qw (bh.ext y) bi (bT bj y) bk (aE.ext y) (aF.ext y)).mono ?_;rintro _ U _ ⟨aG,bl⟩;have aI:=y.trans aG;have cD:=y.size;have cE:=aG.size;rcases bl with⟨cs,rfl,bm,bn⟩|⟨f,ab,ac,cF,Z,aA,s,cs,rfl,cG,hk,W,X,bp⟩
 .rw[gW,gX,gY];refine bz aX.i λak bq bu G Y=>?_;refine b6 (vs:=cs) aX.i bm rfl bn Y λj aa bw H=>?_;rw[bC,W5,bL,cP de.u];exact aD _ (aI.trans (G.put aa Ω))
 rw[gW,gX,gY];have ag:cs.length=8/\∀u∈cs,u.oneCell'=true:=by
  obtain⟨A,R,A9,t,p,_⟩:=id X;exact b9.len p.doc
 refine bz aX.i λak bq bu G Y=>?_;refine b6 (vs:=cs) aX.i ag.1 rfl ag.2 Y λj aa bw H=>?_;have K:Ext U j:=G.put aa Ω;have bx:=aI.trans K;rw[bC,Y6,aU];have bA:=X.ext K;have bB:l3 j ak (c3 f).k (c3 f).sizes s:=h6.box bA.ok.2 (Ext.refl _) H;obtain⟨szv,cH,cI,cJ,cK,cL,cM,cN,_⟩:=id bB;obtain⟨ah,bD,bE,_⟩:=W.ok;have cO:∀g∈s.funs,g.live≠0:=W.live.1;have cQ:s.funs.length<=256:=W.live.2;have C:s.c5=[]:=bE.c5;have cR:s.c5.length<=1000:=by rw[C];exact X4 _
 have aJ:=fd.start (B:=w.heap.size) X (λr a=>by have:=bp r a;omega) K Ω;have z3:=K.size;have aK:s.funs.length<=1000:=Ω
 refine(aJ.facts C aK).mono ?_;rintro bF z _ ⟨M,bG,aL,bJ⟩;have aM:=aJ.own M;have z5:=M.size;obtain⟨S,aN⟩:∃S:af,S=λr=>(r<w.heap.size\/(U.heap.size<=r/\r<j.heap.size))\/(j.heap.size<=r/\r<z.heap.size):=⟨_,rfl⟩;rw[<-aN]at aM;have am:∀r,((r<w.heap.size\/(U.heap.size<=r/\r<j.heap.size))\/(j.heap.size<=r/\r<z.heap.size))->S r:=λr h=>by rw[aN];exact h
 have bK:S ak:=am ak (by have:=H.lt;have:=G.size;omega);have bM:=bx.trans M;have bN:∀{E:x3},ae (λr=>¬S r) z E->Ext w E:=λan=>bM.then an λr a h=>h (am r (.inl (.inl a)));have aO:∀{E:x3},ae (λr=>¬S r) z E->aq .i64 al E bG bF (pw s):=λan=>bo aL an λr a h=>h (am r (.inr ⟨bJ r a,by obtain⟨e,h⟩:=bO aL a;omega⟩));refine(aM.mark ah aK).mono ?_;rintro _ cS _ ⟨rfl,bP,t0,bQ,bR⟩;obtain⟨A,R,t,bS,bU,bV,ao,bW⟩:=bR.go;refine(ER bS bU bV ao bD).mono ?_;rintro _ aP _ ⟨q,N,rfl,hm⟩;obtain⟨bX,O⟩:=bW (Ext.refl _) hm;have ap:=bP.trans bX;have P:=N.aY;have au:q.1.c5=[]:=by rw[P.same.c5,C]
 have av:q.1.funs.length<=1000:=by have:=P.same.funs;omega
 have bY:ad aP ak aX cs:=(H.ext M).V ap λh=>h bK;refine aT (λv aQ=>v= .bool false/\Ext aP aQ) ?_ λax aR=>?_
 rotate_left
 .obtain⟨cT,cU,cV,cW,cX,cY,bZ,cZ⟩:=O.pair;rw[bH aX.p aX.i ag.1 bY.range];refine(QU bZ.doc.w5 ah).mono ?_;rintro _ c0 _ ⟨aw,b,rfl,b0⟩;rw[b7];refine⟨λao=>?_,λ_=>aR _ _ ⟨rfl,aw⟩⟩;obtain⟨b1,b2⟩:=b0.1 ao;have aS:=N.quiet b1 b2;rw[if_neg (by rw[aS];exact Bool.false_ne_true),bI,aj];refine⟨λh=>absurd rfl h,λ_=>?_⟩;refine((O.ext aw).facts au av).mono ?_;rintro c1 c2 _ ⟨b3,c4,aV,_⟩;rw[aS]at aV;have aW:=aw.trans b3;refine(r2 aV.ls ((aO ap).ext aW).ls).mono ?_;rintro _ c6 _ ⟨rfl,b4⟩;rw[decide_eq_true rfl,bC,Y6];exact aR _ _ ⟨rfl,aW.trans b4⟩
 rintro _ aQ ⟨rfl,ay⟩;rw[aU];refine((O.ext ay).facts au av).mono ?_;rintro b5 b8 _ ⟨aZ,ca,a1,cb⟩;have a2:=(O.ext ay).own aZ;have a6:ae (λr=>¬S r) z b8:=ap.trans ((ay.trans aZ).V _);refine aT (λv aB=>v= .bool false/\fd [t0] S aB ab ac (c3 f) q.1 s cs/\ae (λr=>¬S r) z aB) ?_ λc7 a7=>?_
 rotate_left
 .rw[bd,aj];refine⟨λhe=>?_,λ_=>a7 _ _ ⟨rfl,a2.less λr h=>.inl h,a6⟩⟩;have he:q.2=false:=by
   cases h:q.2 with
   |false=>rfl
   |true=>rw[h,if_pos rfl]at he;exact absurd he Φ
  obtain⟨A9,xa,t9,cc,cd,ce,cg,ch⟩:=a2.go;refine(ER cc cd ce cg P.l5).mono ?_;rintro _ ci _ ⟨c8,cj,rfl,ck⟩;obtain⟨a8,ba⟩:=ch (Ext.refl _) ck;have cl:=cj.quiet (N.EP he).1 (N.EP he).2;subst cl;rw[if_neg Bool.false_ne_true,bI,aj];refine⟨λh=>absurd rfl h,λ_=>?_⟩;refine(ba.facts au av).mono ?_;rintro c9 da _ ⟨bb,db,cm,_⟩;have cn:aq .i64 al ci ca b5 (pw q.1):=bo a1 a8 λr a h=>h (.inr ⟨cb r a,by obtain⟨e,h⟩:=bO a1 a;omega⟩);refine(r2 cm.ls (cn.ext bb).ls).mono ?_;rintro _ dc _ ⟨rfl,cp⟩;rw[decide_eq_true rfl,bC,Y6];have bc:=bb.trans cp;exact a7 _ _ ⟨rfl,(ba.less λr h=>.inl h).ext bc,(a6.trans (a8.mono λr _ h I=>h (.inl I))).trans (bc.V _)⟩
 rintro _ aB ⟨rfl,cq,cr⟩;rw[aU];refine ES.mono ?_;rintro _ dd _ ⟨rfl,be⟩;rw[br,bt];refine aT (λv w'=>v= .bool true/\Ext w w') (λv w' h=>by rw[h.1];exact aD _ h.2) λdf ct=>?_;refine((cq.ext be).hB bQ ah P.same).mono ?_;rintro _ dg _ ⟨rfl,cu,cw,dh,di,t3,cz⟩;rw[bd,aj];refine⟨λ_=>?_,λh=>absurd rfl h⟩;have bf:=(cr.trans (be.V _)).trans cu;refine(Eg cz cw (λe h=>by rw[C]at h;cases h) Ω (by rw[C];exact X4 _)).mono ?_;rintro dj dk _ ⟨bg,dl,cA,_⟩;refine(r2 cA.ls ((aO bf).ext bg).ls).mono ?_;rintro _ dm _ ⟨rfl,cB⟩;rw[decide_eq_true rfl,bL];refine QW.mono ?_;rintro _ dn _ ⟨rfl,cC⟩;rw[bd,aj];refine⟨λ_=>?_,λh=>absurd rfl h⟩;rw[bd];exact ct _ _ ⟨rfl,(bN bf).trans ((bg.trans cB).trans cC)⟩
theorem QY{p a:x1}{L:List lr}(e:aH .u8 w p pl)(f:∀b∈pl,0<=b/\b<256)(h:Seen fm w [a] L)(j:∀x∈L,(mZ x).ok)(q:e6 w)(r:Laid w):
  ai x7 yI [p,a] w λv w'=>v= .bool true/\Ext w w':=QX (λw' s=>⟨rfl,s⟩) e f h j q r
end Go.Proofs.YtikkpokkcdocoaaGreatDoor
