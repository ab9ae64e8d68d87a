/- own texts, made small by a tool (wip/ holds them as they were written): no statement of the seat. -/
import Derived.Test.YtikkpokkcdocoabGreatDoorYd
set_option linter.unusedVariables false
set_option linter.unusedSimpArgs false
set_option linter.unnecessarySimpa false
open Array renaming getElem?_eq_some_iff→l9
open Bool renaming not_true→X1,not_false→W7,and_eq_true→V7,eq_iff_iff→V9,true_and→T5
open Decidable renaming not_not→Z9
open Go renaming Value→x1,World→x3,TypeId→p9,IntKind→o6,Program→W5,FuncId→R5
open Go.Addr renaming add_mid→U7
open Go.Builtin renaming append_→Z0
open Go.Instr renaming loadAt→u5,fieldAt→u6,storeAt→o8,indexAt→c7,buildSlice→Y4
open Go.Proofs.Tryz renaming prog→x7
open Int renaming toNat_natCast→u7,eq_ofNat_of_zero_le→U8
open List renaming getElem?_eq_some_iff→x4,mem_of_getElem?→x5,getElem?_eq_getElem→x6,getElem?_map→x8,getD_eq_getElem?_getD→u4,take_add_one→u9,length_map→r8,length_append→r9,replicate→p8,mem_append→o5,take_length→o7,mem_singleton→o9,length_take→n9,mem_map→j4,eq_nil_of_length_eq_zero→j6,length_cons→c8,length_set→c9,take_of_length_le→b6,getElem?_set_self→b8,getElem?_eq_none→Z2,map_append→Z4,getElem?_take_of_lt→Z7,getElem?_set_ne→Y2,ext_getElem?→Y3,getElem?_append_left→Y5,getElem?_append_right→Y6,getElem?_set→Y9,range→X0,mem_iff_getElem?→X3,drop_eq_getElem_cons→X6,flatMap_cons→X7,mem_or_eq_of_mem_set→X9,length_eq_one_iff→W6,append_nil→W8,append_assoc→V0,mem_cons→V3,pairwise_iff_getElem→V6,map_set→U4,map_cons→U6,length_singleton→T1,mem_filter→T3,mem_range→T6,getElem_mem→S0,foldl_cons→S1,length→S3,mem_flatMap→S7,map_map→S9,length_filter_le→R3
open Nat renaming le_refl→o4,le_trans→Y8,zero_add→X2,mul_le_mul_right→X8,mul_one→U1,add_mul→U2,sub_self→U3,add_assoc→R2,add_sub_cancel_left→R4,lt_of_lt_of_le→R7
open Option renaming toList_some→j5,isNone_some→Z5,map_some→Z6,map_eq_some_iff→Y7,getD_some→V2,map→V5,isSome_some→T9,isSome_none→S8
open Option.some renaming inj→b9
set_option maxHeartbeats 16000000
open Option renaming some→σ,none→ν
variable{a c k pos v:Int}{B ae eo g1 ga gt gtb gy j:Nat}{ak cs l sc sizes t tl:Λ}{K:x1->x3->Prop}{sv:x1}{V aa w w':x3}{P e:p9}{L:List (Λ)}{D:Nat->Prop}
namespace Go.Proofs.YtikkpokkcdocoabGreatDoor
open Go Go.Vc Go.RowKit Go.Proofs Go.Proofs.Tryz
set_option maxRecDepth 100000
def gD(of:Int->Int)(p:Int×Int)(v:Int):Int×Int:=if p.2= -1\/of v<p.1 then(of v,v)else p
def eK(k:Int)(l:Λ)(of:Int->Int):Int×Int:=l.foldl (gD of) (k,-1)
theorem mg{s:aq}{n:aF}{i:Int}{b m:Nat}{x:bG}(h:tT s n i b m)(e:0<=i)(J:s.vars[i.toNat]?=σ x):(fN b m).map (λv:Nat=>(v:Int))=aG x:=by
 obtain⟨_,_,f⟩:=h;obtain⟨rfl,p⟩:=f x e J;unfold fN aG;rw[List.filter_map];congr 1;refine List.filter_congr λq a=>?_;have a:=T6.1 a;rw[p,decide_eq_true a,T5];rfl
section
variable{w:x3}{ae gT:Nat}{A R:aj}{n:aF}{s:aq}{t:aC}
theorem D4{b:Int}(h:bw w ae gT A R n s t)(f:0<=a/\a<=n.k)(p:0<=b/\b<=n.k):am x7 HU [Γ ae,Δ a,Δ b] w λv w'=>v=Δ (min (a+b) n.k)/\Ext w w':=by
 refine az func158 ?_;refine(j7 h).mono ?_;rintro _ V _ ⟨rfl,q⟩;refine(wa (a:=a) (b:=b) (k:=n.k)).mono ?_;rintro _ aa _ ⟨rfl,r⟩;have hk:=h.2.2.2.1.ew;have e:nY a b n.k= .tuple #[Δ (min (a+b) n.k),Δ 0]:=by
  unfold nY;rw[if_pos (show cq a n.k/\cq b n.k from⟨⟨hk,f⟩,⟨hk,p⟩⟩)]
 rw[e,bm,bn];exact⟨rfl,q.trans r⟩
def hh(n:aF)(s:aq)(i:Int):Bool:=decide (0<=i/\i<n.sizes.length)&& !hK s i.toNat
theorem D5{i:Int}(h:bw w ae gT A R n s t):am x7 HM [Γ ae,Δ i] w λv w'=>v=Δ (if hh n s i=true then 0 else 1)/\Ext w w':=by
 refine az func149 ?_;rw[de db.u];simp only[Z5,a1];refine aV (λv V=>v= .bool (!hh n s i)/\Ext w V) ?_ ?_
 .rintro _ V ⟨rfl,a⟩;rw[b2];refine⟨λp=>⟨by rw[if_neg (by simpa using p)],a⟩,λp=>⟨by rw[if_pos (by simpa using p)],a⟩⟩
 intro aA q;refine(xj h).mono ?_;rintro _ V _ ⟨rfl,a⟩;rw[b2];refine⟨λe=>q _ _ ⟨?_,a⟩,λe=>?_⟩
 .rw[V7]at e;unfold hh;rw[e.2,X1,Bool.and_false];rfl
 refine(jv (i:=i) (h.ext a)).mono ?_;rintro _ aa _ ⟨⟨b,m,rfl,H,B,C⟩,E⟩;refine(vR (b:=b) (n:=m)).mono ?_;rintro _ I _ ⟨rfl,G⟩;rw[be];refine q _ _ ⟨?_,(a.trans E).trans G⟩;congr 1;have J:=h.2.2.2.1.vars;unfold hh;by_cases f:0<=i/\i<n.sizes.length
 .obtain⟨x,r⟩:=aJ (l:=s.vars) (i:=i.toNat) Ω;obtain⟨z,y⟩:=aJ (l:=n.sizes) (i:=i.toNat) Ω;have h1:=(h.2.2.2.1.var i.toNat x z r y).1;have K:=h.2.2.2.1.fq.2.2 z (x5 y);have hm:=(C x f.1 r).1;rw[decide_eq_true f.1,T5]at e;rw[decide_eq_true f,e,decide_eq_false Ω];rfl
 .rw[decide_eq_false f,(B f).2];rfl
def pJ(w:x3)(eo:Nat)(cap:Array x1)(l:Λ)(of:Int->Int):Prop:=∀(w':x3)(v:Int),Ext w w'->v∈l->am x7 eo (Δ v::cap.toList) w' λr a=>r=Δ (of v)/\Ext w' a
theorem xt{i:Int}{x:bG}{of:Int->Int}{cap:Array x1}(h:bw w ae gT A R n s t)(L:Laid w)(aL:0<=i)(J:s.vars[i.toNat]?=σ x)(aM:pJ w eo cap (aG x) of):
  am x7 HN [Γ ae,Δ i,.func (.func eo) #[] cap] w λr w'=>Ext w w'/\r= .tuple #[Δ (eK n.k (aG x) of).1,Δ (eK n.k (aG x) of).2]:=by
 refine hr func150 ?_;refine bf λan V bc M C=>?_;have C:af V an oS [.func (.func eo) #[] cap]:=C;refine(j7 (h.ext M)).mono ?_;rintro _ aa _ ⟨rfl,E⟩;refine bx au.i λN bd bg ao ap=>?_;refine bx ah.i λga bh bi O aq=>?_;have bj:=(M.trans E).size;have z3:=ao.size;have z4:=O.size;refine bl (v:=Δ n.k) au.i rfl rfl (ap.ext O) Φ λbk av bm aN=>?_;have bn:=ap.lt;have bo:=aq.lt;refine bl (v:=Δ (-1)) ah.i rfl rfl (aq.ab av Ω) Φ λaO aw bp aP=>?_;have aQ:=aN.ab aw Ω;have ay:Ext aa aO:=((ao.trans O).then av λr a he=>by have he:r=N:=he;omega).put aw Ω;have az:=(M.trans E).trans ay;refine(jv (i:=i) (h.ext az)).mono ?_;rintro _ bq _ ⟨⟨b,m,rfl,P⟩,aB⟩;refine(mO (b:=b) (n:=m)).mono ?_;rintro _ Q _ ⟨aS,aY,rfl,br,U⟩;have bt:=P.1;have aC:=mg P aL J;have z:=aB.trans aS;have q:=az.trans z;have bu:=q.size;have bz:=z.size;have bA:=C.lt;have bB:=aB.size;have z12:=E.size;obtain⟨S,G⟩:∃S:aj,S=λr=>r=N\/r=ga:=⟨_,rfl⟩;have H:∀r,S r->w.heap.size<=r:=λr a=>by rw[G]at a;rcases a with rfl|rfl<;>omega
 have W:∀r,S r->r≠an/\r≠aY:=λr a=>by rw[G]at a;rcases a with rfl|rfl<;>omega
 let st:Nat->Int×Int:=λj=>((aG x).take j).foldl (gD of) (n.k,-1);have aT:=C.ext (E.trans (ay.trans z));refine jJ.old ⟨_,false,iG,#[Γ aY],_,_,_,_,λj w'=>ai S Q w'/\af w' N au [Δ (st j).1]/\af w' ga ah [Δ (st j).2],λ_ _ _=>False,rfl,(mN (g:=aY) P.1).s,?_,
  λ_ _ J h=>⟨h.1.ext J,h.2.ext J⟩,λ_ _ _ J h=>⟨h.1.trans (J.ab S),h.2.1.ext J,h.2.2.ext J⟩,λ_ _ _ _ _ h=>h,⟨U,L.ext q⟩,⟨ai.refl _ _,aQ.ext z,aP.ext z⟩,?_,?_,λ_ _ h=>h.elim,λ_ _ _ h=>h.elim⟩
 .rintro _ _ _ _ ⟨_,_,_,_,rfl⟩;rfl
 .rintro _ j _ aU ⟨_,_⟩ ⟨bC,rfl,v,ad,aW⟩ ⟨y,I,K⟩;cases aW;intro X f _ _;have aD:(aG x)[j]?=σ (v:Int):=by rw[<-aC,x8,ad];rfl
  have aE:st (j+1)=gD of (st j) v:=by
   show((aG x).take (j+1)).foldl _ _=_;rw[u9,aD,List.foldl_append];rfl
  have aX:Ext w X:=((q.then y λr a h=>by have:=H r h;omega)).trans f;have aZ:=(aT.ab y λh=>(W _ h).1 rfl).ext f;rw[ax (v:=.func (.func eo) #[] cap) Ψ (aZ.cell (o:=0) rfl)];refine am.mono (aM X v aX (x5 aD)) ?_;rintro _ aF _ ⟨rfl,Y⟩;have Z:=f.trans Y;have ac:=I.ext Z;have ag:=K.ext Z;refine aV (λr ak=>r= .bool (decide ((st j).2= -1\/of v<(st j).1))/\Ext aF ak) ?_ ?_
  .rintro _ ak ⟨rfl,B⟩;have aH:=Z.trans B;rw[al];refine⟨λa1=>?_,λa2=>?_⟩
   .refine bl (v:=Δ (of v)) au.i rfl rfl (ac.ext B) Ξ λbD aI bE a6=>?_;refine bl (v:=Δ (v:Int)) ah.i rfl rfl ((ag.ext B).ab aI Ω) Ξ λa7 aJ bF a8=>?_;have ba:=a6.ab aJ Ω;have p:ai S Q a7:=((y.trans (aH.ab S)).trans (aI.mono λr _ h=>by rw[G];exact .inl h)).trans (aJ.mono λr _ h=>by rw[G];exact .inr h);have e:st (j+1)=(of v,(v:Int)):=by rw[aE];unfold gD;rw[if_pos a1]
    refine⟨⟨U.ab p λh=>(W _ h).2 rfl,(L.ext (q.then p λr a h=>by have:=H r h;omega))⟩,⟨p,?_,?_⟩,λh=>by cases h⟩
    .rw[e];exact ba
    .rw[e];exact a8
   .have e:st (j+1)=st j:=by rw[aE];unfold gD;rw[if_neg a2]
    have p:ai S Q ak:=y.trans (aH.ab S);refine⟨⟨U.ab p λh=>(W _ h).2 rfl,(L.ext (q.then p λr a h=>by have:=H r h;omega))⟩,⟨p,?_,?_⟩,λh=>by cases h⟩
    .rw[e];exact ac.ext B
    .rw[e];exact ag.ext B
  .intro aA aK;rw[ax (v:=Δ (st j).2) Ψ (ag.cell (o:=0) rfl),be,al];refine⟨λh1=>aK _ _ ⟨by rw[decide_eq_true (.inl h1)],Ext.refl _⟩,λh1=>?_⟩;rw[ax (v:=Δ (st j).1) Ψ (ac.cell (o:=0) rfl),aR];refine aK _ _ ⟨?_,Ext.refl _⟩;congr 1;exact decide_eq_decide.2 ⟨.inr,λh=>h.resolve_left h1⟩
 .rintro k aU rfl ⟨y,I,K⟩;intro X f _ _;have bb:st (fN b m).length=eK n.k (aG x) of:=by
   show((aG x).take _).foldl _ _=_;rw[b6 (by rw[<-aC,r8];exact o4 _)];rfl
  rw[bb]at I K;rw[ax (v:=Δ (eK n.k (aG x) of).1) Ψ ((I.ext f).cell (o:=0) rfl),ax (v:=Δ (eK n.k (aG x) of).2) Ψ ((K.ext f).cell (o:=0) rfl)];intro aF Y _;exact⟨((q.then y λr a h=>by have:=H r h;omega).trans f).trans Y,rfl⟩
end
theorem D6{x:bG}(h:v∈aG x):0<=v/\v<x.un.length:=by
 unfold aG at h;obtain⟨h,_⟩:=T3.1 h;obtain⟨q,a,rfl⟩:=j4.1 h;have:=T6.1 a;omega
theorem D7{s:aq}{n:aF}{i:Int}{b m:Nat}{x:bG}(h:tT s n i b m)(e:0<=i)(J:s.vars[i.toNat]?=σ x):(decide (0<=v/\v<m)&&b.testBit v.toNat)=decide (v∈aG x):=by
 obtain⟨_,_,f⟩:=h;obtain⟨rfl,p⟩:=f x e J;by_cases ad:0<=v/\v<x.un.length
 .rw[decide_eq_true ad,T5,p,decide_eq_true (show v.toNat<x.un.length by omega),T5,show((v.toNat:Nat):Int)=v by omega];have:=O7 ad;cases a:dropped x.mask v with
  |false=>rw[decide_eq_true (this.2 a)];rfl
  |true=>rw[decide_eq_false λh=>by rw[this.1 h]at a;cases a];rfl
 .rw[decide_eq_false ad,decide_eq_false λh=>ad (D6 h)];rfl
def eL(s:aq)(j:Nat)(tl:Λ):Int:=if(h4 s j tl).isSome then m7 s j tl else 0
def eV(n:aF)(s:aq)(i v:Int):Int:=if ft n i v then ix s i.toNat v.toNat else 0
theorem D8{s:aq}(a:br k sizes s):0<=eL s j tl/\eL s j tl<=k:=by
 have hk:=a.ew;unfold eL;cases q:h4 s j tl with
 |none=>simp;omega
 |some p=>
  obtain⟨r,f,ag,w,m,hm,h,rfl⟩:=xl a q;rw[T9,if_pos rfl];have e:m7 s j tl=f.cs.getD m 0:=by
   unfold m7 bt;rw[ag];simp only;rw[hm];rfl
  rw[e,u4,x6 h];exact(a.funs f (x5 ag)).1.h0 _ (S0 h)
theorem pK{n:aF}{s:aq}{i:Int}(a:br n.k n.sizes s):0<=eV n s i v/\eV n s i v<=n.k:=by
 have hk:=a.ew;have q:=a.vars;unfold eV;split
 .rename_i h;obtain⟨x,e,f,_⟩:=h.var a;obtain⟨z,p⟩:∃z,n.sizes[i.toNat]?=σ z:=⟨_,x6 (by have:=(x4.1 e).1;omega)⟩;have:=(a.var i.toNat x z e p).2.1;unfold ix;rw[e];simp only;rw[u4,x6 f];exact this _ (S0 f)
 .omega
section
variable{w:x3}{ae gT:Nat}{A R:aj}{n:aF}{s:aq}{t:aC}
theorem D9{aK:x1}(h:bw w ae gT A R n s t)(f:aI .i64 w aK tl)(p:∀e w',Ext w w'->K (.tuple #[Δ (eL s j tl),Δ e]) w'):am x7 zq [Γ ae,Δ (j:Int),aK] w K:=by
 refine(xm h f).mono ?_;rintro _ V _ ⟨rfl,a⟩;have:=p;unfold eL at this;split
 .rename_i U;rw[if_pos U]at this;exact this 0 V a
 .rename_i U;rw[if_neg U]at this;exact this 1 V a
theorem xu{i:Int}(h:bw w ae gT A R n s t)(f:∀e w',Ext w w'->K (.tuple #[Δ (eV n s i v),Δ e]) w'):am x7 zp [Γ ae,Δ i,Δ v] w K:=by
 refine(pH h).mono ?_;rintro _ V _ ⟨rfl,a⟩;have:=f;unfold eV at this;split
 .rename_i U;rw[if_pos U]at this;exact this 0 V a
 .rename_i U;rw[if_neg U]at this;exact this 1 V a
theorem Ea{i:Int}(h:bw w ae gT A R n s t):am x7 HO [Γ ae,Δ i] w λr w'=>Ext w w'/\∃cap,r= .func (.func sj) #[] cap/\∀l,pJ w' sj cap l (eV n s i):=by
 refine az func151 ?_;refine bf λg1 V C y a=>?_;refine bf λz aa E q f=>?_;rw[ig];have x:=y.trans q;refine⟨x,_,rfl,λl w' v p _=>?_⟩;refine az func224 ?_;have a:af V g1 db [Γ ae]:=a;have f:af aa z ah [Δ i]:=f;rw[ax (v:=Γ ae) Ψ (((a.ext q).ext p).cell (o:=0) rfl),ax (v:=Δ i) Ψ ((f.ext p).cell (o:=0) rfl)];refine xu (h.ext (x.trans p)) λe G B=>?_;rw[bm,bn];exact⟨rfl,B⟩
theorem xv{i:Int}(f:br n.k n.sizes s)(h:hh n s i=true):0<=i/\∃x,s.vars[i.toNat]?=σ x/\x.gone=0:=by
 unfold hh at h;rw[V7]at h;have h1:=of_decide_eq_true h.1;have p:=f.vars;obtain⟨x,e⟩:=aJ (l:=s.vars) (i:=i.toNat) Ω;have a:=h.2;unfold hK at a;rw[e]at a;exact⟨h1.1,x,e,by simpa using a⟩
theorem Pg{i:Int}(h:bw w ae gT A R n s t)(q:Laid w):am x7 GY [Γ ae,Δ i] w λr w'=>Ext w w'/\(hh n s i=false->r= .tuple #[Δ 0,Δ (-1),Δ 1])/\
  ∀x,hh n s i=true->s.vars[i.toNat]?=σ x->r= .tuple #[Δ (eK n.k (aG x) (eV n s i)).1,Δ (eK n.k (aG x) (eV n s i)).2,Δ 0]:=by
 refine az func71 ?_;refine(D5 h).mono ?_;rintro _ V _ ⟨rfl,a⟩;cases ad:hh n s i with
 |false=>
  rw[if_neg Φ,bC,al];exact⟨λ_=>⟨a,λ_=>rfl,λ_ h=>by cases h⟩,λh=>absurd Φ h⟩
 |true=>
  obtain⟨y,x,f,_⟩:=xv h.2.2.2.1 ad;rw[if_pos rfl,bC,al];refine⟨λh=>absurd rfl h,λ_=>?_⟩;refine(Ea (i:=i) (h.ext a)).mono ?_;rintro _ aa _ ⟨z,cap,rfl,B⟩;have e:=a.trans z;refine(xt (h.ext e) (q.ext e) y f (B _)).mono ?_;rintro _ E _ ⟨C,rfl⟩;rw[bm,bn];exact⟨e.trans C,(λh=>by cases h),λG _ p=>by rw[f]at p;cases p;rfl⟩
theorem kL{f:ca}(h:bw w ae gT A R n s t)(ag:s.funs[j]?=σ f):am x7 qc [Γ ae,Δ (j:Int)] w λr w'=>Ext w w'/\∃g,w.heap.size<=g/\av .i64 ah w' g r f.sc:=by
 have H:=(x4.1 ag).1;refine az func76 ?_;refine aV (λv V=>v= .bool false/\Ext w V) ?_ ?_
 .rintro _ V ⟨rfl,a⟩;rw[a1];obtain⟨I,J,K,M,aY,N,L,O,z,P,Q,S,q,e⟩:=(h.ext a).1.parts;obtain⟨y,x⟩:∃y,L[j]?=σ y:=⟨_,x6 (by rw[e.1];omega)⟩;obtain⟨B,_,_⟩:=e.2 j y f x ag;rw[aS cG.p 3 z rfl,dr rfl fE.u ff.i q (by rw[e.1];omega),aU ff.p rfl,ax (v:=y.aL) Ψ (q.range x 0 _ rfl)];have U:f.sc.length<=6:=(h.2.2.2.1.funs f (x5 ag)).1.scope.2;refine(ku B.ls Ω).mono ?_;rintro v aa _ ⟨C,g,W,hm⟩;have:=a.size;exact⟨a.trans C,g,Ω,hm⟩
 intro aA E;rw[aR,al];refine⟨λX=>Ω,λ_=>?_⟩;refine(rj h).mono ?_;rintro _ Y _ ⟨rfl,G⟩;rw[cM];exact E _ _ ⟨by rw[decide_eq_false Ω],G⟩
structure jw(s:aq)(j pos v:Int)(f:ca)(u:Int)(x:bG):Prop where
 xw:0<=j
 ag:s.funs[j.toNat]?=σ f
 live:f.live≠0
 ea:0<=pos
 hu:f.sc[pos.toNat]?=σ u
 oo:0<=u
 J:s.vars[u.toNat]?=σ x
 ad:v∈aG x
theorem Eb{j:Int}(h:bw w ae gT A R n s t):am x7 HV [Γ ae,Δ j,Δ pos,Δ v] w λr w'=>Ext w w'/\∃e:Int,r=Δ e/\(e=0\/e=1)/\(e=0↔ ∃f u x,jw s j pos v f u x):=by
 have ap:=h.2.2.2.1.vars;refine az func160 ?_;rw[de db.u];simp only[Z5,a1];have key:∀(K:x1->x3->Prop),(∀r w',Ext w w'->(∀f,0<=j->s.funs[j.toNat]?=σ f->aI .i64 w' r f.sc)->K r w')->am x7 qc [Γ ae,Δ j] w K:=λK M=>by
  by_cases N:0<=j/\j<s.funs.length
  .obtain⟨f,ag⟩:=aJ (l:=s.funs) (i:=j.toNat) Ω;have:=kL h ag;rw[show((j.toNat:Nat):Int)=j by omega]at this;refine this.mono ?_;rintro r V _ ⟨p,g,_,hm⟩;exact M r V p λq _ O=>by rw[ag]at O;cases O;exact hm.ls
  .refine (D1 h N).mono ?_;rintro r V _ ⟨rfl,p⟩;exact M _ V p λf C ag=>absurd ⟨C,by have:=(x4.1 ag).1;omega⟩ N
 refine key _ λr V p af=>?_;refine aV (λai aa=>∃b,ai= .bool b/\(b=false↔ ∃f u x,jw s j pos v f u x)/\Ext w aa) ?_ ?_
 .rintro _ aa ⟨b,rfl,E,P⟩;rw[b2];refine⟨λQ=>⟨P,1,rfl,.inr rfl,⟨(λh=>by cases h),λh=>by rw[E.2 h]at Q;cases Q⟩⟩,λag=>⟨P,0,rfl,.inl rfl,⟨λ_=>E.1 ag,λ_=>rfl⟩⟩⟩
 intro aA G;refine(rk (j:=j) (h.ext p)).mono ?_;rintro _ aq _ ⟨rfl,S⟩;have z:=p.trans S;rw[bH,b2];refine⟨λH=>G _ _ ⟨true,rfl,⟨(λh=>by cases h),λ⟨f,u,x,a⟩=>?_⟩,z⟩,λI=>?_⟩
 .rw[decide_eq_true a.xw,T5]at H;unfold e7 at H;rw[a.ag]at H;simp[a.live]at H
 have I:0<=j/\e7 s j.toNat=true:=by simpa using I
 obtain⟨C,B⟩:=I;obtain⟨f,ag,aj⟩:∃f,s.funs[j.toNat]?=σ f/\f.live≠0:=by
  unfold e7 at B;cases ag:s.funs[j.toNat]? with
  |none=>rw[ag]at B;cases B
  |some f=>rw[ag]at B;exact⟨f,rfl,by simpa using B⟩
 have U:=(af f C ag).ext S;have W:=(h.2.2.2.1.funs f (x5 ag)).1;have same:∀{q u x},jw s j pos v q u x->q=f:=λa=>by have:=a.ag;rw[ag]at this;cases this;rfl
 rw[aR,al];refine⟨λau=>G _ _ ⟨true,rfl,⟨(λh=>by cases h),λ⟨f,u,x,a⟩=>by have:=a.ea;omega⟩,z⟩,λav=>?_⟩;rw[aX an.u U,cM,al];refine⟨λaw=>G _ _ ⟨true,rfl,⟨(λh=>by cases h),λ⟨q,u,x,a⟩=>?_⟩,z⟩,λax=>?_⟩
 .obtain rfl:=same a;have:=(x4.1 a.hu).1;omega
 obtain⟨u,hu⟩:=aJ (l:=f.sc) (i:=pos.toNat) Ω;have X:=x5 hu;have Y:=(W.scope.1 u X).1;have ay:=W.vars u X;obtain⟨x,L⟩:=aJ (l:=s.vars) (i:=u.toNat) Ω;rw[fY (y:=pos) (i:=pos.toNat) Ω an.u ah.i Ψ U hu];refine(jv (i:=u) (h.ext z)).mono ?_;rintro _ aB _ ⟨⟨b,m,rfl,Z⟩,ak⟩;refine(DS (v:=v) Z.1).mono ?_;rintro _ aC _ ⟨rfl,ao⟩;rw[D7 Z Y L,bH];refine G _ _ ⟨_,rfl,⟨λE=>⟨f,u,x,C,ag,aj,Ω,hu,Y,L,by simpa using E⟩,λ⟨q,u',aD,a⟩=>?_⟩,(z.trans ak).trans ao⟩;obtain rfl:=same a;have ab:=a.hu;rw[hu]at ab;cases ab;have ac:=a.J;rw[L]at ac;cases ac;rw[decide_eq_true a.ad];rfl
end
def kM(n:aF)(s:aq)(j:Nat)(pos v o u:Int):Int:=min (eL s j (if pos=1 then[u,v]else[v,u])+eV n s o u) n.k
section
variable{w:x3}{ae gT:Nat}{A R:aj}{n:aF}{s:aq}{t:aC}
theorem Ph{o:Int}{E G H I:Nat}(h:bw w ae gT A R n s t)(h1:af w g1 ah [Δ v])(L:af w E ah [Δ pos])(q:af w G db [Γ ae])(M:af w H ah [Δ (j:Int)])(N:af w I ah [Δ o])(l:Λ):
  pJ w ID #[Γ g1,Γ E,Γ G,Γ H,Γ I] l (kM n s j pos v o):=λw' u f _=>by
 have h:=h.ext f;refine az func226 ?_;rw[ax (v:=Δ v) Ψ ((h1.ext f).cell (o:=0) rfl)];refine qp (l:=[v,u]) an.u ah.i Ξ rfl Ψ λW ga V X x O=>?_;have J:=f.trans x;refine aV (λr aa=>Ext w' aa/\aI .i64 aa r (if pos=1 then[u,v]else[v,u])) ?_ ?_
 .rintro aK aa ⟨a,P⟩;have y:=f.trans a;rw[ax (v:=Γ ae) Ψ ((q.ext y).cell (o:=0) rfl),ax (v:=Δ (j:Int)) Ψ ((M.ext y).cell (o:=0) rfl)];refine D9 (h.ext a) P λe Y p=>?_;have z:=y.trans p;rw[bm,bn,ax (v:=Γ ae) Ψ ((q.ext z).cell (o:=0) rfl),ax (v:=Δ o) Ψ ((N.ext z).cell (o:=0) rfl)];refine xu (h.ext (a.trans p)) λZ ab B=>?_;have Q:=z.trans B;rw[bm,bn,ax (v:=Γ ae) Ψ ((q.ext Q).cell (o:=0) rfl)];refine(D4 (h.ext ((a.trans p).trans B)) (D8 h.2.2.2.1) (pK h.2.2.2.1)).mono ?_;rintro _ ac _ ⟨rfl,S⟩;exact⟨rfl,((a.trans p).trans B).trans S⟩
 intro aA K;rw[ax (v:=Δ pos) Ψ ((L.ext J).cell (o:=0) rfl),be,al];refine⟨λC=>?_,λC=>K _ _ ⟨x,by rw[if_neg C];exact O.ls⟩⟩;rw[ax (v:=Δ v) Ψ ((h1.ext J).cell (o:=0) rfl)];refine qp (l:=[u,v]) an.u ah.i Ξ rfl Ψ λad ag aa ai a U=>?_;exact K _ _ ⟨x.trans a,by rw[if_pos C];exact U.ls⟩
theorem Ec{o:Int}{f:ca}{x:bG}(h:bw w ae gT A R n s t)(ac:Laid w)(ag:s.funs[j]?=σ f)(aH:0<=pos/\pos<=1)(aI:f.sc.length=2)(N:f.sc[(1-pos).toNat]?=σ o)(J:s.vars[o.toNat]?=σ x):
  am x7 HT [Γ ae,Δ (j:Int),Δ pos,Δ v] w λr w'=>Ext w w'/\r= .tuple #[Δ (eK n.k (aG x) (kM n s j pos v o)).1,Δ (eK n.k (aG x) (kM n s j pos v o)).2]:=by
 have ad:=((h.2.2.2.1.funs f (x5 ag)).1.scope.1 o (x5 N)).1;have aJ:j<4611686018427387904:=by
  have h1:=pG h.2.1 h.2.2.1;have aK:=xh ag;have aL:=(x4.1 ag).1;have aM:j<=eS s j:=by
   unfold eS;have:j<=((s.funs.take j).flatMap fp).length:=by
    have ai:∀(L:List ca),L.length<=(L.flatMap fp).length:=λL=>by
     induction L with
     |nil=>exact o4 _
     |cons a L aN=>rw[X7,r9,c8];have:(fp a).length=a.cs.length+1:=rfl;omega
    have aj:=ai (s.funs.take j);rw[n9]at aj;omega
   omega
  omega
 refine az func157 ?_;refine bf λak V aO al E=>?_;refine bf λao aa aP X H=>?_;refine bf λap aQ aR O I=>?_;refine bf λg1 G aS K P=>?_;have Y:=((al.trans X).trans O).trans K;have E:af G ak db [Γ ae]:=((E.ext X).ext O).ext K;have H:af G ao ah [Δ (j:Int)]:=(H.ext O).ext K;have I:af G ap ah [Δ pos]:=I.ext K;have P:af G g1 ah [Δ v]:=P;refine aV (λr Q=>Ext G Q/\∃e,r=Γ e/\af Q e ah [Δ o]) ?_ ?_
 .rintro _ Q ⟨B,e,rfl,C⟩;have M:=Y.trans B;rw[ax (v:=Γ ae) Ψ ((E.ext B).cell (o:=0) rfl),ax (v:=Δ o) Ψ (C.cell (o:=0) rfl),ig];refine(xt (h.ext M) (ac.ext M) ad J (Ph (h.ext M) (P.ext B) (I.ext B) (E.ext B) (H.ext B) C _)).mono ?_;rintro _ aT _ ⟨aq,rfl⟩;rw[bm,bn];exact⟨M.trans aq,rfl⟩
 intro aA Z aU p _ _;have ab:=Y.trans p;rw[ax (v:=Γ ae) Ψ ((E.ext p).cell (o:=0) rfl),ax (v:=Δ (j:Int)) Ψ ((H.ext p).cell (o:=0) rfl),ax (v:=Δ pos) Ψ ((I.ext p).cell (o:=0) rfl),dN,wrap_i64 Ω Ω];refine⟨?_,?_⟩
 .refine (kL (h.ext ab) ag).mono ?_;rintro r au _ ⟨q,av,aw,S⟩;refine⟨.inl q,?_⟩;refine qq (y:=1-pos) (i:=(1-pos).toNat) Ω an.u ah.i S.ls N λaW co ay=>?_;rw[ax (v:=Δ o) Ψ ay];refine bx ah.i λe aB aC z C=>?_;refine⟨.inl z,.inl (q.trans z),?_⟩;have z9:=((p.trans q).trans z).size;refine bl (v:=Δ o) ah.i rfl rfl C Φ λaD U aE W=>?_;have aX:=(p.trans q).size;exact Z _ _ ⟨((p.trans q).trans z).then U λr aF he=>by have he:r=e:=he;omega,e,rfl,W⟩
 .refine bx ah.i λe aB aC z C=>?_;refine⟨.inl z,?_⟩;refine(kL (h.ext (ab.trans z)) ag).mono ?_;rintro r au _ ⟨q,av,aw,S⟩;refine⟨.inl (z.trans q),?_⟩;rw[fY (y:=1-pos) (i:=(1-pos).toNat) Ω an.u ah.i Ψ S.ls N];have aY:=p.size;refine bl (v:=Δ o) ah.i rfl rfl (C.ext q) Φ λaD U aE W=>?_;exact Z _ _ ⟨((p.trans z).trans q).then U λr aF he=>by have he:r=e:=he;omega,e,rfl,W⟩
def Ed(n:aF)(s:aq)(j pos v:Int)(r:x1):Prop:=((¬∃f u x,jw s j pos v f u x)->r= .tuple #[Δ 0,Δ (-1),Δ 1])/\∀f u x,jw s j pos v f u x->(f.sc.length≠2->r= .tuple #[Δ 0,Δ (-1),Δ 1])/\
 (f.sc.length=2->∀o y,f.sc[(1-pos).toNat]?=σ o->s.vars[o.toNat]?=σ y->r= .tuple #[Δ (eK n.k (aG y) (kM n s j.toNat pos v o)).1,Δ (eK n.k (aG y) (kM n s j.toNat pos v o)).2,Δ 0])
theorem jw.same{j:Int}{f a:ca}{u u':Int}{x e:bG}(h:jw s j pos v f u x)(k:jw s j pos v a u' e):a=f/\u'=u/\e=x:=by
 have p:=h.ag;rw[k.ag]at p;cases p;have q:=h.hu;rw[k.hu]at q;cases q;have r:=h.J;rw[k.J]at r;cases r;exact⟨rfl,rfl,rfl⟩
theorem Pj{j:Int}(h:bw w ae gT A R n s t)(N:Laid w):am x7 G3 [Γ ae,Δ j,Δ pos,Δ v] w λr w'=>Ext w w'/\Ed n s j pos v r:=by
 refine az func78 ?_;refine(Eb h).mono ?_;rintro _ V _ ⟨C,e,rfl,he,G⟩;rw[bC,al];refine⟨λp=>⟨C,λ_=>by rw[he.resolve_left p],λf u x a=>absurd (G.2 ⟨f,u,x,a⟩) p⟩,λO=>?_⟩;obtain⟨f,u,x,a⟩:=G.1 (Z9.1 O);have H:=kL (h.ext C) a.ag;have Y:=a.xw;rw[show((j.toNat:Nat):Int)=j by omega]at H;refine H.mono ?_;rintro r aa _ ⟨P,Z,_,Q⟩;have q:=C.trans P;rw[aX an.u Q.ls,bC,al];refine⟨λp=>⟨q,λ_=>rfl,λS u' U E=>⟨λ_=>rfl,λz=>?_⟩⟩,λz=>?_⟩
 .obtain⟨rfl,_⟩:=a.same E;omega
 have z:f.sc.length=2:=Ω
 have ab:=(x4.1 a.hu).1;have ac:=a.ea;obtain⟨o,B⟩:=aJ (l:=f.sc) (i:=(1-pos).toNat) Ω;have I:=(h.2.2.2.1.funs f (x5 a.ag)).1;have ad:=h.2.2.2.1.vars;have af:=I.vars o (x5 B);have ah:=(I.scope.1 o (x5 B)).1;obtain⟨y,J⟩:=aJ (l:=s.vars) (i:=o.toNat) Ω;have K:=Ec (v:=v) (h.ext q) (N.ext q) a.ag ⟨a.ea,Ω⟩ z B J;rw[show((j.toNat:Nat):Int)=j by omega]at K;refine K.mono ?_;rintro _ ai _ ⟨W,rfl⟩;rw[bm,bn];refine⟨q.trans W,λX=>absurd ⟨f,u,x,a⟩ X,λS u' U E=>?_⟩;obtain⟨rfl,_⟩:=a.same E;refine⟨λp=>absurd z p,λ_ o' aj L M=>?_⟩;rw[B]at L;cases L;rw[J]at M;cases M;rfl
end
theorem Pk{x:Int}(h:aI .i64 w sv l):am x7 vi [sv,Δ x] w λv w'=>Ext w w'/\∃r:Int,v=Δ r/\(x∉l->r= -1)/\(x∈l->0<=r/\l[r.toNat]?=σ x):=by
 refine az func53 ?_;rw[aX an.u h];refine cb.range l.length (λi _ V=>Ext w V/\x∉l.take i) h.le ⟨Ext.refl _,Ξ⟩ ?_ ?_
 .rintro i _ V k hi ⟨a,e⟩ hk;refine bM Ω ?_;obtain⟨y,f⟩:=aJ (l:=l) hi;rw[bg an.u ah.i Ψ (h.ext a) f,be,al];refine⟨λhe=>⟨a,i,rfl,λhm=>absurd (he▸x5 f) hm,λ_=>⟨Ω,by rw[he,u7];exact f⟩⟩,λhe=>?_⟩;rw[aN];refine hk _ _ ⟨a,λhm=>?_⟩;rw[u9,f]at hm;rcases o5.1 hm with hm|hm
  .exact e hm
  .simp at hm;exact he hm
 .rintro _ V k ⟨a,e⟩;rw[o7]at e;rw[aR,al];exact⟨λh=>Ω,λ_=>⟨a,-1,rfl,λ_=>rfl,λh=>absurd h e⟩⟩
theorem Pl{x:Int}(h:aI .i64 w sv l):am x7 Gp [sv,Δ x] w λv w'=>v= .bool (decide (x∈l))/\Ext w w':=by
 refine az func16 ?_;refine(Pk h).mono ?_;rintro _ V _ ⟨J,r,rfl,a,e⟩;rw[cM];refine⟨?_,J⟩;congr 1;refine decide_eq_decide.2 ⟨λp=>?_,λhm=>(e hm).1⟩;exact Z9.1 λf=>by have:=a f;omega
theorem Pm{cap:Array x1}{p:Int->Bool}(h:aI .i64 w sv l)(s:∀w' x,Ext w w'->x∈l->am x7 eo (Δ x::cap.toList) w' λr z=>r= .bool (p x)/\Ext w' z):
  am x7 vm [sv,.func (.func eo) #[] cap] w λv w'=>Ext w w'/\((v=Δ (-1)/\∀x∈l,p x=false)\/∃i:Nat,v=Δ (i:Int)/\i<l.length/\(∀x∈l.take i,p x=false)/\∀x,l[i]?=σ x->p x=true):=by
 refine az func133 ?_;rw[aX an.u h];refine cb.range l.length (λi _ V=>Ext w V/\∀x∈l.take i,p x=false) h.le ⟨Ext.refl _,Ξ⟩ ?_ ?_
 .rintro i _ V k hi ⟨a,e⟩ hk;refine bM Ω ?_;obtain⟨y,f⟩:=aJ (l:=l) hi;rw[bg an.u ah.i Ψ (h.ext a) f];refine am.mono (s V y a (x5 f)) ?_;rintro _ aa _ ⟨rfl,q⟩;rw[b2];refine⟨λA=>⟨a.trans q,.inr ⟨i,rfl,hi,e,λx J=>by rw[f]at J;cases J;exact A⟩⟩,λag=>?_⟩;rw[aN];refine hk _ _ ⟨a.trans q,λx J=>?_⟩;rw[u9,f]at J;rcases o5.1 J with J|J
  .exact e x J
  .simp at J;subst J;exact ag
 .rintro _ V k ⟨a,e⟩;rw[o7]at e;rw[aR,al];exact⟨λh=>Ω,λ_=>⟨a,.inl ⟨rfl,e⟩⟩⟩
theorem Ee{g:Nat}{cap:Array x1}{p:Int->Bool}(h:av .i64 e w g sv l)(aH:l.length<=100000000)(Q:∀w' x,ai (λr=>leads sv r) w w'->x∈l->am x7 eo (Δ x::cap.toList) w' λr Y=>r= .bool (p x)/\Ext w' Y):
  am x7 GQ [sv,.func (.func eo) #[] cap] w λv w'=>ai (λr=>leads sv r) w w'/\av .i64 e w' g v (l.filter λx=>!p x)/\∀r,leads v r->leads sv r:=by
 refine az func62 ?_;refine(Pm h.ls λw' x J=>Q w' x (J.ab _)).mono ?_;rintro _ V _ ⟨B,⟨rfl,K⟩|⟨i,rfl,hi,K,Z⟩⟩
 .rw[be,al];refine⟨λ_=>⟨B.ab _,?_⟩,λh=>absurd rfl h⟩;rw[List.filter_eq_self.2 λx J=>by rw[K x J];rfl];exact⟨h.ext B,λ_ h=>h⟩
 rw[be,al];refine⟨λh=>Ω,λ_=>?_⟩;rw[aN,wrap_i64 Ω Ω];obtain⟨n,L⟩:∃n,l.length=n:=⟨_,rfl⟩;obtain⟨s,rfl⟩:∃s,sv= .slice (σ ⟨g,0,ν⟩) n s:=by
  obtain⟨_,⟨_,h1⟩|⟨s,cs,h1,_⟩⟩:=id h
  .omega
  .exact⟨s,by rw[h1,L]⟩
 obtain⟨_,_,_,_,aI,aa,_⟩:=qZ h Ω;have R:∀r,r=g->leads (.slice (σ ⟨g,0,ν⟩) n s) r:=λr M=>⟨_,_,_,rfl,M.symm⟩;have ac:(l.take (i+1)).filter (λx=>!p x)=l.take i:=by
  obtain⟨y,z⟩:=aJ (l:=l) hi;rw[u9,z,List.filter_append,List.filter_eq_self.2 λx J=>by rw[K x J];rfl];simp[Z y z]
 refine⟨λN O C=>∃(q j:Nat)(f:Λ),N=Δ (q:Int)/\O=Δ (j:Int)/\q<j/\j<=n/\ai (λr=>r=g) w C/\av .i64 e C g (.slice (σ ⟨g,0,ν⟩) n s) f/\f.length=n/\f.take q=(l.take j).filter (λx=>!p x)/\∀k,j<=k->f[k]?=l[k]?,
  λ_ O _=>n-(bS O).toNat,⟨i,i+1,l,rfl,rfl,Ω,Ω,B.ab _,h.ext B,L,ac.symm,λ_ _=>rfl⟩,?_⟩
 rintro _ _ C ⟨q,j,f,rfl,rfl,aK,aL,E,G,S,A,P⟩;have aM:q=((l.take j).filter λx=>!p x).length:=by rw[<-A,n9];omega
 rw[hs an.u,aR,al];refine⟨λad=>?_,λaO=>?_⟩
 .have ad:j<n:=Ω
  obtain⟨y,z⟩:=aJ (l:=l) (i:=j) Ω;have ae:f[j]?=σ y:=by rw[P j (o4 _),z]
  refine aV (λN H=>∃(q:Nat)(f:Λ),N=Δ (q:Int)/\q<j+1/\ai (λr=>r=g) w H/\av .i64 e H g (.slice (σ ⟨g,0,ν⟩) n s) f/\f.length=n/\f.take q=(l.take (j+1)).filter (λx=>!p x)/\∀k,j+1<=k->f[k]?=l[k]?) ?_ ?_
  .rintro _ H ⟨q,f,rfl,h1,af,aj,ak,ao,ap⟩;rw[aN,wrap_i64 Ω Ω];exact⟨⟨q,j+1,f,rfl,rfl,h1,Ω,af,aj,ak,ao,ap⟩,by simp only[bS];omega⟩
  intro aA U;rw[bg an.u ah.i Ψ G.ls ae];refine am.mono (Q C y (E.mono λr _=>R r) (x5 z)) ?_;rintro _ H _ ⟨rfl,I⟩;have W:(l.take (j+1)).filter (λx=>!p x)=(l.take j).filter (λx=>!p x)++[y].filter (λx=>!p x):=by rw[u9,z,List.filter_append];rfl
  rw[bH,b2];refine⟨λaq=>?_,λag=>?_⟩
  .have X:=G.ext I;rw[hy rfl an.u ah.i X Ω];refine hz ah.i X Ω λaP au aQ aw=>?_;rw[aN,wrap_i64 Ω Ω];refine U _ _ ⟨q+1,_,rfl,Ω,(E.trans (I.ab _)).trans au,aw,by simpa using S,?_,λk hk=>?_⟩
   .rw[W,u9,b8 Ω,List.take_set_of_le (o4 _),A];simp only[j5];rw[show[y].filter (λx=>!p x)=[y] by simpa using aq]
   .rw[Y2 Ω];exact P k Ω
  .refine U _ _ ⟨q,f,rfl,Ω,E.trans (I.ab _),G.ext I,S,?_,λk hk=>P k Ω⟩;rw[W,show[y].filter (λx=>!p x)=[] by simpa using ag,W8];exact A
 .have ax:j=n:=Ω
  subst ax;rw[<-L,o7]at A;obtain⟨_,_,cs,ay,_,_,aS,aB⟩:=qZ G Ω;simp only[maxLen]at aa;rw[gV an.u ah.i (l:=q) (h:=j) (m:=s) oY jj e9 Ω Ω Ω,if_neg Ω];have aC:V5 (λx:Addr=>x.add (q*1)) (σ ⟨g,0,ν⟩)=σ ⟨g,q,ν⟩:=by simp[U7]
  rw[aC];refine Ay an.u ah.i rfl rfl ay Ω Ω λaT aD aU aE=>?_;rw[gV an.u ah.i (l:=0) (h:=q) (m:=s) ji oZ e9 Ω Ω Ω,if_neg Ω];have aF:V5 (λx:Addr=>x.add (0*1)) (σ ⟨g,0,ν⟩)=σ ⟨g,0,ν⟩:=by simp[U7]
  rw[aF];refine⟨(E.trans aD).mono λr _=>R r,?_⟩;have aW:(l.filter λx=>!p x).length=q:=by rw[<-A,n9];omega
  rw[<-A,Nat.sub_zero];refine⟨?_,λr M=>by obtain⟨a,_,_,e,aG⟩:=M;cases e;exact⟨_,_,_,rfl,aG⟩⟩;refine av.of (n:=q) ⟨Θ,.inr ⟨s,_,Ξ,aE,Ω,by simp only[maxLen];omega,by rw[k4];omega,?_⟩⟩;rw[U1];apply Y3;intro k;by_cases hk:k<q
  .rw[Z7 hk,mE _ _ _ Θ,if_neg Ω,ints,x8,Z7 hk];have:(cs.take j)[k]?=(ints .i64 f)[k]?:=by rw[aB]
   rw[Z7 Ω,ints,x8]at this;exact this
  .rw[Z2 Θ,Z2 Θ]
def mh(s:aq)(i:Int)(j:Nat):Bool:=match s.funs[j]? with
 |some f=>decide (f.live≠0)&&decide (i∈f.sc)
 |none=>false
def iz(s:aq)(i:Int)(m:Nat):Λ:=((X0 m).filter (mh s i)).map λj:Nat=>(j:Int)
theorem Pn{gT:Nat}{A R:aj}{n:aF}{s:aq}{t:aC}{i:Int}(h:bw w ae gT A R n s t):am x7 HR [Γ ae,Δ i] w λv w'=>Ext w w'/\∃g,av .i64 ah w' g v (iz s i s.funs.length)/\∀r,leads v r->w.heap.size<=r:=by
 have aB:=pG h.2.1 h.2.2.1;have aD:s.funs.length<=100000000:=by
  have h1:=q8 s;have O:∀(L:List ca),L.length<=(L.flatMap fp).length:=λL=>by
   induction L with
   |nil=>exact o4 _
   |cons a L aE=>rw[X7,r9,c8];have:(fp a).length=a.cs.length+1:=rfl;omega
  have aG:=O s.funs;omega
 refine az func154 ?_;refine(rj h).mono ?_;rintro _ V _ ⟨rfl,P⟩;refine cb.range s.funs.length (λj out aa=>Ext w aa/\∃g,av .i64 ah aa g out (iz s i j)/\∀r,leads out r->w.heap.size<=r) Ω ⟨P,0,av.nil _ _ _ _,λr E=>by obtain⟨a,n,c,Q,aH⟩:=E;cases Q⟩ ?_ ?_
 .rintro j out aa S U ⟨q,g,hm,B⟩ W;obtain⟨f,ag⟩:=aJ (l:=s.funs) U;have I:iz s i (j+1)=if mh s i j=true then iz s i j++[(j:Int)]else iz s i j:=by
   unfold iz;rw[List.range_succ,List.filter_append];cases X:mh s i j<;>simp[X]
  refine bM Ω ?_;refine aV (λout z=>Ext w z/\∃g,av .i64 ah z g out (iz s i (j+1))/\∀r,leads out r->w.heap.size<=r) ?_ ?_
  .rintro out z Y;rw[aN];exact W _ _ Y
  intro aA J;refine aV (λr z=>r= .bool (mh s i j)/\Ext aa z) ?_ ?_
  .rintro _ z ⟨rfl,e⟩;rw[b2];refine⟨λZ=>?_,λag=>J _ _ ⟨q.trans e,g,by rw[I,if_neg (by rw[ag];decide)];exact hm.ext e,B⟩⟩;refine et (k:=.i64) an.u ah.i rfl λv4 aI ab aK C ac=>?_;have aM:(iz s i j).length<=j:=by unfold iz;rw[r8];have:=R3 (mh s i) (X0 j);rw[List.length_range]at this;exact this
   refine hJ an.u ah.i rfl ((hm.ext e).ext C) ac.ls Θ Θ λv5 ad af ai ak ao=>?_;have z3:=q.size;have ap:Ext w af:=((q.trans e).trans C).then ao λr E he=>by have:=B r he;omega
   have z4:=((q.trans e).trans C).size;exact J _ _ ⟨ap,ad,by rw[I,if_pos Z];exact ai,λr E=>(ak r E).elim (B r) λh=>Ω⟩
  intro aO K;refine(rk (j:=(j:Int)) (h.ext q)).mono ?_;rintro _ z _ ⟨rfl,e⟩;rw[decide_eq_true Ω,T5,u7];have au:e7 s j=decide (f.live≠0):=by unfold e7;rw[ag]
  rw[au,al];refine⟨λG=>?_,λG=>K _ _ ⟨by unfold mh;rw[ag];simp only;rw[decide_eq_false G];rfl,e⟩⟩;obtain⟨aP,aQ,aT,aW,aY,aX,L,aZ,aw,a1,a2,a6,M,H⟩:=(h.ext (q.trans e)).1.parts;obtain⟨y,N⟩:∃y,L[j]?=σ y:=⟨_,x6 (by rw[H.1];omega)⟩;obtain⟨ay,_,_⟩:=H.2 j y f N ag;rw[aS cG.p 3 aw rfl,dr rfl fE.u ff.i M (by rw[H.1];omega),aU ff.p rfl,ax (v:=y.aL) Ψ (M.range N 0 _ rfl)];refine(Pl (x:=i) ay.ls).mono ?_;rintro _ ab _ ⟨rfl,C⟩;exact K _ _ ⟨by unfold mh;rw[ag];simp only;rw[decide_eq_true G,T5],e.trans C⟩
 .rintro out aa S ⟨q,g,hm,B⟩;rw[aR,al];exact⟨λh=>Ω,λ_=>⟨q,g,hm,B⟩⟩
def rn(s:aq)(j:Int):Bool:=match s.funs[j.toNat]? with
 |some f=>decide (f.sc.length=2)
 |none=>false
def kN(s:aq)(i:Int):Λ:=(iz s i s.funs.length).filter (rn s)
def j8(n:aF)(s:aq)(i v j:Int):Int:=match s.funs[j.toNat]? with
 |some f=>match f.sc[(1-gM f.sc i).toNat]? with
  |some o=>match s.vars[o.toNat]? with
   |some x=>(eK n.k (aG x) (kM n s j.toNat (gM f.sc i) v o)).1
   |none=>0
  |none=>0
 |none=>0
def tX(n:aF)(s:aq)(i v:Int):Int:=(kN s i).foldl (λc j=>min (c+j8 n s i v j) n.k) (eV n s i v)
theorem xx{of:Int->Int}(hk:0<=k)(h:∀v∈l,0<=of v/\of v<=k):0<=(eK k l of).1/\(eK k l of).1<=k:=by
 unfold eK;have:∀(l:Λ)(p:Int×Int),(0<=p.1/\p.1<=k)->(∀v∈l,0<=of v/\of v<=k)->0<=(l.foldl (gD of) p).1/\(l.foldl (gD of) p).1<=k:=λl=>by
  induction l with
  |nil=>exact λp a _=>a
  |cons v l f=>
   intro p a e;refine f _ ?_ λu hu=>e u (.tail _ hu);unfold gD;split
   .exact e v (.head _)
   .exact a
 exact this l (k,-1) ⟨hk,Int.le_refl _⟩ h
theorem Ef{n:aF}{s:aq}{o u:Int}(a:br n.k n.sizes s):0<=kM n s j pos v o u/\kM n s j pos v o u<=n.k:=by
 have h1:=D8 (j:=j) (tl:=if pos=1 then[u,v]else[v,u]) a;have e:=pK (i:=o) (v:=u) a;have hk:=a.ew;unfold kM;omega
theorem Po{n:aF}{s:aq}{i j:Int}(p:br n.k n.sizes s)(h:j∈kN s i):0<=j/\∃f,s.funs[j.toNat]?=σ f/\f.live≠0/\i∈f.sc/\f.sc.length=2:=by
 unfold kN iz at h;obtain⟨h1,e⟩:=T3.1 h;obtain⟨q,a,rfl⟩:=j4.1 h1;obtain⟨_,a⟩:=T3.1 a;unfold mh at a;unfold rn at e;rw[u7]at e;cases ag:s.funs[q]? with
 |none=>rw[ag]at a;cases a
 |some f=>
  rw[ag]at a e;simp only[V7,decide_eq_true_eq]at a e;exact⟨Ω,f,by rw[u7];exact ag,a.1,a.2,e⟩
section
variable{w:x3}{ae gT:Nat}{A R:aj}{n:aF}{s:aq}{t:aC}
theorem Pp{i:Int}(a:br n.k n.sizes s)(m:Nat):0<=((kN s i).take m).foldl (λc j=>min (c+j8 n s i v j) n.k) (eV n s i v)/\((kN s i).take m).foldl (λc j=>min (c+j8 n s i v j) n.k) (eV n s i v)<=n.k:=by
 have hk:=a.ew;have e:∀j,0<=j8 n s i v j/\j8 n s i v j<=n.k:=λj=>by
  unfold j8;split
  .split
   .split
    .exact xx Ω λu _=>Ef a
    .omega
   .omega
  .omega
 have:∀(l:Λ)(c:Int),(0<=c/\c<=n.k)->0<=l.foldl (λc j=>min (c+j8 n s i v j) n.k) c/\l.foldl (λc j=>min (c+j8 n s i v j) n.k) c<=n.k:=λl=>by
  induction l with
  |nil=>exact λc h=>h
  |cons j l f=>exact λc h=>f (min (c+j8 n s i v j) n.k) (by have:=e j;omega)
 exact this _ _ (pK a)
theorem Pq{i:Int}{O P Q aq:Nat}{E:x1}{cap:Array x1}(h:bw w ae gT A R n s t)(au:Laid w)(h1:af w g1 oS [.func (.func eo) #[] cap])(aw:∀l,pJ w eo cap l (eV n s i))(ay:af w O an [E])(S:av .i64 ah w aq E (kN s i))(G:af w P db [Γ ae])(aA:af w Q ah [Δ i])(l:Λ):
  pJ w HS #[Γ g1,Γ O,Γ P,Γ Q] l (tX n s i):=λw' v H ad=>by
 refine az func156 ?_;rw[ax (v:=.func (.func eo) #[] cap) Ψ ((h1.ext H).cell (o:=0) rfl)];refine am.mono (aw [v] w' v H (.head _)) ?_;rintro _ V _ ⟨rfl,U⟩;have I:=H.trans U;have J:=S.ext I;obtain⟨_,_,_,aK⟩:=c5 J.ls;rw[ax (v:=E) Ψ ((ay.ext I).cell (o:=0) rfl),aX an.u J.ls];have a:=h.2.2.2.1;refine cb.range (kN s i).length (λq a6 aa=>Ext V aa/\a6=Δ (((kN s i).take q).foldl (λc j=>min (c+j8 n s i v j) n.k) (eV n s i v))) J.ls.le ⟨Ext.refl _,rfl⟩ ?_ ?_
 .rintro q _ aa aB aC ⟨z,rfl⟩ aD;obtain⟨j,K⟩:=aJ (l:=(kN s i)) aC;obtain⟨aL,f,ag,aM,aE,aF⟩:=Po a (x5 K);have L:=(a.funs f (x5 ag)).1;have W:gL f.sc:=wM L.up;obtain⟨p,X⟩:=X3.1 aE;have aO:=(x4.1 X).1;have Y:=wH W X;obtain⟨o,B⟩:=aJ (l:=f.sc) (i:=(1-(p:Int)).toNat) Ω;have aP:=a.vars;have aQ:=L.vars o (x5 B);have aS:=(L.scope.1 o (x5 B)).1;obtain⟨y,Z⟩:=aJ (l:=s.vars) (i:=o.toNat) Ω;have ab:=I.trans z;refine bM Ω ?_;rw[bg an.u ah.i Ψ (S.ext ab).ls K];intro aT ac _ _;have e:=ab.trans ac;rw[ax (v:=Γ ae) Ψ ((G.ext e).cell (o:=0) rfl),ax (v:=Γ ae) Ψ ((G.ext e).cell (o:=0) rfl),ax (v:=Δ i) Ψ ((aA.ext e).cell (o:=0) rfl)];have ai:=kL (h.ext e) ag;rw[show((j.toNat:Nat):Int)=j by omega]at ai;refine ai.mono ?_;rintro r aU _ ⟨C,aV,_,aH⟩;refine⟨.inl C,?_⟩;refine(tw (x:=i) aH.ls W).mono ?_;rintro _ aW _ ⟨rfl,M⟩;refine⟨.inl (C.trans M),?_⟩;rw[Y];have N:=(e.trans C).trans M;have aj:=Ec (v:=v) (pos:=(p:Int)) (h.ext N) (au.ext N) ag ⟨Ω,Ω⟩ aF B Z;rw[show((j.toNat:Nat):Int)=j by omega]at aj;refine aj.mono ?_;rintro _ aY _ ⟨ak,rfl⟩;have ao:=N.trans ak;have ap:j8 n s i v j=(eK n.k (aG y) (kM n s j.toNat (p:Int) v o)).1:=by
   unfold j8;rw[ag];simp only;rw[Y,B];simp only;rw[Z]
  rw[bm,bn,ax (v:=Γ ae) Ψ ((G.ext ao).cell (o:=0) rfl),<-ap];refine(D4 (h.ext ao) (Pp a q) (by rw[ap];exact xx (by have:=a.ew;omega) λu _=>Ef a)).mono ?_;rintro _ aZ _ ⟨rfl,aI⟩;rw[aN];refine aD _ _ ⟨((((z.trans ac).trans C).trans M).trans ak).trans aI,?_⟩;rw[u9,K,j5,List.foldl_append];rfl
 .rintro _ aa aB ⟨z,rfl⟩;rw[aR,al];refine⟨λh=>Ω,λ_=>⟨?_,U.trans z⟩⟩;rw[o7];rfl
theorem Pr{i:Int}(h:bw w ae gT A R n s t)(ac:Laid w):am x7 G0 [Γ ae,Δ i] w λr w'=>Ext w w'/\(hh n s i=false->r= .tuple #[Δ 0,Δ (-1),Δ 1])/\
  ∀x,hh n s i=true->s.vars[i.toNat]?=σ x->r= .tuple #[Δ (eK n.k (aG x) (tX n s i)).1,Δ (eK n.k (aG x) (tX n s i)).2,Δ 0]:=by
 refine az func74 ?_;refine bf λaH V bh aI z=>?_;refine bf λaJ aa bi aj B=>?_;have z:af aa aH db [Γ ae]:=z.ext aj;have B:af aa aJ ah [Δ i]:=B;have Q:=aI.trans aj;rw[ax (v:=Γ ae) Ψ (z.cell (o:=0) rfl),ax (v:=Δ i) Ψ (B.cell (o:=0) rfl)];refine(D5 (h.ext Q)).mono ?_;rintro _ aK _ ⟨rfl,C⟩;have S:=Q.trans C;cases ad:hh n s i with
 |false=>
  rw[if_neg Φ,bC,al];exact⟨λ_=>⟨S,λ_=>rfl,λ_ h=>by cases h⟩,λh=>absurd Φ h⟩
 |true=>
  obtain⟨aL,x,ak,_⟩:=xv h.2.2.2.1 ad;rw[if_pos rfl,bC,al];refine⟨λh=>absurd rfl h,λ_=>?_⟩;rw[ax (v:=Γ ae) Ψ ((z.ext C).cell (o:=0) rfl),ax (v:=Δ i) Ψ ((B.ext C).cell (o:=0) rfl)];refine(Pn (i:=i) (h.ext S)).mono ?_;rintro ao U _ ⟨K,bj,aM,ap⟩;have aq:=S.trans K;rw[ig];have au:=(z.ext C).ext K;have aN:=(B.ext C).ext K;have bk:=Q.size;have z3:=C.size;have z4:=K.size;have aO:(iz s i s.funs.length).length<=100000000:=by
   have h1:=(h.ext aq).2.2.1.1;have W:=q8 s;have bo:t.cells.length=s.cells.length:=by have:=congrArg S3 h.2.1;unfold aC.bT at this;rw[r8]at this;exact this
   have aP:∀(L:List ca),L.length<=(L.flatMap fp).length:=λL=>by
    induction L with
    |nil=>exact o4 _
    |cons a L bp=>rw[X7,r9,c8];have:(fp a).length=a.cs.length+1:=rfl;omega
   have bq:=aP s.funs;unfold iz;rw[r8];have:=R3 (mh s i) (X0 s.funs.length);rw[List.length_range]at this;omega
  have low:∀{G:x3},ai (λr=>leads ao r) U G->Ext w G:=λE=>aq.then E λr br he=>by have:=ap r he;omega
  have X:∀{G:x3}{g:Nat}{e:p9}{cs:List x1},g<aK.heap.size->af U g e cs->ai (λr=>leads ao r) U G->af G g e cs:=λbt aQ E=>aQ.ab E λhe=>by have:=ap _ he;omega
  have bu:=z.lt;have bz:=B.lt;refine(Ee (p:=λj=>!rn s j) aM aO λw' j E M=>?_).mono ?_
  .have M:0<=j/\∃f,s.funs[j.toNat]?=σ f:=by
    unfold iz at M;obtain⟨q,H,rfl⟩:=j4.1 M;obtain⟨H,_⟩:=T3.1 H;have H:=T6.1 H;exact⟨Ω,_,x6 (by rw[u7];exact H)⟩
   obtain⟨bA,f,ag⟩:=M;refine az func155 ?_;have aR:=low E;rw[ax (v:=Γ ae) Ψ ((X Ω au E).cell (o:=0) rfl)];have av:=kL (h.ext aR) ag;rw[show((j.toNat:Nat):Int)=j by omega]at av;refine av.mono ?_;rintro r aw _ ⟨aS,bB,_,I⟩;rw[aX an.u I.ls,bC];refine⟨?_,aS⟩;unfold rn;rw[ag];simp only;congr 1;by_cases W:f.sc.length=2
   .rw[decide_eq_true W,decide_eq_false Ω];rfl
   .rw[decide_eq_false W,decide_eq_true Ω];rfl
  rintro aT aw _ ⟨N,I,_⟩;have aU:(iz s i s.funs.length).filter (λj=>!!rn s j)=kN s i:=by unfold kN;congr 1;funext j;rw[Bool.not_not]
  rw[aU]at I;have aV:=low N;have aW:=X Ω au N;have aY:=X Ω aN N;refine bx an.i λbD bE bF ay aZ=>?_;obtain⟨_,_,_,aA⟩:=c5 I.ls;have z5:=N.size;have bG:=ay.size;refine bl (v:=aT) an.i (by rw[aA];rfl) (by rw[aA];rfl) aZ Φ λa1 a2 bH a6=>?_;have O:Ext aw a1:=ay.put a2 Ω;have aB:=aV.trans O;have Y:=aW.ext O;have Z:=aY.ext O;rw[ax (v:=Γ ae) Ψ (Y.cell (o:=0) rfl),ax (v:=Δ i) Ψ (Z.cell (o:=0) rfl)];refine(Ea (i:=i) (h.ext aB)).mono ?_;rintro _ a7 _ ⟨aD,cap,rfl,a8⟩;refine bx oS.i λgo bI bJ ba bb=>?_;have bK:=aD.size;refine bl (v:=.func (.func sj) #[] cap) oS.i rfl rfl bb Φ λaE bc bL bd=>?_;have aF:Ext a7 aE:=ba.put bc Ω;have y:=aD.trans aF;have J:=aB.trans y;rw[ax (v:=Γ ae) Ψ ((Y.ext y).cell (o:=0) rfl),ax (v:=Δ i) Ψ ((Z.ext y).cell (o:=0) rfl),ig];have be:∀l,pJ aE sj cap l (eV n s i):=λl w' v P ad=>a8 l w' v (aF.trans P) ad;refine(xt (h.ext J) (ac.ext J) aL ak (Pq (h.ext J) (ac.ext J) bd be (a6.ext y) (I.ext (O.trans y)) (Y.ext y) (Z.ext y) _)).mono ?_;rintro _ bM _ ⟨bg,rfl⟩;rw[bm,bn];exact⟨J.trans bg,(λh=>by cases h),λbN _ P=>by rw[ak]at P;cases P;rfl⟩
end
def bk(s:aq)(i:Int):Λ:=match s.vars[i.toNat]? with
 |some x=>aG x
 |none=>[]
def fu(s:aq)(sc:Λ)(pos:Int):Nat->Nat->Λ->List (Λ)
 |0,_,tl=>[tl]
 |m+1,p,tl=>if(p:Int)=pos then fu s sc pos m (p+1) tl else(bk s (sc.getD p 0)).flatMap λv=>fu s sc pos m (p+1) (tl.set p v)
def pL(p:Nat)(pos:Int)(a b:Λ):Prop:=a.length=b.length/\∀q:Nat,q<p\/(q:Int)=pos->a[q]?=b[q]?
theorem pL.set{p:Nat}{a b:Λ}(h:pL p pos a b)(f:(p:Int)≠pos)(v:Int):pL (p+1) pos (a.set p v) (b.set p v):=by
 refine⟨by rw[c9,c9,h.1],λq r=>?_⟩;rw[Y9,Y9,h.1];by_cases e:p=q
 .rw[if_pos e,if_pos e]
 .rw[if_neg e,if_neg e];exact h.2 q Ω
theorem xy{s:aq}{sc:Λ}{pos:Int}:∀(m p:Nat)(a b:Λ),a.length=p+m->pL p pos a b->fu s sc pos m p a=fu s sc pos m p b
 |0,p,a,b,r,h=>by
  unfold fu;congr 1;refine Y3 λq=>?_;by_cases e:q<p
  .exact h.2 q (.inl e)
  .rw[Z2 Ω,Z2 (by have:=h.1;omega)]
 |m+1,p,a,b,r,h=>by
  unfold fu;split
  .rename_i f;refine xy m (p+1) a b Ω ⟨h.1,λq e=>h.2 q ?_⟩;omega
  .rename_i f;congr 1;funext v;exact xy m (p+1) _ _ (by rw[c9];omega) (h.set f v)
section
variable{ae gT:Nat}{A R:aj}{n:aF}{s:aq}{t:aC}
theorem Ps{aL aK:x1}{cap:Array x1}{M:aj}{I:List (Λ)->x3->Prop}(bA:br n.k n.sizes s)(bB:∀u∈sc,0<=u/\u<n.sizes.length)(b4:sc.length<=6)(a1:∃c,aK= .slice (σ ⟨gt,0,ν⟩) sc.length c)(bC:M gt)(aF:∀d w,I d w->bw w ae gT A R n s t/\Laid w/\aI .i64 w aL sc/\∀r,M r->r<w.heap.size)(J:∀d w w',Ext w w'->I d w->I d w')(bD:∀d w w',ai (λr=>r=gt) w w'->I d w->I d w')(bE:∀d tl w,I d w->av .i64 ah w gt aK tl->tl.length=sc.length->am x7 eo cap.toList w λ_ w'=>I (d++[tl]) w'/\av .i64 ah w' gt aK tl/\ai M w w'):
  ∀(m p:Nat)(tl:Λ)(d:List (Λ))(w:x3),sc.length=p+m->tl.length=sc.length->I d w->av .i64 ah w gt aK tl->
   am x7 HW [Γ ae,aL,aK,Δ (p:Int),Δ pos,.func (.func eo) #[] cap] w λ_ w'=>∃Y,pL p pos Y tl/\I (d++fu s sc pos m p tl) w'/\av .i64 ah w' gt aK Y/\ai M w w':=by
 intro m;induction m with
 |zero=>
  intro p tl d w bF aH Z hm;obtain⟨a2,a6,U,a7⟩:=aF d w Z;obtain⟨_,_,_,aM⟩:=c5 U;obtain⟨c,a8⟩:=id a1;refine hr func161 ?_;refine bf λg1 V bG aA ag=>?_;refine bf λap aa bH aq f=>?_;refine bf λaB bI bJ P Q=>?_;refine bf λaO bK bL L y=>?_;refine bf λba bM bN E ak=>?_;refine bf λaP a bO z N=>?_;have B:=((((aA.trans aq).trans P).trans L).trans E).trans z;have f:af a ap an [aL]:=by rw[aM]at f ⊢;exact(((f.ext P).ext L).ext E).ext z
  have y:af a aO ah [Δ (p:Int)]:=(y.ext E).ext z;have N:af a aP zQ [.func (.func eo) #[] cap]:=N;rw[ax (v:=Δ (p:Int)) Ψ (y.cell (o:=0) rfl),ax (v:=aL) Ψ (f.cell (o:=0) rfl),aX an.u (U.ext B),be,al];refine⟨λ_=>?_,λh=>absurd Ω h⟩;rw[ax (v:=.func (.func eo) #[] cap) Ψ (N.cell (o:=0) rfl)];refine am.mono (bE d tl a (J d w a B Z) (hm.ext B) aH) ?_;rintro _ bb _ ⟨h1,C,S⟩;intro bc G _;exact⟨tl,⟨rfl,λ_ _=>rfl⟩,J _ _ _ G h1,C.ext G,((B.ab M).trans S).trans (G.ab M)⟩
 |succ m bd=>
  intro p tl d w bF aH Z hm;obtain⟨a2,a6,U,a7⟩:=aF d w Z;obtain⟨_,_,_,aM⟩:=c5 U;obtain⟨c,a8⟩:=id a1;refine hr func161 ?_;refine bf λg1 V bG aA ag=>?_;refine bf λap aa bH aq f=>?_;refine bf λaB bI bJ P Q=>?_;refine bf λaO bK bL L y=>?_;refine bf λba bM bN E ak=>?_;refine bf λaP a bO z N=>?_;have B:=((((aA.trans aq).trans P).trans L).trans E).trans z;have ag:af a g1 db [Γ ae]:=((((ag.ext aq).ext P).ext L).ext E).ext z;have f:af a ap an [aL]:=by rw[aM]at f ⊢;exact(((f.ext P).ext L).ext E).ext z
  have Q:af a aB an [aK]:=by rw[a8]at Q ⊢;exact((Q.ext L).ext E).ext z
  have y:af a aO ah [Δ (p:Int)]:=(y.ext E).ext z;have ak:af a ba ah [Δ pos]:=ak.ext z;have N:af a aP zQ [.func (.func eo) #[] cap]:=N;have aC:∀{O:x3}{K:x1->Prop},af O ap an [aL]->K aL->ac x7 (u5 an (Γ ap)) O K:=λau aQ=>by rw[ax (v:=aL) Ψ (au.cell (o:=0) rfl)];exact aQ
  have aR:∀{O:x3}{K:x1->Prop},af O aB an [aK]->K aK->ac x7 (u5 an (Γ aB)) O K:=λau aQ=>by rw[ax (v:=aK) Ψ (au.cell (o:=0) rfl)];exact aQ
  rw[ax (v:=Δ (p:Int)) Ψ (y.cell (o:=0) rfl)];refine aC f ?_;rw[aX an.u (U.ext B),be,al];refine⟨λh=>Ω,λ_=>?_⟩;rw[ax (v:=Δ (p:Int)) Ψ (y.cell (o:=0) rfl),ax (v:=Δ pos) Ψ (ak.cell (o:=0) rfl),be,al];refine⟨λhe=>?_,λbh=>?_⟩
  .rw[ax (v:=Γ ae) Ψ (ag.cell (o:=0) rfl)];refine aC f (aR Q ?_);rw[ax (v:=Δ (p:Int)) Ψ (y.cell (o:=0) rfl),aN,wrap_i64 Ω Ω,ax (v:=Δ pos) Ψ (ak.cell (o:=0) rfl),ax (v:=.func (.func eo) #[] cap) Ψ (N.cell (o:=0) rfl)];refine(bd (p+1) tl d a Ω aH (J d w a B Z) (hm.ext B)).mono ?_;rintro _ bb _ ⟨Y,h1,C,S,aw⟩;intro bc G _;refine⟨Y,⟨h1.1,λq bi=>h1.2 q Ω⟩,?_,S.ext G,((B.ab M).trans aw).trans (G.ab M)⟩;have:fu s sc pos (m+1) p tl=fu s sc pos m (p+1) tl:=by rw[fu,if_pos he]
   rw[this];exact J _ _ _ G C
  intro bb ao _ _;have bj:=B.trans ao;obtain⟨u,hu⟩:=aJ (l:=sc) (i:=p) Ω;obtain⟨bP,b5⟩:=bB u (x5 hu);have b7:=bA.vars;obtain⟨x,bl⟩:=aJ (l:=s.vars) (i:=u.toNat) Ω;have bQ:bk s (sc.getD p 0)=aG x:=by unfold bk;rw[u4,hu,V2,bl]
  rw[ax (v:=Γ ae) Ψ ((ag.ext ao).cell (o:=0) rfl)];refine aC (f.ext ao) ?_;rw[ax (v:=Δ (p:Int)) Ψ ((y.ext ao).cell (o:=0) rfl),bg an.u ah.i Ψ (U.ext bj) hu];refine(jv (i:=u) (a2.ext bj)).mono ?_;rintro _ bc _ ⟨⟨b,bR,rfl,bm⟩,G⟩;refine(mO (b:=b) (n:=bR)).mono ?_;rintro _ ay _ ⟨bS,aY,rfl,b8,bn⟩;have bo:=mg bm bP bl;have aS:=(ao.trans G).trans bS;have aD:=B.trans aS;have b9:=aA.size;have ca:=aq.size;have z3:=P.size;have z4:=L.size;have z5:=E.size;have cb:=z.size;have cc:=aS.size;have cd:=(ao.trans G).size;have out:∀{r:Nat},w.heap.size<=r->¬M r:=λh1 C=>by have:=a7 _ C;omega
  have bT:∀j v,(aG x)[j]?=σ v->((aG x).take (j+1)).flatMap (λv=>fu s sc pos m (p+1) (tl.set p v))=((aG x).take j).flatMap (λv=>fu s sc pos m (p+1) (tl.set p v))++fu s sc pos m (p+1) (tl.set p v):=λj v bp=>by
   rw[u9,bp,j5,List.flatMap_append,List.flatMap_singleton]
  have bU:fu s sc pos (m+1) p tl=(aG x).flatMap λv=>fu s sc pos m (p+1) (tl.set p v):=by rw[fu,if_neg bh,bQ]
  refine jJ.old ⟨_,false,iG,#[Γ aY],_,_,_,_,λj w'=>∃H,pL p pos H tl/\I (d++((aG x).take j).flatMap λv=>fu s sc pos m (p+1) (tl.set p v)) w'/\av .i64 ah w' gt aK H/\ai M ay w',λ_ _ _=>False,rfl,(mN (g:=aY) bm.1).s,?_,
   λ_ _ J h=>⟨h.1.ext J,h.2.ext J⟩,λ_ _ _ aT ⟨H,h1,C,S,aw⟩=>⟨H,h1,J _ _ _ aT C,S.ext aT,aw.trans (aT.ab M)⟩,λ_ _ _ _ _ h=>h,⟨bn,a6.ext aD⟩,⟨tl,⟨rfl,λ_ _=>rfl⟩,by simpa using J d w ay aD Z,hm.ext aD,ai.refl _ _⟩,?_,?_,λ_ _ h=>h.elim,λ_ _ _ h=>h.elim⟩
  .rintro _ _ _ _ ⟨_,_,_,_,rfl⟩;rfl
  .rintro _ j _ bV ⟨_,_⟩ ⟨bp,rfl,v,ad,bW⟩ ⟨H,az,aE,aU,aV⟩;cases bW;intro bq W _ _;have bX:(aG x)[j]?=σ (v:Int):=by rw[<-bo,x8,ad];rfl
   have aW:ai M ay bq:=aV.trans (W.ab M);have aZ:∀{O:x3}{g:Nat}{e:p9}{cs:List x1},ai M ay O->w.heap.size<=g->af a g e cs->af O g e cs:=λbY bZ au=>(au.ext aS).ab bY (out bZ);have bt:=aU.ext W;have b0:=az.1;refine aR (aZ aW Ω Q) ?_;rw[ax (v:=Δ (p:Int)) Ψ ((aZ aW Ω y).cell (o:=0) rfl),hy rfl an.u ah.i bt Ω];refine hz ah.i bt Ω λbu bx ce b1=>?_;have X:ai M ay bu:=aW.trans (bx.mono λr _ h=>by have h:r=gt:=h;rw[h];exact bC);have b2:=bD _ _ _ bx (J _ _ _ W aE);rw[ax (v:=Γ ae) Ψ ((aZ X Ω ag).cell (o:=0) rfl)];refine aC (aZ X Ω f) (aR (aZ X Ω Q) ?_);rw[ax (v:=Δ (p:Int)) Ψ ((aZ X Ω y).cell (o:=0) rfl),aN,wrap_i64 Ω Ω,ax (v:=Δ pos) Ψ ((aZ X Ω ak).cell (o:=0) rfl),ax (v:=.func (.func eo) #[] cap) Ψ ((aZ X Ω N).cell (o:=0) rfl)];refine(bd (p+1) (H.set p v) _ bu Ω (by rw[c9];omega) b2 b1).mono ?_;rintro _ cg _ ⟨Y,h1,C,S,aw⟩;have bz:=X.trans aw;have hw:=xy (s:=s) (sc:=sc) m (p+1) (H.set p (v:Int)) (tl.set p (v:Int)) (by rw[c9];omega) (az.set bh v);rw[hw,V0,<-bT j v bX]at C;refine⟨⟨bn.ab bz (out Ω),(aF _ _ C).2.1⟩,⟨Y,⟨by rw[h1.1,c9];exact b0,λq bi=>?_⟩,C,S,bz⟩,λh=>by cases h⟩;have b3:p≠q:=Ω
   rw[h1.2 q Ω,Y9,if_neg b3];exact az.2 q bi
  .rintro k bV rfl ⟨H,az,aE,aU,aV⟩;intro bq W _;rw[b6 (by rw[<-bo,r8];exact o4 _),<-bU]at aE;exact⟨H,az,J _ _ _ W aE,aU.ext W,((aD.ab M).trans aV).trans (W.ab M)⟩
end
def simpStep(of:Λ->Int)(p:Int×Option (Λ))(tl:Λ):Int×Option (Λ):=if p.2=ν\/of tl<p.1 then(of tl,σ tl)else p
def hj(k:Int)(of:Λ->Int)(l:List (Λ)):Int×Option (Λ):=l.foldl (simpStep of) (k,ν)
def ka(w:x3)(B:Nat)(v:x1):Option (Λ)->Prop
 |none=>v= .slice ν 0 0
 |some tl=>tl≠[]/\∃g,B<=g/\av .i64 ah w g v tl
theorem ka.ab{v:x1}{o:Option (Λ)}{S:aj}(h:ka w B v o)(e:ai S w w')(f:∀r,B<=r->r<w.heap.size->¬S r):ka w' B v o:=by
 cases o with
 |none=>exact h
 |some tl=>
  obtain⟨h1,g,p,a⟩:=h;exact⟨h1,g,p,bu a e λr q=>by obtain⟨s,x⟩:=bQ a q;exact f r Ω Ω⟩
theorem ka.ext{v:x1}{o:Option (Λ)}(h:ka w B v o)(J:Ext w w'):ka w' B v o:=h.ab (J.ab λ_=>False) λ_ _ _ h=>h
theorem ka.one{v:x1}{o:Option (Λ)}(h:ka w B v o):∃a n c,v= .slice a n c:=by
 cases o with
 |none=>exact⟨ν,0,0,h⟩
 |some tl=>
  obtain⟨_,g,_,e⟩:=h;exact c5 e.ls
def Pt(n:aF)(s:aq)(B:Nat)(w':x3)(j pos v:Int)(r:x1):Prop:=((¬∃f u x,jw s j pos v f u x)->r= .tuple #[Δ 0,.slice ν 0 0,Δ 1])/\∀f u x,jw s j pos v f u x->
 ∃a,r= .tuple #[Δ (hj n.k (eL s j.toNat) (fu s f.sc pos f.sc.length 0 ((p8 f.sc.length 0).set pos.toNat v))).1,a,Δ 0]/\ka w' B a (hj n.k (eL s j.toNat) (fu s f.sc pos f.sc.length 0 ((p8 f.sc.length 0).set pos.toNat v))).2
section
variable{w:x3}{ae gT:Nat}{A R:aj}{n:aF}{s:aq}{t:aC}
theorem Pu{j:Int}(h:bw w ae gT A R n s t)(bJ:Laid w)(cz:∀r,A r\/R r->r<w.heap.size):am x7 G2 [Γ ae,Δ j,Δ pos,Δ v] w λr w'=>Ext w w'/\Pt n s w.heap.size w' j pos v r:=by
 refine az func77 ?_;refine bf λg1 V cA bK U=>?_;refine bf λbL aa cB a2 W=>?_;have U:af aa g1 db [Γ ae]:=U.ext a2;have W:af aa bL ah [Δ j]:=W;have aD:=bK.trans a2;rw[ax (v:=Γ ae) Ψ (U.cell (o:=0) rfl),ax (v:=Δ j) Ψ (W.cell (o:=0) rfl)];refine(Eb (h.ext aD)).mono ?_;rintro _ cC _ ⟨ak,e,rfl,he,a7⟩;have aE:=aD.trans ak;rw[bC,al];refine⟨λao=>⟨aE,λ_=>by rw[he.resolve_left ao],λf u x G=>absurd (a7.2 ⟨f,u,x,G⟩) ao⟩,λbM=>?_⟩;obtain⟨f,u,x,G⟩:=a7.1 (Z9.1 bM);have S:=U.ext ak;have a8:=W.ext ak;rw[ax (v:=Γ ae) Ψ (S.cell (o:=0) rfl),ax (v:=Δ j) Ψ (a8.cell (o:=0) rfl)];have ba:=kL (h.ext aE) G.ag;have cD:=G.xw;rw[show((j.toNat:Nat):Int)=j by omega]at ba;refine ba.mono ?_;rintro aL bN _ ⟨ap,bE,cE,aq⟩;have bO:=aE.trans ap;obtain⟨aF,_,cF⟩:=h.2.2.2.1.funs f (x5 G.ag);have bP:f.sc.length<=6:=aF.scope.2;obtain⟨m,hm⟩:∃m,m=f.sc.length:=⟨_,rfl⟩;rw[aX an.u aq.ls,<-hm];refine jN (k:=.i64) an.u ah.i Ω Ω λgt bb cG bc bd=>?_;have be:av .i64 ah bb gt (.slice (σ ⟨gt,0,ν⟩) m m) (p8 m 0):=av.of (n:=m) (bV.full (by simpa using bd) Ξ (by simp[maxLen];omega));refine bx an.i λgtb cH cI bg bR=>?_;have cJ:=aD.size;have z3:=ak.size;have z4:=ap.size;have z5:=bc.size;have cK:=bg.size;refine bl (v:=.slice (σ ⟨gt,0,ν⟩) m m) an.i rfl rfl bR Φ λbS bT cL aG=>?_;have aw:Ext bb bS:=bg.put bT Ω;have cM:=(x4.1 G.hu).1;have cN:=G.ea;rw[ax (v:=.slice (σ ⟨gt,0,ν⟩) m m) Ψ (aG.cell (o:=0) rfl),hy (i:=pos.toNat) Ω an.u ah.i (be.ext aw) Θ];refine hz ah.i (be.ext aw) Θ λbU bh bW bX=>?_;have cO:=bd.lt;have cP:=aw.size;have X:Ext bN bU:=(bc.trans aw).put bh Ω;have bi:=bO.trans X;have bj:=(S.ext ap).ext X;have bY:=(a8.ext ap).ext X;have bZ:=aG.ab bh Ω;rw[ax (v:=Γ ae) Ψ (bj.cell (o:=0) rfl)];refine(j7 (h.ext bi)).mono ?_;rintro _ b0 _ ⟨rfl,bk⟩;refine bx au.i λY cQ cR bo bp=>?_;refine bl (v:=Δ n.k) au.i rfl rfl bp Φ λcS b1 cT b3=>?_;have cU:=bW;have z9:=bk.size;have cV:=bo.size;have cW:=bp.lt;refine bx an.i λZ H cX aH ay=>?_;have ay:af H Z an [.slice ν 0 0]:=ay;have b4:Ext b0 H:=(bo.then b1 λr E he=>by have he:r=Y:=he;omega).trans aH;have N:=bk.trans b4;have bq:=bi.trans N;have br:=bj.ext N;have b5:=bY.ext N;have bt:=bZ.ext N;have b6:=bX.ext N;have b7:=b3.ext aH;have cY:=ay.lt;have cZ:=aG.lt;have c0:=U.lt;have c1:=W.lt;have z12:=aH.size;have c2:=bq.size;rw[ax (v:=Γ ae) Ψ (br.cell (o:=0) rfl),ax (v:=.slice (σ ⟨gt,0,ν⟩) m m) Ψ (bt.cell (o:=0) rfl),ig];obtain⟨M,b8⟩:∃M:aj,M=λr=>r=gt\/r=Y\/r=Z:=⟨_,rfl⟩;have O:∀r,M r↔r=gt\/r=Y\/r=Z:=λr=>by rw[b8]
 have aJ:∀r,M r->w.heap.size<=r/\r<H.heap.size:=λr E=>by rcases(O r).1 E with rfl|rfl|rfl<;>omega
 have c3:aI .i64 H aL f.sc:=aq.ls.ext (X.trans N);have aB:∀{bz:x3},ai M H bz->Ext w bz:=λp=>bq.then p λr E he=>by have:=aJ r he;omega
 have b9:∀r,leads aL r->¬M r:=λr E he=>by
  obtain⟨c4,ca⟩:=bQ aq E;rcases(O r).1 he with y|y|y<;>omega
 let I:List (Λ)->x3->Prop:=λd w'=>ai M H w'/\af w' Y au [Δ (hj n.k (eL s j.toNat) d).1]/\∃B,af w' Z an [B]/\ka w' H.heap.size B (hj n.k (eL s j.toNat) d).2;have step:∀d tl,hj n.k (eL s j.toNat) (d++[tl])=simpStep (eL s j.toNat) (hj n.k (eL s j.toNat) d) tl:=λd tl=>by unfold hj;rw[List.foldl_append];rfl
 have bA:=h.2.2.2.1;have c6:=bA.vars;refine(Ps (gT:=gT) (sc:=f.sc) (pos:=pos) (gt:=gt) (M:=M) (I:=I) (A:=A) (R:=R) (t:=t) (n:=n) bA (λu hu=>⟨(aF.scope.1 u hu).1,aF.vars u hu⟩) bP ⟨m,by rw[hm]⟩ ((O _).2 (.inl rfl)) ?_ ?_ ?_ ?_ f.sc.length 0 ((p8 m 0).set pos.toNat v) [] H Ω (by rw[c9,List.length_replicate,hm]) ?_ b6).mono ?_
 .rintro d w' ⟨p,K,_⟩;refine⟨h.ext (aB p),bJ.ext (aB p),(bu (aq.ext (X.trans N)) p λr E=>b9 r E).ls,λr E=>?_⟩;have:=(aJ r E).2;have:=p.size;omega
 .rintro d w' cb J ⟨p,K,B,P,C⟩;exact⟨p.trans (J.ab M),K.ext J,B,P.ext J,C.ext J⟩
 .rintro d w' cb aC ⟨p,K,B,P,C⟩;have z:=p.size;exact⟨p.trans (aC.mono λr _ he=>(O r).2 (.inl he)),K.ab aC Ω,B,P.ab aC Ω,C.ab aC λr E _ he=>by have he:r=gt:=he;omega⟩
 .rintro d tl w' ⟨p,K,B,P,C⟩ bB aK;refine az func162 ?_;have cc:=aB p;have aM:∀{r:Nat},r≠gt->r≠Y->r≠Z->¬M r:=λa b c he=>by rcases(O _).1 he with y|y|y<;>omega
  have cd:=br.ab p (aM Ω Ω Ω);have ce:=b5.ab p (aM Ω Ω Ω);have bD:=bt.ab p (aM Ω Ω Ω);rw[ax (v:=Γ ae) Ψ (cd.cell (o:=0) rfl),ax (v:=Δ j) Ψ (ce.cell (o:=0) rfl),ax (v:=.slice (σ ⟨gt,0,ν⟩) m m) Ψ (bD.cell (o:=0) rfl),show j=((j.toNat:Nat):Int) by omega];refine D9 (h.ext cc) bB.ls λca bF L=>?_;rw[bm,bn];have cg:=p.trans (L.ab M);have S:=K.ext L;have aN:=P.ext L;have ch:=C.ext L;obtain⟨c7,fn,c8,aO⟩:=C.one;have aP:=bB.ext L;refine aV (λr aQ=>r= .bool (decide ((hj n.k (eL s j.toNat) d).2=ν\/eL s j.toNat tl<(hj n.k (eL s j.toNat) d).1))/\Ext bF aQ) ?_ ?_
  .rintro _ aQ ⟨rfl,q⟩;have aS:=cg.trans (q.ab M);rw[al];refine⟨λci=>?_,λaT=>?_⟩
   .rw[ax (v:=.slice (σ ⟨gt,0,ν⟩) m m) Ψ (((bD.ext L).ext q).cell (o:=0) rfl)];rw[<-hm]at aK;refine(ku (aP.ext q).ls Ω).mono ?_;rintro a6 cj _ ⟨ac,ck,da,aU⟩;obtain⟨_,_,_,bG⟩:=c5 aU.ls;have cl:=aS.trans (ac.ab M);have dc:=aS.size;refine bl (v:=Δ (eL s j.toNat tl)) au.i rfl rfl ((S.ext q).ext ac) Ξ λdd aW de cm=>?_;refine bl (v:=a6) an.i (by rw[bG];rfl) (by rw[bG];rfl) (((aN.ext q).ext ac).ab aW Ω) Ξ λcn aY df cp=>?_;have aZ:ai M cj cn:=(aW.mono λr _ he=>(O r).2 (.inr (.inl he))).trans (aY.mono λr _ he=>(O r).2 (.inr (.inr he)));have ad:hj n.k (eL s j.toNat) (d++[tl])=(eL s j.toNat tl,σ tl):=by rw[step];unfold simpStep;rw[if_pos ci]
    refine⟨⟨cl.trans aZ,?_,a6,cp,?_⟩,?_,?_⟩
    .rw[ad];exact cm.ab aY Ω
    .rw[ad];refine⟨λy=>by rw[y]at aK;simp at aK;omega,ck,Ω,bu aU aZ λr E he=>?_⟩;obtain⟨dg,dh⟩:=bQ aU E;have:=(aJ r he).2;omega
    .exact ((((aP.ext q).ext ac).ab aW Ω).ab aY Ω)
    .exact ((L.ab M).trans (q.ab M)).trans ((ac.ab M).trans aZ)
   .have ad:hj n.k (eL s j.toNat) (d++[tl])=hj n.k (eL s j.toNat) d:=by rw[step];unfold simpStep;rw[if_neg aT]
    refine⟨⟨aS,?_,B,aN.ext q,?_⟩,aP.ext q,(L.ab M).trans (q.ab M)⟩
    .rw[ad];exact S.ext q
    .rw[ad];exact ch.ext q
  intro aA bH;rw[ax (v:=B) Ψ (aN.cell (o:=0) rfl),aO,oX an.u];cases Q:(hj n.k (eL s j.toNat) d).2 with
  |none=>
   rw[Q]at C;have:B= .slice ν 0 0:=C;rw[aO]at this;cases this;rw[b2];exact⟨λ_=>bH _ _ ⟨by rw[decide_eq_true (.inl Q)],Ext.refl _⟩,λy=>by cases y⟩
  |some di=>
   rw[Q]at C;obtain⟨ao,dj,_,cq⟩:=C;obtain⟨_,⟨rfl,y⟩|⟨dk,_,bI,_⟩⟩:=cq
   .exact absurd (j6 y) ao
   rw[aO]at bI;cases bI;rw[b2];refine⟨λy=>by simp at y,λ_=>?_⟩;rw[ax (v:=Δ (hj n.k (eL s j.toNat) d).1) Ψ (S.cell (o:=0) rfl),aR];refine bH _ _ ⟨?_,Ext.refl _⟩;congr 1;exact decide_eq_decide.2 ⟨.inr,λy=>y.resolve_left (by rw[Q];simp)⟩
 .exact⟨ai.refl _ _,b7,_,ay,rfl⟩
 rintro _ bF _ ⟨dl,_,⟨p,K,B,P,C⟩,_,_⟩;intro aQ q _ _;rw[ax (v:=Δ (hj n.k (eL s j.toNat) ([]++fu s f.sc pos f.sc.length 0 ((p8 m 0).set pos.toNat v))).1) Ψ ((K.ext q).cell (o:=0) rfl),ax (v:=B) Ψ ((P.ext q).cell (o:=0) rfl)];refine⟨(aB p).trans q,λaT=>absurd ⟨f,u,x,G⟩ aT,λa1 u' dm cr=>?_⟩;obtain⟨rfl,_⟩:=G.same cr;rw[List.nil_append,hm]at C ⊢;refine⟨B,rfl,?_⟩;have:=C.ext q;cases Q:(hj n.k (eL s j.toNat) (fu s a1.sc pos a1.sc.length 0 ((p8 a1.sc.length 0).set pos.toNat v))).2 with
 |none=>rw[Q]at this;exact this
 |some tl=>rw[Q]at this;obtain⟨ct,cu,dn,cw⟩:=this;exact⟨ct,cu,Ω,cw⟩
end
structure c6 where
 eW:Int
 i:Int
 j:Int
 v:Int
def fV(a:c6):List x1:=[Δ a.eW,Δ a.i,Δ a.j,Δ a.v]
def gh(c:Prop)[Decidable c](a:c6):List c6:=if c then[a]else[]
theorem kO{c:Prop}[Decidable c]{a:c6}:(gh c a).length<=1:=by
 unfold gh;split<;>simp
theorem pM{c:Prop}[Decidable c]{a b:c6}(h:b∈gh c a):c/\b=a:=by
 unfold gh at h;split at h
 .rename_i e;exact⟨e,o9.1 h⟩
 .cases h
def iA(n:aF)(s:aq)(i:Int):Int×Int:=eK n.k (bk s i) (eV n s i)
def pN(n:aF)(s:aq)(i:Int):Int×Int:=eK n.k (bk s i) (tX n s i)
def h5(n:aF)(s:aq)(i v:Int):List c6:=gh (min (s.zero+eV n s i v) n.k=n.k) ⟨1,i,-1,v⟩
def ly(n:aF)(s:aq)(i:Int):List c6:=gh (0<(iA n s i).1\/(iA n s i).2<0) ⟨1,i,-1,-1⟩
def pO(n:aF)(s:aq)(i:Int):List c6:=gh (0<(pN n s i).1\/(pN n s i).2<0) ⟨4,i,-1,-1⟩
def jx(n:aF)(s:aq)(i:Int):List c6:=if hh n s i=true then ly n s i++((bk s i).flatMap (h5 n s i)++pO n s i)else[]
def mi(n:aF)(s:aq)(m:Nat):List c6:=(X0 m).flatMap λi:Nat=>jx n s (i:Int)
def rp(n:aF)(s:aq)(j:Nat)(f:ca)(p:Nat)(v:Int):Int×Option (Λ):=hj n.k (eL s j) (fu s f.sc p f.sc.length 0 ((p8 f.sc.length 0).set p v))
def tY(n:aF)(s:aq)(j:Nat)(f:ca)(v:Int):Int×Int:=eK n.k (bk s (f.sc.getD 1 0)) (kM n s j 0 v (f.sc.getD 1 0))
def fv(n:aF)(s:aq)(j:Nat)(f:ca)(p:Nat)(i v:Int):List c6:=gh (0<(rp n s j f p v).1\/(rp n s j f p v).2=ν) ⟨2,i,j,v⟩
def gQ(n:aF)(s:aq)(j:Nat)(f:ca)(p:Nat)(i v:Int):List c6:=gh (f.sc.length=2/\p=0/\0<(tY n s j f v).1) ⟨3,i,j,v⟩
def h6(n:aF)(s:aq)(j:Nat)(f:ca)(p:Nat):List c6:=(bk s (f.sc.getD p 0)).flatMap λv=>fv n s j f p (f.sc.getD p 0) v++gQ n s j f p (f.sc.getD p 0) v
def kb(n:aF)(s:aq)(j:Nat):List c6:=match s.funs[j]? with
 |some f=>if f.live≠0 then(X0 f.sc.length).flatMap (h6 n s j f)else[]
 |none=>[]
def mj(n:aF)(s:aq)(m:Nat):List c6:=(X0 m).flatMap (kb n s)
def lz(n:aF)(s:aq):List c6:=mi n s n.sizes.length++mj n s s.funs.length
def gE(n:aF)(s:aq)(level:Int):List c6:=(lz n s).filter λa=>decide (a.eW<=level)
theorem lA{α β:Type}{f:α->List β}{k:Nat}:∀{l:List α},(∀a∈l,(f a).length<=k)->(l.flatMap f).length<=k*l.length
 |[],_=>Ξ
 |a::l,h=>by
  have h1:=h a (.head _);have p:=lA λb e=>h b (.tail _ e);rw[X7,r9,c8,Nat.mul_add];omega
theorem tZ{s:aq}{i:Int}(a:br k sizes s):(bk s i).length<=32:=by
 unfold bk;split
 .rename_i x J;have f:=(x4.1 J).1;have h:=a.vars;obtain⟨z,e⟩:=aJ (l:=sizes) (i:=i.toNat) Ω;have h1:=(a.var _ x z J e).1;have p:=a.fq.2.2 z (x5 e);have q:(aG x).length<=x.un.length:=by
   unfold aG;refine Y8 (R3 _ _) ?_;rw[r8,List.length_range];exact o4 _
  omega
 .simp
section
variable{k:Int}{n:aF}{s:aq}
theorem Pv{i:Int}(a:br n.k n.sizes s):(jx n s i).length<=34:=by
 unfold jx;split
 .have h1:(ly n s i).length<=1:=kO;have e:(pO n s i).length<=1:=kO;have h:=lA (l:=bk s i) (f:=h5 n s i) (k:=1) λv _=>kO;have p:=tZ (i:=i) a;rw[r9,r9];omega
 .simp
theorem Eg{m:Nat}(a:br n.k n.sizes s):(mi n s m).length<=34*m:=by
 have:=lA (l:=X0 m) (f:=λi:Nat=>jx n s (i:Int)) (k:=34) λv _=>Pv a;rw[List.length_range]at this;exact this
theorem Eh{p:Nat}{f:ca}(a:br n.k n.sizes s):(h6 n s j f p).length<=64:=by
 have h1:=lA (l:=bk s (f.sc.getD p 0)) (f:=λv=>fv n s j f p (f.sc.getD p 0) v++gQ n s j f p (f.sc.getD p 0) v) (k:=2) λv _=>by
  have h1:(fv n s j f p (f.sc.getD p 0) v).length<=1:=kO;have e:(gQ n s j f p (f.sc.getD p 0) v).length<=1:=kO;rw[r9];omega
 have e:=tZ (i:=f.sc.getD p 0) a;unfold h6;omega
theorem Pw(a:br n.k n.sizes s):(kb n s j).length<=384:=by
 unfold kb;split
 .rename_i f ag;split
  .have h1:=lA (l:=X0 f.sc.length) (f:=h6 n s j f) (k:=64) λv _=>Eh a;have e:f.sc.length<=6:=(a.funs f (x5 ag)).1.scope.2;rw[List.length_range]at h1;omega
  .simp
 .simp
theorem Ei{m:Nat}(a:br n.k n.sizes s):(mj n s m).length<=384*m:=by
 have:=lA (l:=X0 m) (f:=kb n s) (k:=384) λv _=>Pw a;rw[List.length_range]at this;exact this
theorem xz{α:Type}{f:Nat->List α}(m:Nat):(X0 (m+1)).flatMap f=(X0 m).flatMap f++f m:=by
 rw[List.range_succ,List.flatMap_append,List.flatMap_singleton]
def rq(n:aF)(s:aq)(a:c6):Prop:=(1<=a.eW/\a.eW<=4)/\(0<=a.i/\a.i<100)/\(-1<=a.j/\a.j<s.funs.length)/\ -1<=a.v/\a.v<32
theorem Ej{i:Int}(a:br n.k n.sizes s)(h:v∈bk s i):0<=v/\v<32:=by
 unfold bk at h;split at h
 .rename_i x J;have f:=(x4.1 J).1;have p:=a.vars;obtain⟨z,e⟩:=aJ (l:=n.sizes) (i:=i.toNat) Ω;have h1:=(a.var _ x z J e).1;have q:=a.fq.2.2 z (x5 e);have r:=D6 h;omega
 .cases h
theorem Ek{a:c6}(e:br n.k n.sizes s)(h:a∈lz n s):rq n s a:=by
 have x:=e.fq.2.1;unfold lz at h;rcases o5.1 h with h|h
 .unfold mi at h;obtain⟨i,hi,h⟩:=S7.1 h;have hi:=T6.1 hi;unfold jx at h;split at h
  .rcases o5.1 h with h|h
   .obtain⟨_,rfl⟩:=pM h;exact⟨Ξ,by simp only;omega,by simp only;omega,Ξ⟩
   .rcases o5.1 h with h|h
    .obtain⟨v,ad,h⟩:=S7.1 h;obtain⟨_,rfl⟩:=pM h;have:=Ej e ad;exact⟨Ξ,by simp only;omega,by simp only;omega,by simp only;omega⟩
    .obtain⟨_,rfl⟩:=pM h;exact⟨Ξ,by simp only;omega,by simp only;omega,Ξ⟩
  .cases h
 .unfold mj at h;obtain⟨j,r,h⟩:=S7.1 h;have r:=T6.1 r;unfold kb at h;split at h
  .rename_i f ag;split at h
   .obtain⟨p,q,h⟩:=S7.1 h;have q:=T6.1 q;unfold h6 at h;obtain⟨v,ad,h⟩:=S7.1 h;have y:=Ej e ad;have w:=(e.funs f (x5 ag)).1;have hu:f.sc.getD p 0∈f.sc:=by rw[u4,x6 q,V2];exact S0 q
    have h1:=(w.scope.1 _ hu).1;have z:=w.vars _ hu;rcases o5.1 h with h|h
    .obtain⟨_,rfl⟩:=pM h;exact⟨Ξ,by simp only;omega,by simp only;omega,by simp only;omega⟩
    .obtain⟨_,rfl⟩:=pM h;exact⟨Ξ,by simp only;omega,by simp only;omega,by simp only;omega⟩
   .cases h
  .cases h
def pP(a:c6):Int:=((a.eW*100+a.i)*200000000+(a.j+1))*100+(a.v+1)
def fw(a b:Int):Int:=if a<b then-1 else if b<a then 1 else 0
def pQ(a b:c6):Int:=if fw a.eW b.eW≠0 then fw a.eW b.eW else if fw a.i b.i≠0 then fw a.i b.i else if fw a.j b.j≠0 then fw a.j b.j else fw a.v b.v
theorem ua(a b:Int):(fw a b= -1/\a<b)\/(fw a b=1/\b<a)\/(fw a b=0/\a=b):=by
 unfold fw;by_cases h:a<b
 .rw[if_pos h];exact .inl ⟨rfl,h⟩
 .rw[if_neg h];by_cases e:b<a
  .rw[if_pos e];exact .inr (.inl ⟨rfl,e⟩)
  .rw[if_neg e];exact .inr (.inr ⟨rfl,Ω⟩)
theorem Px{a b:c6}(z:s.funs.length<=100000000)(x:rq n s a)(y:rq n s b):pQ a b<0↔pP a<pP b:=by
 obtain⟨A,B,a3,a4⟩:=x;obtain⟨C,E,F,G⟩:=y;unfold pQ pP;rcases ua a.eW b.eW with⟨e,h1⟩|⟨e,h1⟩|⟨e,h1⟩<;>rw[e]
 .rw[if_pos Φ];omega
 .rw[if_pos Φ];omega
 rw[if_neg Φ];rcases ua a.i b.i with⟨f,q⟩|⟨f,q⟩|⟨f,q⟩<;>rw[f]
 .rw[if_pos Φ];omega
 .rw[if_pos Φ];omega
 rw[if_neg Φ];rcases ua a.j b.j with⟨h,r⟩|⟨h,r⟩|⟨h,r⟩<;>rw[h]
 .rw[if_pos Φ];omega
 .rw[if_pos Φ];omega
 rw[if_neg Φ];rcases ua a.v b.v with⟨p,w⟩|⟨p,w⟩|⟨p,w⟩<;>rw[p]<;>omega
end
theorem rr(a:c6):∀u∈fV a,u.oneCell'=true:=λu hu=>by
 simp[fV]at hu;rcases hu with rfl|rfl|rfl|rfl<;>rfl
abbrev h7(w:x3)(g:Nat)(v:x1)(l:List c6):Prop:=bi fV 4 dc w g v l
section
variable{sv:x1}{l:List c6}{g eo:Nat}{cap:Array x1}{p:c6->Bool}{w:x3}
theorem ub{i:Nat}{a:c6}{K:x1->Prop}(h:h7 w g sv l)(hi:l[i]?=σ a):ac x7 (c7 dA sv (Δ (i:Int))) w (λq=>ac x7 (u5 dc q) w K)=K (.agg (fV a).toArray):=by
 rw[dr rfl dA.u dc.i h (x4.1 hi).1,bP dc.p dc.i rfl (h.range hi)]
theorem Py(h:h7 w g sv l)(s:∀w' x,Ext w w'->x∈l->am x7 eo (.agg (fV x).toArray::cap.toList) w' λr z=>r= .bool (p x)/\Ext w' z):
  am x7 G4 [sv,.func (.func eo) #[] cap] w λv w'=>Ext w w'/\((v=Δ (-1)/\∀x∈l,p x=false)\/∃i:Nat,v=Δ (i:Int)/\i<l.length/\(∀x∈l.take i,p x=false)/\∀x,l[i]?=σ x->p x=true):=by
 refine az func79 ?_;rw[ee dA.u h];refine cb.range l.length (λi _ V=>Ext w V/\∀x∈l.take i,p x=false) h.le ⟨Ext.refl _,Ξ⟩ ?_ ?_
 .rintro i _ V k hi ⟨a,e⟩ hk;refine bM Ω ?_;obtain⟨y,f⟩:=aJ (l:=l) hi;rw[ub (h.ext a) f];refine am.mono (s V y a (x5 f)) ?_;rintro _ aa _ ⟨rfl,q⟩;rw[b2];refine⟨λA=>⟨a.trans q,.inr ⟨i,rfl,hi,e,λx J=>by rw[f]at J;cases J;exact A⟩⟩,λag=>?_⟩;rw[aN];refine hk _ _ ⟨a.trans q,λx J=>?_⟩;rw[u9,f]at J;rcases o5.1 J with J|J
  .exact e x J
  .simp at J;subst J;exact ag
 .rintro _ V k ⟨a,e⟩;rw[o7]at e;rw[aR,al];exact⟨λh=>Ω,λ_=>⟨a,.inl ⟨rfl,e⟩⟩⟩
theorem Pz(h:h7 w g sv l)(aW:l.length<=100000000)(ae:∀w' x,ai (λr=>leadsTo sv r) w w'->x∈l->am x7 eo (.agg (fV x).toArray::cap.toList) w' λr ay=>r= .bool (p x)/\Ext w' ay):
  am x7 Gv [sv,.func (.func eo) #[] cap] w λv w'=>ai (λr=>leadsTo sv r) w w'/\h7 w' g v (l.filter λx=>!p x)/\∀r,leadsTo v r->leadsTo sv r:=by
 refine az func24 ?_;refine(Py h λw' x J=>ae w' x (J.ab _)).mono ?_;rintro _ V _ ⟨G,⟨rfl,M⟩|⟨i,rfl,hi,M,aB⟩⟩
 .rw[be,al];refine⟨λ_=>⟨G.ab _,?_⟩,λh=>absurd rfl h⟩;rw[List.filter_eq_self.2 λx J=>by rw[M x J];rfl];exact⟨h.ext G,λ_ h=>h⟩
 rw[be,al];refine⟨λh=>Ω,λ_=>?_⟩;rw[aN,wrap_i64 Ω Ω];obtain⟨n,N⟩:∃n,l.length=n:=⟨_,rfl⟩;obtain⟨z,rfl⟩:∃z,sv= .slice (σ ⟨g,0,ν⟩) n z:=by
  obtain⟨_,⟨_,h1⟩|⟨z,cs,h1,_⟩⟩:=h.1
  .omega
  .exact⟨z,by rw[h1,N]⟩
 have ah:∀r,r=g->leadsTo (.slice (σ ⟨g,0,ν⟩) n z) r:=λr O=>⟨_,_,_,rfl,O.symm⟩;have aC:∀r,leadsTo (.slice (σ ⟨g,0,ν⟩) n z) r->r=g:=λr ⟨_,_,_,C,P⟩=>by cases C;exact P.symm
 have aD:(l.take (i+1)).filter (λx=>!p x)=l.take i:=by
  obtain⟨y,A⟩:=aJ (l:=l) hi;rw[u9,A,List.filter_append,List.filter_eq_self.2 λx J=>by rw[M x J];rfl];simp[aB y A]
 refine⟨λQ R E=>∃(q j:Nat)(s:List c6),Q=Δ (q:Int)/\R=Δ (j:Int)/\q<j/\j<=n/\ai (λr=>r=g) w E/\h7 E g (.slice (σ ⟨g,0,ν⟩) n z) s/\s.length=n/\s.take q=(l.take j).filter (λx=>!p x)/\∀k,j<=k->s[k]?=l[k]?,
  λ_ R _=>n-(bS R).toNat,⟨i,i+1,l,rfl,rfl,Ω,Ω,G.ab _,h.ext G,N,aD.symm,λ_ _=>rfl⟩,?_⟩
 rintro _ _ E ⟨q,j,s,rfl,rfl,aX,aZ,H,I,S,B,U⟩;have a1:q=((l.take j).filter λx=>!p x).length:=by rw[<-B,n9];omega
 rw[hs dA.u,aR,al];refine⟨λaE=>?_,λa2=>?_⟩
 .have aE:j<n:=Ω
  obtain⟨y,A⟩:=aJ (l:=l) (i:=j) Ω;have aF:s[j]?=σ y:=by rw[U j (o4 _),A]
  refine aV (λQ K=>∃(q:Nat)(s:List c6),Q=Δ (q:Int)/\q<j+1/\ai (λr=>r=g) w K/\h7 K g (.slice (σ ⟨g,0,ν⟩) n z) s/\s.length=n/\s.take q=(l.take (j+1)).filter (λx=>!p x)/\∀k,j+1<=k->s[k]?=l[k]?) ?_ ?_
  .rintro _ K ⟨q,s,rfl,h1,W,X,Y,Z,aa⟩;rw[aN,wrap_i64 Ω Ω];exact⟨⟨q,j+1,s,rfl,rfl,h1,Ω,W,X,Y,Z,aa⟩,by simp only[bS];omega⟩
  intro aA aj;rw[ub I aF];refine bx dc.i λaY K a6 aG aH=>?_;refine ci (vs:=fV y) dc.i rfl rfl (rr y) aH λak aI a7 an=>?_;have ao:Ext E ak:=aG.put aI Ω;rw[bP dc.p dc.i rfl an.range];refine am.mono (ae ak y ((H.trans (ao.ab _)).mono λr _=>ah r) (x5 A)) ?_;rintro _ a8 _ ⟨rfl,ap⟩;have L:=ao.trans ap;have aq:(l.take (j+1)).filter (λx=>!p x)=(l.take j).filter (λx=>!p x)++[y].filter (λx=>!p x):=by rw[u9,A,List.filter_append];rfl
  rw[bH,b2];refine⟨λaK=>?_,λag=>?_⟩
  .have au:=I.ext L;rw[bP dc.p dc.i rfl (an.ext ap).range,dr rfl dA.u dc.i au Ω];refine BR dc.i au rfl (rr y) Ω λav ac ba aL=>?_;rw[aN,wrap_i64 Ω Ω];refine aj _ _ ⟨q+1,_,rfl,Ω,(H.trans (L.ab _)).trans (ac.mono λr _=>aC r),aL,by simpa using S,?_,λk hk=>?_⟩
   .rw[aq,u9,b8 Ω,List.take_set_of_le (o4 _),B];simp only[j5];rw[show[y].filter (λx=>!p x)=[y] by simpa using aK]
   .rw[Y2 Ω];exact U k Ω
  .refine aj _ _ ⟨q,s,rfl,Ω,H.trans (L.ab _),I.ext L,S,?_,λk hk=>U k Ω⟩;rw[aq,show[y].filter (λx=>!p x)=[] by simpa using ag,W8];exact B
 .have aM:j=n:=Ω
  subst aM;rw[<-N,o7]at B;obtain⟨⟨_,aO⟩,_⟩:=id I;obtain⟨cs,aP,aQ,aS,bb,aw⟩:∃cs,af E g dc cs/\s.length<=z/\z<=maxLen/\cs.length=z*4/\cs.take (s.length*4)=s.flatMap fV:=by
   rcases aO with⟨_,bc⟩|⟨bd,cs,C,W,X,Y,Z,aa⟩
   .omega
   .cases C;exact⟨cs,W,X,Y,Z,aa⟩
  simp only[maxLen]at aS;rw[S]at aQ aw;rw[gV dA.u dc.i (l:=q) (h:=j) (m:=z) oY jj e9 Ω Ω Ω,if_neg Ω];have C:V5 (λx:Addr=>x.add (q*4)) (σ ⟨g,0,ν⟩)=σ ⟨g,q*4,ν⟩:=by simp[U7]
  rw[C];refine CR (g:=g) (o:=q*4) (n:=j-q) (k:=4) dA.u dc.i rfl ?_ aP Ω λav ac ad=>?_
  .exact wK Φ Φ
  obtain⟨vs,bf,ad⟩:∃vs:List x1,vs.length=(j-q)*4/\af av g dc (over cs (q*4) vs):=⟨_,nI _ _,ad⟩;rw[gV dA.u dc.i (l:=0) (h:=q) (m:=z) ji oZ e9 Ω Ω Ω,if_neg Ω];have P:V5 (λx:Addr=>x.add (0*4)) (σ ⟨g,0,ν⟩)=σ ⟨g,0,ν⟩:=by simp[U7]
  rw[P];refine⟨(H.trans ac).mono λr _=>ah r,?_,λr O=>by obtain⟨a,_,_,e,aT⟩:=O;cases e;exact⟨_,_,_,rfl,aT⟩⟩;have ax:(l.filter λx=>!p x).length=q:=by rw[<-B,n9];omega
  refine⟨⟨hZ λ_ _=>rfl,.inr ⟨z,_,by rw[ax,Nat.sub_zero,Nat.sub_zero],ad,Ω,by simp only[maxLen];omega,by rw[k4];omega,?_⟩⟩,λ_ _=>rfl⟩;have aU:(l.filter λx=>!p x).flatMap fV=(s.flatMap fV).take (q*4):=by rw[pp (f:=fV) (k:=4) q (λ_ _=>rfl),B]
  rw[ax,aU,<-aw,List.take_take,Nat.min_eq_left Ω];apply Y3;intro k;by_cases hk:k<q*4
  .rw[Z7 hk,Z7 hk,mE _ _ _ Ω,if_neg Ω]
  .rw[Z2 (by rw[n9];omega),Z2 (by rw[n9];omega)]
end
def jy(w w':x3)(ae g1 go:Nat)(l:List c6):Prop:=Ext w w'/\af w' g1 db [Γ ae]/\∃v g,af w' go dA [v]/\h7 w' g v l/\∀r,leadsTo v r->w.heap.size<=r
theorem jy.ext{go:Nat}{l:List c6}(h:jy w V ae g1 go l)(J:Ext V aa):jy w aa ae g1 go l:=by
 obtain⟨h1,a,v,g,e,f,p⟩:=h;exact⟨h1.trans J,a.ext J,v,g,e.ext J,f.ext J,p⟩
theorem PA{v:x1}(h:∃a n c,v= .slice a n c):v.cells= #[v]/\v.oneCell'=true:=by
 obtain⟨a,n,c,rfl⟩:=h;exact⟨rfl,rfl⟩
def rt(V aa:x3):Prop:=∀b e cs,af V b e cs->e≠dc->e≠dA->af aa b e cs
theorem rt.ext(h:Ext V aa):rt V aa:=λ_ _ _ a _ _=>a.ext h
theorem ru{go g:Nat}{v x:x1}{l:List c6}{K:Unit->x3->Prop}(a:c6)(J:Ext w V)(N:af V g1 db [Γ ae])(O:af V go dA [v])(hm:h7 V g v l)(H:∀r,leadsTo v r->w.heap.size<=r)(ad:w.heap.size<=go)(P:x.cells=(fV a).toArray)(ag:l.length<=100000000)(Q:∀aa,jy w aa ae g1 go (l++[a])->rt V aa->K () aa):
  aD x7 (Y4 dA 1 #[(0,x)]) V λy aa=>aD x7 (Z0 #[dA,dA] dA #[v,y]) aa λz s=>
   aD x7 (o8 dA (Γ go) z) s K:=by
 refine hE (f:=fV) (a:=a) dA.u dc.i Ω P rfl λy gy aa ah A R=>?_;refine io dA.u dc.i rfl (hm.ext A) (by simpa using R.sl) (rr a) Ω Ω λz gz s B S I=>?_;have ai:=J.size;have aj:=A.size;have C:∀b e cs,af V b e cs->e≠dc->af s b e cs:=λb e cs p he=>(p.ext A).ab I λq=>by
  obtain⟨rfl,b4,E⟩:=dS hm q;exact he (eH p E)
 have F:=C _ _ _ O Φ;have U:=C _ _ _ N Φ;obtain⟨W,X⟩:=PA (v:=z) (by obtain⟨_,_,_,_,_,e,_⟩:=B.sl;exact⟨_,_,_,e⟩);refine bl (g:=go) (o:=0) dA.i W X F Ξ λL G ak Y=>?_;have M:∀b e cs,af s b e cs->e≠dA->af L b e cs:=λb e cs p he=>p.ab G λh=>by
  have h:b=go:=h;subst h;exact he (eH p F)
 have Z:∀r,leadsTo z r->w.heap.size<=r:=λr q=>(S r q).elim (H r) λh=>Ω
 refine Q L ⟨((J.trans A).then I λr q he=>by have:=H r he;omega).then G λr q he=>by have he:r=go:=he;omega,M _ _ _ U Φ,z,gz,Y,B.ab G λr q he=>?_,Z⟩ λb e cs p h1 ac=>M b e cs (C b e cs p h1) ac;have he:r=go:=he;subst he;obtain⟨rfl,b4,E⟩:=dS B q;exact absurd (eH E F) Φ
section
variable{w:x3}{ae gT:Nat}{A R:aj}{n:aF}{s:aq}{t:aC}
theorem PB(h:bw w ae gT A R n s t)(M:Laid w):am x7 Gt [Γ ae] w λv w'=>Ext w w'/\∃g,h7 w' g v (mi n s n.sizes.length)/\∀r,leadsTo v r->w.heap.size<=r:=by
 have y:=h.2.2.2.1;have cb:=y.fq.2.1;refine hr func22 ?_;refine bf λg1 V cc ak S=>?_;have S:af V g1 db [Γ ae]:=S;refine bx dA.i λgo aa U N an=>?_;have an:af aa go dA [.slice ν 0 0]:=an;have cd:=ak.size;have ce:=N.size;rw[ax (v:=Γ ae) Ψ ((S.ext N).cell (o:=0) rfl)];refine(DU (h.ext (ak.trans N))).mono ?_;rintro _ cg _ ⟨rfl,ao⟩;have U:w.heap.size<=go:=Ω
 have z:∀{O:x3}{K:x1->Prop},af O g1 db [Γ ae]->K (Γ ae)->ac x7 (u5 db (Γ g1)) O K:=λap aq=>by
  rw[ax (v:=Γ ae) Ψ (ap.cell (o:=0) rfl)];exact aq
 refine ck.range n.sizes.length (λi au=>jy w au ae g1 go (mi n s i)) Ω ⟨(ak.trans N).trans ao,(S.ext N).ext ao,_,0,an.ext ao,bi.nil _ _ _ _ _,λr a=>(e1 a).elim⟩ ?_ ?_
 rotate_left
 .rintro au bo ⟨bp,_,v,g,bq,br,bt⟩;refine cE Ω ?_;rw[ax (v:=v) Ψ (bq.cell (o:=0) rfl)];intro av aL _;exact⟨bp.trans aL,g,br.ext aL,bt⟩
 rintro i au bo hi aM bu;have aO:mi n s (i+1)=mi n s i++jx n s i:=xz i;have bz:=Eg (m:=i) y;generalize mi n s i=W at aM aO bz;refine bM Ω ?_;refine da (λav=>jy w av ae g1 go (W++jx n s i)) (λav bA=>?_) λaA B=>?_
 .rw[aN];exact bu _ (by rw[aO];exact bA)
 refine bx ah.i λH ch ci bB bD=>?_;refine bl (g:=H) (o:=0) (v:=Δ (i:Int)) ah.i rfl rfl bD Φ λbE bF cj X=>?_;have X:af bE H ah [Δ (i:Int)]:=X;have Y:=aM.ext (bB.put bF Ω);have C:∀{O:x3}{K:x1->Prop},af O H ah [Δ (i:Int)]->K (Δ (i:Int))->ac x7 (u5 ah (Γ H)) O K:=λap aq=>by
  rw[ax (v:=Δ (i:Int)) Ψ (ap.cell (o:=0) rfl)];exact aq
 refine z Y.2.1 (C X ?_);refine(Pg (i:=(i:Int)) (h.ext Y.1) (M.ext Y.1)).mono ?_;rintro r bG _ ⟨aP,bH,aw⟩;have ay:=Y.ext aP;have az:=X.ext aP;cases ad:hh n s i with
 |false=>
  obtain rfl:=bH ad;rw[fK,fL,fM,bC,al];refine⟨λ_=>B _ ?_,λh=>absurd Φ h⟩;unfold jx;rw[ad,if_neg Φ,W8];exact ay
 |true=>
 obtain⟨_,x,Z,_⟩:=xv y ad;have aB:bk s i=aG x:=by unfold bk;rw[Z]
 have a:=aw x ad Z;rw[<-aB]at a;have a:r= .tuple #[Δ (iA n s i).1,Δ (iA n s i).2,Δ 0]:=a;subst a;have bI:jx n s i=ly n s i++((bk s i).flatMap (h5 n s i)++pO n s i):=by unfold jx;rw[if_pos ad]
 have cl:=tZ (i:=(i:Int)) y;rw[fK,fL,fM,bC,al];refine⟨λh=>absurd rfl h,λ_=>?_⟩;refine da (λI=>jy w I ae g1 go (W++ly n s i)/\af I H ah [Δ (i:Int)]) ?_ ?_
 rotate_left
 .intro cm aQ;refine aV (λr I=>r= .bool (decide (0<(iA n s i).1\/(iA n s i).2<0))/\I=bG) ?_ ?_
  .rintro _ _ ⟨rfl,rfl⟩;rw[al];refine⟨λp=>?_,λp=>aQ _ ⟨?_,az⟩⟩
   .obtain⟨P,bJ,v,g,aS,bK,bN⟩:=ay;rw[ax (v:=v) Ψ (aS.cell (o:=0) rfl)];refine C az ?_;rw[cW (cs:=#[Δ 1,Δ (i:Int),Δ (-1),Δ (-1)]) Ψ];refine ru ⟨1,i,-1,-1⟩ P bJ aS bK bN U rfl Ω λI E bO=>aQ _ ⟨?_,bO _ _ _ az Φ Φ⟩;unfold ly gh;rw[if_pos p];exact E
   .unfold ly gh;rw[if_neg p,W8];exact ay
  .intro bP Q;rw[bL,al];refine⟨λh1=>Q _ _ ⟨by rw[decide_eq_true (.inl h1)],rfl⟩,λh1=>?_⟩;rw[aR];refine Q _ _ ⟨?_,rfl⟩;congr 1;exact decide_eq_decide.2 ⟨.inr,λh=>h.resolve_left h1⟩
 rintro I ⟨E,aT⟩;have bQ:(W++ly n s i).length<=34*i+1:=by
  have:(ly n s i).length<=1:=kO;rw[r9];omega
 rw[bI,<-V0]at B;generalize W++ly n s i=aC at E B bQ;refine z E.2.1 (C aT ?_);refine(jv (i:=(i:Int)) (h.ext E.1)).mono ?_;rintro _ cn _ ⟨⟨b,m,rfl,aU⟩,bR⟩;refine(mO (b:=b) (n:=m)).mono ?_;rintro _ cp _ ⟨bS,aY,rfl,cq,bT⟩;have aD:=mg aU Ω Z;rw[<-aB]at aD;have aE:=bR.trans bS;refine jJ.old ⟨_,false,iG,#[Γ aY],_,_,_,_,λj w'=>jy w w' ae g1 go (aC++((bk s i).take j).flatMap (h5 n s i))/\af w' H ah [Δ (i:Int)],λ_ _ _=>False,rfl,(mN (g:=aY) aU.1).s,?_,
  λ_ _ J h=>⟨h.1.ext J,h.2.ext J⟩,λ_ _ _ aW h=>⟨h.1.ext aW,h.2.ext aW⟩,λ_ _ _ _ _ h=>h,⟨bT,M.ext (E.1.trans aE)⟩,⟨by simpa using E.ext aE,aT.ext aE⟩,?_,?_,λ_ _ h=>h.elim,λ_ _ _ h=>h.elim⟩
 .rintro _ _ _ _ ⟨_,_,_,_,rfl⟩;rfl
 .rintro _ j _ bU ⟨bV,_⟩ ⟨cr,rfl,v,ad,bW⟩ ⟨q,ab⟩;cases bW;intro aX L _ _;have bX:(bk s i)[j]?=σ (v:Int):=by rw[<-aD,x8,ad];rfl
  have aZ:((bk s i).take (j+1)).flatMap (h5 n s i)=((bk s i).take j).flatMap (h5 n s i)++h5 n s i v:=by
   rw[u9,bX,j5,List.flatMap_append,List.flatMap_singleton]
  have ag:=lA (l:=(bk s i).take j) (f:=h5 n s i) (k:=1) λv _=>kO;rw[n9]at ag;generalize ((bk s i).take j).flatMap (h5 n s i)=a1 at q ag aZ;have a2:aC++((bk s i).take (j+1)).flatMap (h5 n s i)=(aC++a1)++h5 n s i v:=by rw[aZ,V0]
  have G:=q.ext L;have ai:=ab.ext L;have bY:=bV.ext L;refine z G.2.1 (C ai ?_);refine xu (h.ext G.1) λe aF bZ=>?_;rw[bm,bn];intro ct b0 _ _;have a6:=bZ.trans b0;have aj:=G.ext a6;refine z aj.2.1 (z aj.2.1 ?_);refine(tS (h.ext aj.1)).mono ?_;rintro _ cu _ ⟨rfl,aH⟩;refine⟨.inl aH,?_⟩;have a7:=aj.ext aH;refine(j7 (h.ext a7.1)).mono ?_;rintro _ cw _ ⟨rfl,a8⟩;refine(DX y.zero (pK y) y.ew).mono ?_;rintro _ cz _ ⟨rfl,ba⟩;have bb:=(a7.ext a8).ext ba;rw[bm,bn];refine z bb.2.1 ?_;refine(j7 (h.ext bb.1)).mono ?_;rintro _ cA _ ⟨rfl,b1⟩;have aI:=(((a6.trans aH).trans a8).trans ba).trans b1;have aJ:=G.ext aI;have aK:=ai.ext aI;have bc:=bY.ext aI;rw[be,al];refine⟨λp=>?_,λp=>?_⟩
  .obtain⟨P,b2,u,g,bd,b3,b4⟩:=aJ;rw[ax (v:=u) Ψ (bd.cell (o:=0) rfl)];refine C aK ?_;rw[cW (cs:=#[Δ 1,Δ (i:Int),Δ (-1),Δ (v:Int)]) Ψ];refine ru ⟨1,i,-1,v⟩ P b2 bd b3 b4 U rfl (by rw[r9];omega) λcB bg bh=>?_;refine⟨⟨bh _ _ _ bc Φ Φ,M.ext bg.1⟩,⟨?_,bh _ _ _ aK Φ Φ⟩,λh=>by cases h⟩;rw[a2];unfold h5 gh;rw[if_pos p];exact bg
  .refine⟨⟨bc,M.ext aJ.1⟩,⟨?_,aK⟩,λh=>by cases h⟩;rw[a2];unfold h5 gh;rw[if_neg p,W8];exact aJ
 .rintro k bU rfl ⟨q,ab⟩;have b5:(bk s i).take (fN b m).length=bk s i:=b6 (by rw[<-aD,r8];exact o4 _);rw[b5]at q;have ag:=lA (l:=bk s i) (f:=h5 n s i) (k:=1) λv _=>kO;rw[<-V0]at B;generalize (bk s i).flatMap (h5 n s i)=a1 at q B ag;refine z q.2.1 (C ab ?_);refine(Pr (i:=(i:Int)) (h.ext q.1) (M.ext q.1)).mono ?_;rintro r aX _ ⟨L,_,aw⟩;have a:=aw x ad Z;rw[<-aB]at a;have a:r= .tuple #[Δ (pN n s i).1,Δ (pN n s i).2,Δ 0]:=a;subst a;have G:=q.ext L;have ai:=ab.ext L;rw[fK,fL,fM];refine aV (λr aF=>r= .bool (decide (0<(pN n s i).1\/(pN n s i).2<0))/\aF=aX) ?_ ?_
  .rintro _ _ ⟨rfl,rfl⟩;rw[al];refine⟨λp=>?_,λp=>B _ ?_⟩
   .obtain⟨P,b7,v,g,bj,b8,b9⟩:=G;rw[ax (v:=v) Ψ (bj.cell (o:=0) rfl)];refine C ai ?_;rw[cW (cs:=#[Δ 4,Δ (i:Int),Δ (-1),Δ (-1)]) Ψ];refine ru ⟨4,i,-1,-1⟩ P b7 bj b8 b9 U rfl (by rw[r9];omega) λaF ca cC=>B _ ?_;unfold pO gh;rw[if_pos p];exact ca
   .unfold pO gh;rw[if_neg p,W8];exact G
  .intro bP Q;rw[bL,al];refine⟨λh1=>Q _ _ ⟨by rw[decide_eq_true (.inl h1)],rfl⟩,λh1=>?_⟩;rw[aR];refine Q _ _ ⟨?_,rfl⟩;congr 1;exact decide_eq_decide.2 ⟨.inr,λh=>h.resolve_left h1⟩
end
theorem PC{k:o6}{g:Nat}{v:x1}(h:av k e V g v l)(hk:rt V aa)(h1:e≠dc)(a:e≠dA):av k e aa g v l:=
 ⟨h.1,h.2.imp id λ⟨cap,cs,f,p,q⟩=>⟨cap,cs,f,hk _ _ _ p h1 a,q⟩⟩
theorem ka.nil{v:x1}{o:Option (Λ)}(h:ka w B v o):∃a n c,v= .slice a n c/\a.isNone=decide (o=ν):=by
 cases o with
 |none=>exact⟨ν,0,0,h,rfl⟩
 |some tl=>
  obtain⟨h1,g,_,e⟩:=h;obtain⟨_,⟨_,f⟩|⟨cap,cs,rfl,_⟩⟩:=e
  .exact absurd (j6 f) h1
  .exact⟨_,_,_,rfl,rfl⟩
section
variable{w:x3}{ae gT:Nat}{A R:aj}{n:aF}{s:aq}{t:aC}
theorem PD(h:bw w ae gT A R n s t):∀r,A r\/R r->r<w.heap.size:=λr a=>by
 obtain⟨p,q,x,y,⟨_,_,e,f⟩,_⟩:=h.1;exact a.elim (f r) (e r)
theorem PE{p:Nat}{f:ca}(a:br n.k n.sizes s)(ag:s.funs[j]?=σ f)(e:f.live≠0)(h:p<f.sc.length)(ad:v∈bk s (f.sc.getD p 0)):∃x,jw s j p v f (f.sc.getD p 0) x:=by
 have hu:f.sc[p]?=σ (f.sc.getD p 0):=by rw[u4,x6 h,V2]
 have q:=(a.funs f (x5 ag)).1;unfold bk at ad;split at ad
 .rename_i x J;exact⟨x,Ω,by rw[u7];exact ag,e,Ω,by rw[u7];exact hu,(q.scope.1 _ (x5 hu)).1,J,ad⟩
 .cases ad
theorem PF{p:Nat}{f:ca}{x:bG}{r:x1}(z:br n.k n.sizes s)(w:jw s j p v f (f.sc.getD p 0) x)(C:Ed n s j p v r):
  ∃c d e:Int,r= .tuple #[Δ c,Δ d,Δ e]/\(e=0↔f.sc.length=2)/\(f.sc.length=2->p=0->c=(tY n s j f v).1):=by
 obtain⟨h1,E⟩:=C.2 f _ x w;by_cases a:f.sc.length=2
 .have F:=(x4.1 w.hu).1;rw[u7]at F;have A:=(z.funs f (x5 w.ag)).1;obtain⟨o,q⟩:=aJ (l:=f.sc) (i:=(1-(p:Int)).toNat) Ω;have J:=z.vars;have K:=(A.scope.1 _ (x5 q)).1;have L:=A.vars _ (x5 q);obtain⟨y,B⟩:=aJ (l:=s.vars) (i:=o.toNat) Ω;refine⟨_,_,0,E a o y q B,⟨λ_=>a,λ_=>rfl⟩,λ_ G=>?_⟩;subst G;have H:f.sc.getD 1 0=o:=by rw[u4,show f.sc[1]?=σ o from q];rfl
  have I:bk s o=aG y:=by unfold bk;rw[B]
  unfold tY;rw[H,I,u7];rfl
 .exact⟨_,_,1,h1 a,⟨(λh=>by cases h),λh=>absurd h a⟩,λh=>absurd h a⟩
theorem PG(h:bw w ae gT A R n s t)(O:Laid w)(dv:s.funs.length<=100000):am x7 Gu [Γ ae] w λv w'=>Ext w w'/\∃g,h7 w' g v (mj n s s.funs.length)/\∀r,leadsTo v r->w.heap.size<=r:=by
 have G:=h.2.2.2.1;have dw:=G.fq.2.1;refine hr func23 ?_;refine bf λg1 V dx aK ap=>?_;have ap:af V g1 db [Γ ae]:=ap;refine bx dA.i λgo aa aM P aO=>?_;have aO:af aa go dA [.slice ν 0 0]:=aO;have dy:=aK.size;have dz:=P.size;rw[ax (v:=Γ ae) Ψ ((ap.ext P).cell (o:=0) rfl)];refine(rj (h.ext (aK.trans P))).mono ?_;rintro _ dC _ ⟨rfl,aP⟩;have aM:w.heap.size<=go:=Ω
 have Q:∀{y:x3}{K:x1->Prop},af y g1 db [Γ ae]->K (Γ ae)->ac x7 (u5 db (Γ g1)) y K:=λaQ aR=>by
  rw[ax (v:=Γ ae) Ψ (aQ.cell (o:=0) rfl)];exact aR
 have E:∀{y:x3}{b:Nat}{z:Int}{K:x1->Prop},af y b ah [Δ z]->K (Δ z)->ac x7 (u5 ah (Γ b)) y K:=λ{y b z K}aQ aR=>by
  rw[ax (v:=Δ z) Ψ (aQ.cell (o:=0) rfl)];exact aR
 refine ck.range s.funs.length (λj aS=>jy w aS ae g1 go (mj n s j)) Ω ⟨(aK.trans P).trans aP,(ap.ext P).ext aP,_,0,aO.ext aP,bi.nil _ _ _ _ _,λr I=>(e1 I).elim⟩ ?_ ?_
 rotate_left
 .rintro aS cn ⟨cp,_,v,g,cq,cr,ct⟩;refine cE Ω ?_;rw[ax (v:=v) Ψ (cq.cell (o:=0) rfl)];intro aT bu _;exact⟨cp.trans bu,g,cr.ext bu,ct⟩
 rintro j aS cn cu bz cw;have bA:mj n s (j+1)=mj n s j++kb n s j:=xz j;have cz:=Ei (m:=j) G;generalize mj n s j=aq at bz bA cz;refine bM Ω ?_;refine da (λaT=>jy w aT ae g1 go (aq++kb n s j)) (λaT cA=>?_) λaA aU=>?_
 .rw[aN];exact cw _ (by rw[bA];exact cA)
 obtain⟨f,ag⟩:=aJ (l:=s.funs) cu;refine bx ah.i λS dD dE cB cC=>?_;refine bl (g:=S) (o:=0) (v:=Δ (j:Int)) ah.i rfl rfl cC Φ λcD cF dF au=>?_;have au:af cD S ah [Δ (j:Int)]:=au;have aW:=bz.ext (cB.put cF Ω);refine Q aW.2.1 (E au ?_);refine(rk (j:=(j:Int)) (h.ext aW.1)).mono ?_;rintro _ dG _ ⟨rfl,bB⟩;have aw:=aW.ext bB;have bC:=au.ext bB;rw[decide_eq_true Ω,T5,u7];have cG:e7 s j=decide (f.live≠0):=by unfold e7;rw[ag]
 rw[cG,bH,b2];have bD:kb n s j=if f.live≠0 then(X0 f.sc.length).flatMap (h6 n s j f)else[]:=by unfold kb;rw[ag]
 refine⟨λU=>aU _ ?_,λW=>?_⟩
 .rw[bD,if_neg (by simpa using U),W8];exact aw
 have bF:f.live≠0:=by simpa using W
 rw[bD,if_pos bF]at aU;have dH:f.sc.length<=6:=(G.funs f (x5 ag)).1.scope.2;refine Q aw.2.1 (E bC ?_);refine(kL (h.ext aw.1) ag).mono ?_;rintro aL dI _ ⟨bG,bE,_,bI⟩;have cH:=aw.ext bG;have cI:=bC.ext bG;rw[aX an.u bI.ls];refine ck.range f.sc.length (λp L=>jy w L ae g1 go (aq++(X0 p).flatMap (h6 n s j f))/\af L S ah [Δ (j:Int)]/\av .i64 ah L bE aL f.sc) Ω ⟨by simpa using cH,cI,bI⟩ ?_ ?_
 rotate_left
 .rintro L cJ ⟨ay,_⟩;refine cE Ω ?_;exact aU _ ay
 rintro p L cJ az ⟨ay,cK,bJ⟩ X;have cL:(X0 (p+1)).flatMap (h6 n s j f)=(X0 p).flatMap (h6 n s j f)++h6 n s j f p:=xz p;have cM:=lA (l:=X0 p) (f:=h6 n s j f) (k:=64) λv _=>Eh G;rw[List.length_range]at cM;rw[cL,<-V0]at X;have cN:(aq++(X0 p).flatMap (h6 n s j f)).length<=384*j+384:=by rw[r9];omega
 generalize aq++(X0 p).flatMap (h6 n s j f)=Y at ay X cN;have hu:f.sc[p]?=σ (f.sc.getD p 0):=by rw[u4,x6 az,V2]
 have bK:=(G.funs f (x5 ag)).1;have bN:=(bK.scope.1 _ (x5 hu)).1;have cO:=bK.vars _ (x5 hu);have bO:=λv (ad:v∈bk s (f.sc.getD p 0))=>PE (n:=n) G ag bF az ad;have cP:h6 n s j f p=(bk s (f.sc.getD p 0)).flatMap λv=>fv n s j f p (f.sc.getD p 0) v++gQ n s j f p (f.sc.getD p 0) v:=rfl;have bP:=λv x r (az:jw s j p v f (f.sc.getD p 0) x)=>PF (n:=n) (r:=r) G az;rw[cP]at X;generalize bQ:f.sc.getD p 0=u at hu bN cO bO X bP;have aZ:=G.vars;obtain⟨x,bR⟩:=aJ (l:=s.vars) (i:=u.toNat) Ω;have cQ:bk s u=aG x:=by unfold bk;rw[bR]
 refine bM Ω ?_;rw[bg an.u ah.i Ψ bJ.ls hu];refine bx ah.i λbj dJ dK bS bT=>?_;refine bx ah.i λZ dL dM a1 cR=>?_;have dN:=bT.lt;have dO:=bS.size;have z12:=a1.size;refine bl (g:=bj) (o:=0) (v:=Δ (p:Int)) ah.i rfl rfl (bT.ext a1) Φ λcS bU dP a2=>?_;have a2:af cS bj ah [Δ (p:Int)]:=a2;refine bl (g:=Z) (o:=0) (v:=Δ u) ah.i rfl rfl (cR.ab bU Ω) Φ λbV bW dQ aB=>?_;have aB:af bV Z ah [Δ u]:=aB;have cT:=a2.ab bW Ω;have a6:Ext L bV:=((bS.trans a1).then bU λr I he=>by have he:r=bj:=he;omega).then bW λr I he=>by have he:r=Z:=he;omega
 have aC:=ay.ext a6;have cU:=cK.ext a6;have cV:=bJ.ext a6;refine Q aC.2.1 (E aB ?_);refine(jv (i:=u) (h.ext aC.1)).mono ?_;rintro _ dR _ ⟨⟨b,m,rfl,bX⟩,cX⟩;refine(mO (b:=b) (n:=m)).mono ?_;rintro _ cY _ ⟨cZ,aY,rfl,dS,bY⟩;have a7:=mg bX bN bR;rw[<-cQ]at a7;have M:=cX.trans cZ;have dT:=tZ (i:=u) G;have c0:∀v,(fv n s j f p u v++gQ n s j f p u v).length<=2:=λv=>by
  have h1:(fv n s j f p u v).length<=1:=kO;have a8:(gQ n s j f p u v).length<=1:=kO;rw[r9];omega
 obtain⟨C,H⟩:∃C:x3->Prop,C=λy=>af y S ah [Δ (j:Int)]/\af y bj ah [Δ (p:Int)]/\af y Z ah [Δ u]/\av .i64 ah y bE aL f.sc/\af y aY bZ [.int .u64 (b:Int),Δ (m:Int)]:=⟨_,rfl⟩;have ba:∀{ai y:x3},C ai->rt ai y->C y:=λB hk=>by
  rw[H]at B ⊢;obtain⟨c1,c2,c3,c4,c5⟩:=B;exact⟨hk _ _ _ c1 Φ Φ,hk _ _ _ c2 Φ Φ,hk _ _ _ c3 Φ Φ,PC c4 hk Φ Φ,hk _ _ _ c5 Φ Φ⟩
 have aD:∀{ai y:x3},C ai->Ext ai y->C y:=λB J=>ba B (.ext J);have aj:∀{y:x3},C y->af y S ah [Δ (j:Int)]:=λB=>by rw[H]at B;exact B.1
 have bb:∀{y:x3},C y->af y bj ah [Δ (p:Int)]:=λB=>by rw[H]at B;exact B.2.1
 have b0:∀{y:x3},C y->af y Z ah [Δ u]:=λB=>by rw[H]at B;exact B.2.2.1
 have c6:∀{y:x3},C y->av .i64 ah y bE aL f.sc:=λB=>by rw[H]at B;exact B.2.2.2.1
 have b1:∀{y:x3},C y->af y aY bZ [.int .u64 (b:Int),Δ (m:Int)]:=λB=>by rw[H]at B;exact B.2.2.2.2
 have c7:C cY:=by rw[H];exact⟨cU.ext M,cT.ext M,aB.ext M,cV.ext M,bY⟩
 clear H;refine jJ.old ⟨_,false,iG,#[Γ aY],_,_,_,_,λq w'=>jy w w' ae g1 go (Y++((bk s u).take q).flatMap λv=>fv n s j f p u v++gQ n s j f p u v)/\C w',λ_ _ _=>False,rfl,(mN (g:=aY) bX.1).s,?_,
  λ_ _ J h=>⟨h.1.ext J,h.2.ext J⟩,λ_ _ _ b3 h=>⟨h.1.ext b3,aD h.2 b3⟩,λ_ _ _ _ _ h=>h,⟨bY,O.ext (aC.1.trans M)⟩,⟨by simpa using aC.ext M,c7⟩,?_,?_,λ_ _ h=>h.elim,λ_ _ _ h=>h.elim⟩
 .rintro _ _ _ _ ⟨_,_,_,_,rfl⟩;rfl
 rotate_left
 .rintro q c8 rfl ⟨ak,aE⟩;have c9:(bk s u).take (fN b m).length=bk s u:=b6 (by rw[<-a7,r8];exact o4 _);rw[c9]at ak;rw[aN];exact X _ ⟨ak,aj aE,c6 aE⟩
 rintro _ q _ c8 ⟨_,_⟩ ⟨dU,rfl,v,ad,dc⟩ ⟨ak,aE⟩;cases dc;intro dV b4 _ _;have aZ:(bk s u)[q]?=σ (v:Int):=by rw[<-a7,x8,ad];rfl
 obtain⟨b5,bc⟩:=bO v (x5 aZ);have dd:((bk s u).take (q+1)).flatMap (λv=>fv n s j f p u v++gQ n s j f p u v)=((bk s u).take q).flatMap (λv=>fv n s j f p u v++gQ n s j f p u v)++(fv n s j f p u v++gQ n s j f p u v):=by
  rw[u9,aZ,j5,List.flatMap_append,List.flatMap_singleton]
 have de:=lA (l:=(bk s u).take q) (f:=λv=>fv n s j f p u v++gQ n s j f p u v) (k:=2) λv _=>c0 v;rw[n9]at de;have df:(Y++((bk s u).take q).flatMap λv=>fv n s j f p u v++gQ n s j f p u v).length<=384*j+448:=by rw[r9];omega
 have aF:Y++((bk s u).take (q+1)).flatMap (λv=>fv n s j f p u v++gQ n s j f p u v)=(Y++((bk s u).take q).flatMap (λv=>fv n s j f p u v++gQ n s j f p u v))++fv n s j f p u v++gQ n s j f p u v:=by rw[dd,V0,V0]
 generalize Y++((bk s u).take q).flatMap (λv=>fv n s j f p u v++gQ n s j f p u v)=bd at ak df aF;have aH:=ak.ext b4;have bh:=aD aE b4;have dW:(fv n s j f p u v).length<=1:=kO;refine da (λbm=>jy w bm ae g1 go (bd++fv n s j f p u v)/\C bm) ?_ ?_
 .rintro bm ⟨ao,bn⟩;have dg:(bd++fv n s j f p u v).length<=384*j+449:=by rw[r9];omega
  generalize bd++fv n s j f p u v=dX at ao dg aF;refine Q ao.2.1 (E (aj bn) (E (bb bn) ?_));refine(Pj (j:=(j:Int)) (pos:=(p:Int)) (v:=(v:Int)) (h.ext ao.1) (O.ext ao.1)).mono ?_;rintro r dh _ ⟨b7,I⟩;obtain⟨c,d,e,rfl,he,di⟩:=bP v b5 r bc I;have bo:=ao.ext b7;have N:=aD bn b7;rw[fK,fL,fM];refine aV (λr b8=>r= .bool (decide (f.sc.length=2/\p=0/\0<(tY n s j f v).1))/\b8=dh) ?_ ?_
  .rintro _ _ ⟨rfl,rfl⟩;rw[al];refine⟨λW=>?_,λU=>?_⟩
   .obtain⟨bp,dj,o,g,b9,dk,dl⟩:=bo;rw[ax (v:=o) Ψ (b9.cell (o:=0) rfl)];refine E (b0 N) (E (aj N) ?_);rw[cW (cs:=#[Δ 3,Δ u,Δ (j:Int),Δ (v:Int)]) Ψ];refine ru ⟨3,u,j,v⟩ bp dj b9 dk dl aM rfl Ω λb8 ca dm=>?_;have cb:=ba N dm;refine⟨⟨b1 cb,O.ext ca.1⟩,⟨?_,cb⟩,λh=>by cases h⟩;rw[aF];unfold gQ gh;rw[if_pos W];exact ca
   .refine⟨⟨b1 N,O.ext bo.1⟩,⟨?_,N⟩,λh=>by cases h⟩;rw[aF];unfold gQ gh;rw[if_neg U,W8];exact bo
  .intro dY bq;rw[be,al];refine⟨λbr=>?_,λbr=>bq _ _ ⟨by rw[decide_eq_false λh=>br (he.2 h.1)],rfl⟩⟩;have a8:=he.1 br;refine E (bb N) ?_;rw[be,al];refine⟨λcc=>?_,λcc=>bq _ _ ⟨by rw[decide_eq_false λh=>cc Ω],rfl⟩⟩;rw[bL];refine bq _ _ ⟨?_,rfl⟩;congr 1;rw[<-di a8 Ω];exact decide_eq_decide.2 ⟨λh=>⟨a8,Ω,h⟩,λh=>h.2.2⟩
 .intro dZ cd;refine Q aH.2.1 (E (aj bh) (E (bb bh) ?_));have ce:=h.ext aH.1;refine(Pu (j:=(j:Int)) (pos:=(p:Int)) (v:=(v:Int)) ce (O.ext aH.1) (PD ce)).mono ?_;rintro r dn _ ⟨cg,_,I⟩;obtain⟨ea,rfl,bt⟩:=I f u b5 (by rw[<-bQ];rw[<-bQ]at bc;exact bc);simp only[u7]at bt ⊢;have ch:hj n.k (eL s j) (fu s f.sc p f.sc.length 0 ((p8 f.sc.length 0).set p (v:Int)))=rp n s j f p v:=rfl;rw[ch]at bt;rw[ch];obtain⟨a,eb,ec,rfl,dp⟩:=bt.nil;have ci:=aH.ext cg;have aI:=aD bh cg;rw[fK,fL,fM];refine aV (λr cj=>r= .bool (decide (0<(rp n s j f p v).1\/(rp n s j f p v).2=ν))/\cj=dn) ?_ ?_
  .rintro _ _ ⟨rfl,rfl⟩;rw[al];refine⟨λW=>?_,λU=>cd _ ⟨?_,aI⟩⟩
   .obtain⟨bp,dq,o,g,cl,dr,ds⟩:=ci;rw[ax (v:=o) Ψ (cl.cell (o:=0) rfl)];refine E (b0 aI) (E (aj aI) ?_);rw[cW (cs:=#[Δ 2,Δ u,Δ (j:Int),Δ (v:Int)]) Ψ];refine ru ⟨2,u,j,v⟩ bp dq cl dr ds aM rfl Ω λcj dt du=>cd _ ⟨?_,ba aI du⟩;unfold fv gh;rw[if_pos W];exact dt
   .unfold fv gh;rw[if_neg U,W8];exact ci
  .intro ed cm;rw[bL,al];refine⟨λh1=>cm _ _ ⟨by rw[decide_eq_true (.inl h1)],rfl⟩,λh1=>?_⟩;rw[oX an.u,dp];refine cm _ _ ⟨?_,rfl⟩;congr 1;exact decide_eq_decide.2 ⟨.inr,λh=>h.resolve_left h1⟩
end
def oq(l:Λ):Int:=(l.find? λx=>decide (x≠0)).getD 0
theorem PH{f:x1}(h:aI .i64 w f l):am x7 zn [f] w λv w'=>v=Δ (oq l)/\Ext w w':=by
 refine az func28 ?_;rw[aX an.u h];refine cb.range l.length (λi _ V=>Ext w V/\oq l=oq (l.drop i)) h.le ⟨Ext.refl _,Ξ⟩ ?_ ?_
 .rintro i _ V k hi ⟨a,h1⟩ hk;refine bM Ω ?_;obtain⟨y,p⟩:=aJ (l:=l) hi;have e:l.drop i=y::l.drop (i+1):=by rw[X6 hi,(x4.1 p).2]
  rw[bg an.u ah.i Ψ (h.ext a) p,bC,al];refine⟨λq=>⟨?_,a⟩,λhe=>?_⟩
  .rw[h1,e];unfold oq;rw[List.find?_cons,decide_eq_true q];rfl
  .rw[aN];refine hk _ _ ⟨a,?_⟩;rw[h1,e];unfold oq;rw[List.find?_cons,decide_eq_false he]
 .rintro _ V k ⟨a,h1⟩;rw[List.drop_length]at h1;rw[aR,al];exact⟨λh=>Ω,λ_=>⟨by rw[h1];rfl,a⟩⟩
theorem PI(a b:c6):oq [fw a.eW b.eW,fw a.i b.i,fw a.j b.j,fw a.v b.v]=pQ a b:=by
 unfold oq pQ;by_cases h1:fw a.eW b.eW≠0
 .simp[h1]
 by_cases e:fw a.i b.i≠0
 .simp[h1,e]
 by_cases f:fw a.j b.j≠0
 .simp[h1,e,f]
 by_cases h:fw a.v b.v≠0
 .simp[h1,e,f,h]
 .simp[h1,e,f,h];omega
def lB:List (Λ):=[[110,111,110,101],[110,99],[97,99],[102,100,97,99],[101,100,97,99]]
def ir(level:Int):Λ:=if 0<=level then lB.getD level.toNat []else[]
theorem PJ(level:Int):Bytes (ir level):=by
 unfold ir;split
 .rw[u4];cases h:lB[level.toNat]? with
  |none=>intro b a;cases a
  |some l=>
   have:∀l∈lB,∀b∈l,0<=b/\b<256:=Φ
   exact this l (x5 h)
 .intro b a;cases a
theorem xA(level:Int):ir level=[]↔¬(0<=level/\level<5):=by
 unfold ir;by_cases h:0<=level/\level<5
 .rw[if_pos h.1,u4];have e:level.toNat<lB.length:=by show _<5;omega
  rw[x6 e,V2];have:∀l∈lB,l≠[]:=Φ
  exact⟨λa=>absurd a (this _ (S0 e)),λa=>absurd h a⟩
 .refine⟨λ_=>h,λ_=>?_⟩;split
  .rw[u4,Z2 (by show 5<=_;omega),Option.getD_none]
  .rfl
section
variable{w:x3}{ae gT:Nat}{A R:aj}{n:aF}{s:aq}{t:aC}{level:Int}
theorem PK:am x7 Gs [Δ level] w λv w'=>Ext w w'/\v=bI (ir level):=by
 refine az func21 ?_;rw[cW (cs:=(lB.map bI).toArray) Ψ];refine bx mB.i λg V A s x=>?_;refine vz (k:=5) (o:=0) (vs:=lB.map bI) mB.i rfl (by intro u hu;obtain⟨l,_,rfl⟩:=j4.1 hu;rfl) x Φ λaa y B a=>?_;have a:af aa g mB (lB.map bI):=by rw[Aa (by rfl)]at a;exact a
 have f:Ext w aa:=s.put y Ω;refine aV (λr z=>r= .bool (decide (¬(0<=level/\level<5)))/\z=aa) ?_ ?_
 .rintro _ _ ⟨rfl,rfl⟩;rw[al];refine⟨λh=>⟨f,?_⟩,λh=>?_⟩
  .rw[(xA level).2 h];rfl
  have h:=Z9.1 h;have p:level.toNat<lB.length:=by show _<5;omega
  have e:ir level=lB[level.toNat]:=by unfold ir;rw[if_pos h.1,u4,x6 p];rfl
  rw[show level=((level.toNat:Nat):Int) by omega,sy mB.u cP.i Ω,
   ax (v:=bI (ir level)) Ψ (a.cell (by rw[X2,U1,x8,x6 p,e];rfl)),show((level.toNat:Nat):Int)=level by omega]
  exact⟨f,rfl⟩
 .intro aA q;rw[aR,al];refine⟨λh1=>q _ _ ⟨by rw[decide_eq_true Ω],rfl⟩,λh1=>?_⟩;rw[cM];refine q _ _ ⟨?_,rfl⟩;congr 1;exact decide_eq_decide.2 ⟨λh=>Ω,λh=>Ω⟩
theorem PL{a:c6}{f:Nat}(q:af w f ah [Δ level]):am x7 Gw [.agg (fV a).toArray,Γ f] w λr w'=>r= .bool (decide (level<a.eW))/\Ext w w':=by
 refine az func25 ?_;refine bf λg1 V s h e=>?_;have e:af V g1 dc (fV a):=e;rw[aT dc.p 0 e rfl,ax (v:=Δ level) Ψ ((q.ext h).cell (o:=0) rfl),bL];exact⟨rfl,h⟩
theorem PM{a b:c6}:am x7 zm [.agg (fV a).toArray,.agg (fV b).toArray] w λu w'=>Ext w w'/\u=Δ (pQ a b):=by
 refine az func27 ?_;refine bf λg1 V I A q=>?_;refine bf λB aa J y r=>?_;have q:af aa g1 dc (fV a):=af.ext q y;have r:af aa B dc (fV b):=r;intro K s _ _;have e:=q.ext s;have f:=r.ext s;rw[aU dc.p rfl,ax (v:=Δ a.eW) (o:=0+0) Ψ (e.cell rfl),aU dc.p rfl,ax (v:=Δ b.eW) (o:=0+0) Ψ (f.cell rfl),
  aU dc.p rfl,ax (v:=Δ a.i) (o:=0+1) Ψ (e.cell rfl),aU dc.p rfl,ax (v:=Δ b.i) (o:=0+1) Ψ (f.cell rfl),
  aU dc.p rfl,ax (v:=Δ a.j) (o:=0+2) Ψ (e.cell rfl),aU dc.p rfl,ax (v:=Δ b.j) (o:=0+2) Ψ (f.cell rfl),
  aU dc.p rfl,ax (v:=Δ a.v) (o:=0+3) Ψ (e.cell rfl),aU dc.p rfl,ax (v:=Δ b.v) (o:=0+3) Ψ (f.cell rfl)]
 refine pA.mono ?_;rintro _ L _ ⟨rfl,h⟩;refine⟨.inl h,?_⟩;refine pA.mono ?_;rintro _ M _ ⟨rfl,x⟩;refine⟨.inl (h.trans x),?_⟩;refine pA.mono ?_;rintro _ N _ ⟨rfl,z⟩;refine⟨.inl ((h.trans x).trans z),?_⟩;refine pA.mono ?_;rintro _ O _ ⟨rfl,C⟩;refine qp (l:=[fw a.eW b.eW,fw a.i b.i,fw a.j b.j,fw a.v b.v]) an.u ah.i Ω rfl Ψ λP Q R S E G=>?_;refine(PH G.ls).mono ?_;rintro _ U _ ⟨rfl,H⟩;exact⟨((((((A.trans y).trans s).trans h).trans x).trans z).trans C).trans (E.trans H),by rw[PI]⟩
def El(M:List c6):Prop:=∀(p q:Nat)(x y:c6),p<q->M[p]?=σ x->M[q]?=σ y->pP x<=pP y
theorem PN{g:Nat}{v:x1}{L:List c6}(h:h7 w g v L)(p:L.length<65536)(q:s.funs.length<=100000000)(x:∀a∈L,rq n s a):
  am x7 Gx [v,.func (.func zm) #[] #[]] w λ_ w'=>ai (λr=>leadsTo v r) w w'/\∃M,M.Perm L/\El M/\h7 w' g v M:=
 wn Ly (G:=rq n s) (num:=pP) (cf:=pQ) (cap:=#[]) LG LH (λa _=>rr a) (λa _=>rfl) (λa b e f=>Px q e f) (Enters.of x7 LI rfl Ψ) h x p λy a b z e f=>PM
def PO(n:aF)(s:aq)(level:Int)(B:Nat)(w':x3)(r:x1):Prop:=(¬(0<=level/\level<5)->r= .tuple #[.slice ν 0 0,Δ 1])/\
 ((0<=level/\level<5)->∃v g M,r= .tuple #[v,Δ 0]/\h7 w' g v M/\M.Perm (gE n s level)/\El M/\∀r,leadsTo v r->B<=r)
theorem uc(h:bw w ae gT A R n s t)(N:Laid w)(ay:s.funs.length<=160):am x7 Gk [Γ ae,Δ level] w λr w'=>Ext w w'/\PO n s level w.heap.size w' r:=by
 have y:=h.2.2.2.1;have aA:=y.fq.2.1;refine az func9 ?_;refine bf λz V aB O f=>?_;have f:af V z ah [Δ level]:=f;rw[de db.u];simp only[Z5,a1];rw[ax (v:=Δ level) Ψ (f.cell (o:=0) rfl)];refine PK.mono ?_;rintro _ aa _ ⟨q,rfl⟩;rw[show(x1.string ⟨#[]⟩)=bI []from rfl,vJ (PJ level) (λb W=>by cases W),al];refine⟨λG=>⟨O.trans q,λ_=>rfl,λh1=>absurd h1 ((xA level).1 G)⟩,λG=>?_⟩;have X:0<=level/\level<5:=Z9.1 λh1=>G ((xA level).2 h1);have B:=O.trans q;refine(PB (h.ext B) (N.ext B)).mono ?_;rintro v3 aC _ ⟨H,aD,Y,I⟩;have J:=B.trans H;refine(PG (h.ext J) (N.ext J) Ω).mono ?_;rintro v4 aE _ ⟨C,aF,Z,aG⟩;have ac:=J.trans C;have aH:=Eg (m:=n.sizes.length) y;have aI:=Ei (m:=s.funs.length) y;have aJ:=B.size;have z3:=H.size;have z4:=C.size;refine tP dA.u dc.i rfl (Y.ext C) Z.sl (λ_ _=>rfl) (λa _=>rr a) Ω Ω λv5 P K L ad Q=>?_;rw[ig];have L:h7 K P v5 (lz n s):=L;have ag:(lz n s).length<=65000:=by unfold lz;rw[r9];omega
 have E:∀r,leadsTo v5 r->aa.heap.size<=r:=λr e=>(ad r e).elim (I r) λh=>Ω
 have ai:Ext w K:=ac.then Q λr e he=>by have:=I r he;omega
 have aK:=f.lt;have aj:af K z ah [Δ level]:=(((f.ext q).ext H).ext C).ab Q λhe=>by have:=I z he;have:=q.size;omega
 refine(Pz (p:=λa=>decide (level<a.eW)) L Ω λw' x ak _=>PL (aj.ab ak λhe=>by have:=E z he;have:=q.size;omega)).mono ?_;rintro an aL _ ⟨ao,S,U⟩;have ap:(lz n s).filter (λa=>!decide (level<a.eW))=gE n s level:=by
  unfold gE;refine List.filter_congr λa _=>?_;by_cases h1:level<a.eW
  .rw[decide_eq_true h1,decide_eq_false Ω];rfl
  .rw[decide_eq_false h1,decide_eq_true Ω];rfl
 rw[ap]at S;have aM:(gE n s level).length<=65000:=Y8 (R3 _ _) ag;refine(PN (s:=s) (n:=n) S Ω Ω λa aq=>Ek y ((T3.1 aq).1)).mono ?_;rintro _ aN _ ⟨au,M,av,hu,aw⟩;refine⟨(ai.then ao λr e he=>by have:=E r he;omega).then au λr e he=>by have:=E r (U r he);omega,λh1=>absurd X h1,λ_=>⟨an,P,M,rfl,aw,av,hu,λr e=>by have:=E r (U r e);omega⟩⟩
theorem PP(h:bw w ae gT A R n s t)(y:Laid w)(z:s.funs.length<=160):am x7 Gl [Γ ae,Δ level] w λr w'=>Ext w w'/\(¬(0<=level/\level<5)->r= .tuple #[.bool false,Δ 1])/\((0<=level/\level<5)->r= .tuple #[.bool (decide (gE n s level=[])),Δ 0]):=by
 refine az func11 ?_;refine(uc h y z).mono ?_;rintro r V _ ⟨q,B,C⟩;by_cases e:0<=level/\level<5
 .obtain⟨v,g,M,rfl,hm,E,_⟩:=C e;rw[bm,bn];refine ic (λa b aa=>a= .bool (decide (gE n s level=[]))/\b=Δ 0/\aa=V) ?_ ?_
  .rintro _ _ _ ⟨rfl,rfl,rfl⟩;exact⟨q,λh=>absurd e h,λ_=>rfl⟩
  .intro aA f;rw[be,al];refine⟨λ_=>?_,λh=>absurd rfl h⟩;rw[ee dA.u hm,be];refine f _ _ _ ⟨?_,rfl,rfl⟩;congr 1;have p:=E.length_eq;refine decide_eq_decide.2 ⟨λx=>j6 Ω,λx=>?_⟩;rw[x]at p;simp at p;simp[p]
 .obtain rfl:=B e;rw[bm,bn];refine ic (λa b aa=>a= .bool false/\b=Δ 1/\aa=V) ?_ ?_
  .rintro _ _ _ ⟨rfl,rfl,rfl⟩;exact⟨q,λ_=>rfl,λh=>absurd h e⟩
  .intro aA f;rw[be,al];exact⟨λh=>absurd h Φ,λ_=>f _ _ _ ⟨rfl,rfl,rfl⟩⟩
end
def jz(s:aq)(pos:Nat)(v:Int):Λ->Nat->List (Λ)
 |[],_=>[]
 |u::sc,p=>(if p=pos then[v]else bk s u)::jz s pos v sc (p+1)
def cm(s:aq)(sc:Λ)(pos:Nat)(v:Int):List (Λ):=iy (jz s pos v sc 0)
def ot(s:aq)(pos:Nat)(v:Int):Λ->Nat->List (Int->Bool)
 |[],_=>[]
 |u::sc,p=>(λx=>(decide (p=pos->x=v))&&decide (x∈bk s u))::ot s pos v sc (p+1)
theorem PQ(h:0<=v/\v<k):(hL k).filter (λx=>decide (x=v))=[v]:=by
 have f:(hL k).Nodup:=by
  unfold hL;exact List.Pairwise.map _ (λa b s=>Ω) List.nodup_range
 have hm:v∈hL k:=tW.2 h;generalize hL k=l at f hm;induction l with
 |nil=>cases hm
 |cons a l q=>
  have p:=List.nodup_cons.1 f;by_cases e:a=v
  .subst e;rw[List.filter_cons_of_pos Ξ,List.filter_eq_nil_iff.2 λx J=>by simp;intro r;exact p.1 (r▸J)]
  .rw[List.filter_cons_of_neg (by simpa using e)];exact q p.2 ((V3.1 hm).resolve_left (Ne.symm e))
section
variable{k:Int}{sizes:Λ}{s:aq}{v:Int}{pos:Nat}
theorem PR{u:Int}(a:br k sizes s)(h:0<=u/\u<sizes.length):(hL (sizes.getD u.toNat 0)).filter (λx=>decide (x∈bk s u))=bk s u:=by
 have w:=a.vars;obtain⟨x,J⟩:=aJ (l:=s.vars) (i:=u.toNat) Ω;obtain⟨z,f⟩:=aJ (l:=sizes) (i:=u.toNat) Ω;have h1:=(a.var _ x z J f).1;have e:bk s u=aG x:=by unfold bk;rw[J]
 have p:sizes.getD u.toNat 0=z:=by rw[u4,f];rfl
 have A:=a.fq.2.2 z (x5 f);have q:aG x=(hL z).filter λv=>!dropped x.mask v:=by unfold aG hL;rw[h1]
 rw[e,p,q];refine List.filter_congr λy r=>?_;simp[T3,r]
theorem Em(w:br k sizes s):∀(sc:Λ)(p:Nat),(∀u∈sc,0<=u/\u<sizes.length)->(∀u,p<=pos->sc[pos-p]?=σ u->v∈bk s u)->
  jz s pos v sc p=(((bX sizes sc).map hL).zip (ot s pos v sc p)).map λq=>q.1.filter q.2
 |[],p,_,_=>rfl
 |u::sc,p,hu,ad=>by
  have y:=Em w sc (p+1) (λu h=>hu u (.tail _ h)) λu' a h=>ad u' Ω (by rw[show pos-p=(pos-(p+1))+1 by omega];exact h);have z:=hu u (.head _);have f:=PR (s:=s) w z;show(if p=pos then[v]else bk s u)::jz s pos v sc (p+1)=(hL (sizes.getD u.toNat 0)).filter (λx=>decide (p=pos->x=v)&&decide (x∈bk s u))::((((bX sizes sc).map hL).zip (ot s pos v sc (p+1))).map λq=>q.1.filter q.2);rw[<-y];congr 1;by_cases a:p=pos
  .rw[if_pos a];have r:v∈bk s u:=ad u Ω (by rw[a,U3];rfl);have A:v∈hL (sizes.getD u.toNat 0):=by rw[<-f]at r;exact(T3.1 r).1
   rw[<-PQ (tW.1 A)];refine List.filter_congr λx _=>?_;by_cases e:x=v
   .subst e;simp[r]
   .simp[e,a]
  .rw[if_neg a,<-f];refine(List.filter_congr λx J=>?_).symm;rw[f];simp[a]
theorem En:∀(sc:Λ)(p:Nat),(ot s pos v sc p).length=sc.length
 |[],_=>rfl
 |u::sc,p=>by unfold ot;rw[c8,En sc (p+1),c8]
theorem xB(a:br k sizes s)(e:∀u∈sc,0<=u/\u<sizes.length)(ad:∀u,sc[pos]?=σ u->v∈bk s u):
  cm s sc pos v=(bp (bX sizes sc)).filter (m8 (ot s pos v sc 0)):=by
 unfold cm;rw[Em a sc 0 e λu _ h=>ad u h,D2 _ _ (by rw[En,r8];unfold bX;rw[r8]),xq]
end
theorem xC{k:Int}:∀(l:Λ)(z:Int),z<=k->(∀c∈l,0<=c)->l.foldl (λa c=>min (a+c) k) z=min (z+l.sum) k
 |[],z,h,_=>Θ
 |c::l,z,h,e=>by
  have U:∀(l:Λ),(∀c∈l,0<=c)->0<=l.sum:=λl=>by
   induction l with
   |nil=>intro _;simp
   |cons a l f=>intro h;have:=f λc e=>h c (.tail _ e);have:=h a (.head _);rw[List.sum_cons];omega
  have h1:=e c (.head _);have p:=U l λc h=>e c (.tail _ h);rw[S1,xC l _ Ω λc h=>e c (.tail _ h),List.sum_cons];omega
def dx(p:bG×Int):Int:=if p.1.gone≠0 then 0 else p.1.un.getD p.2.toNat 0
def fd(a:Λ)(f:ca):Int:=if f.live≠0 then bt f.ak f.cs (q9 a f.sc)else 0
theorem foldl_map'{α β e:Type}(g:α->β)(h:e->β->e)(h':e->α->e)(P:e->Prop)(aB:∀c a,P c->h' c a=h c (g a))(f:∀c a,P c->P (h' c a)):∀(l:List α)(c:e),P c->l.foldl h' c=(l.map g).foldl h c
 |[],_,_=>rfl
 |a::l,c,p=>by
  rw[S1,U6,S1,<-aB c a p];exact foldl_map' g h h' P aB f l _ (f c a p)
theorem xD{i:Nat}{x y:Int}(h:l[i]?=σ x):(l.set i y).sum=l.sum-x+y:=by
 induction l generalizing i with
 |nil=>simp at h
 |cons a l e=>
  cases i with
  |zero=>simp at h;subst h;rw[List.set_cons_zero,List.sum_cons,List.sum_cons];omega
  |succ i=>
   rw[List.set_cons_succ,List.sum_cons,List.sum_cons,e (by simpa using h)];omega
def dL(k a c:Int):Int:=if a=k then k else a-c
def dp(k a c:Int):Int:=min (a+c) k
theorem ud{r g u:Int}(a:0<=r)(e:c<=g/\g<=k)(hu:0<=u/\u<=k)(f:0<=c):min (r+dL k g c+dp k u c) k=min (r+g+u) k:=by
 unfold dL dp;split<;>omega
theorem rv:∀(l:Λ),(∀c∈l,0<=c)->0<=l.sum
 |[],_=>Ξ
 |a::l,h=>by have:=rv l λc e=>h c (.tail _ e);have:=h a (.head _);rw[List.sum_cons];omega
theorem rx:∀{l:Λ}{i:Nat}{x:Int},(∀c∈l,0<=c)->l[i]?=σ x->x<=l.sum
 |[],_,_,_,h=>by simp at h
 |a::l,0,x,e,h=>by
  simp at h;subst h;have:=rv l λc h=>e c (.tail _ h);rw[List.sum_cons];omega
 |a::l,i+1,x,e,h=>by
  have:=rx (λc h=>e c (.tail _ h)) (show l[i]?=σ x by simpa using h);have:=e a (.head _);rw[List.sum_cons];omega
theorem Eo{i:Nat}(hk:0<=k)(h:∀c∈l,0<=c/\c<=k):0<=l.getD i 0/\l.getD i 0<=k:=by
 rw[u4];cases a:l[i]? with
 |none=>exact⟨Int.le_refl _,hk⟩
 |some c=>exact h c (x5 a)
theorem Ep{f:Int->Int}{m:Int}(U:dQ ak)(h:cs.length=(bp ak).length)(hi:cH ak t 0=σ m):bt ak (dD f L ak cs) t=if t∈L then f (bt ak cs t)else bt ak cs t:=by
 have a:=mP U hi;have p:=(x4.1 a).1;obtain⟨c,e⟩:=aJ (l:=cs) (i:=m.toNat) Ω;have h1:=pI (f:=f) (L:=L) a e;unfold bt;rw[hi];simp only;rw[u4,h1,u4,e,V2,V2]
section
variable{k:Int}{sizes a:Λ}{s:aq}
theorem PS{i:Nat}{p:bG×Int}(e:br k sizes s)(h:(s.vars.zip a)[i]?=σ p):0<=dx p/\dx p<=k:=by
 have hk:=e.ew;obtain⟨h1,_⟩:=List.getElem?_zip_eq_some.1 h;have f:=(x4.1 h1).1;have q:=e.vars;have:=e.var i p.1 _ h1 (x6 Ω);unfold dx;split
 .omega
 .exact Eo Ω this.2.1
theorem PT{f:ca}(e:br k sizes s)(h:f∈s.funs):0<=fd a f/\fd a f<=k:=by
 have hk:=e.ew;have:=(e.funs f h).1.h0;unfold fd;split
 .exact (tD e.ew λc p=>⟨e.ew,this c p⟩).2
 .omega
theorem ue(e:br k sizes s):∀c∈(s.vars.zip a).map dx,0<=c:=λc f=>by
 obtain⟨p,h,rfl⟩:=j4.1 f;obtain⟨i,hi⟩:=X3.1 h;exact(PS e hi).1
theorem ry(e:br k sizes s):∀c∈s.funs.map (fd a),0<=c:=λc f=>by
 obtain⟨p,h,rfl⟩:=j4.1 f;exact(PT e h).1
theorem ou(e:br k sizes s):hc k s a=if(s.vars.zip a).all iv then min (s.zero+((s.vars.zip a).map dx).sum+(s.funs.map (fd a)).sum) k else k:=by
 have h1:(s.vars.zip a).foldl (ra k) s.zero=((s.vars.zip a).map dx).foldl (λx c=>min (x+c) k) s.zero:=by
  refine foldl_map' dx (λx c=>min (x+c) k) (ra k) (λc=>c<=k) (λc p f=>?_) (λc p f=>?_) _ _ e.zero.2
  .unfold ra dx;split
   .omega
   .rfl
  .unfold ra;split
   .exact f
   .omega
 have h:∀z,z<=k->s.funs.foldl (rb k a) z=(s.funs.map (fd a)).foldl (λx c=>min (x+c) k) z:=λz q=>by
  refine foldl_map' (fd a) (λx c=>min (x+c) k) (rb k a) (λc=>c<=k) (λc p f=>?_) (λc p f=>?_) _ _ q
  .unfold rb fd;split
   .rfl
   .omega
  .unfold rb;split
   .omega
   .exact f
 unfold hc;split
 .rw[h1,xC _ _ e.zero.2 (ue e),h _ Ω,xC _ _ Ω (ry e)];have:=rv _ (ry (a:=a) e);omega
 .rfl
theorem uf{α β:Type}:∀{l:List α}{m:List β}{i:Nat}{x:α}{y:β},m[i]?=σ y->(l.set i x).zip m=(l.zip m).set i (x,y)
 |[],_,_,_,_,_=>Ξ
 |_::_,[],_,_,_,h=>by simp at h
 |a::l,b::m,0,x,y,h=>by simp at h;subst h;rfl
 |a::l,b::m,i+1,x,y,h=>by
  rw[List.set_cons_succ,List.zip_cons_cons,List.zip_cons_cons,List.set_cons_succ,uf (by simpa using h)]
theorem ug{α:Type}{q:α->Bool}:∀{l:List α}{i:Nat}{x y:α},l[i]?=σ x->q y=q x->(l.set i y).all q=l.all q
 |[],_,_,_,h,_=>by simp at h
 |a::l,0,x,y,h,e=>by simp at h;subst h;rw[List.set_cons_zero,List.all_cons,List.all_cons,e]
 |a::l,i+1,x,y,h,e=>by rw[List.set_cons_succ,List.all_cons,List.all_cons,ug (by simpa using h) e]
def ez(s:aq)(u:Nat)(x:bG)(un:Λ):aq:={s with vars:=s.vars.set u {x with un:=un}}
def dM(s:aq)(j:Nat)(f:ca)(cs:Λ):aq:={s with funs:=s.funs.set j {f with cs:=cs}}
theorem xE{u:Nat}{x:bG}{un:Λ}(a:br k sizes s)(J:s.vars[u]?=σ x)(e:un.length=x.un.length)(f:∀c∈un,0<=c/\c<=k):br k sizes (ez s u x un):=by
 have h:=(x4.1 J).1;have p:=a.vars;have h1:=a.var u x _ J (x6 Ω);exact a.tU J e f h1.2.2
theorem Er{f:ca}(a:br k sizes s)(ag:s.funs[j]?=σ f)(e:cs.length=f.cs.length)(h:∀c∈cs,0<=c/\c<=k):br k sizes (dM s j f cs):=a.DY ag rfl rfl e h
theorem PU{u:Nat}{x:bG}{f:ca}{un:Λ}{bh:Int}(e:br k sizes s)(J:s.vars[u]?=σ x)(ag:s.funs[j]?=σ f)(w:un.length=x.un.length)(y:∀c∈un,0<=c/\c<=k)(z:cs.length=f.cs.length)(A:∀c∈cs,0<=c/\c<=k)(q:a[u]?=σ bh)(h:(s.vars.zip a).all iv=true->∀r,0<=r->min (r+fd a {f with cs:=cs}+dx ({x with un:=un},bh)) k=min (r+fd a f+dx (x,bh)) k):hc k (ez (dM s j f cs) u x un) a=hc k s a:=by
 have B:=Er e ag z A;have C:br k sizes (ez (dM s j f cs) u x un):=xE B J w y;rw[ou C,ou e];have p:(s.vars.zip a)[u]?=σ (x,bh):=List.getElem?_zip_eq_some.2 ⟨J,q⟩;have E:((ez (dM s j f cs) u x un).vars.zip a)=(s.vars.zip a).set u ({x with un:=un},bh):=uf q;have F:((s.vars.zip a).set u ({x with un:=un},bh)).all iv=(s.vars.zip a).all iv:=ug p rfl;rw[E,F];split
 .rename_i G;have H:(((s.vars.zip a).set u ({x with un:=un},bh)).map dx).sum=((s.vars.zip a).map dx).sum-dx (x,bh)+dx ({x with un:=un},bh):=by
   rw[U4];exact xD (by rw[x8,p];rfl)
  have I:((ez (dM s j f cs) u x un).funs.map (fd a)).sum=(s.funs.map (fd a)).sum-fd a f+fd a {f with cs:=cs}:=by
   show((s.funs.set j {f with cs:=cs}).map (fd a)).sum=_;rw[U4];exact xD (by rw[x8,ag];rfl)
  have h1:=rx (ue (a:=a) e) (i:=u) (x:=dx (x,bh)) (by rw[x8,p];rfl);have K:=rx (ry (a:=a) e) (i:=j) (x:=fd a f) (by rw[x8,ag];rfl);have L:=e.zero.1;have M:=h G (s.zero+(((s.vars.zip a).map dx).sum-dx (x,bh))+((s.funs.map (fd a)).sum-fd a f)) Ω;rw[H,I];show min (s.zero+_+_) k=_;omega
 .rfl
end
theorem xF{s:aq}{pos:Nat}{v:Int}:∀(sc:Λ)(p q:Nat),(jz s pos v sc p)[q]?=(sc[q]?).map λu=>if p+q=pos then[v]else bk s u
 |[],_,q=>by simp[jz]
 |u::sc,p,0=>by simp[jz]
 |u::sc,p,q+1=>by
  unfold jz;rw[List.getElem?_cons_succ,List.getElem?_cons_succ,xF sc (p+1) q,show p+1+q=p+(q+1) by omega]
theorem Es{s:aq}{pos:Nat}{v:Int}:∀(sc:Λ)(p:Nat),(jz s pos v sc p).length=sc.length
 |[],_=>rfl
 |u::sc,p=>by unfold jz;rw[c8,Es sc (p+1),c8]
theorem xG{s:aq}{pos:Nat}:t∈cm s sc pos v↔t.length=sc.length/\∀(p:Nat)u w,sc[p]?=σ u->t[p]?=σ w->if p=pos then w=v else w∈bk s u:=by
 unfold cm;rw[tV,Es];refine and_congr_right λ_=>⟨λh p u w hu hw=>?_,λh p d w a hw=>?_⟩
 .have:w∈if 0+p=pos then[v]else bk s u:=h p _ w (by rw[xF,hu];rfl) hw;rw[X2]at this;split
  .rename_i e;rw[if_pos e]at this;exact o9.1 this
  .rename_i e;rw[if_neg e]at this;exact this
 .rw[xF]at a;cases hu:sc[p]? with
  |none=>rw[hu]at a;cases a
  |some u=>
   rw[hu]at a;have a:(if 0+p=pos then[v]else bk s u)=d:=b9 a;subst a;have:=h p u w hu hw;rw[X2];split
   .rename_i e;rw[if_pos e]at this;exact o9.2 this
   .rename_i e;rw[if_neg e]at this;exact this
theorem h8{x:bG}:v∈aG x↔(0<=v/\v<x.un.length)/\dropped x.mask v=false:=by
 unfold aG;rw[T3];refine and_congr ?_ Ξ;have:=tW (k:=(x.un.length:Int)) (v:=v);unfold hL at this;rw[u7]at this;exact this
theorem Et{f:Int->Int}(U:dQ ak)(r:∀c∈cs,0<=c/\c<=k)(ag:∀t∈L,0<=f (bt ak cs t)/\f (bt ak cs t)<=k):∀c∈dD f L ak cs,0<=c/\c<=k:=λc a=>by
 unfold dD at a;obtain⟨p,s,rfl⟩:=j4.1 a;obtain⟨i,hi⟩:=X3.1 s;obtain⟨h1,h⟩:=List.getElem?_zip_eq_some.1 hi;split
 .rename_i w;have q:=ag p.1 w;have e:bt ak cs p.1=p.2:=by
   unfold bt;rw[jT U h1];simp only;rw[u7,u4,h];rfl
  rw[e]at q;exact q
 .exact r _ (x5 h)
section
variable{k:Int}{sizes a:Λ}{s:aq}
def i7(s:aq)(j:Nat)(f:ca)(pos u:Nat)(x:bG)(v:Int)(tup un:Int->Int):aq:=
 ez (dM s j f (dD tup (cm s f.sc pos v) f.ak f.cs)) u x (x.un.set v.toNat (un (x.un.getD v.toNat 0)))
theorem lC{f:ca}(e:br k sizes s)(ag:f∈s.funs):dQ f.ak/\f.cs.length=(bp f.ak).length:=by
 obtain⟨a,h,_⟩:=e.funs f ag;have p:dQ f.ak:=by rw[h];exact pw e.fq.2.2 λv ad=>⟨(a.scope.1 v ad).1,a.vars v ad⟩
 refine⟨p,?_⟩;have h1:=a.len;rw[jQ p,h];exact h1
theorem Eu{pos u:Nat}{f:ca}{x:bG}{tup un:Int->Int}(a:br k sizes s)(ag:s.funs[j]?=σ f)(J:s.vars[u]?=σ x)(e:∀t∈cm s f.sc pos v,0<=tup (bt f.ak f.cs t)/\tup (bt f.ak f.cs t)<=k)(h:0<=un (x.un.getD v.toNat 0)/\un (x.un.getD v.toNat 0)<=k):br k sizes (i7 s j f pos u x v tup un):=by
 obtain⟨p,r⟩:=lC a (x5 ag);have q:=(a.funs f (x5 ag)).1;have w:=(x4.1 J).1;have y:=a.vars;have h1:=a.var u x _ J (x6 Ω);exact xE (Er a ag (om _ _ _ _ Ω) (Et p q.h0 e)) J (by rw[c9]) (rl h1.2.1 h)
theorem Ev{pos u:Nat}{f:ca}{x:bG}{tup un:Int->Int}(p:br k sizes s)(P:lp s a)(ag:s.funs[j]?=σ f)(Q:f.live≠0)(hu:f.sc[pos]?=σ (u:Int))(J:s.vars[u]?=σ x)(ad:v∈aG x)(R:∀w∈f.sc,∀y,s.vars[w.toNat]?=σ y->y.gone=0)(X:∀t∈cm s f.sc pos v,0<=tup (bt f.ak f.cs t)/\tup (bt f.ak f.cs t)<=k)(Y:0<=un (x.un.getD v.toNat 0)/\un (x.un.getD v.toNat 0)<=k)(Z:∀t∈cm s f.sc pos v,∀r,0<=r->min (r+tup (bt f.ak f.cs t)+un (x.un.getD v.toNat 0)) k=min (r+bt f.ak f.cs t+x.un.getD v.toNat 0) k):
  hc k (i7 s j f pos u x v tup un) a=hc k s a:=by
 obtain⟨F,aa⟩:=lC p (x5 ag);obtain⟨G,S,_⟩:=p.funs f (x5 ag);have au:=(x4.1 J).1;have av:=p.vars;have h1:=p.var u x _ J (x6 Ω);have aw:=P.1;obtain⟨bh,T⟩:=aJ (l:=a) (i:=u) Ω;refine PU p J ag (by rw[c9]) (rl h1.2.1 Y) (om _ _ _ _ Ω) (Et F G.h0 X) T λab r ac=>?_;have U:x.gone=0:=R u (x5 hu) x (by rw[u7];exact J);obtain⟨tl,B⟩:∃tl,tl=q9 a f.sc:=⟨_,rfl⟩;have H:∀(q:Nat)w,f.sc[q]?=σ w->∃y,s.vars[w.toNat]?=σ y/\tl[q]?=σ (a.getD w.toNat 0)/\a.getD w.toNat 0∈aG y/\f.ak[q]?=σ (y.un.length:Int):=λq w hw=>by
  have hm:=x5 hw;have ax:=(G.scope.1 w hm).1;have ay:=G.vars w hm;obtain⟨y,h⟩:=aJ (l:=s.vars) (i:=w.toNat) Ω;obtain⟨z,I⟩:=aJ (l:=sizes) (i:=w.toNat) Ω;obtain⟨K,L⟩:=aJ (l:=a) (i:=w.toNat) Ω;have ae:=R w hm y h;have az:=(p.var _ y z h I).1;have aA:=p.fq.2.2 z (x5 I);have e:a.getD w.toNat 0=K:=by rw[u4,L];rfl
  have V:=List.all_eq_true.1 ab (y,K) (x5 (List.getElem?_zip_eq_some.2 ⟨h,L⟩));have af:=(P.2 _ y K h L).resolve_left Ω;refine⟨y,h,by rw[B];unfold q9;rw[x8,hw];rfl,?_,?_⟩
  .rw[e,h8];refine⟨af,?_⟩;unfold iv at V;simpa[ae]using V
  .rw[S];unfold bX;rw[x8,hw,Z6,u4,I,V2];congr 1;omega
 have ah:tl.length=f.sc.length:=by rw[B];unfold q9;rw[r8]
 have aB:f.ak.length=f.sc.length:=by rw[S];unfold bX;rw[r8]
 obtain⟨m,hm⟩:∃m,cH f.ak tl 0=σ m:=by
  have:tl∈bp f.ak:=by
   rw[xq,tV];refine⟨by rw[r8];omega,λq d w W hw=>?_⟩;obtain⟨b,A⟩:=aJ (l:=f.sc) (i:=q) (by have:=(x4.1 hw).1;omega);obtain⟨y,_,M,N,ai⟩:=H q b A;rw[x8,ai]at W;cases W;rw[M]at hw;cases hw;exact tW.2 (h8.1 N).1
  obtain⟨i,hi⟩:=X3.1 this;exact⟨_,jT F hi⟩
 have aj:fd a f=bt f.ak f.cs tl:=by unfold fd;rw[if_pos Q,B]
 have al:fd a {f with cs:=dD tup (cm s f.sc pos v) f.ak f.cs}=if tl∈cm s f.sc pos v then tup (bt f.ak f.cs tl)else bt f.ak f.cs tl:=by
  rw[<-Ep F aa hm,B];unfold fd;rw[if_pos Q]
 have am:dx (x,bh)=x.un.getD bh.toNat 0:=by unfold dx;rw[if_neg (by simp[U])]
 have an:dx ({x with un:=x.un.set v.toNat (un (x.un.getD v.toNat 0))},bh)=(x.un.set v.toNat (un (x.un.getD v.toNat 0))).getD bh.toNat 0:=by unfold dx;rw[if_neg (by simp[U])]
 obtain⟨y,h,C,O,_⟩:=H pos _ hu;rw[u7]at h C O;rw[J]at h;cases h;have ao:a.getD u 0=bh:=by rw[u4,T];rfl
 rw[ao]at C O;have aC:=(h8.1 ad).1;have aD:=(h8.1 O).1;rw[aj,al,am,an];by_cases he:bh=v
 .subst he;have E:tl∈cm s f.sc pos bh:=xG.2 ⟨ah,λq w b hw A=>by
   obtain⟨aE,ap,M,N,_⟩:=H q w hw;split
   .rename_i aq;subst aq;rw[C]at A;exact(b9 A).symm
   .rw[M]at A;cases A;unfold bk;rw[ap];exact N⟩
  rw[if_pos E,u4 (l:=x.un.set _ _),b8 Ω,V2];exact Z tl E r ac
 .have E:tl∉cm s f.sc pos v:=λhm=>by
   have:=(xG.1 hm).2 pos _ bh hu C;rw[if_pos rfl]at this;exact he this
  rw[if_neg E,u4 (l:=x.un.set _ _),Y2 Ω,<-u4]
end
def eb(g:Int->Int)(un L:Λ):Λ:=L.foldl (λun v=>un.set v.toNat (g (un.getD v.toNat 0))) un
theorem uh{g:Int->Int}:∀(L un:Λ),(eb g un L).length=un.length
 |[],_=>rfl
 |v::L,un=>by
  unfold eb;rw[S1];have:=uh (g:=g) L (un.set v.toNat (g (un.getD v.toNat 0)));unfold eb at this;rw[this,c9]
theorem ui{g:Int->Int}:∀(L un:Λ)(w:Int),L.Nodup->(∀v∈L,0<=v/\v<un.length)->0<=w->(eb g un L).getD w.toNat 0=if w∈L then g (un.getD w.toNat 0)else un.getD w.toNat 0
 |[],un,w,_,_,_=>by simp[eb]
 |v::L,un,w,p,a,hw=>by
  obtain⟨h1,q⟩:=List.nodup_cons.1 p;have ad:=a v (.head _);have r:=ui (g:=g) L (un.set v.toNat (g (un.getD v.toNat 0))) w q (λu hu=>by rw[c9];exact a u (.tail _ hu)) hw;have e:eb g un (v::L)=eb g (un.set v.toNat (g (un.getD v.toNat 0))) L:=rfl;rw[e,r];by_cases f:w=v
  .subst f;have U:(un.set w.toNat (g (un.getD w.toNat 0))).getD w.toNat 0=g (un.getD w.toNat 0):=by
    rw[u4 (l:=un.set _ _),b8 Ω];rfl
   rw[if_neg h1,if_pos (.head _),U]
  .have U:(un.set v.toNat (g (un.getD v.toNat 0))).getD w.toNat 0=un.getD w.toNat 0:=by
    rw[u4 (l:=un.set _ _),Y2 Ω,<-u4]
   rw[U];by_cases hm:w∈L
   .rw[if_pos hm,if_pos (.tail _ hm)]
   .rw[if_neg hm,if_neg λh=>(V3.1 h).elim f hm]
theorem rz(x:bG):(aG x).Nodup:=by
 unfold aG;refine List.Nodup.sublist List.filter_sublist ?_;exact List.Pairwise.map _ (λa b e=>Ω) List.nodup_range
theorem Ew{k:Int}{g:Int->Int}:∀(L un:Λ),(∀c∈un,0<=c/\c<=k)->L.Nodup->(∀v∈L,0<=v/\v<un.length)->(∀v∈L,0<=g (un.getD v.toNat 0)/\g (un.getD v.toNat 0)<=k)->∀c∈eb g un L,0<=c/\c<=k
 |[],un,h,_,_,_,c,a=>h c a
 |v::L,un,h,q,f,p,c,a=>by
  obtain⟨h1,r⟩:=List.nodup_cons.1 q;have ad:=f v (.head _);refine Ew (g:=g) L (un.set v.toNat (g (un.getD v.toNat 0))) (rl h (p v (.head _))) r (λu hu=>by rw[c9];exact f u (.tail _ hu)) (λu hu=>?_) c a;have s:u≠v:=λe=>h1 (e▸hu);have w:=f u (.tail _ hu);rw[u4 (l:=un.set _ _),Y2 Ω,<-u4];exact p u (.tail _ hu)
section
variable{k:Int}{sizes a:Λ}{s:aq}
def kP(s:aq)(u:Nat)(x:bG)(g z:Int->Int):aq:={ez s u x (eb g x.un (aG x))with zero:=z s.zero}
theorem br.PV(a:br k sizes s)(h:0<=c/\c<=k):br k sizes {s with zero:=c}:=⟨a.ew,a.fq,h,a.vars,a.var,a.funs⟩
theorem xH{u:Nat}{x:bG}{g z:Int->Int}(a:br k sizes s)(J:s.vars[u]?=σ x)(e:∀v∈aG x,0<=g (x.un.getD v.toNat 0)/\g (x.un.getD v.toNat 0)<=k)(f:0<=z s.zero/\z s.zero<=k):br k sizes (kP s u x g z):=by
 have h:=(x4.1 J).1;have p:=a.vars;have h1:=a.var u x _ J (x6 Ω);exact(xE a J (uh _ _) (Ew _ _ h1.2.1 (rz x) (λv ad=>(h8.1 ad).1) e)).PV f
theorem Ex{u:Nat}{x:bG}{g z:Int->Int}(e:br k sizes s)(q:lp s a)(J:s.vars[u]?=σ x)(h:x.gone=0)(C:∀v∈aG x,0<=g (x.un.getD v.toNat 0)/\g (x.un.getD v.toNat 0)<=k)(E:0<=z s.zero/\z s.zero<=k)(F:∀v∈aG x,∀r,0<=r->min (r+g (x.un.getD v.toNat 0)+z s.zero) k=min (r+x.un.getD v.toNat 0+s.zero) k):hc k (kP s u x g z) a=hc k s a:=by
 have G:=xH e J C E;have O:=(x4.1 J).1;have P:=e.vars;have Q:=q.1;obtain⟨bh,p⟩:=aJ (l:=a) (i:=u) Ω;rw[ou G,ou e];have f:(s.vars.zip a)[u]?=σ (x,bh):=List.getElem?_zip_eq_some.2 ⟨J,p⟩;obtain⟨un,w⟩:∃un,un=eb g x.un (aG x):=⟨_,rfl⟩;have H:((kP s u x g z).vars.zip a)=(s.vars.zip a).set u ({x with un:=un},bh):=by rw[w];exact uf p
 have I:((s.vars.zip a).set u ({x with un:=un},bh)).all iv=(s.vars.zip a).all iv:=ug f rfl;rw[H,I];split
 .rename_i K;have L:(((s.vars.zip a).set u ({x with un:=un},bh)).map dx).sum=((s.vars.zip a).map dx).sum-dx (x,bh)+dx ({x with un:=un},bh):=by
   rw[U4];exact xD (by rw[x8,f];rfl)
  have h1:=rx (ue (a:=a) e) (i:=u) (x:=dx (x,bh)) (by rw[x8,f];rfl);have R:=rv _ (ry (a:=a) e);have y:=List.all_eq_true.1 K (x,bh) (x5 f);have A:=(q.2 _ x bh J p).resolve_left Ω;have B:bh∈aG x:=by
   rw[h8];refine⟨A,?_⟩;unfold iv at y;simpa[h]using y
  have M:dx (x,bh)=x.un.getD bh.toNat 0:=by unfold dx;rw[if_neg (by simp[h])]
  have N:dx ({x with un:=un},bh)=g (x.un.getD bh.toNat 0):=by
   unfold dx;rw[if_neg (by simp[h])];show un.getD bh.toNat 0=_;rw[w,ui _ _ _ (rz x) (λv ad=>(h8.1 ad).1) A.1,if_pos B]
  rw[L,N];rw[M]at h1 ⊢;have S:=F bh B (((s.vars.zip a).map dx).sum-x.un.getD bh.toNat 0+(s.funs.map (fd a)).sum) Ω;show min (z s.zero+_+(s.funs.map (fd a)).sum) k=_;omega
 .rfl
theorem PW{m:Nat}{w:Int}(ad:0<=v)(hw:0<=w):dropped ((m ||| 2 ^ v.toNat:Nat):Int) w=(dropped (m:Int) w||decide (w=v)):=by
 unfold dropped;rw[u7,u7,Nat.testBit_or,Nat.testBit_two_pow];congr 1;exact decide_eq_decide.2 ⟨λh=>Ω,λh=>Ω⟩
theorem ml{i:Nat}{x:bG}(J:s.vars[i]?=σ x):ef s i v.toNat={s with vars:=s.vars.set i {x with mask:=((x.mask.toNat ||| 2 ^ v.toNat:Nat):Int)}}:=by
 unfold ef;rw[J]
theorem xI{i:Nat}{x:bG}(a:br k sizes s)(J:s.vars[i]?=σ x)(ad:0<=v/\v<x.un.length):br k sizes (ef s i v.toNat):=by
 rw[ml J];have h:=(x4.1 J).1;have p:=a.vars;have h1:=a.var i x _ J (x6 Ω);have q:=a.fq.2.2 _ (S0 (l:=sizes) (n:=i) Ω);refine a.tU J rfl h1.2.1 ⟨by simp only;omega,?_⟩;have e:x.mask.toNat<2 ^ 32:=by have:=h1.2.2;omega
 have f:2 ^ v.toNat<2 ^ 32:=Nat.pow_lt_pow_right Ω Ω;have:=Nat.or_lt_two_pow e f;simp only;omega
theorem Ey{i:Nat}{bh:Int}{x:bG}(f:br k sizes s)(B:lp s a)(J:s.vars[i]?=σ x)(C:x.gone=0)(ad:0<=v/\v<x.un.length)(p:a[i]?=σ bh):hc k (ef s i v.toNat) a=if bh=v then k else hc k s a:=by
 have E:=xI f J ad;rw[ou E,ou f];have r:(s.vars.zip a)[i]?=σ (x,bh):=List.getElem?_zip_eq_some.2 ⟨J,p⟩;have F:=(B.2 _ x bh J p).resolve_left Ω;obtain⟨y,w⟩:∃y:bG,y={x with mask:=((x.mask.toNat ||| 2 ^ v.toNat:Nat):Int)}:=⟨_,rfl⟩;have G:((ef s i v.toNat).vars.zip a)=(s.vars.zip a).set i (y,bh):=by rw[ml J,w];exact uf p
 have z:(ef s i v.toNat).zero=s.zero/\(ef s i v.toNat).funs=s.funs:=by rw[ml J];exact⟨rfl,rfl⟩
 have A:iv (y,bh)=(iv (x,bh)&&decide (bh≠v)):=by
  unfold iv;rw[w];simp only[C];rw[PW ad.1 F.1];have hm:((x.mask.toNat:Nat):Int)=x.mask:=by
   have N:=(x4.1 J).1;have O:=f.vars;have h1:=f.var i x _ J (x6 Ω);omega
  rw[hm];by_cases e:bh=v
  .simp[e]
  .simp[e]
 rw[G,z.1,z.2];by_cases e:bh=v
 .rw[if_pos e,if_neg];intro H;have:=List.all_eq_true.1 H (y,bh) (x5 (b8 (x4.1 r).1));rw[A]at this;simp[e]at this
 .have I:((s.vars.zip a).set i (y,bh)).all iv=(s.vars.zip a).all iv:=ug r (by rw[A];simp[e]);have K:((s.vars.zip a).set i (y,bh)).map dx=(s.vars.zip a).map dx:=by
   rw[U4];have L:dx (y,bh)=dx (x,bh):=by rw[w];rfl
   rw[L];refine Y3 λq=>?_;rw[Y9];split
   .rename_i M;subst M;split
    .rw[x8,r];rfl
    .rename_i h;rw[Z2 Ω]
   .rfl
  rw[if_neg e,I,K]
theorem PX{i:Nat}{bh:Int}{x:bG}(f:lp s a)(J:s.vars[i]?=σ x)(h:x.gone=0)(e:a[i]?=σ bh)(p:bh∉aG x):hc k s a=k:=by
 have q:=(f.2 _ x bh J e).resolve_left Ω;unfold hc;rw[if_neg];intro r;have:=List.all_eq_true.1 r (x,bh) (x5 (List.getElem?_zip_eq_some.2 ⟨J,e⟩));unfold iv at this;have w:dropped x.mask bh=false:=by simpa[h]using this
 exact p (h8.2 ⟨q,w⟩)
end
end Go.Proofs.YtikkpokkcdocoabGreatDoor
namespace Go.Vc
open Go Go.RowKit
section
variable{P:W5}{w:x3}{α:Type}[ap α]{S R:aj}
theorem Ez{k:Nat}{vs:List (List x1)}{i:Nat}{c:List x1}(h:∀x∈vs,x.length=k)(e:c.length=k)(hi:i<vs.length):over vs.flatten (i*k) c=(vs.set i c).flatten:=by
 have:=wi (f:=id) (k:=k) (L:=vs) (i:=i) (a:=c) h e hi;rw[List.flatMap_id,List.flatMap_id]at this;exact this
theorem PY{v:x1}{l:List α}{i:Nat}(h:bF S R w [v] l)(P:i<l.length):∃g cap full p,v= .slice (σ ⟨g,0,ν⟩) l.length cap/\af w g p full/\S g/\i*ap.n α+ap.n α<=full.length/\
  ∀{A:aj}{cs:List x1}{a:α},bF A R w cs a->(∀r,r<w.heap.size->S r->¬A r/\¬R r)->∀w',ai (λr=>r=g) w w'->af w' g p (over full (i*ap.n α) cs)->bF (λr=>S r\/A r) R w' [v] (l.set i a):=by
 obtain⟨vs,g,F,s,he,U,hm⟩:=jm h;obtain⟨Q,p,T⟩:=hm rfl;obtain⟨ad,⟨rfl,ae⟩|⟨cap,full,rfl,E,H,V,ag,W⟩⟩:=id T
 .omega
 have I:vs.length=l.length:=he.1;have X:(i+1)*ap.n α<=l.length*ap.n α:=X8 _ P;have Y:l.length*ap.n α<=full.length:=by rw[ag];exact X8 _ H
 rw[U2,Nat.one_mul]at X;have y:S g:=Q.resolve_left Ξ;refine⟨g,cap,full,p,rfl,E,y,Ω,λ{A cs a}J z w' K Z=>?_⟩;have L:=ap.len J;have M:¬A g:=(z g E.lt y).1;have N:¬R g:=(z g E.lt y).2;have aa:∀c∈vs.set i cs,c.length=ap.n α:=λc x=>by
  rcases X9 x with e|rfl
  .exact he.len c e
  .exact L
 have O:bV w' g p (ap.n α) (.slice (σ ⟨g,0,ν⟩) l.length cap) (l.set i a).length (vs.set i cs).flatten:=by
  refine⟨by rw[qk aa,c9,c9,I],.inr ⟨cap,_,by rw[c9],Z,by rw[c9];exact H,V,by rw[k4,ag],?_⟩⟩;rw[c9,tb Ω Y,W,Ez he.len L Ω]
 refine⟨_,rfl,vs.set i cs,g,λj r=>if j=i then A r/\r<w.heap.size else F j r/\r<w.heap.size,⟨λj r f=>?_,λ_ j f=>?_,λ_ j q r ac h1 e=>?_⟩,⟨by simp[I],λj c a' x B=>?_⟩,?_,λ_=>⟨.inr (.inl y),p,O⟩⟩
 .split at f
  .exact .inr f.1
  .exact .inl (s.sub j r f.1)
 .split at f
  .exact M f.1
  .exact s.top rfl j f.1
 .split at h1<;>split at e
  .omega
  .exact (z r e.2 (s.sub q r e.1)).1 h1.1
  .exact (z r h1.2 (s.sub j r h1.1)).1 e.1
  .exact s.gI rfl j q r ac h1.1 e.1
 .by_cases C:j=i
  .subst C;rw[b8 Ω]at x B;cases x;cases B;have G:bF (λr=>if j=j then A r/\r<w.heap.size else F j r/\r<w.heap.size) R w cs a:=ap.mono J (λr f h=>by rw[if_pos rfl];exact⟨h,f⟩) λ_ _ h=>h;refine ap.ab G K λr f h1 e=>?_;have e:r=g:=e;subst e;rcases h1 with h1|h1
   .simp only[if_true]at h1;exact M h1.1
   .exact N h1
  .rw[Y2 (Ne.symm C)]at x B;have G:bF (λr=>if j=i then A r/\r<w.heap.size else F j r/\r<w.heap.size) R w c a':=ap.mono (he.2 j c a' x B) (λr f h=>by rw[if_neg C];exact⟨h,f⟩) λ_ _ h=>h;refine ap.ab G K λr f h1 e=>?_;have e:r=g:=e;subst e;rcases h1 with h1|h1
   .simp only[if_neg C]at h1;exact s.top rfl j h1.1
   .exact N h1
 .have:=o0 (S:=λr=>(S r\/A r)\/R r) O (.inr (.inl (.inl y)));exact this
theorem EA{t:p9}{E:o6}{i b:Nat}{y:Int}{z v x:x1}{l:List α}{a:α}{A:aj}{K:Unit->x3->Prop}(q:ap.n α=1)(F:y=(i:Int))(G:P.underlying t=σ (.slice e))(hi:aQ P e 1 b z)(h:bF S R w [v] l)(s:i<l.length)(J:x.cells= #[x])(B:bF A R w [x] a)(H:∀r,r<w.heap.size->S r->¬A r/\¬R r)(I:∀w',ai S w w'->bF (λr=>S r\/A r) R w' [v] (l.set i a)->K () w'):ac P (c7 t v (.int E y)) w λp=>aD P (o8 e p x) w K:=by
 subst F;obtain⟨g,cap,full,T,rfl,L,M,N,O⟩:=PY h s;rw[q]at N;rw[e8 G hi s λ_=>rfl];refine bl (o:=0+i*1) hi J (ap.one B x (.head _)) L Ω λw' C _ Q=>I w' (C.mono λr _ f=>by have f:r=g:=f;subst f;exact M) (O B H w' C ?_);rw[q,X2]at*;exact Q
end
end Go.Vc
namespace Go.Proofs.YtikkpokkcdocoabGreatDoor
open Go Go.Vc Go.RowKit Go.Proofs Go.Proofs.Tryz
set_option maxRecDepth 100000
abbrev jA:Type:=(Rd (Λ)×Rd (Λ)×Λ)×Bool
abbrev ov:Type:=Int×Rd (Λ)×Rd (Λ)
def iB(f:ca):jA:=((f.sc,f.ak,f.cs),decide (f.live≠0))
def EB(e:wT):ov:=(e.v,e.sc,e.tG)
def cc(m:Bool)(A:Nat->aj)(R:aj)(w:x3)(cs:List x1)(k:Int)(sizes:Λ)(zero:Int)(D:List (Λ))(G:List Bool)(aW:List (Λ))(H:List jA)(E:List ov):Prop:=
 ∃szv a e f h p,cs=[Δ k,szv,Δ zero,a,e,f,h,p]/\Seen R w [szv] sizes/\
 ap.rep m (A 0) R w [a] D/\ap.rep m (A 1) R w [e] G/\ap.rep m (A 2) R w [f] aW/\ap.rep m (A 3) R w [h] H/\ap.rep m (A 4) R w [p] E/\
 (m=true->(∀i j r,i≠j->A i r->¬A j r)/\∀i r,A i r->¬R r)
abbrev iC(m:Bool)(A:Nat->aj)(R:aj)(w:x3)(cs:List x1)(k:Int)(sizes:Λ)(s:aq):Prop:=
 cc m A R w cs k sizes s.zero (s.vars.map aG) (s.vars.map λx=>decide (x.gone≠0)) (s.vars.map (·.un)) (s.funs.map iB) (s.hb.map EB)
def kc(w:x3)(v:x1)(k:Int)(sizes:Λ)(s:aq):Prop:=∃cs,v= .agg cs.toArray/\iC false (λ_ _=>False) fi w cs k sizes s
def iD(A:Nat->aj)(i:Nat)(B:aj):Nat->aj:=λj=>if j=i then B else A j
section
variable{m:Bool}{A:Nat->aj}{R:aj}{w w':x3}{cs:List x1}{k zero:Int}{sizes:Λ}{D:List (Λ)}{G:List Bool}{aW:List (Λ)}{H:List jA}{E:List ov}{s:aq}
theorem cc.len(h:cc m A R w cs k sizes zero D G aW H E):cs.length=8/\∀u∈cs,u.oneCell'=true:=by
 obtain⟨szv,r,s,x,y,z,rfl,h1,a,e,f,p,q,_⟩:=h;refine⟨rfl,λu hu=>?_⟩;simp only[V3,List.not_mem_nil,or_false]at hu;rcases hu with rfl|rfl|rfl|rfl|rfl|rfl|rfl|rfl
 .rfl
 .exact jn h1
 .rfl
 .exact jn a
 .exact jn e
 .exact jn f
 .exact jn p
 .exact jn q
theorem cc.ab{T:aj}(h:cc m A R w cs k sizes zero D G aW H E)(a:ai T w w')(f:∀r,r<w.heap.size->(∃i,A i r)\/R r->¬T r):cc m A R w' cs k sizes zero D G aW H E:=by
 obtain⟨szv,p,q,s,x,y,rfl,h1,z,B,C,F,I,J⟩:=h;have aB:∀i r,r<w.heap.size->A i r\/R r->¬T r:=λi r e h=>f r e (h.imp (λh=>⟨i,h⟩) id);exact⟨szv,p,q,s,x,y,rfl,ap.ab h1 a λr e h=>f r e (h.elim False.elim .inr),ap.ab z a (aB 0),ap.ab B a (aB 1),ap.ab C a (aB 2),ap.ab F a (aB 3),ap.ab I a (aB 4),J⟩
theorem cc.ext(h:cc m A R w cs k sizes zero D G aW H E)(J:Ext w w'):cc m A R w' cs k sizes zero D G aW H E:=h.ab (J.ab λ_=>False) λ_ _ _ h=>h
theorem iC.EC(h:iC m A R w cs k sizes s):kc w (.agg cs.toArray) k sizes s:=by
 obtain⟨szv,a,e,f,p,q,rfl,h1,r,x,y,z,B,C⟩:=h;exact⟨_,rfl,szv,a,e,f,p,q,rfl,jO h1,jO r,jO x,jO y,jO z,jO B,λh=>by cases h⟩
theorem cc.old(h:cc true A R w cs k sizes zero D G aW H E):cc true (λi r=>A i r/\r<w.heap.size) R w cs k sizes zero D G aW H E:=by
 obtain⟨szv,f,p,q,s,x,rfl,h1,a,y,z,B,C,e⟩:=h;obtain⟨e,F⟩:=e rfl;have hm:∀i r,r<w.heap.size->A i r->A i r/\r<w.heap.size:=λi r I h=>⟨h,I⟩;exact⟨szv,f,p,q,s,x,rfl,h1,ap.mono a (hm 0) λ_ _ h=>h,ap.mono y (hm 1) λ_ _ h=>h,ap.mono z (hm 2) λ_ _ h=>h,ap.mono B (hm 3) λ_ _ h=>h,ap.mono C (hm 4) λ_ _ h=>h,
  λ_=>⟨λi j r J h1 a=>e i j r J h1.1 a.1,λi r h=>F i r h.1⟩⟩
theorem uj{i:Nat}{B:aj}(h:∀i j r,i≠j->A i r->¬A j r)(e:∀j r,j≠i->B r->¬A j r):∀p q r,p≠q->iD A i B p r->¬iD A i B q r:=λp q r f h1 a=>by
 unfold iD at h1 a;split at h1<;>split at a
 .omega
 .exact e q r (by assumption) h1 a
 .exact e p r (by assumption) a h1
 .exact h p q r f h1 a
theorem uk{i:Nat}{B:aj}(h:∀i r,A i r->¬R r)(a:∀r,B r->¬R r):∀p r,iD A i B p r->¬R r:=λp r h1=>by
 unfold iD at h1;split at h1
 .exact a r h1
 .exact h p r h1
theorem cc.ED{B:aj}{x:x1}{D':List (Λ)}(h:cc true A R w cs k sizes zero D G aW H E){T:aj}(e:ai T w w')(p:∀r,T r->A 0 r\/(∀j,¬A j r)/\¬R r)(y:bF B R w' [x] D')(z:∀j r,j≠0->B r->¬A j r)(C:∀r,B r->¬R r):cc true (iD A 0 B) R w' (cs.set 3 x) k sizes zero D' G aW H E:=by
 obtain⟨szv,Q,F,I,J,K,rfl,h1,a,L,M,N,O,f⟩:=h;obtain⟨f,q⟩:=f rfl;have s:∀r,R r->¬T r:=λr h a=>(p r a).elim (λa=>q 0 r a h) λa=>a.2 h;have aB:∀j r,j≠0->r<w.heap.size->A j r\/R r->¬T r:=λj r P _ h a=>h.elim (λh=>(p r a).elim (λa=>f j 0 r P h a) λa=>a.1 j h) λh=>s r h a;refine⟨szv,x,F,I,J,K,rfl,ap.ab h1 e λr _ h=>h.elim False.elim (s r),?_,?_,?_,?_,?_,λ_=>⟨uj f z,uk q C⟩⟩
 .exact y
 .exact ap.ab L e λr=>aB 1 r Ω
 .exact ap.ab M e λr=>aB 2 r Ω
 .exact ap.ab N e λr=>aB 3 r Ω
 .exact ap.ab O e λr=>aB 4 r Ω
theorem cc.PZ{B:aj}{x:x1}{p:List Bool}(h:cc true A R w cs k sizes zero D G aW H E){T:aj}(e:ai T w w')(q:∀r,T r->A 1 r\/(∀j,¬A j r)/\¬R r)(z:bF B R w' [x] p)(C:∀j r,j≠1->B r->¬A j r)(F:∀r,B r->¬R r):cc true (iD A 1 B) R w' (cs.set 4 x) k sizes zero D p aW H E:=by
 obtain⟨szv,I,Q,J,K,L,rfl,h1,a,S,M,N,O,f⟩:=h;obtain⟨f,s⟩:=f rfl;have y:∀r,R r->¬T r:=λr h a=>(q r a).elim (λa=>s 1 r a h) λa=>a.2 h;have aB:∀j r,j≠1->r<w.heap.size->A j r\/R r->¬T r:=λj r P _ h a=>h.elim (λh=>(q r a).elim (λa=>f j 1 r P h a) λa=>a.1 j h) λh=>y r h a;refine⟨szv,I,x,J,K,L,rfl,ap.ab h1 e λr _ h=>h.elim False.elim (y r),?_,?_,?_,?_,?_,λ_=>⟨uj f C,uk s F⟩⟩
 .exact ap.ab a e λr=>aB 0 r Ω
 .exact z
 .exact ap.ab M e λr=>aB 2 r Ω
 .exact ap.ab N e λr=>aB 3 r Ω
 .exact ap.ab O e λr=>aB 4 r Ω
theorem cc.kJ{B:aj}{x:x1}{p:List (Λ)}(h:cc true A R w cs k sizes zero D G aW H E){T:aj}(e:ai T w w')(q:∀r,T r->A 2 r\/(∀j,¬A j r)/\¬R r)(z:bF B R w' [x] p)(C:∀j r,j≠2->B r->¬A j r)(F:∀r,B r->¬R r):cc true (iD A 2 B) R w' (cs.set 5 x) k sizes zero D G p H E:=by
 obtain⟨szv,I,J,Q,K,L,rfl,h1,a,M,S,N,O,f⟩:=h;obtain⟨f,s⟩:=f rfl;have y:∀r,R r->¬T r:=λr h a=>(q r a).elim (λa=>s 2 r a h) λa=>a.2 h;have aB:∀j r,j≠2->r<w.heap.size->A j r\/R r->¬T r:=λj r P _ h a=>h.elim (λh=>(q r a).elim (λa=>f j 2 r P h a) λa=>a.1 j h) λh=>y r h a;refine⟨szv,I,J,x,K,L,rfl,ap.ab h1 e λr _ h=>h.elim False.elim (y r),?_,?_,?_,?_,?_,λ_=>⟨uj f C,uk s F⟩⟩
 .exact ap.ab a e λr=>aB 0 r Ω
 .exact ap.ab M e λr=>aB 1 r Ω
 .exact z
 .exact ap.ab N e λr=>aB 3 r Ω
 .exact ap.ab O e λr=>aB 4 r Ω
theorem cc.kK{B:aj}{x:x1}{p:List jA}(h:cc true A R w cs k sizes zero D G aW H E){T:aj}(e:ai T w w')(q:∀r,T r->A 3 r\/(∀j,¬A j r)/\¬R r)(z:bF B R w' [x] p)(C:∀j r,j≠3->B r->¬A j r)(F:∀r,B r->¬R r):cc true (iD A 3 B) R w' (cs.set 6 x) k sizes zero D G aW p E:=by
 obtain⟨szv,I,J,K,Q,L,rfl,h1,a,M,N,S,O,f⟩:=h;obtain⟨f,s⟩:=f rfl;have y:∀r,R r->¬T r:=λr h a=>(q r a).elim (λa=>s 3 r a h) λa=>a.2 h;have aB:∀j r,j≠3->r<w.heap.size->A j r\/R r->¬T r:=λj r P _ h a=>h.elim (λh=>(q r a).elim (λa=>f j 3 r P h a) λa=>a.1 j h) λh=>y r h a;refine⟨szv,I,J,K,x,L,rfl,ap.ab h1 e λr _ h=>h.elim False.elim (y r),?_,?_,?_,?_,?_,λ_=>⟨uj f C,uk s F⟩⟩
 .exact ap.ab a e λr=>aB 0 r Ω
 .exact ap.ab M e λr=>aB 1 r Ω
 .exact ap.ab N e λr=>aB 2 r Ω
 .exact z
 .exact ap.ab O e λr=>aB 4 r Ω
theorem cc.P0{z:Int}(h:cc m A R w cs k sizes zero D G aW H E):cc m A R w (cs.set 2 (Δ z)) k sizes z D G aW H E:=by
 obtain⟨szv,a,e,f,p,q,rfl,h1,r,s,x,y,B,C⟩:=h;exact⟨szv,a,e,f,p,q,rfl,h1,r,s,x,y,B,C⟩
end
theorem ul{α:Type}[ap α]{st t J:p9}{pl:List (Nat×Nat)}{gs c q b L:Nat}{z M y v:x1}{box cs:List x1}{S A R:aj}{l:List α}{a:α}{K:x3->Prop}(N:bJ x7 st pl)(O:pl[c]?=σ (c,q+1))(P:x7.underlying t=σ (.slice e))(Q:aQ x7 t 1 L M)(hi:aQ x7 e (ap.n α) b z)(T:z.cells.size=ap.n α)(E:af w gs st box)(ad:box[c]?=σ v)(h:bF S R w [v] l)(U:cg w (ap.n α) y 1 cs)(V:bF A R w cs a)(W:∀r,r<w.heap.size->S r->¬A r/\¬R r)(s:¬S gs/\¬A gs/\¬R gs)(ag:(l.length+1)*b<=140737488355328)(ah:l.length+1<=1000000)(X:∀p w',ai (λr=>S r\/r=gs) w w'->af w' gs st (box.set c p)->bF (λr=>S r\/A r\/w.heap.size<=r) R w' [p] (l++[a])->K w'):
  aD x7 (Z0 #[t,t] J #[v,y]) w λp aa=>ac x7 (u6 st (Γ gs) c) aa λY=>aD x7 (o8 t Y p) aa λ_ x=>K x:=by
 have Z:=(x4.1 ad).1;refine nM (A:=A) P hi T h U V (λr F U f=>?_) Ω Ω λp aa B G=>?_
 .have:=W r F U;exact f.elim this.1 this.2
 have ae:af aa gs st box:=E.ab G s.1;rw[aU N O];refine bl (o:=0+c) Q (ql B) (jn B) ae (by rw[X2];exact Z) λx H ak I=>?_;refine X p x ((G.mono λr _ h=>.inl h).trans (H.mono λr _ h=>.inr h)) (by rw[X2]at I;exact I) (ap.ab B H λr F f C=>?_);have C:r=gs:=C;subst C;have al:=E.lt;rcases f with f|f
 .rcases f with f|f|f
  .exact s.1 f
  .exact s.2.1 f
  .omega
 .exact s.2.2 f
section
variable{A:Nat->aj}{B R:aj}{w:x3}{cs xs:List x1}{gs:Nat}{y v:x1}{k zero:Int}{sizes:Λ}{D:List (Λ)}{G:List Bool}{aW:List (Λ)}{H:List jA}{E:List ov}{K:x3->Prop}
theorem cc.P1{a:Λ}(h:cc true A R w cs k sizes zero D G aW H E)(F:af w gs a7 cs)(ad:cs[3]?=σ v)(f:∀j r,A j r->gs<r)(s:∀r,R r->r<gs)(U:cg w 1 y 1 xs)(Q:bF B R w xs a)(q:∀r,r<w.heap.size->B r->(∀j,¬A j r)/\gs<r)(aj:D.length<=1000)(S:∀aP b4 w',ai (λr=>gs<=r) w w'->af w' gs a7 b4->cc true aP R w' b4 k sizes zero (D++[a]) G aW H E->(∀j r,aP j r->gs<r)->(∀j,j≠3->b4[j]?=cs[j]?)->K w'):
  aD x7 (Z0 #[dz,dz] P #[v,y]) w λI aa=>ac x7 (u6 a7 (Γ gs) 3) aa λV=>aD x7 (o8 dz V I) aa λ_ x=>K x:=by
 have J:=h.old;have W:=F.lt;obtain⟨szv,X,ak,al,am,L,Y,h1,Z,ao,aq,au,av,z⟩:=id J;obtain⟨z,M⟩:=z rfl;have L:v=X:=by rw[Y]at ad;exact(b9 ad).symm
 subst L;have ab:bF (λr=>B r/\r<w.heap.size) R w xs a:=ap.mono Q (λr e h=>⟨h,e⟩) λ_ _ h=>h;refine ul (pl:=_) (l:=D) a7.p rfl dz.u dz.i an.i rfl F ad Z U ab (λr e N=>⟨λae=>(q r e ae.1).1 0 N.1,M 0 r N⟩) ⟨λh=>by have:=f 0 gs h.1;omega,λh=>by have:=(q gs W h.1).2;omega,λh=>by have:=s gs h;omega⟩ Ω Ω λI x O ag ah=>?_;refine S _ _ x (O.mono λr _ h=>h.elim (λh=>by have:=f 0 r h.1;omega) λh=>Ω) ag (J.ED O (λr e=>?_) ah (λj r C e=>?_) λr e=>?_) (λj r e=>?_) λj C=>?_
 .rcases e with e|rfl
  .exact .inl e
  .exact .inr ⟨λj h=>by have:=f j r h.1;omega,λh=>by have:=s r h;omega⟩
 .rcases e with e|e|e
  .exact z 0 j r (Ne.symm C) e
  .exact λh=>(q r e.2 e.1).1 j h.1
  .exact λh=>by have:=h.2;omega
 .rcases e with e|e|e
  .exact M 0 r e
  .exact λh=>by have:=(q r e.2 e.1).2;have:=s r h;omega
  .exact λh=>by have:=s r h;omega
 .unfold iD at e;split at e
  .rcases e with e|e|e
   .exact f 0 r e.1
   .exact (q r e.2 e.1).2
   .omega
  .exact f j r e.1
 .rw[Y2 (Ne.symm C)]
theorem cc.P2{a:Bool}(h:cc true A R w cs k sizes zero D G aW H E)(F:af w gs a7 cs)(ad:cs[4]?=σ v)(f:∀j r,A j r->gs<r)(s:∀r,R r->r<gs)(U:cg w 1 y 1 xs)(Q:bF B R w xs a)(q:∀r,r<w.heap.size->B r->(∀j,¬A j r)/\gs<r)(aj:G.length<=1000)(S:∀aP b4 w',ai (λr=>gs<=r) w w'->af w' gs a7 b4->cc true aP R w' b4 k sizes zero D (G++[a]) aW H E->(∀j r,aP j r->gs<r)->(∀j,j≠4->b4[j]?=cs[j]?)->K w'):
  aD x7 (Z0 #[kp,kp] P #[v,y]) w λI aa=>ac x7 (u6 a7 (Γ gs) 4) aa λV=>aD x7 (o8 kp V I) aa λ_ x=>K x:=by
 have J:=h.old;have W:=F.lt;obtain⟨szv,ak,X,al,am,L,Y,h1,an,Z,ao,aq,au,z⟩:=id J;obtain⟨z,M⟩:=z rfl;have L:v=X:=by rw[Y]at ad;exact(b9 ad).symm
 subst L;have ab:bF (λr=>B r/\r<w.heap.size) R w xs a:=ap.mono Q (λr e h=>⟨h,e⟩) λ_ _ h=>h;refine ul (pl:=_) (l:=G) a7.p rfl kp.u kp.i gm.i rfl F ad Z U ab (λr e N=>⟨λae=>(q r e ae.1).1 1 N.1,M 1 r N⟩) ⟨λh=>by have:=f 1 gs h.1;omega,λh=>by have:=(q gs W h.1).2;omega,λh=>by have:=s gs h;omega⟩ Ω Ω λI x O ag ah=>?_;refine S _ _ x (O.mono λr _ h=>h.elim (λh=>by have:=f 1 r h.1;omega) λh=>Ω) ag (J.PZ O (λr e=>?_) ah (λj r C e=>?_) λr e=>?_) (λj r e=>?_) λj C=>?_
 .rcases e with e|rfl
  .exact .inl e
  .exact .inr ⟨λj h=>by have:=f j r h.1;omega,λh=>by have:=s r h;omega⟩
 .rcases e with e|e|e
  .exact z 1 j r (Ne.symm C) e
  .exact λh=>(q r e.2 e.1).1 j h.1
  .exact λh=>by have:=h.2;omega
 .rcases e with e|e|e
  .exact M 1 r e
  .exact λh=>by have:=(q r e.2 e.1).2;have:=s r h;omega
  .exact λh=>by have:=s r h;omega
 .unfold iD at e;split at e
  .rcases e with e|e|e
   .exact f 1 r e.1
   .exact (q r e.2 e.1).2
   .omega
  .exact f j r e.1
 .rw[Y2 (Ne.symm C)]
theorem cc.P3{a:Λ}(h:cc true A R w cs k sizes zero D G aW H E)(F:af w gs a7 cs)(ad:cs[5]?=σ v)(f:∀j r,A j r->gs<r)(s:∀r,R r->r<gs)(U:cg w 1 y 1 xs)(Q:bF B R w xs a)(q:∀r,r<w.heap.size->B r->(∀j,¬A j r)/\gs<r)(aj:aW.length<=1000)(S:∀aP b4 w',ai (λr=>gs<=r) w w'->af w' gs a7 b4->cc true aP R w' b4 k sizes zero D G (aW++[a]) H E->(∀j r,aP j r->gs<r)->(∀j,j≠5->b4[j]?=cs[j]?)->K w'):
  aD x7 (Z0 #[ek,ek] P #[v,y]) w λI aa=>ac x7 (u6 a7 (Γ gs) 5) aa λV=>aD x7 (o8 ek V I) aa λ_ x=>K x:=by
 have J:=h.old;have W:=F.lt;obtain⟨szv,ak,al,X,am,L,Y,h1,an,ao,Z,aq,au,z⟩:=id J;obtain⟨z,M⟩:=z rfl;have L:v=X:=by rw[Y]at ad;exact(b9 ad).symm
 subst L;have ab:bF (λr=>B r/\r<w.heap.size) R w xs a:=ap.mono Q (λr e h=>⟨h,e⟩) λ_ _ h=>h;refine ul (pl:=_) (l:=aW) a7.p rfl ek.u ek.i ay.i rfl F ad Z U ab (λr e N=>⟨λae=>(q r e ae.1).1 2 N.1,M 2 r N⟩) ⟨λh=>by have:=f 2 gs h.1;omega,λh=>by have:=(q gs W h.1).2;omega,λh=>by have:=s gs h;omega⟩ Ω Ω λI x O ag ah=>?_;refine S _ _ x (O.mono λr _ h=>h.elim (λh=>by have:=f 2 r h.1;omega) λh=>Ω) ag (J.kJ O (λr e=>?_) ah (λj r C e=>?_) λr e=>?_) (λj r e=>?_) λj C=>?_
 .rcases e with e|rfl
  .exact .inl e
  .exact .inr ⟨λj h=>by have:=f j r h.1;omega,λh=>by have:=s r h;omega⟩
 .rcases e with e|e|e
  .exact z 2 j r (Ne.symm C) e
  .exact λh=>(q r e.2 e.1).1 j h.1
  .exact λh=>by have:=h.2;omega
 .rcases e with e|e|e
  .exact M 2 r e
  .exact λh=>by have:=(q r e.2 e.1).2;have:=s r h;omega
  .exact λh=>by have:=s r h;omega
 .unfold iD at e;split at e
  .rcases e with e|e|e
   .exact f 2 r e.1
   .exact (q r e.2 e.1).2
   .omega
  .exact f j r e.1
 .rw[Y2 (Ne.symm C)]
theorem cc.P4{a:jA}(h:cc true A R w cs k sizes zero D G aW H E)(F:af w gs a7 cs)(ad:cs[6]?=σ v)(f:∀j r,A j r->gs<r)(s:∀r,R r->r<gs)(U:cg w 4 y 1 xs)(Q:bF B R w xs a)(q:∀r,r<w.heap.size->B r->(∀j,¬A j r)/\gs<r)(aj:H.length<=1000)(S:∀aP b4 w',ai (λr=>gs<=r) w w'->af w' gs a7 b4->cc true aP R w' b4 k sizes zero D G aW (H++[a]) E->(∀j r,aP j r->gs<r)->(∀j,j≠6->b4[j]?=cs[j]?)->K w'):
  aD x7 (Z0 #[gn,gn] P #[v,y]) w λI aa=>ac x7 (u6 a7 (Γ gs) 6) aa λV=>aD x7 (o8 gn V I) aa λ_ x=>K x:=by
 have J:=h.old;have W:=F.lt;obtain⟨szv,ak,al,am,X,L,Y,h1,an,ao,aq,Z,au,z⟩:=id J;obtain⟨z,M⟩:=z rfl;have L:v=X:=by rw[Y]at ad;exact(b9 ad).symm
 subst L;have ab:bF (λr=>B r/\r<w.heap.size) R w xs a:=ap.mono Q (λr e h=>⟨h,e⟩) λ_ _ h=>h;refine ul (pl:=_) (l:=H) a7.p rfl gn.u gn.i fD.i rfl F ad Z U ab (λr e N=>⟨λae=>(q r e ae.1).1 3 N.1,M 3 r N⟩) ⟨λh=>by have:=f 3 gs h.1;omega,λh=>by have:=(q gs W h.1).2;omega,λh=>by have:=s gs h;omega⟩ Ω Ω λI x O ag ah=>?_;refine S _ _ x (O.mono λr _ h=>h.elim (λh=>by have:=f 3 r h.1;omega) λh=>Ω) ag (J.kK O (λr e=>?_) ah (λj r C e=>?_) λr e=>?_) (λj r e=>?_) λj C=>?_
 .rcases e with e|rfl
  .exact .inl e
  .exact .inr ⟨λj h=>by have:=f j r h.1;omega,λh=>by have:=s r h;omega⟩
 .rcases e with e|e|e
  .exact z 3 j r (Ne.symm C) e
  .exact λh=>(q r e.2 e.1).1 j h.1
  .exact λh=>by have:=h.2;omega
 .rcases e with e|e|e
  .exact M 3 r e
  .exact λh=>by have:=(q r e.2 e.1).2;have:=s r h;omega
  .exact λh=>by have:=s r h;omega
 .unfold iD at e;split at e
  .rcases e with e|e|e
   .exact f 3 r e.1
   .exact (q r e.2 e.1).2
   .omega
  .exact f j r e.1
 .rw[Y2 (Ne.symm C)]
end
theorem na{R:aj}{v:x1}{g:Nat}(h:av .i64 e w g v l):bF (λr=>leads v r) R w [v] l:=by
 have h1:=nN (R:=R) h;by_cases f:v= .slice ν 0 0
 .subst f;have:l=[]:=by
   obtain⟨p,⟨_,a⟩|⟨_,_,a,_⟩⟩:=h
   .exact j6 a
   .cases a
  subst this;exact hv
 .obtain⟨p,⟨a,_⟩|⟨cap,cs,a,_⟩⟩:=id h
  .exact absurd a f
  .refine ap.mono h1 (λr _ q=>?_) λ_ _ h=>h;rw[a];exact⟨_,_,_,rfl,q.symm⟩
theorem xJ{R:aj}{v:x1}{g:Nat}(e:∀r c,B<=r->af w r ah c->R r)(h:av .i64 ah w g v l)(ad:∀r,leads v r->B<=r):Seen R w [v] l:=qj (na (R:=λ_=>False) h) λr p a=>by
 rcases a with a|a
 .obtain⟨c,f⟩:=O0 h r a;exact e r c (ad r a) f
 .exact a.elim
theorem P5{R:aj}{zero:Int}{szv:x1}(h:Seen R w [szv] sizes):cc true (λ_ _=>False) R w [Δ k,szv,Δ zero,.slice ν 0 0,.slice ν 0 0,.slice ν 0 0,.slice ν 0 0,.slice ν 0 0] k sizes zero [] [] [] [] []:=
 ⟨_,_,_,_,_,_,rfl,h,hv,hv,hv,hv,hv,λ_=>⟨λ_ _ _ _ h=>h.elim,λ_ _ h=>h.elim⟩⟩
theorem cc.at{m:Bool}{A:Nat->aj}{R:aj}{cs:List x1}{zero:Int}{D:List (Λ)}{G:List Bool}{aW:List (Λ)}{H:List jA}{E:List ov}(h:cc m A R w cs k sizes zero D G aW H E)(c:Nat)(a:c<8):∃v,cs[c]?=σ v:=⟨_,x6 (by rw[h.len.1];exact a)⟩
def P6(R:aj)(w:x3)(e gt gs:Nat)(n:aF)(f:List x1)(i j:Nat)(a:x3):Prop:=Ext w a/\af a e dE f/\af a gt a7 z12/\∃A cs,af a gs a7 cs/\(∀q r,A q r->gs<r)/\
 cc true A R a cs n.k n.sizes n.zero ((n.unary.take i).map λu=>aG (newVar u)) (p8 i false) (n.unary.take i) ((n.funs.take j).map λg=>iB (kE n.sizes g)) []
theorem EE{bD:x1}{n:aF}{R:aj}(aA:∀r,R r->r<w.heap.size)(a2:∀r c,B<=r->af w r ah c->R r)(cA:xd w B bD n)(ac:jZ n)(ag:n.funs.length<=256):am x7 GN [bD] w λv w'=>Ext w w'/\∃A cs,v= .agg cs.toArray/\iC true A R w' cs n.k n.sizes (cY n)/\∀q r,A q r->w.heap.size<=r:=by
 have eb:=ac.sizes.2.1;have cB:=ac.kD;refine az func59 ?_;refine bf λg1 V ec a6 cC=>?_;obtain⟨szv,gz,cD,ed,bE,cF,ef,a8,aB,aC,cG,bG,ba,cH,bH,cI,bI⟩:=O1 cA cC;refine bx a7.i λgt aa eg aD aE=>?_;have aE:af aa gt a7 z12:=aE;have bc:=aB.ext aD;rw[aT dE.p 0 bc rfl,aT dE.p 1 bc rfl,aT dE.p 2 bc rfl,
  cW (cs:=#[Δ n.k,szv,Δ n.zero,.slice ν 0 0,.slice ν 0 0,.slice ν 0 0,.slice ν 0 0,.slice ν 0 0]) (by obtain⟨_,_,_,e⟩:=c5 aC.ls;rw[e];kernel_rfl)]
 refine bx a7.i λgs eh ei aH cJ=>?_;have cK:Seen R w [szv] n.sizes:=xJ a2 aC cI;have ej:=a6.size;have em:=aD.size;have z3:=aH.size;have cL:=(a6.trans aD).trans aH;have bJ:=P5 (k:=n.k) (zero:=n.zero) (bW cK cL);refine ci (vs:=[Δ n.k,szv,Δ n.zero,.slice ν 0 0,.slice ν 0 0,.slice ν 0 0,.slice ν 0 0,.slice ν 0 0]) a7.i rfl rfl bJ.len.2 cJ λcM bd en cN=>?_;have eo:=aE.lt;have ep:=aB.lt;have cO:gt≠gs:=Ω
 have be:Ext V cM:=(aD.trans aH).put bd Ω;have bK:=a6.trans be;have cP:=(aE.ext aH).ab bd λhe=>cO he;have er:w.heap.size<gs:=Ω
 rw[aT dE.p 1 (aB.ext be) rfl,aX an.u (aC.ext bK).ls];have cQ:=bJ.ab bd λr f h he=>by
  have he:r=gs:=he;rcases h with⟨_,h⟩|h
  .exact h
  .have:=aA r h;omega
 refine ck.range n.sizes.length (λi O=>P6 R w g1 gt gs n [Δ n.k,szv,Δ n.zero,cD,cF] i 0 O) Ω ⟨bK,aB.ext be,cP,_,_,cN,(λ_ _ h=>h.elim),cQ⟩ ?_ ?_
 .rintro i O cR hi ⟨P,bh,bi,A,cs,ad,bj,aI⟩ cS;obtain⟨z,bk⟩:=aJ (l:=n.sizes) hi;obtain⟨u,hu⟩:=aJ (l:=n.unary) (i:=i) Ω;have es:=ac.sizes.2.2 z (x5 bk);obtain⟨eu,_⟩:=ac.unary i z u bk hu;refine bM Ω ?_;rw[bg an.u ah.i Ψ (aC.ext P).ls bk];obtain⟨bL,rfl⟩:∃m:Nat,z=m:=⟨z.toNat,Ω⟩;refine cb.range bL (λj ae aK=>Ext O aK/\∃g,av .i64 ah aK g ae ((X0 j).map λv:Nat=>(v:Int))/\∀r,leads ae r->O.heap.size<=r) Ω
   ⟨Ext.refl _,0,av.nil _ _ _ _,λr f=>by obtain⟨a,n,c,I,Q⟩:=f;cases I⟩ ?_ ?_
  .rintro j ae aK bl bm ⟨K,cU,S,aM⟩ bn;refine bM Ω ?_;refine et (k:=.i64) an.u ah.i rfl λev ew cV ey H cX=>?_;refine hJ an.u ah.i rfl (S.ext H) cX.ls Θ Θ λez cZ c0 c1 c2 U=>?_;rw[aN];have c3:=K.size;have c4:=H.size;refine bn _ _ ⟨(K.trans H).then U λr f he=>by have:=aM r he;omega,cZ,?_,λr f=>(c2 r f).elim (aM r) λh=>Ω⟩;rw[List.range_succ,Z4];exact c1
  rintro ae aK bl ⟨K,cU,S,aM⟩;refine cE Ω ?_;have c6:(X0 bL).map (λv:Nat=>(v:Int))=aG (newVar u):=by rw[O2];congr 2;omega
  rw[c6]at S;have c3:=K.size;have eA:=P.size;have eB:=ad.lt;have ak:∀r,R r->r<gs:=λr f=>by have:=aA r f;omega
  have low:∀{s C:x3}{b:Nat}{e:p9}{c:List x1},ai (λr=>gs<=r) s C->b<gs->af s b e c->af C b e c:=λL c7 h=>h.ab L λW=>by have W:gs<=_:=W;omega
  have al:∀{s C:x3},Ext w s->ai (λr=>gs<=r) s C->Ext w C:=λJ L=>J.then L λr f h=>by have h:gs<=r:=h;omega
  have bN:=aI.old.ext K;have c8:∀q r,(A q r/\r<O.heap.size)->gs<r:=λq r h=>bj q r h.1;obtain⟨eC,bO⟩:=bN.at 3 Ω;rw[aT a7.p 3 (ad.ext K) bO];refine kt dz.u an.i Φ (a:=aG (newVar u)) (cs:=[ae]) S.ls.cells.1 (na (R:=R) S) λeD cV H _ c9=>?_;have c4:=H.size;have aO:=K.trans H;refine cc.P1 (bN.ext H) (ad.ext aO) bO c8 ak c9 (bW (na (R:=R) S) H) (λr f h=>?_) Θ λeE eF c0 U bR bS da _=>?_
  .have:=aM r h;exact⟨λj h=>Ω,Ω⟩
  have eH:=U.size;obtain⟨eI,bT⟩:=bS.at 4 Ω;rw[aT a7.p 4 bR bT];refine kt (a:=false) (cs:=[.bool false]) (A:=λ_=>False) (R:=R) kp.u gm.i Φ rfl rfl λeJ eK X _ db=>?_;refine cc.P2 (a:=false) (xs:=[.bool false]) (B:=λ_=>False) (bS.ext X) (bR.ext X) bT da ak db rfl (λr f h=>h.elim) Θ λdc eL bU aP bV dd de _=>?_;have z9:=X.size;have eM:=aP.size;have df:Ext w bU:=al ((al (P.trans aO) U).trans X) aP;have dg:=low aP Ω ((low U Ω (bh.ext aO)).ext X);have dh:=low aP Ω ((low U Ω (bi.ext aO)).ext X);intro bo Y _ _;have bX:=bV.ext Y;have bY:=dg.ext Y;have bZ:=df.trans Y;obtain⟨oo,aQ⟩:∃oo,bE[i]?=σ oo:=⟨_,x6 (by have:=congrArg S3 bG;rw[r8]at this;omega)⟩;have di:oo.l=u:=by
   have b0:(bE.map (·.l))[i]?=σ oo.l:=by rw[x8,aQ];rfl
   rw[bG,hu]at b0;exact(b9 b0).symm
  have bp:=cG.ext bZ;obtain⟨eN,b1⟩:=bp.2 oo (x5 aQ);rw[di]at b1;have b2:=dd.old.ext Y;have dj:∀q r,(dc q r/\r<bU.heap.size)->gs<r:=λq r h=>de q r h.1;obtain⟨eO,b3⟩:=b2.at 5 Ω;rw[aT a7.p 5 bX b3,aT dE.p 3 bY rfl,dr rfl ek.u ay.i bp.1 (x4.1 aQ).1,ax (v:=oo.v) (o:=i*1) Ψ (bp.1.range aQ 0 _ rfl)];refine xg (k:=.i64) ay.u au.i λdk eP eQ eR aR b4=>?_;refine⟨.inl aR,?_⟩;refine hJ ay.u au.i rfl b4 (b1.ext aR).ls Θ Θ λb5 eS dl aS dn dp=>?_;rw[List.nil_append]at aS;have eU:=Y.size;have eV:=aR.size;have b7:∀r,leads dk r->bo.heap.size<=r:=λr f=>by have:=(bQ b4 f).1;omega
  have dq:∀r,leads b5 r->bo.heap.size<=r:=λr f=>(dn r f).elim (b7 r) λh=>Ω
  have bq:Ext bo dl:=aR.then dp λr f he=>by have:=b7 r he;omega
  refine⟨.inl bq,?_⟩;have eW:=bq.size;refine kt ek.u ay.i Φ (a:=u) (cs:=[b5]) aS.ls.cells.1 (na (R:=R) aS) λeX eY br _ ds=>?_;have eZ:=br.size;have Z:=bq.trans br;refine⟨.inl Z,?_⟩;refine cc.P3 (b2.ext Z) (bX.ext Z) b3 dj ak ds (bW (na (R:=R) aS) br) (λr f h=>?_) Θ λdt du e0 bt dv dx dy _=>?_
  .have:=dq r h;have:=bV.lt;exact⟨λj h=>Ω,Ω⟩
  rw[aN];refine cS _ ⟨al (bZ.trans Z) bt,low bt Ω (bY.ext Z),low bt Ω ((dh.ext Y).ext Z),dt,du,dv,dy,?_⟩;rw[u9,hu,j5,Z4,U6,List.map_nil,List.replicate_succ'];exact dx
 rintro O cR ⟨P,bh,bi,A,cs,ad,bj,aI⟩;refine cE Ω ?_;rw[b6 Ω]at aI;have e1:a8.length=n.funs.length:=by rw[<-bH,r8]
 have dA:=ba.ext P;rw[aT dE.p 4 bh rfl,ee cT.u dA];have ak:∀r,R r->r<gs:=λr f=>by have:=aA r f;omega
 have low:∀{s C:x3}{b:Nat}{e:p9}{c:List x1},ai (λr=>gs<=r) s C->b<gs->af s b e c->af C b e c:=λL c7 h=>h.ab L λW=>by have W:gs<=_:=W;omega
 have al:∀{s C:x3},Ext w s->ai (λr=>gs<=r) s C->Ext w C:=λJ L=>J.then L λr f h=>by have h:gs<=r:=h;omega
 refine ck.range a8.length (λj G=>Ext w G/\af G gt a7 z12/\∃A cs,af G gs a7 cs/\(∀q r,A q r->gs<r)/\
  cc true A R G cs n.k n.sizes n.zero (n.unary.map λu=>aG (newVar u)) (p8 n.sizes.length false) n.unary ((n.funs.take j).map λg=>iB (kE n.sizes g)) []) ba.le ⟨P,bi,A,cs,ad,bj,aI⟩ ?_ ?_
 .rintro j G bl bm ⟨M,bu,bw,aU,aV,aW,ao⟩ bn;obtain⟨y,ap⟩:=aJ (l:=a8) bm;have b8:n.funs[j]?=σ (dw y):=by rw[<-bH,x8,ap];rfl
  have ca:=(ac.funs (dw y) (x5 b8)).1;have e2:y.cs.length<=4096:=by
   have h1:y.cs.length=_:=ca.len;have W:=ca.small;omega
  have cd:=cH y (x5 ap);have ce:=cd.ext M;have cg:=ba.ext M;refine bM Ω ?_;rw[dr rfl cT.u bb.i cg bm,bP bb.p bb.i rfl (cg.range ap)];refine bx bb.i λe3 e4 e5 dC dD=>?_;refine ci (vs:=dm y) bb.i rfl rfl ce.one dD λdF dG e6 dH=>?_;have dI:Ext G dF:=dC.put dG Ω;intro bz ch _ _;have N:=dI.trans ch;have cj:=aV.ext N;have bA:=dH.ext ch;have dJ:=ce.ext N;obtain⟨⟨e7,cl⟩,⟨e8,cm⟩,e9,dK⟩:=id dJ;have cn:=ao.old.ext N;have dL:∀q r,(bw q r/\r<G.heap.size)->gs<r:=λq r h=>aW q r h.1;obtain⟨fa,cp⟩:=cn.at 6 Ω;rw[aT a7.p 6 cj cp,aT bb.p 0 bA rfl,aT bb.p 1 bA rfl,aT bb.p 2 bA rfl];refine xg (k:=.i64) ay.u au.i λv25 fb fc fd aY cq=>?_;refine⟨.inl aY,?_⟩;refine hJ ay.u au.i rfl cq (dK.ext aY).ls Θ Θ λE fe cr aZ dM dN=>?_;rw[List.nil_append]at aZ;have ff:=N.size;have z25:=aY.size;have ct:∀r,leads v25 r->bz.heap.size<=r:=λr f=>by have:=(bQ cq f).1;omega
  have dO:∀r,leads E r->bz.heap.size<=r:=λr f=>(dM r f).elim (ct r) λh=>Ω
  have a1:Ext bz cr:=aY.then dN λr f he=>by have:=ct r he;omega
  refine⟨.inl a1,?_⟩;rw[cW (cs:=#[y.aL,y.szv,E]) (by obtain⟨_,_,_,I⟩:=c5 cl.ls;obtain⟨_,_,_,Q⟩:=c5 cm.ls;obtain⟨_,_,_,aq⟩:=c5 aZ.ls;rw[I,Q,aq];kernel_rfl),
   cW (cs:=#[y.aL,y.szv,E,.bool true]) (by obtain⟨_,_,_,I⟩:=c5 cl.ls;obtain⟨_,_,_,Q⟩:=c5 cm.ls;obtain⟨_,_,_,aq⟩:=c5 aZ.ls;rw[I,Q,aq];kernel_rfl)]
  have fg:=a1.size;have cu:=(M.trans N).trans a1;obtain⟨⟨ga,dP⟩,⟨fh,dQ⟩,_⟩:=id cd;have own:bF (α:=jA) (λr=>leads E r) R cr [y.aL,y.szv,E,.bool true] (iB (kE n.sizes (dw y))):=by
   refine⟨[y.aL,y.szv,E],[.bool true],λr=>leads E r,λ_=>False,rfl,λ_ h=>h,λ_ h=>h.elim,λ_ _ _ h=>h,⟨[y.aL],[y.szv,E],λ_=>False,λr=>leads E r,rfl,λ_ h=>h.elim,λ_ h=>h,λ_ _ h=>h.elim,?_,[y.szv],[E],λ_=>False,λr=>leads E r,rfl,λ_ h=>h.elim,λ_ h=>h,λ_ _ h=>h.elim,?_,?_⟩,rfl⟩
   .exact bW (xJ a2 dP λr f=>bI y (x5 ap) r (.inr (.inl f))) cu
   .exact bW (xJ a2 dQ λr f=>bI y (x5 ap) r (.inr (.inr f))) cu
   .exact na aZ
  refine kt gn.u fD.i Φ rfl own λfi fj bB _ dR=>?_;have fk:=bB.size;have aw:=a1.trans bB;refine⟨.inl aw,?_⟩;refine cc.P4 (cn.ext aw) (cj.ext aw) cp dL ak dR (bW own bB) (λr f h=>?_) Θ λdS dT fm cw dU dV dW _=>?_
  .have:=dO r h;have:=aV.lt;exact⟨λj h=>Ω,Ω⟩
  rw[aN];refine bn _ ⟨al (M.trans (N.trans aw)) cw,low cw Ω (bu.ext (N.trans aw)),dS,dT,dU,dW,?_⟩;rw[u9,b8,j5,Z4,U6,List.map_nil];exact dV
 rintro G bl ⟨M,bu,bw,aU,aV,aW,ao⟩;rw[b6 Ω]at ao;refine cE Ω ?_;obtain⟨bC,dX⟩:=ao.len;rw[bP a7.p a7.i bC (show G.rangeAt gs 0 aU from aV.range)];refine ci (vs:=aU) a7.i bC rfl dX bu λfo cz fp dY=>?_;rw[fJ a7.p a7.i bC dY.range];have dZ:=ao.ab cz λr f h he=>by
  have he:r=gt:=he;rcases h with⟨q,h⟩|h
  .have:=aW q r h;omega
  .have:=aA r h;omega
 have fq:=M.size;refine⟨M.then cz λr f he=>by have he:r=gt:=he;omega,bw,aU,rfl,?_,λq r h=>by have:=aW q r h;omega⟩;have I:(cY n).vars.map aG=n.unary.map λu=>aG (newVar u):=by show(n.unary.map newVar).map aG=_;rw[S9];rfl
 have Q:(cY n).vars.map (λx=>decide (x.gone≠0))=p8 n.sizes.length false:=by
  show(n.unary.map newVar).map _=_;rw[S9,<-cB];exact List.map_const' ..
 have aq:(cY n).vars.map (·.un)=n.unary:=by show(n.unary.map newVar).map _=_;rw[S9];exact List.map_id _
 have ea:(cY n).funs.map iB=n.funs.map λg=>iB (kE n.sizes g):=by show(n.funs.map (kE n.sizes)).map iB=_;rw[S9];rfl
 unfold iC;rw[I,Q,aq,ea];exact dZ
def nb(w:x3)(g:Nat)(k:Int)(sizes:Λ)(s:aq):Prop:=∃szv a e f h p,af w g a7 [Δ k,szv,Δ s.zero,a,e,f,h,p]/\aI .i64 w szv sizes/\Seen fi w [szv] sizes/\
 Seen fi w [a] (s.vars.map aG)/\Seen fi w [e] (s.vars.map λx=>decide (x.gone≠0))/\Seen fi w [f] (s.vars.map (·.un))/\Seen fi w [h] (s.funs.map iB)/\Seen fi w [p] (s.hb.map EB)
section
variable{w w':x3}{g:Nat}{v:x1}{k:Int}{sizes:Λ}{s:aq}
theorem nb.ext(h:nb w g k sizes s)(J:Ext w w'):nb w' g k sizes s:=by
 obtain⟨szv,a,e,f,p,q,r,h1,x,y,z,A,B,C⟩:=h;exact⟨szv,a,e,f,p,q,r.ext J,h1.ext J,bW x J,bW y J,bW z J,bW A J,bW B J,bW C J⟩
theorem kc.box(h:kc w v k sizes s)(J:Ext w w')(f:af w' g a7 v.cells.toList):nb w' g k sizes s:=by
 obtain⟨cs,rfl,szv,z,B,C,E,F,rfl,h1,p,q,r,x,y,_⟩:=h;obtain⟨_,_,_,G⟩:=c5 (eD h1);have c:∀{α:Type}[ap α]{v:x1}{l:List α}{A:aj},ap.rep false A fi w [v] l->∃a n c,v= .slice a n c:=λh=>by
  obtain⟨_,_,_,_,_,⟨_,b,o,base,cap,e,_⟩,_⟩:=jm h;exact⟨_,_,_,e⟩
 obtain⟨_,_,_,H⟩:=c p;obtain⟨_,_,_,I⟩:=c q;obtain⟨_,_,_,K⟩:=c r;obtain⟨_,_,_,L⟩:=c x;obtain⟨_,_,_,M⟩:=c y;refine⟨szv,z,B,C,E,F,?_,(eD h1).ext J,bW h1 J,bW p J,bW q J,bW r J,bW x J,bW y J⟩;rw[G,H,I,K,L,M]at f ⊢;exact f
theorem nb.load{K:x1->Prop}(h:nb w g k sizes s)(a:∀u,kc w u k sizes s->K u):ac x7 (u5 a7 (Γ g)) w K:=by
 obtain⟨szv,e,f,q,r,x,y,h1,z,A,B,C,E,F⟩:=h;rw[bP a7.p a7.i rfl y.range];exact a _ ⟨_,rfl,szv,e,f,q,r,x,rfl,z,A,B,C,E,F,λh=>by cases h⟩
theorem P7{i:Int}(h:kc w v k sizes s):am x7 Gn [v,Δ i] w λr w'=>r= .bool (decide (0<=i/\i<sizes.length))/\Ext w w':=by
 refine az func15 ?_;refine bf λg1 V y a e=>?_;obtain⟨szv,z,A,B,C,E,e,x,_⟩:=h.box a e;refine aV (λv aa=>v= .bool (decide (0<=i/\i<sizes.length))/\Ext w aa) (λ_ _ h=>h) λaA f=>?_;rw[cM,al];refine⟨λq=>?_,λq=>f _ _ ⟨by rw[decide_eq_false];omega,a⟩⟩;rw[aT a7.p 1 e rfl,aX an.u x,aR];refine f _ _ ⟨?_,a⟩;congr 1;exact decide_eq_decide.2 ⟨λh=>⟨q,h⟩,λh=>h.2⟩
theorem pR{m:Bool}{S R:aj}{cs:List x1}{f:ca}(h:ap.rep (α:=jA) m S R w cs (iB f)):∃aL szv a6,cs=[aL,szv,a6,.bool (decide (f.live≠0))]/\Seen fi w [aL] f.sc/\Seen fi w [szv] f.ak/\Seen fi w [a6] f.cs:=by
 obtain⟨E,q,A,B,rfl,_,_,_,⟨r,F,aP,G,rfl,_,_,_,h1,s,x,H,y,rfl,_,_,_,a,e⟩,p⟩:=h;have one:∀{α:Type}[ap α]{m:Bool}{S R:aj}{c:List x1}{l:List α},ap.rep m S R w c l->∃v,c=[v]:=λh=>by obtain⟨v,ad,_⟩:=h;exact⟨v,ad⟩
 have h1:Seen _ w r f.sc:=h1;have a:Seen _ w s f.ak:=a;have p:q=[.bool (decide (f.live≠0))]:=p;have e:ap.rep m y R w x f.cs:=e;obtain⟨z,rfl⟩:=one h1;obtain⟨C,rfl⟩:=one a;obtain⟨v3,rfl⟩:=one e;subst p;exact⟨z,C,v3,rfl,jO h1,jO a,jO e⟩
theorem P8{j:Int}(h:kc w v k sizes s):am x7 I0 [v,Δ j] w λr w'=>r= .bool (decide (0<=j)&&e7 s j.toNat)/\Ext w w':=by
 refine az func266 ?_;refine bf λg1 V B a e=>?_;obtain⟨szv,C,E,G,H,I,e,J,_,_,_,_,y,_⟩:=h.box a e;refine aV (λv aa=>v= .bool (decide (0<=j)&&e7 s j.toNat)/\Ext w aa) (λ_ _ h=>h) λaA q=>?_;rw[cM,al];refine⟨λx=>?_,λx=>q _ _ ⟨by rw[decide_eq_false x];rfl,a⟩⟩;rw[aT a7.p 6 e rfl,jo gn.u y,aR,al,r8];refine⟨λK=>?_,λL=>q _ _ ⟨by unfold e7;rw[Z2 Ω,Bool.and_false],a⟩⟩;obtain⟨f,ag⟩:=aJ (l:=s.funs) (i:=j.toNat) Ω;rw[aT a7.p 6 e rfl];refine l5 (i:=j.toNat) Ω gn.u fD.i y (by rw[x8,ag];rfl) λb o cs z A=>?_;obtain⟨M,N,v3,rfl,_⟩:=pR A;rw[aU fD.p rfl,ax (v:=.bool (decide (f.live≠0))) Ψ (z 3 _ rfl)];exact q _ _ ⟨by unfold e7;rw[ag,decide_eq_true x,T5],a⟩
end
theorem xK{S T:Nat->Prop}(h:ai S w w')(k:ai T w w'):ai (λr=>S r/\T r) w w':=
 ⟨h.size,λr o a U f=>by
  by_cases e:S r
  .exact k.aZ r o a U λp=>f ⟨e,p⟩
  .exact h.aZ r o a U e⟩
theorem xL{gT:Nat}{A R:aj}{n:aF}{s:aq}{t:aC}(h:bw w ae gT A R n s t):∀r,A r\/R r->r<w.heap.size:=λr a=>by
 obtain⟨p,q,x,y,⟨_,_,e,f⟩,_⟩:=h.1;exact a.elim (f r) (e r)
structure ch(w:x3)(ae gT ao:Nat)(A R:aj)(A9:Nat->aj)(aH:aj)(n:aF)(s u:aq)(t:aC)(h:List aC)(cs:List x1):Prop where
 e6:bw w ae gT A R n s t
 h3:hx t h
 box:af w ao a7 cs
 doc:iC true A9 aH w cs n.k n.sizes u
 apart:∀q r,A9 q r->¬A r/\¬R r/\r≠ao
 read:∀r,aH r->¬en w r/\r<w.heap.size/\r≠ao
 out:¬A ao/\¬R ao
section
variable{w w':x3}{ae gT ao:Nat}{A R:aj}{A9:Nat->aj}{aH:aj}{n:aF}{s u:aq}{t:aC}{h:List aC}{cs:List x1}
theorem ch.ext(p:ch w ae gT ao A R A9 aH n s u t h cs)(J:Ext w w'):ch w' ae gT ao A R A9 aH n s u t h cs:=
 ⟨p.e6.ext J,p.h3,p.box.ext J,p.doc.ext J,p.apart,λr a=>⟨λh=>(p.read r a).1 (mX (λo e U _=>J.aZ r o e U) h),by have:=(p.read r a).2.1;have:=J.size;omega,(p.read r a).2.2⟩,p.out⟩
theorem ch.prog{aP R':aj}{s':aq}{bq:aC}{h':List aC}(p:ch w ae gT ao A R A9 aH n s u t h cs)(y:ai (en w) w w')(f:Grow A w aP w')(E:bw w' ae gT aP R' n s' bq)(x:hx bq h')(C:∀r,R' r->R r\/B<=r)(F:∀q r,A9 q r->r<w.heap.size->r<B)(J:ao<B):
  ch w' ae gT ao aP R' (λq r=>A9 q r/\r<w.heap.size) aH n s' u bq h' cs:=by
 have K:=p.box.lt;have z:=y.size;refine⟨E,x,p.box.ab f.1 p.out.1,cc.ab p.doc.old (xK y f.1) λr e h x=>?_,λq r h=>⟨λa=>?_,λe=>(C r e).elim (p.apart q r h.1).2.1 λG=>by have:=F q r h.1 h.2;omega,(p.apart q r h.1).2.2⟩,λr e=>⟨λh=>?_,by have:=(p.read r e).2.1;omega,(p.read r e).2.2⟩,λa=>?_,λe=>(C ao e).elim p.out.2 λG=>Ω⟩
 .rcases h with⟨q,h⟩|h
  .exact (p.apart q r h.1).1 x.2
  .exact (p.read r h).1 x.1
 .rcases f.2.1 r a with a|a
  .exact (p.apart q r h.1).1 a
  .have:=h.2;omega
 .exact (p.read r e).1 (mX (λo H U I=>y.aZ r o H U I) h)
 .rcases f.2.1 ao a with a|a
  .exact p.out.1 a
  .omega
theorem ch.P9{S:aj}{cn:Nat->aj}{u':aq}{b4:List x1}(p:ch w ae gT ao A R A9 aH n s u t h cs)(f:ai S w w')(B:∀r,r<w.heap.size->S r->(∃q,A9 q r)\/r=ao)(C:af w' ao a7 b4)(E:iC true cn aH w' b4 n.k n.sizes u')(F:∀q r,cn q r->(∃x,A9 x r)\/(¬A r/\¬R r/\r≠ao)):
  ch w' ae gT ao A R cn aH n s u' t h b4:=by
 have J:=p.box.lt;have z:=f.size;have G:∀q r,A9 q r->¬aH r:=by obtain⟨_,_,_,_,_,_,_,_,_,_,_,_,_,H⟩:=p.doc;exact(H rfl).2
 refine⟨⟨p.e6.1.ab f λr e h U=>?_,p.e6.2⟩,p.h3,C,E,λq r h=>?_,λr e=>⟨λh=>(p.read r e).1 (mX (λo I U _=>f.aZ r o I U λa=>?_) h),by have:=(p.read r e).2.1;omega,(p.read r e).2.2⟩,p.out⟩
 .rcases B r e U with⟨q,a⟩|a
  .exact h.elim (p.apart q r a).1 (p.apart q r a).2.1
  .subst a;exact h.elim p.out.1 p.out.2
 .rcases F q r h with⟨x,a⟩|a
  .exact p.apart x r a
  .exact a
 .rcases B r (p.read r e).2.1 a with⟨q,y⟩|y
  .exact G q r y e
  .exact (p.read r e).2.2 y
theorem ch.Qa{S:aj}{cn:Nat->aj}{u':aq}{b4:List x1}(p:ch w ae gT ao A R A9 aH n s u t h cs)(e:∀r,A r\/R r->r<B)(F:ao<B)(f:ai S w w')(x:∀r,r<w.heap.size->S r->(∃q,A9 q r)\/r=ao)(y:af w' ao a7 b4)(z:iC true cn aH w' b4 n.k n.sizes u')(C:∀q r,cn q r->(∃E,A9 E r)\/B<=r):
  ch w' ae gT ao A R cn aH n s u' t h b4:=
 p.P9 f x y z λq r h=>(C q r h).imp id λG=>⟨λa=>by have:=e r (.inl a);omega,λa=>by have:=e r (.inr a);omega,Ω⟩
theorem ch.EF{S:aj}{cn:Nat->aj}{u':aq}{b4:List x1}(p:ch w ae gT ao A R A9 aH n s u t h cs)(a:ai S w w')(e:∀r,r<w.heap.size->S r->(∃q,A9 q r)\/r=ao)(f:af w' ao a7 b4)(x:iC true cn aH w' b4 n.k n.sizes u')(y:∀q r,cn q r->(∃z,A9 z r)\/w.heap.size<=r):
  ch w' ae gT ao A R cn aH n s u' t h b4:=p.Qa (xL p.e6) p.box.lt a e f x y
theorem ch.look(p:ch w ae gT ao A R A9 aH n s u t h cs):nb w ao n.k n.sizes u:=by
 refine kc.box p.doc.EC (Ext.refl _) ?_;have:=p.box;exact this
theorem ch.ow(p:ch w ae gT ao A R A9 aH n s u t h cs):∃szv a e f q r,cs=[Δ n.k,szv,Δ u.zero,a,e,f,q,r]/\aI .i64 w szv n.sizes:=by
 obtain⟨szv,a,e,f,q,r,h1,x,_⟩:=p.doc;exact⟨szv,a,e,f,q,r,h1,eD x⟩
end
end Go.Proofs.YtikkpokkcdocoabGreatDoor
namespace Go.Vc
open Go Go.RowKit
section
variable{P:W5}{w:x3}{α:Type}[ap α]{S R:aj}
theorem um{v:x1}{l:List α}{i:Nat}{a:α}(h:bF S R w [v] l)(H:l[i]?=σ a)(Z:∀r,r<w.heap.size->S r->¬R r):∃g cap c F,v= .slice (σ ⟨g,0,ν⟩) l.length cap/\w.rangeAt g (i*ap.n α) c/\bF F R w c a/\(∀r,F r->S r)/\
  ∀{w':x3}{a':α}{T z:aj},ai T w w'->(∀r,r<w.heap.size->T r->F r)->bF z R w' c a'->(∀r,z r->F r\/w.heap.size<=r)->bF (λr=>S r\/w.heap.size<=r) R w' [v] (l.set i a'):=by
 have ao:=(x4.1 H).1;obtain⟨vs,g,F,s,he,U,hm⟩:=jm h;obtain⟨aa,I,K⟩:=hm rfl;obtain⟨aq,⟨rfl,au⟩|⟨cap,full,rfl,L,av,aw,ag,ax⟩⟩:=id K
 .omega
 have ac:vs.length=l.length:=he.1;have M:S g:=aa.resolve_left Ξ;obtain⟨c,B⟩:∃c,vs[i]?=σ c:=⟨_,x6 Ω⟩;have ad:=he.2 i c a B H;refine⟨g,cap,c,F i,rfl,?_,ad,λr p=>s.sub i r p,λ{w' a' T z}N O P C=>?_⟩
 .obtain⟨_,ay,o',az,aA,ae,_,_,af,_,ah⟩:=U;cases ae;cases af Ω;intro j u ak;have Q:=ah (i*ap.n α+j) u (by rw[<-List.flatMap_id];exact pq (f:=id) (k:=ap.n α) (λx J=>he.len x J) B ak);rw[X2]at Q;exact Q
 have al:¬T g:=λh=>s.top rfl i (O g L.lt h);have aB:=ap.len P;have aC:vs.set i c=vs:=by
  refine Y3 λq=>?_;rw[Y9];by_cases V:i=q
  .subst V;rw[if_pos rfl,if_pos Ω,B]
  .rw[if_neg V]
 have W:bV w' g I (ap.n α) (.slice (σ ⟨g,0,ν⟩) l.length cap) (l.set i a').length vs.flatten:=by
  rw[c9];exact K.ab N λ_=>al
 refine⟨_,rfl,vs,g,λj r=>if j=i then z r else F j r/\r<w.heap.size,⟨λj r p=>?_,λ_ j p=>?_,λ_ j q r am h1 y=>?_⟩,⟨by simp[ac],λj X Y G E=>?_⟩,?_,λ_=>⟨.inr (.inl M),I,W⟩⟩
 .split at p
  .exact (C r p).imp (s.sub i r) id
  .exact .inl (s.sub j r p.1)
 .split at p
  .rcases C g p with h|h
   .exact s.top rfl i h
   .have:=L.lt;omega
  .exact s.top rfl j p.1
 .split at h1<;>split at y
  .omega
  .rcases C r h1 with h|h
   .rename_i e _;exact s.gI rfl i q r Ω h y.1
   .have:=y.2;omega
  .rcases C r y with h|h
   .exact s.gI rfl j i r Ω h1.1 h
   .have:=h1.2;omega
  .exact s.gI rfl j q r am h1.1 y.1
 .by_cases A:j=i
  .subst A;rw[B]at G;rw[b8 Ω]at E;cases G;cases E;exact ap.mono P (λr _ h=>by simpa using h) λ_ _ h=>h
  .rw[Y2 (Ne.symm A)]at E;have an:bF (λr=>if j=i then z r else F j r/\r<w.heap.size) R w X Y:=ap.mono (he.2 j X Y G E) (λr p h=>by rw[if_neg A];exact⟨h,p⟩) λ_ _ h=>h;refine ap.ab an N λr p h1 y=>?_;have y:=O r p y;rcases h1 with h1|h1
   .simp only[if_neg A]at h1;exact s.gI rfl j i r A h1.1 y
   .exact Z r p (s.sub i r y) h1
 .have:=o0 (S:=λr=>(S r\/w.heap.size<=r)\/R r) W (.inr (.inl (.inl M)));exact this
theorem EG{v:x1}{l:List α}{i:Nat}{a:α}(h:bF S R w [v] l)(N:l[i]?=σ a)(O:∀r,r<w.heap.size->S r->¬R r):∃g cap full z c F,v= .slice (σ ⟨g,0,ν⟩) l.length cap/\af w g z full/\S g/\i*ap.n α+ap.n α<=full.length/\(∀(q:Nat)x,c[q]?=σ x->full[i*ap.n α+q]?=σ x)/\bF F R w c a/\(∀r,F r->S r)/\¬F g/\
  ∀{w':x3}{a':α}{A:List x1}{T C:aj},ai T w w'->(∀r,r<w.heap.size->T r->F r\/r=g)->af w' g z (over full (i*ap.n α) A)->bF C R w' A a'->(∀r,C r->F r\/w.heap.size<=r)->bF (λr=>S r\/w.heap.size<=r) R w' [v] (l.set i a'):=by
 have ad:=(x4.1 N).1;obtain⟨vs,g,F,y,he,U,hm⟩:=jm h;obtain⟨ae,z,ah⟩:=hm rfl;obtain⟨ay,⟨rfl,az⟩|⟨cap,full,rfl,P,Q,ak,ag,V⟩⟩:=id ah
 .omega
 have W:vs.length=l.length:=he.1;have G:S g:=ae.resolve_left Ξ;obtain⟨c,K⟩:∃c,vs[i]?=σ c:=⟨_,x6 Ω⟩;have al:=he.2 i c a K N;have am:(i+1)*ap.n α<=l.length*ap.n α:=X8 _ ad;have an:l.length*ap.n α<=full.length:=by rw[ag];exact X8 _ Q
 rw[U2,Nat.one_mul]at am;refine⟨g,cap,full,z,c,F i,rfl,P,G,Ω,λq x X=>?_,al,λr s=>y.sub i r s,y.top rfl i,λ{w' a' A T C}ao aq au Y H=>?_⟩
 .have L:=pq (f:=id) (k:=ap.n α) (λx J=>he.len x J) K X;rw[List.flatMap_id,<-V]at L;have aA:=(x4.1 X).1;have M:=he.len c (x5 K);rw[Z7 Ω]at L;exact L
 have M:=ap.len Y;have av:∀c∈vs.set i A,c.length=ap.n α:=λc B=>by
  rcases X9 B with p|rfl
  .exact he.len c p
  .exact M
 have Z:bV w' g z (ap.n α) (.slice (σ ⟨g,0,ν⟩) l.length cap) (l.set i a').length (vs.set i A).flatten:=by
  refine⟨by rw[qk av,c9,c9,W],.inr ⟨cap,_,by rw[c9],au,by rw[c9];exact Q,ak,by rw[k4,ag],?_⟩⟩;rw[c9,tb Ω an,V,Ez he.len M Ω]
 refine⟨_,rfl,vs.set i A,g,λj r=>if j=i then C r else F j r/\r<w.heap.size,⟨λj r s=>?_,λ_ j s=>?_,λ_ j q r aw h1 p=>?_⟩,⟨by simp[W],λj aa ac B I=>?_⟩,?_,λ_=>⟨.inr (.inl G),z,Z⟩⟩
 .split at s
  .exact (H r s).imp (y.sub i r) id
  .exact .inl (y.sub j r s.1)
 .split at s
  .rcases H g s with h|h
   .exact y.top rfl i h
   .have:=P.lt;omega
  .exact y.top rfl j s.1
 .split at h1<;>split at p
  .omega
  .rcases H r h1 with h|h
   .rename_i e _;exact y.gI rfl i q r Ω h p.1
   .have:=p.2;omega
  .rcases H r p with h|h
   .exact y.gI rfl j i r Ω h1.1 h
   .have:=h1.2;omega
  .exact y.gI rfl j q r aw h1.1 p.1
 .by_cases E:j=i
  .subst E;rw[b8 Ω]at B;rw[b8 Ω]at I;cases B;cases I;exact ap.mono Y (λr _ h=>by simpa using h) λ_ _ h=>h
  .rw[Y2 (Ne.symm E)]at B I;have ax:bF (λr=>if j=i then C r else F j r/\r<w.heap.size) R w aa ac:=ap.mono (he.2 j aa ac B I) (λr s h=>by rw[if_neg E];exact⟨h,s⟩) λ_ _ h=>h;refine ap.ab ax ao λr s h1 p=>?_;have p:=aq r s p;rcases h1 with h1|h1
   .simp only[if_neg E]at h1;rcases p with p|rfl
    .exact y.gI rfl j i r E h1.1 p
    .exact y.top rfl j h1.1
   .rcases p with p|rfl
    .exact O r s (y.sub i r p) h1
    .exact O r s G h1
 .have:=o0 (S:=λr=>(S r\/w.heap.size<=r)\/R r) Z (.inr (.inl (.inl G)));exact this
end
end Go.Vc
namespace Go.Proofs.YtikkpokkcdocoabGreatDoor
open Go Go.Vc Go.RowKit Go.Proofs Go.Proofs.Tryz
set_option maxRecDepth 100000
section
variable{w0 w:x3}{ae gT ao ga:Nat}{A R:aj}{A9 cn:Nat->aj}{aH:aj}{n:aF}{s u:aq}{t:aC}{h:List aC}{cs b4:List x1}{aK aL lD:x1}{Q:x1->x3->Prop}
theorem ch.olds(p:ch w0 ae gT ao A R A9 aH n s u t h cs):ch w0 ae gT ao A R (λq r=>A9 q r/\r<w0.heap.size) aH n s u t h cs:=
 ⟨p.e6,p.h3,p.box,p.doc.old,λq r a=>p.apart q r a.1,p.read,p.out⟩
end
theorem pS{α β:Type}{l:List α}{i:Nat}{a b:α}{f:α->β}(h:l[i]?=σ a)(ag:f b=f a):(l.set i b).map f=l.map f:=by
 rw[U4,ag];refine Y3 λq=>?_;rw[Y9];by_cases e:i=q
 .subst e;rw[if_pos rfl,x8,h,if_pos (by rw[r8];exact(x4.1 h).1)];rfl
 .rw[if_neg e]
theorem xM{T:Nat->Prop}(h:ai T w w'):ai (λr=>T r/\r<w.heap.size) w w':=⟨h.size,λr o a U e=>h.aZ r o a U λf=>e ⟨f,(l9.1 a).1⟩⟩
section
variable{w0 w w':x3}{ae gT ao ga:Nat}{A R:aj}{A9:Nat->aj}{aH:aj}{n:aF}{s u u':aq}{t:aC}{h:List aC}{cs:List x1}{aK aL lD v:x1}{Q:x1->x3->Prop}
theorem cc.qB{m:Bool}{zero:Int}{D:List (Λ)}{G:List Bool}{aW:List (Λ)}{H:List jA}{E:List ov}{i:Nat}(ad:cs[i]?=σ v)(h:cc m A9 aH w (cs.set i v) k sizes zero D G aW H E):cc m A9 aH w cs k sizes zero D G aW H E:=by
 have:cs.set i v=cs:=by
  refine Y3 λq=>?_;rw[Y9];by_cases a:i=q
  .subst a;have:=(x4.1 ad).1;rw[if_pos rfl,if_pos this,ad]
  .rw[if_neg a]
 rw[this]at h;exact h
theorem ch.row{T:aj}{cn:Nat->aj}{q:Nat}(p:ch w ae gT ao A R A9 aH n s u t h cs)(a:ai T w w')(e:∀r,r<w.heap.size->T r->A9 q r)(f:iC true cn aH w' cs n.k n.sizes u')(x:∀q r,cn q r->(∃y,A9 y r)\/w.heap.size<=r):
  ch w' ae gT ao A R cn aH n s u' t h cs:=
 p.EF a (λr z h=>.inl ⟨q,e r z h⟩) (p.box.ab a λh=>(p.apart q ao (e ao p.box.lt h)).2.2 rfl) f x
theorem xN{q:Nat}{B:aj}(a:∀r,B r->A9 q r\/w.heap.size<=r):∀j r,iD A9 q B j r->(∃e,A9 e r)\/w.heap.size<=r:=λj r h=>by
 unfold iD at h;split at h
 .exact (a r h).imp (λh=>⟨q,h⟩) id
 .exact .inl ⟨j,h⟩
end
theorem EH{full c:List x1}{o q:Nat}{x:x1}(f:∀(k:Nat)y,c[k]?=σ y->full[o+k]?=σ y)(h:o+c.length<=full.length)(p:q<c.length):full.set (o+q) x=over full o (c.set q x):=by
 refine Y3 λk=>?_;rw[mE _ _ _ (by rw[c9];exact h),Y9,c9];by_cases h1:o<=k/\k<o+c.length
 .rw[if_pos h1,Y9];by_cases a:o+q=k
  .rw[if_pos a,if_pos Ω,if_pos Ω,if_pos Ω]
  .rw[if_neg a,if_neg Ω];have e:k-o<c.length:=Ω
   have:=f (k-o) c[k-o] (x6 e);rw[x6 e,<-this];congr 1;omega
 .rw[if_neg h1,if_neg Ω]
section
variable{w0 w w':x3}{ae gT ao ga:Nat}{A R:aj}{A9:Nat->aj}{aH:aj}{n:aF}{s u u':aq}{t:aC}{h:List aC}{cs:List x1}{aK aL lD v:x1}{Q:x1->x3->Prop}
theorem ch.gI(p:ch w ae gT ao A R A9 aH n s u t h cs):(∀i j r,i≠j->A9 i r->¬A9 j r)/\∀i r,A9 i r->¬aH r:=by
 obtain⟨_,_,_,_,_,_,_,_,_,_,_,_,_,a⟩:=p.doc;exact a rfl
theorem ch.Qb{T:aj}(p:ch w ae gT ao A R A9 aH n s u t h cs)(y:∀q r,A9 q r->r<w.heap.size)(ad:cs[6]?=σ v)(e:ai T w w')(f:∀r,r<w.heap.size->T r->A9 3 r)(z:bF (λr=>A9 3 r\/w.heap.size<=r) aH w' [v] (u'.funs.map iB))(C:u'.zero=u.zero)(E:u'.vars=u.vars)(F:u'.hb=u.hb):∃cn,ch w' ae gT ao A R cn aH n s u' t h cs/\∀q r,cn q r->(∃G,A9 G r)\/w.heap.size<=r:=by
 have H:=cc.kK p.doc (xM e) (λr a=>.inl (f r a.2 a.1)) z (λj r I a=>?_) (λr a=>?_)
 .have x:=xN (w:=w) (A9:=A9) (q:=3) (B:=λr=>A9 3 r\/w.heap.size<=r) λr h=>h;refine⟨_,p.row e f ?_ x,x⟩;have:=cc.qB ad H;unfold iC;rw[C,E,F];exact this
 .rcases a with a|a
  .exact p.gI.1 3 j r (Ne.symm I) a
  .exact λh=>by have:=y j r h;omega
 .rcases a with a|a
  .exact p.gI.2 3 r a
  .exact λh=>by have:=(p.read r h).2.1;omega
end
theorem Qc{m:Int}{w:Int}(ad:0<=v)(hw:0<=w):dropped (((m.toNat ||| 2 ^ v.toNat:Nat):Int)) w=(dropped m w||decide (w=v)):=by
 unfold dropped;rw[u7,Nat.testBit_or,Nat.testBit_two_pow];congr 1;exact decide_eq_decide.2 ⟨λh=>Ω,λh=>Ω⟩
theorem xO{x:bG}(ad:0<=v):aG {x with mask:=((x.mask.toNat ||| 2 ^ v.toNat:Nat):Int)}=(aG x).filter λy=>!decide (y=v):=by
 unfold aG;rw[List.filter_filter];refine List.filter_congr λy a=>?_;obtain⟨q,_,rfl⟩:=j4.1 a;rw[Qc ad Ω];cases dropped x.mask (q:Int)<;>simp
section
variable{w0 w w':x3}{ae gT ao ga:Nat}{A R:aj}{A9:Nat->aj}{aH:aj}{n:aF}{s u u':aq}{t:aC}{h:List aC}{cs:List x1}{aK aL lD v:x1}{Q:x1->x3->Prop}
theorem ch.ox{T:aj}(p:ch w ae gT ao A R A9 aH n s u t h cs)(z:∀q r,A9 q r->r<w.heap.size)(ad:cs[3]?=σ v)(e:ai T w w')(f:∀r,r<w.heap.size->T r->A9 0 r)(C:bF (λr=>A9 0 r\/w.heap.size<=r) aH w' [v] (u'.vars.map aG))(E:u'.zero=u.zero)(F:u'.vars.map (·.un)=u.vars.map (·.un))(G:(u'.vars.map λx=>decide (x.gone≠0))=u.vars.map λx=>decide (x.gone≠0))(H:u'.funs=u.funs)(I:u'.hb=u.hb):
  ∃cn,ch w' ae gT ao A R cn aH n s u' t h cs/\∀q r,cn q r->(∃J,A9 J r)\/w.heap.size<=r:=by
 have K:=cc.ED p.doc (xM e) (λr a=>.inl (f r a.2 a.1)) C (λj r L a=>?_) (λr a=>?_)
 .have y:=xN (w:=w) (A9:=A9) (q:=0) (B:=λr=>A9 0 r\/w.heap.size<=r) λr h=>h;refine⟨_,p.row e f ?_ y,y⟩;have:=cc.qB ad K;unfold iC;rw[E,F,G,H,I];exact this
 .rcases a with a|a
  .exact p.gI.1 0 j r (Ne.symm L) a
  .exact λh=>by have:=z j r h;omega
 .rcases a with a|a
  .exact p.gI.2 0 r a
  .exact λh=>by have:=(p.read r h).2.1;omega
end
section
variable{w0 w w':x3}{ae gT ao ga:Nat}{A R:aj}{A9:Nat->aj}{aH:aj}{n:aF}{s u u':aq}{t:aC}{h:List aC}{cs:List x1}{aK aL lD v:x1}{Q:x1->x3->Prop}
theorem Qd{F:aj}{c:List x1}{f:ca}(h:bF (α:=jA) F R w c (iB f))(C:∀r,F r->¬R r):∃aL szv a6 e,c=[aL,szv,a6,.bool (decide (f.live≠0))]/\bF e R w [a6] f.cs/\(∀r,e r->F r)/\
  ∀{w':x3}{b4:Λ},ai e w w'->bF e R w' [a6] b4->bF (α:=jA) F R w' c (iB {f with cs:=b4}):=by
 obtain⟨ac,N,A,B,rfl,E,O,P,h1,q⟩:=h;obtain⟨Q,ad,aP,S,rfl,T,G,H,I,U⟩:=h1;obtain⟨V,W,X,s,rfl,Y,x,J,K,L⟩:=U;have q:N=[.bool (decide (f.live≠0))]:=q;subst q;obtain⟨y,rfl⟩:=W6.1 (show Q.length=1 from ap.len I);obtain⟨p,rfl⟩:=W6.1 (show V.length=1 from ap.len K);obtain⟨v3,rfl⟩:=W6.1 (show W.length=1 from ap.len L);have z:∀r,s r->F r:=λr h=>E r (G r (x r h));refine⟨y,p,v3,s,rfl,L,z,λ{w' b4}M Z=>?_⟩;refine⟨[y,p,v3],[.bool (decide (f.live≠0))],A,B,rfl,E,O,P,⟨[y],[p,v3],aP,S,rfl,T,G,H,ap.ab I M λr aa a he=>?_,[p],[v3],X,s,rfl,Y,x,J,ap.ab K M λr aa a he=>?_,Z⟩,rfl⟩
 .exact a.elim (λa=>H rfl r a (x r he)) (C r (z r he))
 .exact a.elim (λa=>J rfl r a he) (C r (z r he))
end
theorem dn.vars{s:aq}{i:Nat}{x y:bG}(h:dn s)(J:s.vars[i]?=σ x)(q:y.gone=x.gone):dn {s with vars:=s.vars.set i y}:=λf ag p v ad z a=>by
 have a:(s.vars.set i y)[v.toNat]?=σ z:=a;rw[Y9]at a;split at a
 .rename_i e;split at a
  .cases a;subst e;rw[q];exact h f ag p v ad x J
  .cases a
 .exact h f ag p v ad z a
theorem dn.funs{s:aq}{f g:ca}(h:dn s)(ag:s.funs[j]?=σ f)(U:g.sc=f.sc)(p:g.live≠0->f.live≠0):dn {s with funs:=s.funs.set j g}:=λx J a v ad z e=>by
 rcases X9 J with J|rfl
 .exact h x J a v ad z e
 .exact h f (x5 ag) (p a) v (by rw[<-U];exact ad) z e
structure hM where
 kind:Nat
 i:Int
 pos:Int
 v:Int
 c:Int
def eg(s:aq)(i v:Int):Option bG:=if 0<=i then match s.vars[i.toNat]? with
 |some x=>if x.gone=0/\v∈aG x then σ x else ν
 |none=>ν else ν
def eh(s:aq)(j pos v:Int):Option (ca×Int×bG):=if 0<=j/\0<=pos then match s.funs[j.toNat]? with
 |some f=>if f.live≠0 then match f.sc[pos.toNat]? with
  |some u=>(eg s u v).map λx=>(f,u,x)
  |none=>ν
  else ν
 |none=>ν else ν
def mm(k:Int)(s:aq)(f:ca)(pos:Nat)(v:Int):Int:=((cm s f.sc pos v).map (bt f.ak f.cs)).foldl min k
def dq(k c most:Int):Int:=if¬(0<=c/\c<=k)then 3 else if most<c then 7 else 0
def i9(x:bG):Int:=match(aG x).map λv=>x.un.getD v.toNat 0 with
 |[]=>-1
 |c::l=>l.foldl min c
def gi(s:aq)(i:Nat)(v:Int):Λ->aq
 |[]=>s
 |w::L=>gi (if w≠v then ef s i w.toNat else s) i v L
def cw(k:Int)(s:aq)(a:hM):aq×Int:=
 if a.kind=0 then match eh s a.i a.pos a.v with
  |none=>(s,1)
  |some (f,u,x)=>if dq k a.c (mm k s f a.pos.toNat a.v)≠0 then(s,dq k a.c (mm k s f a.pos.toNat a.v))else(i7 s a.i.toNat f a.pos.toNat u.toNat x a.v (λg=>dL k g a.c) λg=>dp k g a.c,0)
 else if a.kind=1 then match eh s a.i a.pos a.v with
  |none=>(s,1)
  |some (f,u,x)=>if dq k a.c (x.un.getD a.v.toNat 0)≠0 then(s,dq k a.c (x.un.getD a.v.toNat 0))else(i7 s a.i.toNat f a.pos.toNat u.toNat x a.v (λg=>dp k g a.c) λg=>dL k g a.c,0)
 else if a.kind=2 then match(if 0<=a.i then s.vars[a.i.toNat]? else ν)with
  |none=>(s,1)
  |some x=>if x.gone≠0 then(s,1)else if dq k a.c (i9 x)≠0 then(s,dq k a.c (i9 x))else(kP s a.i.toNat x (λg=>dL k g a.c) λg=>dp k g a.c,0)
 else if a.kind=3 then match(if 0<=a.i then s.vars[a.i.toNat]? else ν)with
  |none=>(s,1)
  |some x=>if x.gone≠0 then(s,1)else if dq k a.c (if aG x=[]then-1 else s.zero)≠0 then(s,dq k a.c (if aG x=[]then-1 else s.zero))else(kP s a.i.toNat x (λg=>dp k g a.c) λg=>dL k g a.c,0)
 else if a.kind=4 then match eg s a.i a.v with
  |none=>(s,1)
  |some x=>if dp k s.zero (x.un.getD a.v.toNat 0)<k then(s,7)else(ef s a.i.toNat a.v.toNat,0)
 else match eg s a.i a.v with
  |none=>(s,1)
  |some x=>(gi s a.i.toNat a.v (aG x),0)
theorem pT:∀(l:Λ)(z c:Int),c<=l.foldl min z↔c<=z/\∀x∈l,c<=x
 |[],z,c=>Ξ
 |a::l,z,c=>by
  rw[S1,pT l (min z a) c];rw[List.forall_mem_cons];exact⟨λ⟨h1,e⟩=>⟨Ω,Ω,e⟩,λ⟨h1,e,f⟩=>⟨Ω,f⟩⟩
theorem nc{most:Int}(h:¬dq k c most≠0):(0<=c/\c<=k)/\c<=most:=by
 unfold dq at h;split at h
 .exact absurd Φ h
 .rename_i h1;split at h
  .exact absurd Φ h
  .exact⟨Z9.1 h1,Ω⟩
theorem kQ{s:aq}{i:Int}{x:bG}(h:eg s i v=σ x):0<=i/\s.vars[i.toNat]?=σ x/\x.gone=0/\v∈aG x:=by
 unfold eg at h;split at h
 .rename_i e;split at h
  .rename_i y f;split at h
   .rename_i a;cases h;exact⟨e,f,a.1,a.2⟩
   .cases h
  .cases h
 .cases h
theorem ne{s:aq}{j u:Int}{f:ca}{x:bG}(h:eh s j pos v=σ (f,u,x)):0<=j/\0<=pos/\s.funs[j.toNat]?=σ f/\f.live≠0/\f.sc[pos.toNat]?=σ u/\eg s u v=σ x:=by
 unfold eh at h;split at h
 .rename_i a;split at h
  .rename_i g e;split at h
   .rename_i p;split at h
    .rename_i w hw;cases ad:eg s w v with
     |none=>rw[ad]at h;cases h
     |some y=>
      rw[ad]at h;cases h;exact⟨a.1,a.2,e,p,hw,ad⟩
    .cases h
   .cases h
  .cases h
 .cases h
section
variable{k:Int}{sizes a:Λ}{s:aq}
theorem nf{g:Int}(a:0<=g/\g<=k)(e:0<=c/\c<=g):0<=dL k g c/\dL k g c<=k:=by
 unfold dL;split<;>omega
theorem ng{g:Int}(a:0<=g/\g<=k)(e:0<=c):0<=dp k g c/\dp k g c<=k:=by
 unfold dp;omega
theorem hN{u:Nat}{v:Nat}{x:bG}(a:br k sizes s)(J:s.vars[u]?=σ x):0<=x.un.getD v 0/\x.un.getD v 0<=k:=by
 have hk:=a.ew;have e:=(x4.1 J).1;have f:=a.vars;exact Eo Ω (a.var u x _ J (x6 Ω)).2.1
theorem oy{f:ca}(a:br k sizes s)(ag:f∈s.funs):0<=bt f.ak f.cs t/\bt f.ak f.cs t<=k:=(tD a.ew λc e=>⟨a.ew,(a.funs f ag).1.h0 c e⟩).2
theorem xP{x:bG}(h:v∈aG x)(a:c<=i9 x):c<=x.un.getD v.toNat 0:=by
 unfold i9 at a;have hm:x.un.getD v.toNat 0∈(aG x).map λv=>x.un.getD v.toNat 0:=j4.2 ⟨v,h,rfl⟩;generalize (aG x).map (λv=>x.un.getD v.toNat 0)=l at a hm;cases l with
 |nil=>cases hm
 |cons b l=>
  have h1:=(pT l b c).1 a;rcases V3.1 hm with e|e
  .rw[e];exact h1.1
  .exact h1.2 _ e
theorem rA{i:Nat}{v:Int}{x:bG}:∀(L:Λ)(s:aq),br k sizes s->s.vars[i]?=σ x->(∀w∈L,0<=w/\w<x.un.length)->br k sizes (gi s i v L)/\(dn s->dn (gi s i v L))/\
  ∀bh,lp s a->x.gone=0->a[i]?=σ bh->hc k (gi s i v L) a=if bh∈L/\bh≠v then k else hc k s a
 |[],s,z,J,_=>⟨z,id,λbh _ _ _=>by rw[if_neg Ξ];rfl⟩
 |w::L,s,z,J,C=>by
  unfold gi;by_cases hw:w≠v
  .rw[if_pos hw];have G:=C w (.head _);have K:=xI z J G;have H:=(x4.1 J).1;have M:(ef s i w.toNat).vars[i]?=σ {x with mask:=((x.mask.toNat ||| 2 ^ w.toNat:Nat):Int)}:=by rw[ml J];exact b8 H
   obtain⟨h1,E,F⟩:=rA L (ef s i w.toNat) K M λu hu=>C u (.tail _ hu);refine⟨h1,λN=>E ?_,λbh p A B=>?_⟩
   .rw[ml J];exact dn.vars N J rfl
   .have O:lp (ef s i w.toNat) a:=by
     rw[ml J];refine⟨by show a.length=(s.vars.set _ _).length;rw[c9];exact p.1,λq y b r I=>?_⟩;have r:(s.vars.set i {x with mask:=((x.mask.toNat ||| 2 ^ w.toNat:Nat):Int)})[q]?=σ y:=r;by_cases e:i=q
     .subst e;rw[b8 H]at r;cases r;exact p.2 i x b J I
     .rw[Y2 e]at r;exact p.2 q y b r I
    rw[F bh O A B,Ey z p J A G B];by_cases e:bh=w
    .subst e;rw[if_pos rfl,if_pos (show bh∈bh::L/\bh≠v from⟨.head _,hw⟩)];split<;>rfl
    .rw[if_neg e];by_cases f:bh∈L/\bh≠v
     .rw[if_pos f,if_pos ⟨.tail _ f.1,f.2⟩]
     .rw[if_neg f,if_neg λh=>f ⟨(V3.1 h.1).resolve_left e,h.2⟩]
  .rw[if_neg hw];obtain⟨h1,E,F⟩:=rA L s z J λu hu=>C u (.tail _ hu);refine⟨h1,E,λbh p A B=>?_⟩;rw[F bh p A B];have hw:=Z9.1 hw;by_cases f:bh∈L/\bh≠v
   .rw[if_pos f,if_pos ⟨.tail _ f.1,f.2⟩]
   .rw[if_neg f,if_neg λh=>f ⟨(V3.1 h.1).resolve_left λe=>h.2 (e.trans hw),h.2⟩]
theorem dn.zero(h:dn s):dn {s with zero:=c}:=h
theorem EJ{pos u:Nat}{f:ca}{x:bG}{tup un:Int->Int}(h:dn s)(ag:s.funs[j]?=σ f)(J:s.vars[u]?=σ x):dn (i7 s j f pos u x v tup un):=
 dn.vars (s:=dM s j f (dD tup (cm s f.sc pos v) f.ak f.cs)) (dn.funs h ag rfl id) J rfl
theorem EK{u:Nat}{x:bG}{g z:Int->Int}(h:dn s)(J:s.vars[u]?=σ x):dn (kP s u x g z):=dn.zero (dn.vars h J rfl)
def pU(k:Int)(s:aq)(m:hM)(s':aq)(e:Int)(a:Λ):Prop:=hc k s' a=if 5<=m.kind/\e=0/\a[m.i.toNat]? ≠σ m.v then k else hc k s a
theorem Qe{m:hM}(p:br k sizes s)(F:dn s):br k sizes (cw k s m).1/\dn (cw k s m).1/\∀a,lp s a->pU k s m (cw k s m).1 (cw k s m).2 a:=by
 have hk:=p.ew;have B:∀e:Int,e≠0->br k sizes s/\dn s/\∀a,lp s a->pU k s m s e a:=λe he=>⟨p,F,λa _=>by unfold pU;rw[if_neg λh=>he h.2.1]⟩;have low:∀{s':aq}{e:Int},m.kind<5->br k sizes s'->dn s'->(∀a,lp s a->hc k s' a=hc k s a)->br k sizes s'/\dn s'/\∀a,lp s a->pU k s m s' e a:=λhm h1 K T=>⟨h1,K,λa y=>by unfold pU;rw[if_neg λh=>Ω];exact T a y⟩;unfold cw;split
 .rename_i P;cases z:eh s m.i m.pos m.v with
  |none=>exact B 1 Φ
  |some q=>
   obtain⟨f,u,x⟩:=q;simp only;split
   .rename_i he;exact B _ he
   .rename_i he;obtain⟨A,hm⟩:=nc he;simp only;obtain⟨_,_,ag,L,hu,ad⟩:=ne z;obtain⟨aa,J,E,Q⟩:=kQ ad;have G:=x5 ag;have U:∀t∈cm s f.sc m.pos.toNat m.v,m.c<=bt f.ak f.cs t:=λt C=>((pT _ _ _).1 hm).2 _ (j4.2 ⟨t,C,rfl⟩);have R:f.sc[m.pos.toNat]?=σ ((u.toNat:Nat):Int):=by rw[hu];congr 1;omega
    have C:∀t∈cm s f.sc m.pos.toNat m.v,0<=dL k (bt f.ak f.cs t) m.c/\dL k (bt f.ak f.cs t) m.c<=k:=λt C=>nf (oy p G) ⟨A.1,U t C⟩;have M:=ng (k:=k) (hN (v:=m.v.toNat) p J) A.1;refine low Ω (Eu p ag J C M) (EJ F ag J) λa y=>Ev p y ag L R J Q (F f G L) C M λt C r H=>?_;have:=oy (t:=t) p G;exact ud H ⟨U t C,this.2⟩ (hN p J) A.1
 split
 .rename_i _ P;cases z:eh s m.i m.pos m.v with
  |none=>exact B 1 Φ
  |some q=>
   obtain⟨f,u,x⟩:=q;simp only;split
   .rename_i he;exact B _ he
   .rename_i he;obtain⟨A,hm⟩:=nc he;simp only;obtain⟨_,_,ag,L,hu,ad⟩:=ne z;obtain⟨aa,J,E,Q⟩:=kQ ad;have G:=x5 ag;have R:f.sc[m.pos.toNat]?=σ ((u.toNat:Nat):Int):=by rw[hu];congr 1;omega
    have C:∀t∈cm s f.sc m.pos.toNat m.v,0<=dp k (bt f.ak f.cs t) m.c/\dp k (bt f.ak f.cs t) m.c<=k:=λt C=>ng (oy p G) A.1;have M:=nf (k:=k) (hN (v:=m.v.toNat) p J) ⟨A.1,hm⟩;refine low Ω (Eu p ag J C M) (EJ F ag J) λa y=>Ev p y ag L R J Q (F f G L) C M λt C r H=>?_;have h1:=oy (t:=t) p G;have K:=hN (v:=m.v.toNat) p J;have:=ud (k:=k) H ⟨hm,K.2⟩ h1 A.1;omega
 split
 .rename_i _ _ P;cases z:(if 0<=m.i then s.vars[m.i.toNat]? else ν)with
  |none=>exact B 1 Φ
  |some x=>
   have J:s.vars[m.i.toNat]?=σ x:=by split at z;exact z;cases z
   simp only;split
   .exact B 1 Φ
   split
   .rename_i he;exact B _ he
   .rename_i E he;obtain⟨A,hm⟩:=nc he;simp only;have V:∀v∈aG x,m.c<=x.un.getD v.toNat 0:=λv ad=>xP ad hm;have N:∀v∈aG x,0<=dL k (x.un.getD v.toNat 0) m.c/\dL k (x.un.getD v.toNat 0) m.c<=k:=λv ad=>nf (hN p J) ⟨A.1,V v ad⟩;have O:=ng (k:=k) p.zero A.1;refine low Ω (xH p J N O) (EK F J) λa y=>Ex p y J (Z9.1 E) N O λv ad r H=>?_;exact ud H ⟨V v ad,(hN p J).2⟩ p.zero A.1
 split
 .rename_i _ _ _ P;cases z:(if 0<=m.i then s.vars[m.i.toNat]? else ν)with
  |none=>exact B 1 Φ
  |some x=>
   have J:s.vars[m.i.toNat]?=σ x:=by split at z;exact z;cases z
   simp only;obtain⟨W,X⟩:∃W,W=(if aG x=[]then-1 else s.zero):=⟨_,rfl⟩;rw[<-X];split
   .exact B 1 Φ
   split
   .rename_i he;exact B _ he
   .rename_i E he;obtain⟨A,hm⟩:=nc he;simp only;have Y:m.c<=s.zero:=by
     rw[X]at hm;split at hm
     .omega
     .exact hm
    have N:∀v∈aG x,0<=dp k (x.un.getD v.toNat 0) m.c/\dp k (x.un.getD v.toNat 0) m.c<=k:=λv ad=>ng (hN p J) A.1;have O:=nf (k:=k) p.zero ⟨A.1,Y⟩;refine low Ω (xH p J N O) (EK F J) λa y=>Ex p y J (Z9.1 E) N O λv ad r H=>?_;have:=ud (k:=k) H ⟨Y,p.zero.2⟩ (hN (v:=v.toNat) p J) A.1;omega
 split
 .rename_i _ _ _ _ P;cases z:eg s m.i m.v with
  |none=>exact B 1 Φ
  |some x=>
   obtain⟨_,J,E,ad⟩:=kQ z;simp only;split
   .exact B 7 Φ
   .rename_i he;have Z:=(h8.1 ad).1;simp only;refine low Ω (xI p J Z) (by rw[ml J];exact dn.vars F J rfl) λa y=>?_;have ab:=(x4.1 J).1;have ac:=y.1;obtain⟨bh,I⟩:=aJ (l:=a) (i:=m.i.toNat) Ω;rw[Ey p y J E Z I];split
    .rename_i e;subst e;rw[ou p];split
     .have ae:(s.vars.zip a)[m.i.toNat]?=σ (x,m.v):=List.getElem?_zip_eq_some.2 ⟨J,I⟩;have h1:=rx (ue (a:=a) p) (i:=m.i.toNat) (x:=dx (x,m.v)) (by rw[x8,ae];rfl);have K:=rv _ (ry (a:=a) p);have ah:dx (x,m.v)=x.un.getD m.v.toNat 0:=by unfold dx;rw[if_neg (by simp[E])]
      unfold dp at he;omega
     .rfl
    .rfl
 .rename_i h1 K T ai aj;cases z:eg s m.i m.v with
  |none=>exact B 1 Φ
  |some x=>
   obtain⟨_,J,E,ad⟩:=kQ z;simp only;have S:∀w∈aG x,0<=w/\w<x.un.length:=λw hw=>(h8.1 hw).1;refine⟨(rA (a:=[]) (aG x) s p J S).1,(rA (a:=[]) (aG x) s p J S).2.1 F,λa y=>?_⟩;have ab:=(x4.1 J).1;have ac:=y.1;obtain⟨bh,I⟩:=aJ (l:=a) (i:=m.i.toNat) Ω;unfold pU;rw[(rA (aG x) s p J S).2.2 bh y E I,I];by_cases e:bh=m.v
   .rw[if_neg λh=>h.2 e,if_neg λh=>h.2.2 (by rw[e])]
   .rw[if_pos (c:=5<=m.kind/\_) ⟨Ω,rfl,λh=>e (b9 h)⟩];split
    .rfl
    .rename_i af;exact PX y J E I λh=>af ⟨h,e⟩
end
theorem Qf{f:Int->Int}(U:dQ ak)(r:cs.length<=(bp ak).length)(h:∀t∈L,f (bt ak cs t)=bt ak cs t):dD f L ak cs=cs:=by
 apply Y3;intro i;cases a:cs[i]? with
 |none=>
  have h1:=List.getElem?_eq_none_iff.1 a;rw[Z2 (by rw[om]<;>omega)]
 |some c=>
  obtain⟨t,p⟩:=aJ (l:=bp ak) (i:=i) (by have:=(x4.1 a).1;omega);rw[pI p a];split
  .rename_i q;have e:bt ak cs t=c:=by
    unfold bt;rw[jT U p];simp only;rw[u7,u4,a];rfl
   have:=h t q;rw[e]at this;rw[this]
  .rfl
section
variable{k:Int}{sizes:Λ}{s:aq}
end
section
variable{k:Int}{sizes:Λ}{s:aq}
theorem uo{f:ca}{pos:Nat}(a:br k sizes s)(ag:f∈s.funs)(ad:∀u,f.sc[pos]?=σ u->v∈bk s u)(h:t∈cm s f.sc pos v):∃m:Nat,cH f.ak t 0=σ (m:Int):=by
 obtain⟨e,p,_⟩:=a.funs f ag;obtain⟨q,_⟩:=lC a ag;rw[xB a (λu hu=>⟨(e.scope.1 u hu).1,e.vars u hu⟩) ad,<-p]at h;obtain⟨i,hi⟩:=X3.1 (T3.1 h).1;exact⟨i,jT q hi⟩
end
section
variable{k:Int}{sizes:Λ}{s:aq}
theorem Qg{m:hM}(h:(cw k s m).2≠0):(cw k s m).1=s:=by
 generalize hm:cw k s m=r at h ⊢;unfold cw at hm
 repeat' split at hm
 all_goals (subst hm;first|rfl|exact absurd rfl h)
end
section
variable{n:aF}{s:aq}
theorem Qh{i:Int}(a:br n.k n.sizes s):0<=(iA n s i).1/\(iA n s i).1<=n.k:=by
 have hk:=a.ew;exact xx Ω λv _=>pK a
end
structure eM(s s':aq):Prop where
 vars:s'.vars.length=s.vars.length
 var:∀(i:Nat)x y,s.vars[i]?=σ x->s'.vars[i]?=σ y->y.gone=x.gone/\y.un.length=x.un.length
 funs:s'.funs.length=s.funs.length
 fn:∀(j:Nat)f g,s.funs[j]?=σ f->s'.funs[j]?=σ g->g.sc=f.sc/\g.ak=f.ak/\g.live=f.live/\g.cs.length=f.cs.length
 hb:s'.hb=s.hb
theorem eM.rfl{s:aq}:eM s s:=⟨Eq.refl _,λ_ _ _ h1 a=>by rw[h1]at a;cases a;exact⟨Eq.refl _,Eq.refl _⟩,Eq.refl _,λ_ _ _ h1 a=>by rw[h1]at a;cases a;exact⟨Eq.refl _,Eq.refl _,Eq.refl _,Eq.refl _⟩,Eq.refl _⟩
theorem eM.trans{a b c:aq}(h:eM a b)(k:eM b c):eM a c:=by
 refine⟨k.vars.trans h.vars,λi x z J s=>?_,k.funs.trans h.funs,λj f q ag w=>?_,k.hb.trans h.hb⟩
 .have A:=(x4.1 J).1;have ad:=h.vars;obtain⟨y,p⟩:=aJ (l:=b.vars) (i:=i) Ω;have h1:=h.var i x y J p;have e:=k.var i y z p s;exact⟨e.1.trans h1.1,e.2.trans h1.2⟩
 .have A:=(x4.1 ag).1;have ad:=h.funs;obtain⟨g,r⟩:=aJ (l:=b.funs) (i:=j) Ω;have h1:=h.fn j f g ag r;have e:=k.fn j g q r w;exact⟨e.1.trans h1.1,e.2.1.trans h1.2.1,e.2.2.1.trans h1.2.2.1,e.2.2.2.trans h1.2.2.2⟩
section
variable{k:Int}{sizes:Λ}{s:aq}
theorem xQ{i:Nat}{x y:bG}(J:s.vars[i]?=σ x)(r:y.gone=x.gone)(w:y.un.length=x.un.length):eM s {s with vars:=s.vars.set i y}:=by
 refine⟨c9,λj a b q h=>?_,rfl,λj f g h1 p=>?_,rfl⟩
 .have h:(s.vars.set i y)[j]?=σ b:=h;by_cases e:i=j
  .subst e;rw[b8 (x4.1 J).1]at h;rw[J]at q;cases q;cases h;exact⟨r,w⟩
  .rw[Y2 e,q]at h;cases h;exact⟨rfl,rfl⟩
 .have p:s.funs[j]?=σ g:=p;rw[h1]at p;cases p;exact⟨rfl,rfl,rfl,rfl⟩
theorem Qi{f g:ca}(ag:s.funs[j]?=σ f)(h:g.sc=f.sc/\g.ak=f.ak/\g.live=f.live/\g.cs.length=f.cs.length):eM s {s with funs:=s.funs.set j g}:=by
 refine⟨rfl,λi a b r p=>?_,c9,λq a b r p=>?_,rfl⟩
 .have p:s.vars[i]?=σ b:=p;rw[r]at p;cases p;exact⟨rfl,rfl⟩
 .have p:(s.funs.set j g)[q]?=σ b:=p;by_cases e:j=q
  .subst e;rw[b8 (x4.1 ag).1]at p;rw[ag]at r;cases r;cases p;exact h
  .rw[Y2 e,r]at p;cases p;exact⟨rfl,rfl,rfl,rfl⟩
theorem Qj:eM s {s with zero:=c}:=⟨rfl,λ_ _ _ h1 a=>by have a:s.vars[_]?=σ _:=a;rw[h1]at a;cases a;exact⟨rfl,rfl⟩,rfl,λ_ _ _ h1 a=>by have a:s.funs[_]?=σ _:=a;rw[h1]at a;cases a;exact⟨rfl,rfl,rfl,rfl⟩,rfl⟩
theorem xR{i:Nat}:eM s (ef s i v.toNat):=by
 cases J:s.vars[i]? with
 |none=>unfold ef;rw[J];exact .rfl
 |some x=>rw[ml J];exact xQ J rfl rfl
theorem xS{i:Nat}{v:Int}:∀(L:Λ)(s:aq),eM s (gi s i v L)
 |[],_=>.rfl
 |w::L,s=>by
  unfold gi;split
  .exact xR.trans (xS L _)
  .exact xS L s
theorem EL{u:Nat}{x:bG}{g z:Int->Int}(J:s.vars[u]?=σ x):eM s (kP s u x g z):=
 (xQ (y:={x with un:=eb g x.un (aG x)}) J rfl (uh _ _)).trans Qj
theorem EM{pos u:Nat}{f:ca}{x:bG}{t un:Int->Int}(a:br k sizes s)(ag:s.funs[j]?=σ f)(J:s.vars[u]?=σ x):eM s (i7 s j f pos u x v t un):=by
 obtain⟨_,e⟩:=lC a (x5 ag);have h1:eM s (dM s j f (dD t (cm s f.sc pos v) f.ak f.cs)):=Qi ag ⟨rfl,rfl,rfl,om _ _ _ _ Ω⟩;exact h1.trans (xQ (s:=dM s j f (dD t (cm s f.sc pos v) f.ak f.cs)) (y:={x with un:=x.un.set v.toNat (un (x.un.getD v.toNat 0))}) J rfl c9)
theorem Qk{m:hM}(p:br k sizes s):eM s (cw k s m).1:=by
 by_cases he:(cw k s m).2=0
 .generalize a:cw k s m=r at he ⊢;unfold cw at a;split at a
  .split at a
   .subst a;exact .rfl
   .rename_i f u x e;obtain⟨_,_,ag,_,_,ad⟩:=ne e;obtain⟨_,J,_,_⟩:=kQ ad;split at a
    .subst a;exact .rfl
    .subst a;simp only;exact EM p ag J
  split at a
  .split at a
   .subst a;exact .rfl
   .rename_i f u x e;obtain⟨_,_,ag,_,_,ad⟩:=ne e;obtain⟨_,J,_,_⟩:=kQ ad;split at a
    .subst a;exact .rfl
    .subst a;simp only;exact EM p ag J
  have key:∀{x:bG},(if 0<=m.i then s.vars[m.i.toNat]? else ν)=σ x->s.vars[m.i.toNat]?=σ x:=λh=>by
   split at h
   .exact h
   .cases h
  split at a
  .split at a
   .subst a;exact .rfl
   .rename_i x e;split at a
    .subst a;exact .rfl
    .split at a
     .subst a;exact .rfl
     .subst a;simp only;exact EL (key e)
  split at a
  .split at a
   .subst a;exact .rfl
   .rename_i x e;generalize (if aG x=[]then-1 else s.zero)=q at a;split at a
    .subst a;exact .rfl
    .split at a
     .subst a;exact .rfl
     .subst a;simp only;exact EL (key e)
  split at a
  .split at a
   .subst a;exact .rfl
   .split at a
    .subst a;exact .rfl
    .subst a;exact xR
  .split at a
   .subst a;exact .rfl
   .subst a;exact xS _ _
 .rw[Qg he];exact .rfl
end
theorem Ql{of:Int->Int}:(l=[]/\(eK k l of).2= -1)\/(eK k l of).2∈l:=by
 have key:∀(l:Λ)(p:Int×Int),(l.foldl (gD of) p).2=p.2\/(l.foldl (gD of) p).2∈l:=λl=>by
  induction l with
  |nil=>exact λp=>.inl rfl
  |cons v l a=>
   intro p;rw[S1];rcases a (gD of p v)with h|h
   .rw[h];unfold gD;split
    .exact .inr (.head _)
    .exact .inl rfl
   .exact .inr (.tail _ h)
 cases l with
 |nil=>exact .inl ⟨rfl,rfl⟩
 |cons v l=>
  right;unfold eK;rw[S1];have e:gD of (k,-1) v=(of v,v):=by unfold gD;rw[if_pos (.inl rfl)]
  rw[e];rcases key l (of v,v)with h|h
  .rw[h];exact .head _
  .exact .tail _ h
section
variable{n:aF}{s:aq}
def Qm(n:aF)(s:aq)(i:Int):Prop:=hK s i.toNat=false->bk s i≠[]/\(iA n s i).1=0/\∀v∈bk s i,dp n.k s.zero (eV n s i v)<n.k
theorem EN{i:Int}(e:br n.k n.sizes s):(iA n s i).2<0↔bk s i=[]:=by
 rcases Ql (k:=n.k) (l:=bk s i) (of:=eV n s i)with⟨h1,a⟩|h
 .unfold iA;rw[a];exact⟨λ_=>h1,λ_=>Φ⟩
 .have h:(iA n s i).2∈bk s i:=h;generalize (iA n s i).2=w at h;have f:0<=w:=by
   unfold bk at h;split at h
   .exact (h8.1 h).1.1
   .cases h
  refine⟨λa=>Ω,λa=>?_⟩;rw[a]at h;cases h
end
section
variable{n:aF}{s:aq}
def rB(n:aF)(s:aq):Prop:=∀i<n.sizes.length,Qm n s (i:Int)
theorem Qn{i:Nat}(a:br n.k n.sizes s)(h:rB n s)(hi:i<n.sizes.length)(e:hK s i=false):s.zero<n.k:=by
 obtain⟨f,_,p⟩:=h i hi (by rw[u7];exact e);obtain⟨v,ad⟩:=List.exists_mem_of_ne_nil _ f;have h1:=p v ad;have q:=(pK (n:=n) (s:=s) (i:=(i:Int)) (v:=v) a).1;unfold dp at h1;omega
end
def uq(B:Nat)(w:x3)(a:x1)(cs:List x1)(f:bY):Prop:=∃ae gT A R t N A9 aH,e0 N f/\a=Γ ae/\bw w ae gT A R (cR f) (cY (cR f)) t/\Plain t/\(∀r,A r->B<=r)/\
 iC true A9 aH w cs (cR f).k (cR f).sizes (cY (cR f))/\(∀q r,A9 q r->¬A r/\¬R r/\B<=r)/\(∀r,aH r->¬en w r/\r<w.heap.size/\B<=r)/\∀r,R r->B<=r
def Qo(w:x3)(q:Λ)(v:x1)(w':x3):Prop:=Ext w w'/\∃a cs ok,v= .tuple #[a,.agg cs.toArray,.bool ok]/\(cs.length=8/\∀u∈cs,u.oneCell'=true)/\((ok=false/\a= .pointer ν)\/(ok=true/\∃f,fj q=σ f/\uq w.heap.size w' a cs f))/\∀f,fj q=σ f->iS f.funs<=16384->ok=true
theorem Qp(U:dQ ak):(bp ak).Nodup:=by
 rw[List.nodup_iff_pairwise_ne,V6];intro i j hi a f he;have h1:=jT U (x6 hi);have e:=jT U (x6 a);rw[he,e]at h1;have:=b9 h1;omega
section
variable{k:Int}{sizes:Λ}{s:aq}
theorem EO{f:ca}{pos:Nat}(a:br k sizes s)(ag:f∈s.funs)(ad:∀u,f.sc[pos]?=σ u->v∈bk s u):(cm s f.sc pos v).Nodup:=by
 obtain⟨e,h,_⟩:=a.funs f ag;obtain⟨p,_⟩:=lC a ag;rw[xB a (λu hu=>⟨(e.scope.1 u hu).1,e.vars u hu⟩) ad,<-h];exact(Qp p).sublist List.filter_sublist
theorem xT{α:Type}{l:List α}{q:Nat}{a:α}(e:l.Nodup)(h:l[q]?=σ a):a∉l.take q:=λhm=>by
 obtain⟨i,hi⟩:=X3.1 hm;have f:i<q:=by have:=(x4.1 hi).1;rw[n9]at this;omega
 rw[Z7 f]at hi;have h1:=(x4.1 hi).1;have p:=(x4.1 h).1;have:=(List.getElem_inj e (h₀:=h1) (h₁:=p)).1 (by rw[(x4.1 hi).2,(x4.1 h).2]);omega
theorem EP{m q:Nat}{f:ca}{g:Int->Int}(x:br k sizes s)(ag:s.funs[j]?=σ f)(y:L.Nodup)(p:L[q]?=σ t)(hi:cH f.ak t 0=σ (m:Int)):
  bt f.ak (dD g (L.take q) f.ak f.cs) t=bt f.ak f.cs t/\kK (dM s j f (dD g (L.take q) f.ak f.cs)) j m (g (bt f.ak f.cs t))=dM s j f (dD g (L.take (q+1)) f.ak f.cs):=by
 obtain⟨a,z⟩:=lC x (x5 ag);have r:=xT y p;refine⟨by rw[Ep a z hi,if_neg r],?_⟩;have h:=mP a hi;rw[u7]at h;have C:=(x4.1 h).1;obtain⟨c,w⟩:=aJ (l:=f.cs) (i:=m) Ω;have e:bt f.ak f.cs t=c:=by
  unfold bt;rw[hi];simp only;rw[u7,u4,w];rfl
 have A:=(Pd (f:=g) a Ω h w r).2;unfold kK;have B:(dM s j f (dD g (L.take q) f.ak f.cs)).funs[j]?=σ {f with cs:=dD g (L.take q) f.ak f.cs}:=b8 (x4.1 ag).1;rw[B,e];simp only;rw[A,u9,p];unfold dM;simp only[List.set_set];rfl
end
section
variable{w:x3}{ae gT:Nat}{A R:aj}{n:aF}{s:aq}{t:aC}
theorem xU{i:Int}(h:bw w ae gT A R n s t):am x7 HL [Γ ae,Δ i,Δ v] w λr w'=>Ext w w'/\r=Δ (if(eg s i v).isSome=true then 0 else 1):=by
 have K:=h.2.2.2.1.vars;refine az func148 ?_;rw[de db.u];simp only[Z5,a1];refine aV (λr V=>r= .bool (!(eg s i v).isSome)/\Ext w V) ?_ ?_
 .rintro _ V ⟨rfl,B⟩;rw[b2];exact⟨λf=>⟨B,by rw[if_neg (by simpa using f)]⟩,λf=>⟨B,by rw[if_pos (by simpa using f)]⟩⟩
 intro aA C;refine(xj (i:=i) h).mono ?_;rintro _ aa _ ⟨rfl,p⟩;rw[b2];refine⟨λa=>C _ _ ⟨?_,p⟩,λa=>?_⟩
 .rw[V7,decide_eq_true_eq]at a;have q:eg s i v=ν:=by
   unfold eg;rw[if_pos a.1];have y:=a.2;unfold hK at y;cases J:s.vars[i.toNat]? with
   |none=>rfl
   |some x=>
    rw[J]at y;simp only;rw[if_neg λh=>by simp[h.1]at y]
  rw[q];rfl
 refine(jv (i:=i) (h.ext p)).mono ?_;rintro _ L _ ⟨⟨b,m,rfl,z⟩,G⟩;refine(DS (v:=v) z.1).mono ?_;rintro _ M _ ⟨rfl,H⟩;rw[bH];refine C _ _ ⟨?_,(p.trans G).trans H⟩;congr 2;by_cases e:0<=i/\i<n.sizes.length
 .obtain⟨x,J⟩:=aJ (l:=s.vars) (i:=i.toNat) Ω;rw[D7 z e.1 J];unfold eg;rw[if_pos e.1,J];have I:x.gone=0:=by
   rw[decide_eq_true e.1,T5]at a;unfold hK at a;rw[J]at a;simpa using a
  simp only;by_cases ad:v∈aG x
  .rw[decide_eq_true ad,if_pos ⟨I,ad⟩];rfl
  .rw[decide_eq_false ad,if_neg λh=>ad h.2];rfl
 .obtain⟨rfl,rfl⟩:=z.2.1 e;have q:eg s i v=ν:=by
   unfold eg;by_cases E:0<=i
   .rw[if_pos E,Z2 Ω]
   .rw[if_neg E]
  rw[q,decide_eq_false Ω];rfl
def Qq(s:aq)(j pos v:Int)(u e:Int):Prop:=(e=0/\∃f x,eh s j pos v=σ (f,u,x))\/(e=1/\eh s j pos v=ν)
theorem EQ{j:Int}(h:bw w ae gT A R n s t):am x7 HE [Γ ae,Δ j,Δ pos,Δ v] w λr w'=>Ext w w'/\∃u e,r= .tuple #[Δ u,Δ e]/\Qq s j pos v u e:=by
 refine az func139 ?_;rw[de db.u];simp only[Z5,a1];have key:∀(K:x1->x3->Prop),(∀r w',Ext w w'->(∀f,0<=j->s.funs[j.toNat]?=σ f->aI .i64 w' r f.sc)->K r w')->am x7 qc [Γ ae,Δ j] w K:=λK S=>by
  by_cases U:0<=j/\j<s.funs.length
  .obtain⟨f,ag⟩:=aJ (l:=s.funs) (i:=j.toNat) Ω;have:=kL h ag;rw[show((j.toNat:Nat):Int)=j by omega]at this;refine this.mono ?_;rintro r V _ ⟨B,g,_,hm⟩;exact S r V B λG _ W=>by rw[ag]at W;cases W;exact hm.ls
  .refine (D1 h U).mono ?_;rintro r V _ ⟨rfl,B⟩;exact S _ V B λf C ag=>absurd ⟨C,by have:=(x4.1 ag).1;omega⟩ U
 refine key _ λr V B X=>?_;have J:∀{P:Prop},(¬∃f u,0<=j/\0<=pos/\s.funs[j.toNat]?=σ f/\f.live≠0/\f.sc[pos.toNat]?=σ u)->(eh s j pos v=ν->P)->P:=λp aj=>aj (by
  cases H:eh s j pos v with
  |none=>rfl
  |some q=>
   obtain⟨f,u,x⟩:=q;obtain⟨L,M,a3,a4,a5,_⟩:=ne H;exact absurd ⟨f,u,L,M,a3,a4,a5⟩ p)
 refine aV (λY aa=>Ext V aa/\((Y= .bool true/\eh s j pos v=ν)\/(Y= .bool false/\∃f u,0<=j/\0<=pos/\s.funs[j.toNat]?=σ f/\f.live≠0/\f.sc[pos.toNat]?=σ u))) ?_ ?_
 .rintro _ aa ⟨N,⟨rfl,p⟩|⟨rfl,f,u,C,Z,ag,ak,hu⟩⟩
  .rw[bR];exact⟨B.trans N,0,1,rfl,.inr ⟨rfl,p⟩⟩
  .rw[a1];intro ao z _ _;have ab:=(X f C ag).ext (N.trans z);refine qq (y:=pos) (i:=pos.toNat) Ω an.u ah.i ab hu λb o ap=>?_;rw[ax (v:=Δ u) Ψ ap,fY (y:=pos) (i:=pos.toNat) Ω an.u ah.i Ψ ab hu];have ac:=(B.trans N).trans z;refine(xU (i:=u) (v:=v) (h.ext ac)).mono ?_;rintro _ au _ ⟨af,rfl⟩;refine⟨.inl af,ac.trans af,u,_,rfl,?_⟩;have H:eh s j pos v=(eg s u v).map λx=>(f,u,x):=by
    unfold eh;rw[if_pos ⟨C,Z⟩,ag];simp only;rw[if_pos ak,hu]
   cases ad:eg s u v with
   |none=>exact .inr ⟨rfl,by rw[H,ad];rfl⟩
   |some x=>exact .inl ⟨rfl,f,x,by rw[H,ad];rfl⟩
 intro aA I;refine(rk (j:=j) (h.ext B)).mono ?_;rintro _ ao _ ⟨rfl,z⟩;have same:∀{f G:ca},s.funs[j.toNat]?=σ f->s.funs[j.toNat]?=σ G->G=f:=λa b=>by rw[a]at b;exact(b9 b).symm
 rw[bH,b2];refine⟨λO=>J (λ⟨f,u,L,M,a3,a4,a5⟩=>?_) λp=>I _ _ ⟨z,.inl ⟨rfl,p⟩⟩,λQ=>?_⟩
 .unfold e7 at O;rw[a3]at O;simp[L,a4]at O
 have Q:0<=j/\e7 s j.toNat=true:=by simpa using Q
 obtain⟨C,E⟩:=Q;obtain⟨f,ag,aq⟩:∃f,s.funs[j.toNat]?=σ f/\f.live≠0:=by
  unfold e7 at E;cases ag:s.funs[j.toNat]? with
  |none=>rw[ag]at E;cases E
  |some f=>rw[ag]at E;exact⟨f,rfl,by simpa using E⟩
 rw[aR,al];refine⟨λav=>J (λ⟨_,_,_,M,_⟩=>Ω) λp=>I _ _ ⟨z,.inl ⟨rfl,p⟩⟩,λZ=>?_⟩;rw[aX an.u ((X f C ag).ext z),cM];by_cases ai:(f.sc.length:Int)<=pos
 .refine J (λ⟨G,u,_,_,a3,_,a5⟩=>?_) λp=>I _ _ ⟨z,.inl ⟨by rw[decide_eq_true ai],p⟩⟩;obtain rfl:=same ag a3;have:=(x4.1 a5).1;omega
 .obtain⟨u,hu⟩:=aJ (l:=f.sc) (i:=pos.toNat) Ω;exact I _ _ ⟨z,.inr ⟨by rw[decide_eq_false ai],f,u,C,Ω,ag,aq,hu⟩⟩
theorem ur{most:Int}(h:bw w ae gT A R n s t):am x7 HF [Γ ae,Δ c,Δ most] w λr w'=>Ext w w'/\r=Δ (dq n.k c most):=by
 refine az func140 ?_;refine(j7 h).mono ?_;rintro _ V _ ⟨rfl,a⟩;refine jP.mono ?_;rintro _ aa _ ⟨rfl,e⟩;have hi:cq c n.k↔0<=c/\c<=n.k:=⟨λh=>h.2,λp=>⟨h.2.2.2.1.ew,p⟩⟩;unfold dq;rw[bH,b2];refine⟨λf=>⟨a.trans e,?_⟩,λf=>?_⟩
 .have:¬cq c n.k:=by simpa using f
  rw[if_pos λh=>this (hi.2 h)]
 .have:cq c n.k:=by simpa using f
  rw[if_neg λh=>h (hi.1 this),bL,al];exact⟨λh=>⟨a.trans e,by rw[if_pos h]⟩,λh=>⟨a.trans e,by rw[if_neg h]⟩⟩
theorem Qr{b:Int}(hk:right k)(f:0<=a/\a<=k)(p:0<=b/\b<=k)(x:a=k\/b<=a):am x7 Ix [Δ a,Δ b,Δ k] w λv w'=>v= .tuple #[Δ (dL k a b),Δ 0]/\Ext w w':=by
 have y:1<=k/\k<=2147483648:=hk;refine az func219 ?_;refine aV (λr V=>r= .bool false/\Ext w V) ?_ ?_
 .rintro _ V ⟨rfl,e⟩;unfold dL;rw[a1,be,al];refine⟨λh=>⟨by rw[if_pos h],e⟩,λh=>?_⟩;rw[if_neg h,bL,al];refine⟨λz=>Ω,λ_=>?_⟩;rw[dN,wrap_i64 Ω Ω];exact⟨rfl,e⟩
 intro aA q;refine jP.mono ?_;rintro _ V _ ⟨rfl,e⟩;rw[decide_eq_true (show cq a k from⟨hk,f⟩),bH,X1,a1];refine jP.mono ?_;rintro _ aa _ ⟨rfl,s⟩;rw[decide_eq_true (show cq b k from⟨hk,p⟩),bH,X1];exact q _ _ ⟨rfl,e.trans s⟩
theorem ut(h:bw w ae gT A R n s t)(e:0<=a/\a<=n.k)(f:0<=c/\c<=n.k)(p:a=n.k\/c<=a):am x7 nA [Γ ae,Δ a,Δ c] w λr w'=>r=Δ (dL n.k a c)/\Ext w w':=by
 refine az func142 ?_;refine(j7 h).mono ?_;rintro _ V _ ⟨rfl,q⟩;refine(Qr h.2.2.2.1.ew e f p).mono ?_;rintro _ aa _ ⟨rfl,x⟩;rw[bm,bn];exact⟨rfl,q.trans x⟩
theorem rC(h:bw w ae gT A R n s t)(e:0<=a/\a<=n.k)(f:0<=c/\c<=n.k):am x7 nB [Γ ae,Δ a,Δ c] w λr w'=>r=Δ (dp n.k a c)/\Ext w w':=by
 refine az func143 ?_;refine(j7 h).mono ?_;rintro _ V _ ⟨rfl,p⟩;refine(DX e f h.2.2.2.1.ew).mono ?_;rintro _ aa _ ⟨rfl,q⟩;rw[bm,bn];exact⟨rfl,p.trans q⟩
end
theorem Qs{g n c:Nat}{cs:List x1}(a:af w g cI cs)(h:∀w',ai (λr=>r=g) w w'->(∀o vs,w.rangeAt g o vs->w'.rangeAt g o vs)->K (.slice (σ ⟨g,0,ν⟩) n c) w'):
  aD x7 (convert cN cN (.slice (σ ⟨g,0,ν⟩) n c)) w K:=by
 have f:∀r,(w.freeze ⟨g,cs.length,ν⟩ 1).heap[r]?=if g=r then(w.heap[r]?).map (λ| .cells c p (lo,hi)=>.cells c p (if lo == hi then(cs.length,cs.length+1)else(min lo cs.length,max hi (cs.length+1)))|o=>o)else w.heap[r]?:=λr=>by
  unfold x3.freeze;rw[if_neg Φ];exact Array.getElem?_modify
 have z:(w.freeze ⟨g,cs.length,ν⟩ 1).heap.size=w.heap.size:=by
  unfold x3.freeze;rw[if_neg Φ];exact Array.size_modify
 have q:w.shape? g=σ (cI,cs.length):=by
  unfold x3.shape?;unfold af at a;rw[a];simp
 have s:(convert cN cN (.slice (σ ⟨g,0,ν⟩) n c)).run x7 w= .ok (.slice (σ ⟨g,0,ν⟩) n c) (w.freeze ⟨g,cs.length,ν⟩ 1):=by
  simp[convert,run_underlying cN.u,run_underlying cI.u,markStringish,q]
 unfold af at a;refine .of s ⟨by unfold x3.freeze;rw[if_neg Φ],.kh (by unfold x3.freeze;rw[if_neg Φ]) (by unfold x3.freeze;rw[if_neg Φ]),by unfold x3.freeze;rw[if_neg Φ],Ω,λr o e U=>?_⟩ (h _ ⟨Ω,λr o e _ x=>?_⟩ λo vs ad j v y=>?_)
 .rw[f];by_cases he:g=r
  .subst he;rw[a]at e;cases e;cases U
  .rw[if_neg he];exact e
 .rw[f,if_neg λhe=>x he.symm];exact e
 .have h1:=ad j v y;unfold x3.cell? at h1 ⊢;rw[f,if_pos rfl];rw[a]at h1 ⊢;exact h1
def xV(s0 s:aq):Prop:=s.zero=s0.zero/\s.funs=s0.funs/\s.vars.length=s0.vars.length/\∀(i:Nat)x,s.vars[i]?=σ x->∃a,s0.vars[i]?=σ a/\x.un=a.un/\x.gone=0/\a.gone=0/\a.mask=0
theorem xV.new(n:aF):xV (cY n) (cY n):=⟨rfl,rfl,rfl,λi x J=>by
 refine⟨x,J,rfl,?_⟩;have J:(n.unary.map newVar)[i]?=σ x:=J;rw[x8]at J;obtain⟨u,_,rfl⟩:=Y7.1 J;exact⟨rfl,rfl,rfl⟩⟩
theorem Qt(n:aF):dn (cY n):=λf _ _ v _ x J=>by
 obtain⟨_,_,_,h,_⟩:=(xV.new n).2.2.2 _ x J;exact h
theorem Qu{ao:Nat}{E:x1}{cs:List x1}{f:bY}(G:uq B aa E cs f)(J:Ext aa w)(H:af w ao a7 cs)(O:aa.heap.size<=ao):
  ∃ae gT A R A9 aH t,E=Γ ae/\ch w ae gT ao A R A9 aH (cR f) (cY (cR f)) (cY (cR f)) t [] cs/\t.marks=[]/\(∀r,A r->B<=r)/\(∀q r,A9 q r->B<=r)/\t.cells.length<=2000000/\t.olds.length=0/\(cR f).funs.length<=256/\t.ii=0/\(∀r,aH r->B<=r)/\∀r,R r->B<=r:=by
 obtain⟨ae,gT,A,R,t,N,A9,aH,x,rfl,y,e,I,K,C,p,L⟩:=G;have F:=xL y;have z:=J.size;have s:=(tN (Cu x).1 (xp x) (cR f).unary.length (cR f).funs.length);rw[w3,<-y.2.1]at s;unfold aC.bT at s;rw[r8]at s;refine⟨ae,gT,A,R,λq r=>A9 q r/\r<aa.heap.size,aH,t,rfl,⟨y.ext J,e.2.2.1,H,K.old.ext J,λq r h=>⟨(C q r h.1).1,(C q r h.1).2.1,by have:=h.2;omega⟩,λr a=>⟨λh=>(p r a).1 (mX (λo M U _=>J.aZ r o M U) h),by have:=(p r a).2;omega,by have:=(p r a).2;omega⟩,λh=>by have:=F ao (.inl h);omega,λh=>by have:=F ao (.inr h);omega⟩,e.1,I,λq r h=>(C q r h.1).2.2,s,by rw[e.2.1];rfl,xp x,e.2.2.2,λr a=>(p r a).2.2,L⟩
section
variable{w w':x3}{ae gT ao dh:Nat}{A R O M aH:aj}{A9:Nat->aj}{k:Int}{sizes:Λ}{U:List aq}{n:aF}{s u:aq}{t:aC}{h:List aC}{cs:List x1}
structure St(w:x3)(ao:Nat)(A R:aj)(A9:Nat->aj)(aH O M:aj):Prop where
 o:∀r,O r->r<w.heap.size/\¬A r/\¬R r/\(∀q,¬A9 q r)/\¬aH r/\r≠ao/\¬M r
 m:∀r,M r->r<w.heap.size/\¬A r/\(∀q,¬A9 q r)/\¬aH r/\r≠ao
theorem ch.side{S:aj}(p:ch w ae gT ao A R A9 aH n s u t h cs)(f:ai S w w')(e:∀r,r<w.heap.size->S r->¬A r/\¬R r/\(∀q,¬A9 q r)/\¬aH r/\r≠ao):ch w' ae gT ao A R A9 aH n s u t h cs:=by
 have z:=f.size;exact⟨⟨p.e6.1.ab f λr a h U=>h.elim (e r a U).1 (e r a U).2.1,p.e6.2⟩,p.h3,p.box.ab f λU=>(e ao p.box.lt U).2.2.2.2 rfl,p.doc.ab f λr a h U=>h.elim (λ⟨q,h⟩=>(e r a U).2.2.1 q h) (e r a U).2.2.2.1,p.apart,
  λr a=>⟨λh=>(p.read r a).1 (mX (λo x U _=>f.aZ r o x U λy=>(e r (p.read r a).2.1 y).2.2.2.1 a) h),by have:=(p.read r a).2.1;omega,(p.read r a).2.2⟩,p.out⟩
theorem ch.ER(p:ch w ae gT ao A R A9 aH n s u t h cs):∀q r,A9 q r->¬aH r:=by
 obtain⟨_,_,_,_,_,_,_,_,_,_,_,_,_,a⟩:=p.doc;exact(a rfl).2
end
theorem ES{w0:x3}{out:x1}{g:Nat}{x:Int}(e:Ext w0 w)(hm:av .i64 ah w g out l)(f:∀r,leads out r->w0.heap.size<=r)(G:l.length<=1000000000)(q:∀v w' s,Ext w0 w'->av .i64 ah w' s v (l++[x])->(∀r,leads v r->w0.heap.size<=r)->K v w'):
  aD x7 (Y4 an 1 #[(0,Δ x)]) w λy V=>aD x7 (Z0 #[an,an] an #[out,y]) V K:=by
 refine et (k:=.i64) an.u ah.i rfl λv4 H I J a A=>?_;refine hJ an.u ah.i rfl (hm.ext a) A.ls Θ Θ λv5 B L C E F=>?_;have z:=(e.trans a).size;exact q _ _ B ((e.trans a).then F λr p he=>by have:=f r he;omega) C λr p=>(E r p).elim (f r) λh=>Ω
theorem ET(x:bG):(aG x).length<=x.un.length:=by
 unfold aG;have:=R3 (λv:Int=>!dropped x.mask v) ((X0 x.un.length).map λv:Nat=>(v:Int));rw[r8,List.length_range]at this;exact this
section
variable{w:x3}{ae gT:Nat}{A R:aj}{n:aF}{s:aq}{t:aC}
end
def lE(s:aq)(sc t:Λ):Bool:=(sc.zip t).all λp=>match s.vars[p.1.toNat]? with
 |some x=>decide (p.2∈aG x)
 |none=>false
section
variable{w:x3}{ae gT:Nat}{A R:aj}{n:aF}{s:aq}{t:aC}
end
def oz(ak t:Λ):Int:=(cH ak t 0).getD 0
def lF(s:aq)(f:ca)(pos:Nat)(v:Int):Λ:=(cm s f.sc pos v).map (oz f.ak)
def kR(s:aq)(sc:Λ)(pos:Nat)(v:Int)(t:Λ):Bool:=decide (t.getD pos 0=v)&&lE s sc t
section
variable{k:Int}{sizes:Λ}{s:aq}{f:ca}{pos:Nat}{v:Int}
theorem Qv:lE s sc t=true↔ ∀(p:Nat)u w,sc[p]?=σ u->t[p]?=σ w->w∈bk s u:=by
 unfold lE;rw[List.all_eq_true];constructor
 .intro h p u w hu hw;have:=h (u,w) (x5 (List.getElem?_zip_eq_some.2 ⟨hu,hw⟩));unfold bk;cases J:s.vars[u.toNat]? with
  |none=>simp[J]at this
  |some x=>simpa[J]using this
 .rintro h ⟨u,w⟩ hm;obtain⟨p,a⟩:=X3.1 hm;obtain⟨h1,e⟩:=List.getElem?_zip_eq_some.1 a;have:=h p u w h1 e;unfold bk at this;simp only;cases J:s.vars[u.toNat]? with
  |none=>rw[J]at this;cases this
  |some x=>rw[J]at this;simpa using this
theorem Qw(r:br k sizes s)(ag:f∈s.funs)(B:pos<f.sc.length)(ad:∀u,f.sc[pos]?=σ u->v∈bk s u):cm s f.sc pos v=(bp f.ak).filter (kR s f.sc pos v):=by
 obtain⟨x,y,_⟩:=r.funs f ag;have q:=xB r (λu hu=>⟨(x.scope.1 u hu).1,x.vars u hu⟩) ad;rw[<-y]at q;have h1:∀t∈bp f.ak,(m8 (ot s pos v f.sc 0) t=true↔t∈cm s f.sc pos v):=λt a=>by rw[q,T3];exact⟨λh=>⟨a,h⟩,λh=>h.2⟩
 rw[q];refine List.filter_congr λt a=>?_;have C:t.length=f.sc.length:=by rw[sE a,y];simp[bX]
 rw[V9,h1 t a,xG,kR,V7,decide_eq_true_eq,Qv];constructor
 .rintro⟨_,h⟩;obtain⟨u,hu⟩:=aJ (l:=f.sc) B;obtain⟨w,hw⟩:=aJ (l:=t) (i:=pos) Ω;have z:=h pos u w hu hw;rw[if_pos rfl]at z;refine⟨by rw[u4,hw];exact z,λp u' w' A E=>?_⟩;have:=h p u' w' A E;split at this
  .rename_i e;subst e;rw[this];exact ad u' A
  .exact this
 .rintro⟨h1,F⟩;refine⟨C,λp u w hu hw=>?_⟩;split
  .rename_i e;subst e;rw[u4,hw]at h1;exact h1
  .exact F p u w hu hw
end
section
variable{w:x3}{fa:x1}{k:Int}{sizes:Λ}{s:aq}
theorem Qx{j:Int}(h:kc w fa k sizes s)(Z:br k sizes s)(ak:dn s):am x7 It [fa,Δ j,Δ pos,Δ v] w λr w'=>Ext w w'/\∃u,r= .tuple #[Δ u,.bool (eh s j pos v).isSome]:=by
 have aF:=Z.vars;refine az func214 ?_;refine bf λg1 V aH G ao=>?_;have ab:=h.box G ao;obtain⟨szv,aI,aK,aL,aM,aN,H,aO,_,ap,aP,aQ,ac,aS⟩:=id ab;refine aV (λr aa=>Ext V aa/\((r= .bool true/\eh s j pos v=ν)\/(r= .bool false/\∃f u,0<=j/\0<=pos/\s.funs[j.toNat]?=σ f/\f.live≠0/\f.sc[pos.toNat]?=σ u))) ?_ λaA C=>?_
 .rintro _ aa ⟨z,⟨rfl,e⟩|⟨rfl,f,u,I,ad,ag,ae,hu⟩⟩
  .rw[bR,e];exact⟨G.trans z,0,rfl⟩
  .rw[a1];have af:=x5 ag;have K:=x5 hu;obtain⟨ai,aW,_⟩:=Z.funs f af;have L:=(ai.scope.1 u K).1;have aY:=ai.vars u K;have L:0<=u:=L;obtain⟨x,J⟩:=aJ (l:=s.vars) (i:=u.toNat) Ω;rw[aT a7.p 6 (H.ext z) rfl];refine l5 (i:=j.toNat) Ω gn.u fD.i (bW ac z) (by rw[x8,ag];rfl) λb o cs M N=>?_;obtain⟨O,aq,v3,rfl,h1,au,av⟩:=pR N;rw[aU fD.p rfl,aU bb.p rfl,ax (v:=O) Ψ (M 0 _ rfl),fY (y:=pos) (i:=pos.toNat) Ω an.u ah.i Ψ (eD h1) hu,aT a7.p 3 (H.ext z) rfl];refine k6 (α:=Λ) (a:=aG x) (i:=u.toNat) rfl Ω dz.u an.i Ψ (bW ap z) (by rw[x8,J];rfl) λaZ aw=>?_;refine(xo (eD aw)).mono ?_;rintro _ a2 _ ⟨rfl,ay⟩;refine⟨(G.trans z).trans ay,u,?_⟩;have aB:=ak f af ae u K x J;have Q:eh s j pos v=(eg s u v).map λx=>(f,u,x):=by
    unfold eh;rw[if_pos ⟨I,ad⟩,ag];simp only;rw[if_pos ae,hu]
   have aC:eg s u v=if v∈aG x then σ x else ν:=by
    unfold eg;rw[if_pos L,J];simp only[aB,true_and]
   rw[Q,aC];by_cases E:v∈aG x
   .rw[if_pos E,decide_eq_true E];rfl
   .rw[if_neg E,decide_eq_false E];rfl
 have R:∀{P:Prop},(¬∃f u,0<=j/\0<=pos/\s.funs[j.toNat]?=σ f/\f.live≠0/\f.sc[pos.toNat]?=σ u)->(eh s j pos v=ν->P)->P:=λe aD=>aD (by
  cases Q:eh s j pos v with
  |none=>rfl
  |some q=>
   obtain⟨f,u,x⟩:=q;obtain⟨S,U,a3,a4,a5,_⟩:=ne Q;exact absurd ⟨f,u,S,U,a3,a4,a5⟩ e)
 refine ab.load λu hu=>?_;refine(P8 (j:=j) hu).mono ?_;rintro _ a6 _ ⟨rfl,A⟩;have same:∀{f W:ca},s.funs[j.toNat]?=σ f->s.funs[j.toNat]?=σ W->W=f:=λa b=>by rw[a]at b;exact(b9 b).symm
 rw[bH,b2];refine⟨λX=>R (λ⟨f,u,S,U,a3,a4,a5⟩=>?_) λe=>C _ _ ⟨A,.inl ⟨rfl,e⟩⟩,λY=>?_⟩
 .unfold e7 at X;rw[a3]at X;simp[S,a4]at X
 have Y:0<=j/\e7 s j.toNat=true:=by simpa using Y
 obtain⟨I,B⟩:=Y;obtain⟨f,ag,aE⟩:∃f,s.funs[j.toNat]?=σ f/\f.live≠0:=by
  unfold e7 at B;cases ag:s.funs[j.toNat]? with
  |none=>rw[ag]at B;cases B
  |some f=>rw[ag]at B;exact⟨f,rfl,by simpa using B⟩
 rw[aR,al];refine⟨λa8=>R (λ⟨_,_,_,U,_⟩=>Ω) λe=>C _ _ ⟨A,.inl ⟨rfl,e⟩⟩,λad=>?_⟩;rw[aT a7.p 6 (H.ext A) rfl];refine l5 (i:=j.toNat) Ω gn.u fD.i (bW ac A) (by rw[x8,ag];rfl) λb o cs M N=>?_;obtain⟨O,aq,v3,rfl,h1,au,av⟩:=pR N;rw[aU fD.p rfl,aU bb.p rfl,ax (v:=O) Ψ (M 0 _ rfl),aX an.u (eD h1),cM];by_cases aj:(f.sc.length:Int)<=pos
 .refine R (λ⟨W,u,_,_,a3,_,a5⟩=>?_) λe=>C _ _ ⟨A,.inl ⟨by rw[decide_eq_true aj],e⟩⟩;obtain rfl:=same ag a3;have:=(x4.1 a5).1;omega
 .obtain⟨u,hu⟩:=aJ (l:=f.sc) (i:=pos.toNat) Ω;exact C _ _ ⟨A,.inr ⟨by rw[decide_eq_false aj],f,u,I,Ω,ag,aE,hu⟩⟩
theorem EU{pos:Nat}{f:ca}(h:kc w fa k sizes s)(M:br k sizes s)(ag:s.funs[j]?=σ f)(aL:pos<f.sc.length)(ad:∀u,f.sc[pos]?=σ u->v∈bk s u):
  am x7 G6 [fa,Δ (j:Int),Δ (pos:Int),Δ v] w λr w'=>Ext w w'/\aI .i64 w' r (lF s f pos v)/\∀q,leads r q->w.heap.size<=q:=by
 have bB:=M.vars;have U:=x5 ag;obtain⟨N,ai,_⟩:=M.funs f U;have O:=(lC M U).1;have aM:f.ak.length=f.sc.length:=by rw[ai];simp[bX]
 have bC:=jQ O;have bD:(bp f.ak).length<=4096:=by
  have P:aO (bX sizes f.sc)<=4096:=N.small;rw[<-ai]at P;omega
 refine az func84 ?_;refine bf λg1 V bE W aP=>?_;obtain⟨szv,bF,bG,bH,bI,bJ,aj,bK,_,aQ,bL,bN,aR,bO⟩:=h.box W aP;rw[aT a7.p 6 aj rfl];refine l5 (i:=j) rfl gn.u fD.i aR (by rw[x8,ag];rfl) λb o cs G aS=>?_;obtain⟨X,Y,v3,rfl,h1,P,aW⟩:=pR aS;rw[aU fD.p rfl,bP (cs:=[X,Y,v3]) bb.p bb.i rfl (λq u z=>by
  have:q<3:=(x4.1 z).1
  match q,this,z with
  |0,_,z=>cases z;exact G 0 _ rfl
  |1,_,z=>cases z;exact G 1 _ rfl
  |2,_,z=>cases z;exact G 2 _ rfl)]
 refine bx bb.i λbQ aa bR aY aZ=>?_;have a1:∀u∈[X,Y,v3],u.oneCell'=true:=λu hu=>by
  simp only[V3,List.not_mem_nil,or_false]at hu;rcases hu with rfl|rfl|rfl
  .exact jn h1
  .exact jn P
  .exact jn aW
 refine ci (vs:=[X,Y,v3]) bb.i rfl rfl a1 aZ λa2 a6 bS al=>?_;have ao:Ext V a2:=aY.put a6 Ω;have s1:=eD h1;have a8:=eD P;rw[aT bb.p 1 al rfl];refine(AT f.ak (a8.ext ao) ⟨by rw[aM];exact N.scope.2,O⟩).mono ?_;rintro bT H _ ⟨ap,aq⟩;have Z:=ao.trans ap;rw[jo dz.u aq];refine cb.range (bp f.ak).length (λi out E=>Ext H E/\(∃g,av .i64 ah E g out ((((bp f.ak).take i).filter (kR s f.sc pos v)).map (oz f.ak)))/\∀r,leads out r->H.heap.size<=r) Ω ⟨Ext.refl _,⟨0,av.nil _ _ _ _⟩,λr G=>by obtain⟨_,_,_,e,_⟩:=G;cases e⟩ ?_ ?_
 .rintro q out E ba z ⟨A,⟨g,hm⟩,Q⟩ bc;have I:(bp f.ak)[q]?=σ (cQ f.ak (q:Int)):=qw O Ω;generalize cQ f.ak (q:Int)=tl at I;have bU:=Al I;have bd:=jT O I;have bh:oz f.ak tl=(q:Int):=by unfold oz;rw[bd];rfl
  have R:=Z.trans A;have au:((bp f.ak).take (q+1)).filter (kR s f.sc pos v)=((bp f.ak).take q).filter (kR s f.sc pos v)++(if kR s f.sc pos v tl=true then[tl]else[]):=by
   rw[u9,I,j5,List.filter_append];congr 1;cases aB:kR s f.sc pos v tl<;>simp[aB]
  obtain⟨ab,aw⟩:=aJ (l:=tl) (i:=pos) Ω;refine bM Ω ?_;refine aV (λax ay=>Ext H ay/\(∃g,av .i64 ah ay g ax ((((bp f.ak).take (q+1)).filter (kR s f.sc pos v)).map (oz f.ak)))/\∀r,leads ax r->H.heap.size<=r) (λ_ _ ac=>by rw[aN];exact bc _ _ ac) λaA K=>?_;refine k6 (α:=Λ) rfl rfl dz.u an.i Ψ (bW aq A) I λaK S=>?_;have S:=eD S;rw[bg an.u ah.i Ψ S aw,be,aT bb.p 0 (al.ext (ap.trans A)) rfl,aX an.u (s1.ext R)];refine cb.range f.sc.length (λp ok ae=>Ext E ae/\ok= .bool (decide (ab=v)&&lE s (f.sc.take p) (tl.take p))) s1.le ⟨Ext.refl _,by simp[lE]⟩ ?_ ?_
  .rintro p _ ae bi bj ⟨B,rfl⟩ bl;obtain⟨u,af⟩:=aJ (l:=f.sc) bj;obtain⟨y,aC⟩:=aJ (l:=tl) (i:=p) Ω;have aD:=x5 af;have aE:=(N.scope.1 u aD).1;have aF:=N.vars u aD;have aF:u<sizes.length:=aF;have aE:0<=u:=aE;obtain⟨x,J⟩:=aJ (l:=s.vars) (i:=u.toNat) Ω;have aH:lE s (f.sc.take (p+1)) (tl.take (p+1))=(lE s (f.sc.take p) (tl.take p)&&decide (y∈aG x)):=by
    unfold lE;rw[u9,u9,af,aC,j5,j5,List.zip_append Θ,List.all_append];simp[J]
   refine bM Ω ?_;refine aV (λok bm=>Ext E bm/\ok= .bool (decide (ab=v)&&lE s (f.sc.take (p+1)) (tl.take (p+1)))) (λ_ _ ac=>by rw[aN];exact bl _ _ ac) λaA K=>?_;rw[bg an.u ah.i Ψ (s1.ext (R.trans B)) af];intro bV bn _ _;have L:=B.trans bn;rw[b2];refine⟨λC=>?_,λC=>K _ _ ⟨L,by rw[aH,<-Bool.and_assoc,C];rfl⟩⟩;rw[aT a7.p 3 (aj.ext (R.trans L)) rfl];refine k6 (α:=Λ) (a:=aG x) (i:=u.toNat) rfl Ω dz.u an.i Ψ (bW aQ (R.trans L)) (by rw[x8,J];rfl) λbY bo=>?_;rw[bg an.u ah.i Ψ (S.ext L) aC];refine(xo (eD bo)).mono ?_;rintro _ bZ _ ⟨rfl,bq⟩;exact K _ _ ⟨L.trans bq,by rw[aH,<-Bool.and_assoc,C,T5]⟩
  .rintro _ ae bi ⟨B,rfl⟩;rw[o7,b6 Ω];refine cE Ω ?_;have bt:(decide (ab=v)&&lE s f.sc tl)=kR s f.sc pos v tl:=by unfold kR;rw[u4,aw];rfl
   rw[bt,b2];refine⟨λC=>?_,λC=>K _ _ ⟨A.trans B,⟨g,by rw[au,if_neg (by rw[C];decide),W8];exact hm.ext B⟩,Q⟩⟩;refine ES (w0:=H) (A.trans B) (hm.ext B) Q ?_ λb0 w' bu bw bz bA=>K _ _ ⟨bw,⟨bu,?_⟩,bA⟩
   .rw[r8];have h1:=R3 (kR s f.sc pos v) ((bp f.ak).take q);rw[n9]at h1;omega
   .rw[au,if_pos C,Z4,List.map_singleton,bh];exact bz
 .rintro out E ba ⟨A,⟨g,hm⟩,Q⟩;rw[o7,<-Qw M U aL ad]at hm;refine cE Ω ?_;exact⟨(W.trans Z).trans A,hm.ls,λq z=>by have:=Q q z;have:=(W.trans Z).size;omega⟩
theorem Qy{j:Int}(h:kc w fa k sizes s)(e:br k sizes s)(O:dn s):
  am x7 Hz [fa,Δ j,Δ pos,Δ v] w λr w'=>Ext w w'/\r=(match eh s j pos v with|some (f,_,_)=>.tuple #[Δ (mm k s f pos.toNat v),.bool true]|none=>.tuple #[Δ 0,.bool false]):=by
 refine az func134 ?_;refine bf λg1 V aA y P=>?_;have G:=h.box y P;refine G.load λu hu=>?_;refine(Qx hu e O).mono ?_;rintro _ aa _ ⟨z,eR,rfl⟩;rw[bm,bn,bH];cases Q:eh s j pos v with
 |none=>
  rw[S8,W7,bR];exact⟨y.trans z,rfl⟩
 |some q=>
 obtain⟨f,u',x⟩:=q;rw[T9,X1,a1];obtain⟨R,S,ag,aB,A,U⟩:=ne Q;obtain⟨aC,W,aD,X⟩:=kQ U;obtain⟨j,rfl⟩:=U8 R;obtain⟨pos,rfl⟩:=U8 S;rw[u7]at ag A;have H:=x5 ag;have Y:=(x4.1 A).1;have ad:∀u,f.sc[pos]?=σ u->v∈bk s u:=λu hu=>by
  rw[A]at hu;cases hu;unfold bk;rw[W];exact X
 have I:=G.ext z;obtain⟨szv,aE,aF,aG,aH,aI,J,aL,_,aM,aO,aP,Z,aQ⟩:=id I;rw[aT a7.p 0 J rfl];refine I.load λaR ab=>?_;refine(EU ab e ag Y ad).mono ?_;rintro aK ac _ ⟨K,B,_⟩;rw[aX an.u B];have L:(lF s f pos v).length=(cm s f.sc pos v).length:=by unfold lF;rw[r8]
 rw[L];refine cb.range (cm s f.sc pos v).length (λi ae C=>Ext ac C/\ae=Δ ((((cm s f.sc pos v).take i).map (bt f.ak f.cs)).foldl min k)) (by rw[<-L];exact B.le) ⟨Ext.refl _,rfl⟩ ?_ ?_
 .rintro i _ C af hi ⟨a,rfl⟩ ai;obtain⟨tl,E⟩:=aJ (l:=cm s f.sc pos v) hi;obtain⟨m,hm⟩:=uo e H ad (x5 E);have aj:(lF s f pos v)[i]?=σ (m:Int):=by
   unfold lF;rw[x8,E];unfold oz;rw[Z6,hm];rfl
  obtain⟨al,aS⟩:=lC e H;have aV:=(x4.1 (mP al hm)).1;obtain⟨c,M⟩:=aJ (l:=f.cs) (i:=m) Ω;have ao:bt f.ak f.cs tl=c:=by
   unfold bt;rw[hm];simp[u4,M]
  have N:=K.trans a;refine bM Ω ?_;rw[bg an.u ah.i Ψ (B.ext a) aj,aT a7.p 6 (J.ext N) rfl];refine l5 (i:=j) rfl gn.u fD.i (bW Z N) (by rw[x8,ag];rfl) λb o cs ap aq=>?_;obtain⟨aW,aY,v3,rfl,h1,aZ,av⟩:=pR aq;rw[aU fD.p rfl,aU bb.p rfl,ax (v:=v3) Ψ (ap 2 _ rfl),bg ay.u au.i Ψ (eD av) M];refine DE.mono ?_;rintro _ a2 _ ⟨rfl,aw⟩;rw[aN];refine ai _ _ ⟨a.trans aw,?_⟩;rw[u9,E,j5,Z4,List.foldl_append,List.map_singleton,ao];rfl
 .rintro _ C af ⟨a,rfl⟩;rw[o7];refine cE Ω ?_;exact⟨(y.trans z).trans (K.trans a),rfl⟩
theorem uu{b k:Int}(h1:0<=a/\a<=4294967296)(f:0<=b/\b<=4294967296):am x7 HB [Δ a,Δ b,Δ k] w λr w'=>r=Δ (dL k a b)/\Ext w w':=by
 refine az func136 ?_;refine(show am x7 Iw [Δ a,Δ b,Δ k] w λr w'=>(∃q,r= .tuple #[Δ (dL k a b),q])/\Ext w w' from ?_).mono ?_
 .refine az func217 ?_;unfold dL;rw[be,al];refine⟨λh=>⟨⟨_,by rw[if_pos h]⟩,Ext.refl _⟩,λh=>?_⟩;rw[dN,wrap_i64 Ω Ω,mD,if_neg h];exact⟨⟨_,rfl⟩,Ext.refl _⟩
 .rintro _ V _ ⟨⟨q,rfl⟩,e⟩;rw[bm,bn];exact⟨rfl,e⟩
end
def dt(w:x3)(ae gT ao:Nat)(A R:aj)(A9:Nat->aj)(aH:aj)(n:aF)(s:aq)(t:aC)(h:List aC)(u:aq)(w':x3):Prop:=ai (λr=>(∃q,A9 q r)\/r=ao) w w'/\∃cn cs,ch w' ae gT ao A R cn aH n s u t h cs/\∀q r,cn q r->(∃a,A9 a r)\/w.heap.size<=r
section
variable{w w' V aa:x3}{ae gT ao:Nat}{A R:aj}{A9:Nat->aj}{aH:aj}{n:aF}{s u eQ eR:aq}{t:aC}{h:List aC}{cs:List x1}
theorem dt.same(p:ch w ae gT ao A R A9 aH n s u t h cs)(J:Ext w w'):dt w ae gT ao A R A9 aH n s t h u w':=⟨J.ab _,A9,cs,p.ext J,λq r h=>.inl ⟨q,h⟩⟩
theorem dt.comp{cn:Nat->aj}(e:ai (λr=>(∃q,A9 q r)\/r=ao) w V)(f:∀q r,cn q r->(∃a,A9 a r)\/w.heap.size<=r)(d:dt V ae gT ao A R cn aH n s t h eR aa):dt w ae gT ao A R A9 aH n s t h eR aa:=by
 obtain⟨x,y,b4,B,C⟩:=d;have z:=e.size;refine⟨?_,y,b4,B,λq r p=>(C q r p).elim (λ⟨a,h⟩=>f a r h) λh=>.inr Ω⟩;refine((e.mono λr _ h=>.inl h).trans (x.mono λr _ h=>?_):ai (λr=>((∃q,A9 q r)\/r=ao)\/w.heap.size<=r) w aa).mono λr p h=>h.elim id λh=>Ω
 rcases h with⟨q,h⟩|h
 .exact (f q r h).imp .inl id
 .exact .inl (.inr h)
def jB(w:x3)(ae gT ao:Nat)(A R:aj)(A9:Nat->aj)(aH:aj)(n:aF)(s:aq)(t:aC)(h:List aC)(u:aq)(w':x3):Prop:=ai (A9 2) w w'/\∃cn cs,ch w' ae gT ao A R cn aH n s u t h cs/\(∀q r,cn q r->(∃a,A9 a r)\/w.heap.size<=r)/\∀r,cn 2 r->A9 2 r\/w.heap.size<=r
theorem jB.EV(d:jB w ae gT ao A R A9 aH n s t h u w'):dt w ae gT ao A R A9 aH n s t h u w':=by
 obtain⟨h1,cn,cs,a,e,_⟩:=d;exact⟨h1.mono λr _ h=>.inl ⟨2,h⟩,cn,cs,a,e⟩
theorem jB.same(p:ch w ae gT ao A R A9 aH n s u t h cs)(J:Ext w w'):jB w ae gT ao A R A9 aH n s t h u w':=⟨J.ab _,A9,cs,p.ext J,λq r h=>.inl ⟨q,h⟩,λr h=>.inl h⟩
theorem jB.comp{cn:Nat->aj}(f:ai (A9 2) w V)(x:∀q r,cn q r->(∃e,A9 e r)\/w.heap.size<=r)(p:∀r,cn 2 r->A9 2 r\/w.heap.size<=r)(d:jB V ae gT ao A R cn aH n s t h eR aa):jB w ae gT ao A R A9 aH n s t h eR aa:=by
 obtain⟨y,B,b4,C,E,F⟩:=d;have z:=f.size;refine⟨?_,B,b4,C,λq r a=>(E q r a).elim (λ⟨e,h⟩=>x e r h) λh=>.inr Ω,λr a=>(F r a).elim (p r) λh=>.inr Ω⟩;exact((f.mono λr _ h=>.inl h).trans (y.mono λr _ h=>p r h):ai (λr=>A9 2 r\/w.heap.size<=r) w aa).mono λr a h=>h.elim id λh=>Ω
theorem ch.Qz{T:aj}{v:x1}{u':aq}(p:ch w ae gT ao A R A9 aH n s u t h cs)(z:∀q r,A9 q r->r<w.heap.size)(ad:cs[5]?=σ v)(e:ai T w w')(f:∀r,r<w.heap.size->T r->A9 2 r)(C:bF (λr=>A9 2 r\/w.heap.size<=r) aH w' [v] (u'.vars.map (·.un)))(E:u'.zero=u.zero)(F:u'.vars.map aG=u.vars.map aG)(G:(u'.vars.map λx=>decide (x.gone≠0))=u.vars.map λx=>decide (x.gone≠0))(H:u'.funs=u.funs)(I:u'.hb=u.hb):
  ∃cn,ch w' ae gT ao A R cn aH n s u' t h cs/\(∀q r,cn q r->(∃J,A9 J r)\/w.heap.size<=r)/\∀r,cn 2 r->A9 2 r\/w.heap.size<=r:=by
 have K:=cc.kJ p.doc (xM e) (λr a=>.inl (f r a.2 a.1)) C (λj r L a=>?_) (λr a=>?_)
 .have y:=xN (w:=w) (A9:=A9) (q:=2) (B:=λr=>A9 2 r\/w.heap.size<=r) λr h=>h;refine⟨_,p.row e f ?_ y,y,λr a=>a⟩;have:=cc.qB ad K;unfold iC;rw[E,F,G,H,I];exact this
 .rcases a with a|a
  .exact p.gI.1 2 j r (Ne.symm L) a
  .exact λh=>by have:=z j r h;omega
 .rcases a with a|a
  .exact p.gI.2 2 r a
  .exact λh=>by have:=(p.read r h).2.1;omega
theorem xW(p:ch w ae gT ao A R A9 aH n s u t h cs){i:Nat}{x:bG}(J:u.vars[i]?=σ x):∃g cap y,cs[5]?=σ (.slice (σ ⟨g,0,ν⟩) u.vars.length cap)/\w.cell? ⟨g,i,ν⟩=σ y/\aI .i64 w y x.un/\
  ∀{w':x3}{v:Nat}{c:Int}{K:Unit->x3->Prop},Ext w w'->v<x.un.length->(∀H,jB w ae gT ao A R A9 aH n s t h (ez u i x (x.un.set v c)) H->K () H)->
   ac x7 (c7 ay y (Δ (v:Int))) w' λa=>aD x7 (o8 au a (Δ c)) w' K:=by
 have I:=p.olds;obtain⟨szv,aj,ak,al,am,an,L,_,_,_,M,_,_,C⟩:=id I.doc;obtain⟨g,cap,c,aq,e,S,N,av,_⟩:=um (i:=i) (a:=x.un) M (by rw[x8,J];rfl) λr _ h=>(C rfl).2 2 r h;obtain⟨y,rfl⟩:=W6.1 (ap.len N);have O:w.cell? ⟨g,i,ν⟩=σ y:=by
  have:=S 0 y rfl;simpa[show ap.n (Λ)=1 from rfl]using this
 rw[r8]at e;refine⟨g,cap,y,by rw[L,<-e];rfl,O,eD (jO N),λ{w' v c K}B ad U=>?_⟩;have V:=I.ext B;have z:=B.size;obtain⟨aw,ax,az,aA,P,W,Q,E,X⟩:=um (i:=i) (a:=x.un) (bW M B) (by rw[x8,J];rfl) λr _ h=>(C rfl).2 2 r h;obtain⟨F,rfl⟩:=W6.1 (ap.len Q);rw[r8,e]at P;cases P;have Y:F=y:=by
  have h1:=W 0 F rfl;have h1:w'.cell? ⟨g,i,ν⟩=σ F:=by simpa[show ap.n (Λ)=1 from rfl]using h1
  rw[iJ B O]at h1;exact(b9 h1).symm
 subst Y;refine EA (α:=Int) (i:=v) (A:=λ_=>False) rfl rfl ay.u au.i Q ad rfl rfl (λr _ f=>⟨λh=>h,(C rfl).2 2 r (E r f)⟩) λaB G Z=>?_;have aa:=X G (λr _ h=>h) Z λr f=>f.elim .inl False.elim;obtain⟨cn,af,ag,ah⟩:=V.Qz (u':=ez u i x (x.un.set v c)) (λq r h=>by have:=h.2;omega) (by rw[L];rfl) G (λr _ h=>E r h) (by show bF _ _ _ _ ((u.vars.set i {x with un:=x.un.set v c}).map (·.un));rw[U4];exact aa) rfl (pS J (by unfold aG;simp)) (pS J rfl) rfl rfl;refine U _ ⟨(B.ab _).trans (G.mono λr _ h=>(E r h).1),cn,cs,af,λq r f=>?_,λr f=>?_⟩
 .rcases ag q r f with⟨ai,h⟩|h
  .exact .inl ⟨ai,h.1⟩
  .exact .inr Ω
 .exact (ah r f).imp (λh=>h.1) λh=>Ω
theorem QA(p:ch w ae gT ao A R A9 aH n s u t h cs){f:ca}(ag:u.funs[j]?=σ f):∃g cap x E y,cs[6]?=σ (.slice (σ ⟨g,0,ν⟩) u.funs.length cap)/\w.rangeAt g (j*4) [x,E,y,.bool (decide (f.live≠0))]/\aI .i64 w x f.sc/\aI .i64 w y f.cs/\
  ∀{w':x3}{m:Nat}{c:Int}{K:Unit->x3->Prop},Ext w w'->m<f.cs.length->(∀N,dt w ae gT ao A R A9 aH n s t h (dM u j f (f.cs.set m c)) N->K () N)->
   ac x7 (c7 ay y (Δ (m:Int))) w' λa=>aD x7 (o8 au a (Δ c)) w' K:=by
 have O:=p.olds;obtain⟨szv,ax,az,aA,aB,aC,P,_,_,_,_,Q,_,F⟩:=id O.doc;obtain⟨g,cap,c,aE,e,G,U,aF,_⟩:=um (i:=j) (a:=iB f) Q (by rw[x8,ag];rfl) λr _ h=>(F rfl).2 3 r h;have V:=pR U;obtain⟨x,E,y,rfl,W,aG,X⟩:=V;rw[r8]at e;have G:w.rangeAt g (j*4) [x,E,y,.bool (decide (f.live≠0))]:=G;refine⟨g,cap,x,E,y,by rw[P,<-e];rfl,G,eD W,eD X,λ{w' m c K}B hm Y=>?_⟩;have Z:=O.ext B;have z:=B.size;obtain⟨aJ,aK,aL,aM,S,L,aa,H,ad⟩:=um (i:=j) (a:=iB f) (bW Q B) (by rw[x8,ag];rfl) λr _ h=>(F rfl).2 3 r h;rw[r8,e]at S;cases S;obtain⟨af,ah,M,aN,rfl,ai,I,aj⟩:=Qd aa λr h=>(F rfl).2 3 r (H r h);have L:w'.rangeAt g (j*4) [af,ah,M,.bool (decide (f.live≠0))]:=L;have ak:M=y:=by
  have h1:=L 2 M rfl;rw[(nE B G) 2 y rfl]at h1;exact(b9 h1).symm
 subst ak;refine EA (α:=Int) (i:=m) (A:=λ_=>False) rfl rfl ay.u au.i ai hm rfl rfl (λr _ C=>⟨λh=>h,(F rfl).2 3 r (H r (I r C))⟩) λaO J al=>?_;have am:=aj J (ap.mono al (λr _ h=>h.elim id False.elim) λ_ _ h=>h);have an:=ad J (λr _ h=>I r h) am λr C=>.inl C;obtain⟨cn,aq,av⟩:=Z.Qb (u':=dM u j f (f.cs.set m c)) (λq r h=>by have:=h.2;omega) (by rw[P];rfl) J (λr _ h=>H r (I r h)) (by show bF _ _ _ _ ((u.funs.set j {f with cs:=f.cs.set m c}).map iB);rw[U4];exact an) rfl rfl rfl;refine Y _ ⟨(B.ab _).trans (J.mono λr _ h=>.inl ⟨3,(H r (I r h)).1⟩),cn,cs,aq,λq r C=>?_⟩;rcases av q r C with⟨aw,h⟩|h
 .exact .inl ⟨aw,h.1⟩
 .exact .inr Ω
theorem QB(p:ch w ae gT ao A R A9 aH n s u t h cs){K:Unit->x3->Prop}(f:∀e,dt w ae gT ao A R A9 aH n s t h {u with zero:=c} e->K () e):aD x7 (o8 au (.pointer (σ ⟨ao,0+2,ν⟩)) (Δ c)) w K:=by
 refine bl (o:=0+2) au.i rfl rfl p.box (by rw[p.doc.len.1];omega) λaa a y x=>?_;refine f _ ⟨a.mono λr _ h=>.inr h,A9,_,p.EF a (λr _ h=>.inr h) x ?_ λq r h=>.inl ⟨q,h⟩,λq r h=>.inl ⟨q,h⟩⟩;exact(cc.ab p.doc a λr _ h he=>h.elim (λ⟨q,h⟩=>(p.apart q r h).2.2 he) λh=>(p.read r h).2.2 he).P0
theorem QC(p:ch w ae gT ao A R A9 aH n s u t h cs){i:Nat}{x:bG}(J:u.vars[i]?=σ x):∃g cap y,cs[3]?=σ (.slice (σ ⟨g,0,ν⟩) u.vars.length cap)/\w.cell? ⟨g,i,ν⟩=σ y/\aI .i64 w y (aG x)/\(∀r,leads y r->A9 0 r)/\
  ∀{w':x3}{m:Int}{z:x1}{gz:Nat}{K:Unit->x3->Prop},Ext w w'->av .i64 ah w' gz z (aG {x with mask:=m})->(∀r,leads z r->w.heap.size<=r)->(∀I,dt w ae gT ao A R A9 aH n s t h {u with vars:=u.vars.set i {x with mask:=m}} I->K () I)->
   ac x7 (c7 dz (.slice (σ ⟨g,0,ν⟩) u.vars.length cap) (Δ (i:Int))) w' λa=>aD x7 (o8 an a z) w' K:=by
 have L:=p.olds;have X:=(x4.1 J).1;obtain⟨szv,Y,aC,aE,aF,aJ,M,_,Z,_,_,_,_,aa⟩:=id L.doc;obtain⟨g,cap,full,ad,c,aK,e,C,ag,E,N,F,aj,aL,ak⟩:=EG (i:=i) (a:=aG x) Z (by rw[x8,J];rfl) λr _ h=>(aa rfl).2 0 r h;obtain⟨y,rfl⟩:=W6.1 (ap.len F);rw[r8]at e;have al:full[i]?=σ y:=by have:=N 0 y rfl;simpa[show ap.n (Λ)=1 from rfl]using this
 refine⟨g,cap,y,by rw[M,<-e];rfl,by have:=C.cell (o:=i) al;exact this,eD (jO F),λr f=>?_,λ{w' m O gz K}G P Q am=>?_⟩
 .obtain⟨aM,aN,aq,au⟩:=Ag F;rcases au with rfl|aw
  .obtain⟨_,_,_,e,_⟩:=f;cases e
  .obtain⟨e,_⟩:=bQ aq f;rw[e];exact(aj _ aw).1
 have z:=G.size;have E:i*1+1<=full.length:=E;rw[e8 dz.u an.i X λ_=>rfl];obtain⟨_,_,_,S⟩:=c5 P.ls;refine bl (o:=0+i*1) an.i (by rw[S];rfl) (by rw[S];rfl) (C.ext G) Ω λU V aO B=>?_;have B:af U g ad (over full (i*1) [O]):=by
  have e:=EH (full:=full) (c:=[y]) (o:=i*1) (q:=0) (x:=O) N E Ξ;rw[X2]at B;rw[Nat.add_zero]at e;rw[e]at B;exact B
 have aP:g<w.heap.size:=C.lt;have H:ai (λr=>r=g) w U:=(G.ab _).trans V;have ax:=bu P V λr f he=>by have he:r=g:=he;have:=Q r f;omega
 have ay:=ak H (λr _ h=>.inr h) B (na (R:=aH) ax) λr f=>.inr (Q r f);have W:∀r,r<w.heap.size->r=g->A9 0 r/\r<w.heap.size:=λr f h=>by rw[h];exact ag
 obtain⟨cn,az,aA⟩:=L.ox (u':={u with vars:=u.vars.set i {x with mask:=m}}) (λq r h=>h.2) (v:=Y) (by rw[M];rfl) H W (by show bF _ _ _ _ ((u.vars.set i {x with mask:=m}).map aG);rw[U4];exact ay) rfl (pS J rfl) (pS J rfl) rfl rfl;refine am _ ⟨H.mono λr f h=>.inl ⟨0,(W r f h).1⟩,cn,cs,az,λq r f=>?_⟩;rcases aA q r f with⟨aB,h⟩|h
 .exact .inl ⟨aB,h.1⟩
 .exact .inr h
end
def fW(s:aq)(sc:Λ)(pos:Int)(v:Int):Nat->Nat->Λ->List (Λ)
 |0,_,tl=>[tl]
 |m+1,p,tl=>if(p:Int)=pos then fW s sc pos v m (p+1) (tl.set p v)else(bk s (sc.getD p 0)).flatMap λx=>fW s sc pos v m (p+1) (tl.set p x)
theorem uv{α:Type}{l:List α}{p:Nat}{x:α}(h:p<l.length):(l.set p x).take (p+1)=l.take p++[x]:=by
 rw[u9,b8 h,List.take_set_of_le (o4 _)];rfl
theorem rD{s:aq}{sc:Λ}{pos:Nat}{v:Int}:∀(m p:Nat)(tl:Λ),sc.length=p+m->tl.length=sc.length->fW s sc pos v m p tl=(iy (jz s pos v (sc.drop p) p)).map (tl.take p++ ·)
 |0,p,tl,h1,a=>by
  rw[List.drop_eq_nil_of_le Ω,b6 Ω];unfold fW jz iy;rw[List.map_singleton,W8]
 |m+1,p,tl,h1,a=>by
  have e:p<sc.length:=Ω
  obtain⟨u,hu⟩:=aJ (l:=sc) e;have h:sc.drop p=u::sc.drop (p+1):=by rw[X6 e,(x4.1 hu).2]
  have q:sc.getD p 0=u:=by rw[u4,hu];rfl
  rw[h];unfold fW jz;rw[iy];by_cases f:p=pos
  .rw[if_pos Ω,if_pos f,List.flatMap_singleton,rD m (p+1) (tl.set p v) Ω (by rw[c9];exact a),S9,uv Ω];refine List.map_congr_left λr _=>?_;simp
  .rw[if_neg Ω,if_neg f,q,List.map_flatMap];congr 1;funext x;rw[rD m (p+1) (tl.set p x) Ω (by rw[c9];exact a),S9,uv Ω];refine List.map_congr_left λr _=>?_;simp
theorem QD{s:aq}{pos:Nat}{m p:Nat}{a:Λ}(h1:sc.length=p+m)(e:tl.length=sc.length)(f:a.length=sc.length)(h:a.take p=tl.take p):fW s sc pos v m p a=fW s sc pos v m p tl:=by
 rw[rD m p tl h1 e,rD m p a h1 f,h]
theorem QE{s:aq}{pos:Nat}(h:tl.length=sc.length):fW s sc pos v sc.length 0 tl=cm s sc pos v:=by
 rw[rD sc.length 0 tl Ω h];unfold cm;simp
def nh(w:x3)(ae gs bE bj aY:Nat)(aL:x1)(pos v:Int):Prop:=af w gs db [Γ ae]/\af w bE an [aL]/\af w bj ah [Δ pos]/\af w aY ah [Δ v]
theorem nh.ab{S:aj}{gs bE bj aY:Nat}{aL:x1}(h:nh w ae gs bE bj aY aL pos v)(a:ai S w w')(e:¬S gs/\¬S bE/\¬S bj/\¬S aY):nh w' ae gs bE bj aY aL pos v:=
 ⟨h.1.ab a e.1,h.2.1.ab a e.2.1,h.2.2.1.ab a e.2.2.1,h.2.2.2.ab a e.2.2.2⟩
theorem nh.ext{gs bE bj aY:Nat}{aL:x1}(h:nh w ae gs bE bj aY aL pos v)(J:Ext w w'):nh w' ae gs bE bj aY aL pos v:=h.ab (J.ab λ_=>False) ⟨id,id,id,id⟩
def gj(ae gT:Nat)(R:aj)(n:aF)(s:aq)(gs bE bj aY:Nat)(aL:x1)(sc:Λ)(pos v:Int)(B0:Nat)(D:Nat->Prop)(w:x3):Prop:=
 nh w ae gs bE bj aY aL pos v/\(gs<B0/\bE<B0/\bj<B0/\aY<B0)/\aI .i64 w aL sc/\(∀r,leads aL r->r<B0)/\(Laid w/\B0<=w.heap.size)/\∃A s' bq,bw w ae gT A R n s' bq/\(∀i,bk s' i=bk s i)/\∀r,A r\/R r->r<B0\/D r
section
variable{ae gT gs bE bj aY B0:Nat}{R:aj}{n:aF}{s:aq}{aL:x1}{sc:Λ}{pos v:Int}
theorem gj.ext(h:gj ae gT R n s gs bE bj aY aL sc pos v B0 D w)(J:Ext w w'):gj ae gT R n s gs bE bj aY aL sc pos v B0 D w':=by
 obtain⟨h1,e,f,p,a,A,s',bq,q,r,x⟩:=h;exact⟨h1.ext J,e,f.ext J,p,⟨a.1.ext J,Y8 a.2 J.size⟩,A,s',bq,q.ext J,r,x⟩
def kd(w:x3)(l gy gt gtb ga:Nat)(hl:Array x1)(q:Nat)(tl:Λ):Prop:=af w gy zR [.func (.yield l) #[] #[]]/\af w gtb an [.slice (σ ⟨gt,0,ν⟩) q q]/\af w ga oT [.func (.func lX) #[] hl]/\
 av .i64 ah w gt (.slice (σ ⟨gt,0,ν⟩) q q) tl
theorem kd.ab{S:aj}{l q:Nat}{hl:Array x1}(h:kd w l gy gt gtb ga hl q tl)(f:ai S w w')(p:¬S gy/\¬S gtb/\¬S ga/\¬S gt):kd w' l gy gt gtb ga hl q tl:=
 ⟨h.1.ab f p.1,h.2.1.ab f p.2.1,h.2.2.1.ab f p.2.2.1,bu h.2.2.2 f λr s=>by
  obtain⟨a,_,_,e,x⟩:=s;cases e;rw[<-x];exact p.2.2.2⟩
theorem kd.ext{l q:Nat}{hl:Array x1}(h:kd w l gy gt gtb ga hl q tl)(J:Ext w w'):kd w' l gy gt gtb ga hl q tl:=h.ab (J.ab λ_=>False) ⟨id,id,id,id⟩
theorem QF(U:aI .i64 w aL sc):am x7 zK [Γ ae,aL,Δ pos,Δ v] w λr w'=>Ext w w'/\∃gs bE bj aY,r= .func (.func lW) #[] #[Γ bE,Γ bj,Γ aY,Γ gs]/\nh w' ae gs bE bj aY aL pos v/\w.heap.size<=gs/\w.heap.size<=bE/\w.heap.size<=bj/\w.heap.size<=aY:=by
 obtain⟨_,_,_,y⟩:=c5 U;refine az func218 ?_;refine bf λgs V A x h=>?_;refine bf λbE aa B p a=>?_;refine bf λbj C E e q=>?_;refine bf λaY s G f z=>?_;have h:af s gs db [Γ ae]:=((af.ext h p).ext e).ext f;have a:af s bE an [aL]:=by rw[y]at a ⊢;exact(af.ext a e).ext f
 have q:af s bj ah [Δ pos]:=af.ext q f;rw[ig];have H:=x.size;have I:=p.size;have z3:=e.size;exact⟨((x.trans p).trans e).trans f,gs,bE,bj,aY,rfl,⟨h,a,q,z⟩,Ω,Ω,Ω,Ω⟩
theorem gj.own{S:aj}(h:gj ae gT R n s gs bE bj aY aL sc pos v B0 D w)(p:ai S w w')(x:∀r,S r->B0<=r/\¬D r):gj ae gT R n s gs bE bj aY aL sc pos v B0 D w':=by
 obtain⟨h1,f,E,y,z,A,s',bq,B,F,C⟩:=h;have no:∀{r:Nat},r<B0->¬S r:=λh1 f=>by have:=(x _ f).1;omega
 refine⟨h1.ab p ⟨no f.1,no f.2.1,no f.2.2.1,no f.2.2.2⟩,f,hV E p λr q a n c e G=>?_,y,⟨?_,Y8 z.2 p.size⟩,A,s',bq,⟨B.1.ab p λr _ q U=>?_,B.2⟩,F,C⟩
 .exact no (y r ⟨a,n,c,e,G⟩) q
 .exact jh p (no Ω) z.1
 .exact (C r q).elim (λh=>no h U) (x r U).2
def QG(P:(Nat->Prop)->x3->Prop)(aA:(Nat->Prop)->Nat->x3->Prop)(L:List (Λ))(l B:Nat):Prop:=∀(D:Nat->Prop)(k:Nat)tl aK w',(∀r,D r->B<=r/\r<w'.heap.size)->B<=w'.heap.size->P D w'->L[k]?=σ tl->aI .i64 w' aK tl->aA D k w'->
 hQ x7 l [aK] w' λu a=>u= .bool true/\(∃D',(∀r,D' r->D r\/w'.heap.size<=r/\r<a.heap.size)/\(∀r,D r->D' r)/\P D' a/\aA D' (k+1) a)/\cL w' a/\w'.heap.size<=a.heap.size/\ai (λr=>r<B\/D r) w' a
def rE(D:Nat->Prop)(B gy gtb ga gt:Nat):Prop:=(B<=gy/\¬D gy)/\(B<=gtb/\¬D gtb)/\(B<=ga/\¬D ga)/\B<=gt/\¬D gt
theorem rE.go{D':Nat->Prop}{m cd:Nat}(h:rE D B gy gtb ga gt)(a:∀r,D' r->D r\/m<=r/\r<cd)(hm:gy<m/\gtb<m/\ga<m/\gt<m):rE D' B gy gtb ga gt:=
 have f:∀{g:Nat},g<m->¬D g->¬D' g:=λh1 e p=>(a _ p).elim e λh=>Ω
 ⟨⟨h.1.1,f hm.1 h.1.2⟩,⟨h.2.1.1,f hm.2.1 h.2.1.2⟩,⟨h.2.2.1.1,f hm.2.2.1 h.2.2.1.2⟩,h.2.2.2.1,f hm.2.2.2 h.2.2.2.2⟩
theorem kd.lt{l q:Nat}{hl:Array x1}(h:kd w l gy gt gtb ga hl q tl):gy<w.heap.size/\gtb<w.heap.size/\ga<w.heap.size/\gt<w.heap.size:=
 ⟨h.1.lt,h.2.1.lt,h.2.2.1.lt,(bQ h.2.2.2 ⟨_,_,_,rfl,rfl⟩).2⟩
def AtR(l gy gt gtb ga:Nat)(hl:Array x1)(P:(Nat->Prop)->x3->Prop)(aA:(Nat->Prop)->Nat->x3->Prop)(S:aj)(D:Nat->Prop)(w:x3)(sl k p:Nat)(tl:Λ)(w':x3):Prop:=
 w.heap.size<=w'.heap.size/\∃D' a,a.length=sl/\a.take p=tl.take p/\kd w' l gy gt gtb ga hl sl a/\((∀r,D' r->D r\/w.heap.size<=r/\r<w'.heap.size)/\∀r,D r->D' r)/\P D' w'/\aA D' k w'/\ai S w w'
section
variable{l gy gt gtb ga B:Nat}{hl:Array x1}{P:(Nat->Prop)->x3->Prop}{aA:(Nat->Prop)->Nat->x3->Prop}{S T:aj}{D:Nat->Prop}{w V aa:x3}{sl k p:Nat}{tl:Λ}
theorem AtR.own(x:∀D T V aa,ai T V aa->(∀r,T r->B<=r/\¬D r)->P D V->P D aa)(y:∀D k V aa,ai (λr=>B<=r/\¬D r) V aa->fB B V aa->aA D k V->aA D k aa)(h:AtR l gy gt gtb ga hl P aA S D w sl k p tl V)(e:ai T V aa)(z:fB B V aa)(a:∀r,T r->r<w.heap.size/\¬D r/\B<=r/\S r/\r≠gy/\r≠gtb/\r≠ga/\r≠gt):AtR l gy gt gtb ga hl P aA S D w sl k p tl aa:=by
 obtain⟨A,D',C,h1,E,F,⟨q,G⟩,H,I,J⟩:=h;have s:∀r,T r->B<=r/\¬D' r:=λr f=>⟨(a r f).2.2.1,λK=>(q r K).elim (a r f).2.1 λh=>by have:=(a r f).1;omega⟩;exact⟨Y8 A e.size,D',C,h1,E,F.ab e ⟨λh=>(a _ h).2.2.2.2.1 rfl,λh=>(a _ h).2.2.2.2.2.1 rfl,λh=>(a _ h).2.2.2.2.2.2.1 rfl,λh=>(a _ h).2.2.2.2.2.2.2 rfl⟩,
  ⟨λr f=>(q r f).imp id λh=>⟨h.1,R7 h.2 e.size⟩,G⟩,x D' T V aa e s H,y D' k V aa (e.mono λr _ h=>s r h) z I,J.trans (e.mono λr _ h=>(a r h).2.2.2.1)⟩
theorem AtR.base{w0:x3}(h:AtR l gy gt gtb ga hl P aA S D w sl k p tl V)(J:Ext w0 w)(a:∀r,r<w0.heap.size->S r->T r):AtR l gy gt gtb ga hl P aA T D w0 sl k p tl V:=by
 obtain⟨e,D',f,h1,q,s,⟨x,y⟩,z,A,B⟩:=h;exact⟨Y8 J.size e,D',f,h1,q,s,⟨λr C=>(x r C).imp id λh=>⟨Y8 J.size h.1,h.2⟩,y⟩,z,A,((J.ab S).trans B).mono a⟩
theorem AtR.comp{a:Nat->Prop}{q:Λ}{x:Int}(f:∀r,r<B\/D r\/r=gt->S r)(s:∀r,a r->D r\/w.heap.size<=r/\r<V.heap.size)(z:∀r,D r->a r)(y:ai S w V)(A:q.take p=tl.take p)(h:AtR l gy gt gtb ga hl P aA (λr=>r<B\/a r\/r=gt) a V sl k (p+1) (q.set p x) aa):AtR l gy gt gtb ga hl P aA S D w sl k p tl aa:=by
 obtain⟨C,D',E,h1,F,G,⟨H,I⟩,J,K,L⟩:=h;have U:=y.size;refine⟨Y8 U C,D',E,h1,?_,G,⟨λr e=>?_,λr e=>I r (z r e)⟩,J,K,?_⟩
 .have:=congrArg (List.take p) F;rw[List.take_take,List.take_take,Nat.min_eq_left Ω,List.take_set_of_le (o4 _)]at this;rw[this,A]
 .rcases H r e with h|h
  .exact (s r h).imp id λh=>⟨h.1,Ω⟩
  .exact .inr ⟨Ω,h.2⟩
 .refine ((y.mono λr _ h=>.inl h).trans (L.mono λr _ h=>?_):ai (λr=>S r\/w.heap.size<=r) w aa).mono λr e h=>h.elim id λh=>Ω
  rcases h with h|h|h
  .exact .inl (f r (.inl h))
  .exact (s r h).elim (λh=>.inl (f r (.inr (.inl h)))) λh=>.inr h.1
  .exact .inl (f r (.inr (.inr h)))
end
theorem QH{α β:Type}{l:List α}{a:α->List β}{i:Nat}{y:α}{z:β}(h:l[j]?=σ y)(hi:(a y)[i]?=σ z):(l.flatMap a)[((l.take j).flatMap a).length+i]?=σ z:=by
 have f:=(x4.1 h).1;have e:l=l.take j++y::l.drop (j+1):=by
  conv=>lhs;rw[<-List.take_append_drop j l,X6 f,(x4.1 h).2]
 conv=>lhs;rw[e,List.flatMap_append,X7]
 have p:=(x4.1 hi).1;have el:((l.take j++y::l.drop (j+1)).take j)=l.take j:=by rw[List.take_append_of_le_length (by rw[n9];omega),List.take_take,Nat.min_self]
 rw[el,Y6 Ω,R4,Y5 p];exact hi
theorem QI{t:p9}{b o:Nat}{x:x1}{K:x1->Prop}(a:jM x7 t=true)(h:w.cell? ⟨b,o,ν⟩=σ x):ac x7 (do loadVar t (<-asAddr (.pointer (σ ⟨b,o,ν⟩)))) w K=K x:=ac.of λw' J=>by
 have h':=iJ J h;unfold jM at a;cases hu:x7.underlying t with
 |none=>rw[hu]at a;cases a
 |some d=>
  rw[hu]at a;cases d<;>first|(cases a;done)|simp[asAddr,loadVar,isAgg,run_underlying hu,h']
def ke(bE gy gtb bj aY ga gs:Nat):Array x1:=#[Γ bE,Γ gy,Γ gtb,Γ bj,Γ aY,Γ ga,Γ gs]
def uw(p:Nat)(bE gy gtb bj aY ga gs:Nat):List x1:=[Δ (p:Int),Γ bE,Γ gy,Γ gtb,Γ bj,Γ aY,Γ ga,Γ gs]
theorem QJ{l:Nat}{aA:(Nat->Prop)->Nat->x3->Prop}(bW:0<=pos)(bX:∀u∈sc,0<=u/\u<n.sizes.length)(c3:sc.length<=6)(bY:B0<=B)(Z:gt≠gy/\gt≠gtb/\gt≠ga)(P:∀D k V aa,ai (λr=>B<=r/\¬D r) V aa->fB B V aa->aA D k V->aA D k aa)(bZ:QG (gj ae gT R n s gs bE bj aY aL sc pos v B0) aA L l B):
  ∀(q p:Nat)(tl:Λ)(k:Nat)(D:Nat->Prop)(w:x3),sc.length=p+q->tl.length=sc.length->(∀r,D r->B<=r/\r<w.heap.size)->B<=w.heap.size->rE D B gy gtb ga gt->kd w l gy gt gtb ga (ke bE gy gtb bj aY ga gs) sc.length tl->gj ae gT R n s gs bE bj aY aL sc pos v B0 D w->aA D k w->
   (∀i x,(fW s sc pos v q p tl)[i]?=σ x->L[k+i]?=σ x)->
   am x7 lX (uw p bE gy gtb bj aY ga gs) w λr w'=>r= .bool true/\AtR l gy gt gtb ga (ke bE gy gtb bj aY ga gs) (gj ae gT R n s gs bE bj aY aL sc pos v B0) aA (λr=>r<B\/D r\/r=gt) D w sc.length (k+(fW s sc pos v q p tl).length) p tl w':=by
 obtain⟨ea,rfl⟩:=U8 bW;have ad:∀D T V aa,ai T V aa->(∀r,T r->B<=r/\¬D r)->gj ae gT R n s gs bE bj aY aL sc ea v B0 D V->gj ae gT R n s gs bE bj aY aL sc ea v B0 D aa:=λD T V aa aS bn h=>h.own aS λr f=>⟨Y8 bY (bn r f).1,(bn r f).2⟩;have aT:∀{M:x3}{K:x1->Prop},af M bE an [aL]->K aL->ac x7 (u5 an (Γ bE)) M K:=λaU aV=>by rw[ax (v:=aL) Ψ (aU.cell (o:=0) rfl)];exact aV
 have aW:∀{a2 p:Nat}{tl:Λ}{D:Nat->Prop}{w aa M:x3}{a:Nat}{b:Bool},Ext w aa->w.heap.size<=a->a<aa.heap.size->(∀r,D r->B<=r/\r<w.heap.size)->B<=w.heap.size->(gy<w.heap.size/\gtb<w.heap.size/\ga<w.heap.size/\gt<w.heap.size)->
   AtR l gy gt gtb ga (ke bE gy gtb bj aY ga gs) (gj ae gT R n s gs bE bj aY aL sc ea v B0) aA (λr=>r<B\/D r\/r=gt\/r=a) D aa sc.length a2 p tl M->af M a gm [.bool b]->
   aD x7 (o8 gm (Γ a) (.bool true)) M λ(_:Unit)aF=>ac x7 (do loadVar gm (<-asAddr (Γ a))) aF λr=>uR w.heap.size aF λbo=>r= .bool true/\AtR l gy gt gtb ga (ke bE gy gtb bj aY ga gs) (gj ae gT R n s gs bE bj aY aL sc ea v B0) aA (λr=>r<B\/D r\/r=gt) D w sc.length a2 p tl bo:=by
  intro a2 p tl D w aa M a b G bp ag z aj ap a6 a7;have b0:∀r,r=a->r<aa.heap.size/\¬D r/\B<=r/\(r<B\/D r\/r=gt\/r=a)/\r≠gy/\r≠gtb/\r≠ga/\r≠gt:=by
   rintro r rfl;exact⟨ag,λh=>by have:=(z _ h).2;omega,Ω,.inr (.inr (.inr rfl)),Ω,Ω,Ω,Ω⟩
  refine aD.ct (bl gm.i rfl rfl a7 Ξ λaF b1 c4 a8 b2=>?_);have a8:af aF a gm [.bool true]:=a8;have b3:=a6.own ad P b1 b2.o b0;rw[QI (x:=.bool true) Ψ (a8.cell (o:=0) rfl)];intro bo b4 b5;refine⟨rfl,((b3.own ad P (b4.ab λ_=>False) (b5.2.mono aj) λ_ h=>h.elim).base G λr f h=>?_)⟩;rcases h with h|h|h|h
  .exact .inl h
  .exact .inr (.inl h)
  .exact .inr (.inr h)
  .omega
 intro q;induction q with
 |zero=>
  intro p tl k D w b7 aq z aj C au ba bb av;refine hr func268 ?_;refine aD.ct (bf λg1 V b8 aw E bc=>?_);refine aD.ct (bx gm.i λa aa bp W N bd=>?_);have G:=aw.trans W;have b9:=aw.size;have ca:=W.size;have E:af aa g1 ah [Δ (p:Int)]:=af.ext E W;have N:af aa a gm [.bool false]:=N;have ag:=N.lt;have aH:=P D k w aa (G.ab _) (bc.trans bd).o bb;have I:=ba.ext G;have H:=au.ext G;rw[ax (v:=Δ (p:Int)) Ψ (E.cell (o:=0) rfl)];refine aT I.1.2.1 ?_;rw[aX an.u I.2.2.1,be,al];refine⟨λ_=>?_,λh=>absurd Ω h⟩;rw[ax (v:=.func (.yield l) #[] #[]) Ψ (H.1.cell (o:=0) rfl),ax (v:=.slice (σ ⟨gt,0,ν⟩) sc.length sc.length) Ψ (H.2.1.cell (o:=0) rfl)];have cb:L[k]?=σ tl:=av 0 tl rfl;refine(show hQ x7 l [.slice (σ ⟨gt,0,ν⟩) sc.length sc.length] aa _ from hQ.mono (bZ D k tl _ aa (λr f=>⟨(z r f).1,by have:=(z r f).2;omega⟩) Ω I cb H.2.2.2.ls aH) ?_);rintro _ br ⟨rfl,⟨D',d1,d2,cc,cd⟩,ce,cg,bh⟩;refine⟨ce,?_⟩;have ap:=au.lt;have aI:∀{g:Nat},w.heap.size<=g->¬D g:=λh1 ay=>by have:=(z _ ay).2;omega
  have az:∀{g:Nat},B<=g->¬D g->¬(g<B\/D g):=λh1 ay ch=>ch.elim Ω ay;have a7:af br a gm [.bool false]:=N.ab bh (az Ω (aI Ω));have a6:AtR l gy gt gtb ga (ke bE gy gtb bj aY ga gs) (gj ae gT R n s gs bE bj aY aL sc ea v B0) aA (λr=>r<B\/D r\/r=gt\/r=a) D aa sc.length (k+1) p tl br:=
   ⟨cg,D',tl,aq,rfl,H.ab bh ⟨az C.1.1 C.1.2,az C.2.1.1 C.2.1.2,az C.2.2.1.1 C.2.2.1.2,az C.2.2.2.1 C.2.2.2.2⟩,⟨d1,d2⟩,cc,cd,bh.mono λr _ h=>h.imp id .inl⟩
  exact aW G Ω ag z aj ap a6 a7
 |succ q bt=>
  intro p tl k D w b7 aq z aj C au ba bb av;refine hr func268 ?_;refine aD.ct (bf λg1 V b8 aw E bc=>?_);refine aD.ct (bx gm.i λa aa bp W N bd=>?_);have G:=aw.trans W;have b9:=aw.size;have ca:=W.size;have E:af aa g1 ah [Δ (p:Int)]:=af.ext E W;have N:af aa a gm [.bool false]:=N;have ag:=N.lt;have h1:=E.lt;have aH:=P D k w aa (G.ab _) (bc.trans bd).o bb;have I:=ba.ext G;have H:=au.ext G;have ap:=au.lt;have aI:∀{g:Nat},w.heap.size<=g->¬D g:=λh1 ay=>by have:=(z _ ay).2;omega
  rw[ax (v:=Δ (p:Int)) Ψ (E.cell (o:=0) rfl)];refine aT I.1.2.1 ?_;rw[aX an.u I.2.2.1,be,al];refine⟨λh=>absurd h Ω,λ_=>?_⟩;rw[ax (v:=Δ (p:Int)) Ψ (E.cell (o:=0) rfl),ax (v:=Δ (ea:Int)) Ψ (I.1.2.2.1.cell (o:=0) rfl),be,al];have bu:∀{M:x3}{K:x1->Prop},af M gtb an [.slice (σ ⟨gt,0,ν⟩) sc.length sc.length]->K (.slice (σ ⟨gt,0,ν⟩) sc.length sc.length)->ac x7 (u5 an (Γ gtb)) M K:=λaU aV=>by rw[ax (v:=.slice (σ ⟨gt,0,ν⟩) sc.length sc.length) Ψ (aU.cell (o:=0) rfl)];exact aV
  have aK:∀{D:Nat->Prop}(r:Nat),rE D B gy gtb ga gt->r=gt->B<=r/\¬D r:=λr h e=>e▸⟨h.2.2.2.1,h.2.2.2.2⟩;refine⟨λhe=>?_,λci=>?_⟩
  .refine bu H.2.1 ?_;rw[ax (v:=Δ (p:Int)) Ψ (E.cell (o:=0) rfl),ax (v:=Δ v) Ψ (I.1.2.2.2.cell (o:=0) rfl),hy rfl an.u ah.i H.2.2.2 Ω];refine aD.ct (hz ah.i H.2.2.2 Ω λak U c5 cj ck=>?_);have bw:kd ak l gy gt gtb ga (ke bE gy gtb bj aY ga gs) sc.length (tl.set p v):=⟨H.1.ab U λh=>Z.1 h.symm,H.2.1.ab U λh=>Z.2.1 h.symm,H.2.2.1.ab U λh=>Z.2.2 h.symm,cj⟩;have cl:=ad D _ _ _ U (λr h=>aK r C h) I;have cm:=P D k aa ak (U.mono λr _ h=>aK r C h) ck.o aH;have cn:af ak g1 ah [Δ (p:Int)]:=E.ab U Ω;have cp:af ak a gm [.bool false]:=N.ab U Ω;rw[ax (v:=.func (.func lX) #[] (ke bE gy gtb bj aY ga gs)) Ψ (bw.2.2.1.cell (o:=0) rfl),ax (v:=Δ (p:Int)) Ψ (cn.cell (o:=0) rfl),aN,wrap_i64 Ω Ω];have hw:fW s sc ea v (q+1) p tl=fW s sc ea v q (p+1) (tl.set p v):=by rw[fW,if_pos he]
   rw[hw];rw[hw]at av;refine(show am x7 lX (uw (p+1) bE gy gtb bj aY ga gs) ak _ from am.mono (bt (p+1) (tl.set p v) k D ak Ω (by rw[c9];exact aq) (λr f=>⟨(z r f).1,by have:=(z r f).2;omega⟩) Ω C bw cl cm av) ?_);rintro _ cq c6 ⟨rfl,bz⟩;have cr:af cq a gm [.bool false]:=by
    obtain⟨_,_,_,_,_,_,_,_,_,cu⟩:=bz;exact cp.ab cu λh=>by
     rcases h with h|h|h
     .omega
     .exact aI Ω h
     .omega
   exact aW G Ω ag z aj ap (AtR.comp (λr h=>h.imp id λh=>h.imp id .inl) (λr h=>.inl h) (λ_ h=>h) (U.mono λr _ h=>.inr (.inr (.inl h))) rfl bz) cr
  intro c7 aM _ cw;have aO:=I.ext aM;obtain⟨A,s',bq,bA,cz,c8⟩:=id aO.2.2.2.2.2;obtain⟨u,hu⟩:=aJ (l:=sc) (i:=p) Ω;obtain⟨cA,da⟩:=bX u (x5 hu);have db:=bA.2.2.2.1.vars;obtain⟨x,bB⟩:=aJ (l:=s'.vars) (i:=u.toNat) Ω;rw[ax (v:=Γ ae) Ψ (aO.1.1.cell (o:=0) rfl)];refine aT aO.1.2.1 ?_;rw[ax (v:=Δ (p:Int)) Ψ ((E.ext aM).cell (o:=0) rfl),bg an.u ah.i Ψ aO.2.2.1 hu];refine(jv (i:=u) bA).mono ?_;rintro _ dc cB ⟨⟨b,cC,rfl,bC⟩,bD⟩;refine(mO (b:=b) (n:=cC)).mono ?_;rintro _ aP cD ⟨cE,bF,rfl,dd,bG⟩;have bI:=mg bC cA bB;have cF:bk s (sc.getD p 0)=aG x:=by
   rw[<-cz,u4,hu,V2];unfold bk;rw[bB]
  have bJ:fW s sc ea v (q+1) p tl=(aG x).flatMap λy=>fW s sc ea v q (p+1) (tl.set p y):=by rw[fW,if_neg ci,cF]
  have X:=(aM.trans bD).trans cE;have cG:=(cw.trans cB).trans cD;have z12:=X.size;have de:=(aM.trans bD).size;have df:=bG.lt;have bK:B<=aP.heap.size:=Ω
  have cH:=P D k aa aP (X.ab _) cG.o aH;have bL:=I.ext X;have bM:=H.ext X;refine⟨Nat,false,false,iG,#[Γ bF],0,_,_,λ_=>_,λ_ j w'=>AtR l gy gt gtb ga (ke bE gy gtb bj aY ga gs) (gj ae gT R n s gs bE bj aY aL sc ea v B0) aA (λr=>r<B\/D r\/r=gt) D aP sc.length (k+(((aG x).take j).flatMap λy=>fW s sc ea v q (p+1) (tl.set p y)).length) p tl w'/\af w' g1 ah [Δ (p:Int)]/\af w' a gm [.bool false],
   λ_ _ _ _=>False,rfl,(mN (g:=bF) bC.1).s.x,?_,λ_ _ _ J h=>⟨h.1.ext J,h.2.ext J⟩,?_,λ_ _ _ _ _ _ _ h=>h,⟨bG,bL.2.2.2.2.1.1⟩,?_,?_,?_,λ_ _ _ h=>h.elim,λ_ _ _ _ h=>h.elim⟩
  .rintro _ _ _ _ ⟨_,_,_,_,rfl⟩;rfl
  .rintro _ j dg dh aS cI ⟨Y,aB,O⟩;have J:=aS.ext λ_ _ h=>nomatch h.1;exact⟨Y.own ad P (J.ab λ_=>False) (cI.mono bK) λ_ h=>h.elim,aB.ext J,O.ext J⟩
  .exact⟨⟨o4 _,D,tl,aq,rfl,bM,⟨λ_ h=>.inl h,λ_ h=>h⟩,bL,by simpa using cH,ai.refl _ _⟩,E.ext X,N.ext X⟩
  .rintro _ _ j _ di _ _ ⟨cJ,dj⟩ ⟨dk,rfl,y,cK,cL⟩ ⟨cM,bN,cN⟩;cases cL;intro bO aC cO _;have bP:(aG x)[j]?=σ (y:Int):=by rw[<-bI,x8,cK];rfl
   have cP:=cM.own ad P (aC.ab λ_=>False) (cO.2.mono bK) λ_ h=>h.elim;obtain⟨dl,aE,aQ,Y,aB,O,⟨aR,cQ⟩,cR,cS,cT⟩:=cP;have cU:=bM.lt;have bi:=C.go aR cU;have bQ:∀r,aE r->B<=r/\r<bO.heap.size:=λr f=>(aR r f).elim (λh=>⟨(z r h).1,by have:=(z r h).2;omega⟩) λh=>⟨Ω,h.2⟩;refine bu O.2.1 ?_;rw[ax (v:=Δ (p:Int)) Ψ ((bN.ext aC).cell (o:=0) rfl),hy rfl an.u ah.i O.2.2.2 Ω];refine aD.ct (hz ah.i O.2.2.2 Ω λao Q dm cV cW=>?_);have bR:kd ao l gy gt gtb ga (ke bE gy gtb bj aY ga gs) sc.length (aQ.set p y):=⟨O.1.ab Q λh=>Z.1 h.symm,O.2.1.ab Q λh=>Z.2.1 h.symm,O.2.2.1.ab Q λh=>Z.2.2 h.symm,cV⟩;have cX:=ad aE _ _ _ Q (λr h=>aK r bi h) cR;have cY:=P aE _ bO ao (Q.mono λr _ h=>aK r bi h) cW.o cS;have bS:af ao g1 ah [Δ (p:Int)]:=(bN.ext aC).ab Q Ω;have cZ:af ao a gm [.bool false]:=(cN.ext aC).ab Q Ω;have c0:=(cJ.ext aC).ab Q Ω;rw[ax (v:=.func (.func lX) #[] (ke bE gy gtb bj aY ga gs)) Ψ (bR.2.2.1.cell (o:=0) rfl),ax (v:=Δ (p:Int)) Ψ (bS.cell (o:=0) rfl),aN,wrap_i64 Ω Ω];have bT:fW s sc ea v q (p+1) (aQ.set p (y:Int))=fW s sc ea v q (p+1) (tl.set p (y:Int)):=QD Ω (by rw[c9];exact aq) (by rw[c9];exact Y) (by rw[uv Ω,uv Ω,aB]);refine(show am x7 lX (uw (p+1) bE gy gtb bj aY ga gs) ao _ from am.mono (bt (p+1) (aQ.set p y) _ aE ao Ω (by rw[c9];exact Y) (λr f=>⟨(bQ r f).1,by have:=(bQ r f).2;omega⟩) Ω bi bR cX cY λi dn hi=>?_) ?_)
   .rw[bT]at hi;rw[R2];refine av _ _ ?_;rw[bJ];exact QH bP hi
   rintro _ dp dq ⟨rfl,bU⟩;rw[bH,X1,a1];have bV:=AtR.comp (S:=λr=>r<B\/D r\/r=gt) (λr h=>h) (λr h=>(aR r h).imp id λh=>⟨h.1,Ω⟩) cQ (cT.trans (Q.mono λr _ h=>.inr (.inr h))) aB bU;obtain⟨_,_,_,_,_,_,_,c1,_,bm⟩:=bU;have aZ:∀{g:Nat},w.heap.size<=g->g<aP.heap.size->¬(g<B\/aE g\/g=gt):=λc2 dr h=>by
    rcases h with h|h|h
    .omega
    .exact (aR _ h).elim (aI c2) λh=>Ω
    .omega
   refine⟨⟨c0.ab bm (aZ Ω Ω),c1.2.2.2.2.1.1⟩,⟨?_,bS.ab bm (aZ Ω Ω),cZ.ab bm (aZ Ω Ω)⟩,λh=>by cases h⟩;have e:k+(((aG x).take j).flatMap λy=>fW s sc ea v q (p+1) (tl.set p y)).length+(fW s sc ea v q (p+1) (aQ.set p (y:Int))).length=k+(((aG x).take (j+1)).flatMap λy=>fW s sc ea v q (p+1) (tl.set p y)).length:=by
    rw[bT,u9,bP,j5,List.flatMap_append,List.flatMap_singleton,r9];omega
   rw[e]at bV;exact bV
  .rintro _ j ds rfl ⟨Y,aB,O⟩;rw[b6 (by rw[<-bI,r8];exact o4 _),<-bJ]at Y;exact aW G Ω ag z aj ap (Y.base X λr _ h=>h.imp id λh=>h.imp id .inl) O
end
section
variable{ae gT gs bE bj aY B0:Nat}{R:aj}{n:aF}{s:aq}{aL:x1}{sc:Λ}{v:Int}
theorem EW{ea:Nat}(Q:∀u∈sc,0<=u/\u<n.sizes.length)(S:sc.length<=6):
  p5 x7 true false lW [Γ bE,Γ bj,Γ aY,Γ gs] 0 (λk=>k=(cm s sc ea v).length)
   (λk vs W w=>W=k+1/\∃tl aK,(cm s sc ea v)[k]?=σ tl/\vs=[aK]/\aI .i64 w aK tl) (gj ae gT R n s gs bE bj aY aL sc ea v B0):=by
 refine⟨lW.enters,λl aA aW w X _ Y hf Z=>?_⟩;have E:∀D k V aa,ai (λr=>w.heap.size<=r/\¬D r) V aa->fB w.heap.size V aa->aA D k V->aA D k aa:=λD k V aa ad ag=>X D k V aa (ad.mono λr _ h=>⟨rfl,h⟩) ag;have U:=hf.2.2.1;have aj:=hf.2.2.2.2.1.2;obtain⟨_,_,_,aZ⟩:=c5 U;refine qh func267 ?_;refine aD.ct (bf λgy V a1 p G ak=>?_);have al:∀{H:x3}{K:x1->Prop},af H bE an [aL]->K aL->ac x7 (u5 an (Γ bE)) H K:=λam ao=>by rw[ax (v:=aL) Ψ (am.cell (o:=0) rfl)];exact ao
 refine al (hf.1.2.1.ext p) ?_;rw[aX an.u (U.ext p)];refine aD.ct (jN (k:=.i64) an.u ah.i Ω Ω λgt aa a2 A I ap=>?_);refine aD.ct (bx an.i λgtb a6 a7 q J aq=>?_);refine aD.ct (bl an.i rfl rfl J (by simp[x1.cells]) λa8 C ba au aw=>?_);refine aD.ct (bx oT.i λga bb bc e M ay=>?_);rw[ig];refine aD.ct (bl oT.i rfl rfl M (by simp[x1.cells]) λa y bd az aB=>?_);have be:=p.size;have bg:=A.size;have z3:=q.size;have z5:=e.size;have bh:=G.lt;have bi:=I.lt;have bk:=J.lt;have bm:=M.lt;have aC:af a gy zR [.func (.yield l) #[] #[]]:=(((((af.ext G A).ext q).ab C Ω).ext e).ab y Ω);have aE:af a gt ah (ints .i64 (p8 sc.length 0)):=((((I.ext q).ab C Ω).ext e).ab y Ω);have aF:af a gtb an [.slice (σ ⟨gt,0,ν⟩) sc.length sc.length]:=((af.ext au e).ab y Ω);have N:af a ga oT [.func (.func lX) #[] (ke bE gy gtb bj aY ga gs)]:=az;rw[ax (v:=.func (.func lX) #[] (ke bE gy gtb bj aY ga gs)) Ψ (N.cell (o:=0) rfl)];have hm:av .i64 ah a gt (.slice (σ ⟨gt,0,ν⟩) sc.length sc.length) (p8 sc.length 0):=by
  have:=bV.full (n:=sc.length) (k:=1) aE Ξ (by simp only[maxLen];omega);unfold av;rw[List.length_replicate];exact this
 have aG:=(p.trans A).trans q;have O:ai (λr=>w.heap.size<=r/\¬False) w a:=(((aG.ab _).trans (C.mono λr _ h=>⟨by have h:r=gtb:=h;omega,id⟩)).trans (e.ab _)).trans (y.mono λr _ h=>⟨by have h:r=ga:=h;omega,id⟩);have aH:cL w a:=((((ak.trans ap).trans aq).trans aw).trans ay).trans aB;have aJ:gj ae gT R n s gs bE bj aY aL sc ea v B0 (λ_=>False) a:=hf.own O λr aM=>⟨Ω,aM.2⟩;have P:=QE (s:=s) (sc:=sc) (pos:=ea) (v:=v) (tl:=p8 sc.length 0) Ξ;refine(show gF x7 lX (uw 0 bE gy gtb bj aY ga gs) a _ from(QJ (L:=cm s sc ea v) (B:=w.heap.size) (l:=l) (gy:=gy) (gt:=gt) (gtb:=gtb) (ga:=ga) (pos:=ea) Ω Q S aj ⟨Ω,Ω,Ω⟩ E ?_ sc.length 0 (p8 sc.length 0) 0 (λ_=>False) a Ω Ξ (λ_ h=>h.elim) Ω ⟨⟨Ω,id⟩,⟨Ω,id⟩,⟨Ω,id⟩,Ω,id⟩ ⟨aC,aF,N,hm⟩ aJ (E _ _ _ _ O aH.o Z) λi x hi=>?_).free.mono ?_)
 .intro D k tl aK w' aN aO aP aQ aR z;refine hQ.mono (Y D k (k+1) [aK] w' aN aO aP ⟨rfl,tl,aK,aQ,rfl,aR⟩ z) ?_;rintro u bn (⟨h1,aS,aT,aU,aV⟩|⟨h,_⟩)
  .exact⟨h1,aS,aT (.inr rfl),aU,aV rfl⟩
  .cases h
 .rw[P]at hi;rw[X2];exact hi
 .rintro _ bo ⟨_,rfl,_,D',_,_,_,_,_,_,z,_⟩;rw[P,X2]at z;exact .inl ⟨D',_,rfl,z⟩
end
def EX(m gs bE bj aY:Nat)(aL:x1):Prop:=(m<=gs/\m<=bE/\m<=bj/\m<=aY)/\∀r,leads aL r->m<=r
section
variable{ae gT gs bE bj aY B0 m:Nat}{A R:aj}{n:aF}{s s':aq}{t:aC}{aL:x1}{sc:Λ}{pos v:Int}{w w':x3}
theorem bw.lt(h:bw w ae gT A R n s t){r:Nat}(a:A r\/R r):r<w.heap.size:=by
 obtain⟨⟨p,q,x,y,⟨_,_,e,f⟩,_⟩,_⟩:=h;exact a.elim (f r) (e r)
theorem gj.put{D' S:Nat->Prop}(h:gj ae gT R n s gs bE bj aY aL sc pos v B0 D w)(p:ai S w w')(hm:EX m gs bE bj aY aL)(z:∀r,S r->r<m\/B0<=r)(B:Laid w')(C:bw w' ae gT A R n s' t)(E:∀i,bk s' i=bk s i)(F:∀r,A r\/R r->r<B0\/D' r):gj ae gT R n s gs bE bj aY aL sc pos v B0 D' w':=by
 obtain⟨h1,f,q,x,G,_⟩:=h;have no:∀{r:Nat},m<=r->r<B0->¬S r:=λh1 f q=>by have:=z _ q;omega
 exact⟨h1.ab p ⟨no hm.1.1 f.1,no hm.1.2.1 f.2.1,no hm.1.2.2.1 f.2.2.1,no hm.1.2.2.2 f.2.2.2⟩,f,hV q p λr H a n c e y=>no (hm.2 r ⟨a,n,c,e,y⟩) (x r ⟨a,n,c,e,y⟩) H,x,⟨B,Y8 G.2 p.size⟩,A,s',t,C,E,F⟩
theorem EY{f:ca}{x:x3->Prop}(h:bw w ae gT A R n s t)(y:Laid w)(ag:s.funs[j]?=σ f)(B:∀aL gs bE bj aY w',Ext w w'->EX w.heap.size gs bE bj aY aL->gj ae gT R n s gs bE bj aY aL f.sc pos v w'.heap.size (λ_=>False) w'->K (.func (.func lW) #[] #[Γ bE,Γ bj,Γ aY,Γ gs]) w'):
  am x7 qc [Γ ae,Δ (j:Int)] w λaL V=>(Ext w V\/x V)/\am x7 zK [Γ ae,aL,Δ pos,Δ v] V K:=by
 refine(kL h ag).mono ?_;rintro aL V _ ⟨p,g,C,hm⟩;refine⟨.inl p,(QF hm.ls).mono ?_⟩;rintro _ aa _ ⟨q,gs,bE,bj,aY,rfl,a,E,G,H,I⟩;have J:=p.trans q;have L:=p.size;have z:=J.size;refine B aL gs bE bj aY aa J ⟨⟨Ω,Ω,Ω,Ω⟩,λr e=>(bQ hm e).1▸C⟩ ⟨a,⟨a.1.lt,a.2.1.lt,a.2.2.1.lt,a.2.2.2.lt⟩,hm.ls.ext q,λr e=>?_,⟨y.ext J,o4 _⟩,A,s,t,h.ext J,λ_=>rfl,λr e=>.inl ?_⟩
 .have:=bQ hm e;have:=q.size;omega
 .have:=h.lt e;omega
end
section
variable{k:Int}{sizes:Λ}{s:aq}{f:ca}{j pos:Nat}{v:Int}{tl:Λ}
theorem EZ{m:Nat}(ag:s.funs[j]?=σ f)(a:f.live≠0)(hm:cH f.ak tl 0=σ (m:Int)):(h4 s j tl).isSome=true/\m7 s j tl=bt f.ak f.cs tl:=by
 unfold h4 m7;rw[ag];simp[a,hm]
end
section
variable{w:x3}{ae gT:Nat}{A R:aj}{n:aF}{s:aq}{t:aC}
theorem QK{pos:Nat}{f:ca}(h:bw w ae gT A R n s t)(aj:Laid w)(ag:s.funs[j]?=σ f)(az:f.live≠0)(ad:∀u,f.sc[pos]?=σ u->v∈bk s u):
  am x7 HG [Γ ae,Δ (j:Int),Δ (pos:Int),Δ v] w λr w'=>r=Δ (mm n.k s f pos v)/\Ext w w':=by
 have al:=h.2.2.2.1;have an:=x5 ag;obtain⟨N,aT,_⟩:=al.funs f an;refine hr func141 ?_;refine bf λg1 V aU O y=>?_;refine bf λP aa aV K L=>?_;have y:af aa g1 db [Γ ae]:=af.ext y K;have L:af aa P ah [Δ (j:Int)]:=L;rw[ax (v:=Γ ae) Ψ (y.cell (o:=0) rfl)];refine(j7 (h.ext (O.trans K))).mono ?_;rintro _ aW _ ⟨rfl,Q⟩;refine bx au.i λz aX a1 S ao=>?_;have a2:=O.size;have a6:=K.size;have z3:=Q.size;have z4:=S.size;have a7:=y.lt;have a8:=L.lt;have ba:=ao.lt;refine bl au.i rfl rfl ao (by simp[x1.cells]) λaA U bb W=>?_;have W:af aA z au [Δ n.k]:=W;intro X B _ _;have bc:=B.size;have ap:=Q.trans S;have Y:Ext w X:=((((O.trans K).trans Q).trans S).then U (by rintro r p rfl;omega)).trans B;have Z:af X g1 db [Γ ae]:=((y.ext ap).ab U Ω).ext B;have aq:af X P ah [Δ (j:Int)]:=((L.ext ap).ab U Ω).ext B;have av:=W.ext B;have bd:=av.lt;rw[ax (v:=Γ ae) Ψ (Z.cell (o:=0) rfl),ax (v:=Γ ae) Ψ (Z.cell (o:=0) rfl),ax (v:=Δ (j:Int)) Ψ (aq.cell (o:=0) rfl)];refine EY (h.ext Y) (aj.ext Y) ag λaL gs bE bj aY aB C aC aE=>?_;have be:=C.size;refine⟨Nat,true,false,lW,#[Γ bE,Γ bj,Γ aY,Γ gs],0,_,_,_,λD k w'=>Ext w w'/\af w' g1 db [Γ ae]/\af w' P ah [Δ (j:Int)]/\af w' z au [Δ ((((cm s f.sc pos v).take k).map (bt f.ak f.cs)).foldl min n.k)],
  λ_ _ _ _=>False,rfl,EW (λu hu=>⟨(N.scope.1 u hu).1,N.vars u hu⟩) N.scope.2,?_,λ_ _ _ J h=>h.ext J,?_,λ_ _ _ _ _ _ _ h=>h,aE,?_,?_,?_,λ_ _ _ h=>h.elim,λ_ _ _ _ h=>h.elim⟩
 .rintro _ _ _ _ ⟨_,_,_,_,rfl,_⟩;rfl
 .rintro D k aF aG M bg ⟨q,E,G,x⟩;have aZ:∀{g:Nat}{e:p9}{cs:List x1},g<aB.heap.size->af aF g e cs->af aG g e cs:=λbh aH=>aH.ab M λh=>by have:=h.2.1;omega
  exact⟨q.then M λr p h=>by have:=h.2.1;omega,aZ Ω E,aZ Ω G,aZ Ω x⟩
 .exact⟨Y.trans C,Z.ext C,aq.ext C,av.ext C⟩
 .rintro aK D k bi bo bp bq aI ⟨rfl,tl,br,aw,e,aJ⟩ ⟨q,E,G,x⟩;cases e;intro bu H _ aM;obtain⟨m,hm⟩:=uo al an ad (x5 aw);obtain⟨aN,M⟩:=EZ ag az hm;rw[ax (v:=Γ ae) Ψ ((E.ext H).cell (o:=0) rfl),ax (v:=Δ (j:Int)) Ψ ((G.ext H).cell (o:=0) rfl)];refine(xm (j:=j) (h.ext (q.trans H)) (aJ.ext H)).mono ?_;rintro _ bz aO ⟨rfl,aP⟩;have a:=H.trans aP;rw[if_pos aN,M,bm,bn,ax (v:=Δ ((((cm s f.sc pos v).take k).map (bt f.ak f.cs)).foldl min n.k)) Ψ ((x.ext a).cell (o:=0) rfl),l1];refine aD.ct (bl au.i rfl rfl (x.ext a) Ξ λay I bA ac aQ=>?_);have bB:=a.size;have ai:Ext w ay:=(q.trans a).then I (by rintro r p rfl;omega);have aR:=h.ext ai;refine⟨⟨D,λr h=>.inl h,λ_ h=>h,(aI.ext a).put I aC (λr p=>.inl (by have p:r=z:=p;omega)) (aj.ext ai) aR (λ_=>rfl) λr p=>.inl (by have:=h.lt p;omega),ai,(E.ext a).ab I Ω,(G.ext a).ab I Ω,?_⟩,aM.trans (aO.ki.trans aQ.ki),(a.ab _).trans (I.mono λr _ h=>.inl (by have h:r=z:=h;omega))⟩;have ac:af ay z au [Δ (min ((((cm s f.sc pos v).take k).map (bt f.ak f.cs)).foldl min n.k) (bt f.ak f.cs tl))]:=ac;rw[u9,aw,j5,Z4,List.foldl_append];exact ac
 .rintro D k bC rfl ⟨q,E,G,x⟩;rw[ax (v:=Δ ((((cm s f.sc pos v).take (cm s f.sc pos v).length).map (bt f.ak f.cs)).foldl min n.k)) Ψ (x.cell (o:=0) rfl)];intro bD aS _;refine⟨?_,q.trans aS⟩;rw[b6 (o4 _)];rfl
end
def rF(t:aC):Prop:=∀m,t.marks.getLast? =σ m->m.olds+t.cells.length<100000000/\t.olds.length<=m.olds+t.cells.countP λc=>decide (c.st=m.st)
def fx(aB:List aC)(t:aC):Prop:=hx t aB/\rF t
theorem hx.m{t:aC}(h:hx t []):fx [] t:=⟨h,λm hm=>by rw[h.1]at hm;cases hm⟩
theorem fx.room{aB:List aC}{t:aC}(h:fx aB t):Room t:=by
 cases hm:t.marks.getLast? with
 |none=>exact .inl (List.getLast?_eq_none_iff.1 hm)
 |some m=>
  obtain⟨h1,a⟩:=h.2 m hm;have:=List.countP_le_length (p:=λc:Cell=>decide (c.st=m.st)) (l:=t.cells);exact .inr Ω
theorem rF.set{t:aC}{i:Nat}{x:Int}(h:rF t):rF (t.set i x):=by
 unfold aC.set;cases e:t.cells[i]? with
 |none=>exact h
 |some c=>
  obtain⟨f,q⟩:=x4.1 e;cases hm:t.marks.getLast? with
  |none=>
   intro m a;have a:t.marks.getLast? =σ m:=a;rw[hm]at a;cases a
  |some m=>
   obtain⟨h1,r⟩:=h m hm;simp only;split
   .rename_i s;intro cd a;have a:t.marks.getLast? =σ cd:=a;rw[hm]at a;cases a;show m.olds+(t.cells.set i _).length<_/\(t.olds++[_]).length<=m.olds+(t.cells.set i _).countP _;rw[c9,List.countP_set f,q,r9,T1,if_neg (by rw[decide_eq_true_eq];omega),if_pos Ξ];exact⟨h1,Ω⟩
   .intro cd a;have a:t.marks.getLast? =σ cd:=a;rw[hm]at a;cases a;show m.olds+(t.cells.set i _).length<_/\t.olds.length<=m.olds+(t.cells.set i _).countP _;rw[c9,List.countP_set f,q];refine⟨h1,?_⟩;by_cases U:c.st=m.st
    .have:=List.countP_pos_iff (p:=λc:Cell=>decide (c.st=m.st)).2 ⟨c,x5 e,decide_eq_true U⟩;rw[if_pos (decide_eq_true U)];omega
    .rw[if_neg (by rw[decide_eq_true_eq];exact U)];omega
theorem fx.set{aB:List aC}{t:aC}{i:Nat}{x:Int}(h:fx aB t):fx aB (t.set i x):=⟨h.1.set,h.2.set⟩
def eA(aB:List aC)(w:x3)(ae gT:Nat)(A R:aj)(n:aF)(s':aq)(w':x3):Prop:=ai (en w) w w'/\Laid w'/\∃aP bq,Grow A w aP w'/\bw w' ae gT aP R n s' bq/\fx aB bq/\¬aP 0
def fy(aB:List aC)(w:x3)(ae gT:Nat)(A R:aj)(n:aF)(m:Nat)(D:Nat->Prop)(s':aq)(w':x3):Prop:=
 ai (λr=>en w r\/w.heap.size<=r) w w'/\(Laid w'/\w.heap.size<=m/\0<w.heap.size/\(∀r,A r\/R r->r<w.heap.size))/\∃aP bq,Grow A w aP w'/\bw w' ae gT aP R n s' bq/\(fx aB bq/\¬aP 0)/\∀r,aP r->r<m\/D r
section
variable{aB:List aC}{w V aa:x3}{ae gT m:Nat}{A R:aj}{n:aF}{s s' oA:aq}{t:aC}{D D' S:Nat->Prop}
theorem fy.start(h:bw w ae gT A R n s t)(e:Laid w)(f:¬A 0)(p:fx aB t)(J:Ext w V)(hm:w.heap.size<=m):fy aB w ae gT A R n m D s V:=
 ⟨J.ab _,⟨e.ext J,hm,by
  obtain⟨x,y,z,B,⟨h1,_,_,q⟩,_⟩:=h.1;have:=q _ h1;omega,λr a=>h.lt a⟩,A,t,Grow.ext J,h.ext J,⟨p,f⟩,λr a=>.inl (by have:=h.lt (.inl a);omega)⟩
theorem fy.own(h:fy aB w ae gT A R n m D s' V)(e:ai S V aa)(f:∀r,S r->m<=r/\¬D r):fy aB w ae gT A R n m D s' aa:=by
 obtain⟨h1,⟨x,y,z,p⟩,aP,bq,⟨g1,B,C⟩,q,E,s⟩:=h;refine⟨h1.trans (e.mono λr _ h=>.inr (by have:=(f r h).1;omega)),⟨jh e (λh=>by have:=(f _ h).1;omega) x,y,z,p⟩,aP,bq,⟨?_,B,C⟩,⟨q.1.ab e λr _ a U=>?_,q.2⟩,E,s⟩
 .exact ((g1.mono λr _ h=>.inl h).trans (e.mono λr _ h=>.inr (f r h).1):ai (λr=>A r\/m<=r) w aa).mono λr a h=>h.elim id λh=>Ω
 .obtain⟨G,F⟩:=f r U;rcases a with a|a
  .exact (s r a).elim Ω F
  .have:=p r (.inr a);omega
theorem fy.ext(h:fy aB w ae gT A R n m D s' V)(J:Ext V aa):fy aB w ae gT A R n m D s' aa:=h.own (J.ab λ_=>False) λ_ h=>h.elim
theorem fy.QL(h:fy aB w ae gT A R n m D s' V):∃aP bq,bw V ae gT aP R n s' bq/\fx aB bq/\¬aP 0/\∀{aa:x3}{oA:aq}{D' a:Nat->Prop}{p:aC},ai (en V) V aa->Grow aP V a aa->bw aa ae gT a R n oA p->fx aB p->(∀r,D r->D' r)->(∀r,V.heap.size<=r->r<aa.heap.size->D' r)->
  fy aB w ae gT A R n m D' oA aa/\ai (λr=>r<m\/D r) V aa/\∀r,a r->r<m\/D' r:=by
 obtain⟨h1,⟨z,B,C,E⟩,aP,bq,F,G,q,s⟩:=h;refine⟨aP,bq,G,q.1,q.2,λ{aa oA D' a p}H e x I J K=>?_⟩;have O:=h1.size;have L:¬a 0:=λh=>(e.2.1 0 h).elim q.2 λh=>Ω
 have y:∀r,a r->r<m\/D' r:=λr f=>(e.2.1 r f).elim (λh=>(s r h).imp id (J r)) λh=>.inr (K r h (x.lt (.inl f)));refine⟨⟨h1.trans (H.mono λr _ h=>?_),⟨jh e.1 q.2 z,B,C,E⟩,a,p,F.trans e,x,⟨I,L⟩,y⟩,e.1.mono λr _ h=>s r h,y⟩;by_cases f:w.heap.size<=r
 .exact .inr f
 .exact .inl (mX (λo M U N=>h1.aZ r o M U λh=>h.elim N f) h)
theorem fy.open(h:fy aB w ae gT A R n m D s' V):∃aP bq,bw V ae gT aP R n s' bq/\fx aB bq/\∀{aa:x3}{oA:aq}{D' e:Nat->Prop}{f:aC},ai (en V) V aa->Grow aP V e aa->bw aa ae gT e R n oA f->fx aB f->(∀r,D r->D' r)->(∀r,V.heap.size<=r->r<aa.heap.size->D' r)->
  fy aB w ae gT A R n m D' oA aa/\ai (λr=>r<m\/D r) V aa/\∀r,e r->r<m\/D' r:=by
 obtain⟨aP,bq,a,b,_,d⟩:=h.QL;exact⟨aP,bq,a,b,d⟩
theorem fy.done(h:fy aB w ae gT A R n m D s' V)(J:Ext V aa):eA aB w ae gT A R n s' aa:=by
 obtain⟨h1,⟨e,q,s,x⟩,aP,bq,f,p,a,y⟩:=h.ext J;exact⟨h1.mono λr z h=>h.elim id λh=>Ω,e,aP,bq,f,p,a.1,a.2⟩
end
section
variable{aB:List aC}{w:x3}{ae gT:Nat}{A R:aj}{n:aF}{s:aq}{t:aC}
theorem oB{u:Nat}{x:bG}(a:br n.k n.sizes s)(J:s.vars[u]?=σ x)(ad:v∈aG x):ft n (u:Int) v:=by
 have h:=(x4.1 J).1;have p:=a.vars;obtain⟨z,e⟩:=aJ (l:=n.sizes) (i:=u) Ω;have q:=(a.var _ x z J e).1;have r:=a.fq.2.2 z (x5 e);have f:=(h8.1 ad).1;refine⟨Ω,Ω,f.1,?_⟩;rw[u7,u4,e,V2];omega
theorem E0{f:ca}{g:Int->Int}(a:br k sizes s)(ag:s.funs[j]?=σ f):dM s j f (dD g [] f.ak f.cs)=s:=by
 obtain⟨p,q⟩:=lC a (x5 ag);rw[Qf p Ω (λ_ h=>absurd h List.not_mem_nil)];have:s.funs.set j f=s.funs:=by
  apply Y3;intro i;by_cases e:j=i
  .subst e;rw[b8 (x4.1 ag).1,ag]
  .rw[Y2 e]
 unfold dM;show{s with funs:=s.funs.set j f}=s;rw[this]
theorem E1{pos u:Nat}{f:ca}{x:bG}{F1 F2:R5}{tup un:Int->Int}(h:bw w ae gT A R n s t)(aO:Laid w)(bi:¬A 0)(bl:fx aB t)(ag:s.funs[j]?=σ f)(bo:f.live≠0)(hu:f.sc[pos]?=σ (u:Int))(J:s.vars[u]?=σ x)(ad:v∈aG x)(h1:∀tl∈cm s f.sc pos v,(0<=tup (bt f.ak f.cs tl)/\tup (bt f.ak f.cs tl)<=n.k)/\∀{w:x3}{A:aj}{s:aq}{t:aC},bw w ae gT A R n s t->am x7 F1 [Γ ae,Δ (bt f.ak f.cs tl),Δ c] w λr w'=>r=Δ (tup (bt f.ak f.cs tl))/\Ext w w')(aQ:(0<=un (x.un.getD v.toNat 0)/\un (x.un.getD v.toNat 0)<=n.k)/\∀{w:x3}{A:aj}{s:aq}{t:aC},bw w ae gT A R n s t->am x7 F2 [Γ ae,Δ (x.un.getD v.toNat 0),Δ c] w λr w'=>r=Δ (un (x.un.getD v.toNat 0))/\Ext w w'):
  am x7 HH [.agg #[.func (.func F1) #[] #[],.func (.func F2) #[] #[]],Γ ae,Δ (j:Int),Δ (pos:Int),Δ v,Δ c] w λ_ w'=>eA aB w ae gT A R n (i7 s j f pos u x v tup un) w':=by
 have C:=h.2.2.2.1;have Z:=x5 ag;obtain⟨ac,b4,_⟩:=C.funs f Z;have aR:∀u',f.sc[pos]?=σ u'->v∈bk s u':=λu' aS=>by
  rw[hu]at aS;cases aS;unfold bk;rw[u7,J];exact ad
 have bp:=EO C Z aR;refine hr func144 ?_;refine bf λbq V b5 aU N=>?_;refine bf λg1 aa b7 al a=>?_;refine bf λbr b9 cb W z=>?_;refine bf λbu y cc X O=>?_;have N:af y bq qg [.func (.func F1) #[] #[],.func (.func F2) #[] #[]]:=((af.ext N al).ext W).ext X;have a:af y g1 db [Γ ae]:=(af.ext a W).ext X;have z:af y br ah [Δ (j:Int)]:=af.ext z X;have O:af y bu au [Δ c]:=O;have ao:=((aU.trans al).trans W).trans X;have cd:=aU.size;have ce:=al.size;have z3:=W.size;have cg:=ao.size;have aV:=N.lt;have E:=a.lt;have aW:=z.lt;have aX:=O.lt;rw[ax (v:=Γ ae) Ψ (a.cell (o:=0) rfl),ax (v:=Δ (j:Int)) Ψ (z.cell (o:=0) rfl)];refine(kL (h.ext ao) ag).mono ?_;rintro ch ci _ ⟨bx,_,_,bz⟩;rw[bg an.u ah.i Ψ bz.ls hu];intro cj bA _ _;have G:=bx.trans bA;have ap:=ao.trans G;have z46:=G.size;rw[ax (v:=Γ ae) Ψ ((a.ext G).cell (o:=0) rfl),ax (v:=Γ ae) Ψ ((a.ext G).cell (o:=0) rfl),ax (v:=Δ (j:Int)) Ψ ((z.ext G).cell (o:=0) rfl)];refine EY (h.ext ap) (aO.ext ap) ag λaL gs bE bj aY a1 av bB bC=>?_;have ck:=av.size;have bD:=G.trans av;refine⟨Nat,true,false,lW,#[Γ bE,Γ bj,Γ aY,Γ gs],0,_,_,_,
  λD k w'=>fy aB w ae gT A R n w.heap.size D (dM s j f (dD tup ((cm s f.sc pos v).take k) f.ak f.cs)) w'/\(ai (λr=>r<w.heap.size\/a1.heap.size<=r) y w'/\a1.heap.size<=w'.heap.size),
  λ_ _ _ _=>False,rfl,EW (λu hu=>⟨(ac.scope.1 u hu).1,ac.vars u hu⟩) ac.scope.2,?_,λ_ _ _ J h=>h.ext J,?_,λ_ _ _ _ _ _ _ h=>h,bC,?_,?_,?_,λ_ _ _ h=>h.elim,λ_ _ _ _ h=>h.elim⟩
 .rintro _ _ _ _ ⟨_,_,_,_,rfl,_⟩;rfl
 .rintro D k cl cn P cp ⟨H,I,aw⟩;exact⟨H.own P λr q=>⟨Ω,q.2.2⟩,I.trans (P.mono λr _ h=>.inr h.2.1),Y8 aw P.size⟩
 .refine⟨?_,bD.ab _,o4 _⟩;have e:dM s j f (dD tup ((cm s f.sc pos v).take 0) f.ak f.cs)=s:=E0 C ag;rw[e];exact fy.start h aO bi bl (ap.trans av) (o4 _)
 .rintro aK D k cq ay a2 cr bF ⟨rfl,tl,ct,az,e,a6⟩ ⟨H,I,aw⟩;cases e;intro cu Q _ bH;obtain⟨m,hm⟩:=uo C Z aR (x5 az);obtain⟨bI,bJ⟩:=EP (g:=tup) C ag bp az hm;obtain⟨⟨bK,bL⟩,bM⟩:=h1 tl (x5 az);have aZ:∀{S:x3}{g:Nat}{e:p9}{cs:List x1},Ext ay S->w.heap.size<=g->g<y.heap.size->af y g e cs->af S g e cs:=λJ K aA aD=>(aD.ab I Ω).ext J;have bN:=(x4.1 ag).1;have a7:(dM s j f (dD tup ((cm s f.sc pos v).take k) f.ak f.cs)).funs[j]?=σ {f with cs:=dD tup ((cm s f.sc pos v).take k) f.ak f.cs}:=b8 bN;obtain⟨K,P⟩:=EZ (tl:=tl) a7 bo hm;obtain⟨A9,t9,aE,a8,aF⟩:=H.open;rw[ax (v:=Γ ae) Ψ ((aZ Q Ω E a).cell (o:=0) rfl),ax (v:=Δ (j:Int)) Ψ ((aZ Q Ω aW z).cell (o:=0) rfl)];refine(xm (j:=j) (aE.ext Q) (a6.ext Q)).mono ?_;rintro _ cw bO ⟨rfl,bP⟩;rw[if_pos K,P,bm,bn];intro bQ bR _ bS;have B:=(Q.trans bP).trans bR;rw[ax (v:=Γ ae) Ψ ((aZ B Ω E a).cell (o:=0) rfl),ax (v:=Δ (j:Int)) Ψ ((aZ B Ω aW z).cell (o:=0) rfl),
   aT qg.p 0 (aZ B Ω aV N) rfl,ax (v:=Γ ae) Ψ ((aZ B Ω E a).cell (o:=0) rfl),ax (v:=Δ c) Ψ ((aZ B Ω aX O).cell (o:=0) rfl)]
  show am x7 F1 [Γ ae,Δ (bt f.ak (dD tup ((cm s f.sc pos v).take k) f.ak f.cs) tl),Δ c] bQ _;rw[bI];refine(bM (aE.ext B)).mono ?_;rintro _ cz bT ⟨rfl,ba⟩;have U:=B.trans ba;refine⟨.inl ba,(Pf (j:=j) (aE.ext U) a8.room (a6.ext U)).mono ?_⟩;rintro r bb bU ⟨_,_,aH⟩;obtain⟨_,Y,aP,bV,bW,aI,L⟩:=aH K ⟨bK,bL⟩ _ m a7 hm;rw[bJ]at L;have cA:=U.size;have cB:=Y.size;obtain⟨bc,aJ,bX⟩:=aF (D':=λr=>D r\/ay.heap.size<=r/\r<bb.heap.size) (j1 U Y) ((Grow.ext U).trans aI) L a8.set (λr h=>.inl h) λr K aA=>.inr ⟨K,aA⟩;refine⟨⟨λr=>D r\/ay.heap.size<=r/\r<bb.heap.size,λr h=>h,λr h=>.inl h,?_,bc,I.trans (aJ.mono λr _ h=>h.imp id λh=>(a2 r h).1),Ω⟩,bH.trans ((((bO.trans bS).trans bT).trans bU).ki),aJ.mono λr _ h=>h.imp (λh=>Ω) id⟩;refine bF.put aJ bB (λr q=>?_) bc.2.1.1 L (λ_=>rfl) λr q=>?_
  .rcases q with q|q
   .exact .inl Ω
   .exact .inr (a2 r q).1
  .rcases q with q|q
   .exact (bX r q).imp (λh=>Ω) id
   .exact .inl (by have:=h.lt (.inr q);omega)
 .rintro D k bY rfl ⟨H,I,aw⟩;rw[b6 (o4 _)]at H;have bd:=oB C J ad;obtain⟨cC,cD,aM,be,aF⟩:=H.open;have aZ:∀{S:x3}{g:Nat}{e:p9}{cs:List x1},Ext bY S->w.heap.size<=g->g<y.heap.size->af y g e cs->af S g e cs:=λJ K aA aD=>(aD.ab I Ω).ext J;rw[ax (v:=Γ ae) Ψ ((aZ (Ext.refl _) Ω E a).cell (o:=0) rfl)];refine(pH (i:=(u:Int)) (v:=v) aM).mono ?_;rintro _ cE _ ⟨rfl,bZ⟩;have b0:ix (dM s j f (dD tup (cm s f.sc pos v) f.ak f.cs)) (u:Int).toNat v.toNat=x.un.getD v.toNat 0:=by
   unfold ix;rw[u7,show(dM s j f (dD tup (cm s f.sc pos v) f.ak f.cs)).vars[u]?=σ x from J]
  rw[if_pos bd,b0,bm,bn];intro b1 b2 _ _;have M:=bZ.trans b2;rw[ax (v:=Γ ae) Ψ ((aZ M Ω E a).cell (o:=0) rfl),aT qg.p 1 (aZ M Ω aV N) rfl,ax (v:=Γ ae) Ψ ((aZ M Ω E a).cell (o:=0) rfl),ax (v:=Δ c) Ψ ((aZ M Ω aX O).cell (o:=0) rfl)];show am x7 F2 [Γ ae,Δ (x.un.getD v.toNat 0),Δ c] b1 _;refine(aQ.2 (aM.ext M)).mono ?_;rintro _ cF _ ⟨rfl,bh⟩;have aN:=M.trans bh;refine⟨.inl bh,(D3 (i:=(u:Int)) (v:=v) (aM.ext aN) be.room).mono ?_⟩;rintro r cG _ ⟨_,_,aH⟩;obtain⟨_,Y,aP,bV,bW,aI,L⟩:=aH bd aQ.1;have e:kJ (dM s j f (dD tup (cm s f.sc pos v) f.ak f.cs)) (u:Int).toNat v.toNat (un (x.un.getD v.toNat 0))=i7 s j f pos u x v tup un:=by
   unfold kJ i7 ez;rw[u7,show(dM s j f (dD tup (cm s f.sc pos v) f.ak f.cs)).vars[u]?=σ x from J]
  rw[e]at L;intro cH b3 _;exact(aF (D':=λ_=>True) (j1 aN Y) ((Grow.ext aN).trans aI) L be.set (λ_ _=>trivial) λ_ _ _=>trivial).1.done b3
end
end Go.Proofs.YtikkpokkcdocoabGreatDoor
