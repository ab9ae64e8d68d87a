/- own texts, made small by a tool (wip/ holds them as they were written): no statement of the seat. -/
import Derived.Test.YtikkpokkcdocoabGreatDoorWd
set_option linter.defProp false
set_option linter.unusedVariables false
set_option linter.unusedSimpArgs false
set_option linter.unnecessarySimpa false
open Array renaming getElem?_eq_some_iff→j4
open Bool renaming not_true→Y7,not_false→W3,and_eq_true→V5,eq_iff_iff→U1,true_and→U8
open Decidable renaming not_not→Z9
open Go renaming Value→x1,World→x3,TypeId→p9,IntKind→o7,Program→W8
open Go.Addr renaming add_mid→U9
open Go.Builtin renaming append_→Z0
open Go.Instr renaming loadAt→u5,fieldAt→u6,storeAt→o8,indexAt→j9,buildSlice→Y5
open Go.Proofs.Tryz renaming prog→x7
open Int renaming toNat_natCast→u7,eq_ofNat_of_zero_le→X7
open List renaming getElem?_eq_some_iff→x4,mem_of_getElem?→x5,getElem?_eq_getElem→x6,getElem?_map→x8,getD_eq_getElem?_getD→u4,take_add_one→u9,length_map→r8,length_append→r9,replicate→p8,mem_append→o5,take_length→o6,mem_singleton→o9,length_take→l9,mem_map→j5,eq_nil_of_length_eq_zero→j6,getElem?_set_self→c8,length_set→c9,length_cons→b6,take_of_length_le→b8,getElem?_eq_none→Z2,map_append→Z4,getElem?_take_of_lt→Z7,range→Y1,getElem?_set_ne→Y2,ext_getElem?→Y4,getElem?_append_left→Y6,getElem?_append_right→Y8,getElem?_set→X0,mem_iff_getElem?→X3,drop_eq_getElem_cons→X4,flatMap_cons→X8,mem_or_eq_of_mem_set→W0,append_nil→W6,length_eq_one_iff→W9,append_assoc→V1,mem_cons→V2,pairwise_iff_getElem→V8,map_set→U5,map_cons→U7,mem_filter→T4,foldl_cons→T5,mem_range→T8,map_map→S1,getElem_mem→S3,length→S5,foldl_append→S6,mem_flatMap→R2,length_filter_le→R5
open Nat renaming le_refl→o4,le_trans→Y9,zero_add→X2,mul_le_mul_right→X9,mul_one→U2,add_mul→U3,sub_self→U4,add_assoc→R4,add_sub_cancel_left→R6,lt_of_lt_of_le→Q2
open Option renaming toList_some→n9,some→c7,isNone_some→Z5,map_some→Z6,map_eq_some_iff→X1,getD_some→V4,map→V7,isSome_some→T6,isSome_none→R3
open Option.some renaming inj→b9
set_option maxHeartbeats 16000000
open Option renaming some→σ,none→ν
variable{a c k pos v:Int}{B af ey g1 ga gt gtb gy j:Nat}{aj cs l sc sizes t tl:Λ}{K:x1->x3->Prop}{aK sv:x1}{V aa w w':x3}{P e:p9}{L:List (Λ)}{D:Nat->Prop}
namespace Go.Proofs.YtikkpokkcdocoabGreatDoor
open Go Go.Vc Go.RowKit Go.Proofs Go.Proofs.Tryz
set_option maxRecDepth 100000
def fk(of:Int->Int)(p:Int×Int)(v:Int):Int×Int:=if p.2= -1\/of v<p.1 then(of v,v)else p
def b0(k:Int)(l:Λ)(of:Int->Int):Int×Int:=l.foldl (fk of) (k,-1)
def mz{s:ap}{n:aG}{i:Int}{b m:Nat}{x:bC}(h:uq s n i b m)(e:0<=i)(J:s.vars[i.toNat]?=σ x):(fU b m).map (λv:Nat=>(v:Int))=aC x:=by
 have⟨_,_,f⟩:=h;obtain⟨rfl,p⟩:=f x e J;unfold fU aC;rw[List.filter_map];congr 1;refine List.filter_congr λq a=>?_;have a:=T8.1 a;rw[p,decide_eq_true a,U8];rfl
section
variable{w:x3}{af gT:Nat}{A R:ak}{n:aG}{s:ap}{t:aD}
def Eu{b:Int}(h:bx w af gT A R n s t)(f:0<=a/\a<=n.k)(p:0<=b/\b<=n.k):am x7 IA [Γ af,Δ a,Δ b] w λv w'=>v=Δ (min (a+b) n.k)/\Ext w w':=by
 apply az func158;apply(ki h).mono;rintro _ V _ ⟨rfl,q⟩;apply(wz (a:=a) (b:=b) (k:=n.k)).mono;rintro _ aa _ ⟨rfl,r⟩;have hk:=h.2.2.2.1.eg;have e:om a b n.k= .tuple #[Δ (min (a+b) n.k),Δ 0]:=by
  unfold om;rw[if_pos (show cu a n.k/\cu b n.k from⟨⟨hk,f⟩,⟨hk,p⟩⟩)]
 rw[e,bo,bp];exact⟨T,q.trans r⟩
def hz(n:aG)(s:ap)(i:Int):Bool:=decide (0<=i/\i<n.sizes.length)&& !hy s i.toNat
def Ev{i:Int}(h:bx w af gT A R n s t):am x7 Is [Γ af,Δ i] w λv w'=>v=Δ (if hz n s i=true then 0 else 1)/\Ext w w':=by
 apply az func149;rw[di dd.u];simp only[Z5,a8];refine aV (λv V=>v= .bool (!hz n s i)/\Ext w V) ?_ ?_
 .rintro _ V ⟨rfl,a⟩;rw[ca];refine⟨λp=>⟨by rw[if_neg (by simpa using p)],a⟩,λp=>⟨by rw[if_pos (by simpa using p)],a⟩⟩
 intro aA q;apply(xE h).mono;rintro _ V _ ⟨rfl,a⟩;rw[ca];refine⟨λe=>q _ _ ⟨?_,a⟩,λe=>?_⟩
 .rw[V5]at e;unfold hz;rw[e.2,Y7,Bool.and_false];rfl
 apply(jK (i:=i) (h.ext a)).mono;rintro _ aa _ ⟨⟨b,m,rfl,H,B,C⟩,E⟩;apply(wm (b:=b) (n:=m)).mono;rintro _ I _ ⟨rfl,G⟩;rw[be];refine q _ _ ⟨?_,(a.trans E).trans G⟩;congr 1;have:=h.2.2.2.1.vars;unfold hz;by_cases f:0<=i/\i<n.sizes.length
 .obtain⟨x,r⟩:=aH (l:=s.vars) (i:=i.toNat) Ω;have⟨z,y⟩:=aH (l:=n.sizes) (i:=i.toNat) Ω;have:=(h.2.2.2.1.var i.toNat x z r y).1;have:=h.2.2.2.1.fz.2.2 z (x5 y);have:=(C x f.1 r).1;rw[decide_eq_true f.1,U8]at e;rw[decide_eq_true f,e,decide_eq_false Ω];rfl
 .rw[decide_eq_false f,(B f).2];rfl
def p4(w:x3)(ey:Nat)(cap:Array x1)(l:Λ)(of:Int->Int):Prop:=∀(w':x3)(v:Int),Ext w w'->v∈l->am x7 ey (Δ v::cap.toList) w' λr a=>r=Δ (of v)/\Ext w' a
def xN{i:Int}{x:bC}{of:Int->Int}{cap:Array x1}(h:bx w af gT A R n s t)(L:Laid w)(aL:0<=i)(J:s.vars[i.toNat]?=σ x)(aM:p4 w ey cap (aC x) of):
  am x7 It [Γ af,Δ i,.func (.func ey) #[] cap] w λr w'=>Ext w w'/\r= .tuple #[Δ (b0 n.k (aC x) of).1,Δ (b0 n.k (aC x) of).2]:=by
 apply hG func150;refine bd λan V bc M C=>?_;have C:ag V an pk [.func (.func ey) #[] cap]:=C;apply(ki (h.ext M)).mono;rintro _ aa _ ⟨rfl,E⟩;refine bu aq.i λN bf bg ao ap=>?_;refine bu ah.i λga bh bi O au=>?_;have:=(M.trans E).size;have:=ao.size;have:=O.size;refine bq (v:=Δ n.k) aq.i T rfl (ap.ext O) Φ λbk av bl aN=>?_;have:=ap.lt;have:=au.lt;refine bq (v:=Δ (-1)) ah.i T rfl (au.ab av Ω) Φ λaO aw bo aQ=>?_;have aR:=aN.ab aw Ω;have ay:Ext aa aO:=((ao.trans O).then av λr a he=>by have he:r=N:=he;omega).put aw Ω;have az:=(M.trans E).trans ay;apply(jK (i:=i) (h.ext az)).mono;rintro _ bp _ ⟨⟨b,m,rfl,P⟩,aB⟩;apply(ne (b:=b) (n:=m)).mono;rintro _ Q _ ⟨aS,a1,rfl,br,U⟩;have:=P.1;have aD:=mz P aL J;have z:=aB.trans aS;have q:=az.trans z;have:=q.size;have:=z.size;have:=C.lt;have:=aB.size;have:=E.size;obtain⟨S,G⟩:∃S:ak,S=λr=>r=N\/r=ga:=⟨_,T⟩;have H:∀r,S r->w.heap.size<=r:=λr a=>by rw[G]at a;rcases a with rfl|rfl<;>omega
 have W:∀r,S r->r≠an/\r≠a1:=λr a=>by rw[G]at a;rcases a with rfl|rfl<;>omega
 let st:Nat->Int×Int:=λj=>((aC x).take j).foldl (fk of) (n.k,-1);have aT:=C.ext (E.trans (ay.trans z));refine jW.old ⟨_,false,iT,#[Γ a1],_,_,_,_,λj w'=>ai S Q w'/\ag w' N aq [Δ (st j).1]/\ag w' ga ah [Δ (st j).2],λ_ _ _=>False,T,(nc (g:=a1) P.1).s,?_,
  λ_ _ J h=>⟨h.1.ext J,h.2.ext J⟩,λ_ _ _ J h=>⟨h.1.trans (J.ab S),h.2.1.ext J,h.2.2.ext J⟩,λ_ _ _ _ _ h=>h,⟨U,L.ext q⟩,⟨ai.refl _ _,aR.ext z,aQ.ext z⟩,?_,?_,λ_ _ h=>h.elim,λ_ _ _ h=>h.elim⟩
 .rintro _ _ _ _ ⟨_,_,_,_,rfl⟩;rfl
 .rintro _ j _ aU ⟨_,_⟩ ⟨bD,rfl,v,ad,aW⟩ ⟨y,I,K⟩;cases aW;intro X f _ _;have aE:(aC x)[j]?=σ (v:Int):=by rw[<-aD,x8,ad];rfl
  have aF:st (j+1)=fk of (st j) v:=by
   show((aC x).take (j+1)).foldl _ _=_;rw[u9,aE,S6];rfl
  have aX:Ext w X:=((q.then y λr a h=>by have:=H r h;omega)).trans f;have aY:=(aT.ab y λh=>(W _ h).1 T).ext f;rw[ax (v:=.func (.func ey) #[] cap) Ψ (aY.Qz T)];apply am.mono (aM X v aX (x5 aE));rintro _ aG _ ⟨rfl,Y⟩;have Z:=f.trans Y;have ac:=I.ext Z;have ae:=K.ext Z;refine aV (λr aj=>r= .bool (decide ((st j).2= -1\/of v<(st j).1))/\Ext aG aj) ?_ ?_
  .rintro _ aj ⟨rfl,B⟩;have aH:=Z.trans B;rw[al];refine⟨λaZ=>?_,λa2=>?_⟩
   .refine bq (v:=Δ (of v)) aq.i T rfl (ac.ext B) Ξ λbE aI bF a6=>?_;refine bq (v:=Δ (v:Int)) ah.i T rfl ((ae.ext B).ab aI Ω) Ξ λa7 aJ bG a8=>?_;have ba:=a6.ab aJ Ω;have p:ai S Q a7:=((y.trans (aH.ab S)).trans (aI.mono λr _ h=>by rw[G];exact .inl h)).trans (aJ.mono λr _ h=>by rw[G];exact .inr h);have e:st (j+1)=(of v,(v:Int)):=by rw[aF];unfold fk;rw[if_pos aZ]
    refine⟨⟨U.ab p λh=>(W _ h).2 T,(L.ext (q.then p λr a h=>by have:=H r h;omega))⟩,⟨p,?_,?_⟩,λh=>by cases h⟩
    .rw[e];exact ba
    .rw[e];exact a8
   .have e:st (j+1)=st j:=by rw[aF];unfold fk;rw[if_neg a2]
    have p:ai S Q aj:=y.trans (aH.ab S);refine⟨⟨U.ab p λh=>(W _ h).2 T,(L.ext (q.then p λr a h=>by have:=H r h;omega))⟩,⟨p,?_,?_⟩,λh=>by cases h⟩
    .rw[e];exact ac.ext B
    .rw[e];exact ae.ext B
  .intro aA aK;rw[ax (v:=Δ (st j).2) Ψ (ae.Qz T),be,al];refine⟨λh1=>aK _ _ ⟨by rw[decide_eq_true (.inl h1)],Ext.refl _⟩,λh1=>?_⟩;rw[ax (v:=Δ (st j).1) Ψ (ac.Qz T),aP];refine aK _ _ ⟨?_,Ext.refl _⟩;congr 1;exact decide_eq_decide.2 ⟨.inr,λh=>h.resolve_left h1⟩
 .rintro k aU rfl ⟨y,I,K⟩;intro X f _ _;have bb:st (fU b m).length=b0 n.k (aC x) of:=by
   show((aC x).take _).foldl _ _=_;rw[b8 (by rw[<-aD,r8];exact o4 _)];rfl
  rw[bb]at I K;rw[ax (v:=Δ (b0 n.k (aC x) of).1) Ψ ((I.ext f).Qz T),ax (v:=Δ (b0 n.k (aC x) of).2) Ψ ((K.ext f).Qz T)];intro aG Y _;exact⟨((q.then y λr a h=>by have:=H r h;omega).trans f).trans Y,T⟩
end
def Ew{x:bC}(h:v∈aC x):0<=v/\v<x.un.length:=by
 unfold aC at h;have⟨h,_⟩:=T4.1 h;obtain⟨q,a,rfl⟩:=j5.1 h;have:=T8.1 a;omega
def Ex{s:ap}{n:aG}{i:Int}{b m:Nat}{x:bC}(h:uq s n i b m)(e:0<=i)(J:s.vars[i.toNat]?=σ x):(decide (0<=v/\v<m)&&b.testBit v.toNat)=decide (v∈aC x):=by
 have⟨_,_,f⟩:=h;obtain⟨rfl,p⟩:=f x e J;by_cases ad:0<=v/\v<x.un.length
 .rw[decide_eq_true ad,U8,p,decide_eq_true (show v.toNat<x.un.length by omega),U8,show((v.toNat:Nat):Int)=v by omega];have:=PN ad;cases a:dropped x.mask v with
  |false=>rw[decide_eq_true (this.2 a)];rfl
  |true=>rw[decide_eq_false λh=>by rw[this.1 h]at a;cases a];rfl
 .rw[decide_eq_false ad,decide_eq_false λh=>ad (Ew h)];rfl
def ez(s:ap)(j:Nat)(tl:Λ):Int:=if(ha s j tl).isSome then my s j tl else 0
def ep(n:aG)(s:ap)(i v:Int):Int:=if fB n i v then iN s i.toNat v.toNat else 0
def Ey{s:ap}(a:bi k sizes s):0<=ez s j tl/\ez s j tl<=k:=by
 have:=a.eg;unfold ez;cases q:ha s j tl with
 |none=>simp;omega
 |some p=>
  obtain⟨r,f,ae,w,m,hm,h,rfl⟩:=xG a q;rw[T6,if_pos T];have e:my s j tl=f.cs.getD m 0:=by
   unfold my bl;rw[ae];simp only;rw[hm];rfl
  rw[e,u4,x6 h];exact(a.funs f (x5 ae)).1.ih _ (S3 h)
def p5{n:aG}{s:ap}{i:Int}(a:bi n.k n.sizes s):0<=ep n s i v/\ep n s i v<=n.k:=by
 have hk:=a.eg;have q:=a.vars;unfold ep;split
 .rename_i h;have⟨x,e,f,_⟩:=h.var a;obtain⟨z,p⟩:∃z,n.sizes[i.toNat]?=σ z:=⟨_,x6 (by have:=(x4.1 e).1;omega)⟩;have:=(a.var i.toNat x z e p).2.1;unfold iN;rw[e];simp only;rw[u4,x6 f];exact this _ (S3 f)
 .omega
section
variable{w:x3}{af gT:Nat}{A R:ak}{n:aG}{s:ap}{t:aD}
def Ez{aM:x1}(h:bx w af gT A R n s t)(f:aI .i64 w aM tl)(p:∀e w',Ext w w'->K (.tuple #[Δ (ez s j tl),Δ e]) w'):am x7 zP [Γ af,Δ (j:Int),aM] w K:=by
 apply(xH h f).mono;rintro _ V _ ⟨rfl,a⟩;have:=p;unfold ez at this;split
 .rename_i U;rw[if_pos U]at this;exact this 0 V a
 .rename_i U;rw[if_neg U]at this;exact this 1 V a
def xO{i:Int}(h:bx w af gT A R n s t)(f:∀e w',Ext w w'->K (.tuple #[Δ (ep n s i v),Δ e]) w'):am x7 zO [Γ af,Δ i,Δ v] w K:=by
 apply(p2 h).mono;rintro _ V _ ⟨rfl,a⟩;have:=f;unfold ep at this;split
 .rename_i U;rw[if_pos U]at this;exact this 0 V a
 .rename_i U;rw[if_neg U]at this;exact this 1 V a
def EA{i:Int}(h:bx w af gT A R n s t):am x7 Iu [Γ af,Δ i] w λr w'=>Ext w w'/\∃cap,r= .func (.func sJ) #[] cap/\∀l,p4 w' sJ cap l (ep n s i):=by
 apply az func151;refine bd λg1 V C y a=>?_;refine bd λz aa E q f=>?_;rw[iy];have x:=y.trans q;refine⟨x,_,T,λl w' v p _=>?_⟩;apply az func224;have a:ag V g1 dd [Γ af]:=a;have f:ag aa z ah [Δ i]:=f;rw[ax (v:=Γ af) Ψ (((a.ext q).ext p).Qz T),ax (v:=Δ i) Ψ ((f.ext p).Qz T)];refine xO (h.ext (x.trans p)) λe G B=>?_;rw[bo,bp];exact⟨T,B⟩
def xP{i:Int}(f:bi n.k n.sizes s)(h:hz n s i=true):0<=i/\∃x,s.vars[i.toNat]?=σ x/\x.gone=0:=by
 unfold hz at h;rw[V5]at h;have h1:=of_decide_eq_true h.1;have:=f.vars;have⟨x,e⟩:=aH (l:=s.vars) (i:=i.toNat) Ω;have a:=h.2;unfold hy at a;rw[e]at a;exact⟨h1.1,x,e,by simpa using a⟩
def PW{i:Int}(h:bx w af gT A R n s t)(q:Laid w):am x7 HC [Γ af,Δ i] w λr w'=>Ext w w'/\(hz n s i=false->r= .tuple #[Δ 0,Δ (-1),Δ 1])/\
  ∀x,hz n s i=true->s.vars[i.toNat]?=σ x->r= .tuple #[Δ (b0 n.k (aC x) (ep n s i)).1,Δ (b0 n.k (aC x) (ep n s i)).2,Δ 0]:=by
 apply az func71;apply(Ev h).mono;rintro _ V _ ⟨rfl,a⟩;cases ad:hz n s i with
 |false=>
  rw[if_neg Φ,bB,al];exact⟨λ_=>⟨a,λ_=>rfl,λ_ h=>by cases h⟩,λh=>absurd Φ h⟩
 |true=>
  have⟨y,x,f,_⟩:=xP h.2.2.2.1 ad;rw[if_pos T,bB,al];refine⟨λh=>absurd T h,λ_=>?_⟩;apply(EA (i:=i) (h.ext a)).mono;rintro _ aa _ ⟨z,cap,rfl,B⟩;have e:=a.trans z;apply(xN (h.ext e) (q.ext e) y f (B _)).mono;rintro _ E _ ⟨C,rfl⟩;rw[bo,bp];exact⟨e.trans C,(λh=>by cases h),λG _ p=>by rw[f]at p;cases p;rfl⟩
def kZ{f:bU}(h:bx w af gT A R n s t)(ae:s.funs[j]?=σ f):am x7 qA [Γ af,Δ (j:Int)] w λr w'=>Ext w w'/\∃g,w.heap.size<=g/\av .i64 ah w' g r f.sc:=by
 have:=(x4.1 ae).1;apply az func76;refine aV (λv V=>v= .bool false/\Ext w V) ?_ ?_
 .rintro _ V ⟨rfl,a⟩;rw[a8];have⟨I,J,K,M,a1,N,L,O,z,P,Q,S,q,e⟩:=(h.ext a).1.parts;obtain⟨y,x⟩:∃y,L[j]?=σ y:=⟨_,x6 (by rw[e.1];omega)⟩;have⟨B,_,_⟩:=e.2 j y f x ae;rw[aT cI.p 3 z T,dw T fK.u fo.i q (by rw[e.1];omega),aU fo.p T,ax (v:=y.aK) Ψ (q.range x 0 _ T)];have U:f.sc.length<=6:=(h.2.2.2.1.funs f (x5 ae)).1.scope.2;apply(kH B.ls Ω).mono;rintro v aa _ ⟨C,g,W,hm⟩;have:=a.size;exact⟨a.trans C,g,Ω,hm⟩
 intro aA E;rw[aP,al];refine⟨λX=>Ω,λ_=>?_⟩;apply(rJ h).mono;rintro _ Y _ ⟨rfl,G⟩;rw[cO];exact E _ _ ⟨by rw[decide_eq_false Ω],G⟩
structure jL(s:ap)(j pos v:Int)(f:bU)(u:Int)(x:bC):Prop where
 xQ:0<=j
 ae:s.funs[j.toNat]?=σ f
 live:f.live≠0
 eh:0<=pos
 hu:f.sc[pos.toNat]?=σ u
 oL:0<=u
 J:s.vars[u.toNat]?=σ x
 ad:v∈aC x
def EB{j:Int}(h:bx w af gT A R n s t):am x7 IB [Γ af,Δ j,Δ pos,Δ v] w λr w'=>Ext w w'/\∃e:Int,r=Δ e/\(e=0\/e=1)/\(e=0↔ ∃f u x,jL s j pos v f u x):=by
 have ap:=h.2.2.2.1.vars;apply az func160;rw[di dd.u];simp only[Z5,a8];have key:∀(K:x1->x3->Prop),(∀r w',Ext w w'->(∀f,0<=j->s.funs[j.toNat]?=σ f->aI .i64 w' r f.sc)->K r w')->am x7 qA [Γ af,Δ j] w K:=λK M=>by
  by_cases N:0<=j/\j<s.funs.length
  .obtain⟨f,ae⟩:=aH (l:=s.funs) (i:=j.toNat) Ω;have:=kZ h ae;rw[show((j.toNat:Nat):Int)=j by omega]at this;apply this.mono;rintro r V _ ⟨p,g,_,hm⟩;exact M r V p λq _ O=>by rw[ae]at O;cases O;exact hm.ls
  .refine (Er h N).mono ?_;rintro r V _ ⟨rfl,p⟩;exact M _ V p λf C ae=>absurd ⟨C,by have:=(x4.1 ae).1;omega⟩ N
 refine key _ λr V p ag=>?_;refine aV (λai aa=>∃b,ai= .bool b/\(b=false↔ ∃f u x,jL s j pos v f u x)/\Ext w aa) ?_ ?_
 .rintro _ aa ⟨b,rfl,E,P⟩;rw[ca];refine⟨λQ=>⟨P,1,T,.inr T,⟨(λh=>by cases h),λh=>by rw[E.2 h]at Q;cases Q⟩⟩,λae=>⟨P,0,T,.inl T,⟨λ_=>E.1 ae,λ_=>rfl⟩⟩⟩
 intro aA G;apply(rK (j:=j) (h.ext p)).mono;rintro _ aq _ ⟨rfl,S⟩;have z:=p.trans S;rw[bK,ca];refine⟨λH=>G _ _ ⟨true,T,⟨(λh=>by cases h),λ⟨f,u,x,a⟩=>?_⟩,z⟩,λI=>?_⟩
 .rw[decide_eq_true a.xQ,U8]at H;unfold ff at H;rw[a.ae]at H;simp[a.live]at H
 have I:0<=j/\ff s j.toNat=true:=by simpa using I
 have⟨C,B⟩:=I;obtain⟨f,ae,aj⟩:∃f,s.funs[j.toNat]?=σ f/\f.live≠0:=by
  unfold ff at B;cases ae:s.funs[j.toNat]? with
  |none=>rw[ae]at B;cases B
  |some f=>rw[ae]at B;exact⟨f,T,by simpa using B⟩
 have U:=(ag f C ae).ext S;have W:=(h.2.2.2.1.funs f (x5 ae)).1;have same:∀{q u x},jL s j pos v q u x->q=f:=λa=>by have:=a.ae;rw[ae]at this;cases this;rfl
 rw[aP,al];refine⟨λau=>G _ _ ⟨true,T,⟨(λh=>by cases h),λ⟨f,u,x,a⟩=>by have:=a.eh;omega⟩,z⟩,λav=>?_⟩;rw[aW an.u U,cO,al];refine⟨λaw=>G _ _ ⟨true,T,⟨(λh=>by cases h),λ⟨q,u,x,a⟩=>?_⟩,z⟩,λax=>?_⟩
 .obtain rfl:=same a;have:=(x4.1 a.hu).1;omega
 have⟨u,hu⟩:=aH (l:=f.sc) (i:=pos.toNat) Ω;have X:=x5 hu;have Y:=(W.scope.1 u X).1;have ay:=W.vars u X;have⟨x,L⟩:=aH (l:=s.vars) (i:=u.toNat) Ω;rw[fP (y:=pos) (i:=pos.toNat) Ω an.u ah.i Ψ U hu];apply(jK (i:=u) (h.ext z)).mono;rintro _ aB _ ⟨⟨b,m,rfl,Z⟩,ak⟩;apply(Eh (v:=v) Z.1).mono;rintro _ aC _ ⟨rfl,ao⟩;rw[Ex Z Y L,bK];refine G _ _ ⟨_,T,⟨λE=>⟨f,u,x,C,ae,aj,Ω,hu,Y,L,by simpa using E⟩,λ⟨q,u',aD,a⟩=>?_⟩,(z.trans ak).trans ao⟩;obtain rfl:=same a;have ab:=a.hu;rw[hu]at ab;cases ab;have ac:=a.J;rw[L]at ac;cases ac;rw[decide_eq_true a.ad];rfl
end
def ik(n:aG)(s:ap)(j:Nat)(pos v o u:Int):Int:=min (ez s j (if pos=1 then[u,v]else[v,u])+ep n s o u) n.k
section
variable{w:x3}{af gT:Nat}{A R:ak}{n:aG}{s:ap}{t:aD}
def PX{o:Int}{E G H I:Nat}(h:bx w af gT A R n s t)(h1:ag w g1 ah [Δ v])(L:ag w E ah [Δ pos])(q:ag w G dd [Γ af])(M:ag w H ah [Δ (j:Int)])(N:ag w I ah [Δ o])(l:Λ):
  p4 w Jj #[Γ g1,Γ E,Γ G,Γ H,Γ I] l (ik n s j pos v o):=λw' u f _=>by
 have h:=h.ext f;apply az func226;rw[ax (v:=Δ v) Ψ ((h1.ext f).Qz T)];refine oc (l:=[v,u]) an.u ah.i Ξ T Ψ λW ga V X x O=>?_;have J:=f.trans x;refine aV (λr aa=>Ext w' aa/\aI .i64 aa r (if pos=1 then[u,v]else[v,u])) ?_ ?_
 .rintro aM aa ⟨a,P⟩;have y:=f.trans a;rw[ax (v:=Γ af) Ψ ((q.ext y).Qz T),ax (v:=Δ (j:Int)) Ψ ((M.ext y).Qz T)];refine Ez (h.ext a) P λe Y p=>?_;have z:=y.trans p;rw[bo,bp,ax (v:=Γ af) Ψ ((q.ext z).Qz T),ax (v:=Δ o) Ψ ((N.ext z).Qz T)];refine xO (h.ext (a.trans p)) λZ ab B=>?_;have Q:=z.trans B;rw[bo,bp,ax (v:=Γ af) Ψ ((q.ext Q).Qz T)];apply(Eu (h.ext ((a.trans p).trans B)) (Ey h.2.2.2.1) (p5 h.2.2.2.1)).mono;rintro _ ac _ ⟨rfl,S⟩;exact⟨T,((a.trans p).trans B).trans S⟩
 intro aA K;rw[ax (v:=Δ pos) Ψ ((L.ext J).Qz T),be,al];refine⟨λC=>?_,λC=>K _ _ ⟨x,by rw[if_neg C];exact O.ls⟩⟩;rw[ax (v:=Δ v) Ψ ((h1.ext J).Qz T)];refine oc (l:=[u,v]) an.u ah.i Ξ T Ψ λad ae aa ai a U=>?_;exact K _ _ ⟨x.trans a,by rw[if_pos C];exact U.ls⟩
def EC{o:Int}{f:bU}{x:bC}(h:bx w af gT A R n s t)(ac:Laid w)(ae:s.funs[j]?=σ f)(aH:0<=pos/\pos<=1)(aI:f.sc.length=2)(N:f.sc[(1-pos).toNat]?=σ o)(J:s.vars[o.toNat]?=σ x):
  am x7 Iz [Γ af,Δ (j:Int),Δ pos,Δ v] w λr w'=>Ext w w'/\r= .tuple #[Δ (b0 n.k (aC x) (ik n s j pos v o)).1,Δ (b0 n.k (aC x) (ik n s j pos v o)).2]:=by
 have ad:=((h.2.2.2.1.funs f (x5 ae)).1.scope.1 o (x5 N)).1;have:j<4611686018427387904:=by
  have:=p1 h.2.1 h.2.2.1;have:=xC ae;have:=(x4.1 ae).1;have aM:j<=eZ s j:=by
   unfold eZ;have:j<=((s.funs.take j).flatMap fy).length:=by
    have ai:∀(L:List bU),L.length<=(L.flatMap fy).length:=λL=>by
     induction L with
     |nil=>exact o4 _
     |cons a L aN=>rw[X8,r9,b6];have:(fy a).length=a.cs.length+1:=rfl;omega
    have aj:=ai (s.funs.take j);rw[l9]at aj;omega
   omega
  omega
 apply az func157;refine bd λak V aO al E=>?_;refine bd λao aa aP X H=>?_;refine bd λap aQ aR O I=>?_;refine bd λg1 G aS K P=>?_;have Y:=((al.trans X).trans O).trans K;have E:ag G ak dd [Γ af]:=((E.ext X).ext O).ext K;have H:ag G ao ah [Δ (j:Int)]:=(H.ext O).ext K;have I:ag G ap ah [Δ pos]:=I.ext K;have P:ag G g1 ah [Δ v]:=P;refine aV (λr Q=>Ext G Q/\∃e,r=Γ e/\ag Q e ah [Δ o]) ?_ ?_
 .rintro _ Q ⟨B,e,rfl,C⟩;have M:=Y.trans B;rw[ax (v:=Γ af) Ψ ((E.ext B).Qz T),ax (v:=Δ o) Ψ (C.Qz T),iy];apply(xN (h.ext M) (ac.ext M) ad J (PX (h.ext M) (P.ext B) (I.ext B) (E.ext B) (H.ext B) C _)).mono;rintro _ aT _ ⟨aq,rfl⟩;rw[bo,bp];exact⟨M.trans aq,T⟩
 intro aA Z aU p _ _;have ab:=Y.trans p;rw[ax (v:=Γ af) Ψ ((E.ext p).Qz T),ax (v:=Δ (j:Int)) Ψ ((H.ext p).Qz T),ax (v:=Δ pos) Ψ ((I.ext p).Qz T),dN,wrap_i64 Ω Ω];refine⟨?_,?_⟩
 .refine (kZ (h.ext ab) ae).mono ?_;rintro r au _ ⟨q,av,aw,S⟩;refine⟨.inl q,?_⟩;refine px (y:=1-pos) (i:=(1-pos).toNat) Ω an.u ah.i S.ls N λaW co ay=>?_;rw[ax (v:=Δ o) Ψ ay];refine bu ah.i λe aB aD z C=>?_;refine⟨.inl z,.inl (q.trans z),?_⟩;have:=((p.trans q).trans z).size;refine bq (v:=Δ o) ah.i T rfl C Φ λaE U aF W=>?_;have:=(p.trans q).size;exact Z _ _ ⟨((p.trans q).trans z).then U λr aG he=>by have he:r=e:=he;omega,e,T,W⟩
 .refine bu ah.i λe aB aD z C=>?_;refine⟨.inl z,?_⟩;apply(kZ (h.ext (ab.trans z)) ae).mono;rintro r au _ ⟨q,av,aw,S⟩;refine⟨.inl (z.trans q),?_⟩;rw[fP (y:=1-pos) (i:=(1-pos).toNat) Ω an.u ah.i Ψ S.ls N];have:=p.size;refine bq (v:=Δ o) ah.i T rfl (C.ext q) Φ λaE U aF W=>?_;exact Z _ _ ⟨((p.trans z).trans q).then U λr aG he=>by have he:r=e:=he;omega,e,T,W⟩
def ED(n:aG)(s:ap)(j pos v:Int)(r:x1):Prop:=((¬∃f u x,jL s j pos v f u x)->r= .tuple #[Δ 0,Δ (-1),Δ 1])/\∀f u x,jL s j pos v f u x->(f.sc.length≠2->r= .tuple #[Δ 0,Δ (-1),Δ 1])/\
 (f.sc.length=2->∀o y,f.sc[(1-pos).toNat]?=σ o->s.vars[o.toNat]?=σ y->r= .tuple #[Δ (b0 n.k (aC y) (ik n s j.toNat pos v o)).1,Δ (b0 n.k (aC y) (ik n s j.toNat pos v o)).2,Δ 0])
def jL.same{j:Int}{f a:bU}{u u':Int}{x e:bC}(h:jL s j pos v f u x)(k:jL s j pos v a u' e):a=f/\u'=u/\e=x:=by
 have p:=h.ae;rw[k.ae]at p;cases p;have q:=h.hu;rw[k.hu]at q;cases q;have r:=h.J;rw[k.J]at r;cases r;exact⟨T,T,T⟩
def PY{j:Int}(h:bx w af gT A R n s t)(N:Laid w):am x7 HH [Γ af,Δ j,Δ pos,Δ v] w λr w'=>Ext w w'/\ED n s j pos v r:=by
 apply az func78;apply(EB h).mono;rintro _ V _ ⟨C,e,rfl,he,G⟩;rw[bB,al];refine⟨λp=>⟨C,λ_=>by rw[he.resolve_left p],λf u x a=>absurd (G.2 ⟨f,u,x,a⟩) p⟩,λO=>?_⟩;have⟨f,u,x,a⟩:=G.1 (Z9.1 O);have H:=kZ (h.ext C) a.ae;have:=a.xQ;rw[show((j.toNat:Nat):Int)=j by omega]at H;apply H.mono;rintro r aa _ ⟨P,Z,_,Q⟩;have q:=C.trans P;rw[aW an.u Q.ls,bB,al];refine⟨λp=>⟨q,λ_=>rfl,λS u' U E=>⟨λ_=>rfl,λz=>?_⟩⟩,λz=>?_⟩
 .obtain⟨rfl,_⟩:=a.same E;omega
 have z:f.sc.length=2:=Ω
 have:=(x4.1 a.hu).1;have:=a.eh;have⟨o,B⟩:=aH (l:=f.sc) (i:=(1-pos).toNat) Ω;have I:=(h.2.2.2.1.funs f (x5 a.ae)).1;have:=h.2.2.2.1.vars;have:=I.vars o (x5 B);have:=(I.scope.1 o (x5 B)).1;have⟨y,J⟩:=aH (l:=s.vars) (i:=o.toNat) Ω;have K:=EC (v:=v) (h.ext q) (N.ext q) a.ae ⟨a.eh,Ω⟩ z B J;rw[show((j.toNat:Nat):Int)=j by omega]at K;apply K.mono;rintro _ ai _ ⟨W,rfl⟩;rw[bo,bp];refine⟨q.trans W,λX=>absurd ⟨f,u,x,a⟩ X,λS u' U E=>?_⟩;obtain⟨rfl,_⟩:=a.same E;refine⟨λp=>absurd z p,λ_ o' aj L M=>?_⟩;rw[B]at L;cases L;rw[J]at M;cases M;rfl
end
def PZ{x:Int}(h:aI .i64 w sv l):am x7 vC [sv,Δ x] w λv w'=>Ext w w'/\∃r:Int,v=Δ r/\(x∉l->r= -1)/\(x∈l->0<=r/\l[r.toNat]?=σ x):=by
 apply az func53;rw[aW an.u h];refine bT.range l.length (λi _ V=>Ext w V/\x∉l.take i) h.le ⟨Ext.refl _,Ξ⟩ ?_ ?_
 .rintro i _ V k hi ⟨a,e⟩ hk;apply bz Ω;have⟨y,f⟩:=aH (l:=l) hi;rw[bc an.u ah.i Ψ (h.ext a) f,be,al];refine⟨λhe=>⟨a,i,T,λhm=>absurd (he▸x5 f) hm,λ_=>⟨Ω,by rw[he,u7];exact f⟩⟩,λhe=>?_⟩;rw[aN];refine hk _ _ ⟨a,λhm=>?_⟩;rw[u9,f]at hm;rcases o5.1 hm with hm|hm
  .exact e hm
  .simp at hm;exact he hm
 .rintro _ V k ⟨a,e⟩;rw[o6]at e;rw[aP,al];exact⟨λh=>Ω,λ_=>⟨a,-1,T,λ_=>rfl,λh=>absurd h e⟩⟩
def P0{x:Int}(h:aI .i64 w sv l):am x7 GX [sv,Δ x] w λv w'=>v= .bool (decide (x∈l))/\Ext w w':=by
 apply az func16;apply(PZ h).mono;rintro _ V _ ⟨J,r,rfl,a,e⟩;rw[cO];refine⟨?_,J⟩;congr 1;refine decide_eq_decide.2 ⟨λp=>?_,λhm=>(e hm).1⟩;exact Z9.1 λf=>by have:=a f;omega
def P1{cap:Array x1}{p:Int->Bool}(h:aI .i64 w sv l)(s:∀w' x,Ext w w'->x∈l->am x7 ey (Δ x::cap.toList) w' λr z=>r= .bool (p x)/\Ext w' z):
  am x7 vG [sv,.func (.func ey) #[] cap] w λv w'=>Ext w w'/\((v=Δ (-1)/\∀x∈l,p x=false)\/∃i:Nat,v=Δ (i:Int)/\i<l.length/\(∀x∈l.take i,p x=false)/\∀x,l[i]?=σ x->p x=true):=by
 apply az func133;rw[aW an.u h];refine bT.range l.length (λi _ V=>Ext w V/\∀x∈l.take i,p x=false) h.le ⟨Ext.refl _,Ξ⟩ ?_ ?_
 .rintro i _ V k hi ⟨a,e⟩ hk;apply bz Ω;have⟨y,f⟩:=aH (l:=l) hi;rw[bc an.u ah.i Ψ (h.ext a) f];apply am.mono (s V y a (x5 f));rintro _ aa _ ⟨rfl,q⟩;rw[ca];refine⟨λA=>⟨a.trans q,.inr ⟨i,T,hi,e,λx J=>by rw[f]at J;cases J;exact A⟩⟩,λae=>?_⟩;rw[aN];refine hk _ _ ⟨a.trans q,λx J=>?_⟩;rw[u9,f]at J;rcases o5.1 J with J|J
  .exact e x J
  .simp at J;subst J;exact ae
 .rintro _ V k ⟨a,e⟩;rw[o6]at e;rw[aP,al];exact⟨λh=>Ω,λ_=>⟨a,.inl ⟨T,e⟩⟩⟩
def EE{g:Nat}{cap:Array x1}{p:Int->Bool}(h:av .i64 e w g sv l)(aI:l.length<=100000000)(Q:∀w' x,ai (λr=>leads sv r) w w'->x∈l->am x7 ey (Δ x::cap.toList) w' λr Y=>r= .bool (p x)/\Ext w' Y):
  am x7 Hv [sv,.func (.func ey) #[] cap] w λv w'=>ai (λr=>leads sv r) w w'/\av .i64 e w' g v (l.filter λx=>!p x)/\∀r,leads v r->leads sv r:=by
 apply az func62;apply(P1 h.ls λw' x J=>Q w' x (J.ab _)).mono;rintro _ V _ ⟨B,⟨rfl,K⟩|⟨i,rfl,hi,K,Z⟩⟩
 .rw[be,al];refine⟨λ_=>⟨B.ab _,?_⟩,λh=>absurd T h⟩;rw[List.filter_eq_self.2 λx J=>by rw[K x J];rfl];exact⟨h.ext B,λ_ h=>h⟩
 rw[be,al];refine⟨λh=>Ω,λ_=>?_⟩;rw[aN,wrap_i64 Ω Ω];obtain⟨n,L⟩:∃n,l.length=n:=⟨_,T⟩;obtain⟨s,rfl⟩:∃s,sv= .slice (σ ⟨g,0,ν⟩) n s:=by
  obtain⟨_,⟨_,h1⟩|⟨s,cs,h1,_⟩⟩:=id h
  .omega
  .exact⟨s,by rw[h1,L]⟩
 have⟨_,_,_,_,aJ,aa,_⟩:=rp h Ω;have R:∀r,r=g->leads (.slice (σ ⟨g,0,ν⟩) n s) r:=λr M=>⟨_,_,_,T,M.symm⟩;have ac:(l.take (i+1)).filter (λx=>!p x)=l.take i:=by
  have⟨y,z⟩:=aH (l:=l) hi;rw[u9,z,List.filter_append,List.filter_eq_self.2 λx J=>by rw[K x J];rfl];simp[Z y z]
 refine⟨λN O C=>∃(q j:Nat)(f:Λ),N=Δ (q:Int)/\O=Δ (j:Int)/\q<j/\j<=n/\ai (λr=>r=g) w C/\av .i64 e C g (.slice (σ ⟨g,0,ν⟩) n s) f/\f.length=n/\f.take q=(l.take j).filter (λx=>!p x)/\∀k,j<=k->f[k]?=l[k]?,
  λ_ O _=>n-(bW O).toNat,⟨i,i+1,l,T,T,Ω,Ω,B.ab _,h.ext B,L,ac.symm,λ_ _=>rfl⟩,?_⟩
 rintro _ _ C ⟨q,j,f,rfl,rfl,aK,aL,E,G,S,A,P⟩;have aM:q=((l.take j).filter λx=>!p x).length:=by rw[<-A,l9];omega
 rw[hI an.u,aP,al];refine⟨λad=>?_,λaO=>?_⟩
 .have ad:j<n:=Ω
  have⟨y,z⟩:=aH (l:=l) (i:=j) Ω;have af:f[j]?=σ y:=by rw[P j (o4 _),z]
  refine aV (λN H=>∃(q:Nat)(f:Λ),N=Δ (q:Int)/\q<j+1/\ai (λr=>r=g) w H/\av .i64 e H g (.slice (σ ⟨g,0,ν⟩) n s) f/\f.length=n/\f.take q=(l.take (j+1)).filter (λx=>!p x)/\∀k,j+1<=k->f[k]?=l[k]?) ?_ ?_
  .rintro _ H ⟨q,f,rfl,h1,ag,aj,ak,ao,ap⟩;rw[aN,wrap_i64 Ω Ω];exact⟨⟨q,j+1,f,T,T,h1,Ω,ag,aj,ak,ao,ap⟩,by simp only[bW];omega⟩
  intro aA U;rw[bc an.u ah.i Ψ G.ls af];apply am.mono (Q C y (E.mono λr _=>R r) (x5 z));rintro _ H _ ⟨rfl,I⟩;have W:(l.take (j+1)).filter (λx=>!p x)=(l.take j).filter (λx=>!p x)++[y].filter (λx=>!p x):=by rw[u9,z,List.filter_append];rfl
  rw[bK,ca];refine⟨λaq=>?_,λae=>?_⟩
  .have X:=G.ext I;rw[hN T an.u ah.i X Ω];refine hP ah.i X Ω λaQ au aR aw=>?_;rw[aN,wrap_i64 Ω Ω];refine U _ _ ⟨q+1,_,T,Ω,(E.trans (I.ab _)).trans au,aw,by simpa using S,?_,λk hk=>?_⟩
   .rw[W,u9,c8 Ω,List.take_set_of_le (o4 _),A];simp only[n9];rw[show[y].filter (λx=>!p x)=[y] by simpa using aq]
   .rw[Y2 Ω];exact P k Ω
  .refine U _ _ ⟨q,f,T,Ω,E.trans (I.ab _),G.ext I,S,?_,λk hk=>P k Ω⟩;rw[W,show[y].filter (λx=>!p x)=[] by simpa using ae,W6];exact A
 .have ax:j=n:=Ω
  subst ax;rw[<-L,o6]at A;have⟨_,_,cs,ay,_,_,aS,aB⟩:=rp G Ω;simp only[maxLen]at aa;rw[hj an.u ah.i (l:=q) (h:=j) (m:=s) pq jy fh Ω Ω Ω,if_neg Ω];have aC:V7 (λx:Addr=>x.add (q*1)) (σ ⟨g,0,ν⟩)=σ ⟨g,q,ν⟩:=by simp[U9]
  rw[aC];refine AX an.u ah.i T rfl ay Ω Ω λaT aD aU aE=>?_;rw[hj an.u ah.i (l:=0) (h:=q) (m:=s) jx pr fh Ω Ω Ω,if_neg Ω];have aF:V7 (λx:Addr=>x.add (0*1)) (σ ⟨g,0,ν⟩)=σ ⟨g,0,ν⟩:=by simp[U9]
  rw[aF];refine⟨(E.trans aD).mono λr _=>R r,?_⟩;have aW:(l.filter λx=>!p x).length=q:=by rw[<-A,l9];omega
  rw[<-A,Nat.sub_zero];refine⟨?_,λr M=>by have⟨a,_,_,e,aG⟩:=M;cases e;exact⟨_,_,_,T,aG⟩⟩;refine av.of (n:=q) ⟨Θ,.inr ⟨s,_,Ξ,aE,Ω,by simp only[maxLen];omega,by rw[lj];omega,?_⟩⟩;rw[U2];apply Y4;intro k;by_cases hk:k<q
  .rw[Z7 hk,mX _ _ _ Θ,if_neg Ω,ints,x8,Z7 hk];have:(cs.take j)[k]?=(ints .i64 f)[k]?:=by rw[aB]
   rw[Z7 Ω,ints,x8]at this;exact this
  .rw[Z2 Θ,Z2 Θ]
def kj(s:ap)(i:Int)(j:Nat):Bool:=match s.funs[j]? with
 |some f=>decide (f.live≠0)&&decide (i∈f.sc)
 |none=>false
def il(s:ap)(i:Int)(m:Nat):Λ:=((Y1 m).filter (kj s i)).map λj:Nat=>(j:Int)
def P2{gT:Nat}{A R:ak}{n:aG}{s:ap}{t:aD}{i:Int}(h:bx w af gT A R n s t):am x7 Ix [Γ af,Δ i] w λv w'=>Ext w w'/\∃g,av .i64 ah w' g v (il s i s.funs.length)/\∀r,leads v r->w.heap.size<=r:=by
 have aB:=p1 h.2.1 h.2.2.1;have aC:s.funs.length<=100000000:=by
  have h1:=rA s;have O:∀(L:List bU),L.length<=(L.flatMap fy).length:=λL=>by
   induction L with
   |nil=>exact o4 _
   |cons a L aE=>rw[X8,r9,b6];have:(fy a).length=a.cs.length+1:=rfl;omega
  have aF:=O s.funs;omega
 apply az func154;apply(rJ h).mono;rintro _ V _ ⟨rfl,P⟩;refine bT.range s.funs.length (λj out aa=>Ext w aa/\∃g,av .i64 ah aa g out (il s i j)/\∀r,leads out r->w.heap.size<=r) Ω ⟨P,0,av.nil _ _ _ _,λr E=>by have⟨a,n,c,Q,aI⟩:=E;cases Q⟩ ?_ ?_
 .rintro j out aa S U ⟨q,g,hm,B⟩ W;have⟨f,ae⟩:=aH (l:=s.funs) U;have I:il s i (j+1)=if kj s i j=true then il s i j++[(j:Int)]else il s i j:=by
   unfold il;rw[List.range_succ,List.filter_append];cases X:kj s i j<;>simp[X]
  apply bz Ω;refine aV (λout z=>Ext w z/\∃g,av .i64 ah z g out (il s i (j+1))/\∀r,leads out r->w.heap.size<=r) ?_ ?_
  .rintro out z Y;rw[aN];exact W _ _ Y
  intro aA J;refine aV (λr z=>r= .bool (kj s i j)/\Ext aa z) ?_ ?_
  .rintro _ z ⟨rfl,e⟩;rw[ca];refine⟨λZ=>?_,λae=>J _ _ ⟨q.trans e,g,by rw[I,if_neg (by rw[ae];decide)];exact hm.ext e,B⟩⟩;refine eD (k:=.i64) an.u ah.i T λv4 aJ ab aL C ac=>?_;have aM:(il s i j).length<=j:=by unfold il;rw[r8];have:=R5 (kj s i) (Y1 j);rw[List.length_range]at this;exact this
   refine hY an.u ah.i T ((hm.ext e).ext C) ac.ls Θ Θ λv5 ad ag ai aj ao=>?_;have z3:=q.size;have aq:Ext w ag:=((q.trans e).trans C).then ao λr E he=>by have:=B r he;omega
   have z4:=((q.trans e).trans C).size;exact J _ _ ⟨aq,ad,by rw[I,if_pos Z];exact ai,λr E=>(aj r E).elim (B r) λh=>Ω⟩
  intro aO K;apply(rK (j:=(j:Int)) (h.ext q)).mono;rintro _ z _ ⟨rfl,e⟩;rw[decide_eq_true Ω,U8,u7];have au:ff s j=decide (f.live≠0):=by unfold ff;rw[ae]
  rw[au,al];refine⟨λG=>?_,λG=>K _ _ ⟨by unfold kj;rw[ae];simp only;rw[decide_eq_false G];rfl,e⟩⟩;have⟨aQ,aR,aS,aW,a1,aX,L,aY,aw,aZ,a2,a6,M,H⟩:=(h.ext (q.trans e)).1.parts;obtain⟨y,N⟩:∃y,L[j]?=σ y:=⟨_,x6 (by rw[H.1];omega)⟩;have⟨ay,_,_⟩:=H.2 j y f N ae;rw[aT cI.p 3 aw T,dw T fK.u fo.i M (by rw[H.1];omega),aU fo.p T,ax (v:=y.aK) Ψ (M.range N 0 _ T)];apply(P0 (x:=i) ay.ls).mono;rintro _ ab _ ⟨rfl,C⟩;exact K _ _ ⟨by unfold kj;rw[ae];simp only;rw[decide_eq_true G,U8],e.trans C⟩
 .rintro out aa S ⟨q,g,hm,B⟩;rw[aP,al];exact⟨λh=>Ω,λ_=>⟨q,g,hm,B⟩⟩
def nu(s:ap)(j:Int):Bool:=match s.funs[j.toNat]? with
 |some f=>decide (f.sc.length=2)
 |none=>false
def kk(s:ap)(i:Int):Λ:=(il s i s.funs.length).filter (nu s)
def gL(n:aG)(s:ap)(i v j:Int):Int:=match s.funs[j.toNat]? with
 |some f=>match f.sc[(1-fx f.sc i).toNat]? with
  |some o=>match s.vars[o.toNat]? with
   |some x=>(b0 n.k (aC x) (ik n s j.toNat (fx f.sc i) v o)).1
   |none=>0
  |none=>0
 |none=>0
def mA(n:aG)(s:ap)(i v:Int):Int:=(kk s i).foldl (λc j=>min (c+gL n s i v j) n.k) (ep n s i v)
def rN{of:Int->Int}(hk:0<=k)(h:∀v∈l,0<=of v/\of v<=k):0<=(b0 k l of).1/\(b0 k l of).1<=k:=by
 unfold b0;have:∀(l:Λ)(p:Int×Int),(0<=p.1/\p.1<=k)->(∀v∈l,0<=of v/\of v<=k)->0<=(l.foldl (fk of) p).1/\(l.foldl (fk of) p).1<=k:=λl=>by
  induction l with
  |nil=>exact λp a _=>a
  |cons v l f=>
   intro p a e;refine f _ ?_ λu hu=>e u (.tail _ hu);unfold fk;split
   .exact e v (.head _)
   .exact a
 exact this l (k,-1) ⟨hk,Int.le_refl _⟩ h
def xR{n:aG}{s:ap}{o u:Int}(a:bi n.k n.sizes s):0<=ik n s j pos v o u/\ik n s j pos v o u<=n.k:=by
 have:=Ey (j:=j) (tl:=if pos=1 then[u,v]else[v,u]) a;have:=p5 (i:=o) (v:=u) a;have:=a.eg;unfold ik;omega
def P3{n:aG}{s:ap}{i j:Int}(p:bi n.k n.sizes s)(h:j∈kk s i):0<=j/\∃f,s.funs[j.toNat]?=σ f/\f.live≠0/\i∈f.sc/\f.sc.length=2:=by
 unfold kk il at h;have⟨h1,e⟩:=T4.1 h;obtain⟨q,a,rfl⟩:=j5.1 h1;have⟨_,a⟩:=T4.1 a;unfold kj at a;unfold nu at e;rw[u7]at e;cases ae:s.funs[q]? with
 |none=>rw[ae]at a;cases a
 |some f=>
  rw[ae]at a e;simp only[V5,decide_eq_true_eq]at a e;exact⟨Ω,f,by rw[u7];exact ae,a.1,a.2,e⟩
section
variable{w:x3}{af gT:Nat}{A R:ak}{n:aG}{s:ap}{t:aD}
def P4{i:Int}(a:bi n.k n.sizes s)(m:Nat):0<=((kk s i).take m).foldl (λc j=>min (c+gL n s i v j) n.k) (ep n s i v)/\((kk s i).take m).foldl (λc j=>min (c+gL n s i v j) n.k) (ep n s i v)<=n.k:=by
 have hk:=a.eg;have e:∀j,0<=gL n s i v j/\gL n s i v j<=n.k:=λj=>by
  unfold gL;split
  .split
   .split
    .exact rN Ω λu _=>xR a
    .omega
   .omega
  .omega
 have:∀(l:Λ)(c:Int),(0<=c/\c<=n.k)->0<=l.foldl (λc j=>min (c+gL n s i v j) n.k) c/\l.foldl (λc j=>min (c+gL n s i v j) n.k) c<=n.k:=λl=>by
  induction l with
  |nil=>exact λc h=>h
  |cons j l f=>exact λc h=>f (min (c+gL n s i v j) n.k) (by have:=e j;omega)
 exact this _ _ (p5 a)
def P5{i:Int}{O P Q aq:Nat}{E:x1}{cap:Array x1}(h:bx w af gT A R n s t)(au:Laid w)(h1:ag w g1 pk [.func (.func ey) #[] cap])(aw:∀l,p4 w ey cap l (ep n s i))(ay:ag w O an [E])(S:av .i64 ah w aq E (kk s i))(G:ag w P dd [Γ af])(aA:ag w Q ah [Δ i])(l:Λ):
  p4 w Iy #[Γ g1,Γ O,Γ P,Γ Q] l (mA n s i):=λw' v H ad=>by
 apply az func156;rw[ax (v:=.func (.func ey) #[] cap) Ψ ((h1.ext H).Qz T)];apply am.mono (aw [v] w' v H (.head _));rintro _ V _ ⟨rfl,U⟩;have I:=H.trans U;have J:=S.ext I;have⟨_,_,_,aK⟩:=da J.ls;rw[ax (v:=E) Ψ ((ay.ext I).Qz T),aW an.u J.ls];have a:=h.2.2.2.1;refine bT.range (kk s i).length (λq a7 aa=>Ext V aa/\a7=Δ (((kk s i).take q).foldl (λc j=>min (c+gL n s i v j) n.k) (ep n s i v))) J.ls.le ⟨Ext.refl _,T⟩ ?_ ?_
 .rintro q _ aa aB aD ⟨z,rfl⟩ aE;have⟨j,K⟩:=aH (l:=(kk s i)) aD;have⟨aL,f,ae,aM,aF,aG⟩:=P3 a (x5 K);have L:=(a.funs f (x5 ae)).1;have W:gW f.sc:=w7 L.up;have⟨p,X⟩:=X3.1 aF;have:=(x4.1 X).1;have Y:=w2 W X;have⟨o,B⟩:=aH (l:=f.sc) (i:=(1-(p:Int)).toNat) Ω;have:=a.vars;have:=L.vars o (x5 B);have:=(L.scope.1 o (x5 B)).1;have⟨y,Z⟩:=aH (l:=s.vars) (i:=o.toNat) Ω;have ab:=I.trans z;apply bz Ω;rw[bc an.u ah.i Ψ (S.ext ab).ls K];intro aT ac _ _;have e:=ab.trans ac;rw[ax (v:=Γ af) Ψ ((G.ext e).Qz T),ax (v:=Γ af) Ψ ((G.ext e).Qz T),ax (v:=Δ i) Ψ ((aA.ext e).Qz T)];have ai:=kZ (h.ext e) ae;rw[show((j.toNat:Nat):Int)=j by omega]at ai;apply ai.mono;rintro r aU _ ⟨C,aV,_,aI⟩;refine⟨.inl C,?_⟩;apply(tS (x:=i) aI.ls W).mono;rintro _ aX _ ⟨rfl,M⟩;refine⟨.inl (C.trans M),?_⟩;rw[Y];have N:=(e.trans C).trans M;have aj:=EC (v:=v) (pos:=(p:Int)) (h.ext N) (au.ext N) ae ⟨Ω,Ω⟩ aG B Z;rw[show((j.toNat:Nat):Int)=j by omega]at aj;apply aj.mono;rintro _ aY _ ⟨ak,rfl⟩;have ao:=N.trans ak;have ap:gL n s i v j=(b0 n.k (aC y) (ik n s j.toNat (p:Int) v o)).1:=by
   unfold gL;rw[ae];simp only;rw[Y,B];simp only;rw[Z]
  rw[bo,bp,ax (v:=Γ af) Ψ ((G.ext ao).Qz T),<-ap];refine(Eu (h.ext ao) (P4 a q) (by rw[ap];exact rN (by have:=a.eg;omega) λu _=>xR a)).mono ?_;rintro _ aZ _ ⟨rfl,aJ⟩;rw[aN];refine aE _ _ ⟨((((z.trans ac).trans C).trans M).trans ak).trans aJ,?_⟩;rw[u9,K,n9,S6];rfl
 .rintro _ aa aB ⟨z,rfl⟩;rw[aP,al];refine⟨λh=>Ω,λ_=>⟨?_,U.trans z⟩⟩;rw[o6];rfl
def P6{i:Int}(h:bx w af gT A R n s t)(ac:Laid w):am x7 HE [Γ af,Δ i] w λr w'=>Ext w w'/\(hz n s i=false->r= .tuple #[Δ 0,Δ (-1),Δ 1])/\
  ∀x,hz n s i=true->s.vars[i.toNat]?=σ x->r= .tuple #[Δ (b0 n.k (aC x) (mA n s i)).1,Δ (b0 n.k (aC x) (mA n s i)).2,Δ 0]:=by
 apply az func74;refine bd λaH V bh aI z=>?_;refine bd λaJ aa bi aj B=>?_;have z:ag aa aH dd [Γ af]:=z.ext aj;have B:ag aa aJ ah [Δ i]:=B;have Q:=aI.trans aj;rw[ax (v:=Γ af) Ψ (z.Qz T),ax (v:=Δ i) Ψ (B.Qz T)];apply(Ev (h.ext Q)).mono;rintro _ aK _ ⟨rfl,C⟩;have S:=Q.trans C;cases ad:hz n s i with
 |false=>
  rw[if_neg Φ,bB,al];exact⟨λ_=>⟨S,λ_=>rfl,λ_ h=>by cases h⟩,λh=>absurd Φ h⟩
 |true=>
  have⟨aL,x,ak,_⟩:=xP h.2.2.2.1 ad;rw[if_pos T,bB,al];refine⟨λh=>absurd T h,λ_=>?_⟩;rw[ax (v:=Γ af) Ψ ((z.ext C).Qz T),ax (v:=Δ i) Ψ ((B.ext C).Qz T)];apply(P2 (i:=i) (h.ext S)).mono;rintro ao U _ ⟨K,bj,aM,ap⟩;have aq:=S.trans K;rw[iy];have au:=(z.ext C).ext K;have aN:=(B.ext C).ext K;have bk:=Q.size;have z3:=C.size;have z4:=K.size;have aO:(il s i s.funs.length).length<=100000000:=by
   have h1:=(h.ext aq).2.2.1.1;have W:=rA s;have bl:t.cells.length=s.cells.length:=by have:=congrArg S5 h.2.1;unfold aD.bY at this;rw[r8]at this;exact this
   have aP:∀(L:List bU),L.length<=(L.flatMap fy).length:=λL=>by
    induction L with
    |nil=>exact o4 _
    |cons a L bm=>rw[X8,r9,b6];have:(fy a).length=a.cs.length+1:=rfl;omega
   have bn:=aP s.funs;unfold il;rw[r8];have:=R5 (kj s i) (Y1 s.funs.length);rw[List.length_range]at this;omega
  have low:∀{G:x3},ai (λr=>leads ao r) U G->Ext w G:=λE=>aq.then E λr br he=>by have:=ap r he;omega
  have X:∀{G:x3}{g:Nat}{e:p9}{cs:List x1},g<aK.heap.size->ag U g e cs->ai (λr=>leads ao r) U G->ag G g e cs:=λbt aQ E=>aQ.ab E λhe=>by have:=ap _ he;omega
  have bw:=z.lt;have bz:=B.lt;refine(EE (p:=λj=>!nu s j) aM aO λw' j E M=>?_).mono ?_
  .have M:0<=j/\∃f,s.funs[j.toNat]?=σ f:=by
    unfold il at M;obtain⟨q,H,rfl⟩:=j5.1 M;have⟨H,_⟩:=T4.1 H;have H:=T8.1 H;exact⟨Ω,_,x6 (by rw[u7];exact H)⟩
   have⟨bA,f,ae⟩:=M;apply az func155;have aR:=low E;rw[ax (v:=Γ af) Ψ ((X Ω au E).Qz T)];have av:=kZ (h.ext aR) ae;rw[show((j.toNat:Nat):Int)=j by omega]at av;apply av.mono;rintro r aw _ ⟨aS,bC,_,I⟩;rw[aW an.u I.ls,bB];refine⟨?_,aS⟩;unfold nu;rw[ae];simp only;congr 1;by_cases W:f.sc.length=2
   .rw[decide_eq_true W,decide_eq_false Ω];rfl
   .rw[decide_eq_false W,decide_eq_true Ω];rfl
  rintro aT aw _ ⟨N,I,_⟩;have aU:(il s i s.funs.length).filter (λj=>!!nu s j)=kk s i:=by unfold kk;congr 1;funext j;rw[Bool.not_not]
  rw[aU]at I;have aV:=low N;have aX:=X Ω au N;have aY:=X Ω aN N;refine bu an.i λbD bE bF ay aZ=>?_;have⟨_,_,_,aA⟩:=da I.ls;have z5:=N.size;have bG:=ay.size;refine bq (v:=aT) an.i (by rw[aA];rfl) (by rw[aA];rfl) aZ Φ λa1 a2 bH a6=>?_;have O:Ext aw a1:=ay.put a2 Ω;have aB:=aV.trans O;have Y:=aX.ext O;have Z:=aY.ext O;rw[ax (v:=Γ af) Ψ (Y.Qz T),ax (v:=Δ i) Ψ (Z.Qz T)];apply(EA (i:=i) (h.ext aB)).mono;rintro _ a7 _ ⟨aE,cap,rfl,a8⟩;refine bu pk.i λgo bI bJ ba bb=>?_;have bK:=aE.size;refine bq (v:=.func (.func sJ) #[] cap) pk.i T rfl bb Φ λaF bc bL be=>?_;have aG:Ext a7 aF:=ba.put bc Ω;have y:=aE.trans aG;have J:=aB.trans y;rw[ax (v:=Γ af) Ψ ((Y.ext y).Qz T),ax (v:=Δ i) Ψ ((Z.ext y).Qz T),iy];have bf:∀l,p4 aF sJ cap l (ep n s i):=λl w' v P ad=>a8 l w' v (aG.trans P) ad;apply(xN (h.ext J) (ac.ext J) aL ak (P5 (h.ext J) (ac.ext J) be bf (a6.ext y) (I.ext (O.trans y)) (Y.ext y) (Z.ext y) _)).mono;rintro _ bM _ ⟨bg,rfl⟩;rw[bo,bp];exact⟨J.trans bg,(λh=>by cases h),λbN _ P=>by rw[ak]at P;cases P;rfl⟩
end
def bg(s:ap)(i:Int):Λ:=match s.vars[i.toNat]? with
 |some x=>aC x
 |none=>[]
def eT(s:ap)(sc:Λ)(pos:Int):Nat->Nat->Λ->List (Λ)
 |0,_,tl=>[tl]
 |m+1,p,tl=>if(p:Int)=pos then eT s sc pos m (p+1) tl else(bg s (sc.getD p 0)).flatMap λv=>eT s sc pos m (p+1) (tl.set p v)
def p6(p:Nat)(pos:Int)(a b:Λ):Prop:=a.length=b.length/\∀q:Nat,q<p\/(q:Int)=pos->a[q]?=b[q]?
def p6.set{p:Nat}{a b:Λ}(h:p6 p pos a b)(f:(p:Int)≠pos)(v:Int):p6 (p+1) pos (a.set p v) (b.set p v):=by
 refine⟨by rw[c9,c9,h.1],λq r=>?_⟩;rw[X0,X0,h.1];by_cases e:p=q
 .rw[if_pos e,if_pos e]
 .rw[if_neg e,if_neg e];exact h.2 q Ω
theorem xS{s:ap}{sc:Λ}{pos:Int}:∀(m p:Nat)(a b:Λ),a.length=p+m->p6 p pos a b->eT s sc pos m p a=eT s sc pos m p b
 |0,p,a,b,r,h=>by
  unfold eT;congr 1;refine Y4 λq=>?_;by_cases e:q<p
  .exact h.2 q (.inl e)
  .rw[Z2 Ω,Z2 (by have:=h.1;omega)]
 |m+1,p,a,b,r,h=>by
  unfold eT;split
  .rename_i f;refine xS m (p+1) a b Ω ⟨h.1,λq e=>h.2 q ?_⟩;omega
  .rename_i f;congr 1;funext v;exact xS m (p+1) _ _ (by rw[c9];omega) (h.set f v)
section
variable{af gT:Nat}{A R:ak}{n:aG}{s:ap}{t:aD}
def P7{aM:x1}{cap:Array x1}{M:ak}{I:List (Λ)->x3->Prop}(bA:bi n.k n.sizes s)(bB:∀u∈sc,0<=u/\u<n.sizes.length)(b4:sc.length<=6)(aY:∃c,aM= .slice (σ ⟨gt,0,ν⟩) sc.length c)(bC:M gt)(aG:∀d w,I d w->bx w af gT A R n s t/\Laid w/\aI .i64 w aK sc/\∀r,M r->r<w.heap.size)(J:∀d w w',Ext w w'->I d w->I d w')(bD:∀d w w',ai (λr=>r=gt) w w'->I d w->I d w')(bE:∀d tl w,I d w->av .i64 ah w gt aM tl->tl.length=sc.length->am x7 ey cap.toList w λ_ w'=>I (d++[tl]) w'/\av .i64 ah w' gt aM tl/\ai M w w'):
  ∀(m p:Nat)(tl:Λ)(d:List (Λ))(w:x3),sc.length=p+m->tl.length=sc.length->I d w->av .i64 ah w gt aM tl->
   am x7 IC [Γ af,aK,aM,Δ (p:Int),Δ pos,.func (.func ey) #[] cap] w λ_ w'=>∃Y,p6 p pos Y tl/\I (d++eT s sc pos m p tl) w'/\av .i64 ah w' gt aM Y/\ai M w w':=by
 intro m;induction m with
 |zero=>
  intro p tl d w bF aJ Z hm;have⟨aZ,a2,U,a7⟩:=aG d w Z;have⟨_,_,_,aL⟩:=da U;have⟨c,a8⟩:=id aY;apply hG func161;refine bd λg1 V bG aA ae=>?_;refine bd λap aa bH aq f=>?_;refine bd λaB bI bJ P Q=>?_;refine bd λaO bK bL L y=>?_;refine bd λba bM bN E aj=>?_;refine bd λaP a bO z N=>?_;have B:=((((aA.trans aq).trans P).trans L).trans E).trans z;have f:ag a ap an [aK]:=by rw[aL]at f ⊢;exact(((f.ext P).ext L).ext E).ext z
  have y:ag a aO ah [Δ (p:Int)]:=(y.ext E).ext z;have N:ag a aP Al [.func (.func ey) #[] cap]:=N;rw[ax (v:=Δ (p:Int)) Ψ (y.Qz T),ax (v:=aK) Ψ (f.Qz T),aW an.u (U.ext B),be,al];refine⟨λ_=>?_,λh=>absurd Ω h⟩;rw[ax (v:=.func (.func ey) #[] cap) Ψ (N.Qz T)];apply am.mono (bE d tl a (J d w a B Z) (hm.ext B) aJ);rintro _ bb _ ⟨h1,C,S⟩;intro bf G _;exact⟨tl,⟨T,λ_ _=>rfl⟩,J _ _ _ G h1,C.ext G,((B.ab M).trans S).trans (G.ab M)⟩
 |succ m bh=>
  intro p tl d w bF aJ Z hm;have⟨aZ,a2,U,a7⟩:=aG d w Z;have⟨_,_,_,aL⟩:=da U;have⟨c,a8⟩:=id aY;apply hG func161;refine bd λg1 V bG aA ae=>?_;refine bd λap aa bH aq f=>?_;refine bd λaB bI bJ P Q=>?_;refine bd λaO bK bL L y=>?_;refine bd λba bM bN E aj=>?_;refine bd λaP a bO z N=>?_;have B:=((((aA.trans aq).trans P).trans L).trans E).trans z;have ae:ag a g1 dd [Γ af]:=((((ae.ext aq).ext P).ext L).ext E).ext z;have f:ag a ap an [aK]:=by rw[aL]at f ⊢;exact(((f.ext P).ext L).ext E).ext z
  have Q:ag a aB an [aM]:=by rw[a8]at Q ⊢;exact((Q.ext L).ext E).ext z
  have y:ag a aO ah [Δ (p:Int)]:=(y.ext E).ext z;have aj:ag a ba ah [Δ pos]:=aj.ext z;have N:ag a aP Al [.func (.func ey) #[] cap]:=N;have aD:∀{O:x3}{K:x1->Prop},ag O ap an [aK]->K aK->ac x7 (u5 an (Γ ap)) O K:=λau aQ=>by rw[ax (v:=aK) Ψ (au.Qz T)];exact aQ
  have aR:∀{O:x3}{K:x1->Prop},ag O aB an [aM]->K aM->ac x7 (u5 an (Γ aB)) O K:=λau aQ=>by rw[ax (v:=aM) Ψ (au.Qz T)];exact aQ
  rw[ax (v:=Δ (p:Int)) Ψ (y.Qz T)];apply aD f;rw[aW an.u (U.ext B),be,al];refine⟨λh=>Ω,λ_=>?_⟩;rw[ax (v:=Δ (p:Int)) Ψ (y.Qz T),ax (v:=Δ pos) Ψ (aj.Qz T),be,al];refine⟨λhe=>?_,λbj=>?_⟩
  .rw[ax (v:=Γ af) Ψ (ae.Qz T)];refine aD f (aR Q ?_);rw[ax (v:=Δ (p:Int)) Ψ (y.Qz T),aN,wrap_i64 Ω Ω,ax (v:=Δ pos) Ψ (aj.Qz T),ax (v:=.func (.func ey) #[] cap) Ψ (N.Qz T)];apply(bh (p+1) tl d a Ω aJ (J d w a B Z) (hm.ext B)).mono;rintro _ bb _ ⟨Y,h1,C,S,aw⟩;intro bf G _;refine⟨Y,⟨h1.1,λq bk=>h1.2 q Ω⟩,?_,S.ext G,((B.ab M).trans aw).trans (G.ab M)⟩;have:eT s sc pos (m+1) p tl=eT s sc pos m (p+1) tl:=by rw[eT,if_pos he]
   rw[this];exact J _ _ _ G C
  intro bb ao _ _;have bl:=B.trans ao;have⟨u,hu⟩:=aH (l:=sc) (i:=p) Ω;have⟨bP,b5⟩:=bB u (x5 hu);have b6:=bA.vars;have⟨x,bm⟩:=aH (l:=s.vars) (i:=u.toNat) Ω;have bQ:bg s (sc.getD p 0)=aC x:=by unfold bg;rw[u4,hu,V4,bm]
  rw[ax (v:=Γ af) Ψ ((ae.ext ao).Qz T)];apply aD (f.ext ao);rw[ax (v:=Δ (p:Int)) Ψ ((y.ext ao).Qz T),bc an.u ah.i Ψ (U.ext bl) hu];apply(jK (i:=u) (aZ.ext bl)).mono;rintro _ bf _ ⟨⟨b,bR,rfl,bn⟩,G⟩;apply(ne (b:=b) (n:=bR)).mono;rintro _ ay _ ⟨bS,a1,rfl,b7,bo⟩;have bp:=mz bn bP bm;have aS:=(ao.trans G).trans bS;have aE:=B.trans aS;have b9:=aA.size;have ca:=aq.size;have z3:=P.size;have z4:=L.size;have z5:=E.size;have cb:=z.size;have cc:=aS.size;have cd:=(ao.trans G).size;have out:∀{r:Nat},w.heap.size<=r->¬M r:=λh1 C=>by have:=a7 _ C;omega
  have bT:∀j v,(aC x)[j]?=σ v->((aC x).take (j+1)).flatMap (λv=>eT s sc pos m (p+1) (tl.set p v))=((aC x).take j).flatMap (λv=>eT s sc pos m (p+1) (tl.set p v))++eT s sc pos m (p+1) (tl.set p v):=λj v bq=>by
   rw[u9,bq,n9,List.flatMap_append,List.flatMap_singleton]
  have bU:eT s sc pos (m+1) p tl=(aC x).flatMap λv=>eT s sc pos m (p+1) (tl.set p v):=by rw[eT,if_neg bj,bQ]
  refine jW.old ⟨_,false,iT,#[Γ a1],_,_,_,_,λj w'=>∃H,p6 p pos H tl/\I (d++((aC x).take j).flatMap λv=>eT s sc pos m (p+1) (tl.set p v)) w'/\av .i64 ah w' gt aM H/\ai M ay w',λ_ _ _=>False,T,(nc (g:=a1) bn.1).s,?_,
   λ_ _ J h=>⟨h.1.ext J,h.2.ext J⟩,λ_ _ _ aT ⟨H,h1,C,S,aw⟩=>⟨H,h1,J _ _ _ aT C,S.ext aT,aw.trans (aT.ab M)⟩,λ_ _ _ _ _ h=>h,⟨bo,a2.ext aE⟩,⟨tl,⟨T,λ_ _=>rfl⟩,by simpa using J d w ay aE Z,hm.ext aE,ai.refl _ _⟩,?_,?_,λ_ _ h=>h.elim,λ_ _ _ h=>h.elim⟩
  .rintro _ _ _ _ ⟨_,_,_,_,rfl⟩;rfl
  .rintro _ j _ bV ⟨_,_⟩ ⟨bq,rfl,v,ad,bW⟩ ⟨H,az,aF,aU,aV⟩;cases bW;intro br W _ _;have bX:(aC x)[j]?=σ (v:Int):=by rw[<-bp,x8,ad];rfl
   have aX:ai M ay br:=aV.trans (W.ab M);have a6:∀{O:x3}{g:Nat}{e:p9}{cs:List x1},ai M ay O->w.heap.size<=g->ag a g e cs->ag O g e cs:=λbY bZ au=>(au.ext aS).ab bY (out bZ);have bt:=aU.ext W;have b0:=az.1;apply aR (a6 aX Ω Q);rw[ax (v:=Δ (p:Int)) Ψ ((a6 aX Ω y).Qz T),hN T an.u ah.i bt Ω];refine hP ah.i bt Ω λbu bw ce b1=>?_;have X:ai M ay bu:=aX.trans (bw.mono λr _ h=>by have h:r=gt:=h;rw[h];exact bC);have b2:=bD _ _ _ bw (J _ _ _ W aF);rw[ax (v:=Γ af) Ψ ((a6 X Ω ae).Qz T)];refine aD (a6 X Ω f) (aR (a6 X Ω Q) ?_);rw[ax (v:=Δ (p:Int)) Ψ ((a6 X Ω y).Qz T),aN,wrap_i64 Ω Ω,ax (v:=Δ pos) Ψ ((a6 X Ω aj).Qz T),ax (v:=.func (.func ey) #[] cap) Ψ ((a6 X Ω N).Qz T)];refine(bh (p+1) (H.set p v) _ bu Ω (by rw[c9];omega) b2 b1).mono ?_;rintro _ cg _ ⟨Y,h1,C,S,aw⟩;have bz:=X.trans aw;have hw:=xS (s:=s) (sc:=sc) m (p+1) (H.set p (v:Int)) (tl.set p (v:Int)) (by rw[c9];omega) (az.set bj v);rw[hw,V1,<-bT j v bX]at C;refine⟨⟨bo.ab bz (out Ω),(aG _ _ C).2.1⟩,⟨Y,⟨by rw[h1.1,c9];exact b0,λq bk=>?_⟩,C,S,bz⟩,λh=>by cases h⟩;have b3:p≠q:=Ω
   rw[h1.2 q Ω,X0,if_neg b3];exact az.2 q bk
  .rintro k bV rfl ⟨H,az,aF,aU,aV⟩;intro br W _;rw[b8 (by rw[<-bp,r8];exact o4 _),<-bU]at aF;exact⟨H,az,J _ _ _ W aF,aU.ext W,((aE.ab M).trans aV).trans (W.ab M)⟩
end
def simpStep(of:Λ->Int)(p:Int×Option (Λ))(tl:Λ):Int×Option (Λ):=if p.2=ν\/of tl<p.1 then(of tl,σ tl)else p
def eb(k:Int)(of:Λ->Int)(l:List (Λ)):Int×Option (Λ):=l.foldl (simpStep of) (k,ν)
def kl(w:x3)(B:Nat)(v:x1):Option (Λ)->Prop
 |none=>v= .slice ν 0 0
 |some tl=>tl≠[]/\∃g,B<=g/\av .i64 ah w g v tl
def kl.ab{v:x1}{o:Option (Λ)}{S:ak}(h:kl w B v o)(e:ai S w w')(f:∀r,B<=r->r<w.heap.size->¬S r):kl w' B v o:=by
 cases o with
 |none=>exact h
 |some tl=>
  have⟨h1,g,p,a⟩:=h;exact⟨h1,g,p,bw a e λr q=>by have⟨s,x⟩:=bS a q;exact f r Ω Ω⟩
def kl.ext{v:x1}{o:Option (Λ)}(h:kl w B v o)(J:Ext w w'):kl w' B v o:=h.ab (J.ab λ_=>False) λ_ _ _ h=>h
def kl.one{v:x1}{o:Option (Λ)}(h:kl w B v o):∃a n c,v= .slice a n c:=by
 cases o with
 |none=>exact⟨ν,0,0,h⟩
 |some tl=>
  have⟨_,g,_,e⟩:=h;exact da e.ls
def P8(n:aG)(s:ap)(B:Nat)(w':x3)(j pos v:Int)(r:x1):Prop:=((¬∃f u x,jL s j pos v f u x)->r= .tuple #[Δ 0,.slice ν 0 0,Δ 1])/\∀f u x,jL s j pos v f u x->
 ∃a,r= .tuple #[Δ (eb n.k (ez s j.toNat) (eT s f.sc pos f.sc.length 0 ((p8 f.sc.length 0).set pos.toNat v))).1,a,Δ 0]/\kl w' B a (eb n.k (ez s j.toNat) (eT s f.sc pos f.sc.length 0 ((p8 f.sc.length 0).set pos.toNat v))).2
section
variable{w:x3}{af gT:Nat}{A R:ak}{n:aG}{s:ap}{t:aD}
theorem P9{j:Int}(h:bx w af gT A R n s t)(bJ:Laid w)(cz:∀r,A r\/R r->r<w.heap.size):am x7 HG [Γ af,Δ j,Δ pos,Δ v] w λr w'=>Ext w w'/\P8 n s w.heap.size w' j pos v r:=by
 refine az func77 ?_;refine bd λg1 V cA bK U=>?_;refine bd λbL aa cB a2 W=>?_;have U:ag aa g1 dd [Γ af]:=U.ext a2;have W:ag aa bL ah [Δ j]:=W;have aD:=bK.trans a2;rw[ax (v:=Γ af) Ψ (U.Qz T),ax (v:=Δ j) Ψ (W.Qz T)];refine(EB (h.ext aD)).mono ?_;rintro _ cC _ ⟨aj,e,rfl,he,a6⟩;have aE:=aD.trans aj;rw[bB,al];refine⟨λao=>⟨aE,λ_=>by rw[he.resolve_left ao],λf u x G=>absurd (a6.2 ⟨f,u,x,G⟩) ao⟩,λbM=>?_⟩;obtain⟨f,u,x,G⟩:=a6.1 (Z9.1 bM);have S:=U.ext aj;have a8:=W.ext aj;rw[ax (v:=Γ af) Ψ (S.Qz T),ax (v:=Δ j) Ψ (a8.Qz T)];have ba:=kZ (h.ext aE) G.ae;have cD:=G.xQ;rw[show((j.toNat:Nat):Int)=j by omega]at ba;refine ba.mono ?_;rintro aK bN _ ⟨ap,bH,cE,au⟩;have bO:=aE.trans ap;obtain⟨aF,_,cF⟩:=h.2.2.2.1.funs f (x5 G.ae);have bP:f.sc.length<=6:=aF.scope.2;obtain⟨m,hm⟩:∃m,m=f.sc.length:=⟨_,T⟩;rw[aW an.u au.ls,<-hm];refine j0 (k:=.i64) an.u ah.i Ω Ω λgt bb cG bc be=>?_;have bf:av .i64 ah bb gt (.slice (σ ⟨gt,0,ν⟩) m m) (p8 m 0):=av.of (n:=m) (b1.full (by simpa using be) Ξ (by simp[maxLen];omega));refine bu an.i λgtb cH cI bg bQ=>?_;have cJ:=aD.size;have z3:=aj.size;have z4:=ap.size;have z5:=bc.size;have cK:=bg.size;refine bq (v:=.slice (σ ⟨gt,0,ν⟩) m m) an.i T rfl bQ Φ λbR bT cL aG=>?_;have aw:Ext bb bR:=bg.put bT Ω;have cM:=(x4.1 G.hu).1;have cN:=G.eh;rw[ax (v:=.slice (σ ⟨gt,0,ν⟩) m m) Ψ (aG.Qz T),hN (i:=pos.toNat) Ω an.u ah.i (bf.ext aw) Θ];refine hP ah.i (bf.ext aw) Θ λbU bh bV bW=>?_;have cO:=be.lt;have cP:=aw.size;have X:Ext bN bU:=(bc.trans aw).put bh Ω;have bi:=bO.trans X;have bj:=(S.ext ap).ext X;have bX:=(a8.ext ap).ext X;have bY:=aG.ab bh Ω;rw[ax (v:=Γ af) Ψ (bj.Qz T)];refine(ki (h.ext bi)).mono ?_;rintro _ bZ _ ⟨rfl,bk⟩;refine bu aq.i λY cQ cR bl bm=>?_;refine bq (v:=Δ n.k) aq.i T rfl bm Φ λcS b0 cT b2=>?_;have cU:=bV;have z9:=bk.size;have cV:=bl.size;have cW:=bm.lt;refine bu an.i λZ H cX aH ay=>?_;have ay:ag H Z an [.slice ν 0 0]:=ay;have b3:Ext bZ H:=(bl.then b0 λr E he=>by have he:r=Y:=he;omega).trans aH;have N:=bk.trans b3;have bn:=bi.trans N;have br:=bj.ext N;have b4:=bX.ext N;have bt:=bY.ext N;have b5:=bW.ext N;have b6:=b2.ext aH;have cY:=ay.lt;have cZ:=aG.lt;have c0:=U.lt;have c1:=W.lt;have z12:=aH.size;have c2:=bn.size;rw[ax (v:=Γ af) Ψ (br.Qz T),ax (v:=.slice (σ ⟨gt,0,ν⟩) m m) Ψ (bt.Qz T),iy];obtain⟨M,b7⟩:∃M:ak,M=λr=>r=gt\/r=Y\/r=Z:=⟨_,T⟩;have O:∀r,M r↔r=gt\/r=Y\/r=Z:=λr=>by rw[b7]
 have aJ:∀r,M r->w.heap.size<=r/\r<H.heap.size:=λr E=>by rcases(O r).1 E with rfl|rfl|rfl<;>omega
 have c3:aI .i64 H aK f.sc:=au.ls.ext (X.trans N);have aB:∀{bz:x3},ai M H bz->Ext w bz:=λp=>bn.then p λr E he=>by have:=aJ r he;omega
 have b8:∀r,leads aK r->¬M r:=λr E he=>by
  obtain⟨c4,b9⟩:=bS au E;rcases(O r).1 he with y|y|y<;>omega
 let I:List (Λ)->x3->Prop:=λd w'=>ai M H w'/\ag w' Y aq [Δ (eb n.k (ez s j.toNat) d).1]/\∃B,ag w' Z an [B]/\kl w' H.heap.size B (eb n.k (ez s j.toNat) d).2;have step:∀d tl,eb n.k (ez s j.toNat) (d++[tl])=simpStep (ez s j.toNat) (eb n.k (ez s j.toNat) d) tl:=λd tl=>by unfold eb;rw[S6];rfl
 have bA:=h.2.2.2.1;have c5:=bA.vars;refine(P7 (gT:=gT) (sc:=f.sc) (pos:=pos) (gt:=gt) (M:=M) (I:=I) (A:=A) (R:=R) (t:=t) (n:=n) bA (λu hu=>⟨(aF.scope.1 u hu).1,aF.vars u hu⟩) bP ⟨m,by rw[hm]⟩ ((O _).2 (.inl T)) ?_ ?_ ?_ ?_ f.sc.length 0 ((p8 m 0).set pos.toNat v) [] H Ω (by rw[c9,List.length_replicate,hm]) ?_ b5).mono ?_
 .rintro d w' ⟨p,K,_⟩;refine⟨h.ext (aB p),bJ.ext (aB p),(bw (au.ext (X.trans N)) p λr E=>b8 r E).ls,λr E=>?_⟩;have:=(aJ r E).2;have:=p.size;omega
 .rintro d w' cb J ⟨p,K,B,P,C⟩;exact⟨p.trans (J.ab M),K.ext J,B,P.ext J,C.ext J⟩
 .rintro d w' cb aC ⟨p,K,B,P,C⟩;have z:=p.size;exact⟨p.trans (aC.mono λr _ he=>(O r).2 (.inl he)),K.ab aC Ω,B,P.ab aC Ω,C.ab aC λr E _ he=>by have he:r=gt:=he;omega⟩
 .rintro d tl w' ⟨p,K,B,P,C⟩ bC aL;refine az func162 ?_;have cc:=aB p;have aM:∀{r:Nat},r≠gt->r≠Y->r≠Z->¬M r:=λa b c he=>by rcases(O _).1 he with y|y|y<;>omega
  have cd:=br.ab p (aM Ω Ω Ω);have ce:=b4.ab p (aM Ω Ω Ω);have bD:=bt.ab p (aM Ω Ω Ω);rw[ax (v:=Γ af) Ψ (cd.Qz T),ax (v:=Δ j) Ψ (ce.Qz T),ax (v:=.slice (σ ⟨gt,0,ν⟩) m m) Ψ (bD.Qz T),show j=((j.toNat:Nat):Int) by omega];refine Ez (h.ext cc) bC.ls λb9 bE L=>?_;rw[bo,bp];have cg:=p.trans (L.ab M);have S:=K.ext L;have aN:=P.ext L;have ch:=C.ext L;obtain⟨c6,fn,c7,aO⟩:=C.one;have aQ:=bC.ext L;refine aV (λr aR=>r= .bool (decide ((eb n.k (ez s j.toNat) d).2=ν\/ez s j.toNat tl<(eb n.k (ez s j.toNat) d).1))/\Ext bE aR) ?_ ?_
  .rintro _ aR ⟨rfl,q⟩;have aS:=cg.trans (q.ab M);rw[al];refine⟨λci=>?_,λaT=>?_⟩
   .rw[ax (v:=.slice (σ ⟨gt,0,ν⟩) m m) Ψ (((bD.ext L).ext q).Qz T)];rw[<-hm]at aL;refine(kH (aQ.ext q).ls Ω).mono ?_;rintro a7 cj _ ⟨ac,ck,c8,aU⟩;obtain⟨_,_,_,bF⟩:=da aU.ls;have cl:=aS.trans (ac.ab M);have db:=aS.size;refine bq (v:=Δ (ez s j.toNat tl)) aq.i T rfl ((S.ext q).ext ac) Ξ λdc aX de cm=>?_;refine bq (v:=a7) an.i (by rw[bF];rfl) (by rw[bF];rfl) (((aN.ext q).ext ac).ab aX Ω) Ξ λcn aY df cp=>?_;have aZ:ai M cj cn:=(aX.mono λr _ he=>(O r).2 (.inr (.inl he))).trans (aY.mono λr _ he=>(O r).2 (.inr (.inr he)));have ad:eb n.k (ez s j.toNat) (d++[tl])=(ez s j.toNat tl,σ tl):=by rw[step];unfold simpStep;rw[if_pos ci]
    refine⟨⟨cl.trans aZ,?_,a7,cp,?_⟩,?_,?_⟩
    .rw[ad];exact cm.ab aY Ω
    .rw[ad];refine⟨λy=>by rw[y]at aL;simp at aL;omega,ck,Ω,bw aU aZ λr E he=>?_⟩;obtain⟨dg,dh⟩:=bS aU E;have:=(aJ r he).2;omega
    .exact ((((aQ.ext q).ext ac).ab aX Ω).ab aY Ω)
    .exact ((L.ab M).trans (q.ab M)).trans ((ac.ab M).trans aZ)
   .have ad:eb n.k (ez s j.toNat) (d++[tl])=eb n.k (ez s j.toNat) d:=by rw[step];unfold simpStep;rw[if_neg aT]
    refine⟨⟨aS,?_,B,aN.ext q,?_⟩,aQ.ext q,(L.ab M).trans (q.ab M)⟩
    .rw[ad];exact S.ext q
    .rw[ad];exact ch.ext q
  intro aA bG;rw[ax (v:=B) Ψ (aN.Qz T),aO,mW an.u];cases Q:(eb n.k (ez s j.toNat) d).2 with
  |none=>
   rw[Q]at C;have:B= .slice ν 0 0:=C;rw[aO]at this;cases this;rw[ca];exact⟨λ_=>bG _ _ ⟨by rw[decide_eq_true (.inl Q)],Ext.refl _⟩,λy=>by cases y⟩
  |some di=>
   rw[Q]at C;obtain⟨ao,dj,_,cq⟩:=C;obtain⟨_,⟨rfl,y⟩|⟨dk,_,bI,_⟩⟩:=cq
   .exact absurd (j6 y) ao
   rw[aO]at bI;cases bI;rw[ca];refine⟨λy=>by simp at y,λ_=>?_⟩;rw[ax (v:=Δ (eb n.k (ez s j.toNat) d).1) Ψ (S.Qz T),aP];refine bG _ _ ⟨?_,Ext.refl _⟩;congr 1;exact decide_eq_decide.2 ⟨.inr,λy=>y.resolve_left (by rw[Q];simp)⟩
 .exact⟨ai.refl _ _,b6,_,ay,T⟩
 rintro _ bE _ ⟨dl,_,⟨p,K,B,P,C⟩,_,_⟩;intro aR q _ _;rw[ax (v:=Δ (eb n.k (ez s j.toNat) ([]++eT s f.sc pos f.sc.length 0 ((p8 m 0).set pos.toNat v))).1) Ψ ((K.ext q).Qz T),ax (v:=B) Ψ ((P.ext q).Qz T)];refine⟨(aB p).trans q,λaT=>absurd ⟨f,u,x,G⟩ aT,λa1 u' dm cr=>?_⟩;obtain⟨rfl,_⟩:=G.same cr;rw[List.nil_append,hm]at C ⊢;refine⟨B,T,?_⟩;have:=C.ext q;cases Q:(eb n.k (ez s j.toNat) (eT s a1.sc pos a1.sc.length 0 ((p8 a1.sc.length 0).set pos.toNat v))).2 with
 |none=>rw[Q]at this;exact this
 |some tl=>rw[Q]at this;obtain⟨ct,cu,dn,cw⟩:=this;exact⟨ct,cu,Ω,cw⟩
end
structure db where
 e2:Int
 i:Int
 j:Int
 v:Int
def gf(a:db):List x1:=[Δ a.e2,Δ a.i,Δ a.j,Δ a.v]
def gq(c:Prop)[Decidable c](a:db):List db:=if c then[a]else[]
def k0{c:Prop}[Decidable c]{a:db}:(gq c a).length<=1:=by
 unfold gq;split<;>simp
def p7{c:Prop}[Decidable c]{a b:db}(h:b∈gq c a):c/\b=a:=by
 unfold gq at h;split at h
 .rename_i e;exact⟨e,o9.1 h⟩
 .cases h
def h0(n:aG)(s:ap)(i:Int):Int×Int:=b0 n.k (bg s i) (ep n s i)
def im(n:aG)(s:ap)(i:Int):Int×Int:=b0 n.k (bg s i) (mA n s i)
def io(n:aG)(s:ap)(i v:Int):List db:=gq (min (s.zero+ep n s i v) n.k=n.k) ⟨1,i,-1,v⟩
def lK(n:aG)(s:ap)(i:Int):List db:=gq (0<(h0 n s i).1\/(h0 n s i).2<0) ⟨1,i,-1,-1⟩
def qa(n:aG)(s:ap)(i:Int):List db:=gq (0<(im n s i).1\/(im n s i).2<0) ⟨4,i,-1,-1⟩
def jM(n:aG)(s:ap)(i:Int):List db:=if hz n s i=true then lK n s i++((bg s i).flatMap (io n s i)++qa n s i)else[]
def mB(n:aG)(s:ap)(m:Nat):List db:=(Y1 m).flatMap λi:Nat=>jM n s (i:Int)
def h2(n:aG)(s:ap)(j:Nat)(f:bU)(p:Nat)(v:Int):Int×Option (Λ):=eb n.k (ez s j) (eT s f.sc p f.sc.length 0 ((p8 f.sc.length 0).set p v))
def lL(n:aG)(s:ap)(j:Nat)(f:bU)(v:Int):Int×Int:=b0 n.k (bg s (f.sc.getD 1 0)) (ik n s j 0 v (f.sc.getD 1 0))
def fC(n:aG)(s:ap)(j:Nat)(f:bU)(p:Nat)(i v:Int):List db:=gq (0<(h2 n s j f p v).1\/(h2 n s j f p v).2=ν) ⟨2,i,j,v⟩
def hb(n:aG)(s:ap)(j:Nat)(f:bU)(p:Nat)(i v:Int):List db:=gq (f.sc.length=2/\p=0/\0<(lL n s j f v).1) ⟨3,i,j,v⟩
def ip(n:aG)(s:ap)(j:Nat)(f:bU)(p:Nat):List db:=(bg s (f.sc.getD p 0)).flatMap λv=>fC n s j f p (f.sc.getD p 0) v++hb n s j f p (f.sc.getD p 0) v
def km(n:aG)(s:ap)(j:Nat):List db:=match s.funs[j]? with
 |some f=>if f.live≠0 then(Y1 f.sc.length).flatMap (ip n s j f)else[]
 |none=>[]
def mC(n:aG)(s:ap)(m:Nat):List db:=(Y1 m).flatMap (km n s)
def lM(n:aG)(s:ap):List db:=mB n s n.sizes.length++mC n s s.funs.length
def ei(n:aG)(s:ap)(level:Int):List db:=(lM n s).filter λa=>decide (a.e2<=level)
theorem lN{α β:Type}{f:α->List β}{k:Nat}:∀{l:List α},(∀a∈l,(f a).length<=k)->(l.flatMap f).length<=k*l.length
 |[],_=>Ξ
 |a::l,h=>by
  have:=h a (.head _);have:=lN λb e=>h b (.tail _ e);rw[X8,r9,b6,Nat.mul_add];omega
def uv{s:ap}{i:Int}(a:bi k sizes s):(bg s i).length<=32:=by
 unfold bg;split
 .rename_i x J;have:=(x4.1 J).1;have:=a.vars;have⟨z,e⟩:=aH (l:=sizes) (i:=i.toNat) Ω;have:=(a.var _ x z J e).1;have:=a.fz.2.2 z (x5 e);have q:(aC x).length<=x.un.length:=by
   unfold aC;apply Y9 (R5 _ _);rw[r8,List.length_range];exact o4 _
  omega
 .simp
section
variable{k:Int}{n:aG}{s:ap}
def Qa{i:Int}(a:bi n.k n.sizes s):(jM n s i).length<=34:=by
 unfold jM;split
 .have h1:(lK n s i).length<=1:=k0;have e:(qa n s i).length<=1:=k0;have:=lN (l:=bg s i) (f:=io n s i) (k:=1) λv _=>k0;have:=uv (i:=i) a;rw[r9,r9];omega
 .simp
def EF{m:Nat}(a:bi n.k n.sizes s):(mB n s m).length<=34*m:=by
 have:=lN (l:=Y1 m) (f:=λi:Nat=>jM n s (i:Int)) (k:=34) λv _=>Qa a;rw[List.length_range]at this;exact this
def EG{p:Nat}{f:bU}(a:bi n.k n.sizes s):(ip n s j f p).length<=64:=by
 have h1:=lN (l:=bg s (f.sc.getD p 0)) (f:=λv=>fC n s j f p (f.sc.getD p 0) v++hb n s j f p (f.sc.getD p 0) v) (k:=2) λv _=>by
  have h1:(fC n s j f p (f.sc.getD p 0) v).length<=1:=k0;have e:(hb n s j f p (f.sc.getD p 0) v).length<=1:=k0;rw[r9];omega
 have e:=uv (i:=f.sc.getD p 0) a;unfold ip;omega
def Qb(a:bi n.k n.sizes s):(km n s j).length<=384:=by
 unfold km;split
 .rename_i f ae;split
  .have h1:=lN (l:=Y1 f.sc.length) (f:=ip n s j f) (k:=64) λv _=>EG a;have e:f.sc.length<=6:=(a.funs f (x5 ae)).1.scope.2;rw[List.length_range]at h1;omega
  .simp
 .simp
def EH{m:Nat}(a:bi n.k n.sizes s):(mC n s m).length<=384*m:=by
 have:=lN (l:=Y1 m) (f:=km n s) (k:=384) λv _=>Qb a;rw[List.length_range]at this;exact this
def xT{α:Type}{f:Nat->List α}(m:Nat):(Y1 (m+1)).flatMap f=(Y1 m).flatMap f++f m:=by
 rw[List.range_succ,List.flatMap_append,List.flatMap_singleton]
def rO(n:aG)(s:ap)(a:db):Prop:=(1<=a.e2/\a.e2<=4)/\(0<=a.i/\a.i<100)/\(-1<=a.j/\a.j<s.funs.length)/\ -1<=a.v/\a.v<32
def EI{i:Int}(a:bi n.k n.sizes s)(h:v∈bg s i):0<=v/\v<32:=by
 unfold bg at h;split at h
 .rename_i x J;have:=(x4.1 J).1;have:=a.vars;have⟨z,e⟩:=aH (l:=n.sizes) (i:=i.toNat) Ω;have:=(a.var _ x z J e).1;have:=a.fz.2.2 z (x5 e);have:=Ew h;omega
 .cases h
def EJ{a:db}(e:bi n.k n.sizes s)(h:a∈lM n s):rO n s a:=by
 have:=e.fz.2.1;unfold lM at h;rcases o5.1 h with h|h
 .unfold mB at h;have⟨i,hi,h⟩:=R2.1 h;have hi:=T8.1 hi;unfold jM at h;split at h
  .rcases o5.1 h with h|h
   .obtain⟨_,rfl⟩:=p7 h;exact⟨Ξ,by simp only;omega,by simp only;omega,Ξ⟩
   .rcases o5.1 h with h|h
    .obtain⟨v,ad,h⟩:=R2.1 h;obtain⟨_,rfl⟩:=p7 h;have:=EI e ad;exact⟨Ξ,by simp only;omega,by simp only;omega,by simp only;omega⟩
    .obtain⟨_,rfl⟩:=p7 h;exact⟨Ξ,by simp only;omega,by simp only;omega,Ξ⟩
  .cases h
 .unfold mC at h;have⟨j,r,h⟩:=R2.1 h;have r:=T8.1 r;unfold km at h;split at h
  .rename_i f ae;split at h
   .obtain⟨p,q,h⟩:=R2.1 h;have q:=T8.1 q;unfold ip at h;have⟨v,ad,h⟩:=R2.1 h;have:=EI e ad;have w:=(e.funs f (x5 ae)).1;have hu:f.sc.getD p 0∈f.sc:=by rw[u4,x6 q,V4];exact S3 q
    have:=(w.scope.1 _ hu).1;have:=w.vars _ hu;rcases o5.1 h with h|h
    .obtain⟨_,rfl⟩:=p7 h;exact⟨Ξ,by simp only;omega,by simp only;omega,by simp only;omega⟩
    .obtain⟨_,rfl⟩:=p7 h;exact⟨Ξ,by simp only;omega,by simp only;omega,by simp only;omega⟩
   .cases h
  .cases h
def qb(a:db):Int:=((a.e2*100+a.i)*200000000+(a.j+1))*100+(a.v+1)
def fD(a b:Int):Int:=if a<b then-1 else if b<a then 1 else 0
def qc(a b:db):Int:=if fD a.e2 b.e2≠0 then fD a.e2 b.e2 else if fD a.i b.i≠0 then fD a.i b.i else if fD a.j b.j≠0 then fD a.j b.j else fD a.v b.v
def uw(a b:Int):(fD a b= -1/\a<b)\/(fD a b=1/\b<a)\/(fD a b=0/\a=b):=by
 unfold fD;by_cases h:a<b
 .rw[if_pos h];exact .inl ⟨T,h⟩
 .rw[if_neg h];by_cases e:b<a
  .rw[if_pos e];exact .inr (.inl ⟨T,e⟩)
  .rw[if_neg e];exact .inr (.inr ⟨T,Ω⟩)
def Qc{a b:db}(z:s.funs.length<=100000000)(x:rO n s a)(y:rO n s b):qc a b<0↔qb a<qb b:=by
 have⟨A,B,a3,a4⟩:=x;have⟨C,E,F,G⟩:=y;unfold qc qb;rcases uw a.e2 b.e2 with⟨e,h1⟩|⟨e,h1⟩|⟨e,h1⟩<;>rw[e]
 .rw[if_pos Φ];omega
 .rw[if_pos Φ];omega
 rw[if_neg Φ];rcases uw a.i b.i with⟨f,q⟩|⟨f,q⟩|⟨f,q⟩<;>rw[f]
 .rw[if_pos Φ];omega
 .rw[if_pos Φ];omega
 rw[if_neg Φ];rcases uw a.j b.j with⟨h,r⟩|⟨h,r⟩|⟨h,r⟩<;>rw[h]
 .rw[if_pos Φ];omega
 .rw[if_pos Φ];omega
 rw[if_neg Φ];rcases uw a.v b.v with⟨p,w⟩|⟨p,w⟩|⟨p,w⟩<;>rw[p]<;>omega
end
def rP(a:db):∀u∈gf a,u.oneCell'=true:=λu hu=>by
 simp[gf]at hu;rcases hu with rfl|rfl|rfl|rfl<;>rfl
abbrev iq(w:x3)(g:Nat)(v:x1)(l:List db):Prop:=bk gf 4 df w g v l
section
variable{sv:x1}{l:List db}{g ey:Nat}{cap:Array x1}{p:db->Bool}{w:x3}
def ux{i:Nat}{a:db}{K:x1->Prop}(h:iq w g sv l)(hi:l[i]?=σ a):ac x7 (j9 dL sv (Δ (i:Int))) w (λq=>ac x7 (u5 df q) w K)=K (.agg (gf a).toArray):=by
 rw[dw T dL.u df.i h (x4.1 hi).1,bR df.p df.i T (h.range hi)]
def Qd(h:iq w g sv l)(s:∀w' x,Ext w w'->x∈l->am x7 ey (.agg (gf x).toArray::cap.toList) w' λr z=>r= .bool (p x)/\Ext w' z):
  am x7 HI [sv,.func (.func ey) #[] cap] w λv w'=>Ext w w'/\((v=Δ (-1)/\∀x∈l,p x=false)\/∃i:Nat,v=Δ (i:Int)/\i<l.length/\(∀x∈l.take i,p x=false)/\∀x,l[i]?=σ x->p x=true):=by
 apply az func79;rw[eF dL.u h];refine bT.range l.length (λi _ V=>Ext w V/\∀x∈l.take i,p x=false) h.le ⟨Ext.refl _,Ξ⟩ ?_ ?_
 .rintro i _ V k hi ⟨a,e⟩ hk;apply bz Ω;have⟨y,f⟩:=aH (l:=l) hi;rw[ux (h.ext a) f];apply am.mono (s V y a (x5 f));rintro _ aa _ ⟨rfl,q⟩;rw[ca];refine⟨λA=>⟨a.trans q,.inr ⟨i,T,hi,e,λx J=>by rw[f]at J;cases J;exact A⟩⟩,λae=>?_⟩;rw[aN];refine hk _ _ ⟨a.trans q,λx J=>?_⟩;rw[u9,f]at J;rcases o5.1 J with J|J
  .exact e x J
  .simp at J;subst J;exact ae
 .rintro _ V k ⟨a,e⟩;rw[o6]at e;rw[aP,al];exact⟨λh=>Ω,λ_=>⟨a,.inl ⟨T,e⟩⟩⟩
def Qe(h:iq w g sv l)(aW:l.length<=100000000)(af:∀w' x,ai (λr=>leadsTo sv r) w w'->x∈l->am x7 ey (.agg (gf x).toArray::cap.toList) w' λr ay=>r= .bool (p x)/\Ext w' ay):
  am x7 G3 [sv,.func (.func ey) #[] cap] w λv w'=>ai (λr=>leadsTo sv r) w w'/\iq w' g v (l.filter λx=>!p x)/\∀r,leadsTo v r->leadsTo sv r:=by
 apply az func24;apply(Qd h λw' x J=>af w' x (J.ab _)).mono;rintro _ V _ ⟨G,⟨rfl,M⟩|⟨i,rfl,hi,M,aB⟩⟩
 .rw[be,al];refine⟨λ_=>⟨G.ab _,?_⟩,λh=>absurd T h⟩;rw[List.filter_eq_self.2 λx J=>by rw[M x J];rfl];exact⟨h.ext G,λ_ h=>h⟩
 rw[be,al];refine⟨λh=>Ω,λ_=>?_⟩;rw[aN,wrap_i64 Ω Ω];obtain⟨n,N⟩:∃n,l.length=n:=⟨_,T⟩;obtain⟨z,rfl⟩:∃z,sv= .slice (σ ⟨g,0,ν⟩) n z:=by
  obtain⟨_,⟨_,h1⟩|⟨z,cs,h1,_⟩⟩:=h.1
  .omega
  .exact⟨z,by rw[h1,N]⟩
 have ah:∀r,r=g->leadsTo (.slice (σ ⟨g,0,ν⟩) n z) r:=λr O=>⟨_,_,_,T,O.symm⟩;have aC:∀r,leadsTo (.slice (σ ⟨g,0,ν⟩) n z) r->r=g:=λr ⟨_,_,_,C,P⟩=>by cases C;exact P.symm
 have aD:(l.take (i+1)).filter (λx=>!p x)=l.take i:=by
  have⟨y,A⟩:=aH (l:=l) hi;rw[u9,A,List.filter_append,List.filter_eq_self.2 λx J=>by rw[M x J];rfl];simp[aB y A]
 refine⟨λQ R E=>∃(q j:Nat)(s:List db),Q=Δ (q:Int)/\R=Δ (j:Int)/\q<j/\j<=n/\ai (λr=>r=g) w E/\iq E g (.slice (σ ⟨g,0,ν⟩) n z) s/\s.length=n/\s.take q=(l.take j).filter (λx=>!p x)/\∀k,j<=k->s[k]?=l[k]?,
  λ_ R _=>n-(bW R).toNat,⟨i,i+1,l,T,T,Ω,Ω,G.ab _,h.ext G,N,aD.symm,λ_ _=>rfl⟩,?_⟩
 rintro _ _ E ⟨q,j,s,rfl,rfl,aX,aY,H,I,S,B,U⟩;have aZ:q=((l.take j).filter λx=>!p x).length:=by rw[<-B,l9];omega
 rw[hI dL.u,aP,al];refine⟨λaE=>?_,λa2=>?_⟩
 .have aE:j<n:=Ω
  have⟨y,A⟩:=aH (l:=l) (i:=j) Ω;have aF:s[j]?=σ y:=by rw[U j (o4 _),A]
  refine aV (λQ K=>∃(q:Nat)(s:List db),Q=Δ (q:Int)/\q<j+1/\ai (λr=>r=g) w K/\iq K g (.slice (σ ⟨g,0,ν⟩) n z) s/\s.length=n/\s.take q=(l.take (j+1)).filter (λx=>!p x)/\∀k,j+1<=k->s[k]?=l[k]?) ?_ ?_
  .rintro _ K ⟨q,s,rfl,h1,W,X,Y,Z,aa⟩;rw[aN,wrap_i64 Ω Ω];exact⟨⟨q,j+1,s,T,T,h1,Ω,W,X,Y,Z,aa⟩,by simp only[bW];omega⟩
  intro aA aj;rw[ux I aF];refine bu df.i λa1 K a6 aG aI=>?_;refine cd (vs:=gf y) df.i T rfl (rP y) aI λak aJ a7 an=>?_;have ao:Ext E ak:=aG.put aJ Ω;rw[bR df.p df.i T an.range];apply am.mono (af ak y ((H.trans (ao.ab _)).mono λr _=>ah r) (x5 A));rintro _ a8 _ ⟨rfl,ap⟩;have L:=ao.trans ap;have aq:(l.take (j+1)).filter (λx=>!p x)=(l.take j).filter (λx=>!p x)++[y].filter (λx=>!p x):=by rw[u9,A,List.filter_append];rfl
  rw[bK,ca];refine⟨λaK=>?_,λae=>?_⟩
  .have au:=I.ext L;rw[bR df.p df.i T (an.ext ap).range,dw T dL.u df.i au Ω];refine Ch df.i au T (rP y) Ω λav ac ba aL=>?_;rw[aN,wrap_i64 Ω Ω];refine aj _ _ ⟨q+1,_,T,Ω,(H.trans (L.ab _)).trans (ac.mono λr _=>aC r),aL,by simpa using S,?_,λk hk=>?_⟩
   .rw[aq,u9,c8 Ω,List.take_set_of_le (o4 _),B];simp only[n9];rw[show[y].filter (λx=>!p x)=[y] by simpa using aK]
   .rw[Y2 Ω];exact U k Ω
  .refine aj _ _ ⟨q,s,T,Ω,H.trans (L.ab _),I.ext L,S,?_,λk hk=>U k Ω⟩;rw[aq,show[y].filter (λx=>!p x)=[] by simpa using ae,W6];exact B
 .have aM:j=n:=Ω
  subst aM;rw[<-N,o6]at B;have⟨⟨_,aO⟩,_⟩:=id I;obtain⟨cs,aQ,aR,aS,bb,aw⟩:∃cs,ag E g df cs/\s.length<=z/\z<=maxLen/\cs.length=z*4/\cs.take (s.length*4)=s.flatMap gf:=by
   rcases aO with⟨_,bc⟩|⟨bd,cs,C,W,X,Y,Z,aa⟩
   .omega
   .cases C;exact⟨cs,W,X,Y,Z,aa⟩
  simp only[maxLen]at aS;rw[S]at aR aw;rw[hj dL.u df.i (l:=q) (h:=j) (m:=z) pq jy fh Ω Ω Ω,if_neg Ω];have C:V7 (λx:Addr=>x.add (q*4)) (σ ⟨g,0,ν⟩)=σ ⟨g,q*4,ν⟩:=by simp[U9]
  rw[C];refine Dg (g:=g) (o:=q*4) (n:=j-q) (k:=4) dL.u df.i T ?_ aQ Ω λav ac ad=>?_
  .exact w5 Φ Φ
  obtain⟨vs,bf,ad⟩:∃vs:List x1,vs.length=(j-q)*4/\ag av g df (over cs (q*4) vs):=⟨_,n2 _ _,ad⟩;rw[hj dL.u df.i (l:=0) (h:=q) (m:=z) jx pr fh Ω Ω Ω,if_neg Ω];have P:V7 (λx:Addr=>x.add (0*4)) (σ ⟨g,0,ν⟩)=σ ⟨g,0,ν⟩:=by simp[U9]
  rw[P];refine⟨(H.trans ac).mono λr _=>ah r,?_,λr O=>by have⟨a,_,_,e,aT⟩:=O;cases e;exact⟨_,_,_,T,aT⟩⟩;have ax:(l.filter λx=>!p x).length=q:=by rw[<-B,l9];omega
  refine⟨⟨ig λ_ _=>rfl,.inr ⟨z,_,by rw[ax,Nat.sub_zero,Nat.sub_zero],ad,Ω,by simp only[maxLen];omega,by rw[lj];omega,?_⟩⟩,λ_ _=>rfl⟩;have aU:(l.filter λx=>!p x).flatMap gf=(s.flatMap gf).take (q*4):=by rw[pK (f:=gf) (k:=4) q (λ_ _=>rfl),B]
  rw[ax,aU,<-aw,List.take_take,Nat.min_eq_left Ω];apply Y4;intro k;by_cases hk:k<q*4
  .rw[Z7 hk,Z7 hk,mX _ _ _ Ω,if_neg Ω]
  .rw[Z2 (by rw[l9];omega),Z2 (by rw[l9];omega)]
end
def jN(w w':x3)(af g1 go:Nat)(l:List db):Prop:=Ext w w'/\ag w' g1 dd [Γ af]/\∃v g,ag w' go dL [v]/\iq w' g v l/\∀r,leadsTo v r->w.heap.size<=r
def jN.ext{go:Nat}{l:List db}(h:jN w V af g1 go l)(J:Ext V aa):jN w aa af g1 go l:=by
 have⟨h1,a,v,g,e,f,p⟩:=h;exact⟨h1.trans J,a.ext J,v,g,e.ext J,f.ext J,p⟩
def Qf{v:x1}(h:∃a n c,v= .slice a n c):v.cells= #[v]/\v.oneCell'=true:=by
 obtain⟨a,n,c,rfl⟩:=h;exact⟨T,T⟩
def rQ(V aa:x3):Prop:=∀b e cs,ag V b e cs->e≠df->e≠dL->ag aa b e cs
def rQ.ext(h:Ext V aa):rQ V aa:=λ_ _ _ a _ _=>a.ext h
def rR{go g:Nat}{v x:x1}{l:List db}{K:Unit->x3->Prop}(a:db)(J:Ext w V)(N:ag V g1 dd [Γ af])(O:ag V go dL [v])(hm:iq V g v l)(H:∀r,leadsTo v r->w.heap.size<=r)(ad:w.heap.size<=go)(P:x.cells=(gf a).toArray)(ae:l.length<=100000000)(Q:∀aa,jN w aa af g1 go (l++[a])->rQ V aa->K () aa):
  aE x7 (Y5 dL 1 #[(0,x)]) V λy aa=>aE x7 (Z0 #[dL,dL] dL #[v,y]) aa λz s=>
   aE x7 (o8 dL (Γ go) z) s K:=by
 refine hU (f:=gf) (a:=a) dL.u df.i Ω P T λy gy aa ah A R=>?_;refine iG dL.u df.i T (hm.ext A) (by simpa using R.sl) (rP a) Ω Ω λz gz s B S I=>?_;have:=J.size;have:=A.size;have C:∀b e cs,ag V b e cs->e≠df->ag s b e cs:=λb e cs p he=>(p.ext A).ab I λq=>by
  obtain⟨rfl,ce,E⟩:=dW hm q;exact he (eQ p E)
 have F:=C _ _ _ O Φ;have U:=C _ _ _ N Φ;have⟨W,X⟩:=Qf (v:=z) (by have⟨_,_,_,_,_,e,_⟩:=B.sl;exact⟨_,_,_,e⟩);refine bq (g:=go) (o:=0) dL.i W X F Ξ λL G ak Y=>?_;have M:∀b e cs,ag s b e cs->e≠dL->ag L b e cs:=λb e cs p he=>p.ab G λh=>by
  have h:b=go:=h;subst h;exact he (eQ p F)
 have Z:∀r,leadsTo z r->w.heap.size<=r:=λr q=>(S r q).elim (H r) λh=>Ω
 refine Q L ⟨((J.trans A).then I λr q he=>by have:=H r he;omega).then G λr q he=>by have he:r=go:=he;omega,M _ _ _ U Φ,z,gz,Y,B.ab G λr q he=>?_,Z⟩ λb e cs p h1 ac=>M b e cs (C b e cs p h1) ac;have he:r=go:=he;subst he;obtain⟨rfl,ce,E⟩:=dW B q;exact absurd (eQ E F) Φ
section
variable{w:x3}{af gT:Nat}{A R:ak}{n:aG}{s:ap}{t:aD}
def Qg(h:bx w af gT A R n s t)(M:Laid w):am x7 G1 [Γ af] w λv w'=>Ext w w'/\∃g,iq w' g v (mB n s n.sizes.length)/\∀r,leadsTo v r->w.heap.size<=r:=by
 have y:=h.2.2.2.1;have:=y.fz.2.1;apply hG func22;refine bd λg1 V cd ak S=>?_;have S:ag V g1 dd [Γ af]:=S;refine bu dL.i λgo aa U N an=>?_;have an:ag aa go dL [.slice ν 0 0]:=an;have:=ak.size;have:=N.size;rw[ax (v:=Γ af) Ψ ((S.ext N).Qz T)];apply(Ej (h.ext (ak.trans N))).mono;rintro _ ch _ ⟨rfl,ao⟩;have U:w.heap.size<=go:=Ω
 have z:∀{O:x3}{K:x1->Prop},ag O g1 dd [Γ af]->K (Γ af)->ac x7 (u5 dd (Γ g1)) O K:=λap aq=>by
  rw[ax (v:=Γ af) Ψ (ap.Qz T)];exact aq
 refine cp.range n.sizes.length (λi au=>jN w au af g1 go (mB n s i)) Ω ⟨(ak.trans N).trans ao,(S.ext N).ext ao,_,0,an.ext ao,bk.nil _ _ _ _ _,λr a=>(e9 a).elim⟩ ?_ ?_
 rotate_left
 .rintro au bl ⟨bm,_,v,g,bn,br,bt⟩;apply b4 Ω;rw[ax (v:=v) Ψ (bn.Qz T)];intro av aL _;exact⟨bm.trans aL,g,br.ext aL,bt⟩
 rintro i au bl hi aM bw;have aO:mB n s (i+1)=mB n s i++jM n s i:=xT i;have bA:=EF (m:=i) y;generalize mB n s i=W at aM aO bA;apply bz Ω;refine dc (λav=>jN w av af g1 go (W++jM n s i)) (λav bC=>?_) λaA B=>?_
 .rw[aN];exact bw _ (by rw[aO];exact bC)
 refine bu ah.i λH ci cj bD bE=>?_;refine bq (g:=H) (o:=0) (v:=Δ (i:Int)) ah.i T rfl bE Φ λbF bG ck X=>?_;have X:ag bF H ah [Δ (i:Int)]:=X;have Y:=aM.ext (bD.put bG Ω);have C:∀{O:x3}{K:x1->Prop},ag O H ah [Δ (i:Int)]->K (Δ (i:Int))->ac x7 (u5 ah (Γ H)) O K:=λap aq=>by
  rw[ax (v:=Δ (i:Int)) Ψ (ap.Qz T)];exact aq
 refine z Y.2.1 (C X ?_);apply(PW (i:=(i:Int)) (h.ext Y.1) (M.ext Y.1)).mono;rintro r bH _ ⟨aQ,bI,aw⟩;have ay:=Y.ext aQ;have az:=X.ext aQ;cases ad:hz n s i with
 |false=>
  obtain rfl:=bI ad;rw[fR,fS,fT,bB,al];refine⟨λ_=>B _ ?_,λh=>absurd Φ h⟩;unfold jM;rw[ad,if_neg Φ,W6];exact ay
 |true=>
 have⟨_,x,Z,_⟩:=xP y ad;have aB:bg s i=aC x:=by unfold bg;rw[Z]
 have a:=aw x ad Z;rw[<-aB]at a;have a:r= .tuple #[Δ (h0 n s i).1,Δ (h0 n s i).2,Δ 0]:=a;subst a;have bK:jM n s i=lK n s i++((bg s i).flatMap (io n s i)++qa n s i):=by unfold jM;rw[if_pos ad]
 have:=uv (i:=(i:Int)) y;rw[fR,fS,fT,bB,al];refine⟨λh=>absurd T h,λ_=>?_⟩;refine dc (λI=>jN w I af g1 go (W++lK n s i)/\ag I H ah [Δ (i:Int)]) ?_ ?_
 rotate_left
 .intro cm aR;refine aV (λr I=>r= .bool (decide (0<(h0 n s i).1\/(h0 n s i).2<0))/\I=bH) ?_ ?_
  .rintro _ _ ⟨rfl,rfl⟩;rw[al];refine⟨λp=>?_,λp=>aR _ ⟨?_,az⟩⟩
   .obtain⟨P,bL,v,g,aS,bM,bN⟩:=ay;rw[ax (v:=v) Ψ (aS.Qz T)];apply C az;rw[cY (cs:=#[Δ 1,Δ (i:Int),Δ (-1),Δ (-1)]) Ψ];refine rR ⟨1,i,-1,-1⟩ P bL aS bM bN U T Ω λI E bO=>aR _ ⟨?_,bO _ _ _ az Φ Φ⟩;unfold lK gq;rw[if_pos p];exact E
   .unfold lK gq;rw[if_neg p,W6];exact ay
  .intro bP Q;rw[bJ,al];refine⟨λh1=>Q _ _ ⟨by rw[decide_eq_true (.inl h1)],T⟩,λh1=>?_⟩;rw[aP];refine Q _ _ ⟨?_,T⟩;congr 1;exact decide_eq_decide.2 ⟨.inr,λh=>h.resolve_left h1⟩
 rintro I ⟨E,aT⟩;have bQ:(W++lK n s i).length<=34*i+1:=by
  have:(lK n s i).length<=1:=k0;rw[r9];omega
 rw[bK,<-V1]at B;generalize W++lK n s i=aD at E B bQ;refine z E.2.1 (C aT ?_);apply(jK (i:=(i:Int)) (h.ext E.1)).mono;rintro _ cn _ ⟨⟨b,m,rfl,aU⟩,bR⟩;apply(ne (b:=b) (n:=m)).mono;rintro _ cq _ ⟨bS,a1,rfl,cr,bT⟩;have aE:=mz aU Ω Z;rw[<-aB]at aE;have aF:=bR.trans bS;refine jW.old ⟨_,false,iT,#[Γ a1],_,_,_,_,λj w'=>jN w w' af g1 go (aD++((bg s i).take j).flatMap (io n s i))/\ag w' H ah [Δ (i:Int)],λ_ _ _=>False,T,(nc (g:=a1) aU.1).s,?_,
  λ_ _ J h=>⟨h.1.ext J,h.2.ext J⟩,λ_ _ _ aW h=>⟨h.1.ext aW,h.2.ext aW⟩,λ_ _ _ _ _ h=>h,⟨bT,M.ext (E.1.trans aF)⟩,⟨by simpa using E.ext aF,aT.ext aF⟩,?_,?_,λ_ _ h=>h.elim,λ_ _ _ h=>h.elim⟩
 .rintro _ _ _ _ ⟨_,_,_,_,rfl⟩;rfl
 .rintro _ j _ bU ⟨bV,_⟩ ⟨ct,rfl,v,ad,bW⟩ ⟨q,ab⟩;cases bW;intro aX L _ _;have bX:(bg s i)[j]?=σ (v:Int):=by rw[<-aE,x8,ad];rfl
  have aY:((bg s i).take (j+1)).flatMap (io n s i)=((bg s i).take j).flatMap (io n s i)++io n s i v:=by
   rw[u9,bX,n9,List.flatMap_append,List.flatMap_singleton]
  have ae:=lN (l:=(bg s i).take j) (f:=io n s i) (k:=1) λv _=>k0;rw[l9]at ae;generalize ((bg s i).take j).flatMap (io n s i)=aZ at q ae aY;have a2:aD++((bg s i).take (j+1)).flatMap (io n s i)=(aD++aZ)++io n s i v:=by rw[aY,V1]
  have G:=q.ext L;have ai:=ab.ext L;have bY:=bV.ext L;refine z G.2.1 (C ai ?_);refine xO (h.ext G.1) λe aG bZ=>?_;rw[bo,bp];intro cu b0 _ _;have a6:=bZ.trans b0;have aj:=G.ext a6;refine z aj.2.1 (z aj.2.1 ?_);apply(uo (h.ext aj.1)).mono;rintro _ cw _ ⟨rfl,aH⟩;refine⟨.inl aH,?_⟩;have a7:=aj.ext aH;apply(ki (h.ext a7.1)).mono;rintro _ cz _ ⟨rfl,a8⟩;apply(Em y.zero (p5 y) y.eg).mono;rintro _ cA _ ⟨rfl,ba⟩;have bb:=(a7.ext a8).ext ba;rw[bo,bp];apply z bb.2.1;apply(ki (h.ext bb.1)).mono;rintro _ cB _ ⟨rfl,b1⟩;have aI:=(((a6.trans aH).trans a8).trans ba).trans b1;have aJ:=G.ext aI;have aK:=ai.ext aI;have bc:=bY.ext aI;rw[be,al];refine⟨λp=>?_,λp=>?_⟩
  .obtain⟨P,b2,u,g,bf,b3,b5⟩:=aJ;rw[ax (v:=u) Ψ (bf.Qz T)];apply C aK;rw[cY (cs:=#[Δ 1,Δ (i:Int),Δ (-1),Δ (v:Int)]) Ψ];refine rR ⟨1,i,-1,v⟩ P b2 bf b3 b5 U T (by rw[r9];omega) λcC bh bi=>?_;refine⟨⟨bi _ _ _ bc Φ Φ,M.ext bh.1⟩,⟨?_,bi _ _ _ aK Φ Φ⟩,λh=>by cases h⟩;rw[a2];unfold io gq;rw[if_pos p];exact bh
  .refine⟨⟨bc,M.ext aJ.1⟩,⟨?_,aK⟩,λh=>by cases h⟩;rw[a2];unfold io gq;rw[if_neg p,W6];exact aJ
 .rintro k bU rfl ⟨q,ab⟩;have b6:(bg s i).take (fU b m).length=bg s i:=b8 (by rw[<-aE,r8];exact o4 _);rw[b6]at q;have ae:=lN (l:=bg s i) (f:=io n s i) (k:=1) λv _=>k0;rw[<-V1]at B;generalize (bg s i).flatMap (io n s i)=aZ at q B ae;refine z q.2.1 (C ab ?_);apply(P6 (i:=(i:Int)) (h.ext q.1) (M.ext q.1)).mono;rintro r aX _ ⟨L,_,aw⟩;have a:=aw x ad Z;rw[<-aB]at a;have a:r= .tuple #[Δ (im n s i).1,Δ (im n s i).2,Δ 0]:=a;subst a;have G:=q.ext L;have ai:=ab.ext L;rw[fR,fS,fT];refine aV (λr aG=>r= .bool (decide (0<(im n s i).1\/(im n s i).2<0))/\aG=aX) ?_ ?_
  .rintro _ _ ⟨rfl,rfl⟩;rw[al];refine⟨λp=>?_,λp=>B _ ?_⟩
   .obtain⟨P,b7,v,g,bj,b9,ca⟩:=G;rw[ax (v:=v) Ψ (bj.Qz T)];apply C ai;rw[cY (cs:=#[Δ 4,Δ (i:Int),Δ (-1),Δ (-1)]) Ψ];refine rR ⟨4,i,-1,-1⟩ P b7 bj b9 ca U T (by rw[r9];omega) λaG cb cD=>B _ ?_;unfold qa gq;rw[if_pos p];exact cb
   .unfold qa gq;rw[if_neg p,W6];exact G
  .intro bP Q;rw[bJ,al];refine⟨λh1=>Q _ _ ⟨by rw[decide_eq_true (.inl h1)],T⟩,λh1=>?_⟩;rw[aP];refine Q _ _ ⟨?_,T⟩;congr 1;exact decide_eq_decide.2 ⟨.inr,λh=>h.resolve_left h1⟩
end
def Qh{k:o7}{g:Nat}{v:x1}(h:av k e V g v l)(hk:rQ V aa)(h1:e≠df)(a:e≠dL):av k e aa g v l:=
 ⟨h.1,h.2.imp id λ⟨cap,cs,f,p,q⟩=>⟨cap,cs,f,hk _ _ _ p h1 a,q⟩⟩
def kl.nil{v:x1}{o:Option (Λ)}(h:kl w B v o):∃a n c,v= .slice a n c/\a.isNone=decide (o=ν):=by
 cases o with
 |none=>exact⟨ν,0,0,h,T⟩
 |some tl=>
  have⟨h1,g,_,e⟩:=h;obtain⟨_,⟨_,f⟩|⟨cap,cs,rfl,_⟩⟩:=e
  .exact absurd (j6 f) h1
  .exact⟨_,_,_,T,T⟩
section
variable{w:x3}{af gT:Nat}{A R:ak}{n:aG}{s:ap}{t:aD}
def Qi(h:bx w af gT A R n s t):∀r,A r\/R r->r<w.heap.size:=λr a=>by
 have⟨p,q,x,y,⟨_,_,e,f⟩,_⟩:=h.1;exact a.elim (f r) (e r)
def Qj{p:Nat}{f:bU}(a:bi n.k n.sizes s)(ae:s.funs[j]?=σ f)(e:f.live≠0)(h:p<f.sc.length)(ad:v∈bg s (f.sc.getD p 0)):∃x,jL s j p v f (f.sc.getD p 0) x:=by
 have hu:f.sc[p]?=σ (f.sc.getD p 0):=by rw[u4,x6 h,V4]
 have q:=(a.funs f (x5 ae)).1;unfold bg at ad;split at ad
 .rename_i x J;exact⟨x,Ω,by rw[u7];exact ae,e,Ω,by rw[u7];exact hu,(q.scope.1 _ (x5 hu)).1,J,ad⟩
 .cases ad
def Qk{p:Nat}{f:bU}{x:bC}{r:x1}(z:bi n.k n.sizes s)(w:jL s j p v f (f.sc.getD p 0) x)(C:ED n s j p v r):
  ∃c d e:Int,r= .tuple #[Δ c,Δ d,Δ e]/\(e=0↔f.sc.length=2)/\(f.sc.length=2->p=0->c=(lL n s j f v).1):=by
 have⟨h1,E⟩:=C.2 f _ x w;by_cases a:f.sc.length=2
 .have F:=(x4.1 w.hu).1;rw[u7]at F;have A:=(z.funs f (x5 w.ae)).1;have⟨o,q⟩:=aH (l:=f.sc) (i:=(1-(p:Int)).toNat) Ω;have:=z.vars;have:=(A.scope.1 _ (x5 q)).1;have:=A.vars _ (x5 q);have⟨y,B⟩:=aH (l:=s.vars) (i:=o.toNat) Ω;refine⟨_,_,0,E a o y q B,⟨λ_=>a,λ_=>rfl⟩,λ_ G=>?_⟩;subst G;have H:f.sc.getD 1 0=o:=by rw[u4,show f.sc[1]?=σ o from q];rfl
  have I:bg s o=aC y:=by unfold bg;rw[B]
  unfold lL;rw[H,I,u7];rfl
 .exact⟨_,_,1,h1 a,⟨(λh=>by cases h),λh=>absurd h a⟩,λh=>absurd h a⟩
def Ql(h:bx w af gT A R n s t)(O:Laid w)(dv:s.funs.length<=100000):am x7 G2 [Γ af] w λv w'=>Ext w w'/\∃g,iq w' g v (mC n s s.funs.length)/\∀r,leadsTo v r->w.heap.size<=r:=by
 have G:=h.2.2.2.1;have:=G.fz.2.1;apply hG func23;refine bd λg1 V dx aL ap=>?_;have ap:ag V g1 dd [Γ af]:=ap;refine bu dL.i λgo aa aM P aO=>?_;have aO:ag aa go dL [.slice ν 0 0]:=aO;have:=aL.size;have:=P.size;rw[ax (v:=Γ af) Ψ ((ap.ext P).Qz T)];apply(rJ (h.ext (aL.trans P))).mono;rintro _ dA _ ⟨rfl,aP⟩;have aM:w.heap.size<=go:=Ω
 have Q:∀{y:x3}{K:x1->Prop},ag y g1 dd [Γ af]->K (Γ af)->ac x7 (u5 dd (Γ g1)) y K:=λaQ aR=>by
  rw[ax (v:=Γ af) Ψ (aQ.Qz T)];exact aR
 have E:∀{y:x3}{b:Nat}{z:Int}{K:x1->Prop},ag y b ah [Δ z]->K (Δ z)->ac x7 (u5 ah (Γ b)) y K:=λ{y b z K}aQ aR=>by
  rw[ax (v:=Δ z) Ψ (aQ.Qz T)];exact aR
 refine cp.range s.funs.length (λj aS=>jN w aS af g1 go (mC n s j)) Ω ⟨(aL.trans P).trans aP,(ap.ext P).ext aP,_,0,aO.ext aP,bk.nil _ _ _ _ _,λr I=>(e9 I).elim⟩ ?_ ?_
 rotate_left
 .rintro aS cn ⟨cq,_,v,g,cr,ct,cu⟩;apply b4 Ω;rw[ax (v:=v) Ψ (cr.Qz T)];intro aT bw _;exact⟨cq.trans bw,g,ct.ext bw,cu⟩
 rintro j aS cn cw bA cz;have bB:mC n s (j+1)=mC n s j++km n s j:=xT j;have cA:=EH (m:=j) G;generalize mC n s j=aq at bA bB cA;apply bz Ω;refine dc (λaT=>jN w aT af g1 go (aq++km n s j)) (λaT cB=>?_) λaA aU=>?_
 .rw[aN];exact cz _ (by rw[bB];exact cB)
 have⟨f,ae⟩:=aH (l:=s.funs) cw;refine bu ah.i λS dC dD cC cD=>?_;refine bq (g:=S) (o:=0) (v:=Δ (j:Int)) ah.i T rfl cD Φ λcE cF dE au=>?_;have au:ag cE S ah [Δ (j:Int)]:=au;have aX:=bA.ext (cC.put cF Ω);refine Q aX.2.1 (E au ?_);apply(rK (j:=(j:Int)) (h.ext aX.1)).mono;rintro _ dF _ ⟨rfl,bC⟩;have aw:=aX.ext bC;have bD:=au.ext bC;rw[decide_eq_true Ω,U8,u7];have cG:ff s j=decide (f.live≠0):=by unfold ff;rw[ae]
 rw[cG,bK,ca];have bE:km n s j=if f.live≠0 then(Y1 f.sc.length).flatMap (ip n s j f)else[]:=by unfold km;rw[ae]
 refine⟨λU=>aU _ ?_,λW=>?_⟩
 .rw[bE,if_neg (by simpa using U),W6];exact aw
 have bF:f.live≠0:=by simpa using W
 rw[bE,if_pos bF]at aU;have dG:f.sc.length<=6:=(G.funs f (x5 ae)).1.scope.2;refine Q aw.2.1 (E bD ?_);apply(kZ (h.ext aw.1) ae).mono;rintro aK dH _ ⟨bG,bH,_,bI⟩;have cH:=aw.ext bG;have cI:=bD.ext bG;rw[aW an.u bI.ls];refine cp.range f.sc.length (λp L=>jN w L af g1 go (aq++(Y1 p).flatMap (ip n s j f))/\ag L S ah [Δ (j:Int)]/\av .i64 ah L bH aK f.sc) Ω ⟨by simpa using cH,cI,bI⟩ ?_ ?_
 rotate_left
 .rintro L cJ ⟨ay,_⟩;apply b4 Ω;exact aU _ ay
 rintro p L cJ az ⟨ay,cK,bL⟩ X;have cL:(Y1 (p+1)).flatMap (ip n s j f)=(Y1 p).flatMap (ip n s j f)++ip n s j f p:=xT p;have cM:=lN (l:=Y1 p) (f:=ip n s j f) (k:=64) λv _=>EG G;rw[List.length_range]at cM;rw[cL,<-V1]at X;have cN:(aq++(Y1 p).flatMap (ip n s j f)).length<=384*j+384:=by rw[r9];omega
 generalize aq++(Y1 p).flatMap (ip n s j f)=Y at ay X cN;have hu:f.sc[p]?=σ (f.sc.getD p 0):=by rw[u4,x6 az,V4]
 have bM:=(G.funs f (x5 ae)).1;have bN:=(bM.scope.1 _ (x5 hu)).1;have cO:=bM.vars _ (x5 hu);have bO:=λv (ad:v∈bg s (f.sc.getD p 0))=>Qj (n:=n) G ae bF az ad;have cP:ip n s j f p=(bg s (f.sc.getD p 0)).flatMap λv=>fC n s j f p (f.sc.getD p 0) v++hb n s j f p (f.sc.getD p 0) v:=rfl;have bP:=λv x r (az:jL s j p v f (f.sc.getD p 0) x)=>Qk (n:=n) (r:=r) G az;rw[cP]at X;generalize bQ:f.sc.getD p 0=u at hu bN cO bO X bP;have aY:=G.vars;have⟨x,bR⟩:=aH (l:=s.vars) (i:=u.toNat) Ω;have cQ:bg s u=aC x:=by unfold bg;rw[bR]
 apply bz Ω;rw[bc an.u ah.i Ψ bL.ls hu];refine bu ah.i λbn dI dJ bS bT=>?_;refine bu ah.i λZ dK dM aZ cR=>?_;have:=bT.lt;have:=bS.size;have:=aZ.size;refine bq (g:=bn) (o:=0) (v:=Δ (p:Int)) ah.i T rfl (bT.ext aZ) Φ λcS bU dP a2=>?_;have a2:ag cS bn ah [Δ (p:Int)]:=a2;refine bq (g:=Z) (o:=0) (v:=Δ u) ah.i T rfl (cR.ab bU Ω) Φ λbV bW dQ aB=>?_;have aB:ag bV Z ah [Δ u]:=aB;have cT:=a2.ab bW Ω;have a6:Ext L bV:=((bS.trans aZ).then bU λr I he=>by have he:r=bn:=he;omega).then bW λr I he=>by have he:r=Z:=he;omega
 have aD:=ay.ext a6;have cU:=cK.ext a6;have cV:=bL.ext a6;refine Q aD.2.1 (E aB ?_);apply(jK (i:=u) (h.ext aD.1)).mono;rintro _ dR _ ⟨⟨b,m,rfl,bX⟩,cW⟩;apply(ne (b:=b) (n:=m)).mono;rintro _ cX _ ⟨cZ,a1,rfl,dS,bY⟩;have a7:=mz bX bN bR;rw[<-cQ]at a7;have M:=cW.trans cZ;have:=uv (i:=u) G;have c0:∀v,(fC n s j f p u v++hb n s j f p u v).length<=2:=λv=>by
  have h1:(fC n s j f p u v).length<=1:=k0;have a8:(hb n s j f p u v).length<=1:=k0;rw[r9];omega
 obtain⟨C,H⟩:∃C:x3->Prop,C=λy=>ag y S ah [Δ (j:Int)]/\ag y bn ah [Δ (p:Int)]/\ag y Z ah [Δ u]/\av .i64 ah y bH aK f.sc/\ag y a1 b5 [.int .u64 (b:Int),Δ (m:Int)]:=⟨_,T⟩;have ba:∀{ai y:x3},C ai->rQ ai y->C y:=λB hk=>by
  rw[H]at B ⊢;have⟨c1,c2,c3,c4,c5⟩:=B;exact⟨hk _ _ _ c1 Φ Φ,hk _ _ _ c2 Φ Φ,hk _ _ _ c3 Φ Φ,Qh c4 hk Φ Φ,hk _ _ _ c5 Φ Φ⟩
 have aE:∀{ai y:x3},C ai->Ext ai y->C y:=λB J=>ba B (.ext J);have aj:∀{y:x3},C y->ag y S ah [Δ (j:Int)]:=λB=>by rw[H]at B;exact B.1
 have bb:∀{y:x3},C y->ag y bn ah [Δ (p:Int)]:=λB=>by rw[H]at B;exact B.2.1
 have bZ:∀{y:x3},C y->ag y Z ah [Δ u]:=λB=>by rw[H]at B;exact B.2.2.1
 have c6:∀{y:x3},C y->av .i64 ah y bH aK f.sc:=λB=>by rw[H]at B;exact B.2.2.2.1
 have b0:∀{y:x3},C y->ag y a1 b5 [.int .u64 (b:Int),Δ (m:Int)]:=λB=>by rw[H]at B;exact B.2.2.2.2
 have c7:C cX:=by rw[H];exact⟨cU.ext M,cT.ext M,aB.ext M,cV.ext M,bY⟩
 clear H;refine jW.old ⟨_,false,iT,#[Γ a1],_,_,_,_,λq w'=>jN w w' af g1 go (Y++((bg s u).take q).flatMap λv=>fC n s j f p u v++hb n s j f p u v)/\C w',λ_ _ _=>False,T,(nc (g:=a1) bX.1).s,?_,
  λ_ _ J h=>⟨h.1.ext J,h.2.ext J⟩,λ_ _ _ b1 h=>⟨h.1.ext b1,aE h.2 b1⟩,λ_ _ _ _ _ h=>h,⟨bY,O.ext (aD.1.trans M)⟩,⟨by simpa using aD.ext M,c7⟩,?_,?_,λ_ _ h=>h.elim,λ_ _ _ h=>h.elim⟩
 .rintro _ _ _ _ ⟨_,_,_,_,rfl⟩;rfl
 rotate_left
 .rintro q c8 rfl ⟨ak,aF⟩;have c9:(bg s u).take (fU b m).length=bg s u:=b8 (by rw[<-a7,r8];exact o4 _);rw[c9]at ak;rw[aN];exact X _ ⟨ak,aj aF,c6 aF⟩
 rintro _ q _ c8 ⟨_,_⟩ ⟨dU,rfl,v,ad,da⟩ ⟨ak,aF⟩;cases da;intro dV b2 _ _;have aY:(bg s u)[q]?=σ (v:Int):=by rw[<-a7,x8,ad];rfl
 have⟨b3,bf⟩:=bO v (x5 aY);have db:((bg s u).take (q+1)).flatMap (λv=>fC n s j f p u v++hb n s j f p u v)=((bg s u).take q).flatMap (λv=>fC n s j f p u v++hb n s j f p u v)++(fC n s j f p u v++hb n s j f p u v):=by
  rw[u9,aY,n9,List.flatMap_append,List.flatMap_singleton]
 have de:=lN (l:=(bg s u).take q) (f:=λv=>fC n s j f p u v++hb n s j f p u v) (k:=2) λv _=>c0 v;rw[l9]at de;have df:(Y++((bg s u).take q).flatMap λv=>fC n s j f p u v++hb n s j f p u v).length<=384*j+448:=by rw[r9];omega
 have aG:Y++((bg s u).take (q+1)).flatMap (λv=>fC n s j f p u v++hb n s j f p u v)=(Y++((bg s u).take q).flatMap (λv=>fC n s j f p u v++hb n s j f p u v))++fC n s j f p u v++hb n s j f p u v:=by rw[db,V1,V1]
 generalize Y++((bg s u).take q).flatMap (λv=>fC n s j f p u v++hb n s j f p u v)=bh at ak df aG;have aI:=ak.ext b2;have bi:=aE aF b2;have dW:(fC n s j f p u v).length<=1:=k0;refine dc (λbj=>jN w bj af g1 go (bh++fC n s j f p u v)/\C bj) ?_ ?_
 .rintro bj ⟨ao,bl⟩;have dg:(bh++fC n s j f p u v).length<=384*j+449:=by rw[r9];omega
  generalize bh++fC n s j f p u v=dX at ao dg aG;refine Q ao.2.1 (E (aj bl) (E (bb bl) ?_));apply(PY (j:=(j:Int)) (pos:=(p:Int)) (v:=(v:Int)) (h.ext ao.1) (O.ext ao.1)).mono;rintro r dh _ ⟨b6,I⟩;obtain⟨c,d,e,rfl,he,di⟩:=bP v b3 r bf I;have bm:=ao.ext b6;have N:=aE bl b6;rw[fR,fS,fT];refine aV (λr b7=>r= .bool (decide (f.sc.length=2/\p=0/\0<(lL n s j f v).1))/\b7=dh) ?_ ?_
  .rintro _ _ ⟨rfl,rfl⟩;rw[al];refine⟨λW=>?_,λU=>?_⟩
   .obtain⟨bo,dj,o,g,b9,dk,dl⟩:=bm;rw[ax (v:=o) Ψ (b9.Qz T)];refine E (bZ N) (E (aj N) ?_);rw[cY (cs:=#[Δ 3,Δ u,Δ (j:Int),Δ (v:Int)]) Ψ];refine rR ⟨3,u,j,v⟩ bo dj b9 dk dl aM T Ω λb7 cb dm=>?_;have cc:=ba N dm;refine⟨⟨b0 cc,O.ext cb.1⟩,⟨?_,cc⟩,λh=>by cases h⟩;rw[aG];unfold hb gq;rw[if_pos W];exact cb
   .refine⟨⟨b0 N,O.ext bm.1⟩,⟨?_,N⟩,λh=>by cases h⟩;rw[aG];unfold hb gq;rw[if_neg U,W6];exact bm
  .intro dY bp;rw[be,al];refine⟨λbr=>?_,λbr=>bp _ _ ⟨by rw[decide_eq_false λh=>br (he.2 h.1)],T⟩⟩;have a8:=he.1 br;apply E (bb N);rw[be,al];refine⟨λcd=>?_,λcd=>bp _ _ ⟨by rw[decide_eq_false λh=>cd Ω],T⟩⟩;rw[bJ];refine bp _ _ ⟨?_,T⟩;congr 1;rw[<-di a8 Ω];exact decide_eq_decide.2 ⟨λh=>⟨a8,Ω,h⟩,λh=>h.2.2⟩
 .intro dZ ce;refine Q aI.2.1 (E (aj bi) (E (bb bi) ?_));have cg:=h.ext aI.1;apply(P9 (j:=(j:Int)) (pos:=(p:Int)) (v:=(v:Int)) cg (O.ext aI.1) (Qi cg)).mono;rintro r dn _ ⟨ch,_,I⟩;obtain⟨ea,rfl,bt⟩:=I f u b3 (by rw[<-bQ];rw[<-bQ]at bf;exact bf);simp only[u7]at bt ⊢;have ci:eb n.k (ez s j) (eT s f.sc p f.sc.length 0 ((p8 f.sc.length 0).set p (v:Int)))=h2 n s j f p v:=rfl;rw[ci]at bt;rw[ci];obtain⟨a,ec,ed,rfl,dp⟩:=bt.nil;have cj:=aI.ext ch;have aJ:=aE bi ch;rw[fR,fS,fT];refine aV (λr ck=>r= .bool (decide (0<(h2 n s j f p v).1\/(h2 n s j f p v).2=ν))/\ck=dn) ?_ ?_
  .rintro _ _ ⟨rfl,rfl⟩;rw[al];refine⟨λW=>?_,λU=>ce _ ⟨?_,aJ⟩⟩
   .obtain⟨bo,dq,o,g,cl,dr,ds⟩:=cj;rw[ax (v:=o) Ψ (cl.Qz T)];refine E (bZ aJ) (E (aj aJ) ?_);rw[cY (cs:=#[Δ 2,Δ u,Δ (j:Int),Δ (v:Int)]) Ψ];refine rR ⟨2,u,j,v⟩ bo dq cl dr ds aM T Ω λck dt du=>ce _ ⟨?_,ba aJ du⟩;unfold fC gq;rw[if_pos W];exact dt
   .unfold fC gq;rw[if_neg U,W6];exact cj
  .intro ee cm;rw[bJ,al];refine⟨λh1=>cm _ _ ⟨by rw[decide_eq_true (.inl h1)],T⟩,λh1=>?_⟩;rw[mW an.u,dp];refine cm _ _ ⟨?_,T⟩;congr 1;exact decide_eq_decide.2 ⟨.inr,λh=>h.resolve_left h1⟩
end
def oM(l:Λ):Int:=(l.find? λx=>decide (x≠0)).getD 0
def Qm{f:x1}(h:aI .i64 w f l):am x7 zM [f] w λv w'=>v=Δ (oM l)/\Ext w w':=by
 apply az func28;rw[aW an.u h];refine bT.range l.length (λi _ V=>Ext w V/\oM l=oM (l.drop i)) h.le ⟨Ext.refl _,Ξ⟩ ?_ ?_
 .rintro i _ V k hi ⟨a,h1⟩ hk;apply bz Ω;have⟨y,p⟩:=aH (l:=l) hi;have e:l.drop i=y::l.drop (i+1):=by rw[X4 hi,(x4.1 p).2]
  rw[bc an.u ah.i Ψ (h.ext a) p,bB,al];refine⟨λq=>⟨?_,a⟩,λhe=>?_⟩
  .rw[h1,e];unfold oM;rw[List.find?_cons,decide_eq_true q];rfl
  .rw[aN];refine hk _ _ ⟨a,?_⟩;rw[h1,e];unfold oM;rw[List.find?_cons,decide_eq_false he]
 .rintro _ V k ⟨a,h1⟩;rw[List.drop_length]at h1;rw[aP,al];exact⟨λh=>Ω,λ_=>⟨by rw[h1];rfl,a⟩⟩
def Qn(a b:db):oM [fD a.e2 b.e2,fD a.i b.i,fD a.j b.j,fD a.v b.v]=qc a b:=by
 unfold oM qc;by_cases h1:fD a.e2 b.e2≠0
 .simp[h1]
 by_cases e:fD a.i b.i≠0
 .simp[h1,e]
 by_cases f:fD a.j b.j≠0
 .simp[h1,e,f]
 by_cases h:fD a.v b.v≠0
 .simp[h1,e,f,h]
 .simp[h1,e,f,h];omega
def lO:List (Λ):=[[110,111,110,101],[110,99],[97,99],[102,100,97,99],[101,100,97,99]]
def iJ(level:Int):Λ:=if 0<=level then lO.getD level.toNat []else[]
def Qo(level:Int):Bytes (iJ level):=by
 unfold iJ;split
 .rw[u4];cases h:lO[level.toNat]? with
  |none=>intro b a;cases a
  |some l=>
   have:∀l∈lO,∀b∈l,0<=b/\b<256:=Φ
   exact this l (x5 h)
 .intro b a;cases a
def xU(level:Int):iJ level=[]↔¬(0<=level/\level<5):=by
 unfold iJ;by_cases h:0<=level/\level<5
 .rw[if_pos h.1,u4];have e:level.toNat<lO.length:=by show _<5;omega
  rw[x6 e,V4];have:∀l∈lO,l≠[]:=Φ
  exact⟨λa=>absurd a (this _ (S3 e)),λa=>absurd h a⟩
 .refine⟨λ_=>h,λ_=>?_⟩;split
  .rw[u4,Z2 (by show 5<=_;omega),Option.getD_none]
  .rfl
section
variable{w:x3}{af gT:Nat}{A R:ak}{n:aG}{s:ap}{t:aD}{level:Int}
def Qp:am x7 G0 [Δ level] w λv w'=>Ext w w'/\v=bL (iJ level):=by
 apply az func21;rw[cY (cs:=(lO.map bL).toArray) Ψ];refine bu mT.i λg V A s x=>?_;refine vS (k:=5) (o:=0) (vs:=lO.map bL) mT.i T (by intro u hu;obtain⟨l,_,rfl⟩:=j5.1 hu;rfl) x Φ λaa y B a=>?_;have a:ag aa g mT (lO.map bL):=by rw[AB (by rfl)]at a;exact a
 have f:Ext w aa:=s.put y Ω;refine aV (λr z=>r= .bool (decide (¬(0<=level/\level<5)))/\z=aa) ?_ ?_
 .rintro _ _ ⟨rfl,rfl⟩;rw[al];refine⟨λh=>⟨f,?_⟩,λh=>?_⟩
  .rw[(xU level).2 h];rfl
  have h:=Z9.1 h;have p:level.toNat<lO.length:=by show _<5;omega
  have e:iJ level=lO[level.toNat]:=by unfold iJ;rw[if_pos h.1,u4,x6 p];rfl
  rw[show level=((level.toNat:Nat):Int) by omega,sT mT.u cQ.i Ω,
   ax (v:=bL (iJ level)) Ψ (a.cell (by rw[X2,U2,x8,x6 p,e];rfl)),show((level.toNat:Nat):Int)=level by omega]
  exact⟨f,T⟩
 .intro aA q;rw[aP,al];refine⟨λh1=>q _ _ ⟨by rw[decide_eq_true Ω],T⟩,λh1=>?_⟩;rw[cO];refine q _ _ ⟨?_,T⟩;congr 1;exact decide_eq_decide.2 ⟨λh=>Ω,λh=>Ω⟩
def Qq{a:db}{f:Nat}(q:ag w f ah [Δ level]):am x7 G4 [.agg (gf a).toArray,Γ f] w λr w'=>r= .bool (decide (level<a.e2))/\Ext w w':=by
 apply az func25;refine bd λg1 V s h e=>?_;have e:ag V g1 df (gf a):=e;rw[aL df.p 0 e T,ax (v:=Δ level) Ψ ((q.ext h).Qz T),bJ];exact⟨T,h⟩
def Qr{a b:db}:am x7 zL [.agg (gf a).toArray,.agg (gf b).toArray] w λu w'=>Ext w w'/\u=Δ (qc a b):=by
 apply az func27;refine bd λg1 V I A q=>?_;refine bd λB aa J y r=>?_;have q:ag aa g1 df (gf a):=ag.ext q y;have r:ag aa B df (gf b):=r;intro K s _ _;have e:=q.ext s;have f:=r.ext s;rw[aU df.p T,ax (v:=Δ a.e2) (o:=0+0) Ψ (e.cell T),aU df.p T,ax (v:=Δ b.e2) (o:=0+0) Ψ (f.cell T),
  aU df.p T,ax (v:=Δ a.i) (o:=0+1) Ψ (e.cell T),aU df.p T,ax (v:=Δ b.i) (o:=0+1) Ψ (f.cell T),
  aU df.p T,ax (v:=Δ a.j) (o:=0+2) Ψ (e.cell T),aU df.p T,ax (v:=Δ b.j) (o:=0+2) Ψ (f.cell T),
  aU df.p T,ax (v:=Δ a.v) (o:=0+3) Ψ (e.cell T),aU df.p T,ax (v:=Δ b.v) (o:=0+3) Ψ (f.cell T)]
 apply pV.mono;rintro _ L _ ⟨rfl,h⟩;refine⟨.inl h,?_⟩;apply pV.mono;rintro _ M _ ⟨rfl,x⟩;refine⟨.inl (h.trans x),?_⟩;apply pV.mono;rintro _ N _ ⟨rfl,z⟩;refine⟨.inl ((h.trans x).trans z),?_⟩;apply pV.mono;rintro _ O _ ⟨rfl,C⟩;refine oc (l:=[fD a.e2 b.e2,fD a.i b.i,fD a.j b.j,fD a.v b.v]) an.u ah.i Ω T Ψ λP Q R S E G=>?_;apply(Qm G.ls).mono;rintro _ U _ ⟨rfl,H⟩;exact⟨((((((A.trans y).trans s).trans h).trans x).trans z).trans C).trans (E.trans H),by rw[Qn]⟩
def EK(M:List db):Prop:=∀(p q:Nat)(x y:db),p<q->M[p]?=σ x->M[q]?=σ y->qb x<=qb y
def Qs{g:Nat}{v:x1}{L:List db}(h:iq w g v L)(p:L.length<65536)(q:s.funs.length<=100000000)(x:∀a∈L,rO n s a):
  am x7 G5 [v,.func (.func zL) #[] #[]] w λ_ w'=>ai (λr=>leadsTo v r) w w'/\∃M,M.Perm L/\EK M/\iq w' g v M:=
 wJ Mf (G:=rO n s) (num:=qb) (cf:=qc) (cap:=#[]) Mm Mn (λa _=>rP a) (λa _=>rfl) (λa b e f=>Qc q e f) (Enters.of x7 Mo T Ψ) h x p λy a b z e f=>Qr
def Qt(n:aG)(s:ap)(level:Int)(B:Nat)(w':x3)(r:x1):Prop:=(¬(0<=level/\level<5)->r= .tuple #[.slice ν 0 0,Δ 1])/\
 ((0<=level/\level<5)->∃v g M,r= .tuple #[v,Δ 0]/\iq w' g v M/\M.Perm (ei n s level)/\EK M/\∀r,leadsTo v r->B<=r)
def EL(h:bx w af gT A R n s t)(N:Laid w)(ay:s.funs.length<=160):am x7 GR [Γ af,Δ level] w λr w'=>Ext w w'/\Qt n s level w.heap.size w' r:=by
 have y:=h.2.2.2.1;have:=y.fz.2.1;apply az func9;refine bd λz V aB O f=>?_;have f:ag V z ah [Δ level]:=f;rw[di dd.u];simp only[Z5,a8];rw[ax (v:=Δ level) Ψ (f.Qz T)];apply Qp.mono;rintro _ aa _ ⟨q,rfl⟩;rw[show(x1.string ⟨#[]⟩)=bL []from T,wb (Qo level) (λb W=>by cases W),al];refine⟨λG=>⟨O.trans q,λ_=>rfl,λh1=>absurd h1 ((xU level).1 G)⟩,λG=>?_⟩;have X:0<=level/\level<5:=Z9.1 λh1=>G ((xU level).2 h1);have B:=O.trans q;apply(Qg (h.ext B) (N.ext B)).mono;rintro v3 aC _ ⟨H,aD,Y,I⟩;have J:=B.trans H;apply(Ql (h.ext J) (N.ext J) Ω).mono;rintro v4 aE _ ⟨C,aF,Z,aG⟩;have ac:=J.trans C;have:=EF (m:=n.sizes.length) y;have:=EH (m:=s.funs.length) y;have:=B.size;have:=H.size;have:=C.size;refine uk dL.u df.i T (Y.ext C) Z.sl (λ_ _=>rfl) (λa _=>rP a) Ω Ω λv5 P K L ad Q=>?_;rw[iy];have L:iq K P v5 (lM n s):=L;have ae:(lM n s).length<=65000:=by unfold lM;rw[r9];omega
 have E:∀r,leadsTo v5 r->aa.heap.size<=r:=λr e=>(ad r e).elim (I r) λh=>Ω
 have ai:Ext w K:=ac.then Q λr e he=>by have:=I r he;omega
 have:=f.lt;have aj:ag K z ah [Δ level]:=(((f.ext q).ext H).ext C).ab Q λhe=>by have:=I z he;have:=q.size;omega
 refine(Qe (p:=λa=>decide (level<a.e2)) L Ω λw' x ak _=>Qq (aj.ab ak λhe=>by have:=E z he;have:=q.size;omega)).mono ?_;rintro an aL _ ⟨ao,S,U⟩;have ap:(lM n s).filter (λa=>!decide (level<a.e2))=ei n s level:=by
  unfold ei;refine List.filter_congr λa _=>?_;by_cases h1:level<a.e2
  .rw[decide_eq_true h1,decide_eq_false Ω];rfl
  .rw[decide_eq_false h1,decide_eq_true Ω];rfl
 rw[ap]at S;have aM:(ei n s level).length<=65000:=Y9 (R5 _ _) ae;apply(Qs (s:=s) (n:=n) S Ω Ω λa aq=>EJ y ((T4.1 aq).1)).mono;rintro _ aN _ ⟨au,M,av,hu,aw⟩;refine⟨(ai.then ao λr e he=>by have:=E r he;omega).then au λr e he=>by have:=E r (U r he);omega,λh1=>absurd X h1,λ_=>⟨an,P,M,T,aw,av,hu,λr e=>by have:=E r (U r e);omega⟩⟩
def EM(h:bx w af gT A R n s t)(y:Laid w)(z:s.funs.length<=160):am x7 GS [Γ af,Δ level] w λr w'=>Ext w w'/\(¬(0<=level/\level<5)->r= .tuple #[.bool false,Δ 1])/\((0<=level/\level<5)->r= .tuple #[.bool (decide (ei n s level=[])),Δ 0]):=by
 apply az func11;apply(EL h y z).mono;rintro r V _ ⟨q,B,C⟩;by_cases e:0<=level/\level<5
 .obtain⟨v,g,M,rfl,hm,E,_⟩:=C e;rw[bo,bp];refine gQ (λa b aa=>a= .bool (decide (ei n s level=[]))/\b=Δ 0/\aa=V) ?_ ?_
  .rintro _ _ _ ⟨rfl,rfl,rfl⟩;exact⟨q,λh=>absurd e h,λ_=>rfl⟩
  .intro aA f;rw[be,al];refine⟨λ_=>?_,λh=>absurd T h⟩;rw[eF dL.u hm,be];refine f _ _ _ ⟨?_,T,T⟩;congr 1;have p:=E.length_eq;refine decide_eq_decide.2 ⟨λx=>j6 Ω,λx=>?_⟩;rw[x]at p;simp at p;simp[p]
 .obtain rfl:=B e;rw[bo,bp];refine gQ (λa b aa=>a= .bool false/\b=Δ 1/\aa=V) ?_ ?_
  .rintro _ _ _ ⟨rfl,rfl,rfl⟩;exact⟨q,λ_=>rfl,λh=>absurd h e⟩
  .intro aA f;rw[be,al];exact⟨λh=>absurd h Φ,λ_=>f _ _ _ ⟨T,T,T⟩⟩
end
def hA(s:ap)(pos:Nat)(v:Int):Λ->Nat->List (Λ)
 |[],_=>[]
 |u::sc,p=>(if p=pos then[v]else bg s u)::hA s pos v sc (p+1)
def bP(s:ap)(sc:Λ)(pos:Nat)(v:Int):List (Λ):=gK (hA s pos v sc 0)
theorem xV{s:ap}{sc:Λ}{pos:Nat}{v:Int}:∀(m p:Nat)(tl:Λ),sc.length=p+m->tl.length=sc.length->(p<=pos->tl[pos]?=σ v)->
  eT s sc pos m p tl=(gK (hA s pos v (sc.drop p) p)).map (tl.take p++ ·)
 |0,p,tl,h1,a,f=>by
  rw[List.drop_eq_nil_of_le Ω,b8 Ω];unfold eT hA gK;rw[List.map_singleton,W6]
 |m+1,p,tl,h1,a,f=>by
  have w:p<sc.length:=Ω
  have⟨u,hu⟩:=aH (l:=sc) w;have z:sc.drop p=u::sc.drop (p+1):=by rw[X4 w,(x4.1 hu).2]
  have A:sc.getD p 0=u:=by rw[u4,hu];rfl
  rw[z];unfold eT hA;rw[gK];by_cases q:p=pos
  .have y:=f Ω;rw[if_pos Ω,if_pos q,List.flatMap_singleton,xV m (p+1) tl Ω a (λ_=>y),S1];refine List.map_congr_left λr _=>?_;rw[u9,q,y];simp
  .rw[if_neg Ω,if_neg q,A,List.map_flatMap];congr 1;funext x;have e:(tl.set p x).take (p+1)=tl.take p++[x]:=by rw[u9,c8 Ω,List.take_set_of_le (o4 _)];rfl
   rw[xV m (p+1) (tl.set p x) Ω (by rw[c9];exact a) (λh=>by rw[Y2 Ω];exact f Ω),S1,e];refine List.map_congr_left λr _=>?_;simp
def Qu{s:ap}{pos:Nat}(h:pos<sc.length):eT s sc pos sc.length 0 ((p8 sc.length 0).set pos v)=bP s sc pos v:=by
 rw[xV (v:=v) sc.length 0 _ Ω Ξ (λ_=>by rw[c8 (by simpa using h)])];unfold bP;simp
def oN(s:ap)(pos:Nat)(v:Int):Λ->Nat->List (Int->Bool)
 |[],_=>[]
 |u::sc,p=>(λx=>(decide (p=pos->x=v))&&decide (x∈bg s u))::oN s pos v sc (p+1)
def Qv(h:0<=v/\v<k):(hZ k).filter (λx=>decide (x=v))=[v]:=by
 have f:(hZ k).Nodup:=by
  unfold hZ;exact List.Pairwise.map _ (λa b s=>Ω) List.nodup_range
 have hm:v∈hZ k:=uu.2 h;generalize hZ k=l at f hm;induction l with
 |nil=>cases hm
 |cons a l q=>
  have p:=List.nodup_cons.1 f;by_cases e:a=v
  .subst e;rw[List.filter_cons_of_pos Ξ,List.filter_eq_nil_iff.2 λx J=>by simp;intro r;exact p.1 (r▸J)]
  .rw[List.filter_cons_of_neg (by simpa using e)];exact q p.2 ((V2.1 hm).resolve_left (Ne.symm e))
section
variable{k:Int}{sizes:Λ}{s:ap}{v:Int}{pos:Nat}
def Qw{u:Int}(a:bi k sizes s)(h:0<=u/\u<sizes.length):(hZ (sizes.getD u.toNat 0)).filter (λx=>decide (x∈bg s u))=bg s u:=by
 have:=a.vars;have⟨x,J⟩:=aH (l:=s.vars) (i:=u.toNat) Ω;have⟨z,f⟩:=aH (l:=sizes) (i:=u.toNat) Ω;have h1:=(a.var _ x z J f).1;have e:bg s u=aC x:=by unfold bg;rw[J]
 have p:sizes.getD u.toNat 0=z:=by rw[u4,f];rfl
 have:=a.fz.2.2 z (x5 f);have q:aC x=(hZ z).filter λv=>!dropped x.mask v:=by unfold aC hZ;rw[h1]
 rw[e,p,q];refine List.filter_congr λy r=>?_;simp[T4,r]
theorem EN(w:bi k sizes s):∀(sc:Λ)(p:Nat),(∀u∈sc,0<=u/\u<sizes.length)->(∀u,p<=pos->sc[pos-p]?=σ u->v∈bg s u)->
  hA s pos v sc p=(((bX sizes sc).map hZ).zip (oN s pos v sc p)).map λq=>q.1.filter q.2
 |[],p,_,_=>rfl
 |u::sc,p,hu,ad=>by
  have y:=EN w sc (p+1) (λu h=>hu u (.tail _ h)) λu' a h=>ad u' Ω (by rw[show pos-p=(pos-(p+1))+1 by omega];exact h);have z:=hu u (.head _);have f:=Qw (s:=s) w z;show(if p=pos then[v]else bg s u)::hA s pos v sc (p+1)=(hZ (sizes.getD u.toNat 0)).filter (λx=>decide (p=pos->x=v)&&decide (x∈bg s u))::((((bX sizes sc).map hZ).zip (oN s pos v sc (p+1))).map λq=>q.1.filter q.2);rw[<-y];congr 1;by_cases a:p=pos
  .rw[if_pos a];have r:v∈bg s u:=ad u Ω (by rw[a,U4];rfl);have A:v∈hZ (sizes.getD u.toNat 0):=by rw[<-f]at r;exact(T4.1 r).1
   rw[<-Qv (uu.1 A)];refine List.filter_congr λx _=>?_;by_cases e:x=v
   .subst e;simp[r]
   .simp[e,a]
  .rw[if_neg a,<-f];refine(List.filter_congr λx J=>?_).symm;rw[f];simp[a]
theorem EO:∀(sc:Λ)(p:Nat),(oN s pos v sc p).length=sc.length
 |[],_=>rfl
 |u::sc,p=>by unfold oN;rw[b6,EO sc (p+1),b6]
def xW(a:bi k sizes s)(e:∀u∈sc,0<=u/\u<sizes.length)(ad:∀u,sc[pos]?=σ u->v∈bg s u):
  bP s sc pos v=(bm (bX sizes sc)).filter (ns (oN s pos v sc 0)):=by
 unfold bP;rw[EN a sc 0 e λu _ h=>ad u h,Es _ _ (by rw[EO,r8];unfold bX;rw[r8]),xL]
end
theorem xX{k:Int}:∀(l:Λ)(z:Int),z<=k->(∀c∈l,0<=c)->l.foldl (λa c=>min (a+c) k) z=min (z+l.sum) k
 |[],z,h,_=>Θ
 |c::l,z,h,e=>by
  have U:∀(l:Λ),(∀c∈l,0<=c)->0<=l.sum:=λl=>by
   induction l with
   |nil=>intro _;simp
   |cons a l f=>intro h;have:=f λc e=>h c (.tail _ e);have:=h a (.head _);rw[List.sum_cons];omega
  have:=e c (.head _);have:=U l λc h=>e c (.tail _ h);rw[T5,xX l _ Ω λc h=>e c (.tail _ h),List.sum_cons];omega
def dB(p:bC×Int):Int:=if p.1.gone≠0 then 0 else p.1.un.getD p.2.toNat 0
def fl(a:Λ)(f:bU):Int:=if f.live≠0 then bl f.aj f.cs (rB a f.sc)else 0
theorem foldl_map'{α β e:Type}(g:α->β)(h:e->β->e)(h':e->α->e)(P:e->Prop)(aB:∀c a,P c->h' c a=h c (g a))(f:∀c a,P c->P (h' c a)):∀(l:List α)(c:e),P c->l.foldl h' c=(l.map g).foldl h c
 |[],_,_=>rfl
 |a::l,c,p=>by
  rw[T5,U7,T5,<-aB c a p];exact foldl_map' g h h' P aB f l _ (f c a p)
def xY{i:Nat}{x y:Int}(h:l[i]?=σ x):(l.set i y).sum=l.sum-x+y:=by
 induction l generalizing i with
 |nil=>simp at h
 |cons a l e=>
  cases i with
  |zero=>simp at h;subst h;rw[List.set_cons_zero,List.sum_cons,List.sum_cons];omega
  |succ i=>
   rw[List.set_cons_succ,List.sum_cons,List.sum_cons,e (by simpa using h)];omega
def dR(k a c:Int):Int:=if a=k then k else a-c
def dC(k a c:Int):Int:=min (a+c) k
def uy{r g u:Int}(a:0<=r)(e:c<=g/\g<=k)(hu:0<=u/\u<=k)(f:0<=c):min (r+dR k g c+dC k u c) k=min (r+g+u) k:=by
 unfold dR dC;split<;>omega
theorem rS:∀(l:Λ),(∀c∈l,0<=c)->0<=l.sum
 |[],_=>Ξ
 |a::l,h=>by have:=rS l λc e=>h c (.tail _ e);have:=h a (.head _);rw[List.sum_cons];omega
theorem rT:∀{l:Λ}{i:Nat}{x:Int},(∀c∈l,0<=c)->l[i]?=σ x->x<=l.sum
 |[],_,_,_,h=>by simp at h
 |a::l,0,x,e,h=>by
  simp at h;subst h;have:=rS l λc h=>e c (.tail _ h);rw[List.sum_cons];omega
 |a::l,i+1,x,e,h=>by
  have:=rT (λc h=>e c (.tail _ h)) (show l[i]?=σ x by simpa using h);have:=e a (.head _);rw[List.sum_cons];omega
def EP{i:Nat}(hk:0<=k)(h:∀c∈l,0<=c/\c<=k):0<=l.getD i 0/\l.getD i 0<=k:=by
 rw[u4];cases a:l[i]? with
 |none=>exact⟨Int.le_refl _,hk⟩
 |some c=>exact h c (x5 a)
def EQ{f:Int->Int}{m:Int}(U:dP aj)(h:cs.length=(bm aj).length)(hi:cq aj t 0=σ m):bl aj (dH f L aj cs) t=if t∈L then f (bl aj cs t)else bl aj cs t:=by
 have a:=kK U hi;have:=(x4.1 a).1;have⟨c,e⟩:=aH (l:=cs) (i:=m.toNat) Ω;have h1:=p3 (f:=f) (L:=L) a e;unfold bl;rw[hi];simp only;rw[u4,h1,u4,e,V4,V4]
section
variable{k:Int}{sizes a:Λ}{s:ap}
def Qx{i:Nat}{p:bC×Int}(e:bi k sizes s)(h:(s.vars.zip a)[i]?=σ p):0<=dB p/\dB p<=k:=by
 have hk:=e.eg;have⟨h1,_⟩:=List.getElem?_zip_eq_some.1 h;have f:=(x4.1 h1).1;have q:=e.vars;have:=e.var i p.1 _ h1 (x6 Ω);unfold dB;split
 .omega
 .exact EP Ω this.2.1
def Qy{f:bU}(e:bi k sizes s)(h:f∈s.funs):0<=fl a f/\fl a f<=k:=by
 have hk:=e.eg;have:=(e.funs f h).1.ih;unfold fl;split
 .exact (tY e.eg λc p=>⟨e.eg,this c p⟩).2
 .omega
def uz(e:bi k sizes s):∀c∈(s.vars.zip a).map dB,0<=c:=λc f=>by
 obtain⟨p,h,rfl⟩:=j5.1 f;have⟨i,hi⟩:=X3.1 h;exact(Qx e hi).1
def rU(e:bi k sizes s):∀c∈s.funs.map (fl a),0<=c:=λc f=>by
 obtain⟨p,h,rfl⟩:=j5.1 f;exact(Qy e h).1
def oO(e:bi k sizes s):hs k s a=if(s.vars.zip a).all iL then min (s.zero+((s.vars.zip a).map dB).sum+(s.funs.map (fl a)).sum) k else k:=by
 have h1:(s.vars.zip a).foldl (rC k) s.zero=((s.vars.zip a).map dB).foldl (λx c=>min (x+c) k) s.zero:=by
  refine foldl_map' dB (λx c=>min (x+c) k) (rC k) (λc=>c<=k) (λc p f=>?_) (λc p f=>?_) _ _ e.zero.2
  .unfold rC dB;split
   .omega
   .rfl
  .unfold rC;split
   .exact f
   .omega
 have h:∀z,z<=k->s.funs.foldl (rD k a) z=(s.funs.map (fl a)).foldl (λx c=>min (x+c) k) z:=λz q=>by
  refine foldl_map' (fl a) (λx c=>min (x+c) k) (rD k a) (λc=>c<=k) (λc p f=>?_) (λc p f=>?_) _ _ q
  .unfold rD fl;split
   .rfl
   .omega
  .unfold rD;split
   .omega
   .exact f
 unfold hs;split
 .rw[h1,xX _ _ e.zero.2 (uz e),h _ Ω,xX _ _ Ω (rU e)];have:=rS _ (rU (a:=a) e);omega
 .rfl
theorem uA{α β:Type}:∀{l:List α}{m:List β}{i:Nat}{x:α}{y:β},m[i]?=σ y->(l.set i x).zip m=(l.zip m).set i (x,y)
 |[],_,_,_,_,_=>Ξ
 |_::_,[],_,_,_,h=>by simp at h
 |a::l,b::m,0,x,y,h=>by simp at h;subst h;rfl
 |a::l,b::m,i+1,x,y,h=>by
  rw[List.set_cons_succ,List.zip_cons_cons,List.zip_cons_cons,List.set_cons_succ,uA (by simpa using h)]
theorem uB{α:Type}{q:α->Bool}:∀{l:List α}{i:Nat}{x y:α},l[i]?=σ x->q y=q x->(l.set i y).all q=l.all q
 |[],_,_,_,h,_=>by simp at h
 |a::l,0,x,y,h,e=>by simp at h;subst h;rw[List.set_cons_zero,List.all_cons,List.all_cons,e]
 |a::l,i+1,x,y,h,e=>by rw[List.set_cons_succ,List.all_cons,List.all_cons,uB (by simpa using h) e]
def eI(s:ap)(u:Nat)(x:bC)(un:Λ):ap:={s with vars:=s.vars.set u {x with un:=un}}
def dS(s:ap)(j:Nat)(f:bU)(cs:Λ):ap:={s with funs:=s.funs.set j {f with cs:=cs}}
def xZ{u:Nat}{x:bC}{un:Λ}(a:bi k sizes s)(J:s.vars[u]?=σ x)(e:un.length=x.un.length)(f:∀c∈un,0<=c/\c<=k):bi k sizes (eI s u x un):=by
 have:=(x4.1 J).1;have:=a.vars;have h1:=a.var u x _ J (x6 Ω);exact a.ur J e f h1.2.2
def ER{f:bU}(a:bi k sizes s)(ae:s.funs[j]?=σ f)(e:cs.length=f.cs.length)(h:∀c∈cs,0<=c/\c<=k):bi k sizes (dS s j f cs):=a.En ae T rfl e h
def Qz{u:Nat}{x:bC}{f:bU}{un:Λ}{bj:Int}(e:bi k sizes s)(J:s.vars[u]?=σ x)(ae:s.funs[j]?=σ f)(w:un.length=x.un.length)(y:∀c∈un,0<=c/\c<=k)(z:cs.length=f.cs.length)(A:∀c∈cs,0<=c/\c<=k)(q:a[u]?=σ bj)(h:(s.vars.zip a).all iL=true->∀r,0<=r->min (r+fl a {f with cs:=cs}+dB ({x with un:=un},bj)) k=min (r+fl a f+dB (x,bj)) k):hs k (eI (dS s j f cs) u x un) a=hs k s a:=by
 have B:=ER e ae z A;have C:bi k sizes (eI (dS s j f cs) u x un):=xZ B J w y;rw[oO C,oO e];have p:(s.vars.zip a)[u]?=σ (x,bj):=List.getElem?_zip_eq_some.2 ⟨J,q⟩;have E:((eI (dS s j f cs) u x un).vars.zip a)=(s.vars.zip a).set u ({x with un:=un},bj):=uA q;have F:((s.vars.zip a).set u ({x with un:=un},bj)).all iL=(s.vars.zip a).all iL:=uB p T;rw[E,F];split
 .rename_i G;have H:(((s.vars.zip a).set u ({x with un:=un},bj)).map dB).sum=((s.vars.zip a).map dB).sum-dB (x,bj)+dB ({x with un:=un},bj):=by
   rw[U5];exact xY (by rw[x8,p];rfl)
  have I:((eI (dS s j f cs) u x un).funs.map (fl a)).sum=(s.funs.map (fl a)).sum-fl a f+fl a {f with cs:=cs}:=by
   show((s.funs.set j {f with cs:=cs}).map (fl a)).sum=_;rw[U5];exact xY (by rw[x8,ae];rfl)
  have:=rT (uz (a:=a) e) (i:=u) (x:=dB (x,bj)) (by rw[x8,p];rfl);have:=rT (rU (a:=a) e) (i:=j) (x:=fl a f) (by rw[x8,ae];rfl);have:=e.zero.1;have:=h G (s.zero+(((s.vars.zip a).map dB).sum-dB (x,bj))+((s.funs.map (fl a)).sum-fl a f)) Ω;rw[H,I];show min (s.zero+_+_) k=_;omega
 .rfl
end
theorem x0{s:ap}{pos:Nat}{v:Int}:∀(sc:Λ)(p q:Nat),(hA s pos v sc p)[q]?=(sc[q]?).map λu=>if p+q=pos then[v]else bg s u
 |[],_,q=>by simp[hA]
 |u::sc,p,0=>by simp[hA]
 |u::sc,p,q+1=>by
  unfold hA;rw[List.getElem?_cons_succ,List.getElem?_cons_succ,x0 sc (p+1) q,show p+1+q=p+(q+1) by omega]
theorem ES{s:ap}{pos:Nat}{v:Int}:∀(sc:Λ)(p:Nat),(hA s pos v sc p).length=sc.length
 |[],_=>rfl
 |u::sc,p=>by unfold hA;rw[b6,ES sc (p+1),b6]
def x2{s:ap}{pos:Nat}:t∈bP s sc pos v↔t.length=sc.length/\∀(p:Nat)u w,sc[p]?=σ u->t[p]?=σ w->if p=pos then w=v else w∈bg s u:=by
 unfold bP;rw[ut,ES];refine and_congr_right λ_=>⟨λh p u w hu hw=>?_,λh p d w a hw=>?_⟩
 .have:w∈if 0+p=pos then[v]else bg s u:=h p _ w (by rw[x0,hu];rfl) hw;rw[X2]at this;split
  .rename_i e;rw[if_pos e]at this;exact o9.1 this
  .rename_i e;rw[if_neg e]at this;exact this
 .rw[x0]at a;cases hu:sc[p]? with
  |none=>rw[hu]at a;cases a
  |some u=>
   rw[hu]at a;have a:(if 0+p=pos then[v]else bg s u)=d:=b9 a;subst a;have:=h p u w hu hw;rw[X2];split
   .rename_i e;rw[if_pos e]at this;exact o9.2 this
   .rename_i e;rw[if_neg e]at this;exact this
def gg{x:bC}:v∈aC x↔(0<=v/\v<x.un.length)/\dropped x.mask v=false:=by
 unfold aC;rw[T4];refine and_congr ?_ Ξ;have:=uu (k:=(x.un.length:Int)) (v:=v);unfold hZ at this;rw[u7]at this;exact this
def ET{f:Int->Int}(U:dP aj)(r:∀c∈cs,0<=c/\c<=k)(ae:∀t∈L,0<=f (bl aj cs t)/\f (bl aj cs t)<=k):∀c∈dH f L aj cs,0<=c/\c<=k:=λc a=>by
 unfold dH at a;obtain⟨p,s,rfl⟩:=j5.1 a;have⟨i,hi⟩:=X3.1 s;have⟨h1,h⟩:=List.getElem?_zip_eq_some.1 hi;split
 .rename_i w;have q:=ae p.1 w;have e:bl aj cs p.1=p.2:=by
   unfold bl;rw[jG U h1];simp only;rw[u7,u4,h];rfl
  rw[e]at q;exact q
 .exact r _ (x5 h)
section
variable{k:Int}{sizes a:Λ}{s:ap}
def jl(s:ap)(j:Nat)(f:bU)(pos u:Nat)(x:bC)(v:Int)(tup un:Int->Int):ap:=
 eI (dS s j f (dH tup (bP s f.sc pos v) f.aj f.cs)) u x (x.un.set v.toNat (un (x.un.getD v.toNat 0)))
def ko{f:bU}(e:bi k sizes s)(ae:f∈s.funs):dP f.aj/\f.cs.length=(bm f.aj).length:=by
 have⟨a,h,_⟩:=e.funs f ae;have p:dP f.aj:=by rw[h];exact pR e.fz.2.2 λv ad=>⟨(a.scope.1 v ad).1,a.vars v ad⟩
 refine⟨p,?_⟩;have h1:=a.len;rw[iz p,h];exact h1
def EU{pos u:Nat}{f:bU}{x:bC}{tup un:Int->Int}(a:bi k sizes s)(ae:s.funs[j]?=σ f)(J:s.vars[u]?=σ x)(e:∀t∈bP s f.sc pos v,0<=tup (bl f.aj f.cs t)/\tup (bl f.aj f.cs t)<=k)(h:0<=un (x.un.getD v.toNat 0)/\un (x.un.getD v.toNat 0)<=k):bi k sizes (jl s j f pos u x v tup un):=by
 have⟨p,r⟩:=ko a (x5 ae);have q:=(a.funs f (x5 ae)).1;have:=(x4.1 J).1;have:=a.vars;have h1:=a.var u x _ J (x6 Ω);exact xZ (ER a ae (oK _ _ _ _ Ω) (ET p q.ih e)) J (by rw[c9]) (rL h1.2.1 h)
def EV{pos u:Nat}{f:bU}{x:bC}{tup un:Int->Int}(p:bi k sizes s)(P:lE s a)(ae:s.funs[j]?=σ f)(Q:f.live≠0)(hu:f.sc[pos]?=σ (u:Int))(J:s.vars[u]?=σ x)(ad:v∈aC x)(R:∀w∈f.sc,∀y,s.vars[w.toNat]?=σ y->y.gone=0)(X:∀t∈bP s f.sc pos v,0<=tup (bl f.aj f.cs t)/\tup (bl f.aj f.cs t)<=k)(Y:0<=un (x.un.getD v.toNat 0)/\un (x.un.getD v.toNat 0)<=k)(Z:∀t∈bP s f.sc pos v,∀r,0<=r->min (r+tup (bl f.aj f.cs t)+un (x.un.getD v.toNat 0)) k=min (r+bl f.aj f.cs t+x.un.getD v.toNat 0) k):
  hs k (jl s j f pos u x v tup un) a=hs k s a:=by
 have⟨F,aa⟩:=ko p (x5 ae);have⟨G,S,_⟩:=p.funs f (x5 ae);have au:=(x4.1 J).1;have av:=p.vars;have h1:=p.var u x _ J (x6 Ω);have aw:=P.1;have⟨bj,T⟩:=aH (l:=a) (i:=u) Ω;refine Qz p J ae (by rw[c9]) (rL h1.2.1 Y) (oK _ _ _ _ Ω) (ET F G.ih X) T λab r ac=>?_;have U:x.gone=0:=R u (x5 hu) x (by rw[u7];exact J);obtain⟨tl,B⟩:∃tl,tl=rB a f.sc:=⟨_,rfl⟩;have H:∀(q:Nat)w,f.sc[q]?=σ w->∃y,s.vars[w.toNat]?=σ y/\tl[q]?=σ (a.getD w.toNat 0)/\a.getD w.toNat 0∈aC y/\f.aj[q]?=σ (y.un.length:Int):=λq w hw=>by
  have hm:=x5 hw;have ax:=(G.scope.1 w hm).1;have ay:=G.vars w hm;have⟨y,h⟩:=aH (l:=s.vars) (i:=w.toNat) Ω;have⟨z,I⟩:=aH (l:=sizes) (i:=w.toNat) Ω;have⟨K,L⟩:=aH (l:=a) (i:=w.toNat) Ω;have af:=R w hm y h;have az:=(p.var _ y z h I).1;have aA:=p.fz.2.2 z (x5 I);have e:a.getD w.toNat 0=K:=by rw[u4,L];rfl
  have V:=List.all_eq_true.1 ab (y,K) (x5 (List.getElem?_zip_eq_some.2 ⟨h,L⟩));have ag:=(P.2 _ y K h L).resolve_left Ω;refine⟨y,h,by rw[B];unfold rB;rw[x8,hw];rfl,?_,?_⟩
  .rw[e,gg];refine⟨ag,?_⟩;unfold iL at V;simpa[af]using V
  .rw[S];unfold bX;rw[x8,hw,Z6,u4,I,V4];congr 1;omega
 have ah:tl.length=f.sc.length:=by rw[B];unfold rB;rw[r8]
 have aB:f.aj.length=f.sc.length:=by rw[S];unfold bX;rw[r8]
 obtain⟨m,hm⟩:∃m,cq f.aj tl 0=σ m:=by
  have:tl∈bm f.aj:=by
   rw[xL,ut];refine⟨by rw[r8];omega,λq d w W hw=>?_⟩;have⟨b,A⟩:=aH (l:=f.sc) (i:=q) (by have:=(x4.1 hw).1;omega);have⟨y,_,M,N,ai⟩:=H q b A;rw[x8,ai]at W;cases W;rw[M]at hw;cases hw;exact uu.2 (gg.1 N).1
  have⟨i,hi⟩:=X3.1 this;exact⟨_,jG F hi⟩
 have ak:fl a f=bl f.aj f.cs tl:=by unfold fl;rw[if_pos Q,B]
 have al:fl a {f with cs:=dH tup (bP s f.sc pos v) f.aj f.cs}=if tl∈bP s f.sc pos v then tup (bl f.aj f.cs tl)else bl f.aj f.cs tl:=by
  rw[<-EQ F aa hm,B];unfold fl;rw[if_pos Q]
 have am:dB (x,bj)=x.un.getD bj.toNat 0:=by unfold dB;rw[if_neg (by simp[U])]
 have an:dB ({x with un:=x.un.set v.toNat (un (x.un.getD v.toNat 0))},bj)=(x.un.set v.toNat (un (x.un.getD v.toNat 0))).getD bj.toNat 0:=by unfold dB;rw[if_neg (by simp[U])]
 have⟨y,h,C,O,_⟩:=H pos _ hu;rw[u7]at h C O;rw[J]at h;cases h;have ao:a.getD u 0=bj:=by rw[u4,T];rfl
 rw[ao]at C O;have aD:=(gg.1 ad).1;have aE:=(gg.1 O).1;rw[ak,al,am,an];by_cases he:bj=v
 .subst he;have E:tl∈bP s f.sc pos bj:=x2.2 ⟨ah,λq w b hw A=>by
   have⟨aF,ap,M,N,_⟩:=H q w hw;split
   .rename_i aq;subst aq;rw[C]at A;exact(b9 A).symm
   .rw[M]at A;cases A;unfold bg;rw[ap];exact N⟩
  rw[if_pos E,u4 (l:=x.un.set _ _),c8 Ω,V4];exact Z tl E r ac
 .have E:tl∉bP s f.sc pos v:=λhm=>by
   have:=(x2.1 hm).2 pos _ bj hu C;rw[if_pos rfl]at this;exact he this
  rw[if_neg E,u4 (l:=x.un.set _ _),Y2 Ω,<-u4]
end
def ej(g:Int->Int)(un L:Λ):Λ:=L.foldl (λun v=>un.set v.toNat (g (un.getD v.toNat 0))) un
theorem uC{g:Int->Int}:∀(L un:Λ),(ej g un L).length=un.length
 |[],_=>rfl
 |v::L,un=>by
  unfold ej;rw[T5];have:=uC (g:=g) L (un.set v.toNat (g (un.getD v.toNat 0)));unfold ej at this;rw[this,c9]
theorem uD{g:Int->Int}:∀(L un:Λ)(w:Int),L.Nodup->(∀v∈L,0<=v/\v<un.length)->0<=w->(ej g un L).getD w.toNat 0=if w∈L then g (un.getD w.toNat 0)else un.getD w.toNat 0
 |[],un,w,_,_,_=>by simp[ej]
 |v::L,un,w,p,a,hw=>by
  have⟨h1,q⟩:=List.nodup_cons.1 p;have:=a v (.head _);have r:=uD (g:=g) L (un.set v.toNat (g (un.getD v.toNat 0))) w q (λu hu=>by rw[c9];exact a u (.tail _ hu)) hw;have e:ej g un (v::L)=ej g (un.set v.toNat (g (un.getD v.toNat 0))) L:=rfl;rw[e,r];by_cases f:w=v
  .subst f;have U:(un.set w.toNat (g (un.getD w.toNat 0))).getD w.toNat 0=g (un.getD w.toNat 0):=by
    rw[u4 (l:=un.set _ _),c8 Ω];rfl
   rw[if_neg h1,if_pos (.head _),U]
  .have U:(un.set v.toNat (g (un.getD v.toNat 0))).getD w.toNat 0=un.getD w.toNat 0:=by
    rw[u4 (l:=un.set _ _),Y2 Ω,<-u4]
   rw[U];by_cases hm:w∈L
   .rw[if_pos hm,if_pos (.tail _ hm)]
   .rw[if_neg hm,if_neg λh=>(V2.1 h).elim f hm]
def rV(x:bC):(aC x).Nodup:=by
 unfold aC;apply List.Nodup.sublist List.filter_sublist;exact List.Pairwise.map _ (λa b e=>Ω) List.nodup_range
theorem EW{k:Int}{g:Int->Int}:∀(L un:Λ),(∀c∈un,0<=c/\c<=k)->L.Nodup->(∀v∈L,0<=v/\v<un.length)->(∀v∈L,0<=g (un.getD v.toNat 0)/\g (un.getD v.toNat 0)<=k)->∀c∈ej g un L,0<=c/\c<=k
 |[],un,h,_,_,_,c,a=>h c a
 |v::L,un,h,q,f,p,c,a=>by
  have⟨h1,r⟩:=List.nodup_cons.1 q;have:=f v (.head _);refine EW (g:=g) L (un.set v.toNat (g (un.getD v.toNat 0))) (rL h (p v (.head _))) r (λu hu=>by rw[c9];exact f u (.tail _ hu)) (λu hu=>?_) c a;have:u≠v:=λe=>h1 (e▸hu);have:=f u (.tail _ hu);rw[u4 (l:=un.set _ _),Y2 Ω,<-u4];exact p u (.tail _ hu)
section
variable{k:Int}{sizes a:Λ}{s:ap}
def k1(s:ap)(u:Nat)(x:bC)(g z:Int->Int):ap:={eI s u x (ej g x.un (aC x))with zero:=z s.zero}
def bi.QA(a:bi k sizes s)(h:0<=c/\c<=k):bi k sizes {s with zero:=c}:=⟨a.eg,a.fz,h,a.vars,a.var,a.funs⟩
def x9{u:Nat}{x:bC}{g z:Int->Int}(a:bi k sizes s)(J:s.vars[u]?=σ x)(e:∀v∈aC x,0<=g (x.un.getD v.toNat 0)/\g (x.un.getD v.toNat 0)<=k)(f:0<=z s.zero/\z s.zero<=k):bi k sizes (k1 s u x g z):=by
 have:=(x4.1 J).1;have:=a.vars;have h1:=a.var u x _ J (x6 Ω);exact(xZ a J (uC _ _) (EW _ _ h1.2.1 (rV x) (λv ad=>(gg.1 ad).1) e)).QA f
def EX{u:Nat}{x:bC}{g z:Int->Int}(e:bi k sizes s)(q:lE s a)(J:s.vars[u]?=σ x)(h:x.gone=0)(C:∀v∈aC x,0<=g (x.un.getD v.toNat 0)/\g (x.un.getD v.toNat 0)<=k)(E:0<=z s.zero/\z s.zero<=k)(F:∀v∈aC x,∀r,0<=r->min (r+g (x.un.getD v.toNat 0)+z s.zero) k=min (r+x.un.getD v.toNat 0+s.zero) k):hs k (k1 s u x g z) a=hs k s a:=by
 have G:=x9 e J C E;have:=(x4.1 J).1;have:=e.vars;have:=q.1;have⟨bj,p⟩:=aH (l:=a) (i:=u) Ω;rw[oO G,oO e];have f:(s.vars.zip a)[u]?=σ (x,bj):=List.getElem?_zip_eq_some.2 ⟨J,p⟩;obtain⟨un,w⟩:∃un,un=ej g x.un (aC x):=⟨_,T⟩;have H:((k1 s u x g z).vars.zip a)=(s.vars.zip a).set u ({x with un:=un},bj):=by rw[w];exact uA p
 have I:((s.vars.zip a).set u ({x with un:=un},bj)).all iL=(s.vars.zip a).all iL:=uB f T;rw[H,I];split
 .rename_i K;have L:(((s.vars.zip a).set u ({x with un:=un},bj)).map dB).sum=((s.vars.zip a).map dB).sum-dB (x,bj)+dB ({x with un:=un},bj):=by
   rw[U5];exact xY (by rw[x8,f];rfl)
  have h1:=rT (uz (a:=a) e) (i:=u) (x:=dB (x,bj)) (by rw[x8,f];rfl);have:=rS _ (rU (a:=a) e);have y:=List.all_eq_true.1 K (x,bj) (x5 f);have A:=(q.2 _ x bj J p).resolve_left Ω;have B:bj∈aC x:=by
   rw[gg];refine⟨A,?_⟩;unfold iL at y;simpa[h]using y
  have M:dB (x,bj)=x.un.getD bj.toNat 0:=by unfold dB;rw[if_neg (by simp[h])]
  have N:dB ({x with un:=un},bj)=g (x.un.getD bj.toNat 0):=by
   unfold dB;rw[if_neg (by simp[h])];show un.getD bj.toNat 0=_;rw[w,uD _ _ _ (rV x) (λv ad=>(gg.1 ad).1) A.1,if_pos B]
  rw[L,N];rw[M]at h1 ⊢;have:=F bj B (((s.vars.zip a).map dB).sum-x.un.getD bj.toNat 0+(s.funs.map (fl a)).sum) Ω;show min (z s.zero+_+(s.funs.map (fl a)).sum) k=_;omega
 .rfl
def QB{m:Nat}{w:Int}(ad:0<=v)(hw:0<=w):dropped ((m ||| 2 ^ v.toNat:Nat):Int) w=(dropped (m:Int) w||decide (w=v)):=by
 unfold dropped;rw[u7,u7,Nat.testBit_or,Nat.testBit_two_pow];congr 1;exact decide_eq_decide.2 ⟨λh=>Ω,λh=>Ω⟩
def mD{i:Nat}{x:bC}(J:s.vars[i]?=σ x):eo s i v.toNat={s with vars:=s.vars.set i {x with mask:=((x.mask.toNat ||| 2 ^ v.toNat:Nat):Int)}}:=by
 unfold eo;rw[J]
def ya{i:Nat}{x:bC}(a:bi k sizes s)(J:s.vars[i]?=σ x)(ad:0<=v/\v<x.un.length):bi k sizes (eo s i v.toNat):=by
 rw[mD J];have:=(x4.1 J).1;have:=a.vars;have h1:=a.var i x _ J (x6 Ω);have:=a.fz.2.2 _ (S3 (l:=sizes) (n:=i) Ω);refine a.ur J T h1.2.1 ⟨by simp only;omega,?_⟩;have e:x.mask.toNat<2 ^ 32:=by have:=h1.2.2;omega
 have f:2 ^ v.toNat<2 ^ 32:=Nat.pow_lt_pow_right Ω Ω;have:=Nat.or_lt_two_pow e f;simp only;omega
def EY{i:Nat}{bj:Int}{x:bC}(f:bi k sizes s)(B:lE s a)(J:s.vars[i]?=σ x)(C:x.gone=0)(ad:0<=v/\v<x.un.length)(p:a[i]?=σ bj):hs k (eo s i v.toNat) a=if bj=v then k else hs k s a:=by
 have E:=ya f J ad;rw[oO E,oO f];have r:(s.vars.zip a)[i]?=σ (x,bj):=List.getElem?_zip_eq_some.2 ⟨J,p⟩;have F:=(B.2 _ x bj J p).resolve_left Ω;obtain⟨y,w⟩:∃y:bC,y={x with mask:=((x.mask.toNat ||| 2 ^ v.toNat:Nat):Int)}:=⟨_,T⟩;have G:((eo s i v.toNat).vars.zip a)=(s.vars.zip a).set i (y,bj):=by rw[mD J,w];exact uA p
 have z:(eo s i v.toNat).zero=s.zero/\(eo s i v.toNat).funs=s.funs:=by rw[mD J];exact⟨T,T⟩
 have A:iL (y,bj)=(iL (x,bj)&&decide (bj≠v)):=by
  unfold iL;rw[w];simp only[C];rw[QB ad.1 F.1];have hm:((x.mask.toNat:Nat):Int)=x.mask:=by
   have N:=(x4.1 J).1;have O:=f.vars;have h1:=f.var i x _ J (x6 Ω);omega
  rw[hm];by_cases e:bj=v
  .simp[e]
  .simp[e]
 rw[G,z.1,z.2];by_cases e:bj=v
 .rw[if_pos e,if_neg];intro H;have:=List.all_eq_true.1 H (y,bj) (x5 (c8 (x4.1 r).1));rw[A]at this;simp[e]at this
 .have I:((s.vars.zip a).set i (y,bj)).all iL=(s.vars.zip a).all iL:=uB r (by rw[A];simp[e]);have K:((s.vars.zip a).set i (y,bj)).map dB=(s.vars.zip a).map dB:=by
   rw[U5];have L:dB (y,bj)=dB (x,bj):=by rw[w];rfl
   rw[L];refine Y4 λq=>?_;rw[X0];split
   .rename_i M;subst M;split
    .rw[x8,r];rfl
    .rename_i h;rw[Z2 Ω]
   .rfl
  rw[if_neg e,I,K]
def QC{i:Nat}{bj:Int}{x:bC}(f:lE s a)(J:s.vars[i]?=σ x)(h:x.gone=0)(e:a[i]?=σ bj)(p:bj∉aC x):hs k s a=k:=by
 have q:=(f.2 _ x bj J e).resolve_left Ω;unfold hs;rw[if_neg];intro r;have:=List.all_eq_true.1 r (x,bj) (x5 (List.getElem?_zip_eq_some.2 ⟨J,e⟩));unfold iL at this;have w:dropped x.mask bj=false:=by simpa[h]using this
 exact p (gg.2 ⟨q,w⟩)
end
end Go.Proofs.YtikkpokkcdocoabGreatDoor
namespace Go.Vc
open Go Go.RowKit
section
variable{P:W8}{w:x3}{α:Type}[au α]{S R:ak}
def EZ{k:Nat}{vs:List (List x1)}{i:Nat}{c:List x1}(h:∀x∈vs,x.length=k)(e:c.length=k)(hi:i<vs.length):over vs.flatten (i*k) c=(vs.set i c).flatten:=by
 have:=wF (f:=id) (k:=k) (L:=vs) (i:=i) (a:=c) h e hi;rw[List.flatMap_id,List.flatMap_id]at this;exact this
def QD{v:x1}{l:List α}{i:Nat}(h:bI S R w [v] l)(P:i<l.length):∃g cap full p,v= .slice (σ ⟨g,0,ν⟩) l.length cap/\ag w g p full/\S g/\i*au.n α+au.n α<=full.length/\
  ∀{A:ak}{cs:List x1}{a:α},bI A R w cs a->(∀r,r<w.heap.size->S r->¬A r/\¬R r)->∀w',ai (λr=>r=g) w w'->ag w' g p (over full (i*au.n α) cs)->bI (λr=>S r\/A r) R w' [v] (l.set i a):=by
 have⟨vs,g,F,s,he,U,hm⟩:=jC h;have⟨Q,p,T⟩:=hm rfl;obtain⟨ad,⟨rfl,af⟩|⟨cap,full,rfl,E,H,V,ae,W⟩⟩:=id T
 .omega
 have I:vs.length=l.length:=he.1;have X:(i+1)*au.n α<=l.length*au.n α:=X9 _ P;have Y:l.length*au.n α<=full.length:=by rw[ae];exact X9 _ H
 rw[U3,Nat.one_mul]at X;have y:S g:=Q.resolve_left Ξ;refine⟨g,cap,full,p,rfl,E,y,Ω,λ{A cs a}J z w' K Z=>?_⟩;have L:=au.len J;have M:¬A g:=(z g E.lt y).1;have N:¬R g:=(z g E.lt y).2;have aa:∀c∈vs.set i cs,c.length=au.n α:=λc x=>by
  rcases W0 x with e|rfl
  .exact he.len c e
  .exact L
 have O:b1 w' g p (au.n α) (.slice (σ ⟨g,0,ν⟩) l.length cap) (l.set i a).length (vs.set i cs).flatten:=by
  refine⟨by rw[qI aa,c9,c9,I],.inr ⟨cap,_,by rw[c9],Z,by rw[c9];exact H,V,by rw[lj,ae],?_⟩⟩;rw[c9,tz Ω Y,W,EZ he.len L Ω]
 refine⟨_,rfl,vs.set i cs,g,λj r=>if j=i then A r/\r<w.heap.size else F j r/\r<w.heap.size,⟨λj r f=>?_,λ_ j f=>?_,λ_ j q r ac h1 e=>?_⟩,⟨by simp[I],λj c a' x B=>?_⟩,?_,λ_=>⟨.inr (.inl y),p,O⟩⟩
 .split at f
  .exact .inr f.1
  .exact .inl (s.sub j r f.1)
 .split at f
  .exact M f.1
  .exact s.top rfl j f.1
 .split at h1<;>split at e
  .omega
  .exact (z r e.2 (s.sub q r e.1)).1 h1.1
  .exact (z r h1.2 (s.sub j r h1.1)).1 e.1
  .exact s.gR rfl j q r ac h1.1 e.1
 .by_cases C:j=i
  .subst C;rw[c8 Ω]at x B;cases x;cases B;have G:bI (λr=>if j=j then A r/\r<w.heap.size else F j r/\r<w.heap.size) R w cs a:=au.mono J (λr f h=>by rw[if_pos rfl];exact⟨h,f⟩) λ_ _ h=>h;refine au.ab G K λr f h1 e=>?_;have e:r=g:=e;subst e;rcases h1 with h1|h1
   .simp only[if_true]at h1;exact M h1.1
   .exact N h1
  .rw[Y2 (Ne.symm C)]at x B;have G:bI (λr=>if j=i then A r/\r<w.heap.size else F j r/\r<w.heap.size) R w c a':=au.mono (he.2 j c a' x B) (λr f h=>by rw[if_neg C];exact⟨h,f⟩) λ_ _ h=>h;refine au.ab G K λr f h1 e=>?_;have e:r=g:=e;subst e;rcases h1 with h1|h1
   .simp only[if_neg C]at h1;exact s.top rfl j h1.1
   .exact N h1
 .have:=ps (S:=λr=>(S r\/A r)\/R r) O (.inr (.inl (.inl y)));exact this
def E0{t:p9}{E:o7}{i b:Nat}{y:Int}{z v x:x1}{l:List α}{a:α}{A:ak}{K:Unit->x3->Prop}(q:au.n α=1)(F:y=(i:Int))(G:P.underlying t=σ (.slice e))(hi:aS P e 1 b z)(h:bI S R w [v] l)(s:i<l.length)(J:x.cells= #[x])(B:bI A R w [x] a)(H:∀r,r<w.heap.size->S r->¬A r/\¬R r)(I:∀w',ai S w w'->bI (λr=>S r\/A r) R w' [v] (l.set i a)->K () w'):ac P (j9 t v (.int E y)) w λp=>aE P (o8 e p x) w K:=by
 subst F;obtain⟨g,cap,full,T,rfl,L,M,N,O⟩:=QD h s;rw[q]at N;rw[fg G hi s λ_=>rfl];refine bq (o:=0+i*1) hi J (au.one B x (.head _)) L Ω λw' C _ Q=>I w' (C.mono λr _ f=>by have f:r=g:=f;subst f;exact M) (O B H w' C ?_);rw[q,X2]at*;exact Q
end
end Go.Vc
namespace Go.Proofs.YtikkpokkcdocoabGreatDoor
open Go Go.Vc Go.RowKit Go.Proofs Go.Proofs.Tryz
set_option maxRecDepth 100000
abbrev ir:Type:=(Rd (Λ)×Rd (Λ)×Λ)×Bool
abbrev oP:Type:=Int×Rd (Λ)×Rd (Λ)
def hc(f:bU):ir:=((f.sc,f.aj,f.cs),decide (f.live≠0))
def E1(e:xe):oP:=(e.v,e.sc,e.ub)
def ci(m:Bool)(A:Nat->ak)(R:ak)(w:x3)(cs:List x1)(k:Int)(sizes:Λ)(zero:Int)(D:List (Λ))(G:List Bool)(aY:List (Λ))(H:List ir)(E:List oP):Prop:=
 ∃szv a e f h p,cs=[Δ k,szv,Δ zero,a,e,f,h,p]/\Seen R w [szv] sizes/\
 au.rep m (A 0) R w [a] D/\au.rep m (A 1) R w [e] G/\au.rep m (A 2) R w [f] aY/\au.rep m (A 3) R w [h] H/\au.rep m (A 4) R w [p] E/\
 (m=true->(∀i j r,i≠j->A i r->¬A j r)/\∀i r,A i r->¬R r)
abbrev iO(m:Bool)(A:Nat->ak)(R:ak)(w:x3)(cs:List x1)(k:Int)(sizes:Λ)(s:ap):Prop:=
 ci m A R w cs k sizes s.zero (s.vars.map aC) (s.vars.map λx=>decide (x.gone≠0)) (s.vars.map (·.un)) (s.funs.map hc) (s.hr.map E1)
def gu(w:x3)(v:x1)(k:Int)(sizes:Λ)(s:ap):Prop:=∃cs,v= .agg cs.toArray/\iO false (λ_ _=>False) eM w cs k sizes s
def iP(A:Nat->ak)(i:Nat)(B:ak):Nat->ak:=λj=>if j=i then B else A j
section
variable{m:Bool}{A:Nat->ak}{R:ak}{w w':x3}{cs:List x1}{k zero:Int}{sizes:Λ}{D:List (Λ)}{G:List Bool}{aY:List (Λ)}{H:List ir}{E:List oP}{s:ap}
def ci.len(h:ci m A R w cs k sizes zero D G aY H E):cs.length=8/\∀u∈cs,u.oneCell'=true:=by
 obtain⟨szv,r,s,x,y,z,rfl,h1,a,e,f,p,q,_⟩:=h;refine⟨T,λu hu=>?_⟩;simp only[V2,List.not_mem_nil,or_false]at hu;rcases hu with rfl|rfl|rfl|rfl|rfl|rfl|rfl|rfl
 .rfl
 .exact gS h1
 .rfl
 .exact gS a
 .exact gS e
 .exact gS f
 .exact gS p
 .exact gS q
def ci.ab{T:ak}(h:ci m A R w cs k sizes zero D G aY H E)(a:ai T w w')(f:∀r,r<w.heap.size->(∃i,A i r)\/R r->¬T r):ci m A R w' cs k sizes zero D G aY H E:=by
 obtain⟨szv,p,q,s,x,y,rfl,h1,z,B,C,F,I,J⟩:=h;have aB:∀i r,r<w.heap.size->A i r\/R r->¬T r:=λi r e h=>f r e (h.imp (λh=>⟨i,h⟩) id);exact⟨szv,p,q,s,x,y,rfl,au.ab h1 a λr e h=>f r e (h.elim False.elim .inr),au.ab z a (aB 0),au.ab B a (aB 1),au.ab C a (aB 2),au.ab F a (aB 3),au.ab I a (aB 4),J⟩
def ci.ext(h:ci m A R w cs k sizes zero D G aY H E)(J:Ext w w'):ci m A R w' cs k sizes zero D G aY H E:=h.ab (J.ab λ_=>False) λ_ _ _ h=>h
def iO.E2(h:iO m A R w cs k sizes s):gu w (.agg cs.toArray) k sizes s:=by
 obtain⟨szv,a,e,f,p,q,rfl,h1,r,x,y,z,B,C⟩:=h;exact⟨_,T,szv,a,e,f,p,q,T,jB h1,jB r,jB x,jB y,jB z,jB B,λh=>by cases h⟩
def ci.old(h:ci true A R w cs k sizes zero D G aY H E):ci true (λi r=>A i r/\r<w.heap.size) R w cs k sizes zero D G aY H E:=by
 obtain⟨szv,f,p,q,s,x,rfl,h1,a,y,z,B,C,e⟩:=h;have⟨e,F⟩:=e T;have hm:∀i r,r<w.heap.size->A i r->A i r/\r<w.heap.size:=λi r I h=>⟨h,I⟩;exact⟨szv,f,p,q,s,x,T,h1,au.mono a (hm 0) λ_ _ h=>h,au.mono y (hm 1) λ_ _ h=>h,au.mono z (hm 2) λ_ _ h=>h,au.mono B (hm 3) λ_ _ h=>h,au.mono C (hm 4) λ_ _ h=>h,
  λ_=>⟨λi j r J h1 a=>e i j r J h1.1 a.1,λi r h=>F i r h.1⟩⟩
def uE{i:Nat}{B:ak}(h:∀i j r,i≠j->A i r->¬A j r)(e:∀j r,j≠i->B r->¬A j r):∀p q r,p≠q->iP A i B p r->¬iP A i B q r:=λp q r f h1 a=>by
 unfold iP at h1 a;split at h1<;>split at a
 .omega
 .exact e q r (by assumption) h1 a
 .exact e p r (by assumption) a h1
 .exact h p q r f h1 a
def uF{i:Nat}{B:ak}(h:∀i r,A i r->¬R r)(a:∀r,B r->¬R r):∀p r,iP A i B p r->¬R r:=λp r h1=>by
 unfold iP at h1;split at h1
 .exact a r h1
 .exact h p r h1
def ci.E3{B:ak}{x:x1}{D':List (Λ)}(h:ci true A R w cs k sizes zero D G aY H E){T:ak}(e:ai T w w')(p:∀r,T r->A 0 r\/(∀j,¬A j r)/\¬R r)(y:bI B R w' [x] D')(z:∀j r,j≠0->B r->¬A j r)(C:∀r,B r->¬R r):ci true (iP A 0 B) R w' (cs.set 3 x) k sizes zero D' G aY H E:=by
 obtain⟨szv,Q,F,I,J,K,rfl,h1,a,L,M,N,O,f⟩:=h;have⟨f,q⟩:=f rfl;have s:∀r,R r->¬T r:=λr h a=>(p r a).elim (λa=>q 0 r a h) λa=>a.2 h;have aB:∀j r,j≠0->r<w.heap.size->A j r\/R r->¬T r:=λj r P _ h a=>h.elim (λh=>(p r a).elim (λa=>f j 0 r P h a) λa=>a.1 j h) λh=>s r h a;refine⟨szv,x,F,I,J,K,rfl,au.ab h1 e λr _ h=>h.elim False.elim (s r),?_,?_,?_,?_,?_,λ_=>⟨uE f z,uF q C⟩⟩
 .exact y
 .exact au.ab L e λr=>aB 1 r Ω
 .exact au.ab M e λr=>aB 2 r Ω
 .exact au.ab N e λr=>aB 3 r Ω
 .exact au.ab O e λr=>aB 4 r Ω
def ci.QE{B:ak}{x:x1}{p:List Bool}(h:ci true A R w cs k sizes zero D G aY H E){T:ak}(e:ai T w w')(q:∀r,T r->A 1 r\/(∀j,¬A j r)/\¬R r)(z:bI B R w' [x] p)(C:∀j r,j≠1->B r->¬A j r)(F:∀r,B r->¬R r):ci true (iP A 1 B) R w' (cs.set 4 x) k sizes zero D p aY H E:=by
 obtain⟨szv,I,Q,J,K,L,rfl,h1,a,S,M,N,O,f⟩:=h;have⟨f,s⟩:=f rfl;have y:∀r,R r->¬T r:=λr h a=>(q r a).elim (λa=>s 1 r a h) λa=>a.2 h;have aB:∀j r,j≠1->r<w.heap.size->A j r\/R r->¬T r:=λj r P _ h a=>h.elim (λh=>(q r a).elim (λa=>f j 1 r P h a) λa=>a.1 j h) λh=>y r h a;refine⟨szv,I,x,J,K,L,rfl,au.ab h1 e λr _ h=>h.elim False.elim (y r),?_,?_,?_,?_,?_,λ_=>⟨uE f C,uF s F⟩⟩
 .exact au.ab a e λr=>aB 0 r Ω
 .exact z
 .exact au.ab M e λr=>aB 2 r Ω
 .exact au.ab N e λr=>aB 3 r Ω
 .exact au.ab O e λr=>aB 4 r Ω
def ci.kX{B:ak}{x:x1}{p:List (Λ)}(h:ci true A R w cs k sizes zero D G aY H E){T:ak}(e:ai T w w')(q:∀r,T r->A 2 r\/(∀j,¬A j r)/\¬R r)(z:bI B R w' [x] p)(C:∀j r,j≠2->B r->¬A j r)(F:∀r,B r->¬R r):ci true (iP A 2 B) R w' (cs.set 5 x) k sizes zero D G p H E:=by
 obtain⟨szv,I,J,Q,K,L,rfl,h1,a,M,S,N,O,f⟩:=h;have⟨f,s⟩:=f rfl;have y:∀r,R r->¬T r:=λr h a=>(q r a).elim (λa=>s 2 r a h) λa=>a.2 h;have aB:∀j r,j≠2->r<w.heap.size->A j r\/R r->¬T r:=λj r P _ h a=>h.elim (λh=>(q r a).elim (λa=>f j 2 r P h a) λa=>a.1 j h) λh=>y r h a;refine⟨szv,I,J,x,K,L,rfl,au.ab h1 e λr _ h=>h.elim False.elim (y r),?_,?_,?_,?_,?_,λ_=>⟨uE f C,uF s F⟩⟩
 .exact au.ab a e λr=>aB 0 r Ω
 .exact au.ab M e λr=>aB 1 r Ω
 .exact z
 .exact au.ab N e λr=>aB 3 r Ω
 .exact au.ab O e λr=>aB 4 r Ω
def ci.kY{B:ak}{x:x1}{p:List ir}(h:ci true A R w cs k sizes zero D G aY H E){T:ak}(e:ai T w w')(q:∀r,T r->A 3 r\/(∀j,¬A j r)/\¬R r)(z:bI B R w' [x] p)(C:∀j r,j≠3->B r->¬A j r)(F:∀r,B r->¬R r):ci true (iP A 3 B) R w' (cs.set 6 x) k sizes zero D G aY p E:=by
 obtain⟨szv,I,J,K,Q,L,rfl,h1,a,M,N,S,O,f⟩:=h;have⟨f,s⟩:=f rfl;have y:∀r,R r->¬T r:=λr h a=>(q r a).elim (λa=>s 3 r a h) λa=>a.2 h;have aB:∀j r,j≠3->r<w.heap.size->A j r\/R r->¬T r:=λj r P _ h a=>h.elim (λh=>(q r a).elim (λa=>f j 3 r P h a) λa=>a.1 j h) λh=>y r h a;refine⟨szv,I,J,K,x,L,rfl,au.ab h1 e λr _ h=>h.elim False.elim (y r),?_,?_,?_,?_,?_,λ_=>⟨uE f C,uF s F⟩⟩
 .exact au.ab a e λr=>aB 0 r Ω
 .exact au.ab M e λr=>aB 1 r Ω
 .exact au.ab N e λr=>aB 2 r Ω
 .exact z
 .exact au.ab O e λr=>aB 4 r Ω
def ci.QF{z:Int}(h:ci m A R w cs k sizes zero D G aY H E):ci m A R w (cs.set 2 (Δ z)) k sizes z D G aY H E:=by
 obtain⟨szv,a,e,f,p,q,rfl,h1,r,s,x,y,B,C⟩:=h;exact⟨szv,a,e,f,p,q,T,h1,r,s,x,y,B,C⟩
end
def uG{α:Type}[au α]{st t J:p9}{pl:List (Nat×Nat)}{gs c q b L:Nat}{z M y v:x1}{box cs:List x1}{S A R:ak}{l:List α}{a:α}{K:x3->Prop}(N:bM x7 st pl)(O:pl[c]?=σ (c,q+1))(P:x7.underlying t=σ (.slice e))(Q:aS x7 t 1 L M)(hi:aS x7 e (au.n α) b z)(T:z.cells.size=au.n α)(E:ag w gs st box)(ad:box[c]?=σ v)(h:bI S R w [v] l)(U:ck w (au.n α) y 1 cs)(V:bI A R w cs a)(W:∀r,r<w.heap.size->S r->¬A r/\¬R r)(s:¬S gs/\¬A gs/\¬R gs)(af:(l.length+1)*b<=140737488355328)(ah:l.length+1<=1000000)(X:∀p w',ai (λr=>S r\/r=gs) w w'->ag w' gs st (box.set c p)->bI (λr=>S r\/A r\/w.heap.size<=r) R w' [p] (l++[a])->K w'):
  aE x7 (Z0 #[t,t] J #[v,y]) w λp aa=>ac x7 (u6 st (Γ gs) c) aa λY=>aE x7 (o8 t Y p) aa λ_ x=>K x:=by
 have Z:=(x4.1 ad).1;refine n5 (A:=A) P hi T h U V (λr F U f=>?_) Ω Ω λp aa B G=>?_
 .have:=W r F U;exact f.elim this.1 this.2
 have ae:ag aa gs st box:=E.ab G s.1;rw[aU N O];refine bq (o:=0+c) Q (qJ B) (gS B) ae (by rw[X2];exact Z) λx H aj I=>?_;refine X p x ((G.mono λr _ h=>.inl h).trans (H.mono λr _ h=>.inr h)) (by rw[X2]at I;exact I) (au.ab B H λr F f C=>?_);have C:r=gs:=C;subst C;have al:=E.lt;rcases f with f|f
 .rcases f with f|f|f
  .exact s.1 f
  .exact s.2.1 f
  .omega
 .exact s.2.2 f
section
variable{A:Nat->ak}{B R:ak}{w:x3}{cs xs:List x1}{gs:Nat}{y v:x1}{k zero:Int}{sizes:Λ}{D:List (Λ)}{G:List Bool}{aY:List (Λ)}{H:List ir}{E:List oP}{K:x3->Prop}
def ci.QG{a:Λ}(h:ci true A R w cs k sizes zero D G aY H E)(F:ag w gs aX cs)(ad:cs[3]?=σ v)(f:∀j r,A j r->gs<r)(s:∀r,R r->r<gs)(U:ck w 1 y 1 xs)(Q:bI B R w xs a)(q:∀r,r<w.heap.size->B r->(∀j,¬A j r)/\gs<r)(aj:D.length<=1000)(S:∀aR ce w',ai (λr=>gs<=r) w w'->ag w' gs aX ce->ci true aR R w' ce k sizes zero (D++[a]) G aY H E->(∀j r,aR j r->gs<r)->(∀j,j≠3->ce[j]?=cs[j]?)->K w'):
  aE x7 (Z0 #[cU,cU] P #[v,y]) w λI aa=>ac x7 (u6 aX (Γ gs) 3) aa λV=>aE x7 (o8 cU V I) aa λ_ x=>K x:=by
 have J:=h.old;have W:=F.lt;have⟨szv,X,ak,al,am,L,Y,h1,Z,ao,ap,aq,av,z⟩:=id J;have⟨z,M⟩:=z T;have L:v=X:=by rw[Y]at ad;exact(b9 ad).symm
 subst L;have ab:bI (λr=>B r/\r<w.heap.size) R w xs a:=au.mono Q (λr e h=>⟨h,e⟩) λ_ _ h=>h;refine uG (pl:=_) (l:=D) aX.p T cU.u cU.i an.i T F ad Z U ab (λr e N=>⟨λae=>(q r e ae.1).1 0 N.1,M 0 r N⟩) ⟨λh=>by have:=f 0 gs h.1;omega,λh=>by have:=(q gs W h.1).2;omega,λh=>by have:=s gs h;omega⟩ Ω Ω λI x O af ah=>?_;refine S _ _ x (O.mono λr _ h=>h.elim (λh=>by have:=f 0 r h.1;omega) λh=>Ω) af (J.E3 O (λr e=>?_) ah (λj r C e=>?_) λr e=>?_) (λj r e=>?_) λj C=>?_
 .rcases e with e|rfl
  .exact .inl e
  .exact .inr ⟨λj h=>by have:=f j r h.1;omega,λh=>by have:=s r h;omega⟩
 .rcases e with e|e|e
  .exact z 0 j r (Ne.symm C) e
  .exact λh=>(q r e.2 e.1).1 j h.1
  .exact λh=>by have:=h.2;omega
 .rcases e with e|e|e
  .exact M 0 r e
  .exact λh=>by have:=(q r e.2 e.1).2;have:=s r h;omega
  .exact λh=>by have:=s r h;omega
 .unfold iP at e;split at e
  .rcases e with e|e|e
   .exact f 0 r e.1
   .exact (q r e.2 e.1).2
   .omega
  .exact f j r e.1
 .rw[Y2 (Ne.symm C)]
def ci.QH{a:Bool}(h:ci true A R w cs k sizes zero D G aY H E)(F:ag w gs aX cs)(ad:cs[4]?=σ v)(f:∀j r,A j r->gs<r)(s:∀r,R r->r<gs)(U:ck w 1 y 1 xs)(Q:bI B R w xs a)(q:∀r,r<w.heap.size->B r->(∀j,¬A j r)/\gs<r)(aj:G.length<=1000)(S:∀aR ce w',ai (λr=>gs<=r) w w'->ag w' gs aX ce->ci true aR R w' ce k sizes zero D (G++[a]) aY H E->(∀j r,aR j r->gs<r)->(∀j,j≠4->ce[j]?=cs[j]?)->K w'):
  aE x7 (Z0 #[jt,jt] P #[v,y]) w λI aa=>ac x7 (u6 aX (Γ gs) 4) aa λV=>aE x7 (o8 jt V I) aa λ_ x=>K x:=by
 have J:=h.old;have W:=F.lt;have⟨szv,ak,X,al,am,L,Y,h1,an,Z,ao,ap,aq,z⟩:=id J;have⟨z,M⟩:=z T;have L:v=X:=by rw[Y]at ad;exact(b9 ad).symm
 subst L;have ab:bI (λr=>B r/\r<w.heap.size) R w xs a:=au.mono Q (λr e h=>⟨h,e⟩) λ_ _ h=>h;refine uG (pl:=_) (l:=G) aX.p T jt.u jt.i e5.i T F ad Z U ab (λr e N=>⟨λae=>(q r e ae.1).1 1 N.1,M 1 r N⟩) ⟨λh=>by have:=f 1 gs h.1;omega,λh=>by have:=(q gs W h.1).2;omega,λh=>by have:=s gs h;omega⟩ Ω Ω λI x O af ah=>?_;refine S _ _ x (O.mono λr _ h=>h.elim (λh=>by have:=f 1 r h.1;omega) λh=>Ω) af (J.QE O (λr e=>?_) ah (λj r C e=>?_) λr e=>?_) (λj r e=>?_) λj C=>?_
 .rcases e with e|rfl
  .exact .inl e
  .exact .inr ⟨λj h=>by have:=f j r h.1;omega,λh=>by have:=s r h;omega⟩
 .rcases e with e|e|e
  .exact z 1 j r (Ne.symm C) e
  .exact λh=>(q r e.2 e.1).1 j h.1
  .exact λh=>by have:=h.2;omega
 .rcases e with e|e|e
  .exact M 1 r e
  .exact λh=>by have:=(q r e.2 e.1).2;have:=s r h;omega
  .exact λh=>by have:=s r h;omega
 .unfold iP at e;split at e
  .rcases e with e|e|e
   .exact f 1 r e.1
   .exact (q r e.2 e.1).2
   .omega
  .exact f j r e.1
 .rw[Y2 (Ne.symm C)]
def ci.QI{a:Λ}(h:ci true A R w cs k sizes zero D G aY H E)(F:ag w gs aX cs)(ad:cs[5]?=σ v)(f:∀j r,A j r->gs<r)(s:∀r,R r->r<gs)(U:ck w 1 y 1 xs)(Q:bI B R w xs a)(q:∀r,r<w.heap.size->B r->(∀j,¬A j r)/\gs<r)(aj:aY.length<=1000)(S:∀aR ce w',ai (λr=>gs<=r) w w'->ag w' gs aX ce->ci true aR R w' ce k sizes zero D G (aY++[a]) H E->(∀j r,aR j r->gs<r)->(∀j,j≠5->ce[j]?=cs[j]?)->K w'):
  aE x7 (Z0 #[dZ,dZ] P #[v,y]) w λI aa=>ac x7 (u6 aX (Γ gs) 5) aa λV=>aE x7 (o8 dZ V I) aa λ_ x=>K x:=by
 have J:=h.old;have W:=F.lt;have⟨szv,ak,al,X,am,L,Y,h1,an,ao,Z,ap,aq,z⟩:=id J;have⟨z,M⟩:=z T;have L:v=X:=by rw[Y]at ad;exact(b9 ad).symm
 subst L;have ab:bI (λr=>B r/\r<w.heap.size) R w xs a:=au.mono Q (λr e h=>⟨h,e⟩) λ_ _ h=>h;refine uG (pl:=_) (l:=aY) aX.p T dZ.u dZ.i ay.i T F ad Z U ab (λr e N=>⟨λae=>(q r e ae.1).1 2 N.1,M 2 r N⟩) ⟨λh=>by have:=f 2 gs h.1;omega,λh=>by have:=(q gs W h.1).2;omega,λh=>by have:=s gs h;omega⟩ Ω Ω λI x O af ah=>?_;refine S _ _ x (O.mono λr _ h=>h.elim (λh=>by have:=f 2 r h.1;omega) λh=>Ω) af (J.kX O (λr e=>?_) ah (λj r C e=>?_) λr e=>?_) (λj r e=>?_) λj C=>?_
 .rcases e with e|rfl
  .exact .inl e
  .exact .inr ⟨λj h=>by have:=f j r h.1;omega,λh=>by have:=s r h;omega⟩
 .rcases e with e|e|e
  .exact z 2 j r (Ne.symm C) e
  .exact λh=>(q r e.2 e.1).1 j h.1
  .exact λh=>by have:=h.2;omega
 .rcases e with e|e|e
  .exact M 2 r e
  .exact λh=>by have:=(q r e.2 e.1).2;have:=s r h;omega
  .exact λh=>by have:=s r h;omega
 .unfold iP at e;split at e
  .rcases e with e|e|e
   .exact f 2 r e.1
   .exact (q r e.2 e.1).2
   .omega
  .exact f j r e.1
 .rw[Y2 (Ne.symm C)]
def ci.QJ{a:ir}(h:ci true A R w cs k sizes zero D G aY H E)(F:ag w gs aX cs)(ad:cs[6]?=σ v)(f:∀j r,A j r->gs<r)(s:∀r,R r->r<gs)(U:ck w 4 y 1 xs)(Q:bI B R w xs a)(q:∀r,r<w.heap.size->B r->(∀j,¬A j r)/\gs<r)(aj:H.length<=1000)(S:∀aR ce w',ai (λr=>gs<=r) w w'->ag w' gs aX ce->ci true aR R w' ce k sizes zero D G aY (H++[a]) E->(∀j r,aR j r->gs<r)->(∀j,j≠6->ce[j]?=cs[j]?)->K w'):
  aE x7 (Z0 #[eC,eC] P #[v,y]) w λI aa=>ac x7 (u6 aX (Γ gs) 6) aa λV=>aE x7 (o8 eC V I) aa λ_ x=>K x:=by
 have J:=h.old;have W:=F.lt;have⟨szv,ak,al,am,X,L,Y,h1,an,ao,ap,Z,aq,z⟩:=id J;have⟨z,M⟩:=z T;have L:v=X:=by rw[Y]at ad;exact(b9 ad).symm
 subst L;have ab:bI (λr=>B r/\r<w.heap.size) R w xs a:=au.mono Q (λr e h=>⟨h,e⟩) λ_ _ h=>h;refine uG (pl:=_) (l:=H) aX.p T eC.u eC.i c4.i T F ad Z U ab (λr e N=>⟨λae=>(q r e ae.1).1 3 N.1,M 3 r N⟩) ⟨λh=>by have:=f 3 gs h.1;omega,λh=>by have:=(q gs W h.1).2;omega,λh=>by have:=s gs h;omega⟩ Ω Ω λI x O af ah=>?_;refine S _ _ x (O.mono λr _ h=>h.elim (λh=>by have:=f 3 r h.1;omega) λh=>Ω) af (J.kY O (λr e=>?_) ah (λj r C e=>?_) λr e=>?_) (λj r e=>?_) λj C=>?_
 .rcases e with e|rfl
  .exact .inl e
  .exact .inr ⟨λj h=>by have:=f j r h.1;omega,λh=>by have:=s r h;omega⟩
 .rcases e with e|e|e
  .exact z 3 j r (Ne.symm C) e
  .exact λh=>(q r e.2 e.1).1 j h.1
  .exact λh=>by have:=h.2;omega
 .rcases e with e|e|e
  .exact M 3 r e
  .exact λh=>by have:=(q r e.2 e.1).2;have:=s r h;omega
  .exact λh=>by have:=s r h;omega
 .unfold iP at e;split at e
  .rcases e with e|e|e
   .exact f 3 r e.1
   .exact (q r e.2 e.1).2
   .omega
  .exact f j r e.1
 .rw[Y2 (Ne.symm C)]
end
def nv{R:ak}{v:x1}{g:Nat}(h:av .i64 e w g v l):bI (λr=>leads v r) R w [v] l:=by
 have h1:=n7 (R:=R) h;by_cases f:v= .slice ν 0 0
 .subst f;have:l=[]:=by
   obtain⟨p,⟨_,a⟩|⟨_,_,a,_⟩⟩:=h
   .exact j6 a
   .cases a
  subst this;exact hK
 .obtain⟨p,⟨a,_⟩|⟨cap,cs,a,_⟩⟩:=id h
  .exact absurd a f
  .refine au.mono h1 (λr _ q=>?_) λ_ _ h=>h;rw[a];exact⟨_,_,_,T,q.symm⟩
def yb{R:ak}{v:x1}{g:Nat}(e:∀r c,B<=r->ag w r ah c->R r)(h:av .i64 ah w g v l)(ad:∀r,leads v r->B<=r):Seen R w [v] l:=qH (nv (R:=λ_=>False) h) λr p a=>by
 rcases a with a|a
 .obtain⟨c,f⟩:=PG h r a;exact e r c (ad r a) f
 .exact a.elim
def QK{R:ak}{zero:Int}{szv:x1}(h:Seen R w [szv] sizes):ci true (λ_ _=>False) R w [Δ k,szv,Δ zero,.slice ν 0 0,.slice ν 0 0,.slice ν 0 0,.slice ν 0 0,.slice ν 0 0] k sizes zero [] [] [] [] []:=
 ⟨_,_,_,_,_,_,T,h,hK,hK,hK,hK,hK,λ_=>⟨λ_ _ _ _ h=>h.elim,λ_ _ h=>h.elim⟩⟩
def ci.at{m:Bool}{A:Nat->ak}{R:ak}{cs:List x1}{zero:Int}{D:List (Λ)}{G:List Bool}{aY:List (Λ)}{H:List ir}{E:List oP}(h:ci m A R w cs k sizes zero D G aY H E)(c:Nat)(a:c<8):∃v,cs[c]?=σ v:=⟨_,x6 (by rw[h.len.1];exact a)⟩
def QL(R:ak)(w:x3)(e gt gs:Nat)(n:aG)(f:List x1)(i j:Nat)(a:x3):Prop:=Ext w a/\ag a e dI f/\ag a gt aX z12/\∃A cs,ag a gs aX cs/\(∀q r,A q r->gs<r)/\
 ci true A R a cs n.k n.sizes n.zero ((n.unary.take i).map λu=>aC (newVar u)) (p8 i false) (n.unary.take i) ((n.funs.take j).map λg=>hc (kS n.sizes g)) []
theorem E4{bF:x1}{n:aG}{R:ak}(aA:∀r,R r->r<w.heap.size)(a7:∀r c,B<=r->ag w r ah c->R r)(cB:xy w B bF n)(ac:kd n)(ae:n.funs.length<=256):am x7 Hs [bF] w λv w'=>Ext w w'/\∃A cs,v= .agg cs.toArray/\iO true A R w' cs n.k n.sizes (dh n)/\∀q r,A q r->w.heap.size<=r:=by
 have ee:=ac.sizes.2.1;have cC:=ac.kR;refine az func59 ?_;refine bd λg1 V ef a8 cD=>?_;obtain⟨szv,gz,cE,eg,bG,cF,eh,ba,aB,aD,cG,bH,bb,cH,bJ,cI,bK⟩:=PH cB cD;refine bu aX.i λgt aa ei aE aF=>?_;have aF:ag aa gt aX z12:=aF;have be:=aB.ext aE;rw[aL dI.p 0 be T,aL dI.p 1 be T,aL dI.p 2 be T,
  cY (cs:=#[Δ n.k,szv,Δ n.zero,.slice ν 0 0,.slice ν 0 0,.slice ν 0 0,.slice ν 0 0,.slice ν 0 0]) (by obtain⟨_,_,_,e⟩:=da aD.ls;rw[e];kernel_rfl)]
 refine bu aX.i λgs ej ek aI cJ=>?_;have cK:Seen R w [szv] n.sizes:=yb a7 aD cI;have em:=a8.size;have en:=aE.size;have z3:=aI.size;have cL:=(a8.trans aE).trans aI;have bL:=QK (k:=n.k) (zero:=n.zero) (bA cK cL);refine cd (vs:=[Δ n.k,szv,Δ n.zero,.slice ν 0 0,.slice ν 0 0,.slice ν 0 0,.slice ν 0 0,.slice ν 0 0]) aX.i T rfl bL.len.2 cJ λcM bf eo cN=>?_;have ep:=aF.lt;have er:=aB.lt;have cO:gt≠gs:=Ω
 have bg:Ext V cM:=(aE.trans aI).put bf Ω;have bM:=a8.trans bg;have cP:=(aF.ext aI).ab bf λhe=>cO he;have es:w.heap.size<gs:=Ω
 rw[aL dI.p 1 (aB.ext bg) T,aW an.u (aD.ext bM).ls];have cQ:=bL.ab bf λr f h he=>by
  have he:r=gs:=he;rcases h with⟨_,h⟩|h
  .exact h
  .have:=aA r h;omega
 refine cp.range n.sizes.length (λi O=>QL R w g1 gt gs n [Δ n.k,szv,Δ n.zero,cE,cF] i 0 O) Ω ⟨bM,aB.ext bg,cP,_,_,cN,(λ_ _ h=>h.elim),cQ⟩ ?_ ?_
 .rintro i O cR hi ⟨P,bh,bi,A,cs,ad,bj,aJ⟩ cS;obtain⟨z,bk⟩:=aH (l:=n.sizes) hi;obtain⟨u,hu⟩:=aH (l:=n.unary) (i:=i) Ω;have et:=ac.sizes.2.2 z (x5 bk);obtain⟨eu,_⟩:=ac.unary i z u bk hu;refine bz Ω ?_;rw[bc an.u ah.i Ψ (aD.ext P).ls bk];obtain⟨bN,rfl⟩:∃m:Nat,z=m:=⟨z.toNat,Ω⟩;refine bT.range bN (λj af aM=>Ext O aM/\∃g,av .i64 ah aM g af ((Y1 j).map λv:Nat=>(v:Int))/\∀r,leads af r->O.heap.size<=r) Ω
   ⟨Ext.refl _,0,av.nil _ _ _ _,λr f=>by obtain⟨a,n,c,I,Q⟩:=f;cases I⟩ ?_ ?_
  .rintro j af aM bl bm ⟨K,cT,S,aO⟩ bn;refine bz Ω ?_;refine eD (k:=.i64) an.u ah.i T λev ew cW ey H cX=>?_;refine hY an.u ah.i T (S.ext H) cX.ls Θ Θ λez cZ c0 c1 c2 U=>?_;rw[aN];have c3:=K.size;have c5:=H.size;refine bn _ _ ⟨(K.trans H).then U λr f he=>by have:=aO r he;omega,cZ,?_,λr f=>(c2 r f).elim (aO r) λh=>Ω⟩;rw[List.range_succ,Z4];exact c1
  rintro af aM bl ⟨K,cT,S,aO⟩;refine b4 Ω ?_;have c6:(Y1 bN).map (λv:Nat=>(v:Int))=aC (newVar u):=by rw[PI];congr 2;omega
  rw[c6]at S;have c3:=K.size;have eA:=P.size;have eB:=ad.lt;have aj:∀r,R r->r<gs:=λr f=>by have:=aA r f;omega
  have low:∀{s C:x3}{b:Nat}{e:p9}{c:List x1},ai (λr=>gs<=r) s C->b<gs->ag s b e c->ag C b e c:=λL c8 h=>h.ab L λW=>by have W:gs<=_:=W;omega
  have al:∀{s C:x3},Ext w s->ai (λr=>gs<=r) s C->Ext w C:=λJ L=>J.then L λr f h=>by have h:gs<=r:=h;omega
  have bO:=aJ.old.ext K;have c9:∀q r,(A q r/\r<O.heap.size)->gs<r:=λq r h=>bj q r h.1;obtain⟨eE,bP⟩:=bO.at 3 Ω;rw[aL aX.p 3 (ad.ext K) bP];refine kG cU.u an.i Φ (a:=aC (newVar u)) (cs:=[af]) S.ls.cells.1 (nv (R:=R) S) λeH cW H _ db=>?_;have c5:=H.size;have aP:=K.trans H;refine ci.QG (bO.ext H) (ad.ext aP) bP c9 aj db (bA (nv (R:=R) S) H) (λr f h=>?_) Θ λeI eJ c0 U bQ bU dc _=>?_
  .have:=aO r h;exact⟨λj h=>Ω,Ω⟩
  have eK:=U.size;obtain⟨eL,bV⟩:=bU.at 4 Ω;rw[aL aX.p 4 bQ bV];refine kG (a:=false) (cs:=[.bool false]) (A:=λ_=>False) (R:=R) jt.u e5.i Φ T rfl λeM eN X _ dd=>?_;refine ci.QH (a:=false) (xs:=[.bool false]) (B:=λ_=>False) (bU.ext X) (bQ.ext X) bV dc aj dd T (λr f h=>h.elim) Θ λde eO bW aQ bX df dg _=>?_;have z9:=X.size;have eP:=aQ.size;have di:Ext w bW:=al ((al (P.trans aP) U).trans X) aQ;have dj:=low aQ Ω ((low U Ω (bh.ext aP)).ext X);have dk:=low aQ Ω ((low U Ω (bi.ext aP)).ext X);intro bo Y _ _;have bY:=bX.ext Y;have bZ:=dj.ext Y;have b0:=di.trans Y;obtain⟨oL,aR⟩:∃oL,bG[i]?=σ oL:=⟨_,x6 (by have:=congrArg S5 bH;rw[r8]at this;omega)⟩;have dl:oL.l=u:=by
   have b1:(bG.map (·.l))[i]?=σ oL.l:=by rw[x8,aR];rfl
   rw[bH,hu]at b1;exact(b9 b1).symm
  have bp:=cG.ext b0;obtain⟨eQ,b2⟩:=bp.2 oL (x5 aR);rw[dl]at b2;have b3:=df.old.ext Y;have dm:∀q r,(de q r/\r<bW.heap.size)->gs<r:=λq r h=>dg q r h.1;obtain⟨eR,b5⟩:=b3.at 5 Ω;rw[aL aX.p 5 bY b5,aL dI.p 3 bZ T,dw T dZ.u ay.i bp.1 (x4.1 aR).1,ax (v:=oL.v) (o:=i*1) Ψ (bp.1.range aR 0 _ T)];refine xB (k:=.i64) ay.u aq.i λdn eS eU eV aS b6=>?_;refine⟨.inl aS,?_⟩;refine hY ay.u aq.i T b6 (b2.ext aS).ls Θ Θ λb7 eW dp aT dq dr=>?_;rw[List.nil_append]at aT;have eX:=Y.size;have eY:=aS.size;have ca:∀r,leads dn r->bo.heap.size<=r:=λr f=>by have:=(bS b6 f).1;omega
  have ds:∀r,leads b7 r->bo.heap.size<=r:=λr f=>(dq r f).elim (ca r) λh=>Ω
  have bq:Ext bo dp:=aS.then dr λr f he=>by have:=ca r he;omega
  refine⟨.inl bq,?_⟩;have eZ:=bq.size;refine kG dZ.u ay.i Φ (a:=u) (cs:=[b7]) aT.ls.cells.1 (nv (R:=R) aT) λe0 e1 br _ du=>?_;have e2:=br.size;have Z:=bq.trans br;refine⟨.inl Z,?_⟩;refine ci.QI (b3.ext Z) (bY.ext Z) b5 dm aj du (bA (nv (R:=R) aT) br) (λr f h=>?_) Θ λdv dx e3 bt dy dz dC _=>?_
  .have:=ds r h;have:=bX.lt;exact⟨λj h=>Ω,Ω⟩
  rw[aN];refine cS _ ⟨al (b0.trans Z) bt,low bt Ω (bZ.ext Z),low bt Ω ((dk.ext Y).ext Z),dv,dx,dy,dC,?_⟩;rw[u9,hu,n9,Z4,U7,List.map_nil,List.replicate_succ'];exact dz
 rintro O cR ⟨P,bh,bi,A,cs,ad,bj,aJ⟩;refine b4 Ω ?_;rw[b8 Ω]at aJ;have e4:ba.length=n.funs.length:=by rw[<-bJ,r8]
 have dD:=bb.ext P;rw[aL dI.p 4 bh T,eF cV.u dD];have aj:∀r,R r->r<gs:=λr f=>by have:=aA r f;omega
 have low:∀{s C:x3}{b:Nat}{e:p9}{c:List x1},ai (λr=>gs<=r) s C->b<gs->ag s b e c->ag C b e c:=λL c8 h=>h.ab L λW=>by have W:gs<=_:=W;omega
 have al:∀{s C:x3},Ext w s->ai (λr=>gs<=r) s C->Ext w C:=λJ L=>J.then L λr f h=>by have h:gs<=r:=h;omega
 refine cp.range ba.length (λj G=>Ext w G/\ag G gt aX z12/\∃A cs,ag G gs aX cs/\(∀q r,A q r->gs<r)/\
  ci true A R G cs n.k n.sizes n.zero (n.unary.map λu=>aC (newVar u)) (p8 n.sizes.length false) n.unary ((n.funs.take j).map λg=>hc (kS n.sizes g)) []) bb.le ⟨P,bi,A,cs,ad,bj,aJ⟩ ?_ ?_
 .rintro j G bl bm ⟨M,bw,bx,aU,aV,aY,ao⟩ bn;obtain⟨y,ap⟩:=aH (l:=ba) bm;have cb:n.funs[j]?=σ (dA y):=by rw[<-bJ,x8,ap];rfl
  have cc:=(ac.funs (dA y) (x5 cb)).1;have e6:y.cs.length<=4096:=by
   have h1:y.cs.length=_:=cc.len;have W:=cc.small;omega
  have ce:=cH y (x5 ap);have cg:=ce.ext M;have ch:=bb.ext M;refine bz Ω ?_;rw[dw T cV.u aZ.i ch bm,bR aZ.p aZ.i T (ch.range ap)];refine bu aZ.i λe7 e8 e9 dE dF=>?_;refine cd (vs:=dt y) aZ.i T rfl cg.one dF λdG dH fa dJ=>?_;have dK:Ext G dG:=dE.put dH Ω;intro bB cj _ _;have N:=dK.trans cj;have ck:=aV.ext N;have bC:=dJ.ext cj;have dL:=cg.ext N;obtain⟨⟨fb,cl⟩,⟨fc,cm⟩,fd,dM⟩:=id dL;have cn:=ao.old.ext N;have dN:∀q r,(bx q r/\r<G.heap.size)->gs<r:=λq r h=>aY q r h.1;obtain⟨fe,cq⟩:=cn.at 6 Ω;rw[aL aX.p 6 ck cq,aL aZ.p 0 bC T,aL aZ.p 1 bC T,aL aZ.p 2 bC T];refine xB (k:=.i64) ay.u aq.i λv25 ff fg fh a1 cr=>?_;refine⟨.inl a1,?_⟩;refine hY ay.u aq.i T cr (dM.ext a1).ls Θ Θ λE fi ct a2 dO dP=>?_;rw[List.nil_append]at a2;have fj:=N.size;have z25:=a1.size;have cu:∀r,leads v25 r->bB.heap.size<=r:=λr f=>by have:=(bS cr f).1;omega
  have dQ:∀r,leads E r->bB.heap.size<=r:=λr f=>(dO r f).elim (cu r) λh=>Ω
  have a6:Ext bB ct:=a1.then dP λr f he=>by have:=cu r he;omega
  refine⟨.inl a6,?_⟩;rw[cY (cs:=#[y.aK,y.szv,E]) (by obtain⟨_,_,_,I⟩:=da cl.ls;obtain⟨_,_,_,Q⟩:=da cm.ls;obtain⟨_,_,_,au⟩:=da a2.ls;rw[I,Q,au];kernel_rfl),
   cY (cs:=#[y.aK,y.szv,E,.bool true]) (by obtain⟨_,_,_,I⟩:=da cl.ls;obtain⟨_,_,_,Q⟩:=da cm.ls;obtain⟨_,_,_,au⟩:=da a2.ls;rw[I,Q,au];kernel_rfl)]
  have fk:=a6.size;have cw:=(M.trans N).trans a6;obtain⟨⟨ga,dR⟩,⟨fm,dS⟩,_⟩:=id ce;have own:bI (α:=ir) (λr=>leads E r) R ct [y.aK,y.szv,E,.bool true] (hc (kS n.sizes (dA y))):=by
   refine⟨[y.aK,y.szv,E],[.bool true],λr=>leads E r,λ_=>False,T,λ_ h=>h,λ_ h=>h.elim,λ_ _ _ h=>h,⟨[y.aK],[y.szv,E],λ_=>False,λr=>leads E r,T,λ_ h=>h.elim,λ_ h=>h,λ_ _ h=>h.elim,?_,[y.szv],[E],λ_=>False,λr=>leads E r,T,λ_ h=>h.elim,λ_ h=>h,λ_ _ h=>h.elim,?_,?_⟩,T⟩
   .exact bA (yb a7 dR λr f=>bK y (x5 ap) r (.inr (.inl f))) cw
   .exact bA (yb a7 dS λr f=>bK y (x5 ap) r (.inr (.inr f))) cw
   .exact nv a2
  refine kG eC.u c4.i Φ T own λfo fp bD _ dT=>?_;have fq:=bD.size;have aw:=a6.trans bD;refine⟨.inl aw,?_⟩;refine ci.QJ (cn.ext aw) (ck.ext aw) cq dN aj dT (bA own bD) (λr f h=>?_) Θ λdU dV fs cz dW dX dY _=>?_
  .have:=dQ r h;have:=aV.lt;exact⟨λj h=>Ω,Ω⟩
  rw[aN];refine bn _ ⟨al (M.trans (N.trans aw)) cz,low cz Ω (bw.ext (N.trans aw)),dU,dV,dW,dY,?_⟩;rw[u9,cb,n9,Z4,U7,List.map_nil];exact dX
 rintro G bl ⟨M,bw,bx,aU,aV,aY,ao⟩;rw[b8 Ω]at ao;refine b4 Ω ?_;obtain⟨bE,ea⟩:=ao.len;rw[bR aX.p aX.i bE (show G.rangeAt gs 0 aU from aV.range)];refine cd (vs:=aU) aX.i bE T ea bw λft cA fu eb=>?_;rw[fQ aX.p aX.i bE eb.range];have ec:=ao.ab cA λr f h he=>by
  have he:r=gt:=he;rcases h with⟨q,h⟩|h
  .have:=aY q r h;omega
  .have:=aA r h;omega
 have fv:=M.size;refine⟨M.then cA λr f he=>by have he:r=gt:=he;omega,bx,aU,T,?_,λq r h=>by have:=aY q r h;omega⟩;have I:(dh n).vars.map aC=n.unary.map λu=>aC (newVar u):=by show(n.unary.map newVar).map aC=_;rw[S1];rfl
 have Q:(dh n).vars.map (λx=>decide (x.gone≠0))=p8 n.sizes.length false:=by
  show(n.unary.map newVar).map _=_;rw[S1,<-cC];exact List.map_const' ..
 have au:(dh n).vars.map (·.un)=n.unary:=by show(n.unary.map newVar).map _=_;rw[S1];exact List.map_id _
 have ed:(dh n).funs.map hc=n.funs.map λg=>hc (kS n.sizes g):=by show(n.funs.map (kS n.sizes)).map hc=_;rw[S1];rfl
 unfold iO;rw[I,Q,au,ed];exact ec
def nw(w:x3)(g:Nat)(k:Int)(sizes:Λ)(s:ap):Prop:=∃szv a e f h p,ag w g aX [Δ k,szv,Δ s.zero,a,e,f,h,p]/\aI .i64 w szv sizes/\Seen eM w [szv] sizes/\
 Seen eM w [a] (s.vars.map aC)/\Seen eM w [e] (s.vars.map λx=>decide (x.gone≠0))/\Seen eM w [f] (s.vars.map (·.un))/\Seen eM w [h] (s.funs.map hc)/\Seen eM w [p] (s.hr.map E1)
section
variable{w w':x3}{g:Nat}{v:x1}{k:Int}{sizes:Λ}{s:ap}
def nw.ext(h:nw w g k sizes s)(J:Ext w w'):nw w' g k sizes s:=by
 have⟨szv,a,e,f,p,q,r,h1,x,y,z,A,B,C⟩:=h;exact⟨szv,a,e,f,p,q,r.ext J,h1.ext J,bA x J,bA y J,bA z J,bA A J,bA B J,bA C J⟩
def gu.box(h:gu w v k sizes s)(J:Ext w w')(f:ag w' g aX v.cells.toList):nw w' g k sizes s:=by
 obtain⟨cs,rfl,szv,z,B,C,E,F,rfl,h1,p,q,r,x,y,_⟩:=h;have⟨_,_,_,G⟩:=da (de h1);have c:∀{α:Type}[au α]{v:x1}{l:List α}{A:ak},au.rep false A eM w [v] l->∃a n c,v= .slice a n c:=λh=>by
  have⟨_,_,_,_,_,⟨_,b,o,base,cap,e,_⟩,_⟩:=jC h;exact⟨_,_,_,e⟩
 have⟨_,_,_,H⟩:=c p;have⟨_,_,_,I⟩:=c q;have⟨_,_,_,K⟩:=c r;have⟨_,_,_,L⟩:=c x;have⟨_,_,_,M⟩:=c y;refine⟨szv,z,B,C,E,F,?_,(de h1).ext J,bA h1 J,bA p J,bA q J,bA r J,bA x J,bA y J⟩;rw[G,H,I,K,L,M]at f ⊢;exact f
def nw.load{K:x1->Prop}(h:nw w g k sizes s)(a:∀u,gu w u k sizes s->K u):ac x7 (u5 aX (Γ g)) w K:=by
 have⟨szv,e,f,q,r,x,y,h1,z,A,B,C,E,F⟩:=h;rw[bR aX.p aX.i T y.range];exact a _ ⟨_,T,szv,e,f,q,r,x,T,z,A,B,C,E,F,λh=>by cases h⟩
def QM{i:Int}(h:gu w v k sizes s):am x7 GW [v,Δ i] w λr w'=>r= .bool (decide (0<=i/\i<sizes.length))/\Ext w w':=by
 apply az func15;refine bd λg1 V y a e=>?_;have⟨szv,z,A,B,C,E,e,x,_⟩:=h.box a e;refine aV (λv aa=>v= .bool (decide (0<=i/\i<sizes.length))/\Ext w aa) (λ_ _ h=>h) λaA f=>?_;rw[cO,al];refine⟨λq=>?_,λq=>f _ _ ⟨by rw[decide_eq_false];omega,a⟩⟩;rw[aL aX.p 1 e T,aW an.u x,aP];refine f _ _ ⟨?_,a⟩;congr 1;exact decide_eq_decide.2 ⟨λh=>⟨q,h⟩,λh=>h.2⟩
def lP{m:Bool}{S R:ak}{cs:List x1}{f:bU}(h:au.rep (α:=ir) m S R w cs (hc f)):∃aK szv a7,cs=[aK,szv,a7,.bool (decide (f.live≠0))]/\Seen eM w [aK] f.sc/\Seen eM w [szv] f.aj/\Seen eM w [a7] f.cs:=by
 obtain⟨E,q,A,B,rfl,_,_,_,⟨r,F,aR,G,rfl,_,_,_,h1,s,x,H,y,rfl,_,_,_,a,e⟩,p⟩:=h;have one:∀{α:Type}[au α]{m:Bool}{S R:ak}{c:List x1}{l:List α},au.rep m S R w c l->∃v,c=[v]:=λh=>by have⟨v,ad,_⟩:=h;exact⟨v,ad⟩
 have h1:Seen _ w r f.sc:=h1;have a:Seen _ w s f.aj:=a;have p:q=[.bool (decide (f.live≠0))]:=p;have e:au.rep m y R w x f.cs:=e;obtain⟨z,rfl⟩:=one h1;obtain⟨C,rfl⟩:=one a;obtain⟨v3,rfl⟩:=one e;subst p;exact⟨z,C,v3,T,jB h1,jB a,jB e⟩
def QN{j:Int}(h:gu w v k sizes s):am x7 JF [v,Δ j] w λr w'=>r= .bool (decide (0<=j)&&ff s j.toNat)/\Ext w w':=by
 apply az func266;refine bd λg1 V B a e=>?_;have⟨szv,C,E,G,H,I,e,J,_,_,_,_,y,_⟩:=h.box a e;refine aV (λv aa=>v= .bool (decide (0<=j)&&ff s j.toNat)/\Ext w aa) (λ_ _ h=>h) λaA q=>?_;rw[cO,al];refine⟨λx=>?_,λx=>q _ _ ⟨by rw[decide_eq_false x];rfl,a⟩⟩;rw[aL aX.p 6 e T,hL eC.u y,aP,al,r8];refine⟨λK=>?_,λL=>q _ _ ⟨by unfold ff;rw[Z2 Ω,Bool.and_false],a⟩⟩;have⟨f,ae⟩:=aH (l:=s.funs) (i:=j.toNat) Ω;rw[aL aX.p 6 e T];refine kF (i:=j.toNat) Ω eC.u c4.i y (by rw[x8,ae];rfl) λb o cs z A=>?_;obtain⟨M,N,v3,rfl,_⟩:=lP A;rw[aU c4.p T,ax (v:=.bool (decide (f.live≠0))) Ψ (z 3 _ T)];exact q _ _ ⟨by unfold ff;rw[ae,decide_eq_true x,U8],a⟩
end
def yc{S T:Nat->Prop}(h:ai S w w')(k:ai T w w'):ai (λr=>S r/\T r) w w':=
 ⟨h.size,λr o a U f=>by
  by_cases e:S r
  .exact k.a6 r o a U λp=>f ⟨e,p⟩
  .exact h.a6 r o a U e⟩
def yd{gT:Nat}{A R:ak}{n:aG}{s:ap}{t:aD}(h:bx w af gT A R n s t):∀r,A r\/R r->r<w.heap.size:=λr a=>by
 have⟨p,q,x,y,⟨_,_,e,f⟩,_⟩:=h.1;exact a.elim (f r) (e r)
structure cm(w:x3)(af gT ao:Nat)(A R:ak)(A9:Nat->ak)(aJ:ak)(n:aG)(s u:ap)(t:aD)(h:List aD)(cs:List x1):Prop where
 fe:bx w af gT A R n s t
 ij:hM t h
 box:ag w ao aX cs
 doc:iO true A9 aJ w cs n.k n.sizes u
 apart:∀q r,A9 q r->¬A r/\¬R r/\r≠ao
 read:∀r,aJ r->¬ew w r/\r<w.heap.size/\r≠ao
 out:¬A ao/\¬R ao
section
variable{w w':x3}{af gT ao:Nat}{A R:ak}{A9:Nat->ak}{aJ:ak}{n:aG}{s u:ap}{t:aD}{h:List aD}{cs:List x1}
def cm.ext(p:cm w af gT ao A R A9 aJ n s u t h cs)(J:Ext w w'):cm w' af gT ao A R A9 aJ n s u t h cs:=
 ⟨p.fe.ext J,p.ij,p.box.ext J,p.doc.ext J,p.apart,λr a=>⟨λh=>(p.read r a).1 (nn (λo e U _=>J.a6 r o e U) h),by have:=(p.read r a).2.1;have:=J.size;omega,(p.read r a).2.2⟩,p.out⟩
def cm.prog{aR R':ak}{s':ap}{bt:aD}{h':List aD}(p:cm w af gT ao A R A9 aJ n s u t h cs)(y:ai (ew w) w w')(f:Grow A w aR w')(E:bx w' af gT aR R' n s' bt)(x:hM bt h')(C:∀r,R' r->R r\/B<=r)(F:∀q r,A9 q r->r<w.heap.size->r<B)(J:ao<B):
  cm w' af gT ao aR R' (λq r=>A9 q r/\r<w.heap.size) aJ n s' u bt h' cs:=by
 have:=p.box.lt;have:=y.size;refine⟨E,x,p.box.ab f.1 p.out.1,ci.ab p.doc.old (yc y f.1) λr e h x=>?_,λq r h=>⟨λa=>?_,λe=>(C r e).elim (p.apart q r h.1).2.1 λG=>by have:=F q r h.1 h.2;omega,(p.apart q r h.1).2.2⟩,λr e=>⟨λh=>?_,by have:=(p.read r e).2.1;omega,(p.read r e).2.2⟩,λa=>?_,λe=>(C ao e).elim p.out.2 λG=>Ω⟩
 .rcases h with⟨q,h⟩|h
  .exact (p.apart q r h.1).1 x.2
  .exact (p.read r h).1 x.1
 .rcases f.2.1 r a with a|a
  .exact (p.apart q r h.1).1 a
  .have:=h.2;omega
 .exact (p.read r e).1 (nn (λo H U I=>y.a6 r o H U I) h)
 .rcases f.2.1 ao a with a|a
  .exact p.out.1 a
  .omega
def cm.QO{S:ak}{cr:Nat->ak}{u':ap}{ce:List x1}(p:cm w af gT ao A R A9 aJ n s u t h cs)(f:ai S w w')(B:∀r,r<w.heap.size->S r->(∃q,A9 q r)\/r=ao)(C:ag w' ao aX ce)(E:iO true cr aJ w' ce n.k n.sizes u')(F:∀q r,cr q r->(∃x,A9 x r)\/(¬A r/\¬R r/\r≠ao)):
  cm w' af gT ao A R cr aJ n s u' t h ce:=by
 have:=p.box.lt;have:=f.size;have G:∀q r,A9 q r->¬aJ r:=by have⟨_,_,_,_,_,_,_,_,_,_,_,_,_,H⟩:=p.doc;exact(H T).2
 refine⟨⟨p.fe.1.ab f λr e h U=>?_,p.fe.2⟩,p.ij,C,E,λq r h=>?_,λr e=>⟨λh=>(p.read r e).1 (nn (λo I U _=>f.a6 r o I U λa=>?_) h),by have:=(p.read r e).2.1;omega,(p.read r e).2.2⟩,p.out⟩
 .rcases B r e U with⟨q,a⟩|a
  .exact h.elim (p.apart q r a).1 (p.apart q r a).2.1
  .subst a;exact h.elim p.out.1 p.out.2
 .rcases F q r h with⟨x,a⟩|a
  .exact p.apart x r a
  .exact a
 .rcases B r (p.read r e).2.1 a with⟨q,y⟩|y
  .exact G q r y e
  .exact (p.read r e).2.2 y
def cm.QP{S:ak}{cr:Nat->ak}{u':ap}{ce:List x1}(p:cm w af gT ao A R A9 aJ n s u t h cs)(e:∀r,A r\/R r->r<B)(F:ao<B)(f:ai S w w')(x:∀r,r<w.heap.size->S r->(∃q,A9 q r)\/r=ao)(y:ag w' ao aX ce)(z:iO true cr aJ w' ce n.k n.sizes u')(C:∀q r,cr q r->(∃E,A9 E r)\/B<=r):
  cm w' af gT ao A R cr aJ n s u' t h ce:=
 p.QO f x y z λq r h=>(C q r h).imp id λG=>⟨λa=>by have:=e r (.inl a);omega,λa=>by have:=e r (.inr a);omega,Ω⟩
def cm.E5{S:ak}{cr:Nat->ak}{u':ap}{ce:List x1}(p:cm w af gT ao A R A9 aJ n s u t h cs)(a:ai S w w')(e:∀r,r<w.heap.size->S r->(∃q,A9 q r)\/r=ao)(f:ag w' ao aX ce)(x:iO true cr aJ w' ce n.k n.sizes u')(y:∀q r,cr q r->(∃z,A9 z r)\/w.heap.size<=r):
  cm w' af gT ao A R cr aJ n s u' t h ce:=p.QP (yd p.fe) p.box.lt a e f x y
def cm.look(p:cm w af gT ao A R A9 aJ n s u t h cs):nw w ao n.k n.sizes u:=by
 apply gu.box p.doc.E2 (Ext.refl _);have:=p.box;exact this
def cm.oQ(p:cm w af gT ao A R A9 aJ n s u t h cs):∃szv a e f q r,cs=[Δ n.k,szv,Δ u.zero,a,e,f,q,r]/\aI .i64 w szv n.sizes:=by
 have⟨szv,a,e,f,q,r,h1,x,_⟩:=p.doc;exact⟨szv,a,e,f,q,r,h1,de x⟩
end
end Go.Proofs.YtikkpokkcdocoabGreatDoor
namespace Go.Vc
open Go Go.RowKit
section
variable{P:W8}{w:x3}{α:Type}[au α]{S R:ak}
def uH{v:x1}{l:List α}{i:Nat}{a:α}(h:bI S R w [v] l)(H:l[i]?=σ a)(Z:∀r,r<w.heap.size->S r->¬R r):∃g cap c F,v= .slice (σ ⟨g,0,ν⟩) l.length cap/\w.rangeAt g (i*au.n α) c/\bI F R w c a/\(∀r,F r->S r)/\
  ∀{w':x3}{a':α}{T z:ak},ai T w w'->(∀r,r<w.heap.size->T r->F r)->bI z R w' c a'->(∀r,z r->F r\/w.heap.size<=r)->bI (λr=>S r\/w.heap.size<=r) R w' [v] (l.set i a'):=by
 have ao:=(x4.1 H).1;have⟨vs,g,F,s,he,U,hm⟩:=jC h;have⟨aa,I,K⟩:=hm rfl;obtain⟨ap,⟨rfl,aq⟩|⟨cap,full,rfl,L,av,aw,ae,ax⟩⟩:=id K
 .omega
 have ac:vs.length=l.length:=he.1;have M:S g:=aa.resolve_left Ξ;obtain⟨c,B⟩:∃c,vs[i]?=σ c:=⟨_,x6 Ω⟩;have ad:=he.2 i c a B H;refine⟨g,cap,c,F i,rfl,?_,ad,λr p=>s.sub i r p,λ{w' a' T z}N O P C=>?_⟩
 .obtain⟨_,ay,o',az,aA,af,_,_,ag,_,ah⟩:=U;cases af;cases ag Ω;intro j u aj;have Q:=ah (i*au.n α+j) u (by rw[<-List.flatMap_id];exact pL (f:=id) (k:=au.n α) (λx J=>he.len x J) B aj);rw[X2]at Q;exact Q
 have al:¬T g:=λh=>s.top rfl i (O g L.lt h);have aB:=au.len P;have aC:vs.set i c=vs:=by
  refine Y4 λq=>?_;rw[X0];by_cases V:i=q
  .subst V;rw[if_pos rfl,if_pos Ω,B]
  .rw[if_neg V]
 have W:b1 w' g I (au.n α) (.slice (σ ⟨g,0,ν⟩) l.length cap) (l.set i a').length vs.flatten:=by
  rw[c9];exact K.ab N λ_=>al
 refine⟨_,rfl,vs,g,λj r=>if j=i then z r else F j r/\r<w.heap.size,⟨λj r p=>?_,λ_ j p=>?_,λ_ j q r am h1 y=>?_⟩,⟨by simp[ac],λj X Y G E=>?_⟩,?_,λ_=>⟨.inr (.inl M),I,W⟩⟩
 .split at p
  .exact (C r p).imp (s.sub i r) id
  .exact .inl (s.sub j r p.1)
 .split at p
  .rcases C g p with h|h
   .exact s.top rfl i h
   .have:=L.lt;omega
  .exact s.top rfl j p.1
 .split at h1<;>split at y
  .omega
  .rcases C r h1 with h|h
   .rename_i e _;exact s.gR rfl i q r Ω h y.1
   .have:=y.2;omega
  .rcases C r y with h|h
   .exact s.gR rfl j i r Ω h1.1 h
   .have:=h1.2;omega
  .exact s.gR rfl j q r am h1.1 y.1
 .by_cases A:j=i
  .subst A;rw[B]at G;rw[c8 Ω]at E;cases G;cases E;exact au.mono P (λr _ h=>by simpa using h) λ_ _ h=>h
  .rw[Y2 (Ne.symm A)]at E;have an:bI (λr=>if j=i then z r else F j r/\r<w.heap.size) R w X Y:=au.mono (he.2 j X Y G E) (λr p h=>by rw[if_neg A];exact⟨h,p⟩) λ_ _ h=>h;refine au.ab an N λr p h1 y=>?_;have y:=O r p y;rcases h1 with h1|h1
   .simp only[if_neg A]at h1;exact s.gR rfl j i r A h1.1 y
   .exact Z r p (s.sub i r y) h1
 .have:=ps (S:=λr=>(S r\/w.heap.size<=r)\/R r) W (.inr (.inl (.inl M)));exact this
def E6{v:x1}{l:List α}{i:Nat}{a:α}(h:bI S R w [v] l)(N:l[i]?=σ a)(O:∀r,r<w.heap.size->S r->¬R r):∃g cap full z c F,v= .slice (σ ⟨g,0,ν⟩) l.length cap/\ag w g z full/\S g/\i*au.n α+au.n α<=full.length/\(∀(q:Nat)x,c[q]?=σ x->full[i*au.n α+q]?=σ x)/\bI F R w c a/\(∀r,F r->S r)/\¬F g/\
  ∀{w':x3}{a':α}{A:List x1}{T C:ak},ai T w w'->(∀r,r<w.heap.size->T r->F r\/r=g)->ag w' g z (over full (i*au.n α) A)->bI C R w' A a'->(∀r,C r->F r\/w.heap.size<=r)->bI (λr=>S r\/w.heap.size<=r) R w' [v] (l.set i a'):=by
 have ad:=(x4.1 N).1;have⟨vs,g,F,y,he,U,hm⟩:=jC h;have⟨af,z,ah⟩:=hm rfl;obtain⟨ay,⟨rfl,az⟩|⟨cap,full,rfl,P,Q,aj,ae,V⟩⟩:=id ah
 .omega
 have W:vs.length=l.length:=he.1;have G:S g:=af.resolve_left Ξ;obtain⟨c,K⟩:∃c,vs[i]?=σ c:=⟨_,x6 Ω⟩;have al:=he.2 i c a K N;have am:(i+1)*au.n α<=l.length*au.n α:=X9 _ ad;have an:l.length*au.n α<=full.length:=by rw[ae];exact X9 _ Q
 rw[U3,Nat.one_mul]at am;refine⟨g,cap,full,z,c,F i,rfl,P,G,Ω,λq x X=>?_,al,λr s=>y.sub i r s,y.top rfl i,λ{w' a' A T C}ao ap aq Y H=>?_⟩
 .have L:=pL (f:=id) (k:=au.n α) (λx J=>he.len x J) K X;rw[List.flatMap_id,<-V]at L;have aA:=(x4.1 X).1;have M:=he.len c (x5 K);rw[Z7 Ω]at L;exact L
 have M:=au.len Y;have av:∀c∈vs.set i A,c.length=au.n α:=λc B=>by
  rcases W0 B with p|rfl
  .exact he.len c p
  .exact M
 have Z:b1 w' g z (au.n α) (.slice (σ ⟨g,0,ν⟩) l.length cap) (l.set i a').length (vs.set i A).flatten:=by
  refine⟨by rw[qI av,c9,c9,W],.inr ⟨cap,_,by rw[c9],aq,by rw[c9];exact Q,aj,by rw[lj,ae],?_⟩⟩;rw[c9,tz Ω an,V,EZ he.len M Ω]
 refine⟨_,rfl,vs.set i A,g,λj r=>if j=i then C r else F j r/\r<w.heap.size,⟨λj r s=>?_,λ_ j s=>?_,λ_ j q r aw h1 p=>?_⟩,⟨by simp[W],λj aa ac B I=>?_⟩,?_,λ_=>⟨.inr (.inl G),z,Z⟩⟩
 .split at s
  .exact (H r s).imp (y.sub i r) id
  .exact .inl (y.sub j r s.1)
 .split at s
  .rcases H g s with h|h
   .exact y.top rfl i h
   .have:=P.lt;omega
  .exact y.top rfl j s.1
 .split at h1<;>split at p
  .omega
  .rcases H r h1 with h|h
   .rename_i e _;exact y.gR rfl i q r Ω h p.1
   .have:=p.2;omega
  .rcases H r p with h|h
   .exact y.gR rfl j i r Ω h1.1 h
   .have:=h1.2;omega
  .exact y.gR rfl j q r aw h1.1 p.1
 .by_cases E:j=i
  .subst E;rw[c8 Ω]at B;rw[c8 Ω]at I;cases B;cases I;exact au.mono Y (λr _ h=>by simpa using h) λ_ _ h=>h
  .rw[Y2 (Ne.symm E)]at B I;have ax:bI (λr=>if j=i then C r else F j r/\r<w.heap.size) R w aa ac:=au.mono (he.2 j aa ac B I) (λr s h=>by rw[if_neg E];exact⟨h,s⟩) λ_ _ h=>h;refine au.ab ax ao λr s h1 p=>?_;have p:=ap r s p;rcases h1 with h1|h1
   .simp only[if_neg E]at h1;rcases p with p|rfl
    .exact y.gR rfl j i r E h1.1 p
    .exact y.top rfl j h1.1
   .rcases p with p|rfl
    .exact O r s (y.sub i r p) h1
    .exact O r s G h1
 .have:=ps (S:=λr=>(S r\/w.heap.size<=r)\/R r) Z (.inr (.inl (.inl G)));exact this
end
end Go.Vc
namespace Go.Proofs.YtikkpokkcdocoabGreatDoor
open Go Go.Vc Go.RowKit Go.Proofs Go.Proofs.Tryz
set_option maxRecDepth 100000
section
variable{w0 w:x3}{af gT ao ga:Nat}{A R:ak}{A9 cr:Nat->ak}{aJ:ak}{n:aG}{s u:ap}{t:aD}{h:List aD}{cs ce:List x1}{aM aK lQ:x1}{Q:x1->x3->Prop}
def cm.olds(p:cm w0 af gT ao A R A9 aJ n s u t h cs):cm w0 af gT ao A R (λq r=>A9 q r/\r<w0.heap.size) aJ n s u t h cs:=
 ⟨p.fe,p.ij,p.box,p.doc.old,λq r a=>p.apart q r a.1,p.read,p.out⟩
end
def qd{α β:Type}{l:List α}{i:Nat}{a b:α}{f:α->β}(h:l[i]?=σ a)(ae:f b=f a):(l.set i b).map f=l.map f:=by
 rw[U5,ae];refine Y4 λq=>?_;rw[X0];by_cases e:i=q
 .subst e;rw[if_pos T,x8,h,if_pos (by rw[r8];exact(x4.1 h).1)];rfl
 .rw[if_neg e]
def ye{T:Nat->Prop}(h:ai T w w'):ai (λr=>T r/\r<w.heap.size) w w':=⟨h.size,λr o a U e=>h.a6 r o a U λf=>e ⟨f,(j4.1 a).1⟩⟩
section
variable{w0 w w':x3}{af gT ao ga:Nat}{A R:ak}{A9:Nat->ak}{aJ:ak}{n:aG}{s u u':ap}{t:aD}{h:List aD}{cs:List x1}{aM aK lQ v:x1}{Q:x1->x3->Prop}
def ci.qY{m:Bool}{zero:Int}{D:List (Λ)}{G:List Bool}{aY:List (Λ)}{H:List ir}{E:List oP}{i:Nat}(ad:cs[i]?=σ v)(h:ci m A9 aJ w (cs.set i v) k sizes zero D G aY H E):ci m A9 aJ w cs k sizes zero D G aY H E:=by
 have:cs.set i v=cs:=by
  refine Y4 λq=>?_;rw[X0];by_cases a:i=q
  .subst a;have:=(x4.1 ad).1;rw[if_pos T,if_pos this,ad]
  .rw[if_neg a]
 rw[this]at h;exact h
def cm.row{T:ak}{cr:Nat->ak}{q:Nat}(p:cm w af gT ao A R A9 aJ n s u t h cs)(a:ai T w w')(e:∀r,r<w.heap.size->T r->A9 q r)(f:iO true cr aJ w' cs n.k n.sizes u')(x:∀q r,cr q r->(∃y,A9 y r)\/w.heap.size<=r):
  cm w' af gT ao A R cr aJ n s u' t h cs:=
 p.E5 a (λr z h=>.inl ⟨q,e r z h⟩) (p.box.ab a λh=>(p.apart q ao (e ao p.box.lt h)).2.2 rfl) f x
def yf{q:Nat}{B:ak}(a:∀r,B r->A9 q r\/w.heap.size<=r):∀j r,iP A9 q B j r->(∃e,A9 e r)\/w.heap.size<=r:=λj r h=>by
 unfold iP at h;split at h
 .exact (a r h).imp (λh=>⟨q,h⟩) id
 .exact .inl ⟨j,h⟩
end
def E7{full c:List x1}{o q:Nat}{x:x1}(f:∀(k:Nat)y,c[k]?=σ y->full[o+k]?=σ y)(h:o+c.length<=full.length)(p:q<c.length):full.set (o+q) x=over full o (c.set q x):=by
 refine Y4 λk=>?_;rw[mX _ _ _ (by rw[c9];exact h),X0,c9];by_cases h1:o<=k/\k<o+c.length
 .rw[if_pos h1,X0];by_cases a:o+q=k
  .rw[if_pos a,if_pos Ω,if_pos Ω,if_pos Ω]
  .rw[if_neg a,if_neg Ω];have e:k-o<c.length:=Ω
   have:=f (k-o) c[k-o] (x6 e);rw[x6 e,<-this];congr 1;omega
 .rw[if_neg h1,if_neg Ω]
section
variable{w0 w w':x3}{af gT ao ga:Nat}{A R:ak}{A9:Nat->ak}{aJ:ak}{n:aG}{s u u':ap}{t:aD}{h:List aD}{cs:List x1}{aM aK lQ v:x1}{Q:x1->x3->Prop}
def cm.gR(p:cm w af gT ao A R A9 aJ n s u t h cs):(∀i j r,i≠j->A9 i r->¬A9 j r)/\∀i r,A9 i r->¬aJ r:=by
 have⟨_,_,_,_,_,_,_,_,_,_,_,_,_,a⟩:=p.doc;exact a T
def cm.QQ{T:ak}(p:cm w af gT ao A R A9 aJ n s u t h cs)(y:∀q r,A9 q r->r<w.heap.size)(ad:cs[6]?=σ v)(e:ai T w w')(f:∀r,r<w.heap.size->T r->A9 3 r)(z:bI (λr=>A9 3 r\/w.heap.size<=r) aJ w' [v] (u'.funs.map hc))(C:u'.zero=u.zero)(E:u'.vars=u.vars)(F:u'.hr=u.hr):∃cr,cm w' af gT ao A R cr aJ n s u' t h cs/\∀q r,cr q r->(∃G,A9 G r)\/w.heap.size<=r:=by
 have H:=ci.kY p.doc (ye e) (λr a=>.inl (f r a.2 a.1)) z (λj r I a=>?_) (λr a=>?_)
 .have x:=yf (w:=w) (A9:=A9) (q:=3) (B:=λr=>A9 3 r\/w.heap.size<=r) λr h=>h;refine⟨_,p.row e f ?_ x,x⟩;have:=ci.qY ad H;unfold iO;rw[C,E,F];exact this
 .rcases a with a|a
  .exact p.gR.1 3 j r (Ne.symm I) a
  .exact λh=>by have:=y j r h;omega
 .rcases a with a|a
  .exact p.gR.2 3 r a
  .exact λh=>by have:=(p.read r h).2.1;omega
end
def QR{m:Int}{w:Int}(ad:0<=v)(hw:0<=w):dropped (((m.toNat ||| 2 ^ v.toNat:Nat):Int)) w=(dropped m w||decide (w=v)):=by
 unfold dropped;rw[u7,Nat.testBit_or,Nat.testBit_two_pow];congr 1;exact decide_eq_decide.2 ⟨λh=>Ω,λh=>Ω⟩
def yg{x:bC}(ad:0<=v):aC {x with mask:=((x.mask.toNat ||| 2 ^ v.toNat:Nat):Int)}=(aC x).filter λy=>!decide (y=v):=by
 unfold aC;rw[List.filter_filter];refine List.filter_congr λy a=>?_;obtain⟨q,_,rfl⟩:=j5.1 a;rw[QR ad Ω];cases dropped x.mask (q:Int)<;>simp
section
variable{w0 w w':x3}{af gT ao ga:Nat}{A R:ak}{A9:Nat->ak}{aJ:ak}{n:aG}{s u u':ap}{t:aD}{h:List aD}{cs:List x1}{aM aK lQ v:x1}{Q:x1->x3->Prop}
def cm.oR{T:ak}(p:cm w af gT ao A R A9 aJ n s u t h cs)(z:∀q r,A9 q r->r<w.heap.size)(ad:cs[3]?=σ v)(e:ai T w w')(f:∀r,r<w.heap.size->T r->A9 0 r)(C:bI (λr=>A9 0 r\/w.heap.size<=r) aJ w' [v] (u'.vars.map aC))(E:u'.zero=u.zero)(F:u'.vars.map (·.un)=u.vars.map (·.un))(G:(u'.vars.map λx=>decide (x.gone≠0))=u.vars.map λx=>decide (x.gone≠0))(H:u'.funs=u.funs)(I:u'.hr=u.hr):
  ∃cr,cm w' af gT ao A R cr aJ n s u' t h cs/\∀q r,cr q r->(∃J,A9 J r)\/w.heap.size<=r:=by
 have K:=ci.E3 p.doc (ye e) (λr a=>.inl (f r a.2 a.1)) C (λj r L a=>?_) (λr a=>?_)
 .have y:=yf (w:=w) (A9:=A9) (q:=0) (B:=λr=>A9 0 r\/w.heap.size<=r) λr h=>h;refine⟨_,p.row e f ?_ y,y⟩;have:=ci.qY ad K;unfold iO;rw[E,F,G,H,I];exact this
 .rcases a with a|a
  .exact p.gR.1 0 j r (Ne.symm L) a
  .exact λh=>by have:=z j r h;omega
 .rcases a with a|a
  .exact p.gR.2 0 r a
  .exact λh=>by have:=(p.read r h).2.1;omega
end
section
variable{w0 w w':x3}{af gT ao ga:Nat}{A R:ak}{A9:Nat->ak}{aJ:ak}{n:aG}{s u u':ap}{t:aD}{h:List aD}{cs:List x1}{aM aK lQ v:x1}{Q:x1->x3->Prop}
def QS{F:ak}{c:List x1}{f:bU}(h:bI (α:=ir) F R w c (hc f))(C:∀r,F r->¬R r):∃aK szv a7 e,c=[aK,szv,a7,.bool (decide (f.live≠0))]/\bI e R w [a7] f.cs/\(∀r,e r->F r)/\
  ∀{w':x3}{ce:Λ},ai e w w'->bI e R w' [a7] ce->bI (α:=ir) F R w' c (hc {f with cs:=ce}):=by
 obtain⟨ac,N,A,B,rfl,E,O,P,h1,q⟩:=h;obtain⟨Q,ad,aR,S,rfl,T,G,H,I,U⟩:=h1;obtain⟨V,W,X,s,rfl,Y,x,J,K,L⟩:=U;have q:N=[.bool (decide (f.live≠0))]:=q;subst q;obtain⟨y,rfl⟩:=W9.1 (show Q.length=1 from au.len I);obtain⟨p,rfl⟩:=W9.1 (show V.length=1 from au.len K);obtain⟨v3,rfl⟩:=W9.1 (show W.length=1 from au.len L);have z:∀r,s r->F r:=λr h=>E r (G r (x r h));refine⟨y,p,v3,s,rfl,L,z,λ{w' ce}M Z=>?_⟩;refine⟨[y,p,v3],[.bool (decide (f.live≠0))],A,B,rfl,E,O,P,⟨[y],[p,v3],aR,S,rfl,T,G,H,au.ab I M λr aa a he=>?_,[p],[v3],X,s,rfl,Y,x,J,au.ab K M λr aa a he=>?_,Z⟩,rfl⟩
 .exact a.elim (λa=>H rfl r a (x r he)) (C r (z r he))
 .exact a.elim (λa=>J rfl r a he) (C r (z r he))
end
theorem du.vars{s:ap}{i:Nat}{x y:bC}(h:du s)(J:s.vars[i]?=σ x)(q:y.gone=x.gone):du {s with vars:=s.vars.set i y}:=λf ae p v ad z a=>by
 have a:(s.vars.set i y)[v.toNat]?=σ z:=a;rw[X0]at a;split at a
 .rename_i e;split at a
  .cases a;subst e;rw[q];exact h f ae p v ad x J
  .cases a
 .exact h f ae p v ad z a
theorem du.funs{s:ap}{f g:bU}(h:du s)(ae:s.funs[j]?=σ f)(U:g.sc=f.sc)(p:g.live≠0->f.live≠0):du {s with funs:=s.funs.set j g}:=λx J a v ad z e=>by
 rcases W0 J with J|rfl
 .exact h x J a v ad z e
 .exact h f (x5 ae) (p a) v (by rw[<-U];exact ad) z e
structure h3 where
 kind:Nat
 i:Int
 pos:Int
 v:Int
 c:Int
def er(s:ap)(i v:Int):Option bC:=if 0<=i then match s.vars[i.toNat]? with
 |some x=>if x.gone=0/\v∈aC x then σ x else ν
 |none=>ν else ν
def et(s:ap)(j pos v:Int):Option (bU×Int×bC):=if 0<=j/\0<=pos then match s.funs[j.toNat]? with
 |some f=>if f.live≠0 then match f.sc[pos.toNat]? with
  |some u=>(er s u v).map λx=>(f,u,x)
  |none=>ν
  else ν
 |none=>ν else ν
def mE(k:Int)(s:ap)(f:bU)(pos:Nat)(v:Int):Int:=((bP s f.sc pos v).map (bl f.aj f.cs)).foldl min k
def dv(k c most:Int):Int:=if¬(0<=c/\c<=k)then 3 else if most<c then 7 else 0
def jm(x:bC):Int:=match(aC x).map λv=>x.un.getD v.toNat 0 with
 |[]=>-1
 |c::l=>l.foldl min c
def gv(s:ap)(i:Nat)(v:Int):Λ->ap
 |[]=>s
 |w::L=>gv (if w≠v then eo s i w.toNat else s) i v L
def cB(k:Int)(s:ap)(a:h3):ap×Int:=
 if a.kind=0 then match et s a.i a.pos a.v with
  |none=>(s,1)
  |some (f,u,x)=>if dv k a.c (mE k s f a.pos.toNat a.v)≠0 then(s,dv k a.c (mE k s f a.pos.toNat a.v))else(jl s a.i.toNat f a.pos.toNat u.toNat x a.v (λg=>dR k g a.c) λg=>dC k g a.c,0)
 else if a.kind=1 then match et s a.i a.pos a.v with
  |none=>(s,1)
  |some (f,u,x)=>if dv k a.c (x.un.getD a.v.toNat 0)≠0 then(s,dv k a.c (x.un.getD a.v.toNat 0))else(jl s a.i.toNat f a.pos.toNat u.toNat x a.v (λg=>dC k g a.c) λg=>dR k g a.c,0)
 else if a.kind=2 then match(if 0<=a.i then s.vars[a.i.toNat]? else ν)with
  |none=>(s,1)
  |some x=>if x.gone≠0 then(s,1)else if dv k a.c (jm x)≠0 then(s,dv k a.c (jm x))else(k1 s a.i.toNat x (λg=>dR k g a.c) λg=>dC k g a.c,0)
 else if a.kind=3 then match(if 0<=a.i then s.vars[a.i.toNat]? else ν)with
  |none=>(s,1)
  |some x=>if x.gone≠0 then(s,1)else if dv k a.c (if aC x=[]then-1 else s.zero)≠0 then(s,dv k a.c (if aC x=[]then-1 else s.zero))else(k1 s a.i.toNat x (λg=>dC k g a.c) λg=>dR k g a.c,0)
 else if a.kind=4 then match er s a.i a.v with
  |none=>(s,1)
  |some x=>if dC k s.zero (x.un.getD a.v.toNat 0)<k then(s,7)else(eo s a.i.toNat a.v.toNat,0)
 else match er s a.i a.v with
  |none=>(s,1)
  |some x=>(gv s a.i.toNat a.v (aC x),0)
theorem qe:∀(l:Λ)(z c:Int),c<=l.foldl min z↔c<=z/\∀x∈l,c<=x
 |[],z,c=>Ξ
 |a::l,z,c=>by
  rw[T5,qe l (min z a) c];rw[List.forall_mem_cons];exact⟨λ⟨h1,e⟩=>⟨Ω,Ω,e⟩,λ⟨h1,e,f⟩=>⟨Ω,f⟩⟩
def nx{most:Int}(h:¬dv k c most≠0):(0<=c/\c<=k)/\c<=most:=by
 unfold dv at h;split at h
 .exact absurd Φ h
 .rename_i h1;split at h
  .exact absurd Φ h
  .exact⟨Z9.1 h1,Ω⟩
def k2{s:ap}{i:Int}{x:bC}(h:er s i v=σ x):0<=i/\s.vars[i.toNat]?=σ x/\x.gone=0/\v∈aC x:=by
 unfold er at h;split at h
 .rename_i e;split at h
  .rename_i y f;split at h
   .rename_i a;cases h;exact⟨e,f,a.1,a.2⟩
   .cases h
  .cases h
 .cases h
def ny{s:ap}{j u:Int}{f:bU}{x:bC}(h:et s j pos v=σ (f,u,x)):0<=j/\0<=pos/\s.funs[j.toNat]?=σ f/\f.live≠0/\f.sc[pos.toNat]?=σ u/\er s u v=σ x:=by
 unfold et at h;split at h
 .rename_i a;split at h
  .rename_i g e;split at h
   .rename_i p;split at h
    .rename_i w hw;cases ad:er s w v with
     |none=>rw[ad]at h;cases h
     |some y=>
      rw[ad]at h;cases h;exact⟨a.1,a.2,e,p,hw,ad⟩
    .cases h
   .cases h
  .cases h
 .cases h
section
variable{k:Int}{sizes a:Λ}{s:ap}
def nz{g:Int}(a:0<=g/\g<=k)(e:0<=c/\c<=g):0<=dR k g c/\dR k g c<=k:=by
 unfold dR;split<;>omega
def nA{g:Int}(a:0<=g/\g<=k)(e:0<=c):0<=dC k g c/\dC k g c<=k:=by
 unfold dC;omega
def hd{u:Nat}{v:Nat}{x:bC}(a:bi k sizes s)(J:s.vars[u]?=σ x):0<=x.un.getD v 0/\x.un.getD v 0<=k:=by
 have:=a.eg;have:=(x4.1 J).1;have:=a.vars;exact EP Ω (a.var u x _ J (x6 Ω)).2.1
def nB{f:bU}(a:bi k sizes s)(ae:f∈s.funs):0<=bl f.aj f.cs t/\bl f.aj f.cs t<=k:=(tY a.eg λc e=>⟨a.eg,(a.funs f ae).1.ih c e⟩).2
def yh{x:bC}(h:v∈aC x)(a:c<=jm x):c<=x.un.getD v.toNat 0:=by
 unfold jm at a;have hm:x.un.getD v.toNat 0∈(aC x).map λv=>x.un.getD v.toNat 0:=j5.2 ⟨v,h,T⟩;generalize (aC x).map (λv=>x.un.getD v.toNat 0)=l at a hm;cases l with
 |nil=>cases hm
 |cons b l=>
  have h1:=(qe l b c).1 a;rcases V2.1 hm with e|e
  .rw[e];exact h1.1
  .exact h1.2 _ e
theorem rW{i:Nat}{v:Int}{x:bC}:∀(L:Λ)(s:ap),bi k sizes s->s.vars[i]?=σ x->(∀w∈L,0<=w/\w<x.un.length)->bi k sizes (gv s i v L)/\(du s->du (gv s i v L))/\
  ∀bj,lE s a->x.gone=0->a[i]?=σ bj->hs k (gv s i v L) a=if bj∈L/\bj≠v then k else hs k s a
 |[],s,z,J,_=>⟨z,id,λbj _ _ _=>by rw[if_neg Ξ];rfl⟩
 |w::L,s,z,J,C=>by
  unfold gv;by_cases hw:w≠v
  .rw[if_pos hw];have G:=C w (.head _);have K:=ya z J G;have H:=(x4.1 J).1;have M:(eo s i w.toNat).vars[i]?=σ {x with mask:=((x.mask.toNat ||| 2 ^ w.toNat:Nat):Int)}:=by rw[mD J];exact c8 H
   obtain⟨h1,E,F⟩:=rW L (eo s i w.toNat) K M λu hu=>C u (.tail _ hu);refine⟨h1,λN=>E ?_,λbj p A B=>?_⟩
   .rw[mD J];exact du.vars N J T
   .have O:lE (eo s i w.toNat) a:=by
     rw[mD J];refine⟨by show a.length=(s.vars.set _ _).length;rw[c9];exact p.1,λq y b r I=>?_⟩;have r:(s.vars.set i {x with mask:=((x.mask.toNat ||| 2 ^ w.toNat:Nat):Int)})[q]?=σ y:=r;by_cases e:i=q
     .subst e;rw[c8 H]at r;cases r;exact p.2 i x b J I
     .rw[Y2 e]at r;exact p.2 q y b r I
    rw[F bj O A B,EY z p J A G B];by_cases e:bj=w
    .subst e;rw[if_pos T,if_pos (show bj∈bj::L/\bj≠v from⟨.head _,hw⟩)];split<;>rfl
    .rw[if_neg e];by_cases f:bj∈L/\bj≠v
     .rw[if_pos f,if_pos ⟨.tail _ f.1,f.2⟩]
     .rw[if_neg f,if_neg λh=>f ⟨(V2.1 h.1).resolve_left e,h.2⟩]
  .rw[if_neg hw];obtain⟨h1,E,F⟩:=rW L s z J λu hu=>C u (.tail _ hu);refine⟨h1,E,λbj p A B=>?_⟩;rw[F bj p A B];have hw:=Z9.1 hw;by_cases f:bj∈L/\bj≠v
   .rw[if_pos f,if_pos ⟨.tail _ f.1,f.2⟩]
   .rw[if_neg f,if_neg λh=>f ⟨(V2.1 h.1).resolve_left λe=>h.2 (e.trans hw),h.2⟩]
theorem du.zero(h:du s):du {s with zero:=c}:=h
def E9{pos u:Nat}{f:bU}{x:bC}{tup un:Int->Int}(h:du s)(ae:s.funs[j]?=σ f)(J:s.vars[u]?=σ x):du (jl s j f pos u x v tup un):=
 du.vars (s:=dS s j f (dH tup (bP s f.sc pos v) f.aj f.cs)) (du.funs h ae T id) J T
def Fa{u:Nat}{x:bC}{g z:Int->Int}(h:du s)(J:s.vars[u]?=σ x):du (k1 s u x g z):=du.zero (du.vars h J T)
def qf(k:Int)(s:ap)(m:h3)(s':ap)(e:Int)(a:Λ):Prop:=hs k s' a=if 5<=m.kind/\e=0/\a[m.i.toNat]? ≠σ m.v then k else hs k s a
def QT{m:h3}(p:bi k sizes s)(F:du s):bi k sizes (cB k s m).1/\du (cB k s m).1/\∀a,lE s a->qf k s m (cB k s m).1 (cB k s m).2 a:=by
 have hk:=p.eg;have B:∀e:Int,e≠0->bi k sizes s/\du s/\∀a,lE s a->qf k s m s e a:=λe he=>⟨p,F,λa _=>by unfold qf;rw[if_neg λh=>he h.2.1]⟩;have low:∀{s':ap}{e:Int},m.kind<5->bi k sizes s'->du s'->(∀a,lE s a->hs k s' a=hs k s a)->bi k sizes s'/\du s'/\∀a,lE s a->qf k s m s' e a:=λhm h1 K T=>⟨h1,K,λa y=>by unfold qf;rw[if_neg λh=>Ω];exact T a y⟩;unfold cB;split
 .rename_i P;cases z:et s m.i m.pos m.v with
  |none=>exact B 1 Φ
  |some q=>
   have⟨f,u,x⟩:=q;simp only;split
   .rename_i he;exact B _ he
   .rename_i he;have⟨A,hm⟩:=nx he;simp only;have⟨_,_,ae,L,hu,ad⟩:=ny z;have⟨aa,J,E,Q⟩:=k2 ad;have G:=x5 ae;have U:∀t∈bP s f.sc m.pos.toNat m.v,m.c<=bl f.aj f.cs t:=λt C=>((qe _ _ _).1 hm).2 _ (j5.2 ⟨t,C,rfl⟩);have R:f.sc[m.pos.toNat]?=σ ((u.toNat:Nat):Int):=by rw[hu];congr 1;omega
    have C:∀t∈bP s f.sc m.pos.toNat m.v,0<=dR k (bl f.aj f.cs t) m.c/\dR k (bl f.aj f.cs t) m.c<=k:=λt C=>nz (nB p G) ⟨A.1,U t C⟩;have M:=nA (k:=k) (hd (v:=m.v.toNat) p J) A.1;refine low Ω (EU p ae J C M) (E9 F ae J) λa y=>EV p y ae L R J Q (F f G L) C M λt C r H=>?_;have:=nB (t:=t) p G;exact uy H ⟨U t C,this.2⟩ (hd p J) A.1
 split
 .rename_i _ P;cases z:et s m.i m.pos m.v with
  |none=>exact B 1 Φ
  |some q=>
   have⟨f,u,x⟩:=q;simp only;split
   .rename_i he;exact B _ he
   .rename_i he;have⟨A,hm⟩:=nx he;simp only;have⟨_,_,ae,L,hu,ad⟩:=ny z;have⟨aa,J,E,Q⟩:=k2 ad;have G:=x5 ae;have R:f.sc[m.pos.toNat]?=σ ((u.toNat:Nat):Int):=by rw[hu];congr 1;omega
    have C:∀t∈bP s f.sc m.pos.toNat m.v,0<=dC k (bl f.aj f.cs t) m.c/\dC k (bl f.aj f.cs t) m.c<=k:=λt C=>nA (nB p G) A.1;have M:=nz (k:=k) (hd (v:=m.v.toNat) p J) ⟨A.1,hm⟩;refine low Ω (EU p ae J C M) (E9 F ae J) λa y=>EV p y ae L R J Q (F f G L) C M λt C r H=>?_;have h1:=nB (t:=t) p G;have K:=hd (v:=m.v.toNat) p J;have:=uy (k:=k) H ⟨hm,K.2⟩ h1 A.1;omega
 split
 .rename_i _ _ P;cases z:(if 0<=m.i then s.vars[m.i.toNat]? else ν)with
  |none=>exact B 1 Φ
  |some x=>
   have J:s.vars[m.i.toNat]?=σ x:=by split at z;exact z;cases z
   simp only;split
   .exact B 1 Φ
   split
   .rename_i he;exact B _ he
   .rename_i E he;have⟨A,hm⟩:=nx he;simp only;have V:∀v∈aC x,m.c<=x.un.getD v.toNat 0:=λv ad=>yh ad hm;have N:∀v∈aC x,0<=dR k (x.un.getD v.toNat 0) m.c/\dR k (x.un.getD v.toNat 0) m.c<=k:=λv ad=>nz (hd p J) ⟨A.1,V v ad⟩;have O:=nA (k:=k) p.zero A.1;refine low Ω (x9 p J N O) (Fa F J) λa y=>EX p y J (Z9.1 E) N O λv ad r H=>?_;exact uy H ⟨V v ad,(hd p J).2⟩ p.zero A.1
 split
 .rename_i _ _ _ P;cases z:(if 0<=m.i then s.vars[m.i.toNat]? else ν)with
  |none=>exact B 1 Φ
  |some x=>
   have J:s.vars[m.i.toNat]?=σ x:=by split at z;exact z;cases z
   simp only;obtain⟨W,X⟩:∃W,W=(if aC x=[]then-1 else s.zero):=⟨_,rfl⟩;rw[<-X];split
   .exact B 1 Φ
   split
   .rename_i he;exact B _ he
   .rename_i E he;have⟨A,hm⟩:=nx he;simp only;have Y:m.c<=s.zero:=by
     rw[X]at hm;split at hm
     .omega
     .exact hm
    have N:∀v∈aC x,0<=dC k (x.un.getD v.toNat 0) m.c/\dC k (x.un.getD v.toNat 0) m.c<=k:=λv ad=>nA (hd p J) A.1;have O:=nz (k:=k) p.zero ⟨A.1,Y⟩;refine low Ω (x9 p J N O) (Fa F J) λa y=>EX p y J (Z9.1 E) N O λv ad r H=>?_;have:=uy (k:=k) H ⟨Y,p.zero.2⟩ (hd (v:=v.toNat) p J) A.1;omega
 split
 .rename_i _ _ _ _ P;cases z:er s m.i m.v with
  |none=>exact B 1 Φ
  |some x=>
   have⟨_,J,E,ad⟩:=k2 z;simp only;split
   .exact B 7 Φ
   .rename_i he;have Z:=(gg.1 ad).1;simp only;refine low Ω (ya p J Z) (by rw[mD J];exact du.vars F J rfl) λa y=>?_;have ab:=(x4.1 J).1;have ac:=y.1;have⟨bj,I⟩:=aH (l:=a) (i:=m.i.toNat) Ω;rw[EY p y J E Z I];split
    .rename_i e;subst e;rw[oO p];split
     .have af:(s.vars.zip a)[m.i.toNat]?=σ (x,m.v):=List.getElem?_zip_eq_some.2 ⟨J,I⟩;have h1:=rT (uz (a:=a) p) (i:=m.i.toNat) (x:=dB (x,m.v)) (by rw[x8,af];rfl);have K:=rS _ (rU (a:=a) p);have ah:dB (x,m.v)=x.un.getD m.v.toNat 0:=by unfold dB;rw[if_neg (by simp[E])]
      unfold dC at he;omega
     .rfl
    .rfl
 .rename_i h1 K T ai ak;cases z:er s m.i m.v with
  |none=>exact B 1 Φ
  |some x=>
   have⟨_,J,E,ad⟩:=k2 z;simp only;have S:∀w∈aC x,0<=w/\w<x.un.length:=λw hw=>(gg.1 hw).1;refine⟨(rW (a:=[]) (aC x) s p J S).1,(rW (a:=[]) (aC x) s p J S).2.1 F,λa y=>?_⟩;have ab:=(x4.1 J).1;have ac:=y.1;have⟨bj,I⟩:=aH (l:=a) (i:=m.i.toNat) Ω;unfold qf;rw[(rW (aC x) s p J S).2.2 bj y E I,I];by_cases e:bj=m.v
   .rw[if_neg λh=>h.2 e,if_neg λh=>h.2.2 (by rw[e])]
   .rw[if_pos (c:=5<=m.kind/\_) ⟨Ω,rfl,λh=>e (b9 h)⟩];split
    .rfl
    .rename_i ag;exact QC y J E I λh=>ag ⟨h,e⟩
end
def QU{f:Int->Int}(U:dP aj)(r:cs.length<=(bm aj).length)(h:∀t∈L,f (bl aj cs t)=bl aj cs t):dH f L aj cs=cs:=by
 apply Y4;intro i;cases a:cs[i]? with
 |none=>
  have h1:=List.getElem?_eq_none_iff.1 a;rw[Z2 (by rw[oK]<;>omega)]
 |some c=>
  have⟨t,p⟩:=aH (l:=bm aj) (i:=i) (by have:=(x4.1 a).1;omega);rw[p3 p a];split
  .rename_i q;have e:bl aj cs t=c:=by
    unfold bl;rw[jG U p];simp only;rw[u7,u4,a];rfl
   have:=h t q;rw[e]at this;rw[this]
  .rfl
section
variable{k:Int}{sizes:Λ}{s:ap}
end
section
variable{k:Int}{sizes:Λ}{s:ap}
def oS{f:bU}{pos:Nat}(a:bi k sizes s)(ae:f∈s.funs)(ad:∀u,f.sc[pos]?=σ u->v∈bg s u)(h:t∈bP s f.sc pos v):∃m:Nat,cq f.aj t 0=σ (m:Int):=by
 have⟨e,p,_⟩:=a.funs f ae;have⟨q,_⟩:=ko a ae;rw[xW a (λu hu=>⟨(e.scope.1 u hu).1,e.vars u hu⟩) ad,<-p]at h;have⟨i,hi⟩:=X3.1 (T4.1 h).1;exact⟨i,jG q hi⟩
end
section
variable{k:Int}{sizes:Λ}{s:ap}
def QV{m:h3}(h:(cB k s m).2≠0):(cB k s m).1=s:=by
 generalize hm:cB k s m=r at h ⊢;unfold cB at hm
 repeat' split at hm
 all_goals (subst hm;first|rfl|exact absurd rfl h)
end
section
variable{n:aG}{s:ap}
def QW{i:Int}(a:bi n.k n.sizes s):0<=(h0 n s i).1/\(h0 n s i).1<=n.k:=by
 have:=a.eg;exact rN Ω λv _=>p5 a
end
structure e3(s s':ap):Prop where
 vars:s'.vars.length=s.vars.length
 var:∀(i:Nat)x y,s.vars[i]?=σ x->s'.vars[i]?=σ y->y.gone=x.gone/\y.un.length=x.un.length
 funs:s'.funs.length=s.funs.length
 fn:∀(j:Nat)f g,s.funs[j]?=σ f->s'.funs[j]?=σ g->g.sc=f.sc/\g.aj=f.aj/\g.live=f.live/\g.cs.length=f.cs.length
 hr:s'.hr=s.hr
def e3.rfl{s:ap}:e3 s s:=⟨Eq.refl _,λ_ _ _ h1 a=>by rw[h1]at a;cases a;exact⟨Eq.refl _,Eq.refl _⟩,Eq.refl _,λ_ _ _ h1 a=>by rw[h1]at a;cases a;exact⟨Eq.refl _,Eq.refl _,Eq.refl _,Eq.refl _⟩,Eq.refl _⟩
def e3.trans{a b c:ap}(h:e3 a b)(k:e3 b c):e3 a c:=by
 refine⟨k.vars.trans h.vars,λi x z J s=>?_,k.funs.trans h.funs,λj f q ae w=>?_,k.hr.trans h.hr⟩
 .have A:=(x4.1 J).1;have ad:=h.vars;have⟨y,p⟩:=aH (l:=b.vars) (i:=i) Ω;have h1:=h.var i x y J p;have e:=k.var i y z p s;exact⟨e.1.trans h1.1,e.2.trans h1.2⟩
 .have A:=(x4.1 ae).1;have ad:=h.funs;have⟨g,r⟩:=aH (l:=b.funs) (i:=j) Ω;have h1:=h.fn j f g ae r;have e:=k.fn j g q r w;exact⟨e.1.trans h1.1,e.2.1.trans h1.2.1,e.2.2.1.trans h1.2.2.1,e.2.2.2.trans h1.2.2.2⟩
section
variable{k:Int}{sizes:Λ}{s:ap}
def yi{i:Nat}{x y:bC}(J:s.vars[i]?=σ x)(r:y.gone=x.gone)(w:y.un.length=x.un.length):e3 s {s with vars:=s.vars.set i y}:=by
 refine⟨c9,λj a b q h=>?_,T,λj f g h1 p=>?_,T⟩
 .have h:(s.vars.set i y)[j]?=σ b:=h;by_cases e:i=j
  .subst e;rw[c8 (x4.1 J).1]at h;rw[J]at q;cases q;cases h;exact⟨r,w⟩
  .rw[Y2 e,q]at h;cases h;exact⟨T,T⟩
 .have p:s.funs[j]?=σ g:=p;rw[h1]at p;cases p;exact⟨T,T,T,T⟩
def QX{f g:bU}(ae:s.funs[j]?=σ f)(h:g.sc=f.sc/\g.aj=f.aj/\g.live=f.live/\g.cs.length=f.cs.length):e3 s {s with funs:=s.funs.set j g}:=by
 refine⟨T,λi a b r p=>?_,c9,λq a b r p=>?_,T⟩
 .have p:s.vars[i]?=σ b:=p;rw[r]at p;cases p;exact⟨T,T⟩
 .have p:(s.funs.set j g)[q]?=σ b:=p;by_cases e:j=q
  .subst e;rw[c8 (x4.1 ae).1]at p;rw[ae]at r;cases r;cases p;exact h
  .rw[Y2 e,r]at p;cases p;exact⟨T,T,T,T⟩
def QY:e3 s {s with zero:=c}:=⟨T,λ_ _ _ h1 a=>by have a:s.vars[_]?=σ _:=a;rw[h1]at a;cases a;exact⟨T,T⟩,T,λ_ _ _ h1 a=>by have a:s.funs[_]?=σ _:=a;rw[h1]at a;cases a;exact⟨T,T,T,T⟩,T⟩
def yj{i:Nat}:e3 s (eo s i v.toNat):=by
 cases J:s.vars[i]? with
 |none=>unfold eo;rw[J];exact .rfl
 |some x=>rw[mD J];exact yi J T rfl
theorem yk{i:Nat}{v:Int}:∀(L:Λ)(s:ap),e3 s (gv s i v L)
 |[],_=>.rfl
 |w::L,s=>by
  unfold gv;split
  .exact yj.trans (yk L _)
  .exact yk L s
def Fb{u:Nat}{x:bC}{g z:Int->Int}(J:s.vars[u]?=σ x):e3 s (k1 s u x g z):=
 (yi (y:={x with un:=ej g x.un (aC x)}) J T (uC _ _)).trans QY
def Fc{pos u:Nat}{f:bU}{x:bC}{t un:Int->Int}(a:bi k sizes s)(ae:s.funs[j]?=σ f)(J:s.vars[u]?=σ x):e3 s (jl s j f pos u x v t un):=by
 have⟨_,e⟩:=ko a (x5 ae);have h1:e3 s (dS s j f (dH t (bP s f.sc pos v) f.aj f.cs)):=QX ae ⟨T,T,T,oK _ _ _ _ Ω⟩;exact h1.trans (yi (s:=dS s j f (dH t (bP s f.sc pos v) f.aj f.cs)) (y:={x with un:=x.un.set v.toNat (un (x.un.getD v.toNat 0))}) J T c9)
def QZ{m:h3}(p:bi k sizes s):e3 s (cB k s m).1:=by
 by_cases he:(cB k s m).2=0
 .generalize a:cB k s m=r at he ⊢;unfold cB at a;split at a
  .split at a
   .subst a;exact .rfl
   .rename_i f u x e;have⟨_,_,ae,_,_,ad⟩:=ny e;have⟨_,J,_,_⟩:=k2 ad;split at a
    .subst a;exact .rfl
    .subst a;simp only;exact Fc p ae J
  split at a
  .split at a
   .subst a;exact .rfl
   .rename_i f u x e;have⟨_,_,ae,_,_,ad⟩:=ny e;have⟨_,J,_,_⟩:=k2 ad;split at a
    .subst a;exact .rfl
    .subst a;simp only;exact Fc p ae J
  have key:∀{x:bC},(if 0<=m.i then s.vars[m.i.toNat]? else ν)=σ x->s.vars[m.i.toNat]?=σ x:=λh=>by
   split at h
   .exact h
   .cases h
  split at a
  .split at a
   .subst a;exact .rfl
   .rename_i x e;split at a
    .subst a;exact .rfl
    .split at a
     .subst a;exact .rfl
     .subst a;simp only;exact Fb (key e)
  split at a
  .split at a
   .subst a;exact .rfl
   .rename_i x e;generalize (if aC x=[]then-1 else s.zero)=q at a;split at a
    .subst a;exact .rfl
    .split at a
     .subst a;exact .rfl
     .subst a;simp only;exact Fb (key e)
  split at a
  .split at a
   .subst a;exact .rfl
   .split at a
    .subst a;exact .rfl
    .subst a;exact yj
  .split at a
   .subst a;exact .rfl
   .subst a;exact yk _ _
 .rw[QV he];exact .rfl
end
def Q5{of:Int->Int}:(l=[]/\(b0 k l of).2= -1)\/(b0 k l of).2∈l:=by
 have key:∀(l:Λ)(p:Int×Int),(l.foldl (fk of) p).2=p.2\/(l.foldl (fk of) p).2∈l:=λl=>by
  induction l with
  |nil=>exact λp=>.inl T
  |cons v l a=>
   intro p;rw[T5];rcases a (fk of p v)with h|h
   .rw[h];unfold fk;split
    .exact .inr (.head _)
    .exact .inl T
   .exact .inr (.tail _ h)
 cases l with
 |nil=>exact .inl ⟨T,T⟩
 |cons v l=>
  right;unfold b0;rw[T5];have e:fk of (k,-1) v=(of v,v):=by unfold fk;rw[if_pos (.inl T)]
  rw[e];rcases key l (of v,v)with h|h
  .rw[h];exact .head _
  .exact .tail _ h
section
variable{n:aG}{s:ap}
def nC(n:aG)(s:ap)(i:Int):Prop:=hy s i.toNat=false->bg s i≠[]/\(h0 n s i).1=0/\∀v∈bg s i,dC n.k s.zero (ep n s i v)<n.k
def Fe{i:Int}(e:bi n.k n.sizes s):(h0 n s i).2<0↔bg s i=[]:=by
 rcases Q5 (k:=n.k) (l:=bg s i) (of:=ep n s i)with⟨h1,a⟩|h
 .unfold h0;rw[a];exact⟨λ_=>h1,λ_=>Φ⟩
 .have h:(h0 n s i).2∈bg s i:=h;generalize (h0 n s i).2=w at h;have f:0<=w:=by
   unfold bg at h;split at h
   .exact (gg.1 h).1.1
   .cases h
  refine⟨λa=>Ω,λa=>?_⟩;rw[a]at h;cases h
end
section
variable{n:aG}{s:ap}
def kp(n:aG)(s:ap):Prop:=∀i<n.sizes.length,nC n s (i:Int)
end
def uI(B:Nat)(w:x3)(a:x1)(cs:List x1)(f:b3):Prop:=∃af gT A R t N A9 aJ,e8 N f/\a=Γ af/\bx w af gT A R (cS f) (dh (cS f)) t/\Plain t/\(∀r,A r->B<=r)/\
 iO true A9 aJ w cs (cS f).k (cS f).sizes (dh (cS f))/\(∀q r,A9 q r->¬A r/\¬R r/\B<=r)/\(∀r,aJ r->¬ew w r/\r<w.heap.size/\B<=r)/\∀r,R r->B<=r
def Q6(w:x3)(q:Λ)(v:x1)(w':x3):Prop:=Ext w w'/\∃a cs ok,v= .tuple #[a,.agg cs.toArray,.bool ok]/\(cs.length=8/\∀u∈cs,u.oneCell'=true)/\((ok=false/\a= .pointer ν)\/(ok=true/\∃f,fs q=σ f/\uI w.heap.size w' a cs f))/\∀f,fs q=σ f->jd f.funs<=16384->ok=true
def Q7(U:dP aj):(bm aj).Nodup:=by
 rw[List.nodup_iff_pairwise_ne,V8];intro i j hi a f he;have h1:=jG U (x6 hi);have e:=jG U (x6 a);rw[he,e]at h1;have:=b9 h1;omega
section
variable{k:Int}{sizes:Λ}{s:ap}
def Ff{f:bU}{pos:Nat}(a:bi k sizes s)(ae:f∈s.funs)(ad:∀u,f.sc[pos]?=σ u->v∈bg s u):(bP s f.sc pos v).Nodup:=by
 have⟨e,h,_⟩:=a.funs f ae;have⟨p,_⟩:=ko a ae;rw[xW a (λu hu=>⟨(e.scope.1 u hu).1,e.vars u hu⟩) ad,<-h];exact(Q7 p).sublist List.filter_sublist
def yl{α:Type}{l:List α}{q:Nat}{a:α}(e:l.Nodup)(h:l[q]?=σ a):a∉l.take q:=λhm=>by
 have⟨i,hi⟩:=X3.1 hm;have f:i<q:=by have:=(x4.1 hi).1;rw[l9]at this;omega
 rw[Z7 f]at hi;have h1:=(x4.1 hi).1;have p:=(x4.1 h).1;have:=(List.getElem_inj e (h₀:=h1) (h₁:=p)).1 (by rw[(x4.1 hi).2,(x4.1 h).2]);omega
def Fg{m:Nat}{f:bU}(ae:s.funs[j]?=σ f)(e:f.live≠0)(hi:cq f.aj t 0=σ (m:Int)):ez s j t=bl f.aj f.cs t/\∃p,ha s j t=σ p:=by
 have h:∃p,ha s j t=σ p:=by
  unfold ha;rw[ae];simp only;rw[if_pos e,hi];exact⟨_,T⟩
 have⟨p,a⟩:=h;refine⟨?_,p,a⟩;unfold ez;rw[a,T6,if_pos T];unfold my;rw[ae]
def Fh{m q:Nat}{f:bU}{g:Int->Int}(x:bi k sizes s)(ae:s.funs[j]?=σ f)(y:L.Nodup)(p:L[q]?=σ t)(hi:cq f.aj t 0=σ (m:Int)):
  bl f.aj (dH g (L.take q) f.aj f.cs) t=bl f.aj f.cs t/\kY (dS s j f (dH g (L.take q) f.aj f.cs)) j m (g (bl f.aj f.cs t))=dS s j f (dH g (L.take (q+1)) f.aj f.cs):=by
 have⟨a,z⟩:=ko x (x5 ae);have r:=yl y p;refine⟨by rw[EQ a z hi,if_neg r],?_⟩;have h:=kK a hi;rw[u7]at h;have:=(x4.1 h).1;have⟨c,w⟩:=aH (l:=f.cs) (i:=m) Ω;have e:bl f.aj f.cs t=c:=by
  unfold bl;rw[hi];simp only;rw[u7,u4,w];rfl
 have A:=(PT (f:=g) a Ω h w r).2;unfold kY;have B:(dS s j f (dH g (L.take q) f.aj f.cs)).funs[j]?=σ {f with cs:=dH g (L.take q) f.aj f.cs}:=c8 (x4.1 ae).1;rw[B,e];simp only;rw[A,u9,p];unfold dS;simp only[List.set_set];rfl
end
section
variable{w:x3}{af gT:Nat}{A R:ak}{n:aG}{s:ap}{t:aD}
def ym{i:Int}(h:bx w af gT A R n s t):am x7 Ir [Γ af,Δ i,Δ v] w λr w'=>Ext w w'/\r=Δ (if(er s i v).isSome=true then 0 else 1):=by
 have:=h.2.2.2.1.vars;apply az func148;rw[di dd.u];simp only[Z5,a8];refine aV (λr V=>r= .bool (!(er s i v).isSome)/\Ext w V) ?_ ?_
 .rintro _ V ⟨rfl,B⟩;rw[ca];exact⟨λf=>⟨B,by rw[if_neg (by simpa using f)]⟩,λf=>⟨B,by rw[if_pos (by simpa using f)]⟩⟩
 intro aA C;apply(xE (i:=i) h).mono;rintro _ aa _ ⟨rfl,p⟩;rw[ca];refine⟨λa=>C _ _ ⟨?_,p⟩,λa=>?_⟩
 .rw[V5,decide_eq_true_eq]at a;have q:er s i v=ν:=by
   unfold er;rw[if_pos a.1];have y:=a.2;unfold hy at y;cases J:s.vars[i.toNat]? with
   |none=>rfl
   |some x=>
    rw[J]at y;simp only;rw[if_neg λh=>by simp[h.1]at y]
  rw[q];rfl
 apply(jK (i:=i) (h.ext p)).mono;rintro _ L _ ⟨⟨b,m,rfl,z⟩,G⟩;apply(Eh (v:=v) z.1).mono;rintro _ M _ ⟨rfl,H⟩;rw[bK];refine C _ _ ⟨?_,(p.trans G).trans H⟩;congr 2;by_cases e:0<=i/\i<n.sizes.length
 .obtain⟨x,J⟩:=aH (l:=s.vars) (i:=i.toNat) Ω;rw[Ex z e.1 J];unfold er;rw[if_pos e.1,J];have I:x.gone=0:=by
   rw[decide_eq_true e.1,U8]at a;unfold hy at a;rw[J]at a;simpa using a
  simp only;by_cases ad:v∈aC x
  .rw[decide_eq_true ad,if_pos ⟨I,ad⟩];rfl
  .rw[decide_eq_false ad,if_neg λh=>ad h.2];rfl
 .obtain⟨rfl,rfl⟩:=z.2.1 e;have q:er s i v=ν:=by
   unfold er;by_cases E:0<=i
   .rw[if_pos E,Z2 Ω]
   .rw[if_neg E]
  rw[q,decide_eq_false Ω];rfl
def Q8(s:ap)(j pos v:Int)(u e:Int):Prop:=(e=0/\∃f x,et s j pos v=σ (f,u,x))\/(e=1/\et s j pos v=ν)
def Fi{j:Int}(h:bx w af gT A R n s t):am x7 Ik [Γ af,Δ j,Δ pos,Δ v] w λr w'=>Ext w w'/\∃u e,r= .tuple #[Δ u,Δ e]/\Q8 s j pos v u e:=by
 apply az func139;rw[di dd.u];simp only[Z5,a8];have key:∀(K:x1->x3->Prop),(∀r w',Ext w w'->(∀f,0<=j->s.funs[j.toNat]?=σ f->aI .i64 w' r f.sc)->K r w')->am x7 qA [Γ af,Δ j] w K:=λK S=>by
  by_cases U:0<=j/\j<s.funs.length
  .obtain⟨f,ae⟩:=aH (l:=s.funs) (i:=j.toNat) Ω;have:=kZ h ae;rw[show((j.toNat:Nat):Int)=j by omega]at this;apply this.mono;rintro r V _ ⟨B,g,_,hm⟩;exact S r V B λG _ W=>by rw[ae]at W;cases W;exact hm.ls
  .refine (Er h U).mono ?_;rintro r V _ ⟨rfl,B⟩;exact S _ V B λf C ae=>absurd ⟨C,by have:=(x4.1 ae).1;omega⟩ U
 refine key _ λr V B X=>?_;have J:∀{P:Prop},(¬∃f u,0<=j/\0<=pos/\s.funs[j.toNat]?=σ f/\f.live≠0/\f.sc[pos.toNat]?=σ u)->(et s j pos v=ν->P)->P:=λp aj=>aj (by
  cases H:et s j pos v with
  |none=>rfl
  |some q=>
   have⟨f,u,x⟩:=q;have⟨L,M,a3,a4,a5,_⟩:=ny H;exact absurd ⟨f,u,L,M,a3,a4,a5⟩ p)
 refine aV (λY aa=>Ext V aa/\((Y= .bool true/\et s j pos v=ν)\/(Y= .bool false/\∃f u,0<=j/\0<=pos/\s.funs[j.toNat]?=σ f/\f.live≠0/\f.sc[pos.toNat]?=σ u))) ?_ ?_
 .rintro _ aa ⟨N,⟨rfl,p⟩|⟨rfl,f,u,C,Z,ae,ak,hu⟩⟩
  .rw[bV];exact⟨B.trans N,0,1,T,.inr ⟨T,p⟩⟩
  .rw[a8];intro ao z _ _;have ab:=(X f C ae).ext (N.trans z);refine px (y:=pos) (i:=pos.toNat) Ω an.u ah.i ab hu λb o ap=>?_;rw[ax (v:=Δ u) Ψ ap,fP (y:=pos) (i:=pos.toNat) Ω an.u ah.i Ψ ab hu];have ac:=(B.trans N).trans z;apply(ym (i:=u) (v:=v) (h.ext ac)).mono;rintro _ au _ ⟨ag,rfl⟩;refine⟨.inl ag,ac.trans ag,u,_,T,?_⟩;have H:et s j pos v=(er s u v).map λx=>(f,u,x):=by
    unfold et;rw[if_pos ⟨C,Z⟩,ae];simp only;rw[if_pos ak,hu]
   cases ad:er s u v with
   |none=>exact .inr ⟨T,by rw[H,ad];rfl⟩
   |some x=>exact .inl ⟨T,f,x,by rw[H,ad];rfl⟩
 intro aA I;apply(rK (j:=j) (h.ext B)).mono;rintro _ ao _ ⟨rfl,z⟩;have same:∀{f G:bU},s.funs[j.toNat]?=σ f->s.funs[j.toNat]?=σ G->G=f:=λa b=>by rw[a]at b;exact(b9 b).symm
 rw[bK,ca];refine⟨λO=>J (λ⟨f,u,L,M,a3,a4,a5⟩=>?_) λp=>I _ _ ⟨z,.inl ⟨T,p⟩⟩,λQ=>?_⟩
 .unfold ff at O;rw[a3]at O;simp[L,a4]at O
 have Q:0<=j/\ff s j.toNat=true:=by simpa using Q
 have⟨C,E⟩:=Q;obtain⟨f,ae,aq⟩:∃f,s.funs[j.toNat]?=σ f/\f.live≠0:=by
  unfold ff at E;cases ae:s.funs[j.toNat]? with
  |none=>rw[ae]at E;cases E
  |some f=>rw[ae]at E;exact⟨f,T,by simpa using E⟩
 rw[aP,al];refine⟨λav=>J (λ⟨_,_,_,M,_⟩=>Ω) λp=>I _ _ ⟨z,.inl ⟨T,p⟩⟩,λZ=>?_⟩;rw[aW an.u ((X f C ae).ext z),cO];by_cases ai:(f.sc.length:Int)<=pos
 .refine J (λ⟨G,u,_,_,a3,_,a5⟩=>?_) λp=>I _ _ ⟨z,.inl ⟨by rw[decide_eq_true ai],p⟩⟩;obtain rfl:=same ae a3;have:=(x4.1 a5).1;omega
 .obtain⟨u,hu⟩:=aH (l:=f.sc) (i:=pos.toNat) Ω;exact I _ _ ⟨z,.inr ⟨by rw[decide_eq_false ai],f,u,C,Ω,ae,aq,hu⟩⟩
def uJ{most:Int}(h:bx w af gT A R n s t):am x7 Il [Γ af,Δ c,Δ most] w λr w'=>Ext w w'/\r=Δ (dv n.k c most):=by
 apply az func140;apply(ki h).mono;rintro _ V _ ⟨rfl,a⟩;apply j1.mono;rintro _ aa _ ⟨rfl,e⟩;have hi:cu c n.k↔0<=c/\c<=n.k:=⟨λh=>h.2,λp=>⟨h.2.2.2.1.eg,p⟩⟩;unfold dv;rw[bK,ca];refine⟨λf=>⟨a.trans e,?_⟩,λf=>?_⟩
 .have:¬cu c n.k:=by simpa using f
  rw[if_pos λh=>this (hi.2 h)]
 .have:cu c n.k:=by simpa using f
  rw[if_neg λh=>h (hi.1 this),bJ,al];exact⟨λh=>⟨a.trans e,by rw[if_pos h]⟩,λh=>⟨a.trans e,by rw[if_neg h]⟩⟩
def Q9{b:Int}(hk:right k)(f:0<=a/\a<=k)(p:0<=b/\b<=k)(x:a=k\/b<=a):am x7 Jd [Δ a,Δ b,Δ k] w λv w'=>v= .tuple #[Δ (dR k a b),Δ 0]/\Ext w w':=by
 have y:1<=k/\k<=2147483648:=hk;apply az func219;refine aV (λr V=>r= .bool false/\Ext w V) ?_ ?_
 .rintro _ V ⟨rfl,e⟩;unfold dR;rw[a8,be,al];refine⟨λh=>⟨by rw[if_pos h],e⟩,λh=>?_⟩;rw[if_neg h,bJ,al];refine⟨λz=>Ω,λ_=>?_⟩;rw[dN,wrap_i64 Ω Ω];exact⟨T,e⟩
 intro aA q;apply j1.mono;rintro _ V _ ⟨rfl,e⟩;rw[decide_eq_true (show cu a k from⟨hk,f⟩),bK,Y7,a8];apply j1.mono;rintro _ aa _ ⟨rfl,s⟩;rw[decide_eq_true (show cu b k from⟨hk,p⟩),bK,Y7];exact q _ _ ⟨T,e.trans s⟩
def uK(h:bx w af gT A R n s t)(e:0<=a/\a<=n.k)(f:0<=c/\c<=n.k)(p:a=n.k\/c<=a):am x7 nU [Γ af,Δ a,Δ c] w λr w'=>r=Δ (dR n.k a c)/\Ext w w':=by
 apply az func142;apply(ki h).mono;rintro _ V _ ⟨rfl,q⟩;apply(Q9 h.2.2.2.1.eg e f p).mono;rintro _ aa _ ⟨rfl,x⟩;rw[bo,bp];exact⟨T,q.trans x⟩
def rX(h:bx w af gT A R n s t)(e:0<=a/\a<=n.k)(f:0<=c/\c<=n.k):am x7 nV [Γ af,Δ a,Δ c] w λr w'=>r=Δ (dC n.k a c)/\Ext w w':=by
 apply az func143;apply(ki h).mono;rintro _ V _ ⟨rfl,p⟩;apply(Em e f h.2.2.2.1.eg).mono;rintro _ aa _ ⟨rfl,q⟩;rw[bo,bp];exact⟨T,p.trans q⟩
end
def Ra{g n c:Nat}{cs:List x1}(a:ag w g cJ cs)(h:∀w',ai (λr=>r=g) w w'->(∀o vs,w.rangeAt g o vs->w'.rangeAt g o vs)->K (.slice (σ ⟨g,0,ν⟩) n c) w'):
  aE x7 (convert cN cN (.slice (σ ⟨g,0,ν⟩) n c)) w K:=by
 have f:∀r,(w.freeze ⟨g,cs.length,ν⟩ 1).heap[r]?=if g=r then(w.heap[r]?).map (λ| .cells c p (lo,hi)=>.cells c p (if lo == hi then(cs.length,cs.length+1)else(min lo cs.length,max hi (cs.length+1)))|o=>o)else w.heap[r]?:=λr=>by
  unfold x3.freeze;rw[if_neg Φ];exact Array.getElem?_modify
 have z:(w.freeze ⟨g,cs.length,ν⟩ 1).heap.size=w.heap.size:=by
  unfold x3.freeze;rw[if_neg Φ];exact Array.size_modify
 have q:w.shape? g=σ (cJ,cs.length):=by
  unfold x3.shape?;unfold ag at a;rw[a];simp
 have s:(convert cN cN (.slice (σ ⟨g,0,ν⟩) n c)).run x7 w= .ok (.slice (σ ⟨g,0,ν⟩) n c) (w.freeze ⟨g,cs.length,ν⟩ 1):=by
  simp[convert,run_underlying cN.u,run_underlying cJ.u,markStringish,q]
 unfold ag at a;refine .of s ⟨by unfold x3.freeze;rw[if_neg Φ],.kv (by unfold x3.freeze;rw[if_neg Φ]) (by unfold x3.freeze;rw[if_neg Φ]),by unfold x3.freeze;rw[if_neg Φ],Ω,λr o e U=>?_⟩ (h _ ⟨Ω,λr o e _ x=>?_⟩ λo vs ad j v y=>?_)
 .rw[f];by_cases he:g=r
  .subst he;rw[a]at e;cases e;cases U
  .rw[if_neg he];exact e
 .rw[f,if_neg λhe=>x he.symm];exact e
 .have h1:=ad j v y;unfold x3.cell? at h1 ⊢;rw[f,if_pos T];rw[a]at h1 ⊢;exact h1
def yn(s0 s:ap):Prop:=s.zero=s0.zero/\s.funs=s0.funs/\s.vars.length=s0.vars.length/\∀(i:Nat)x,s.vars[i]?=σ x->∃a,s0.vars[i]?=σ a/\x.un=a.un/\x.gone=0/\a.gone=0/\a.mask=0
def yn.new(n:aG):yn (dh n) (dh n):=⟨T,T,T,λi x J=>by
 refine⟨x,J,T,?_⟩;have J:(n.unary.map newVar)[i]?=σ x:=J;rw[x8]at J;obtain⟨u,_,rfl⟩:=X1.1 J;exact⟨T,T,T⟩⟩
def Rb(n:aG):du (dh n):=λf _ _ v _ x J=>by
 have⟨_,_,_,h,_⟩:=(yn.new n).2.2.2 _ x J;exact h
def Rc{ao:Nat}{E:x1}{cs:List x1}{f:b3}(G:uI B aa E cs f)(J:Ext aa w)(H:ag w ao aX cs)(O:aa.heap.size<=ao):
  ∃af gT A R A9 aJ t,E=Γ af/\cm w af gT ao A R A9 aJ (cS f) (dh (cS f)) (dh (cS f)) t [] cs/\t.marks=[]/\(∀r,A r->B<=r)/\(∀q r,A9 q r->B<=r)/\t.cells.length<=2000000/\t.olds.length=0/\(cS f).funs.length<=256/\t.iB=0/\(∀r,aJ r->B<=r)/\∀r,R r->B<=r:=by
 obtain⟨af,gT,A,R,t,N,A9,aJ,x,rfl,y,e,I,K,C,p,L⟩:=G;have F:=yd y;have:=J.size;have s:=(ui (CT x).1 (xK x) (cS f).unary.length (cS f).funs.length);rw[xn,<-y.2.1]at s;unfold aD.bY at s;rw[r8]at s;refine⟨af,gT,A,R,λq r=>A9 q r/\r<aa.heap.size,aJ,t,T,⟨y.ext J,e.2.2.1,H,K.old.ext J,λq r h=>⟨(C q r h.1).1,(C q r h.1).2.1,by have:=h.2;omega⟩,λr a=>⟨λh=>(p r a).1 (nn (λo M U _=>J.a6 r o M U) h),by have:=(p r a).2;omega,by have:=(p r a).2;omega⟩,λh=>by have:=F ao (.inl h);omega,λh=>by have:=F ao (.inr h);omega⟩,e.1,I,λq r h=>(C q r h.1).2.2,s,by rw[e.2.1];rfl,xK x,e.2.2.2,λr a=>(p r a).2.2,L⟩
section
variable{w w':x3}{af gT ao dm:Nat}{A R O M aJ:ak}{A9:Nat->ak}{k:Int}{sizes:Λ}{U:List ap}{n:aG}{s u:ap}{t:aD}{h:List aD}{cs:List x1}
structure TI(w:x3)(ao:Nat)(A R:ak)(A9:Nat->ak)(aJ O M:ak):Prop where
 o:∀r,O r->r<w.heap.size/\¬A r/\¬R r/\(∀q,¬A9 q r)/\¬aJ r/\r≠ao/\¬M r
 m:∀r,M r->r<w.heap.size/\¬A r/\(∀q,¬A9 q r)/\¬aJ r/\r≠ao
def cm.side{S:ak}(p:cm w af gT ao A R A9 aJ n s u t h cs)(f:ai S w w')(e:∀r,r<w.heap.size->S r->¬A r/\¬R r/\(∀q,¬A9 q r)/\¬aJ r/\r≠ao):cm w' af gT ao A R A9 aJ n s u t h cs:=by
 have:=f.size;exact⟨⟨p.fe.1.ab f λr a h U=>h.elim (e r a U).1 (e r a U).2.1,p.fe.2⟩,p.ij,p.box.ab f λU=>(e ao p.box.lt U).2.2.2.2 T,p.doc.ab f λr a h U=>h.elim (λ⟨q,h⟩=>(e r a U).2.2.1 q h) (e r a U).2.2.2.1,p.apart,
  λr a=>⟨λh=>(p.read r a).1 (nn (λo x U _=>f.a6 r o x U λy=>(e r (p.read r a).2.1 y).2.2.2.1 a) h),by have:=(p.read r a).2.1;omega,(p.read r a).2.2⟩,p.out⟩
def cm.Fj(p:cm w af gT ao A R A9 aJ n s u t h cs):∀q r,A9 q r->¬aJ r:=by
 have⟨_,_,_,_,_,_,_,_,_,_,_,_,_,a⟩:=p.doc;exact(a T).2
end
def Fk{w0:x3}{out:x1}{g:Nat}{x:Int}(e:Ext w0 w)(hm:av .i64 ah w g out l)(f:∀r,leads out r->w0.heap.size<=r)(G:l.length<=1000000000)(q:∀v w' s,Ext w0 w'->av .i64 ah w' s v (l++[x])->(∀r,leads v r->w0.heap.size<=r)->K v w'):
  aE x7 (Y5 an 1 #[(0,Δ x)]) w λy V=>aE x7 (Z0 #[an,an] an #[out,y]) V K:=by
 refine eD (k:=.i64) an.u ah.i T λv4 H I J a A=>?_;refine hY an.u ah.i T (hm.ext a) A.ls Θ Θ λv5 B L C E F=>?_;have:=(e.trans a).size;exact q _ _ B ((e.trans a).then F λr p he=>by have:=f r he;omega) C λr p=>(E r p).elim (f r) λh=>Ω
def qg(x:bC):(aC x).length<=x.un.length:=by
 unfold aC;have:=R5 (λv:Int=>!dropped x.mask v) ((Y1 x.un.length).map λv:Nat=>(v:Int));rw[r8,List.length_range]at this;exact this
section
variable{w:x3}{af gT:Nat}{A R:ak}{n:aG}{s:ap}{t:aD}
end
def lR(s:ap)(sc t:Λ):Bool:=(sc.zip t).all λp=>match s.vars[p.1.toNat]? with
 |some x=>decide (p.2∈aC x)
 |none=>false
section
variable{w:x3}{af gT:Nat}{A R:ak}{n:aG}{s:ap}{t:aD}
end
def Re{t:p9}{cx cy:Bool}{a b:Bool}{K:x1->Prop}(e:x7.underlying t=σ .bool):ac x7 (aO .neq t cx cy (.bool a) (.bool b)) w K=K (.bool !(a == b)):=
 Ar (λ_=>rfl) T λw' _=>run_equalIn_bool' (P:=x7) (w:=w') 9999 t a b e
def yo{b:Bool}{szv a7:x1}{a e f:Λ}(h1:Seen eM w [aK] a)(h:Seen eM w [szv] e)(p:Seen eM w [a7] f):∀u∈[aK,szv,a7,.bool b],u.oneCell'=true:=by
 intro u hu;simp only[V2,List.not_mem_nil,or_false]at hu;rcases hu with rfl|rfl|rfl|rfl
 .exact gS h1
 .exact gS h
 .exact gS p
 .rfl
section
variable{w:x3}{af gT:Nat}{A R:ak}{n:aG}{s:ap}{t:aD}{dj:x1}
end
def mF(aj t:Λ):Int:=(cq aj t 0).getD 0
def jn(s:ap)(f:bU)(pos:Nat)(v:Int):Λ:=(bP s f.sc pos v).map (mF f.aj)
def k3(s:ap)(sc:Λ)(pos:Nat)(v:Int)(t:Λ):Bool:=decide (t.getD pos 0=v)&&lR s sc t
section
variable{k:Int}{sizes:Λ}{s:ap}{f:bU}{pos:Nat}{v:Int}
def Rf:lR s sc t=true↔ ∀(p:Nat)u w,sc[p]?=σ u->t[p]?=σ w->w∈bg s u:=by
 unfold lR;rw[List.all_eq_true];constructor
 .intro h p u w hu hw;have:=h (u,w) (x5 (List.getElem?_zip_eq_some.2 ⟨hu,hw⟩));unfold bg;cases J:s.vars[u.toNat]? with
  |none=>simp[J]at this
  |some x=>simpa[J]using this
 .rintro h ⟨u,w⟩ hm;have⟨p,a⟩:=X3.1 hm;have⟨h1,e⟩:=List.getElem?_zip_eq_some.1 a;have:=h p u w h1 e;unfold bg at this;simp only;cases J:s.vars[u.toNat]? with
  |none=>rw[J]at this;cases this
  |some x=>rw[J]at this;simpa using this
def Rg(r:bi k sizes s)(ae:f∈s.funs)(B:pos<f.sc.length)(ad:∀u,f.sc[pos]?=σ u->v∈bg s u):bP s f.sc pos v=(bm f.aj).filter (k3 s f.sc pos v):=by
 have⟨x,y,_⟩:=r.funs f ae;have q:=xW r (λu hu=>⟨(x.scope.1 u hu).1,x.vars u hu⟩) ad;rw[<-y]at q;have h1:∀t∈bm f.aj,(ns (oN s pos v f.sc 0) t=true↔t∈bP s f.sc pos v):=λt a=>by rw[q,T4];exact⟨λh=>⟨a,h⟩,λh=>h.2⟩
 rw[q];refine List.filter_congr λt a=>?_;have C:t.length=f.sc.length:=by rw[sY a,y];simp[bX]
 rw[U1,h1 t a,x2,k3,V5,decide_eq_true_eq,Rf];constructor
 .rintro⟨_,h⟩;have⟨u,hu⟩:=aH (l:=f.sc) B;have⟨w,hw⟩:=aH (l:=t) (i:=pos) Ω;have z:=h pos u w hu hw;rw[if_pos T]at z;refine⟨by rw[u4,hw];exact z,λp u' w' A E=>?_⟩;have:=h p u' w' A E;split at this
  .rename_i e;subst e;rw[this];exact ad u' A
  .exact this
 .rintro⟨h1,F⟩;refine⟨C,λp u w hu hw=>?_⟩;split
  .rename_i e;subst e;rw[u4,hw]at h1;exact h1
  .exact F p u w hu hw
end
section
variable{w:x3}{dj:x1}{k:Int}{sizes:Λ}{s:ap}
def Rh{j:Int}(h:gu w dj k sizes s)(Z:bi k sizes s)(ak:du s):am x7 I9 [dj,Δ j,Δ pos,Δ v] w λr w'=>Ext w w'/\∃u,r= .tuple #[Δ u,.bool (et s j pos v).isSome]:=by
 have:=Z.vars;apply az func214;refine bd λg1 V aI G ao=>?_;have ab:=h.box G ao;have⟨szv,aJ,aK,aM,aN,aO,H,aQ,_,ap,aR,aS,ac,aT⟩:=id ab;refine aV (λr aa=>Ext V aa/\((r= .bool true/\et s j pos v=ν)\/(r= .bool false/\∃f u,0<=j/\0<=pos/\s.funs[j.toNat]?=σ f/\f.live≠0/\f.sc[pos.toNat]?=σ u))) ?_ λaA C=>?_
 .rintro _ aa ⟨z,⟨rfl,e⟩|⟨rfl,f,u,I,ad,ae,af,hu⟩⟩
  .rw[bV,e];exact⟨G.trans z,0,T⟩
  .rw[a8];have ag:=x5 ae;have K:=x5 hu;have⟨ai,aY,_⟩:=Z.funs f ag;have L:=(ai.scope.1 u K).1;have:=ai.vars u K;have L:0<=u:=L;have⟨x,J⟩:=aH (l:=s.vars) (i:=u.toNat) Ω;rw[aL aX.p 6 (H.ext z) T];refine kF (i:=j.toNat) Ω eC.u c4.i (bA ac z) (by rw[x8,ae];rfl) λb o cs M N=>?_;obtain⟨O,aq,v3,rfl,h1,au,av⟩:=lP N;rw[aU c4.p T,aU aZ.p T,ax (v:=O) Ψ (M 0 _ T),fP (y:=pos) (i:=pos.toNat) Ω an.u ah.i Ψ (de h1) hu,aL aX.p 3 (H.ext z) T];refine gj (α:=Λ) (a:=aC x) (i:=u.toNat) T Ω cU.u an.i Ψ (bA ap z) (by rw[x8,J];rfl) λa2 aw=>?_;apply(xJ (de aw)).mono;rintro _ a6 _ ⟨rfl,ay⟩;refine⟨(G.trans z).trans ay,u,?_⟩;have aB:=ak f ag af u K x J;have Q:et s j pos v=(er s u v).map λx=>(f,u,x):=by
    unfold et;rw[if_pos ⟨I,ad⟩,ae];simp only;rw[if_pos af,hu]
   have aD:er s u v=if v∈aC x then σ x else ν:=by
    unfold er;rw[if_pos L,J];simp only[aB,true_and]
   rw[Q,aD];by_cases E:v∈aC x
   .rw[if_pos E,decide_eq_true E];rfl
   .rw[if_neg E,decide_eq_false E];rfl
 have R:∀{P:Prop},(¬∃f u,0<=j/\0<=pos/\s.funs[j.toNat]?=σ f/\f.live≠0/\f.sc[pos.toNat]?=σ u)->(et s j pos v=ν->P)->P:=λe aE=>aE (by
  cases Q:et s j pos v with
  |none=>rfl
  |some q=>
   have⟨f,u,x⟩:=q;have⟨S,U,a3,a4,a5,_⟩:=ny Q;exact absurd ⟨f,u,S,U,a3,a4,a5⟩ e)
 refine ab.load λu hu=>?_;apply(QN (j:=j) hu).mono;rintro _ a7 _ ⟨rfl,A⟩;have same:∀{f W:bU},s.funs[j.toNat]?=σ f->s.funs[j.toNat]?=σ W->W=f:=λa b=>by rw[a]at b;exact(b9 b).symm
 rw[bK,ca];refine⟨λX=>R (λ⟨f,u,S,U,a3,a4,a5⟩=>?_) λe=>C _ _ ⟨A,.inl ⟨T,e⟩⟩,λY=>?_⟩
 .unfold ff at X;rw[a3]at X;simp[S,a4]at X
 have Y:0<=j/\ff s j.toNat=true:=by simpa using Y
 have⟨I,B⟩:=Y;obtain⟨f,ae,aF⟩:∃f,s.funs[j.toNat]?=σ f/\f.live≠0:=by
  unfold ff at B;cases ae:s.funs[j.toNat]? with
  |none=>rw[ae]at B;cases B
  |some f=>rw[ae]at B;exact⟨f,T,by simpa using B⟩
 rw[aP,al];refine⟨λba=>R (λ⟨_,_,_,U,_⟩=>Ω) λe=>C _ _ ⟨A,.inl ⟨T,e⟩⟩,λad=>?_⟩;rw[aL aX.p 6 (H.ext A) T];refine kF (i:=j.toNat) Ω eC.u c4.i (bA ac A) (by rw[x8,ae];rfl) λb o cs M N=>?_;obtain⟨O,aq,v3,rfl,h1,au,av⟩:=lP N;rw[aU c4.p T,aU aZ.p T,ax (v:=O) Ψ (M 0 _ T),aW an.u (de h1),cO];by_cases aj:(f.sc.length:Int)<=pos
 .refine R (λ⟨W,u,_,_,a3,_,a5⟩=>?_) λe=>C _ _ ⟨A,.inl ⟨by rw[decide_eq_true aj],e⟩⟩;obtain rfl:=same ae a3;have:=(x4.1 a5).1;omega
 .obtain⟨u,hu⟩:=aH (l:=f.sc) (i:=pos.toNat) Ω;exact C _ _ ⟨A,.inr ⟨by rw[decide_eq_false aj],f,u,I,Ω,ae,aF,hu⟩⟩
def yp{pos:Nat}{f:bU}(h:gu w dj k sizes s)(M:bi k sizes s)(ae:s.funs[j]?=σ f)(aK:pos<f.sc.length)(ad:∀u,f.sc[pos]?=σ u->v∈bg s u):
  am x7 HK [dj,Δ (j:Int),Δ (pos:Int),Δ v] w λr w'=>Ext w w'/\aI .i64 w' r (jn s f pos v)/\∀q,leads r q->w.heap.size<=q:=by
 have bD:=M.vars;have U:=x5 ae;have⟨N,ai,_⟩:=M.funs f U;have O:=(ko M U).1;have aO:f.aj.length=f.sc.length:=by rw[ai];simp[bX]
 have bE:=iz O;have bF:(bm f.aj).length<=4096:=by
  have P:aQ (bX sizes f.sc)<=4096:=N.small;rw[<-ai]at P;omega
 apply az func84;refine bd λg1 V bG W aP=>?_;have⟨szv,bH,bI,bJ,bK,bL,ak,bM,_,aR,bN,bO,aS,bP⟩:=h.box W aP;rw[aL aX.p 6 ak T];refine kF (i:=j) T eC.u c4.i aS (by rw[x8,ae];rfl) λb o cs G aT=>?_;obtain⟨X,Y,v3,rfl,h1,P,aY⟩:=lP aT;rw[aU c4.p T,bR (cs:=[X,Y,v3]) aZ.p aZ.i T (λq u z=>by
  have:q<3:=(x4.1 z).1
  match q,this,z with
  |0,_,z=>cases z;exact G 0 _ T
  |1,_,z=>cases z;exact G 1 _ T
  |2,_,z=>cases z;exact G 2 _ T)]
 refine bu aZ.i λbQ aa bS a1 a2=>?_;have a6:∀u∈[X,Y,v3],u.oneCell'=true:=λu hu=>by
  simp only[V2,List.not_mem_nil,or_false]at hu;rcases hu with rfl|rfl|rfl
  .exact gS h1
  .exact gS P
  .exact gS aY
 refine cd (vs:=[X,Y,v3]) aZ.i T rfl a6 a2 λa7 a8 bV al=>?_;have ao:Ext V a7:=a1.put a8 Ω;have s1:=de h1;have ba:=de P;rw[aL aZ.p 1 al T];refine(tc f.aj (ba.ext ao) ⟨by rw[aO];exact N.scope.2,O⟩).mono ?_;rintro bW H _ ⟨ap,aq⟩;have Z:=ao.trans ap;rw[hL cU.u aq];refine bT.range (bm f.aj).length (λi out E=>Ext H E/\(∃g,av .i64 ah E g out ((((bm f.aj).take i).filter (k3 s f.sc pos v)).map (mF f.aj)))/\∀r,leads out r->H.heap.size<=r) Ω ⟨Ext.refl _,⟨0,av.nil _ _ _ _⟩,λr G=>by have⟨_,_,_,e,_⟩:=G;cases e⟩ ?_ ?_
 .rintro q out E bb z ⟨A,⟨g,hm⟩,Q⟩ bf;have I:(bm f.aj)[q]?=σ (cR f.aj (q:Int)):=qT O Ω;generalize cR f.aj (q:Int)=tl at I;have bY:=vW I;have bh:=jG O I;have bj:mF f.aj tl=(q:Int):=by unfold mF;rw[bh];rfl
  have R:=Z.trans A;have au:((bm f.aj).take (q+1)).filter (k3 s f.sc pos v)=((bm f.aj).take q).filter (k3 s f.sc pos v)++(if k3 s f.sc pos v tl=true then[tl]else[]):=by
   rw[u9,I,n9,List.filter_append];congr 1;cases aB:k3 s f.sc pos v tl<;>simp[aB]
  have⟨ab,aw⟩:=aH (l:=tl) (i:=pos) Ω;apply bz Ω;refine aV (λax ay=>Ext H ay/\(∃g,av .i64 ah ay g ax ((((bm f.aj).take (q+1)).filter (k3 s f.sc pos v)).map (mF f.aj)))/\∀r,leads ax r->H.heap.size<=r) (λ_ _ ac=>by rw[aN];exact bf _ _ ac) λaA K=>?_;refine gj (α:=Λ) T rfl cU.u an.i Ψ (bA aq A) I λaM S=>?_;have S:=de S;rw[bc an.u ah.i Ψ S aw,be,aL aZ.p 0 (al.ext (ap.trans A)) T,aW an.u (s1.ext R)];refine bT.range f.sc.length (λp ok af=>Ext E af/\ok= .bool (decide (ab=v)&&lR s (f.sc.take p) (tl.take p))) s1.le ⟨Ext.refl _,by simp[lR]⟩ ?_ ?_
  .rintro p _ af bk bl ⟨B,rfl⟩ bn;have⟨u,ag⟩:=aH (l:=f.sc) bl;have⟨y,aD⟩:=aH (l:=tl) (i:=p) Ω;have aE:=x5 ag;have aF:=(N.scope.1 u aE).1;have aG:=N.vars u aE;have aG:u<sizes.length:=aG;have aF:0<=u:=aF;have⟨x,J⟩:=aH (l:=s.vars) (i:=u.toNat) Ω;have aJ:lR s (f.sc.take (p+1)) (tl.take (p+1))=(lR s (f.sc.take p) (tl.take p)&&decide (y∈aC x)):=by
    unfold lR;rw[u9,u9,ag,aD,n9,n9,List.zip_append Θ,List.all_append];simp[J]
   apply bz Ω;refine aV (λok bo=>Ext E bo/\ok= .bool (decide (ab=v)&&lR s (f.sc.take (p+1)) (tl.take (p+1)))) (λ_ _ ac=>by rw[aN];exact bn _ _ ac) λaA K=>?_;rw[bc an.u ah.i Ψ (s1.ext (R.trans B)) ag];intro bZ bp _ _;have L:=B.trans bp;rw[ca];refine⟨λC=>?_,λC=>K _ _ ⟨L,by rw[aJ,<-Bool.and_assoc,C];rfl⟩⟩;rw[aL aX.p 3 (ak.ext (R.trans L)) T];refine gj (α:=Λ) (a:=aC x) (i:=u.toNat) T Ω cU.u an.i Ψ (bA aR (R.trans L)) (by rw[x8,J];rfl) λb0 bq=>?_;rw[bc an.u ah.i Ψ (S.ext L) aD];apply(xJ (de bq)).mono;rintro _ b1 _ ⟨rfl,br⟩;exact K _ _ ⟨L.trans br,by rw[aJ,<-Bool.and_assoc,C,U8]⟩
  .rintro _ af bk ⟨B,rfl⟩;rw[o6,b8 Ω];apply b4 Ω;have bt:(decide (ab=v)&&lR s f.sc tl)=k3 s f.sc pos v tl:=by unfold k3;rw[u4,aw];rfl
   rw[bt,ca];refine⟨λC=>?_,λC=>K _ _ ⟨A.trans B,⟨g,by rw[au,if_neg (by rw[C];decide),W6];exact hm.ext B⟩,Q⟩⟩;refine Fk (w0:=H) (A.trans B) (hm.ext B) Q ?_ λb2 w' bw bx bB bC=>K _ _ ⟨bx,⟨bw,?_⟩,bC⟩
   .rw[r8];have h1:=R5 (k3 s f.sc pos v) ((bm f.aj).take q);rw[l9]at h1;omega
   .rw[au,if_pos C,Z4,List.map_singleton,bj];exact bB
 .rintro out E bb ⟨A,⟨g,hm⟩,Q⟩;rw[o6,<-Rg M U aK ad]at hm;apply b4 Ω;exact⟨(W.trans Z).trans A,hm.ls,λq z=>by have:=Q q z;have:=(W.trans Z).size;omega⟩
def Ri{j:Int}(h:gu w dj k sizes s)(e:bi k sizes s)(O:du s):
  am x7 If [dj,Δ j,Δ pos,Δ v] w λr w'=>Ext w w'/\r=(match et s j pos v with|some (f,_,_)=>.tuple #[Δ (mE k s f pos.toNat v),.bool true]|none=>.tuple #[Δ 0,.bool false]):=by
 apply az func134;refine bd λg1 V aA y P=>?_;have G:=h.box y P;refine G.load λu hu=>?_;apply(Rh hu e O).mono;rintro _ aa _ ⟨z,eY,rfl⟩;rw[bo,bp,bK];cases Q:et s j pos v with
 |none=>
  rw[R3,W3,bV];exact⟨y.trans z,T⟩
 |some q=>
 have⟨f,u',x⟩:=q;rw[T6,Y7,a8];have⟨R,S,ae,aB,A,U⟩:=ny Q;have⟨aC,W,aD,X⟩:=k2 U;obtain⟨j,rfl⟩:=X7 R;obtain⟨pos,rfl⟩:=X7 S;rw[u7]at ae A;have H:=x5 ae;have Y:=(x4.1 A).1;have ad:∀u,f.sc[pos]?=σ u->v∈bg s u:=λu hu=>by
  rw[A]at hu;cases hu;unfold bg;rw[W];exact X
 have I:=G.ext z;have⟨szv,aE,aF,aG,aI,aJ,J,aK,_,aO,aP,aQ,Z,aR⟩:=id I;rw[aL aX.p 0 J T];refine I.load λaS ab=>?_;apply(yp ab e ae Y ad).mono;rintro aM ac _ ⟨K,B,_⟩;rw[aW an.u B];have L:(jn s f pos v).length=(bP s f.sc pos v).length:=by unfold jn;rw[r8]
 rw[L];refine bT.range (bP s f.sc pos v).length (λi af C=>Ext ac C/\af=Δ ((((bP s f.sc pos v).take i).map (bl f.aj f.cs)).foldl min k)) (by rw[<-L];exact B.le) ⟨Ext.refl _,T⟩ ?_ ?_
 .rintro i _ C ag hi ⟨a,rfl⟩ ai;have⟨tl,E⟩:=aH (l:=bP s f.sc pos v) hi;have⟨m,hm⟩:=oS e H ad (x5 E);have ak:(jn s f pos v)[i]?=σ (m:Int):=by
   unfold jn;rw[x8,E];unfold mF;rw[Z6,hm];rfl
  have⟨al,aT⟩:=ko e H;have:=(x4.1 (kK al hm)).1;have⟨c,M⟩:=aH (l:=f.cs) (i:=m) Ω;have ao:bl f.aj f.cs tl=c:=by
   unfold bl;rw[hm];simp[u4,M]
  have N:=K.trans a;apply bz Ω;rw[bc an.u ah.i Ψ (B.ext a) ak,aL aX.p 6 (J.ext N) T];refine kF (i:=j) T eC.u c4.i (bA Z N) (by rw[x8,ae];rfl) λb o cs ap au=>?_;obtain⟨aY,a1,v3,rfl,h1,a2,av⟩:=lP au;rw[aU c4.p T,aU aZ.p T,ax (v:=v3) Ψ (ap 2 _ T),bc ay.u aq.i Ψ (de av) M];apply D3.mono;rintro _ a6 _ ⟨rfl,aw⟩;rw[aN];refine ai _ _ ⟨a.trans aw,?_⟩;rw[u9,E,n9,Z4,S6,List.map_singleton,ao];rfl
 .rintro _ C ag ⟨a,rfl⟩;rw[o6];apply b4 Ω;exact⟨(y.trans z).trans (K.trans a),T⟩
def uL{b k:Int}(h1:0<=a/\a<=4294967296)(f:0<=b/\b<=4294967296):am x7 Ih [Δ a,Δ b,Δ k] w λr w'=>r=Δ (dR k a b)/\Ext w w':=by
 apply az func136;refine(show am x7 Jc [Δ a,Δ b,Δ k] w λr w'=>(∃q,r= .tuple #[Δ (dR k a b),q])/\Ext w w' from ?_).mono ?_
 .refine az func217 ?_;unfold dR;rw[be,al];refine⟨λh=>⟨⟨_,by rw[if_pos h]⟩,Ext.refl _⟩,λh=>?_⟩;rw[dN,wrap_i64 Ω Ω,mV,if_neg h];exact⟨⟨_,T⟩,Ext.refl _⟩
 .rintro _ V _ ⟨⟨q,rfl⟩,e⟩;rw[bo,bp];exact⟨T,e⟩
end
def dx(w:x3)(af gT ao:Nat)(A R:ak)(A9:Nat->ak)(aJ:ak)(n:aG)(s:ap)(t:aD)(h:List aD)(u:ap)(w':x3):Prop:=ai (λr=>(∃q,A9 q r)\/r=ao) w w'/\∃cr cs,cm w' af gT ao A R cr aJ n s u t h cs/\∀q r,cr q r->(∃a,A9 a r)\/w.heap.size<=r
section
variable{w w' V aa:x3}{af gT ao:Nat}{A R:ak}{A9:Nat->ak}{aJ:ak}{n:aG}{s u eX eY:ap}{t:aD}{h:List aD}{cs:List x1}
def dx.same(p:cm w af gT ao A R A9 aJ n s u t h cs)(J:Ext w w'):dx w af gT ao A R A9 aJ n s t h u w':=⟨J.ab _,A9,cs,p.ext J,λq r h=>.inl ⟨q,h⟩⟩
def dx.comp{cr:Nat->ak}(e:ai (λr=>(∃q,A9 q r)\/r=ao) w V)(f:∀q r,cr q r->(∃a,A9 a r)\/w.heap.size<=r)(d:dx V af gT ao A R cr aJ n s t h eY aa):dx w af gT ao A R A9 aJ n s t h eY aa:=by
 have⟨x,y,ce,B,C⟩:=d;have:=e.size;refine⟨?_,y,ce,B,λq r p=>(C q r p).elim (λ⟨a,h⟩=>f a r h) λh=>.inr Ω⟩;refine((e.mono λr _ h=>.inl h).trans (x.mono λr _ h=>?_):ai (λr=>((∃q,A9 q r)\/r=ao)\/w.heap.size<=r) w aa).mono λr p h=>h.elim id λh=>Ω
 rcases h with⟨q,h⟩|h
 .exact (f q r h).imp .inl id
 .exact .inl (.inr h)
def jO(w:x3)(af gT ao:Nat)(A R:ak)(A9:Nat->ak)(aJ:ak)(n:aG)(s:ap)(t:aD)(h:List aD)(u:ap)(w':x3):Prop:=ai (A9 2) w w'/\∃cr cs,cm w' af gT ao A R cr aJ n s u t h cs/\(∀q r,cr q r->(∃a,A9 a r)\/w.heap.size<=r)/\∀r,cr 2 r->A9 2 r\/w.heap.size<=r
def jO.Fl(d:jO w af gT ao A R A9 aJ n s t h u w'):dx w af gT ao A R A9 aJ n s t h u w':=by
 have⟨h1,cr,cs,a,e,_⟩:=d;exact⟨h1.mono λr _ h=>.inl ⟨2,h⟩,cr,cs,a,e⟩
def jO.same(p:cm w af gT ao A R A9 aJ n s u t h cs)(J:Ext w w'):jO w af gT ao A R A9 aJ n s t h u w':=⟨J.ab _,A9,cs,p.ext J,λq r h=>.inl ⟨q,h⟩,λr h=>.inl h⟩
def jO.comp{cr:Nat->ak}(f:ai (A9 2) w V)(x:∀q r,cr q r->(∃e,A9 e r)\/w.heap.size<=r)(p:∀r,cr 2 r->A9 2 r\/w.heap.size<=r)(d:jO V af gT ao A R cr aJ n s t h eY aa):jO w af gT ao A R A9 aJ n s t h eY aa:=by
 have⟨y,B,ce,C,E,F⟩:=d;have:=f.size;refine⟨?_,B,ce,C,λq r a=>(E q r a).elim (λ⟨e,h⟩=>x e r h) λh=>.inr Ω,λr a=>(F r a).elim (p r) λh=>.inr Ω⟩;exact((f.mono λr _ h=>.inl h).trans (y.mono λr _ h=>p r h):ai (λr=>A9 2 r\/w.heap.size<=r) w aa).mono λr a h=>h.elim id λh=>Ω
def cm.Rj{T:ak}{v:x1}{u':ap}(p:cm w af gT ao A R A9 aJ n s u t h cs)(z:∀q r,A9 q r->r<w.heap.size)(ad:cs[5]?=σ v)(e:ai T w w')(f:∀r,r<w.heap.size->T r->A9 2 r)(C:bI (λr=>A9 2 r\/w.heap.size<=r) aJ w' [v] (u'.vars.map (·.un)))(E:u'.zero=u.zero)(F:u'.vars.map aC=u.vars.map aC)(G:(u'.vars.map λx=>decide (x.gone≠0))=u.vars.map λx=>decide (x.gone≠0))(H:u'.funs=u.funs)(I:u'.hr=u.hr):
  ∃cr,cm w' af gT ao A R cr aJ n s u' t h cs/\(∀q r,cr q r->(∃J,A9 J r)\/w.heap.size<=r)/\∀r,cr 2 r->A9 2 r\/w.heap.size<=r:=by
 have K:=ci.kX p.doc (ye e) (λr a=>.inl (f r a.2 a.1)) C (λj r L a=>?_) (λr a=>?_)
 .have y:=yf (w:=w) (A9:=A9) (q:=2) (B:=λr=>A9 2 r\/w.heap.size<=r) λr h=>h;refine⟨_,p.row e f ?_ y,y,λr a=>a⟩;have:=ci.qY ad K;unfold iO;rw[E,F,G,H,I];exact this
 .rcases a with a|a
  .exact p.gR.1 2 j r (Ne.symm L) a
  .exact λh=>by have:=z j r h;omega
 .rcases a with a|a
  .exact p.gR.2 2 r a
  .exact λh=>by have:=(p.read r h).2.1;omega
def yq(p:cm w af gT ao A R A9 aJ n s u t h cs){i:Nat}{x:bC}(J:u.vars[i]?=σ x):∃g cap y,cs[5]?=σ (.slice (σ ⟨g,0,ν⟩) u.vars.length cap)/\w.cell? ⟨g,i,ν⟩=σ y/\aI .i64 w y x.un/\
  ∀{w':x3}{v:Nat}{c:Int}{K:Unit->x3->Prop},Ext w w'->v<x.un.length->(∀H,jO w af gT ao A R A9 aJ n s t h (eI u i x (x.un.set v c)) H->K () H)->
   ac x7 (j9 ay y (Δ (v:Int))) w' λa=>aE x7 (o8 aq a (Δ c)) w' K:=by
 have I:=p.olds;have⟨szv,aj,ak,al,am,an,L,_,_,_,M,_,_,C⟩:=id I.doc;have⟨g,cap,c,ap,e,S,N,av,_⟩:=uH (i:=i) (a:=x.un) M (by rw[x8,J];rfl) λr _ h=>(C T).2 2 r h;obtain⟨y,rfl⟩:=W9.1 (au.len N);have O:w.cell? ⟨g,i,ν⟩=σ y:=by
  have:=S 0 y T;simpa[show au.n (Λ)=1 from T]using this
 rw[r8]at e;refine⟨g,cap,y,by rw[L,<-e];rfl,O,de (jB N),λ{w' v c K}B ad U=>?_⟩;have V:=I.ext B;have z:=B.size;have⟨aw,ax,az,aA,P,W,Q,E,X⟩:=uH (i:=i) (a:=x.un) (bA M B) (by rw[x8,J];rfl) λr _ h=>(C T).2 2 r h;obtain⟨F,rfl⟩:=W9.1 (au.len Q);rw[r8,e]at P;cases P;have Y:F=y:=by
  have h1:=W 0 F T;have h1:w'.cell? ⟨g,i,ν⟩=σ F:=by simpa[show au.n (Λ)=1 from T]using h1
  rw[iW B O]at h1;exact(b9 h1).symm
 subst Y;refine E0 (α:=Int) (i:=v) (A:=λ_=>False) T rfl ay.u aq.i Q ad T rfl (λr _ f=>⟨λh=>h,(C T).2 2 r (E r f)⟩) λaB G Z=>?_;have aa:=X G (λr _ h=>h) Z λr f=>f.elim .inl False.elim;have⟨cr,ae,ag,ah⟩:=V.Rj (u':=eI u i x (x.un.set v c)) (λq r h=>by have:=h.2;omega) (by rw[L];rfl) G (λr _ h=>E r h) (by show bI _ _ _ _ ((u.vars.set i {x with un:=x.un.set v c}).map (·.un));rw[U5];exact aa) T (qd J (by unfold aC;simp)) (qd J T) T rfl;refine U _ ⟨(B.ab _).trans (G.mono λr _ h=>(E r h).1),cr,cs,ae,λq r f=>?_,λr f=>?_⟩
 .rcases ag q r f with⟨ai,h⟩|h
  .exact .inl ⟨ai,h.1⟩
  .exact .inr Ω
 .exact (ah r f).imp (λh=>h.1) λh=>Ω
def Rk(p:cm w af gT ao A R A9 aJ n s u t h cs){f:bU}(ae:u.funs[j]?=σ f):∃g cap x E y,cs[6]?=σ (.slice (σ ⟨g,0,ν⟩) u.funs.length cap)/\w.rangeAt g (j*4) [x,E,y,.bool (decide (f.live≠0))]/\aI .i64 w x f.sc/\aI .i64 w y f.cs/\
  ∀{w':x3}{m:Nat}{c:Int}{K:Unit->x3->Prop},Ext w w'->m<f.cs.length->(∀N,dx w af gT ao A R A9 aJ n s t h (dS u j f (f.cs.set m c)) N->K () N)->
   ac x7 (j9 ay y (Δ (m:Int))) w' λa=>aE x7 (o8 aq a (Δ c)) w' K:=by
 have O:=p.olds;have⟨szv,ax,az,aA,aB,aC,P,_,_,_,_,Q,_,F⟩:=id O.doc;have⟨g,cap,c,aD,e,G,U,aF,_⟩:=uH (i:=j) (a:=hc f) Q (by rw[x8,ae];rfl) λr _ h=>(F T).2 3 r h;have V:=lP U;obtain⟨x,E,y,rfl,W,aG,X⟩:=V;rw[r8]at e;have G:w.rangeAt g (j*4) [x,E,y,.bool (decide (f.live≠0))]:=G;refine⟨g,cap,x,E,y,by rw[P,<-e];rfl,G,de W,de X,λ{w' m c K}B hm Y=>?_⟩;have Z:=O.ext B;have:=B.size;have⟨aH,aK,aL,aM,S,L,aa,H,ad⟩:=uH (i:=j) (a:=hc f) (bA Q B) (by rw[x8,ae];rfl) λr _ h=>(F T).2 3 r h;rw[r8,e]at S;cases S;obtain⟨ag,ah,M,aN,rfl,ai,I,aj⟩:=QS aa λr h=>(F T).2 3 r (H r h);have L:w'.rangeAt g (j*4) [ag,ah,M,.bool (decide (f.live≠0))]:=L;have ak:M=y:=by
  have h1:=L 2 M T;rw[(nY B G) 2 y T]at h1;exact(b9 h1).symm
 subst ak;refine E0 (α:=Int) (i:=m) (A:=λ_=>False) T rfl ay.u aq.i ai hm T rfl (λr _ C=>⟨λh=>h,(F T).2 3 r (H r (I r C))⟩) λaO J al=>?_;have am:=aj J (au.mono al (λr _ h=>h.elim id False.elim) λ_ _ h=>h);have an:=ad J (λr _ h=>I r h) am λr C=>.inl C;have⟨cr,ap,av⟩:=Z.QQ (u':=dS u j f (f.cs.set m c)) (λq r h=>by have:=h.2;omega) (by rw[P];rfl) J (λr _ h=>H r (I r h)) (by show bI _ _ _ _ ((u.funs.set j {f with cs:=f.cs.set m c}).map hc);rw[U5];exact an) T rfl rfl;refine Y _ ⟨(B.ab _).trans (J.mono λr _ h=>.inl ⟨3,(H r (I r h)).1⟩),cr,cs,ap,λq r C=>?_⟩;rcases av q r C with⟨aw,h⟩|h
 .exact .inl ⟨aw,h.1⟩
 .exact .inr Ω
def Rl(p:cm w af gT ao A R A9 aJ n s u t h cs){K:Unit->x3->Prop}(f:∀e,dx w af gT ao A R A9 aJ n s t h {u with zero:=c} e->K () e):aE x7 (o8 aq (.pointer (σ ⟨ao,0+2,ν⟩)) (Δ c)) w K:=by
 refine bq (o:=0+2) aq.i T rfl p.box (by rw[p.doc.len.1];omega) λaa a y x=>?_;refine f _ ⟨a.mono λr _ h=>.inr h,A9,_,p.E5 a (λr _ h=>.inr h) x ?_ λq r h=>.inl ⟨q,h⟩,λq r h=>.inl ⟨q,h⟩⟩;exact(ci.ab p.doc a λr _ h he=>h.elim (λ⟨q,h⟩=>(p.apart q r h).2.2 he) λh=>(p.read r h).2.2 he).QF
def Rm(p:cm w af gT ao A R A9 aJ n s u t h cs){i:Nat}{x:bC}(J:u.vars[i]?=σ x):∃g cap y,cs[3]?=σ (.slice (σ ⟨g,0,ν⟩) u.vars.length cap)/\w.cell? ⟨g,i,ν⟩=σ y/\aI .i64 w y (aC x)/\(∀r,leads y r->A9 0 r)/\
  ∀{w':x3}{m:Int}{z:x1}{gz:Nat}{K:Unit->x3->Prop},Ext w w'->av .i64 ah w' gz z (aC {x with mask:=m})->(∀r,leads z r->w.heap.size<=r)->(∀I,dx w af gT ao A R A9 aJ n s t h {u with vars:=u.vars.set i {x with mask:=m}} I->K () I)->
   ac x7 (j9 cU (.slice (σ ⟨g,0,ν⟩) u.vars.length cap) (Δ (i:Int))) w' λa=>aE x7 (o8 an a z) w' K:=by
 have L:=p.olds;have X:=(x4.1 J).1;have⟨szv,Y,aD,aF,aG,aH,M,_,Z,_,_,_,_,aa⟩:=id L.doc;have⟨g,cap,full,ad,c,aK,e,C,ae,E,N,F,aj,aL,ak⟩:=E6 (i:=i) (a:=aC x) Z (by rw[x8,J];rfl) λr _ h=>(aa T).2 0 r h;obtain⟨y,rfl⟩:=W9.1 (au.len F);rw[r8]at e;have al:full[i]?=σ y:=by have:=N 0 y T;simpa[show au.n (Λ)=1 from T]using this
 refine⟨g,cap,y,by rw[M,<-e];rfl,by have:=C.cell (o:=i) al;exact this,de (jB F),λr f=>?_,λ{w' m O gz K}G P Q am=>?_⟩
 .obtain⟨aM,aN,ap,aq⟩:=AH F;rcases aq with rfl|aw
  .obtain⟨_,_,_,e,_⟩:=f;cases e
  .obtain⟨e,_⟩:=bS ap f;rw[e];exact(aj _ aw).1
 have z:=G.size;have E:i*1+1<=full.length:=E;rw[fg cU.u an.i X λ_=>rfl];have⟨_,_,_,S⟩:=da P.ls;refine bq (o:=0+i*1) an.i (by rw[S];rfl) (by rw[S];rfl) (C.ext G) Ω λU V aO B=>?_;have B:ag U g ad (over full (i*1) [O]):=by
  have e:=E7 (full:=full) (c:=[y]) (o:=i*1) (q:=0) (x:=O) N E Ξ;rw[X2]at B;rw[Nat.add_zero]at e;rw[e]at B;exact B
 have aP:g<w.heap.size:=C.lt;have H:ai (λr=>r=g) w U:=(G.ab _).trans V;have ax:=bw P V λr f he=>by have he:r=g:=he;have:=Q r f;omega
 have ay:=ak H (λr _ h=>.inr h) B (nv (R:=aJ) ax) λr f=>.inr (Q r f);have W:∀r,r<w.heap.size->r=g->A9 0 r/\r<w.heap.size:=λr f h=>by rw[h];exact ae
 have⟨cr,az,aA⟩:=L.oR (u':={u with vars:=u.vars.set i {x with mask:=m}}) (λq r h=>h.2) (v:=Y) (by rw[M];rfl) H W (by show bI _ _ _ _ ((u.vars.set i {x with mask:=m}).map aC);rw[U5];exact ay) T (qd J T) (qd J T) T rfl;refine am _ ⟨H.mono λr f h=>.inl ⟨0,(W r f h).1⟩,cr,cs,az,λq r f=>?_⟩;rcases aA q r f with⟨aB,h⟩|h
 .exact .inl ⟨aB,h.1⟩
 .exact .inr h
end
def gh(s:ap)(sc:Λ)(pos:Int)(v:Int):Nat->Nat->Λ->List (Λ)
 |0,_,tl=>[tl]
 |m+1,p,tl=>if(p:Int)=pos then gh s sc pos v m (p+1) (tl.set p v)else(bg s (sc.getD p 0)).flatMap λx=>gh s sc pos v m (p+1) (tl.set p x)
def uM{α:Type}{l:List α}{p:Nat}{x:α}(h:p<l.length):(l.set p x).take (p+1)=l.take p++[x]:=by
 rw[u9,c8 h,List.take_set_of_le (o4 _)];rfl
theorem rY{s:ap}{sc:Λ}{pos:Nat}{v:Int}:∀(m p:Nat)(tl:Λ),sc.length=p+m->tl.length=sc.length->gh s sc pos v m p tl=(gK (hA s pos v (sc.drop p) p)).map (tl.take p++ ·)
 |0,p,tl,h1,a=>by
  rw[List.drop_eq_nil_of_le Ω,b8 Ω];unfold gh hA gK;rw[List.map_singleton,W6]
 |m+1,p,tl,h1,a=>by
  have e:p<sc.length:=Ω
  have⟨u,hu⟩:=aH (l:=sc) e;have h:sc.drop p=u::sc.drop (p+1):=by rw[X4 e,(x4.1 hu).2]
  have q:sc.getD p 0=u:=by rw[u4,hu];rfl
  rw[h];unfold gh hA;rw[gK];by_cases f:p=pos
  .rw[if_pos Ω,if_pos f,List.flatMap_singleton,rY m (p+1) (tl.set p v) Ω (by rw[c9];exact a),S1,uM Ω];refine List.map_congr_left λr _=>?_;simp
  .rw[if_neg Ω,if_neg f,q,List.map_flatMap];congr 1;funext x;rw[rY m (p+1) (tl.set p x) Ω (by rw[c9];exact a),S1,uM Ω];refine List.map_congr_left λr _=>?_;simp
def Rn{s:ap}{pos:Nat}{m p:Nat}{a:Λ}(h1:sc.length=p+m)(e:tl.length=sc.length)(f:a.length=sc.length)(h:a.take p=tl.take p):gh s sc pos v m p a=gh s sc pos v m p tl:=by
 rw[rY m p tl h1 e,rY m p a h1 f,h]
def Ro{s:ap}{pos:Nat}(h:tl.length=sc.length):gh s sc pos v sc.length 0 tl=bP s sc pos v:=by
 rw[rY sc.length 0 tl Ω h];unfold bP;simp
def nD(w:x3)(af gs bH bn a1:Nat)(aK:x1)(pos v:Int):Prop:=ag w gs dd [Γ af]/\ag w bH an [aK]/\ag w bn ah [Δ pos]/\ag w a1 ah [Δ v]
def nD.ab{S:ak}{gs bH bn a1:Nat}(h:nD w af gs bH bn a1 aK pos v)(a:ai S w w')(e:¬S gs/\¬S bH/\¬S bn/\¬S a1):nD w' af gs bH bn a1 aK pos v:=
 ⟨h.1.ab a e.1,h.2.1.ab a e.2.1,h.2.2.1.ab a e.2.2.1,h.2.2.2.ab a e.2.2.2⟩
def nD.ext{gs bH bn a1:Nat}(h:nD w af gs bH bn a1 aK pos v)(J:Ext w w'):nD w' af gs bH bn a1 aK pos v:=h.ab (J.ab λ_=>False) ⟨id,id,id,id⟩
def gw(af gT:Nat)(R:ak)(n:aG)(s:ap)(gs bH bn a1:Nat)(aK:x1)(sc:Λ)(pos v:Int)(B0:Nat)(D:Nat->Prop)(w:x3):Prop:=
 nD w af gs bH bn a1 aK pos v/\(gs<B0/\bH<B0/\bn<B0/\a1<B0)/\aI .i64 w aK sc/\(∀r,leads aK r->r<B0)/\(Laid w/\B0<=w.heap.size)/\∃A s' bt,bx w af gT A R n s' bt/\(∀i,bg s' i=bg s i)/\∀r,A r\/R r->r<B0\/D r
section
variable{af gT gs bH bn a1 B0:Nat}{R:ak}{n:aG}{s:ap}{aK:x1}{sc:Λ}{pos v:Int}
def gw.ext(h:gw af gT R n s gs bH bn a1 aK sc pos v B0 D w)(J:Ext w w'):gw af gT R n s gs bH bn a1 aK sc pos v B0 D w':=by
 have⟨h1,e,f,p,a,A,s',bt,q,r,x⟩:=h;exact⟨h1.ext J,e,f.ext J,p,⟨a.1.ext J,Y9 a.2 J.size⟩,A,s',bt,q.ext J,r,x⟩
def kq(w:x3)(l gy gt gtb ga:Nat)(hB:Array x1)(q:Nat)(tl:Λ):Prop:=ag w gy Am [.func (.yield l) #[] #[]]/\ag w gtb an [.slice (σ ⟨gt,0,ν⟩) q q]/\ag w ga pm [.func (.func mc) #[] hB]/\
 av .i64 ah w gt (.slice (σ ⟨gt,0,ν⟩) q q) tl
def kq.ab{S:ak}{l q:Nat}{hB:Array x1}(h:kq w l gy gt gtb ga hB q tl)(f:ai S w w')(p:¬S gy/\¬S gtb/\¬S ga/\¬S gt):kq w' l gy gt gtb ga hB q tl:=
 ⟨h.1.ab f p.1,h.2.1.ab f p.2.1,h.2.2.1.ab f p.2.2.1,bw h.2.2.2 f λr s=>by
  have⟨a,_,_,e,x⟩:=s;cases e;rw[<-x];exact p.2.2.2⟩
def kq.ext{l q:Nat}{hB:Array x1}(h:kq w l gy gt gtb ga hB q tl)(J:Ext w w'):kq w' l gy gt gtb ga hB q tl:=h.ab (J.ab λ_=>False) ⟨id,id,id,id⟩
def Rp(U:aI .i64 w aK sc):am x7 Af [Γ af,aK,Δ pos,Δ v] w λr w'=>Ext w w'/\∃gs bH bn a1,r= .func (.func mb) #[] #[Γ bH,Γ bn,Γ a1,Γ gs]/\nD w' af gs bH bn a1 aK pos v/\w.heap.size<=gs/\w.heap.size<=bH/\w.heap.size<=bn/\w.heap.size<=a1:=by
 have⟨_,_,_,y⟩:=da U;apply az func218;refine bd λgs V A x h=>?_;refine bd λbH aa B p a=>?_;refine bd λbn C E e q=>?_;refine bd λa1 s G f z=>?_;have h:ag s gs dd [Γ af]:=((ag.ext h p).ext e).ext f;have a:ag s bH an [aK]:=by rw[y]at a ⊢;exact(ag.ext a e).ext f
 have q:ag s bn ah [Δ pos]:=ag.ext q f;rw[iy];have:=x.size;have:=p.size;have:=e.size;exact⟨((x.trans p).trans e).trans f,gs,bH,bn,a1,T,⟨h,a,q,z⟩,Ω,Ω,Ω,Ω⟩
def gw.own{S:ak}(h:gw af gT R n s gs bH bn a1 aK sc pos v B0 D w)(p:ai S w w')(x:∀r,S r->B0<=r/\¬D r):gw af gT R n s gs bH bn a1 aK sc pos v B0 D w':=by
 have⟨h1,f,E,y,z,A,s',bt,B,F,C⟩:=h;have no:∀{r:Nat},r<B0->¬S r:=λh1 f=>by have:=(x _ f).1;omega
 refine⟨h1.ab p ⟨no f.1,no f.2.1,no f.2.2.1,no f.2.2.2⟩,f,ia E p λr q a n c e G=>?_,y,⟨?_,Y9 z.2 p.size⟩,A,s',bt,⟨B.1.ab p λr _ q U=>?_,B.2⟩,F,C⟩
 .exact no (y r ⟨a,n,c,e,G⟩) q
 .exact jw p (no Ω) z.1
 .exact (C r q).elim (λh=>no h U) (x r U).2
def Rq(P:(Nat->Prop)->x3->Prop)(aA:(Nat->Prop)->Nat->x3->Prop)(L:List (Λ))(l B:Nat):Prop:=∀(D:Nat->Prop)(k:Nat)tl aM w',(∀r,D r->B<=r/\r<w'.heap.size)->B<=w'.heap.size->P D w'->L[k]?=σ tl->aI .i64 w' aM tl->aA D k w'->
 h5 x7 l [aM] w' λu a=>u= .bool true/\(∃D',(∀r,D' r->D r\/w'.heap.size<=r/\r<a.heap.size)/\(∀r,D r->D' r)/\P D' a/\aA D' (k+1) a)/\cM w' a/\w'.heap.size<=a.heap.size/\ai (λr=>r<B\/D r) w' a
def rZ(D:Nat->Prop)(B gy gtb ga gt:Nat):Prop:=(B<=gy/\¬D gy)/\(B<=gtb/\¬D gtb)/\(B<=ga/\¬D ga)/\B<=gt/\¬D gt
def rZ.go{D':Nat->Prop}{m b2:Nat}(h:rZ D B gy gtb ga gt)(a:∀r,D' r->D r\/m<=r/\r<b2)(hm:gy<m/\gtb<m/\ga<m/\gt<m):rZ D' B gy gtb ga gt:=
 have f:∀{g:Nat},g<m->¬D g->¬D' g:=λh1 e p=>(a _ p).elim e λh=>Ω
 ⟨⟨h.1.1,f hm.1 h.1.2⟩,⟨h.2.1.1,f hm.2.1 h.2.1.2⟩,⟨h.2.2.1.1,f hm.2.2.1 h.2.2.1.2⟩,h.2.2.2.1,f hm.2.2.2 h.2.2.2.2⟩
def kq.lt{l q:Nat}{hB:Array x1}(h:kq w l gy gt gtb ga hB q tl):gy<w.heap.size/\gtb<w.heap.size/\ga<w.heap.size/\gt<w.heap.size:=
 ⟨h.1.lt,h.2.1.lt,h.2.2.1.lt,(bS h.2.2.2 ⟨_,_,_,T,T⟩).2⟩
def AtR(l gy gt gtb ga:Nat)(hB:Array x1)(P:(Nat->Prop)->x3->Prop)(aA:(Nat->Prop)->Nat->x3->Prop)(S:ak)(D:Nat->Prop)(w:x3)(sl k p:Nat)(tl:Λ)(w':x3):Prop:=
 w.heap.size<=w'.heap.size/\∃D' a,a.length=sl/\a.take p=tl.take p/\kq w' l gy gt gtb ga hB sl a/\((∀r,D' r->D r\/w.heap.size<=r/\r<w'.heap.size)/\∀r,D r->D' r)/\P D' w'/\aA D' k w'/\ai S w w'
section
variable{l gy gt gtb ga B:Nat}{hB:Array x1}{P:(Nat->Prop)->x3->Prop}{aA:(Nat->Prop)->Nat->x3->Prop}{S T:ak}{D:Nat->Prop}{w V aa:x3}{sl k p:Nat}{tl:Λ}
def AtR.own(x:∀D T V aa,ai T V aa->(∀r,T r->B<=r/\¬D r)->P D V->P D aa)(y:∀D k V aa,ai (λr=>B<=r/\¬D r) V aa->fI B V aa->aA D k V->aA D k aa)(h:AtR l gy gt gtb ga hB P aA S D w sl k p tl V)(e:ai T V aa)(z:fI B V aa)(a:∀r,T r->r<w.heap.size/\¬D r/\B<=r/\S r/\r≠gy/\r≠gtb/\r≠ga/\r≠gt):AtR l gy gt gtb ga hB P aA S D w sl k p tl aa:=by
 have⟨A,D',C,h1,E,F,⟨q,G⟩,H,I,J⟩:=h;have s:∀r,T r->B<=r/\¬D' r:=λr f=>⟨(a r f).2.2.1,λK=>(q r K).elim (a r f).2.1 λh=>by have:=(a r f).1;omega⟩;exact⟨Y9 A e.size,D',C,h1,E,F.ab e ⟨λh=>(a _ h).2.2.2.2.1 rfl,λh=>(a _ h).2.2.2.2.2.1 rfl,λh=>(a _ h).2.2.2.2.2.2.1 rfl,λh=>(a _ h).2.2.2.2.2.2.2 rfl⟩,
  ⟨λr f=>(q r f).imp id λh=>⟨h.1,Q2 h.2 e.size⟩,G⟩,x D' T V aa e s H,y D' k V aa (e.mono λr _ h=>s r h) z I,J.trans (e.mono λr _ h=>(a r h).2.2.2.1)⟩
def AtR.base{w0:x3}(h:AtR l gy gt gtb ga hB P aA S D w sl k p tl V)(J:Ext w0 w)(a:∀r,r<w0.heap.size->S r->T r):AtR l gy gt gtb ga hB P aA T D w0 sl k p tl V:=by
 have⟨e,D',f,h1,q,s,⟨x,y⟩,z,A,B⟩:=h;exact⟨Y9 J.size e,D',f,h1,q,s,⟨λr C=>(x r C).imp id λh=>⟨Y9 J.size h.1,h.2⟩,y⟩,z,A,((J.ab S).trans B).mono a⟩
def AtR.comp{a:Nat->Prop}{q:Λ}{x:Int}(f:∀r,r<B\/D r\/r=gt->S r)(s:∀r,a r->D r\/w.heap.size<=r/\r<V.heap.size)(z:∀r,D r->a r)(y:ai S w V)(A:q.take p=tl.take p)(h:AtR l gy gt gtb ga hB P aA (λr=>r<B\/a r\/r=gt) a V sl k (p+1) (q.set p x) aa):AtR l gy gt gtb ga hB P aA S D w sl k p tl aa:=by
 have⟨C,D',E,h1,F,G,⟨H,I⟩,J,K,L⟩:=h;have U:=y.size;refine⟨Y9 U C,D',E,h1,?_,G,⟨λr e=>?_,λr e=>I r (z r e)⟩,J,K,?_⟩
 .have:=congrArg (List.take p) F;rw[List.take_take,List.take_take,Nat.min_eq_left Ω,List.take_set_of_le (o4 _)]at this;rw[this,A]
 .rcases H r e with h|h
  .exact (s r h).imp id λh=>⟨h.1,Ω⟩
  .exact .inr ⟨Ω,h.2⟩
 .refine ((y.mono λr _ h=>.inl h).trans (L.mono λr _ h=>?_):ai (λr=>S r\/w.heap.size<=r) w aa).mono λr e h=>h.elim id λh=>Ω
  rcases h with h|h|h
  .exact .inl (f r (.inl h))
  .exact (s r h).elim (λh=>.inl (f r (.inr (.inl h)))) λh=>.inr h.1
  .exact .inl (f r (.inr (.inr h)))
end
def Rr{α β:Type}{l:List α}{a:α->List β}{i:Nat}{y:α}{z:β}(h:l[j]?=σ y)(hi:(a y)[i]?=σ z):(l.flatMap a)[((l.take j).flatMap a).length+i]?=σ z:=by
 have f:=(x4.1 h).1;have e:l=l.take j++y::l.drop (j+1):=by
  conv=>lhs;rw[<-List.take_append_drop j l,X4 f,(x4.1 h).2]
 conv=>lhs;rw[e,List.flatMap_append,X8]
 have p:=(x4.1 hi).1;have el:((l.take j++y::l.drop (j+1)).take j)=l.take j:=by rw[List.take_append_of_le_length (by rw[l9];omega),List.take_take,Nat.min_self]
 rw[el,Y8 Ω,R6,Y6 p];exact hi
def Rs{t:p9}{b o:Nat}{x:x1}{K:x1->Prop}(a:jZ x7 t=true)(h:w.cell? ⟨b,o,ν⟩=σ x):ac x7 (do loadVar t (<-asAddr (.pointer (σ ⟨b,o,ν⟩)))) w K=K x:=ac.of λw' J=>by
 have h':=iW J h;unfold jZ at a;cases hu:x7.underlying t with
 |none=>rw[hu]at a;cases a
 |some d=>
  rw[hu]at a;cases d<;>first|(cases a;done)|simp[asAddr,loadVar,isAgg,run_underlying hu,h']
def kr(bH gy gtb bn a1 ga gs:Nat):Array x1:=#[Γ bH,Γ gy,Γ gtb,Γ bn,Γ a1,Γ ga,Γ gs]
def uN(p:Nat)(bH gy gtb bn a1 ga gs:Nat):List x1:=[Δ (p:Int),Γ bH,Γ gy,Γ gtb,Γ bn,Γ a1,Γ ga,Γ gs]
def Rt{l:Nat}{aA:(Nat->Prop)->Nat->x3->Prop}(bW:0<=pos)(bX:∀u∈sc,0<=u/\u<n.sizes.length)(c3:sc.length<=6)(bY:B0<=B)(Z:gt≠gy/\gt≠gtb/\gt≠ga)(P:∀D k V aa,ai (λr=>B<=r/\¬D r) V aa->fI B V aa->aA D k V->aA D k aa)(bZ:Rq (gw af gT R n s gs bH bn a1 aK sc pos v B0) aA L l B):
  ∀(q p:Nat)(tl:Λ)(k:Nat)(D:Nat->Prop)(w:x3),sc.length=p+q->tl.length=sc.length->(∀r,D r->B<=r/\r<w.heap.size)->B<=w.heap.size->rZ D B gy gtb ga gt->kq w l gy gt gtb ga (kr bH gy gtb bn a1 ga gs) sc.length tl->gw af gT R n s gs bH bn a1 aK sc pos v B0 D w->aA D k w->
   (∀i x,(gh s sc pos v q p tl)[i]?=σ x->L[k+i]?=σ x)->
   am x7 mc (uN p bH gy gtb bn a1 ga gs) w λr w'=>r= .bool true/\AtR l gy gt gtb ga (kr bH gy gtb bn a1 ga gs) (gw af gT R n s gs bH bn a1 aK sc pos v B0) aA (λr=>r<B\/D r\/r=gt) D w sc.length (k+(gh s sc pos v q p tl).length) p tl w':=by
 obtain⟨eh,rfl⟩:=X7 bW;have ad:∀D T V aa,ai T V aa->(∀r,T r->B<=r/\¬D r)->gw af gT R n s gs bH bn a1 aK sc eh v B0 D V->gw af gT R n s gs bH bn a1 aK sc eh v B0 D aa:=λD T V aa aS bl h=>h.own aS λr f=>⟨Y9 bY (bl r f).1,(bl r f).2⟩;have aT:∀{M:x3}{K:x1->Prop},ag M bH an [aK]->K aK->ac x7 (u5 an (Γ bH)) M K:=λaU aV=>by rw[ax (v:=aK) Ψ (aU.Qz rfl)];exact aV
 have aX:∀{aY p:Nat}{tl:Λ}{D:Nat->Prop}{w aa M:x3}{a:Nat}{b:Bool},Ext w aa->w.heap.size<=a->a<aa.heap.size->(∀r,D r->B<=r/\r<w.heap.size)->B<=w.heap.size->(gy<w.heap.size/\gtb<w.heap.size/\ga<w.heap.size/\gt<w.heap.size)->
   AtR l gy gt gtb ga (kr bH gy gtb bn a1 ga gs) (gw af gT R n s gs bH bn a1 aK sc eh v B0) aA (λr=>r<B\/D r\/r=gt\/r=a) D aa sc.length aY p tl M->ag M a e5 [.bool b]->
   aE x7 (o8 e5 (Γ a) (.bool true)) M λ(_:Unit)aG=>ac x7 (do loadVar e5 (<-asAddr (Γ a))) aG λr=>vg w.heap.size aG λbm=>r= .bool true/\AtR l gy gt gtb ga (kr bH gy gtb bn a1 ga gs) (gw af gT R n s gs bH bn a1 aK sc eh v B0) aA (λr=>r<B\/D r\/r=gt) D w sc.length aY p tl bm:=by
  intro aY p tl D w aa M a b G bo ae z aj ap aZ a2;have b0:∀r,r=a->r<aa.heap.size/\¬D r/\B<=r/\(r<B\/D r\/r=gt\/r=a)/\r≠gy/\r≠gtb/\r≠ga/\r≠gt:=by
   rintro r rfl;exact⟨ae,λh=>by have:=(z _ h).2;omega,Ω,.inr (.inr (.inr rfl)),Ω,Ω,Ω,Ω⟩
  refine aE.cw (bq e5.i rfl rfl a2 Ξ λaG b1 c4 a7 b2=>?_);have a7:ag aG a e5 [.bool true]:=a7;have b3:=aZ.own ad P b1 b2.o b0;rw[Rs (x:=.bool true) Ψ (a7.Qz rfl)];intro bm b4 b5;refine⟨rfl,((b3.own ad P (b4.ab λ_=>False) (b5.2.mono aj) λ_ h=>h.elim).base G λr f h=>?_)⟩;rcases h with h|h|h|h
  .exact .inl h
  .exact .inr (.inl h)
  .exact .inr (.inr h)
  .omega
 intro q;induction q with
 |zero=>
  intro p tl k D w b6 aq z aj C au ba bb av;apply hG func268;refine aE.cw (bd λg1 V b7 aw E bf=>?_);refine aE.cw (bu e5.i λa aa bo W N bh=>?_);have G:=aw.trans W;have b9:=aw.size;have ca:=W.size;have E:ag aa g1 ah [Δ (p:Int)]:=ag.ext E W;have N:ag aa a e5 [.bool false]:=N;have ae:=N.lt;have aI:=P D k w aa (G.ab _) (bf.trans bh).o bb;have I:=ba.ext G;have H:=au.ext G;rw[ax (v:=Δ (p:Int)) Ψ (E.Qz rfl)];apply aT I.1.2.1;rw[aW an.u I.2.2.1,be,al];refine⟨λ_=>?_,λh=>absurd Ω h⟩;rw[ax (v:=.func (.yield l) #[] #[]) Ψ (H.1.Qz rfl),ax (v:=.slice (σ ⟨gt,0,ν⟩) sc.length sc.length) Ψ (H.2.1.Qz rfl)];have cb:L[k]?=σ tl:=av 0 tl rfl;refine(show h5 x7 l [.slice (σ ⟨gt,0,ν⟩) sc.length sc.length] aa _ from h5.mono (bZ D k tl _ aa (λr f=>⟨(z r f).1,by have:=(z r f).2;omega⟩) Ω I cb H.2.2.2.ls aI) ?_);rintro _ bp ⟨rfl,⟨D',d1,d2,cc,cd⟩,ce,cg,bi⟩;refine⟨ce,?_⟩;have ap:=au.lt;have aJ:∀{g:Nat},w.heap.size<=g->¬D g:=λh1 ay=>by have:=(z _ ay).2;omega
  have az:∀{g:Nat},B<=g->¬D g->¬(g<B\/D g):=λh1 ay ch=>ch.elim Ω ay;have a2:ag bp a e5 [.bool false]:=N.ab bi (az Ω (aJ Ω));have aZ:AtR l gy gt gtb ga (kr bH gy gtb bn a1 ga gs) (gw af gT R n s gs bH bn a1 aK sc eh v B0) aA (λr=>r<B\/D r\/r=gt\/r=a) D aa sc.length (k+1) p tl bp:=
   ⟨cg,D',tl,aq,rfl,H.ab bi ⟨az C.1.1 C.1.2,az C.2.1.1 C.2.1.2,az C.2.2.1.1 C.2.2.1.2,az C.2.2.2.1 C.2.2.2.2⟩,⟨d1,d2⟩,cc,cd,bi.mono λr _ h=>h.imp id .inl⟩
  exact aX G Ω ae z aj ap aZ a2
 |succ q br=>
  intro p tl k D w b6 aq z aj C au ba bb av;apply hG func268;refine aE.cw (bd λg1 V b7 aw E bf=>?_);refine aE.cw (bu e5.i λa aa bo W N bh=>?_);have G:=aw.trans W;have b9:=aw.size;have ca:=W.size;have E:ag aa g1 ah [Δ (p:Int)]:=ag.ext E W;have N:ag aa a e5 [.bool false]:=N;have ae:=N.lt;have:=E.lt;have aI:=P D k w aa (G.ab _) (bf.trans bh).o bb;have I:=ba.ext G;have H:=au.ext G;have ap:=au.lt;have aJ:∀{g:Nat},w.heap.size<=g->¬D g:=λh1 ay=>by have:=(z _ ay).2;omega
  rw[ax (v:=Δ (p:Int)) Ψ (E.Qz rfl)];apply aT I.1.2.1;rw[aW an.u I.2.2.1,be,al];refine⟨λh=>absurd h Ω,λ_=>?_⟩;rw[ax (v:=Δ (p:Int)) Ψ (E.Qz rfl),ax (v:=Δ (eh:Int)) Ψ (I.1.2.2.1.Qz rfl),be,al];have bw:∀{M:x3}{K:x1->Prop},ag M gtb an [.slice (σ ⟨gt,0,ν⟩) sc.length sc.length]->K (.slice (σ ⟨gt,0,ν⟩) sc.length sc.length)->ac x7 (u5 an (Γ gtb)) M K:=λaU aV=>by rw[ax (v:=.slice (σ ⟨gt,0,ν⟩) sc.length sc.length) Ψ (aU.Qz rfl)];exact aV
  have aL:∀{D:Nat->Prop}(r:Nat),rZ D B gy gtb ga gt->r=gt->B<=r/\¬D r:=λr h e=>e▸⟨h.2.2.2.1,h.2.2.2.2⟩;refine⟨λhe=>?_,λci=>?_⟩
  .refine bw H.2.1 ?_;rw[ax (v:=Δ (p:Int)) Ψ (E.Qz rfl),ax (v:=Δ v) Ψ (I.1.2.2.2.Qz rfl),hN rfl an.u ah.i H.2.2.2 Ω];refine aE.cw (hP ah.i H.2.2.2 Ω λak U c5 cj ck=>?_);have bx:kq ak l gy gt gtb ga (kr bH gy gtb bn a1 ga gs) sc.length (tl.set p v):=⟨H.1.ab U λh=>Z.1 h.symm,H.2.1.ab U λh=>Z.2.1 h.symm,H.2.2.1.ab U λh=>Z.2.2 h.symm,cj⟩;have cl:=ad D _ _ _ U (λr h=>aL r C h) I;have cm:=P D k aa ak (U.mono λr _ h=>aL r C h) ck.o aI;have cn:ag ak g1 ah [Δ (p:Int)]:=E.ab U Ω;have cp:ag ak a e5 [.bool false]:=N.ab U Ω;rw[ax (v:=.func (.func mc) #[] (kr bH gy gtb bn a1 ga gs)) Ψ (bx.2.2.1.Qz rfl),ax (v:=Δ (p:Int)) Ψ (cn.Qz rfl),aN,wrap_i64 Ω Ω];have hw:gh s sc eh v (q+1) p tl=gh s sc eh v q (p+1) (tl.set p v):=by rw[gh,if_pos he]
   rw[hw];rw[hw]at av;refine(show am x7 mc (uN (p+1) bH gy gtb bn a1 ga gs) ak _ from am.mono (br (p+1) (tl.set p v) k D ak Ω (by rw[c9];exact aq) (λr f=>⟨(z r f).1,by have:=(z r f).2;omega⟩) Ω C bx cl cm av) ?_);rintro _ cq c6 ⟨rfl,bz⟩;have cr:ag cq a e5 [.bool false]:=by
    have⟨_,_,_,_,_,_,_,_,_,ct⟩:=bz;exact cp.ab ct λh=>by
     rcases h with h|h|h
     .omega
     .exact aJ Ω h
     .omega
   exact aX G Ω ae z aj ap (AtR.comp (λr h=>h.imp id λh=>h.imp id .inl) (λr h=>.inl h) (λ_ h=>h) (U.mono λr _ h=>.inr (.inr (.inl h))) rfl bz) cr
  intro c7 aM _ cu;have aO:=I.ext aM;have⟨A,s',bt,bA,cz,c8⟩:=id aO.2.2.2.2.2;have⟨u,hu⟩:=aH (l:=sc) (i:=p) Ω;have⟨cA,da⟩:=bX u (x5 hu);have:=bA.2.2.2.1.vars;have⟨x,bB⟩:=aH (l:=s'.vars) (i:=u.toNat) Ω;rw[ax (v:=Γ af) Ψ (aO.1.1.Qz rfl)];apply aT aO.1.2.1;rw[ax (v:=Δ (p:Int)) Ψ ((E.ext aM).Qz rfl),bc an.u ah.i Ψ aO.2.2.1 hu];apply(jK (i:=u) bA).mono;rintro _ dc cB ⟨⟨b,cC,rfl,bC⟩,bD⟩;apply(ne (b:=b) (n:=cC)).mono;rintro _ aP cD ⟨cE,bE,rfl,dd,bF⟩;have bG:=mz bC cA bB;have cF:bg s (sc.getD p 0)=aC x:=by
   rw[<-cz,u4,hu,V4];unfold bg;rw[bB]
  have bI:gh s sc eh v (q+1) p tl=(aC x).flatMap λy=>gh s sc eh v q (p+1) (tl.set p y):=by rw[gh,if_neg ci,cF]
  have X:=(aM.trans bD).trans cE;have cG:=(cu.trans cB).trans cD;have:=X.size;have:=(aM.trans bD).size;have:=bF.lt;have bJ:B<=aP.heap.size:=Ω
  have cH:=P D k aa aP (X.ab _) cG.o aI;have bL:=I.ext X;have bM:=H.ext X;refine⟨Nat,false,false,iT,#[Γ bE],0,_,_,λ_=>_,λ_ j w'=>AtR l gy gt gtb ga (kr bH gy gtb bn a1 ga gs) (gw af gT R n s gs bH bn a1 aK sc eh v B0) aA (λr=>r<B\/D r\/r=gt) D aP sc.length (k+(((aC x).take j).flatMap λy=>gh s sc eh v q (p+1) (tl.set p y)).length) p tl w'/\ag w' g1 ah [Δ (p:Int)]/\ag w' a e5 [.bool false],
   λ_ _ _ _=>False,rfl,(nc (g:=bE) bC.1).s.x,?_,λ_ _ _ J h=>⟨h.1.ext J,h.2.ext J⟩,?_,λ_ _ _ _ _ _ _ h=>h,⟨bF,bL.2.2.2.2.1.1⟩,?_,?_,?_,λ_ _ _ h=>h.elim,λ_ _ _ _ h=>h.elim⟩
  .rintro _ _ _ _ ⟨_,_,_,_,rfl⟩;rfl
  .rintro _ j dg dh aS cI ⟨Y,aB,O⟩;have J:=aS.ext λ_ _ h=>nomatch h.1;exact⟨Y.own ad P (J.ab λ_=>False) (cI.mono bJ) λ_ h=>h.elim,aB.ext J,O.ext J⟩
  .exact⟨⟨o4 _,D,tl,aq,rfl,bM,⟨λ_ h=>.inl h,λ_ h=>h⟩,bL,by simpa using cH,ai.refl _ _⟩,E.ext X,N.ext X⟩
  .rintro _ _ j _ di _ _ ⟨cJ,dj⟩ ⟨dk,rfl,y,cK,cL⟩ ⟨cM,bN,cN⟩;cases cL;intro bO aD cO _;have bP:(aC x)[j]?=σ (y:Int):=by rw[<-bG,x8,cK];rfl
   have cP:=cM.own ad P (aD.ab λ_=>False) (cO.2.mono bJ) λ_ h=>h.elim;have⟨dl,aF,aQ,Y,aB,O,⟨aR,cQ⟩,cR,cS,cT⟩:=cP;have cU:=bM.lt;have bj:=C.go aR cU;have bQ:∀r,aF r->B<=r/\r<bO.heap.size:=λr f=>(aR r f).elim (λh=>⟨(z r h).1,by have:=(z r h).2;omega⟩) λh=>⟨Ω,h.2⟩;apply bw O.2.1;rw[ax (v:=Δ (p:Int)) Ψ ((bN.ext aD).Qz rfl),hN rfl an.u ah.i O.2.2.2 Ω];refine aE.cw (hP ah.i O.2.2.2 Ω λao Q dm cV cW=>?_);have bR:kq ao l gy gt gtb ga (kr bH gy gtb bn a1 ga gs) sc.length (aQ.set p y):=⟨O.1.ab Q λh=>Z.1 h.symm,O.2.1.ab Q λh=>Z.2.1 h.symm,O.2.2.1.ab Q λh=>Z.2.2 h.symm,cV⟩;have cX:=ad aF _ _ _ Q (λr h=>aL r bj h) cR;have cY:=P aF _ bO ao (Q.mono λr _ h=>aL r bj h) cW.o cS;have bS:ag ao g1 ah [Δ (p:Int)]:=(bN.ext aD).ab Q Ω;have cZ:ag ao a e5 [.bool false]:=(cN.ext aD).ab Q Ω;have c0:=(cJ.ext aD).ab Q Ω;rw[ax (v:=.func (.func mc) #[] (kr bH gy gtb bn a1 ga gs)) Ψ (bR.2.2.1.Qz rfl),ax (v:=Δ (p:Int)) Ψ (bS.Qz rfl),aN,wrap_i64 Ω Ω];have bT:gh s sc eh v q (p+1) (aQ.set p (y:Int))=gh s sc eh v q (p+1) (tl.set p (y:Int)):=Rn Ω (by rw[c9];exact aq) (by rw[c9];exact Y) (by rw[uM Ω,uM Ω,aB]);refine(show am x7 mc (uN (p+1) bH gy gtb bn a1 ga gs) ao _ from am.mono (br (p+1) (aQ.set p y) _ aF ao Ω (by rw[c9];exact Y) (λr f=>⟨(bQ r f).1,by have:=(bQ r f).2;omega⟩) Ω bj bR cX cY λi dn hi=>?_) ?_)
   .rw[bT]at hi;rw[R4];apply av _ _;rw[bI];exact Rr bP hi
   rintro _ dp dq ⟨rfl,bU⟩;rw[bK,Y7,a8];have bV:=AtR.comp (S:=λr=>r<B\/D r\/r=gt) (λr h=>h) (λr h=>(aR r h).imp id λh=>⟨h.1,Ω⟩) cQ (cT.trans (Q.mono λr _ h=>.inr (.inr h))) aB bU;have⟨_,_,_,_,_,_,_,c1,_,bk⟩:=bU;have a6:∀{g:Nat},w.heap.size<=g->g<aP.heap.size->¬(g<B\/aF g\/g=gt):=λc2 dr h=>by
    rcases h with h|h|h
    .omega
    .exact (aR _ h).elim (aJ c2) λh=>Ω
    .omega
   refine⟨⟨c0.ab bk (a6 Ω Ω),c1.2.2.2.2.1.1⟩,⟨?_,bS.ab bk (a6 Ω Ω),cZ.ab bk (a6 Ω Ω)⟩,λh=>by cases h⟩;have e:k+(((aC x).take j).flatMap λy=>gh s sc eh v q (p+1) (tl.set p y)).length+(gh s sc eh v q (p+1) (aQ.set p (y:Int))).length=k+(((aC x).take (j+1)).flatMap λy=>gh s sc eh v q (p+1) (tl.set p y)).length:=by
    rw[bT,u9,bP,n9,List.flatMap_append,List.flatMap_singleton,r9];omega
   rw[e]at bV;exact bV
  .rintro _ j ds rfl ⟨Y,aB,O⟩;rw[b8 (by rw[<-bG,r8];exact o4 _),<-bI]at Y;exact aX G Ω ae z aj ap (Y.base X λr _ h=>h.imp id λh=>h.imp id .inl) O
end
section
variable{af gT gs bH bn a1 B0:Nat}{R:ak}{n:aG}{s:ap}{aK:x1}{sc:Λ}{v:Int}
def Fm{eh:Nat}(Q:∀u∈sc,0<=u/\u<n.sizes.length)(S:sc.length<=6):
  qv x7 true false mb [Γ bH,Γ bn,Γ a1,Γ gs] 0 (λk=>k=(bP s sc eh v).length)
   (λk vs W w=>W=k+1/\∃tl aM,(bP s sc eh v)[k]?=σ tl/\vs=[aM]/\aI .i64 w aM tl) (gw af gT R n s gs bH bn a1 aK sc eh v B0):=by
 refine⟨mb.enters,λl aA aX w X _ Y hf Z=>?_⟩;have E:∀D k V aa,ai (λr=>w.heap.size<=r/\¬D r) V aa->fI w.heap.size V aa->aA D k V->aA D k aa:=λD k V aa ad ae=>X D k V aa (ad.mono λr _ h=>⟨T,h⟩) ae;have U:=hf.2.2.1;have aj:=hf.2.2.2.2.1.2;have⟨_,_,_,aY⟩:=da U;apply qF func267;refine aE.cw (bd λgy V aZ p G ak=>?_);have al:∀{H:x3}{K:x1->Prop},ag H bH an [aK]->K aK->ac x7 (u5 an (Γ bH)) H K:=λam ao=>by rw[ax (v:=aK) Ψ (am.Qz T)];exact ao
 apply al (hf.1.2.1.ext p);rw[aW an.u (U.ext p)];refine aE.cw (j0 (k:=.i64) an.u ah.i Ω Ω λgt aa a2 A I ap=>?_);refine aE.cw (bu an.i λgtb a6 a7 q J aq=>?_);refine aE.cw (bq an.i T rfl J (by simp[x1.cells]) λa8 C ba au aw=>?_);refine aE.cw (bu pm.i λga bb bc e M ay=>?_);rw[iy];refine aE.cw (bq pm.i T rfl M (by simp[x1.cells]) λa y be az aB=>?_);have bf:=p.size;have bg:=A.size;have z3:=q.size;have z5:=e.size;have bh:=G.lt;have bi:=I.lt;have bj:=J.lt;have bk:=M.lt;have aC:ag a gy Am [.func (.yield l) #[] #[]]:=(((((ag.ext G A).ext q).ab C Ω).ext e).ab y Ω);have aD:ag a gt ah (ints .i64 (p8 sc.length 0)):=((((I.ext q).ab C Ω).ext e).ab y Ω);have aF:ag a gtb an [.slice (σ ⟨gt,0,ν⟩) sc.length sc.length]:=((ag.ext au e).ab y Ω);have N:ag a ga pm [.func (.func mc) #[] (kr bH gy gtb bn a1 ga gs)]:=az;rw[ax (v:=.func (.func mc) #[] (kr bH gy gtb bn a1 ga gs)) Ψ (N.Qz T)];have hm:av .i64 ah a gt (.slice (σ ⟨gt,0,ν⟩) sc.length sc.length) (p8 sc.length 0):=by
  have:=b1.full (n:=sc.length) (k:=1) aD Ξ (by simp only[maxLen];omega);unfold av;rw[List.length_replicate];exact this
 have aG:=(p.trans A).trans q;have O:ai (λr=>w.heap.size<=r/\¬False) w a:=(((aG.ab _).trans (C.mono λr _ h=>⟨by have h:r=gtb:=h;omega,id⟩)).trans (e.ab _)).trans (y.mono λr _ h=>⟨by have h:r=ga:=h;omega,id⟩);have aH:cM w a:=((((ak.trans ap).trans aq).trans aw).trans ay).trans aB;have aJ:gw af gT R n s gs bH bn a1 aK sc eh v B0 (λ_=>False) a:=hf.own O λr aL=>⟨Ω,aL.2⟩;have P:=Ro (s:=s) (sc:=sc) (pos:=eh) (v:=v) (tl:=p8 sc.length 0) Ξ;refine(show gN x7 mc (uN 0 bH gy gtb bn a1 ga gs) a _ from(Rt (L:=bP s sc eh v) (B:=w.heap.size) (l:=l) (gy:=gy) (gt:=gt) (gtb:=gtb) (ga:=ga) (pos:=eh) Ω Q S aj ⟨Ω,Ω,Ω⟩ E ?_ sc.length 0 (p8 sc.length 0) 0 (λ_=>False) a Ω Ξ (λ_ h=>h.elim) Ω ⟨⟨Ω,id⟩,⟨Ω,id⟩,⟨Ω,id⟩,Ω,id⟩ ⟨aC,aF,N,hm⟩ aJ (E _ _ _ _ O aH.o Z) λi x hi=>?_).free.mono ?_)
 .intro D k tl aM w' aN aO aP aQ aR z;apply h5.mono (Y D k (k+1) [aM] w' aN aO aP ⟨T,tl,aM,aQ,T,aR⟩ z);rintro u bl (⟨h1,aS,aT,aU,aV⟩|⟨h,_⟩)
  .exact⟨h1,aS,aT (.inr T),aU,aV T⟩
  .cases h
 .rw[P]at hi;rw[X2];exact hi
 .rintro _ bm ⟨_,rfl,_,D',_,_,_,_,_,_,z,_⟩;rw[P,X2]at z;exact .inl ⟨D',_,T,z⟩
end
def Fo(m gs bH bn a1:Nat)(aK:x1):Prop:=(m<=gs/\m<=bH/\m<=bn/\m<=a1)/\∀r,leads aK r->m<=r
section
variable{af gT gs bH bn a1 B0 m:Nat}{A R:ak}{n:aG}{s s':ap}{t:aD}{aK:x1}{sc:Λ}{pos v:Int}{w w':x3}
def bx.lt(h:bx w af gT A R n s t){r:Nat}(a:A r\/R r):r<w.heap.size:=by
 have⟨⟨p,q,x,y,⟨_,_,e,f⟩,_⟩,_⟩:=h;exact a.elim (f r) (e r)
def gw.put{D' S:Nat->Prop}(h:gw af gT R n s gs bH bn a1 aK sc pos v B0 D w)(p:ai S w w')(hm:Fo m gs bH bn a1 aK)(z:∀r,S r->r<m\/B0<=r)(B:Laid w')(C:bx w' af gT A R n s' t)(E:∀i,bg s' i=bg s i)(F:∀r,A r\/R r->r<B0\/D' r):gw af gT R n s gs bH bn a1 aK sc pos v B0 D' w':=by
 have⟨h1,f,q,x,G,_⟩:=h;have no:∀{r:Nat},m<=r->r<B0->¬S r:=λh1 f q=>by have:=z _ q;omega
 exact⟨h1.ab p ⟨no hm.1.1 f.1,no hm.1.2.1 f.2.1,no hm.1.2.2.1 f.2.2.1,no hm.1.2.2.2 f.2.2.2⟩,f,ia q p λr H a n c e y=>no (hm.2 r ⟨a,n,c,e,y⟩) (x r ⟨a,n,c,e,y⟩) H,x,⟨B,Y9 G.2 p.size⟩,A,s',t,C,E,F⟩
def Fp{f:bU}{x:x3->Prop}(h:bx w af gT A R n s t)(y:Laid w)(ae:s.funs[j]?=σ f)(B:∀aK gs bH bn a1 w',Ext w w'->Fo w.heap.size gs bH bn a1 aK->gw af gT R n s gs bH bn a1 aK f.sc pos v w'.heap.size (λ_=>False) w'->K (.func (.func mb) #[] #[Γ bH,Γ bn,Γ a1,Γ gs]) w'):
  am x7 qA [Γ af,Δ (j:Int)] w λaK V=>(Ext w V\/x V)/\am x7 Af [Γ af,aK,Δ pos,Δ v] V K:=by
 apply(kZ h ae).mono;rintro aK V _ ⟨p,g,C,hm⟩;refine⟨.inl p,(Rp hm.ls).mono ?_⟩;rintro _ aa _ ⟨q,gs,bH,bn,a1,rfl,a,E,G,H,I⟩;have J:=p.trans q;have:=p.size;have:=J.size;refine B aK gs bH bn a1 aa J ⟨⟨Ω,Ω,Ω,Ω⟩,λr e=>(bS hm e).1▸C⟩ ⟨a,⟨a.1.lt,a.2.1.lt,a.2.2.1.lt,a.2.2.2.lt⟩,hm.ls.ext q,λr e=>?_,⟨y.ext J,o4 _⟩,A,s,t,h.ext J,λ_=>rfl,λr e=>.inl ?_⟩
 .have:=bS hm e;have:=q.size;omega
 .have:=h.lt e;omega
end
section
variable{k:Int}{sizes:Λ}{s:ap}{f:bU}{j pos:Nat}{v:Int}{tl:Λ}
def Fq{m:Nat}(ae:s.funs[j]?=σ f)(a:f.live≠0)(hm:cq f.aj tl 0=σ (m:Int)):(ha s j tl).isSome=true/\my s j tl=bl f.aj f.cs tl:=by
 unfold ha my;rw[ae];simp[a,hm]
end
section
variable{w:x3}{af gT:Nat}{A R:ak}{n:aG}{s:ap}{t:aD}
def Ru{pos:Nat}{f:bU}(h:bx w af gT A R n s t)(ak:Laid w)(ae:s.funs[j]?=σ f)(az:f.live≠0)(ad:∀u,f.sc[pos]?=σ u->v∈bg s u):
  am x7 Im [Γ af,Δ (j:Int),Δ (pos:Int),Δ v] w λr w'=>r=Δ (mE n.k s f pos v)/\Ext w w':=by
 have al:=h.2.2.2.1;have an:=x5 ae;have⟨N,aT,_⟩:=al.funs f an;apply hG func141;refine bd λg1 V aU O y=>?_;refine bd λP aa aV K L=>?_;have y:ag aa g1 dd [Γ af]:=ag.ext y K;have L:ag aa P ah [Δ (j:Int)]:=L;rw[ax (v:=Γ af) Ψ (y.Qz T)];apply(ki (h.ext (O.trans K))).mono;rintro _ aW _ ⟨rfl,Q⟩;refine bu aq.i λz aX aY S ao=>?_;have:=O.size;have:=K.size;have:=Q.size;have:=S.size;have:=y.lt;have:=L.lt;have:=ao.lt;refine bq aq.i T rfl ao (by simp[x1.cells]) λaA U bb W=>?_;have W:ag aA z aq [Δ n.k]:=W;intro X B _ _;have:=B.size;have ap:=Q.trans S;have Y:Ext w X:=((((O.trans K).trans Q).trans S).then U (by rintro r p rfl;omega)).trans B;have Z:ag X g1 dd [Γ af]:=((y.ext ap).ab U Ω).ext B;have au:ag X P ah [Δ (j:Int)]:=((L.ext ap).ab U Ω).ext B;have av:=W.ext B;have:=av.lt;rw[ax (v:=Γ af) Ψ (Z.Qz T),ax (v:=Γ af) Ψ (Z.Qz T),ax (v:=Δ (j:Int)) Ψ (au.Qz T)];refine Fp (h.ext Y) (ak.ext Y) ae λaK gs bH bn a1 aB C aC aD=>?_;have:=C.size;refine⟨Nat,true,false,mb,#[Γ bH,Γ bn,Γ a1,Γ gs],0,_,_,_,λD k w'=>Ext w w'/\ag w' g1 dd [Γ af]/\ag w' P ah [Δ (j:Int)]/\ag w' z aq [Δ ((((bP s f.sc pos v).take k).map (bl f.aj f.cs)).foldl min n.k)],
  λ_ _ _ _=>False,T,Fm (λu hu=>⟨(N.scope.1 u hu).1,N.vars u hu⟩) N.scope.2,?_,λ_ _ _ J h=>h.ext J,?_,λ_ _ _ _ _ _ _ h=>h,aD,?_,?_,?_,λ_ _ _ h=>h.elim,λ_ _ _ _ h=>h.elim⟩
 .rintro _ _ _ _ ⟨_,_,_,_,rfl,_⟩;rfl
 .rintro D k aF aG M bh ⟨q,E,G,x⟩;have a6:∀{g:Nat}{e:p9}{cs:List x1},g<aB.heap.size->ag aF g e cs->ag aG g e cs:=λbi aH=>aH.ab M λh=>by have:=h.2.1;omega
  exact⟨q.then M λr p h=>by have:=h.2.1;omega,a6 Ω E,a6 Ω G,a6 Ω x⟩
 .exact⟨Y.trans C,Z.ext C,au.ext C,av.ext C⟩
 .rintro aM D k bj bk bm br aI ⟨rfl,tl,bt,aw,e,aJ⟩ ⟨q,E,G,x⟩;cases e;intro bw H _ aL;have⟨m,hm⟩:=oS al an ad (x5 aw);have⟨aN,M⟩:=Fq ae az hm;rw[ax (v:=Γ af) Ψ ((E.ext H).Qz T),ax (v:=Δ (j:Int)) Ψ ((G.ext H).Qz T)];apply(xH (j:=j) (h.ext (q.trans H)) (aJ.ext H)).mono;rintro _ bz aO ⟨rfl,aP⟩;have a:=H.trans aP;rw[if_pos aN,M,bo,bp,ax (v:=Δ ((((bP s f.sc pos v).take k).map (bl f.aj f.cs)).foldl min n.k)) Ψ ((x.ext a).Qz T),mg];refine aE.cw (bq aq.i T rfl (x.ext a) Ξ λay I bA ac aQ=>?_);have:=a.size;have ai:Ext w ay:=(q.trans a).then I (by rintro r p rfl;omega);have aR:=h.ext ai;refine⟨⟨D,λr h=>.inl h,λ_ h=>h,(aI.ext a).put I aC (λr p=>.inl (by have p:r=z:=p;omega)) (ak.ext ai) aR (λ_=>rfl) λr p=>.inl (by have:=h.lt p;omega),ai,(E.ext a).ab I Ω,(G.ext a).ab I Ω,?_⟩,aL.trans (aO.kw.trans aQ.kw),(a.ab _).trans (I.mono λr _ h=>.inl (by have h:r=z:=h;omega))⟩;have ac:ag ay z aq [Δ (min ((((bP s f.sc pos v).take k).map (bl f.aj f.cs)).foldl min n.k) (bl f.aj f.cs tl))]:=ac;rw[u9,aw,n9,Z4,S6];exact ac
 .rintro D k bC rfl ⟨q,E,G,x⟩;rw[ax (v:=Δ ((((bP s f.sc pos v).take (bP s f.sc pos v).length).map (bl f.aj f.cs)).foldl min n.k)) Ψ (x.Qz T)];intro bD aS _;refine⟨?_,q.trans aS⟩;rw[b8 (o4 _)];rfl
end
end Go.Proofs.YtikkpokkcdocoabGreatDoor
