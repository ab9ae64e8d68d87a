/- own texts, made small by a tool (wip/ holds them as they were written): no statement of the seat. -/
import Derived.Test.YtikkpokkcdocoaaGreatDoorWd
set_option linter.defProp false
set_option linter.unusedVariables false
set_option linter.unusedSimpArgs false
set_option linter.unnecessarySimpa false
open Array renaming getElem?_eq_some_iff→j5
open Bool renaming not_true→X3,not_false→W3,eq_iff_iff→V7,and_eq_true→U3,or_eq_false_iff→U7,true_and→T6
open Decidable renaming not_not→X4
open Go renaming Value→x3,World→x4,TypeId→r9,IntKind→n9,Program→V1,FuncId→Q2
open Go.Addr renaming add_mid→T7
open Go.Builtin renaming append_→Z3
open Go.Instr renaming loadAt→u5,fieldAt→u6,storeAt→o9,indexAt→j9,buildSlice→Y8
open Go.Proofs.Tryz renaming prog→x8
open Int renaming toNat_natCast→r8,eq_ofNat_of_zero_le→U9
open List renaming getElem?_eq_some_iff→x5,mem_of_getElem?→x6,getElem?_eq_getElem→x7,getElem?_map→v8,getD_eq_getElem?_getD→u4,length_map→u7,take_add_one→u9,length_append→o4,replicate→o5,length_take→o7,take_length→o8,mem_map→l9,mem_append→j0,take_of_length_le→j4,mem_singleton→j6,eq_nil_of_length_eq_zero→c9,getElem?_set_self→b8,length_cons→Z2,map_append→Z4,length_set→Z9,getElem?_take_of_lt→Y0,getElem?_eq_none→Y2,getElem?_append_left→Y3,getElem?_set_ne→Y4,getElem?_append_right→Y5,append_assoc→Y6,ext_getElem?→Y9,getElem?_set→X1,mem_iff_getElem?→X5,drop_eq_getElem_cons→W0,range→W5,flatMap_cons→W6,mem_or_eq_of_mem_set→W7,length_eq_one_iff→V2,append_nil→V3,mem_cons→V4,pairwise_iff_getElem→V9,mem_of_mem_take→U6,map_set→U8,map_cons→T0,length_singleton→T1,foldl_cons→S0,getElem_mem→S4,getElem?_drop→S5,getElem?_zip_eq_some→S6,mem_filter→S7,map_map→R6,length_filter_le→Q0,length→Q4
open Nat renaming le_refl→o6,le_trans→Y7,mul_le_mul_right→X0,zero_add→X6,mul_one→U4,add_mul→U5,lt_of_lt_of_le→T8,pow_le_pow_right→T9,add_assoc→R7,add_sub_cancel_left→Q1
open Ne renaming symm→R2
open Option renaming toList_some→l7,some→b9,isNone_some→Z6,map_some→Z7,map_eq_some_iff→X2,getD_some→V5,map→U2,isSome_some→R4,isSome_none→R5
open Option.some renaming inj→Z0
set_option maxHeartbeats 16000000
open Option renaming some→σ,none→ν
variable{B ga gt gtb gy j pos:Nat}{c k v:Int}{a ag l sc sizes t tl:Λ}{L:List (Λ)}{S e:r9}{aM z:x3}{w w':x4}{cs:List x3}{K:x3->x4->Prop}{D:Nat->Prop}
namespace Go.Proofs.YtikkpokkcdocoaaGreatDoor
open Go Go.Vc Go.RowKit Go.Proofs Go.Proofs.Tryz
set_option maxRecDepth 100000
theorem xd{s:ao}{pos:Nat}{v:Int}:∀(sc:Λ)(p q:Nat),(jv s pos v sc p)[q]?=(sc[q]?).map λu=>if p+q=pos then[v]else bH s u
 |[],_,q=>by simp[jv]
 |u::sc,p,0=>by simp[jv]
 |u::sc,p,q+1=>by
  unfold jv;rw[List.getElem?_cons_succ,List.getElem?_cons_succ,xd sc (p+1) q,show p+1+q=p+(q+1) by omega]
theorem DS{s:ao}{pos:Nat}{v:Int}:∀(sc:Λ)(p:Nat),(jv s pos v sc p).length=sc.length
 |[],_=>rfl
 |u::sc,p=>by unfold jv;rw[Z2,DS sc (p+1),Z2]
def xe{s:ao}:t∈ck s sc pos v↔t.length=sc.length/\∀(p:Nat)u w,sc[p]?=σ u->t[p]?=σ w->if p=pos then w=v else w∈bH s u:=by
 unfold ck;rw[q0,DS];refine and_congr_right λ_=>⟨λh p u w hu hw=>?_,λh p d w a hw=>?_⟩
 .have:w∈if 0+p=pos then[v]else bH s u:=h p _ w (by rw[xd,hu];rfl) hw;rw[X6]at this;split
  .rename_i e;rw[if_pos e]at this;exact j6.1 this
  .rename_i e;rw[if_neg e]at this;exact this
 .rw[xd]at a;cases hu:sc[p]? with
  |none=>rw[hu]at a;cases a
  |some u=>
   rw[hu]at a;have a:(if 0+p=pos then[v]else bH s u)=d:=Z0 a;subst a;have:=h p u w hu hw;rw[X6];split
   .rename_i e;rw[if_pos e]at this;exact j6.2 this
   .rename_i e;rw[if_neg e]at this;exact this
def fh{x:be}:v∈aw x↔(0<=v/\v<x.un.length)/\dropped x.mask v=false:=by
 unfold aw;rw[S7];refine and_congr ?_ Ξ;have:=q1 (k:=(x.un.length:Int)) (v:=v);unfold hp at this;rw[r8]at this;exact this
def DT{f:Int->Int}{cs:Λ}(I:dE ag)(q:∀c∈cs,0<=c/\c<=k)(r:∀t∈L,0<=f (bh ag cs t)/\f (bh ag cs t)<=k):∀c∈dF f L ag cs,0<=c/\c<=k:=λc a=>by
 unfold dF at a;obtain⟨p,s,rfl⟩:=l9.1 a;obtain⟨i,hi⟩:=X5.1 s;obtain⟨h1,h⟩:=S6.1 hi;split
 .rename_i w;have j:=r p.1 w;have e:bh ag cs p.1=p.2:=by
   unfold bh;rw[iS I h1];simp only;rw[r8,u4,h];rfl
  rw[e]at j;exact j
 .exact q _ (x6 h)
section
variable{k:Int}{sizes a:Λ}{s:ao}
def je(s:ao)(j:Nat)(f:cK)(pos u:Nat)(x:be)(v:Int)(tup un:Int->Int):ao:=
 ev (dG s j f (dF tup (ck s f.sc pos v) f.ag f.cs)) u x (x.un.set v.toNat (un (x.un.getD v.toNat 0)))
def kG{f:cK}(e:bi k sizes s)(q:f∈s.funs):dE f.ag/\f.cs.length=(bc f.ag).length:=by
 obtain⟨a,h,_⟩:=e.funs f q;have j:dE f.ag:=by rw[h];exact me e.dQ.2.2 λv p=>⟨(a.scope.1 v p).1,a.vars v p⟩
 refine⟨j,?_⟩;have h1:=a.len;rw[io j,h];exact h1
def DU{u:Nat}{f:cK}{x:be}{tup un:Int->Int}(a:bi k sizes s)(e:s.funs[j]?=σ f)(h:s.vars[u]?=σ x)(p:∀t∈ck s f.sc pos v,0<=tup (bh f.ag f.cs t)/\tup (bh f.ag f.cs t)<=k)(q:0<=un (x.un.getD v.toNat 0)/\un (x.un.getD v.toNat 0)<=k):bi k sizes (je s j f pos u x v tup un):=by
 obtain⟨r,y⟩:=kG a (x6 e);have w:=(a.funs f (x6 e)).1;have z:=(x5.1 h).1;have A:=a.vars;have h1:=a.var u x _ h (x7 Ω);exact xc (DR a e (oe _ _ _ _ Ω) (DT r w.h7 p)) h (by rw[Z9]) (q2 h1.2.1 q)
def DV{u:Nat}{f:cK}{x:be}{tup un:Int->Int}(p:bi k sizes s)(Q:hh s a)(G:s.funs[j]?=σ f)(R:f.live≠0)(hu:f.sc[pos]?=σ (u:Int))(B:s.vars[u]?=σ x)(Y:v∈aw x)(S:∀w∈f.sc,∀y,s.vars[w.toNat]?=σ y->y.gone=0)(Z:∀t∈ck s f.sc pos v,0<=tup (bh f.ag f.cs t)/\tup (bh f.ag f.cs t)<=k)(aa:0<=un (x.un.getD v.toNat 0)/\un (x.un.getD v.toNat 0)<=k)(ab:∀t∈ck s f.sc pos v,∀r,0<=r->min (r+tup (bh f.ag f.cs t)+un (x.un.getD v.toNat 0)) k=min (r+bh f.ag f.cs t+x.un.getD v.toNat 0) k):
  eW k (je s j f pos u x v tup un) a=eW k s a:=by
 obtain⟨H,ac⟩:=kG p (x6 G);obtain⟨I,T,_⟩:=p.funs f (x6 G);have au:=(x5.1 B).1;have av:=p.vars;have h1:=p.var u x _ B (x7 Ω);have ax:=Q.1;obtain⟨ba,U⟩:=aF (l:=a) (i:=u) Ω;refine OQ p B G (by rw[Z9]) (q2 h1.2.1 aa) (oe _ _ _ _ Ω) (DT H I.h7 Z) U λad r ae=>?_;have V:x.gone=0:=S u (x6 hu) x (by rw[r8];exact B);obtain⟨tl,C⟩:∃tl,tl=i9 a f.sc:=⟨_,rfl⟩;have J:∀(q:Nat)w,f.sc[q]?=σ w->∃y,s.vars[w.toNat]?=σ y/\tl[q]?=σ (a.getD w.toNat 0)/\a.getD w.toNat 0∈aw y/\f.ag[q]?=σ (y.un.length:Int):=λq w hw=>by
  have hm:=x6 hw;have ay:=(I.scope.1 w hm).1;have az:=I.vars w hm;obtain⟨y,h⟩:=aF (l:=s.vars) (i:=w.toNat) Ω;obtain⟨z,K⟩:=aF (l:=sizes) (i:=w.toNat) Ω;obtain⟨L,M⟩:=aF (l:=a) (i:=w.toNat) Ω;have af:=S w hm y h;have aA:=(p.var _ y z h K).1;have aB:=p.dQ.2.2 z (x6 K);have e:a.getD w.toNat 0=L:=by rw[u4,M];rfl
  have W:=List.all_eq_true.1 ad (y,L) (x6 (S6.2 ⟨h,M⟩));have ah:=(Q.2 _ y L h M).resolve_left Ω;refine⟨y,h,by rw[C];unfold i9;rw[v8,hw];rfl,?_,?_⟩
  .rw[e,fh];refine⟨ah,?_⟩;unfold fL at W;simpa[af]using W
  .rw[T];unfold bI;rw[v8,hw,Z7,u4,K,V5];congr 1;omega
 have ai:tl.length=f.sc.length:=by rw[C];unfold i9;rw[u7]
 have aC:f.ag.length=f.sc.length:=by rw[T];unfold bI;rw[u7]
 obtain⟨m,hm⟩:∃m,cj f.ag tl 0=σ m:=by
  have:tl∈bc f.ag:=by
   rw[tC,q0];refine⟨by rw[u7];omega,λq d w X hw=>?_⟩;obtain⟨b,A⟩:=aF (l:=f.sc) (i:=q) (by have:=(x5.1 hw).1;omega);obtain⟨y,_,N,O,aj⟩:=J q b A;rw[v8,aj]at X;cases X;rw[N]at hw;cases hw;exact q1.2 (fh.1 O).1
  obtain⟨i,hi⟩:=X5.1 this;exact⟨_,iS H hi⟩
 have ak:fg a f=bh f.ag f.cs tl:=by unfold fg;rw[if_pos R,C]
 have al:fg a {f with cs:=dF tup (ck s f.sc pos v) f.ag f.cs}=if tl∈ck s f.sc pos v then tup (bh f.ag f.cs tl)else bh f.ag f.cs tl:=by
  rw[<-DQ H ac hm,C];unfold fg;rw[if_pos R]
 have am:dy (x,ba)=x.un.getD ba.toNat 0:=by unfold dy;rw[if_neg (by simp[V])]
 have an:dy ({x with un:=x.un.set v.toNat (un (x.un.getD v.toNat 0))},ba)=(x.un.set v.toNat (un (x.un.getD v.toNat 0))).getD ba.toNat 0:=by unfold dy;rw[if_neg (by simp[V])]
 obtain⟨y,h,E,P,_⟩:=J pos _ hu;rw[r8]at h E P;rw[B]at h;cases h;have ao:a.getD u 0=ba:=by rw[u4,U];rfl
 rw[ao]at E P;have aD:=(fh.1 Y).1;have aE:=(fh.1 P).1;rw[ak,al,am,an];by_cases he:ba=v
 .subst he;have F:tl∈ck s f.sc pos ba:=xe.2 ⟨ai,λq w b hw A=>by
   obtain⟨aG,ap,N,O,_⟩:=J q w hw;split
   .rename_i aq;subst aq;rw[E]at A;exact(Z0 A).symm
   .rw[N]at A;cases A;unfold bH;rw[ap];exact O⟩
  rw[if_pos F,u4 (l:=x.un.set _ _),b8 Ω,V5];exact ab tl F r ae
 .have F:tl∉ck s f.sc pos v:=λhm=>by
   have:=(xe.1 hm).2 pos _ ba hu E;rw[if_pos rfl]at this;exact he this
  rw[if_neg F,u4 (l:=x.un.set _ _),Y4 Ω,<-u4]
end
def dZ(g:Int->Int)(un L:Λ):Λ:=L.foldl (λun v=>un.set v.toNat (g (un.getD v.toNat 0))) un
theorem q7{g:Int->Int}:∀(L un:Λ),(dZ g un L).length=un.length
 |[],_=>rfl
 |v::L,un=>by
  unfold dZ;rw[S0];have:=q7 (g:=g) L (un.set v.toNat (g (un.getD v.toNat 0)));unfold dZ at this;rw[this,Z9]
theorem tH{g:Int->Int}:∀(L un:Λ)(w:Int),L.Nodup->(∀v∈L,0<=v/\v<un.length)->0<=w->(dZ g un L).getD w.toNat 0=if w∈L then g (un.getD w.toNat 0)else un.getD w.toNat 0
 |[],un,w,_,_,_=>by simp[dZ]
 |v::L,un,w,j,a,hw=>by
  obtain⟨h1,p⟩:=List.nodup_cons.1 j;have r:=a v (.head _);have q:=tH (g:=g) L (un.set v.toNat (g (un.getD v.toNat 0))) w p (λu hu=>by rw[Z9];exact a u (.tail _ hu)) hw;have e:dZ g un (v::L)=dZ g (un.set v.toNat (g (un.getD v.toNat 0))) L:=rfl;rw[e,q];by_cases f:w=v
  .subst f;have I:(un.set w.toNat (g (un.getD w.toNat 0))).getD w.toNat 0=g (un.getD w.toNat 0):=by
    rw[u4 (l:=un.set _ _),b8 Ω];rfl
   rw[if_neg h1,if_pos (.head _),I]
  .have I:(un.set v.toNat (g (un.getD v.toNat 0))).getD w.toNat 0=un.getD w.toNat 0:=by
    rw[u4 (l:=un.set _ _),Y4 Ω,<-u4]
   rw[I];by_cases hm:w∈L
   .rw[if_pos hm,if_pos (.tail _ hm)]
   .rw[if_neg hm,if_neg λh=>(V4.1 h).elim f hm]
def q8(x:be):(aw x).Nodup:=by
 unfold aw;refine List.Nodup.sublist List.filter_sublist ?_;exact List.Pairwise.map _ (λa b e=>Ω) List.nodup_range
theorem DW{k:Int}{g:Int->Int}:∀(L un:Λ),(∀c∈un,0<=c/\c<=k)->L.Nodup->(∀v∈L,0<=v/\v<un.length)->(∀v∈L,0<=g (un.getD v.toNat 0)/\g (un.getD v.toNat 0)<=k)->∀c∈dZ g un L,0<=c/\c<=k
 |[],un,h,_,_,_,c,a=>h c a
 |v::L,un,h,p,f,j,c,a=>by
  obtain⟨h1,q⟩:=List.nodup_cons.1 p;have r:=f v (.head _);refine DW (g:=g) L (un.set v.toNat (g (un.getD v.toNat 0))) (q2 h (j v (.head _))) q (λu hu=>by rw[Z9];exact f u (.tail _ hu)) (λu hu=>?_) c a;have s:u≠v:=λe=>h1 (e▸hu);have w:=f u (.tail _ hu);rw[u4 (l:=un.set _ _),Y4 Ω,<-u4];exact j u (.tail _ hu)
section
variable{k:Int}{sizes a:Λ}{s:ao}
def hq(s:ao)(u:Nat)(x:be)(g z:Int->Int):ao:={ev s u x (dZ g x.un (aw x))with zero:=z s.zero}
def bi.OR(a:bi k sizes s)(h:0<=c/\c<=k):bi k sizes {s with zero:=c}:=⟨a.fx,a.dQ,h,a.vars,a.var,a.funs⟩
def xf{u:Nat}{x:be}{g z:Int->Int}(a:bi k sizes s)(e:s.vars[u]?=σ x)(f:∀v∈aw x,0<=g (x.un.getD v.toNat 0)/\g (x.un.getD v.toNat 0)<=k)(h:0<=z s.zero/\z s.zero<=k):bi k sizes (hq s u x g z):=by
 have p:=(x5.1 e).1;have q:=a.vars;have h1:=a.var u x _ e (x7 Ω);exact(xc a e (q7 _ _) (DW _ _ h1.2.1 (q8 x) (λv j=>(fh.1 j).1) f)).OR h
def DX{u:Nat}{x:be}{g z:Int->Int}(e:bi k sizes s)(q:hh s a)(f:s.vars[u]?=σ x)(j:x.gone=0)(C:∀v∈aw x,0<=g (x.un.getD v.toNat 0)/\g (x.un.getD v.toNat 0)<=k)(E:0<=z s.zero/\z s.zero<=k)(F:∀v∈aw x,∀r,0<=r->min (r+g (x.un.getD v.toNat 0)+z s.zero) k=min (r+x.un.getD v.toNat 0+s.zero) k):eW k (hq s u x g z) a=eW k s a:=by
 have G:=xf e f C E;have O:=(x5.1 f).1;have P:=e.vars;have Q:=q.1;obtain⟨ba,p⟩:=aF (l:=a) (i:=u) Ω;rw[oh G,oh e];have h:(s.vars.zip a)[u]?=σ (x,ba):=S6.2 ⟨f,p⟩;obtain⟨un,w⟩:∃un,un=dZ g x.un (aw x):=⟨_,rfl⟩;have H:((hq s u x g z).vars.zip a)=(s.vars.zip a).set u ({x with un:=un},ba):=by rw[w];exact tF p
 have I:((s.vars.zip a).set u ({x with un:=un},ba)).all fL=(s.vars.zip a).all fL:=tG h rfl;rw[H,I];split
 .rename_i J;have K:(((s.vars.zip a).set u ({x with un:=un},ba)).map dy).sum=((s.vars.zip a).map dy).sum-dy (x,ba)+dy ({x with un:=un},ba):=by
   rw[U8];exact xb (by rw[v8,h];rfl)
  have h1:=q5 (tE (a:=a) e) (i:=u) (x:=dy (x,ba)) (by rw[v8,h];rfl);have R:=q4 _ (q6 (a:=a) e);have y:=List.all_eq_true.1 J (x,ba) (x6 h);have A:=(q.2 _ x ba f p).resolve_left Ω;have B:ba∈aw x:=by
   rw[fh];refine⟨A,?_⟩;unfold fL at y;simpa[j]using y
  have L:dy (x,ba)=x.un.getD ba.toNat 0:=by unfold dy;rw[if_neg (by simp[j])]
  have M:dy ({x with un:=un},ba)=g (x.un.getD ba.toNat 0):=by
   unfold dy;rw[if_neg (by simp[j])];show un.getD ba.toNat 0=_;rw[w,tH _ _ _ (q8 x) (λv N=>(fh.1 N).1) A.1,if_pos B]
  rw[K,M];rw[L]at h1 ⊢;have S:=F ba B (((s.vars.zip a).map dy).sum-x.un.getD ba.toNat 0+(s.funs.map (fg a)).sum) Ω;show min (z s.zero+_+(s.funs.map (fg a)).sum) k=_;omega
 .rfl
def xg{m:Nat}{w:Int}(a:0<=v)(hw:0<=w):dropped ((m ||| 2 ^ v.toNat:Nat):Int) w=(dropped (m:Int) w||decide (w=v)):=by
 unfold dropped;rw[r8,r8,Nat.testBit_or,Nat.testBit_two_pow];congr 1;exact decide_eq_decide.2 ⟨λh=>Ω,λh=>Ω⟩
def jw{i:Nat}{x:be}(a:s.vars[i]?=σ x):dM s i v.toNat={s with vars:=s.vars.set i {x with mask:=((x.mask.toNat ||| 2 ^ v.toNat:Nat):Int)}}:=by
 unfold dM;rw[a]
def xh{i:Nat}{x:be}(a:bi k sizes s)(e:s.vars[i]?=σ x)(j:0<=v/\v<x.un.length):bi k sizes (dM s i v.toNat):=by
 rw[jw e];have p:=(x5.1 e).1;have q:=a.vars;have h1:=a.var i x _ e (x7 Ω);have r:=a.dQ.2.2 _ (S4 (l:=sizes) (n:=i) Ω);refine a.tA e rfl h1.2.1 ⟨by simp only;omega,?_⟩;have f:x.mask.toNat<2 ^ 32:=by have:=h1.2.2;omega
 have h:2 ^ v.toNat<2 ^ 32:=Nat.pow_lt_pow_right Ω Ω;have:=Nat.or_lt_two_pow f h;simp only;omega
def DY{i:Nat}{ba:Int}{x:be}(j:bi k sizes s)(C:hh s a)(f:s.vars[i]?=σ x)(E:x.gone=0)(z:0<=v/\v<x.un.length)(p:a[i]?=σ ba):eW k (dM s i v.toNat) a=if ba=v then k else eW k s a:=by
 have F:=xh j f z;rw[oh F,oh j];have r:(s.vars.zip a)[i]?=σ (x,ba):=S6.2 ⟨f,p⟩;have G:=(C.2 _ x ba f p).resolve_left Ω;obtain⟨y,w⟩:∃y:be,y={x with mask:=((x.mask.toNat ||| 2 ^ v.toNat:Nat):Int)}:=⟨_,rfl⟩;have H:((dM s i v.toNat).vars.zip a)=(s.vars.zip a).set i (y,ba):=by rw[jw f,w];exact tF p
 have A:(dM s i v.toNat).zero=s.zero/\(dM s i v.toNat).funs=s.funs:=by rw[jw f];exact⟨rfl,rfl⟩
 have B:fL (y,ba)=(fL (x,ba)&&decide (ba≠v)):=by
  unfold fL;rw[w];simp only[E];rw[xg z.1 G.1];have hm:((x.mask.toNat:Nat):Int)=x.mask:=by
   have N:=(x5.1 f).1;have O:=j.vars;have h1:=j.var i x _ f (x7 Ω);omega
  rw[hm];by_cases e:ba=v
  .simp[e]
  .simp[e]
 rw[H,A.1,A.2];by_cases e:ba=v
 .rw[if_pos e,if_neg];intro I;have:=List.all_eq_true.1 I (y,ba) (x6 (b8 (x5.1 r).1));rw[B]at this;simp[e]at this
 .have J:((s.vars.zip a).set i (y,ba)).all fL=(s.vars.zip a).all fL:=tG r (by rw[B];simp[e]);have K:((s.vars.zip a).set i (y,ba)).map dy=(s.vars.zip a).map dy:=by
   rw[U8];have L:dy (y,ba)=dy (x,ba):=by rw[w];rfl
   rw[L];refine Y9 λq=>?_;rw[X1];split
   .rename_i M;subst M;split
    .rw[v8,r];rfl
    .rename_i h;rw[Y2 Ω]
   .rfl
  rw[if_neg e,J,K]
def OS{i:Nat}{ba:Int}{x:be}(h:hh s a)(e:s.vars[i]?=σ x)(j:x.gone=0)(f:a[i]?=σ ba)(p:ba∉aw x):eW k s a=k:=by
 have q:=(h.2 _ x ba e f).resolve_left Ω;unfold eW;rw[if_neg];intro r;have:=List.all_eq_true.1 r (x,ba) (x6 (S6.2 ⟨e,f⟩));unfold fL at this;have w:dropped x.mask ba=false:=by simpa[j]using this
 exact p (fh.2 ⟨q,w⟩)
end
end Go.Proofs.YtikkpokkcdocoaaGreatDoor
namespace Go.Vc
open Go Go.RowKit
section
variable{P:V1}{w:x4}{α:Type}[al α]{S R:af}
def DZ{k:Nat}{vs:List (List x3)}{i:Nat}{c:List x3}(h:∀x∈vs,x.length=k)(e:c.length=k)(hi:i<vs.length):over vs.flatten (i*k) c=(vs.set i c).flatten:=by
 have:=vQ (f:=id) (k:=k) (L:=vs) (i:=i) (a:=c) h e hi;rw[List.flatMap_id,List.flatMap_id]at this;exact this
def OT{v:x3}{l:List α}{i:Nat}(h:bl S R w [v] l)(T:i<l.length):∃g cap full p,v= .slice (σ ⟨g,0,ν⟩) l.length cap/\ac w g p full/\S g/\i*al.n α+al.n α<=full.length/\
  ∀{A:af}{cs:List x3}{a:α},bl A R w cs a->(∀r,r<w.heap.size->S r->¬A r/\¬R r)->∀w',ae (λr=>r=g) w w'->ac w' g p (over full (i*al.n α) cs)->bl (λr=>S r\/A r) R w' [v] (l.set i a):=by
 obtain⟨vs,g,F,s,he,I,hm⟩:=il h;obtain⟨U,p,V⟩:=hm rfl;obtain⟨ah,⟨rfl,ai⟩|⟨cap,full,rfl,E,H,W,J,X⟩⟩:=id V
 .omega
 have K:vs.length=l.length:=he.1;have Y:(i+1)*al.n α<=l.length*al.n α:=X0 _ T;have Z:l.length*al.n α<=full.length:=by rw[J];exact X0 _ H
 rw[U5,Nat.one_mul]at Y;have y:S g:=U.resolve_left Ξ;refine⟨g,cap,full,p,rfl,E,y,Ω,λ{A cs a}L z w' M ab=>?_⟩;have N:=al.len L;have O:¬A g:=(z g E.lt y).1;have P:¬R g:=(z g E.lt y).2;have ad:∀c∈vs.set i cs,c.length=al.n α:=λc x=>by
  rcases W7 x with e|rfl
  .exact he.len c e
  .exact N
 have Q:bX w' g p (al.n α) (.slice (σ ⟨g,0,ν⟩) l.length cap) (l.set i a).length (vs.set i cs).flatten:=by
  refine⟨by rw[ko ad,Z9,Z9,K],.inr ⟨cap,_,by rw[Z9],ab,by rw[Z9];exact H,W,by rw[lZ,J],?_⟩⟩;rw[Z9,sN Ω Z,X,DZ he.len N Ω]
 refine⟨_,rfl,vs.set i cs,g,λj r=>if j=i then A r/\r<w.heap.size else F j r/\r<w.heap.size,⟨λj r f=>?_,λ_ j f=>?_,λ_ j q r ag h1 e=>?_⟩,⟨by simp[K],λj c a' x B=>?_⟩,?_,λ_=>⟨.inr (.inl y),p,Q⟩⟩
 .split at f
  .exact .inr f.1
  .exact .inl (s.sub j r f.1)
 .split at f
  .exact O f.1
  .exact s.top rfl j f.1
 .split at h1<;>split at e
  .omega
  .exact (z r e.2 (s.sub q r e.1)).1 h1.1
  .exact (z r h1.2 (s.sub j r h1.1)).1 e.1
  .exact s.gK rfl j q r ag h1.1 e.1
 .by_cases C:j=i
  .subst C;rw[b8 Ω]at x B;cases x;cases B;have G:bl (λr=>if j=j then A r/\r<w.heap.size else F j r/\r<w.heap.size) R w cs a:=al.mono L (λr f h=>by rw[if_pos rfl];exact⟨h,f⟩) λ_ _ h=>h;refine al.aa G M λr f h1 e=>?_;have e:r=g:=e;subst e;rcases h1 with h1|h1
   .simp only[if_true]at h1;exact O h1.1
   .exact P h1
  .rw[Y4 (R2 C)]at x B;have G:bl (λr=>if j=i then A r/\r<w.heap.size else F j r/\r<w.heap.size) R w c a':=al.mono (he.2 j c a' x B) (λr f h=>by rw[if_neg C];exact⟨h,f⟩) λ_ _ h=>h;refine al.aa G M λr f h1 e=>?_;have e:r=g:=e;subst e;rcases h1 with h1|h1
   .simp only[if_neg C]at h1;exact s.top rfl j h1.1
   .exact P h1
 .have:=nM (S:=λr=>(S r\/A r)\/R r) Q (.inr (.inl (.inl y)));exact this
def D0{t:r9}{C:n9}{i b:Nat}{y:Int}{v x:x3}{l:List α}{a:α}{A:af}{K:Unit->x4->Prop}(j:al.n α=1)(E:y=(i:Int))(F:P.underlying t=σ (.slice e))(hi:aQ P e 1 b z)(h:bl S R w [v] l)(q:i<l.length)(G:x.cells= #[x])(s:bl A R w [x] a)(H:∀r,r<w.heap.size->S r->¬A r/\¬R r)(I:∀w',ae S w w'->bl (λr=>S r\/A r) R w' [v] (l.set i a)->K () w'):V P (j9 t v (.int C y)) w λp=>aB P (o9 e p x) w K:=by
 subst E;obtain⟨g,cap,full,Q,rfl,J,L,M,N⟩:=OT h q;rw[j]at M;rw[eK F hi q λ_=>rfl];refine bp (o:=0+i*1) hi G (al.one s x (.head _)) J Ω λw' B _ O=>I w' (B.mono λr _ f=>by have f:r=g:=f;subst f;exact L) (N s H w' B ?_);rw[j,X6]at*;exact O
end
end Go.Vc
namespace Go.Proofs.YtikkpokkcdocoaaGreatDoor
open Go Go.Vc Go.RowKit Go.Proofs Go.Proofs.Tryz
set_option maxRecDepth 100000
abbrev iG:Type:=(Rd (Λ)×Rd (Λ)×Λ)×Bool
abbrev lx:Type:=Int×Rd (Λ)×Rd (Λ)
def hM(f:cK):iG:=((f.sc,f.ag,f.cs),decide (f.live≠0))
def pC(e:tm):lx:=(e.v,e.sc,e.pt)
def bt(m:Bool)(A:Nat->af)(R:af)(w:x4)(cs:List x3)(k:Int)(sizes:Λ)(zero:Int)(D:List (Λ))(G:List Bool)(aT:List (Λ))(H:List iG)(E:List lx):Prop:=
 ∃szv a e f h p,cs=[Δ k,szv,Δ zero,a,e,f,h,p]/\Seen R w [szv] sizes/\
 al.rep m (A 0) R w [a] D/\al.rep m (A 1) R w [e] G/\al.rep m (A 2) R w [f] aT/\al.rep m (A 3) R w [h] H/\al.rep m (A 4) R w [p] E/\
 (m=true->(∀i j r,i≠j->A i r->¬A j r)/\∀i r,A i r->¬R r)
abbrev fQ(m:Bool)(A:Nat->af)(R:af)(w:x4)(cs:List x3)(k:Int)(sizes:Λ)(s:ao):Prop:=
 bt m A R w cs k sizes s.zero (s.vars.map aw) (s.vars.map λx=>decide (x.gone≠0)) (s.vars.map (·.un)) (s.funs.map hM) (s.cP.map pC)
def fR(w:x4)(v:x3)(k:Int)(sizes:Λ)(s:ao):Prop:=∃cs,v= .agg cs.toArray/\fQ false (λ_ _=>False) fc w cs k sizes s
def fi(A:Nat->af)(i:Nat)(B:af):Nat->af:=λj=>if j=i then B else A j
section
variable{m:Bool}{A:Nat->af}{R:af}{w w':x4}{cs:List x3}{k zero:Int}{sizes:Λ}{D:List (Λ)}{G:List Bool}{aT:List (Λ)}{H:List iG}{E:List lx}{s:ao}
def bt.len(h:bt m A R w cs k sizes zero D G aT H E):cs.length=8/\∀u∈cs,u.oneCell'=true:=by
 obtain⟨szv,q,r,s,x,y,rfl,h1,a,e,f,j,p,_⟩:=h;refine⟨rfl,λu hu=>?_⟩;simp only[V4,List.not_mem_nil,or_false]at hu;rcases hu with rfl|rfl|rfl|rfl|rfl|rfl|rfl|rfl
 .rfl
 .exact hY h1
 .rfl
 .exact hY a
 .exact hY e
 .exact hY f
 .exact hY j
 .exact hY p
def bt.aa{T:af}(h:bt m A R w cs k sizes zero D G aT H E)(a:ae T w w')(f:∀r,r<w.heap.size->(∃i,A i r)\/R r->¬T r):bt m A R w' cs k sizes zero D G aT H E:=by
 obtain⟨szv,j,p,q,s,x,rfl,h1,y,z,B,C,F,I⟩:=h;have ap:∀i r,r<w.heap.size->A i r\/R r->¬T r:=λi r e h=>f r e (h.imp (λh=>⟨i,h⟩) id);exact⟨szv,j,p,q,s,x,rfl,al.aa h1 a λr e h=>f r e (h.elim False.elim .inr),al.aa y a (ap 0),al.aa z a (ap 1),al.aa B a (ap 2),al.aa C a (ap 3),al.aa F a (ap 4),I⟩
def bt.ext(h:bt m A R w cs k sizes zero D G aT H E)(a:Ext w w'):bt m A R w' cs k sizes zero D G aT H E:=h.aa (a.aa λ_=>False) λ_ _ _ h=>h
def fQ.pD(h:fQ m A R w cs k sizes s):fR w (.agg cs.toArray) k sizes s:=by
 obtain⟨szv,a,e,f,j,p,rfl,h1,q,r,x,y,z,B⟩:=h;exact⟨_,rfl,szv,a,e,f,j,p,rfl,iO h1,iO q,iO r,iO x,iO y,iO z,λh=>by cases h⟩
def fR.ext{v:x3}(h:fR w v k sizes s)(a:Ext w w'):fR w' v k sizes s:=by
 obtain⟨cs,rfl,h⟩:=h;exact⟨cs,rfl,h.ext a⟩
def bt.old(h:bt true A R w cs k sizes zero D G aT H E):bt true (λi r=>A i r/\r<w.heap.size) R w cs k sizes zero D G aT H E:=by
 obtain⟨szv,f,p,q,s,x,rfl,h1,a,y,z,B,C,e⟩:=h;obtain⟨e,F⟩:=e rfl;have hm:∀i r,r<w.heap.size->A i r->A i r/\r<w.heap.size:=λi r I h=>⟨h,I⟩;exact⟨szv,f,p,q,s,x,rfl,h1,al.mono a (hm 0) λ_ _ h=>h,al.mono y (hm 1) λ_ _ h=>h,al.mono z (hm 2) λ_ _ h=>h,al.mono B (hm 3) λ_ _ h=>h,al.mono C (hm 4) λ_ _ h=>h,
  λ_=>⟨λi j r J h1 a=>e i j r J h1.1 a.1,λi r h=>F i r h.1⟩⟩
def q9{i:Nat}{B:af}(h:∀i j r,i≠j->A i r->¬A j r)(e:∀j r,j≠i->B r->¬A j r):∀p q r,p≠q->fi A i B p r->¬fi A i B q r:=λp q r f h1 a=>by
 unfold fi at h1 a;split at h1<;>split at a
 .omega
 .exact e q r (by assumption) h1 a
 .exact e p r (by assumption) a h1
 .exact h p q r f h1 a
def ra{i:Nat}{B:af}(h:∀i r,A i r->¬R r)(a:∀r,B r->¬R r):∀p r,fi A i B p r->¬R r:=λp r h1=>by
 unfold fi at h1;split at h1
 .exact a r h1
 .exact h p r h1
def bt.xi{B:af}{x:x3}{D':List (Λ)}(h:bt true A R w cs k sizes zero D G aT H E){T:af}(e:ae T w w')(p:∀r,T r->A 0 r\/(∀j,¬A j r)/\¬R r)(y:bl B R w' [x] D')(z:∀j r,j≠0->B r->¬A j r)(C:∀r,B r->¬R r):bt true (fi A 0 B) R w' (cs.set 3 x) k sizes zero D' G aT H E:=by
 obtain⟨szv,Q,F,I,J,K,rfl,h1,a,L,M,N,O,f⟩:=h;obtain⟨f,q⟩:=f rfl;have s:∀r,R r->¬T r:=λr h a=>(p r a).elim (λa=>q 0 r a h) λa=>a.2 h;have ap:∀j r,j≠0->r<w.heap.size->A j r\/R r->¬T r:=λj r P _ h a=>h.elim (λh=>(p r a).elim (λa=>f j 0 r P h a) λa=>a.1 j h) λh=>s r h a;refine⟨szv,x,F,I,J,K,rfl,al.aa h1 e λr _ h=>h.elim False.elim (s r),?_,?_,?_,?_,?_,λ_=>⟨q9 f z,ra q C⟩⟩
 .exact y
 .exact al.aa L e λr=>ap 1 r Ω
 .exact al.aa M e λr=>ap 2 r Ω
 .exact al.aa N e λr=>ap 3 r Ω
 .exact al.aa O e λr=>ap 4 r Ω
def bt.OU{B:af}{x:x3}{p:List Bool}(h:bt true A R w cs k sizes zero D G aT H E){T:af}(e:ae T w w')(q:∀r,T r->A 1 r\/(∀j,¬A j r)/\¬R r)(z:bl B R w' [x] p)(C:∀j r,j≠1->B r->¬A j r)(F:∀r,B r->¬R r):bt true (fi A 1 B) R w' (cs.set 4 x) k sizes zero D p aT H E:=by
 obtain⟨szv,I,Q,J,K,L,rfl,h1,a,S,M,N,O,f⟩:=h;obtain⟨f,s⟩:=f rfl;have y:∀r,R r->¬T r:=λr h a=>(q r a).elim (λa=>s 1 r a h) λa=>a.2 h;have ap:∀j r,j≠1->r<w.heap.size->A j r\/R r->¬T r:=λj r P _ h a=>h.elim (λh=>(q r a).elim (λa=>f j 1 r P h a) λa=>a.1 j h) λh=>y r h a;refine⟨szv,I,x,J,K,L,rfl,al.aa h1 e λr _ h=>h.elim False.elim (y r),?_,?_,?_,?_,?_,λ_=>⟨q9 f C,ra s F⟩⟩
 .exact al.aa a e λr=>ap 0 r Ω
 .exact z
 .exact al.aa M e λr=>ap 2 r Ω
 .exact al.aa N e λr=>ap 3 r Ω
 .exact al.aa O e λr=>ap 4 r Ω
def bt.j1{B:af}{x:x3}{p:List (Λ)}(h:bt true A R w cs k sizes zero D G aT H E){T:af}(e:ae T w w')(q:∀r,T r->A 2 r\/(∀j,¬A j r)/\¬R r)(z:bl B R w' [x] p)(C:∀j r,j≠2->B r->¬A j r)(F:∀r,B r->¬R r):bt true (fi A 2 B) R w' (cs.set 5 x) k sizes zero D G p H E:=by
 obtain⟨szv,I,J,Q,K,L,rfl,h1,a,M,S,N,O,f⟩:=h;obtain⟨f,s⟩:=f rfl;have y:∀r,R r->¬T r:=λr h a=>(q r a).elim (λa=>s 2 r a h) λa=>a.2 h;have ap:∀j r,j≠2->r<w.heap.size->A j r\/R r->¬T r:=λj r P _ h a=>h.elim (λh=>(q r a).elim (λa=>f j 2 r P h a) λa=>a.1 j h) λh=>y r h a;refine⟨szv,I,J,x,K,L,rfl,al.aa h1 e λr _ h=>h.elim False.elim (y r),?_,?_,?_,?_,?_,λ_=>⟨q9 f C,ra s F⟩⟩
 .exact al.aa a e λr=>ap 0 r Ω
 .exact al.aa M e λr=>ap 1 r Ω
 .exact z
 .exact al.aa N e λr=>ap 3 r Ω
 .exact al.aa O e λr=>ap 4 r Ω
def bt.j2{B:af}{x:x3}{p:List iG}(h:bt true A R w cs k sizes zero D G aT H E){T:af}(e:ae T w w')(q:∀r,T r->A 3 r\/(∀j,¬A j r)/\¬R r)(z:bl B R w' [x] p)(C:∀j r,j≠3->B r->¬A j r)(F:∀r,B r->¬R r):bt true (fi A 3 B) R w' (cs.set 6 x) k sizes zero D G aT p E:=by
 obtain⟨szv,I,J,K,Q,L,rfl,h1,a,M,N,S,O,f⟩:=h;obtain⟨f,s⟩:=f rfl;have y:∀r,R r->¬T r:=λr h a=>(q r a).elim (λa=>s 3 r a h) λa=>a.2 h;have ap:∀j r,j≠3->r<w.heap.size->A j r\/R r->¬T r:=λj r P _ h a=>h.elim (λh=>(q r a).elim (λa=>f j 3 r P h a) λa=>a.1 j h) λh=>y r h a;refine⟨szv,I,J,K,x,L,rfl,al.aa h1 e λr _ h=>h.elim False.elim (y r),?_,?_,?_,?_,?_,λ_=>⟨q9 f C,ra s F⟩⟩
 .exact al.aa a e λr=>ap 0 r Ω
 .exact al.aa M e λr=>ap 1 r Ω
 .exact al.aa N e λr=>ap 2 r Ω
 .exact z
 .exact al.aa O e λr=>ap 4 r Ω
def bt.OV{B:af}{x:x3}{p:List lx}(h:bt true A R w cs k sizes zero D G aT H E){T:af}(e:ae T w w')(q:∀r,T r->A 4 r\/(∀j,¬A j r)/\¬R r)(z:bl B R w' [x] p)(C:∀j r,j≠4->B r->¬A j r)(F:∀r,B r->¬R r):bt true (fi A 4 B) R w' (cs.set 7 x) k sizes zero D G aT H p:=by
 obtain⟨szv,I,J,K,L,Q,rfl,h1,a,M,N,O,S,f⟩:=h;obtain⟨f,s⟩:=f rfl;have y:∀r,R r->¬T r:=λr h a=>(q r a).elim (λa=>s 4 r a h) λa=>a.2 h;have ap:∀j r,j≠4->r<w.heap.size->A j r\/R r->¬T r:=λj r P _ h a=>h.elim (λh=>(q r a).elim (λa=>f j 4 r P h a) λa=>a.1 j h) λh=>y r h a;refine⟨szv,I,J,K,L,x,rfl,al.aa h1 e λr _ h=>h.elim False.elim (y r),?_,?_,?_,?_,?_,λ_=>⟨q9 f C,ra s F⟩⟩
 .exact al.aa a e λr=>ap 0 r Ω
 .exact al.aa M e λr=>ap 1 r Ω
 .exact al.aa N e λr=>ap 2 r Ω
 .exact al.aa O e λr=>ap 3 r Ω
 .exact z
def bt.OW{z:Int}(h:bt m A R w cs k sizes zero D G aT H E):bt m A R w (cs.set 2 (Δ z)) k sizes z D G aT H E:=by
 obtain⟨szv,a,e,f,j,p,rfl,h1,q,r,s,x,y,B⟩:=h;exact⟨szv,a,e,f,j,p,rfl,h1,q,r,s,x,y,B⟩
end
def oi{α:Type}[al α]{st t J:r9}{pl:List (Nat×Nat)}{gs c q b L:Nat}{M y v:x3}{box:List x3}{S A R:af}{l:List α}{a:α}{K:x4->Prop}(N:bL x8 st pl)(O:pl[c]?=σ (c,q+1))(P:x8.underlying t=σ (.slice e))(Q:aQ x8 t 1 L M)(hi:aQ x8 e (al.n α) b z)(T:z.cells.size=al.n α)(C:ac w gs st box)(W:box[c]?=σ v)(h:bl S R w [v] l)(I:cd w (al.n α) y 1 cs)(X:bl A R w cs a)(Y:∀r,r<w.heap.size->S r->¬A r/\¬R r)(p:¬S gs/\¬A gs/\¬R gs)(ah:(l.length+1)*b<=140737488355328)(ai:l.length+1<=1000000)(Z:∀j w',ae (λr=>S r\/r=gs) w w'->ac w' gs st (box.set c j)->bl (λr=>S r\/A r\/w.heap.size<=r) R w' [j] (l++[a])->K w'):
  aB x8 (Z3 #[t,t] J #[v,y]) w λj U=>V x8 (u6 st (Γ gs) c) U λab=>aB x8 (o9 t ab j) U λ_ s=>K s:=by
 have ad:=(x5.1 W).1;refine mH (A:=A) P hi T h I X (λr E I f=>?_) Ω Ω λj U x F=>?_
 .have:=Y r E I;exact f.elim this.1 this.2
 have ag:ac U gs st box:=C.aa F p.1;rw[aS N O];refine bp (o:=0+c) Q (kp x) (hY x) ag (by rw[X6];exact ad) λs G aj H=>?_;refine Z j s ((F.mono λr _ h=>.inl h).trans (G.mono λr _ h=>.inr h)) (by rw[X6]at H;exact H) (al.aa x G λr E f B=>?_);have B:r=gs:=B;subst B;have ak:=C.lt;rcases f with f|f
 .rcases f with f|f|f
  .exact p.1 f
  .exact p.2.1 f
  .omega
 .exact p.2.2 f
section
variable{A:Nat->af}{B R:af}{w:x4}{cs xs:List x3}{gs:Nat}{y v:x3}{k zero:Int}{sizes:Λ}{D:List (Λ)}{G:List Bool}{aT:List (Λ)}{H:List iG}{E:List lx}{K:x4->Prop}
def bt.OX(h:bt true A R w cs k sizes zero D G aT H E)(J:ac w gs aC cs)(x:cs[3]?=σ v)(f:∀j r,A j r->gs<r)(s:∀r,R r->r<gs)(I:cd w 1 y 1 xs)(W:bl B R w xs a)(q:∀r,r<w.heap.size->B r->(∀j,¬A j r)/\gs<r)(aj:D.length<=1000)(X:∀aI bB w',ae (λr=>gs<=r) w w'->ac w' gs aC bB->bt true aI R w' bB k sizes zero (D++[a]) G aT H E->(∀j r,aI j r->gs<r)->(∀j,j≠3->bB[j]?=cs[j]?)->K w'):
  aB x8 (Z3 #[b6,b6] S #[v,y]) w λL U=>V x8 (u6 aC (Γ gs) 3) U λY=>aB x8 (o9 b6 Y L) U λ_ z=>K z:=by
 have M:=h.old;have Z:=J.lt;obtain⟨szv,aa,ak,am,ao,N,ab,h1,ad,ap,aq,au,av,C⟩:=id M;obtain⟨C,O⟩:=C rfl;have N:v=aa:=by rw[ab]at x;exact(Z0 x).symm
 subst N;have af:bl (λr=>B r/\r<w.heap.size) R w xs a:=al.mono W (λr e h=>⟨h,e⟩) λ_ _ h=>h;refine oi (pl:=_) (l:=D) aC.p rfl b6.u b6.i an.i rfl J x ad I af (λr e P=>⟨λag=>(q r e ag.1).1 0 P.1,O 0 r P⟩) ⟨λh=>by have:=f 0 gs h.1;omega,λh=>by have:=(q gs Z h.1).2;omega,λh=>by have:=s gs h;omega⟩ Ω Ω λL z Q ah ai=>?_;refine X _ _ z (Q.mono λr _ h=>h.elim (λh=>by have:=f 0 r h.1;omega) λh=>Ω) ah (M.xi Q (λr e=>?_) ai (λj r F e=>?_) λr e=>?_) (λj r e=>?_) λj F=>?_
 .rcases e with e|rfl
  .exact .inl e
  .exact .inr ⟨λj h=>by have:=f j r h.1;omega,λh=>by have:=s r h;omega⟩
 .rcases e with e|e|e
  .exact C 0 j r (R2 F) e
  .exact λh=>(q r e.2 e.1).1 j h.1
  .exact λh=>by have:=h.2;omega
 .rcases e with e|e|e
  .exact O 0 r e
  .exact λh=>by have:=(q r e.2 e.1).2;have:=s r h;omega
  .exact λh=>by have:=s r h;omega
 .unfold fi at e;split at e
  .rcases e with e|e|e
   .exact f 0 r e.1
   .exact (q r e.2 e.1).2
   .omega
  .exact f j r e.1
 .rw[Y4 (R2 F)]
def bt.OY{a:Bool}(h:bt true A R w cs k sizes zero D G aT H E)(J:ac w gs aC cs)(x:cs[4]?=σ v)(f:∀j r,A j r->gs<r)(s:∀r,R r->r<gs)(I:cd w 1 y 1 xs)(W:bl B R w xs a)(q:∀r,r<w.heap.size->B r->(∀j,¬A j r)/\gs<r)(aj:G.length<=1000)(X:∀aI bB w',ae (λr=>gs<=r) w w'->ac w' gs aC bB->bt true aI R w' bB k sizes zero D (G++[a]) aT H E->(∀j r,aI j r->gs<r)->(∀j,j≠4->bB[j]?=cs[j]?)->K w'):
  aB x8 (Z3 #[hU,hU] S #[v,y]) w λL U=>V x8 (u6 aC (Γ gs) 4) U λY=>aB x8 (o9 hU Y L) U λ_ z=>K z:=by
 have M:=h.old;have Z:=J.lt;obtain⟨szv,ak,aa,am,an,N,ab,h1,ao,ad,ap,aq,au,C⟩:=id M;obtain⟨C,O⟩:=C rfl;have N:v=aa:=by rw[ab]at x;exact(Z0 x).symm
 subst N;have af:bl (λr=>B r/\r<w.heap.size) R w xs a:=al.mono W (λr e h=>⟨h,e⟩) λ_ _ h=>h;refine oi (pl:=_) (l:=G) aC.p rfl hU.u hU.i ec.i rfl J x ad I af (λr e P=>⟨λag=>(q r e ag.1).1 1 P.1,O 1 r P⟩) ⟨λh=>by have:=f 1 gs h.1;omega,λh=>by have:=(q gs Z h.1).2;omega,λh=>by have:=s gs h;omega⟩ Ω Ω λL z Q ah ai=>?_;refine X _ _ z (Q.mono λr _ h=>h.elim (λh=>by have:=f 1 r h.1;omega) λh=>Ω) ah (M.OU Q (λr e=>?_) ai (λj r F e=>?_) λr e=>?_) (λj r e=>?_) λj F=>?_
 .rcases e with e|rfl
  .exact .inl e
  .exact .inr ⟨λj h=>by have:=f j r h.1;omega,λh=>by have:=s r h;omega⟩
 .rcases e with e|e|e
  .exact C 1 j r (R2 F) e
  .exact λh=>(q r e.2 e.1).1 j h.1
  .exact λh=>by have:=h.2;omega
 .rcases e with e|e|e
  .exact O 1 r e
  .exact λh=>by have:=(q r e.2 e.1).2;have:=s r h;omega
  .exact λh=>by have:=s r h;omega
 .unfold fi at e;split at e
  .rcases e with e|e|e
   .exact f 1 r e.1
   .exact (q r e.2 e.1).2
   .omega
  .exact f j r e.1
 .rw[Y4 (R2 F)]
def bt.OZ(h:bt true A R w cs k sizes zero D G aT H E)(J:ac w gs aC cs)(x:cs[5]?=σ v)(f:∀j r,A j r->gs<r)(s:∀r,R r->r<gs)(I:cd w 1 y 1 xs)(W:bl B R w xs a)(q:∀r,r<w.heap.size->B r->(∀j,¬A j r)/\gs<r)(aj:aT.length<=1000)(X:∀aI bB w',ae (λr=>gs<=r) w w'->ac w' gs aC bB->bt true aI R w' bB k sizes zero D G (aT++[a]) H E->(∀j r,aI j r->gs<r)->(∀j,j≠5->bB[j]?=cs[j]?)->K w'):
  aB x8 (Z3 #[cR,cR] S #[v,y]) w λL U=>V x8 (u6 aC (Γ gs) 5) U λY=>aB x8 (o9 cR Y L) U λ_ z=>K z:=by
 have M:=h.old;have Z:=J.lt;obtain⟨szv,ak,am,aa,an,N,ab,h1,ao,ap,ad,au,av,C⟩:=id M;obtain⟨C,O⟩:=C rfl;have N:v=aa:=by rw[ab]at x;exact(Z0 x).symm
 subst N;have af:bl (λr=>B r/\r<w.heap.size) R w xs a:=al.mono W (λr e h=>⟨h,e⟩) λ_ _ h=>h;refine oi (pl:=_) (l:=aT) aC.p rfl cR.u cR.i aq.i rfl J x ad I af (λr e P=>⟨λag=>(q r e ag.1).1 2 P.1,O 2 r P⟩) ⟨λh=>by have:=f 2 gs h.1;omega,λh=>by have:=(q gs Z h.1).2;omega,λh=>by have:=s gs h;omega⟩ Ω Ω λL z Q ah ai=>?_;refine X _ _ z (Q.mono λr _ h=>h.elim (λh=>by have:=f 2 r h.1;omega) λh=>Ω) ah (M.j1 Q (λr e=>?_) ai (λj r F e=>?_) λr e=>?_) (λj r e=>?_) λj F=>?_
 .rcases e with e|rfl
  .exact .inl e
  .exact .inr ⟨λj h=>by have:=f j r h.1;omega,λh=>by have:=s r h;omega⟩
 .rcases e with e|e|e
  .exact C 2 j r (R2 F) e
  .exact λh=>(q r e.2 e.1).1 j h.1
  .exact λh=>by have:=h.2;omega
 .rcases e with e|e|e
  .exact O 2 r e
  .exact λh=>by have:=(q r e.2 e.1).2;have:=s r h;omega
  .exact λh=>by have:=s r h;omega
 .unfold fi at e;split at e
  .rcases e with e|e|e
   .exact f 2 r e.1
   .exact (q r e.2 e.1).2
   .omega
  .exact f j r e.1
 .rw[Y4 (R2 F)]
def bt.O0{a:iG}(h:bt true A R w cs k sizes zero D G aT H E)(J:ac w gs aC cs)(x:cs[6]?=σ v)(f:∀j r,A j r->gs<r)(s:∀r,R r->r<gs)(I:cd w 4 y 1 xs)(W:bl B R w xs a)(q:∀r,r<w.heap.size->B r->(∀j,¬A j r)/\gs<r)(aj:H.length<=1000)(X:∀aI bB w',ae (λr=>gs<=r) w w'->ac w' gs aC bB->bt true aI R w' bB k sizes zero D G aT (H++[a]) E->(∀j r,aI j r->gs<r)->(∀j,j≠6->bB[j]?=cs[j]?)->K w'):
  aB x8 (Z3 #[dp,dp] S #[v,y]) w λL U=>V x8 (u6 aC (Γ gs) 6) U λY=>aB x8 (o9 dp Y L) U λ_ z=>K z:=by
 have M:=h.old;have Z:=J.lt;obtain⟨szv,ak,am,an,aa,N,ab,h1,ao,ap,aq,ad,au,C⟩:=id M;obtain⟨C,O⟩:=C rfl;have N:v=aa:=by rw[ab]at x;exact(Z0 x).symm
 subst N;have af:bl (λr=>B r/\r<w.heap.size) R w xs a:=al.mono W (λr e h=>⟨h,e⟩) λ_ _ h=>h;refine oi (pl:=_) (l:=H) aC.p rfl dp.u dp.i cW.i rfl J x ad I af (λr e P=>⟨λag=>(q r e ag.1).1 3 P.1,O 3 r P⟩) ⟨λh=>by have:=f 3 gs h.1;omega,λh=>by have:=(q gs Z h.1).2;omega,λh=>by have:=s gs h;omega⟩ Ω Ω λL z Q ah ai=>?_;refine X _ _ z (Q.mono λr _ h=>h.elim (λh=>by have:=f 3 r h.1;omega) λh=>Ω) ah (M.j2 Q (λr e=>?_) ai (λj r F e=>?_) λr e=>?_) (λj r e=>?_) λj F=>?_
 .rcases e with e|rfl
  .exact .inl e
  .exact .inr ⟨λj h=>by have:=f j r h.1;omega,λh=>by have:=s r h;omega⟩
 .rcases e with e|e|e
  .exact C 3 j r (R2 F) e
  .exact λh=>(q r e.2 e.1).1 j h.1
  .exact λh=>by have:=h.2;omega
 .rcases e with e|e|e
  .exact O 3 r e
  .exact λh=>by have:=(q r e.2 e.1).2;have:=s r h;omega
  .exact λh=>by have:=s r h;omega
 .unfold fi at e;split at e
  .rcases e with e|e|e
   .exact f 3 r e.1
   .exact (q r e.2 e.1).2
   .omega
  .exact f j r e.1
 .rw[Y4 (R2 F)]
end
def na{R:af}{v:x3}{g:Nat}(h:au .i64 e w g v l):bl (λr=>leads v r) R w [v] l:=by
 have h1:=k2 (R:=R) h;by_cases f:v= .slice ν 0 0
 .subst f;have:l=[]:=by
   obtain⟨j,⟨_,a⟩|⟨_,_,a,_⟩⟩:=h
   .exact c9 a
   .cases a
  subst this;exact fU
 .obtain⟨j,⟨a,_⟩|⟨cap,cs,a,_⟩⟩:=id h
  .exact absurd a f
  .refine al.mono h1 (λr _ p=>?_) λ_ _ h=>h;rw[a];exact⟨_,_,_,rfl,p.symm⟩
def xj{R:af}{v:x3}{g:Nat}(e:∀r c,B<=r->ac w r ah c->R r)(h:au .i64 ah w g v l)(f:∀r,leads v r->B<=r):Seen R w [v] l:=nK (na (R:=λ_=>False) h) λr p a=>by
 rcases a with a|a
 .obtain⟨c,j⟩:=qX h r a;exact e r c (f r a) j
 .exact a.elim
def O1{R:af}{zero:Int}{szv:x3}(h:Seen R w [szv] sizes):bt true (λ_ _=>False) R w [Δ k,szv,Δ zero,.slice ν 0 0,.slice ν 0 0,.slice ν 0 0,.slice ν 0 0,.slice ν 0 0] k sizes zero [] [] [] [] []:=
 ⟨_,_,_,_,_,_,rfl,h,fU,fU,fU,fU,fU,λ_=>⟨λ_ _ _ _ h=>h.elim,λ_ _ h=>h.elim⟩⟩
def bt.at{m:Bool}{A:Nat->af}{R:af}{zero:Int}{D:List (Λ)}{G:List Bool}{aT:List (Λ)}{H:List iG}{E:List lx}(h:bt m A R w cs k sizes zero D G aT H E)(c:Nat)(a:c<8):∃v,cs[c]?=σ v:=⟨_,x7 (by rw[h.len.1];exact a)⟩
def O2(R:af)(w:x4)(e gt gs:Nat)(n:aK)(f:List x3)(i j:Nat)(a:x4):Prop:=Ext w a/\ac a e dH f/\ac a gt aC z12/\∃A cs,ac a gs aC cs/\(∀q r,A q r->gs<r)/\
 bt true A R a cs n.k n.sizes n.zero ((n.unary.take i).map λu=>aw (newVar u)) (o5 i false) (n.unary.take i) ((n.funs.take j).map λg=>hM (kB n.sizes g)) []
def D1{bI:x3}{n:aK}{R:af}(ay:∀r,R r->r<w.heap.size)(a6:∀r c,B<=r->ac w r ah c->R r)(cB:wT w B bI n)(ad:jV n)(ee:n.funs.length<=256):ai x8 Gu [bI] w λv w'=>Ext w w'/\∃A cs,v= .agg cs.toArray/\fQ true A R w' cs n.k n.sizes (dr n)/\∀q r,A q r->w.heap.size<=r:=by
 have ef:=ad.sizes.2.1;have cC:=ad.kz;refine az func63 ?_;refine bk λg1 J eg a7 cD=>?_;obtain⟨szv,gz,cE,eh,bJ,cF,ei,a8,aA,aB,cG,bK,ba,cH,bL,cI,bM⟩:=On cB cD;refine bw aC.i λgt U ej aE aG=>?_;have aG:ac U gt aC z12:=aG;have bc:=aA.ext aE;rw[aH dH.p 0 bc rfl,aH dH.p 1 bc rfl,aH dH.p 2 bc rfl,
  dq (cs:=#[Δ n.k,szv,Δ n.zero,.slice ν 0 0,.slice ν 0 0,.slice ν 0 0,.slice ν 0 0,.slice ν 0 0]) (by obtain⟨_,_,_,e⟩:=c8 aB.ls;rw[e];kernel_rfl)]
 refine bw aC.i λgs ek em aI cJ=>?_;have cK:Seen R w [szv] n.sizes:=xj a6 aB cI;have en:=a7.size;have eo:=aE.size;have z3:=aI.size;have cL:=(a7.trans aE).trans aI;have bN:=O1 (k:=n.k) (zero:=n.zero) (bm cK cL);refine b1 (vs:=[Δ n.k,szv,Δ n.zero,.slice ν 0 0,.slice ν 0 0,.slice ν 0 0,.slice ν 0 0,.slice ν 0 0]) aC.i rfl rfl bN.len.2 cJ λcM bd ep cN=>?_;have er:=aG.lt;have es:=aA.lt;have cO:gt≠gs:=Ω
 have be:Ext J cM:=(aE.trans aI).put bd Ω;have bO:=a7.trans be;have cP:=(aG.ext aI).aa bd λhe=>cO he;have eu:w.heap.size<gs:=Ω
 rw[aH dH.p 1 (aA.ext be) rfl,aU an.u (aB.ext bO).ls];have cQ:=bN.aa bd λr f h he=>by
  have he:r=gs:=he;rcases h with⟨_,h⟩|h
  .exact h
  .have:=ay r h;omega
 refine bU.range n.sizes.length (λi O=>O2 R w g1 gt gs n [Δ n.k,szv,Δ n.zero,cE,cF] i 0 O) Ω ⟨bO,aA.ext be,cP,_,_,cN,(λ_ _ h=>h.elim),cQ⟩ ?_ ?_
 .rintro i O cS hi ⟨P,bf,bg,A,cs,ag,bh,aJ⟩ cT;obtain⟨z,bi⟩:=aF (l:=n.sizes) hi;obtain⟨u,hu⟩:=aF (l:=n.unary) (i:=i) Ω;have ev:=ad.sizes.2.2 z (x6 bi);obtain⟨ew,_⟩:=ad.unary i z u bi hu;refine bA Ω ?_;rw[bb an.u ah.i Ψ (aB.ext P).ls bi];obtain⟨bP,rfl⟩:∃m:Nat,z=m:=⟨z.toNat,Ω⟩;refine b4.range bP (λj aj aN=>Ext O aN/\∃g,au .i64 ah aN g aj ((W5 j).map λv:Nat=>(v:Int))/\∀r,leads aj r->O.heap.size<=r) Ω
   ⟨Ext.refl _,0,au.nil _ _ _ _,λr f=>by obtain⟨a,n,c,I,Q⟩:=f;cases I⟩ ?_ ?_
  .rintro j aj aN bj bn ⟨K,cU,S,aO⟩ bo;refine bA Ω ?_;refine et (k:=.i64) an.u ah.i rfl λey ez cV eA H cY=>?_;refine gP an.u ah.i rfl (S.ext H) cY.ls Θ Θ λeB cZ c0 c1 c2 V=>?_;rw[aL];have c3:=K.size;have c4:=H.size;refine bo _ _ ⟨(K.trans H).then V λr f he=>by have:=aO r he;omega,cZ,?_,λr f=>(c2 r f).elim (aO r) λh=>Ω⟩;rw[List.range_succ,Z4];exact c1
  rintro aj aN bj ⟨K,cU,S,aO⟩;refine b2 Ω ?_;have c5:(W5 bP).map (λv:Nat=>(v:Int))=aw (newVar u):=by rw[Oo];congr 2;omega
  rw[c5]at S;have c3:=K.size;have eC:=P.size;have eD:=ag.lt;have ak:∀r,R r->r<gs:=λr f=>by have:=ay r f;omega
  have low:∀{s C:x4}{b:Nat}{e:r9}{c:List x3},ae (λr=>gs<=r) s C->b<gs->ac s b e c->ac C b e c:=λL c6 h=>h.aa L λW=>by have W:gs<=_:=W;omega
  have al:∀{s C:x4},Ext w s->ae (λr=>gs<=r) s C->Ext w C:=λbp L=>bp.then L λr f h=>by have h:gs<=r:=h;omega
  have bQ:=aJ.old.ext K;have c7:∀q r,(A q r/\r<O.heap.size)->gs<r:=λq r h=>bh q r h.1;obtain⟨eE,bS⟩:=bQ.at 3 Ω;rw[aH aC.p 3 (ag.ext K) bS];refine im b6.u an.i Φ (a:=aw (newVar u)) (cs:=[aj]) S.ls.cells.1 (na (R:=R) S) λeF cV H _ c9=>?_;have c4:=H.size;have aP:=K.trans H;refine bt.OX (bQ.ext H) (ag.ext aP) bS c7 ak c9 (bm (na (R:=R) S) H) (λr f h=>?_) Θ λeH eI c0 V bT bV da _=>?_
  .have:=aO r h;exact⟨λj h=>Ω,Ω⟩
  have eJ:=V.size;obtain⟨eK,bW⟩:=bV.at 4 Ω;rw[aH aC.p 4 bT bW];refine im (a:=false) (cs:=[.bool false]) (A:=λ_=>False) (R:=R) hU.u ec.i Φ rfl rfl λeL eM X _ db=>?_;refine bt.OY (a:=false) (xs:=[.bool false]) (B:=λ_=>False) (bV.ext X) (bT.ext X) bW da ak db rfl (λr f h=>h.elim) Θ λdc eN bX aQ bY dd de _=>?_;have z9:=X.size;have eO:=aQ.size;have df:Ext w bX:=al ((al (P.trans aP) V).trans X) aQ;have dg:=low aQ Ω ((low V Ω (bf.ext aP)).ext X);have dh:=low aQ Ω ((low V Ω (bg.ext aP)).ext X);intro bq Y _ _;have bZ:=bY.ext Y;have b0:=dg.ext Y;have b3:=df.trans Y;obtain⟨Z,aR⟩:∃Z,bJ[i]?=σ Z:=⟨_,x7 (by have:=congrArg Q4 bK;rw[u7]at this;omega)⟩;have di:Z.l=u:=by
   have b5:(bJ.map (·.l))[i]?=σ Z.l:=by rw[v8,aR];rfl
   rw[bK,hu]at b5;exact(Z0 b5).symm
  have br:=cG.ext b3;obtain⟨eP,b7⟩:=br.2 Z (x6 aR);rw[di]at b7;have b8:=dd.old.ext Y;have dj:∀q r,(dc q r/\r<bX.heap.size)->gs<r:=λq r h=>de q r h.1;obtain⟨eQ,ca⟩:=b8.at 5 Ω;rw[aH aC.p 5 bZ ca,aH dH.p 3 b0 rfl,du rfl cR.u aq.i br.1 (x5.1 aR).1,aD (v:=Z.v) (o:=i*1) Ψ (br.1.range aR 0 _ rfl)];refine wW (k:=.i64) aq.u am.i λdk eR eS eU aS cb=>?_;refine⟨.inl aS,?_⟩;refine gP aq.u am.i rfl cb (b7.ext aS).ls Θ Θ λcc eV dl aT dn ds=>?_;rw[List.nil_append]at aT;have eW:=Y.size;have eX:=aS.size;have cd:∀r,leads dk r->bq.heap.size<=r:=λr f=>by have:=(bR cb f).1;omega
  have dt:∀r,leads cc r->bq.heap.size<=r:=λr f=>(dn r f).elim (cd r) λh=>Ω
  have bu:Ext bq dl:=aS.then ds λr f he=>by have:=cd r he;omega
  refine⟨.inl bu,?_⟩;have eY:=bu.size;refine im cR.u aq.i Φ (a:=u) (cs:=[cc]) aT.ls.cells.1 (na (R:=R) aT) λeZ e0 bx _ dv=>?_;have e1:=bx.size;have ab:=bu.trans bx;refine⟨.inl ab,?_⟩;refine bt.OZ (b8.ext ab) (bZ.ext ab) ca dj ak dv (bm (na (R:=R) aT) bx) (λr f h=>?_) Θ λdw dy e2 bz dz dA dC _=>?_
  .have:=dt r h;have:=bY.lt;exact⟨λj h=>Ω,Ω⟩
  rw[aL];refine cT _ ⟨al (b3.trans ab) bz,low bz Ω (b0.ext ab),low bz Ω ((dh.ext Y).ext ab),dw,dy,dz,dC,?_⟩;rw[u9,hu,l7,Z4,T0,List.map_nil,List.replicate_succ'];exact dA
 rintro O cS ⟨P,bf,bg,A,cs,ag,bh,aJ⟩;refine b2 Ω ?_;rw[j4 Ω]at aJ;have e3:a8.length=n.funs.length:=by rw[<-bL,u7]
 have dD:=ba.ext P;rw[aH dH.p 4 bf rfl,e4 cX.u dD];have ak:∀r,R r->r<gs:=λr f=>by have:=ay r f;omega
 have low:∀{s C:x4}{b:Nat}{e:r9}{c:List x3},ae (λr=>gs<=r) s C->b<gs->ac s b e c->ac C b e c:=λL c6 h=>h.aa L λW=>by have W:gs<=_:=W;omega
 have al:∀{s C:x4},Ext w s->ae (λr=>gs<=r) s C->Ext w C:=λbp L=>bp.then L λr f h=>by have h:gs<=r:=h;omega
 refine bU.range a8.length (λj G=>Ext w G/\ac G gt aC z12/\∃A cs,ac G gs aC cs/\(∀q r,A q r->gs<r)/\
  bt true A R G cs n.k n.sizes n.zero (n.unary.map λu=>aw (newVar u)) (o5 n.sizes.length false) n.unary ((n.funs.take j).map λg=>hM (kB n.sizes g)) []) ba.le ⟨P,bg,A,cs,ag,bh,aJ⟩ ?_ ?_
 .rintro j G bj bn ⟨M,bB,bC,aV,aW,aY,ao⟩ bo;obtain⟨y,ap⟩:=aF (l:=a8) bn;have ce:n.funs[j]?=σ (dx y):=by rw[<-bL,v8,ap];rfl
  have cg:=(ad.funs (dx y) (x6 ce)).1;have e5:y.cs.length<=4096:=by
   have h1:y.cs.length=_:=cg.len;have W:=cg.small;omega
  have ch:=cH y (x6 ap);have ci:=ch.ext M;have cj:=ba.ext M;refine bA Ω ?_;rw[du rfl cX.u aX.i cj bn,bE aX.p aX.i rfl (cj.range ap)];refine bw aX.i λe6 e7 e8 dE dF=>?_;refine b1 (vs:=dm y) aX.i rfl rfl ci.one dF λdG dI e9 dJ=>?_;have dK:Ext G dG:=dE.put dI Ω;intro bD ck _ _;have N:=dK.trans ck;have cl:=aW.ext N;have bF:=dJ.ext ck;have dL:=ci.ext N;obtain⟨⟨fa,cm⟩,⟨fc,cn⟩,fd,dM⟩:=id dL;have cp:=ao.old.ext N;have dN:∀q r,(bC q r/\r<G.heap.size)->gs<r:=λq r h=>aY q r h.1;obtain⟨fe,cq⟩:=cp.at 6 Ω;rw[aH aC.p 6 cl cq,aH aX.p 0 bF rfl,aH aX.p 1 bF rfl,aH aX.p 2 bF rfl];refine wW (k:=.i64) aq.u am.i λv25 ff fg fh aZ cr=>?_;refine⟨.inl aZ,?_⟩;refine gP aq.u am.i rfl cr (dM.ext aZ).ls Θ Θ λE fi ct a1 dO dP=>?_;rw[List.nil_append]at a1;have fj:=N.size;have z25:=aZ.size;have cu:∀r,leads v25 r->bD.heap.size<=r:=λr f=>by have:=(bR cr f).1;omega
  have dQ:∀r,leads E r->bD.heap.size<=r:=λr f=>(dO r f).elim (cu r) λh=>Ω
  have a2:Ext bD ct:=aZ.then dP λr f he=>by have:=cu r he;omega
  refine⟨.inl a2,?_⟩;rw[dq (cs:=#[y.aM,y.szv,E]) (by obtain⟨_,_,_,I⟩:=c8 cm.ls;obtain⟨_,_,_,Q⟩:=c8 cn.ls;obtain⟨_,_,_,av⟩:=c8 a1.ls;rw[I,Q,av];kernel_rfl),
   dq (cs:=#[y.aM,y.szv,E,.bool true]) (by obtain⟨_,_,_,I⟩:=c8 cm.ls;obtain⟨_,_,_,Q⟩:=c8 cn.ls;obtain⟨_,_,_,av⟩:=c8 a1.ls;rw[I,Q,av];kernel_rfl)]
  have fk:=a2.size;have cw:=(M.trans N).trans a2;obtain⟨⟨ga,dR⟩,⟨fm,dS⟩,_⟩:=id ch;have own:bl (α:=iG) (λr=>leads E r) R ct [y.aM,y.szv,E,.bool true] (hM (kB n.sizes (dx y))):=by
   refine⟨[y.aM,y.szv,E],[.bool true],λr=>leads E r,λ_=>False,rfl,λ_ h=>h,λ_ h=>h.elim,λ_ _ _ h=>h,⟨[y.aM],[y.szv,E],λ_=>False,λr=>leads E r,rfl,λ_ h=>h.elim,λ_ h=>h,λ_ _ h=>h.elim,?_,[y.szv],[E],λ_=>False,λr=>leads E r,rfl,λ_ h=>h.elim,λ_ h=>h,λ_ _ h=>h.elim,?_,?_⟩,rfl⟩
   .exact bm (xj a6 dR λr f=>bM y (x6 ap) r (.inr (.inl f))) cw
   .exact bm (xj a6 dS λr f=>bM y (x6 ap) r (.inr (.inr f))) cw
   .exact na a1
  refine im dp.u cW.i Φ rfl own λfo fp bG _ dT=>?_;have fq:=bG.size;have ax:=a2.trans bG;refine⟨.inl ax,?_⟩;refine bt.O0 (cp.ext ax) (cl.ext ax) cq dN ak dT (bm own bG) (λr f h=>?_) Θ λdU dV fs cz dW dX dY _=>?_
  .have:=dQ r h;have:=aW.lt;exact⟨λj h=>Ω,Ω⟩
  rw[aL];refine bo _ ⟨al (M.trans (N.trans ax)) cz,low cz Ω (bB.ext (N.trans ax)),dU,dV,dW,dY,?_⟩;rw[u9,ce,l7,Z4,T0,List.map_nil];exact dX
 rintro G bj ⟨M,bB,bC,aV,aW,aY,ao⟩;rw[j4 Ω]at ao;refine b2 Ω ?_;obtain⟨bH,dZ⟩:=ao.len;rw[bE aC.p aC.i bH (show G.rangeAt gs 0 aV from aW.range)];refine b1 (vs:=aV) aC.i bH rfl dZ bB λft cA fu ea=>?_;rw[fb aC.p aC.i bH ea.range];have eb:=ao.aa cA λr f h he=>by
  have he:r=gt:=he;rcases h with⟨q,h⟩|h
  .have:=aY q r h;omega
  .have:=ay r h;omega
 have fv:=M.size;refine⟨M.then cA λr f he=>by have he:r=gt:=he;omega,bC,aV,rfl,?_,λq r h=>by have:=aY q r h;omega⟩;have I:(dr n).vars.map aw=n.unary.map λu=>aw (newVar u):=by show(n.unary.map newVar).map aw=_;rw[R6];rfl
 have Q:(dr n).vars.map (λx=>decide (x.gone≠0))=o5 n.sizes.length false:=by
  show(n.unary.map newVar).map _=_;rw[R6,<-cC];exact List.map_const' ..
 have av:(dr n).vars.map (·.un)=n.unary:=by show(n.unary.map newVar).map _=_;rw[R6];exact List.map_id _
 have ed:(dr n).funs.map hM=n.funs.map λg=>hM (kB n.sizes g):=by show(n.funs.map (kB n.sizes)).map hM=_;rw[R6];rfl
 unfold fQ;rw[I,Q,av,ed];exact eb
section
variable{A:Nat->af}{B R:af}{w:x4}{cs xs:List x3}{gs:Nat}{y v:x3}{k zero:Int}{sizes:Λ}{D:List (Λ)}{G:List Bool}{aT:List (Λ)}{H:List iG}{E:List lx}{K:x4->Prop}{Z:af}
def bt.O3{ab:r9}(h:bt true A R w cs k sizes zero D G aT H E)(N:ac w gs aC cs)(x:cs[3]?=σ v)(z:∀j r,A j r->gs<r\/Z r)(f:∀r,Z r->r<gs/\A 4 r)(s:∀r,R r->r<gs)(I:cd w 1 y 1 xs)(ad:bl B R w xs a)(q:∀r,r<w.heap.size->B r->(∀j,¬A j r)/\gs<r)(av:D.length<=1000)(af:∀aI bB w',ae (λr=>gs<=r) w w'->ac w' gs aC bB->bt true aI R w' bB k sizes zero (D++[a]) G aT H E->(∀j r,aI j r->gs<r\/Z r)->(∀r,Z r->r<gs/\aI 4 r)->(∀j,j≠3->bB[j]?=cs[j]?)->K w'):
  aB x8 (Z3 #[b6,b6] ab #[v,y]) w λO U=>V x8 (u6 aC (Γ gs) 3) U λag=>aB x8 (o9 b6 ag O) U λ_ C=>K C:=by
 have P:=h.old;have ah:∀i j r,i≠j->A i r->¬A j r:=by obtain⟨_,_,_,_,_,_,_,_,_,_,_,_,_,ai⟩:=id h;exact(ai rfl).1
 have Q:∀r,A 0 r->gs<r:=λr h=>(z 0 r h).resolve_right λF=>ah 0 4 r Ω h (f r F).2;have S:∀j,¬A j gs:=λj h=>(z j gs h).elim (λh=>Ω) λh=>by have:=(f gs h).1;omega
 have aj:=N.lt;obtain⟨szv,ak,aw,ax,ay,W,am,h1,F,az,aA,aD,aE,J⟩:=id P;obtain⟨J,X⟩:=J rfl;have W:v=ak:=by rw[am]at x;exact(Z0 x).symm
 subst W;have ao:bl (λr=>B r/\r<w.heap.size) R w xs a:=al.mono ad (λr e h=>⟨h,e⟩) λ_ _ h=>h;refine oi (pl:=_) (l:=D) aC.p rfl b6.u b6.i an.i rfl N x F I ao (λr e Y=>⟨λap=>(q r e ap.1).1 0 Y.1,X 0 r Y⟩) ⟨λh=>S 0 h.1,λh=>by have:=(q gs aj h.1).2;omega,λh=>by have:=s gs h;omega⟩ Ω Ω λO C aa aq au=>?_;refine af _ _ C (aa.mono λr _ h=>h.elim (λh=>by have:=Q r h.1;omega) λh=>Ω) aq (P.xi aa (λr e=>?_) au (λj r L e=>?_) λr e=>?_) (λj r e=>?_) (λr M=>⟨(f r M).1,?_⟩) λj L=>?_
 .rcases e with e|rfl
  .exact .inl e
  .exact .inr ⟨λj h=>S j h.1,λh=>by have:=s r h;omega⟩
 .rcases e with e|e|e
  .exact J 0 j r (R2 L) e
  .exact λh=>(q r e.2 e.1).1 j h.1
  .exact λh=>by have:=h.2;omega
 .rcases e with e|e|e
  .exact X 0 r e
  .exact λh=>by have:=(q r e.2 e.1).2;have:=s r h;omega
  .exact λh=>by have:=s r h;omega
 .unfold fi at e;split at e
  .rcases e with e|e|e
   .exact .inl (Q r e.1)
   .exact .inl (q r e.2 e.1).2
   .exact .inl Ω
  .exact z j r e.1
 .unfold fi;rw[if_neg Ω];exact⟨(f r M).2,by have:=(f r M).1;omega⟩
 .rw[Y4 (R2 L)]
def bt.O4{ab:r9}(h:bt true A R w cs k sizes zero D G aT H E)(M:ac w gs aC cs)(x:cs[5]?=σ v)(z:∀j r,A j r->gs<r\/Z r)(f:∀r,Z r->r<gs/\A 4 r)(s:∀r,R r->r<gs)(I:cd w 1 y 1 xs)(ad:bl B R w xs a)(q:∀r,r<w.heap.size->B r->(∀j,¬A j r)/\gs<r)(aw:aT.length<=1000)(af:∀aI bB w',ae (λr=>gs<=r) w w'->ac w' gs aC bB->bt true aI R w' bB k sizes zero D G (aT++[a]) H E->(∀j r,aI j r->gs<r\/Z r)->(∀r,Z r->r<gs/\aI 4 r)->(∀j,j≠5->bB[j]?=cs[j]?)->K w'):
  aB x8 (Z3 #[cR,cR] ab #[v,y]) w λN U=>V x8 (u6 aC (Γ gs) 5) U λag=>aB x8 (o9 cR ag N) U λ_ C=>K C:=by
 have O:=h.old;have ah:∀i j r,i≠j->A i r->¬A j r:=by obtain⟨_,_,_,_,_,_,_,_,_,_,_,_,_,ai⟩:=id h;exact(ai rfl).1
 have P:∀r,A 2 r->gs<r:=λr h=>(z 2 r h).resolve_right λQ=>ah 2 4 r Ω h (f r Q).2;have S:∀j,¬A j gs:=λj h=>(z j gs h).elim (λh=>Ω) λh=>by have:=(f gs h).1;omega
 have aj:=M.lt;obtain⟨szv,ax,ay,ak,az,W,am,h1,Q,aA,an,aD,aE,F⟩:=id O;obtain⟨F,X⟩:=F rfl;have W:v=ak:=by rw[am]at x;exact(Z0 x).symm
 subst W;have ao:bl (λr=>B r/\r<w.heap.size) R w xs a:=al.mono ad (λr e h=>⟨h,e⟩) λ_ _ h=>h;refine oi (pl:=_) (l:=aT) aC.p rfl cR.u cR.i aq.i rfl M x an I ao (λr e Y=>⟨λap=>(q r e ap.1).1 2 Y.1,X 2 r Y⟩) ⟨λh=>S 2 h.1,λh=>by have:=(q gs aj h.1).2;omega,λh=>by have:=s gs h;omega⟩ Ω Ω λN C aa au av=>?_;refine af _ _ C (aa.mono λr _ h=>h.elim (λh=>by have:=P r h.1;omega) λh=>Ω) au (O.j1 aa (λr e=>?_) av (λj r J e=>?_) λr e=>?_) (λj r e=>?_) (λr L=>⟨(f r L).1,?_⟩) λj J=>?_
 .rcases e with e|rfl
  .exact .inl e
  .exact .inr ⟨λj h=>S j h.1,λh=>by have:=s r h;omega⟩
 .rcases e with e|e|e
  .exact F 2 j r (R2 J) e
  .exact λh=>(q r e.2 e.1).1 j h.1
  .exact λh=>by have:=h.2;omega
 .rcases e with e|e|e
  .exact X 2 r e
  .exact λh=>by have:=(q r e.2 e.1).2;have:=s r h;omega
  .exact λh=>by have:=s r h;omega
 .unfold fi at e;split at e
  .rcases e with e|e|e
   .exact .inl (P r e.1)
   .exact .inl (q r e.2 e.1).2
   .exact .inl Ω
  .exact z j r e.1
 .unfold fi;rw[if_neg Ω];exact⟨(f r L).2,by have:=(f r L).1;omega⟩
 .rw[Y4 (R2 J)]
def bt.O5{a:iG}{ab:r9}(h:bt true A R w cs k sizes zero D G aT H E)(M:ac w gs aC cs)(x:cs[6]?=σ v)(z:∀j r,A j r->gs<r\/Z r)(f:∀r,Z r->r<gs/\A 4 r)(s:∀r,R r->r<gs)(I:cd w 4 y 1 xs)(ad:bl B R w xs a)(q:∀r,r<w.heap.size->B r->(∀j,¬A j r)/\gs<r)(av:H.length<=1000)(af:∀aI bB w',ae (λr=>gs<=r) w w'->ac w' gs aC bB->bt true aI R w' bB k sizes zero D G aT (H++[a]) E->(∀j r,aI j r->gs<r\/Z r)->(∀r,Z r->r<gs/\aI 4 r)->(∀j,j≠6->bB[j]?=cs[j]?)->K w'):
  aB x8 (Z3 #[dp,dp] ab #[v,y]) w λN U=>V x8 (u6 aC (Γ gs) 6) U λag=>aB x8 (o9 dp ag N) U λ_ C=>K C:=by
 have O:=h.old;have ah:∀i j r,i≠j->A i r->¬A j r:=by obtain⟨_,_,_,_,_,_,_,_,_,_,_,_,_,ai⟩:=id h;exact(ai rfl).1
 have P:∀r,A 3 r->gs<r:=λr h=>(z 3 r h).resolve_right λQ=>ah 3 4 r Ω h (f r Q).2;have S:∀j,¬A j gs:=λj h=>(z j gs h).elim (λh=>Ω) λh=>by have:=(f gs h).1;omega
 have aj:=M.lt;obtain⟨szv,aw,ax,ay,ak,W,am,h1,Q,az,aA,an,aD,F⟩:=id O;obtain⟨F,X⟩:=F rfl;have W:v=ak:=by rw[am]at x;exact(Z0 x).symm
 subst W;have ao:bl (λr=>B r/\r<w.heap.size) R w xs a:=al.mono ad (λr e h=>⟨h,e⟩) λ_ _ h=>h;refine oi (pl:=_) (l:=H) aC.p rfl dp.u dp.i cW.i rfl M x an I ao (λr e Y=>⟨λap=>(q r e ap.1).1 3 Y.1,X 3 r Y⟩) ⟨λh=>S 3 h.1,λh=>by have:=(q gs aj h.1).2;omega,λh=>by have:=s gs h;omega⟩ Ω Ω λN C aa aq au=>?_;refine af _ _ C (aa.mono λr _ h=>h.elim (λh=>by have:=P r h.1;omega) λh=>Ω) aq (O.j2 aa (λr e=>?_) au (λj r J e=>?_) λr e=>?_) (λj r e=>?_) (λr L=>⟨(f r L).1,?_⟩) λj J=>?_
 .rcases e with e|rfl
  .exact .inl e
  .exact .inr ⟨λj h=>S j h.1,λh=>by have:=s r h;omega⟩
 .rcases e with e|e|e
  .exact F 3 j r (R2 J) e
  .exact λh=>(q r e.2 e.1).1 j h.1
  .exact λh=>by have:=h.2;omega
 .rcases e with e|e|e
  .exact X 3 r e
  .exact λh=>by have:=(q r e.2 e.1).2;have:=s r h;omega
  .exact λh=>by have:=s r h;omega
 .unfold fi at e;split at e
  .rcases e with e|e|e
   .exact .inl (P r e.1)
   .exact .inl (q r e.2 e.1).2
   .exact .inl Ω
  .exact z j r e.1
 .unfold fi;rw[if_neg Ω];exact⟨(f r L).2,by have:=(f r L).1;omega⟩
 .rw[Y4 (R2 J)]
end
def kH(w:x4)(g:Nat)(k:Int)(sizes:Λ)(s:ao):Prop:=∃szv a e f h j,ac w g aC [Δ k,szv,Δ s.zero,a,e,f,h,j]/\aG .i64 w szv sizes/\Seen fc w [szv] sizes/\
 Seen fc w [a] (s.vars.map aw)/\Seen fc w [e] (s.vars.map λx=>decide (x.gone≠0))/\Seen fc w [f] (s.vars.map (·.un))/\Seen fc w [h] (s.funs.map hM)/\Seen fc w [j] (s.cP.map pC)
section
variable{w w':x4}{g:Nat}{v:x3}{k:Int}{sizes:Λ}{s:ao}
def kH.ext(h:kH w g k sizes s)(a:Ext w w'):kH w' g k sizes s:=by
 obtain⟨szv,e,f,j,p,q,r,h1,x,y,z,A,B,C⟩:=h;exact⟨szv,e,f,j,p,q,r.ext a,h1.ext a,bm x a,bm y a,bm z a,bm A a,bm B a,bm C a⟩
def fR.box(h:fR w v k sizes s)(f:Ext w w')(j:ac w' g aC v.cells.toList):kH w' g k sizes s:=by
 obtain⟨cs,rfl,szv,z,B,C,E,F,rfl,h1,p,q,r,x,y,_⟩:=h;obtain⟨_,_,_,G⟩:=c8 (dJ h1);have c:∀{α:Type}[al α]{v:x3}{l:List α}{A:af},al.rep false A fc w [v] l->∃a n c,v= .slice a n c:=λh=>by
  obtain⟨_,_,_,_,_,⟨_,b,o,base,cap,e,_⟩,_⟩:=il h;exact⟨_,_,_,e⟩
 obtain⟨_,_,_,H⟩:=c p;obtain⟨_,_,_,I⟩:=c q;obtain⟨_,_,_,J⟩:=c r;obtain⟨_,_,_,K⟩:=c x;obtain⟨_,_,_,L⟩:=c y;refine⟨szv,z,B,C,E,F,?_,(dJ h1).ext f,bm h1 f,bm p f,bm q f,bm r f,bm x f,bm y f⟩;rw[G,H,I,J,K,L]at j ⊢;exact j
def kH.load{K:x3->Prop}(h:kH w g k sizes s)(a:∀u,fR w u k sizes s->K u):V x8 (u5 aC (Γ g)) w K:=by
 obtain⟨szv,e,f,j,q,r,x,h1,y,z,A,B,C,E⟩:=h;rw[bE aC.p aC.i rfl x.range];exact a _ ⟨_,rfl,szv,e,f,j,q,r,rfl,y,z,A,B,C,E,λh=>by cases h⟩
def O6{i:Int}(h:fR w v k sizes s):ai x8 Hj [v,Δ i] w λr w'=>r= .bool (decide (0<=i/\i<sizes.length))/\Ext w w':=by
 refine az func143 ?_;refine bk λg1 J x a e=>?_;obtain⟨szv,y,z,A,B,C,e,q,_⟩:=h.box a e;refine aW (λv U=>v= .bool (decide (0<=i/\i<sizes.length))/\Ext w U) (λ_ _ h=>h) λax f=>?_;rw[cS,aj];refine⟨λj=>?_,λj=>f _ _ ⟨by rw[decide_eq_false];omega,a⟩⟩;rw[aH aC.p 1 e rfl,aU an.u q,aR];refine f _ _ ⟨?_,a⟩;congr 1;exact decide_eq_decide.2 ⟨λh=>⟨j,h⟩,λh=>h.2⟩
def nb{m:Bool}{S R:af}{f:cK}(h:al.rep (α:=iG) m S R w cs (hM f)):∃aM szv aZ,cs=[aM,szv,aZ,.bool (decide (f.live≠0))]/\Seen fc w [aM] f.sc/\Seen fc w [szv] f.ag/\Seen fc w [aZ] f.cs:=by
 obtain⟨E,p,A,B,rfl,_,_,_,⟨q,F,aI,G,rfl,_,_,_,h1,r,s,H,x,rfl,_,_,_,a,e⟩,j⟩:=h;have one:∀{α:Type}[al α]{m:Bool}{S R:af}{c:List x3}{l:List α},al.rep m S R w c l->∃v,c=[v]:=λh=>by obtain⟨v,y,_⟩:=h;exact⟨v,y⟩
 have h1:Seen _ w q f.sc:=h1;have a:Seen _ w r f.ag:=a;have j:p=[.bool (decide (f.live≠0))]:=j;have e:al.rep m x R w s f.cs:=e;obtain⟨z,rfl⟩:=one h1;obtain⟨C,rfl⟩:=one a;obtain⟨v3,rfl⟩:=one e;subst j;exact⟨z,C,v3,rfl,iO h1,iO a,iO e⟩
def O7{j:Int}(h:fR w v k sizes s):ai x8 It [v,Δ j] w λr w'=>r= .bool (decide (0<=j)&&gD s j.toNat)/\Ext w w':=by
 refine az func248 ?_;refine bk λg1 J C a e=>?_;obtain⟨szv,E,G,H,I,K,e,L,_,_,_,_,y,_⟩:=h.box a e;refine aW (λv U=>v= .bool (decide (0<=j)&&gD s j.toNat)/\Ext w U) (λ_ _ h=>h) λax q=>?_;rw[cS,aj];refine⟨λx=>?_,λx=>q _ _ ⟨by rw[decide_eq_false x];rfl,a⟩⟩;rw[aH aC.p 6 e rfl,gq dp.u y,aR,aj,u7];refine⟨λM=>?_,λN=>q _ _ ⟨by unfold gD;rw[Y2 Ω,Bool.and_false],a⟩⟩;obtain⟨f,z⟩:=aF (l:=s.funs) (i:=j.toNat) Ω;rw[aH aC.p 6 e rfl];refine jM (i:=j.toNat) Ω dp.u cW.i y (by rw[v8,z];rfl) λb o cs A B=>?_;obtain⟨O,P,v3,rfl,_⟩:=nb B;rw[aS cW.p rfl,aD (v:=.bool (decide (f.live≠0))) Ψ (A 3 _ rfl)];exact q _ _ ⟨by unfold gD;rw[z,decide_eq_true x,T6],a⟩
end
end Go.Proofs.YtikkpokkcdocoaaGreatDoor
namespace Go.Vc
open Go Go.RowKit
section
variable{P:V1}{w:x4}{α:Type}[al α]{S R:af}
def rb{t:r9}{b:Nat}(f:P.underlying t=σ (.slice e))(hi:aQ P e (al.n α) b z)(j:∀v w',Ext w w'->bl (λr=>w.heap.size<=r) R w' [v] ([]:List α)->K v w'):aB P (Y8 t 0 #[]) w K:=
 jK f hi Ω (cs:=#[]) (by simp[Instr.fill]) λg w' x p q=>j _ w' p (by
  have hm:bX w' g e (al.n α) (.slice (σ ⟨g,0,ν⟩) 0 0) 0 []:=bX.full (by simpa using q) Ξ (by simp[maxLen]);exact⟨_,rfl,[],g,λ_ _=>False,⟨λ_ _ h=>h.elim,λ_ _ h=>h,λ_ _ _ _ _ h=>h.elim⟩,⟨rfl,λi c a s=>by simp at s⟩,nM hm (.inr (.inl Ω)),λ_=>⟨.inr Ω,e,hm⟩⟩)
def re{t p:r9}{b:Nat}{v x:x3}{m:Bool}{S':af}{l':List α}(j:P.underlying t=σ (.slice e))(hi:aQ P e (al.n α) b z)(q:z.cells.size=al.n α)(h:bl S R w [v] ([]:List α))(s:al.rep m S' R w [x] l')(y:∀{F:af}{c:List x3}{a:α},al.rep m F R w c a->bl (λ_=>False) R w c a)(A:∀r,r<w.heap.size->S r->¬R r)(B:l'.length*b<=140737488355328)(C:l'.length<=9223372036854775807)(E:∀f w',bl (λr=>S r\/w.heap.size<=r) R w' [f] l'->ae S w w'->K f w'):aB P (Z3 #[t,t] p #[v,x]) w K:=by
 obtain⟨vs,g,F,N,he,I,_⟩:=il s;refine zL (l:=[]) (l':=l') (us:=vs) (G:=λ_ _=>False) j j hi q h I.sl ⟨he.1,λi c a H J=>y (he.2 i c a H J)⟩ (λ_ _ _ _ h=>h.elim) (λr L h=>⟨λ_ h=>h,A r L h⟩) (by simpa using B) (by simpa using C) λf w' h1 M=>E f w' (al.mono h1 (λr _ h=>?_) λ_ _ h=>h) M;rcases h with h|⟨_,h⟩|h
 .exact .inl h
 .exact h.elim
 .exact .inr h
end
end Go.Vc
namespace Go.Proofs.YtikkpokkcdocoaaGreatDoor
open Go Go.Vc Go.RowKit Go.Proofs Go.Proofs.Tryz
set_option maxRecDepth 100000
def pE{α:Type}[al α]{m:Bool}{S R:af}{v:x3}{l:List α}(h:al.rep m S R w [v] l):∃a n c,v= .slice a n c:=by
 obtain⟨_,_,_,_,_,⟨_,b,o,base,cap,e,_⟩,_⟩:=il h;exact⟨_,_,_,e⟩
def O8{cc:Nat->af}{R:af}{s:ao}(h:fQ true cc R w cs k sizes s)(E:∀r,R r->r<w.heap.size)(aM:bi k sizes s)(eS:s.funs.length<=1000)(he:s.cP.length<=1000):
  ai x8 Ge [.agg cs.toArray] w λv w'=>Ext w w'/\∃A bB,v= .agg bB.toArray/\fQ true A R w' bB k sizes s/\∀q r,A q r->w.heap.size<=r:=by
 have eU:=aM.dQ.2.1;have eV:=aM.vars;obtain⟨szv,Y,ab,ad,aj,I,rfl,cd,bq,ce,cg,br,bu,c8⟩:=bt.old h;refine az func34 ?_;refine bk λg1 J eW ch N=>?_;have N:ac J g1 aC [Δ k,szv,Δ s.zero,Y,ab,ad,aj,I]:=by
  obtain⟨_,_,_,c9⟩:=pE cd;obtain⟨_,_,_,da⟩:=pE bq;obtain⟨_,_,_,db⟩:=pE ce;obtain⟨_,_,_,dc⟩:=pE cg;obtain⟨_,_,_,dd⟩:=pE br;obtain⟨_,_,_,de⟩:=pE bu;rw[c9,da,db,dc,dd,de]at N ⊢;exact N
 have df:∀u∈([Δ k,szv,Δ s.zero,Y,ab,ad,aj,I]:List x3),u.oneCell'=true:=(bt.len h).2;refine bw aC.i λgt U eX bx ci=>?_;rw[bE aC.p aC.i rfl (N.ext bx).range];refine bw aC.i λgs eY eZ bz dg=>?_;refine b1 (vs:=[Δ k,szv,Δ s.zero,Y,ab,ad,aj,I]) aC.i rfl rfl df dg λO cj e0 ck=>?_;have e1:=ch.size;have e2:=bx.size;have z3:=bz.size;have e3:=N.lt;have e4:=ci.lt;have bC:Ext J O:=(bx.trans bz).put cj Ω;have dh:=(ci.ext bz).aa cj λhe=>by have he:gt=gs:=he;omega
 have cl:=ch.trans bC;have bD:∀r,R r->r<gs:=λr B=>by have:=E r B;omega
 refine rb (α:=Bool) (R:=R) hU.u ec.i λv5 P ak di=>?_;have aN:=bC.trans ak;have z4:=bC.size;have z5:=ak.size;rw[aH aC.p 4 (N.ext aN) rfl];refine re (α:=Bool) hU.u ec.i rfl di (bm (bm ce cl) ak) (λh=>h) (λr B y H=>by have:=E r H;omega) Θ Θ λbF aY bG cm=>?_;have aV:∀{K L:x4}{b:Nat}{e:r9}{c:List x3},ae (λr=>gs<=r) K L->b<gs->ac K b e c->ac L b e c:=λbH e5 h=>h.aa bH λy=>by have y:gs<=_:=y;omega
 have aO:∀{K L:x4},Ext w K->ae (λr=>gs<=r) K L->Ext w L:=λdj bH=>dj.then bH λr B h=>by have h:gs<=r:=h;omega
 have e6:=ck.lt;have bI:ae (λr=>gs<=r) P aY:=cm.mono λr _ h=>by have h:O.heap.size<=r:=h;omega
 have dk:ac aY gs aC [Δ k,szv,Δ s.zero,Y,ab,ad,aj,I]:=(ck.ext ak).aa cm λh=>by have h:O.heap.size<=gs:=h;omega
 rw[aS aC.p rfl];refine bp (g:=gs) (o:=3) b6.i Ψ rfl dk Ξ λe7 dl e8 dm=>?_;rw[aS aC.p rfl];refine bp (g:=gs) (o:=4) hU.i (kp bG) (hY bG) dm Ξ λe9 dn fa dq=>?_;rw[aS aC.p rfl];refine bp (g:=gs) (o:=5) cR.i Ψ rfl dq Ξ λfc dr fd ds=>?_;rw[aS aC.p rfl];refine bp (g:=gs) (o:=6) dp.i Ψ rfl ds Ξ λaZ dt fe bJ=>?_;have bJ:ac aZ gs aC [Δ k,szv,Δ s.zero,.slice ν 0 0,bF,.slice ν 0 0,.slice ν 0 0,I]:=bJ;have bK:∀{K L:x4},ae (λr=>r=gs) K L->ae (λr=>gs<=r) K L:=λh=>h.mono λr _ h=>by have h:r=gs:=h;omega
 have a1:ae (λr=>r=gs) aY aZ:=((dl.trans dn).trans dr).trans dt;have a2:Ext w aZ:=aO (aO (cl.trans ak) bI) (bK a1);have cn:=aV (bK a1) Ω (aV bI Ω (N.ext aN));have du:=aV (bK a1) Ω (aV bI Ω (dh.ext ak));obtain⟨ff,dv⟩:=c8 rfl;let Z:af:=λr=>cc 4 r/\r<w.heap.size;have cp:∀r,Z r->r<gs:=λr h=>by have:=h.2;omega
 let Q:Nat->af:=λj r=>if j=1 then O.heap.size<=r else if j=4 then Z r else False;have dw:bt true Q R aZ [Δ k,szv,Δ s.zero,.slice ν 0 0,bF,.slice ν 0 0,.slice ν 0 0,I] k sizes s.zero [] (s.vars.map λx=>decide (x.gone≠0)) [] [] (s.cP.map pC):=by
  refine⟨_,_,_,_,_,_,rfl,bm cd a2,fU,?_,fU,fU,bm bu a2,λ_=>⟨λi j r fg h1 y=>?_,λi r h1 y=>?_⟩⟩
  .have dx:bl (λr=>O.heap.size<=r) R aY [bF] (s.vars.map λx=>decide (x.gone≠0)):=al.mono bG (λr _ h=>by
    rcases h with h|h
    .exact h
    .show O.heap.size<=r;omega) λ_ _ h=>h
   refine al.aa dx a1 λr B h1 y=>?_;have y:r=gs:=y;subst y;rcases h1 with h1|h1
   .have h1:O.heap.size<=r:=h1;omega
   .have:=E r h1;omega
  .simp only[Q]at h1 y;split at h1<;>split at y
   .omega
   .split at y
    .have:=y.2;omega
    .exact y
   .split at h1
    .have:=h1.2;omega
    .exact h1
   .split at h1<;>split at y
    .omega
    .exact y
    .exact h1
    .exact h1
  .simp only[Q]at h1;have:=E r y;split at h1
   .omega
   .split at h1
    .exact dv 4 r h1 y
    .exact h1
 have dy:∀j r,Q j r->gs<r\/Z r:=λj r h=>by
  simp only[Q]at h;split at h
  .exact .inl Ω
  .split at h
   .exact .inr h
   .exact h.elim
 have dz:∀r,Z r->r<gs/\Q 4 r:=λr h=>⟨cp r h,h⟩;have dA:=bm bq a2;rw[aH aC.p 3 cn rfl,gq b6.u dA,u7];refine bU.range s.vars.length (λi P=>Ext w P/\ac P g1 aC [Δ k,szv,Δ s.zero,Y,ab,ad,aj,I]/\ac P gt aC z12/\∃A cs,ac P gs aC cs/\(∀q r,A q r->gs<r\/Z r)/\(∀r,Z r->r<gs/\A 4 r)/\
  bt true A R P cs k sizes s.zero ((s.vars.take i).map aw) (s.vars.map λx:be=>decide (x.gone≠0)) ((s.vars.take i).map λx:be=>x.un) [] (s.cP.map pC)) Ω ⟨a2,cn,du,Q,_,bJ,dy,dz,dw⟩ ?_ ?_
 .rintro i dC dD hi ⟨a6,a7,bL,A,cs,ap,bM,aP,aQ⟩ dE;obtain⟨x,a8⟩:=aF (l:=s.vars) hi;obtain⟨z,cq⟩:=aF (l:=sizes) (i:=i) Ω;have fh:=(aM.var i x z a8 cq).1;have fj:=aM.dQ.2.2 z (x6 cq);have fk:(aw x).length<=32:=by
   unfold aw;refine Y7 (Q0 _ _) ?_;rw[u7,List.length_range];omega
  have dF:=ap.lt;refine bA Ω ?_;intro au S _ _;have bN:=a6.trans S;have fm:=S.size;have cr:=a7.ext S;obtain⟨d0,ct⟩:=aQ.at 3 Ω;rw[aH aC.p 3 (ap.ext S) ct,aH aC.p 3 cr rfl];refine jM (α:=Λ) (a:=aw x) rfl b6.u an.i (bm bq bN) (by rw[v8,a8];rfl) λfo fp dG dH cu=>?_;obtain⟨cw,rfl⟩:∃u,dG=[u]:=by obtain⟨u,hu,_⟩:=cu;exact⟨u,hu⟩
  rw[aD (v:=cw) Ψ (by have:=dH 0 cw rfl;simpa using this)];refine rb (α:=Int) (R:=R) an.u ah.i λfq fs ba dI=>?_;refine⟨.inl ba,?_⟩;refine re (α:=Int) an.u ah.i rfl dI (bm cu ba) (λh=>h) (λr B y H=>by have:=E r H;have:=bN.size;omega) Ω Ω λcz cA cB cC=>?_;have ft:=ba.size;have fu:=cC.size;have cD:Ext au cA:=ba.then cC λr B h=>by have h:au.heap.size<=r:=h;omega
  refine⟨.inl cD,?_⟩;have cE:bl (λr=>au.heap.size<=r) R cA [cz] (aw x):=al.mono cB (λr _ h=>by
   rcases h with h|h
   .exact h
   .show au.heap.size<=r;omega) λ_ _ h=>h
  refine im b6.u an.i Φ (a:=aw x) (cs:=[cz]) (kp cB) cE λfv fw aN _ dJ=>?_;have av:=cD.trans aN;refine⟨.inl av,?_⟩;have dK:=aQ.old.ext (S.trans av);refine bt.O3 dK (ap.ext (S.trans av)) ct (λq r h=>bM q r h.1) (λr h=>⟨(aP r h).1,(aP r h).2,by have:=(aP r h).1;omega⟩) bD dJ (bm cE aN) (λr B h=>⟨λj y=>by have h:au.heap.size<=r:=h;omega,by have h:au.heap.size<=r:=h;omega⟩) Θ λfx fy dL bO bP cF dM bQ _=>?_;have dN:Ext w dL:=aO (bN.trans av) bO;have dO:=aV bO Ω (cr.ext av);have dP:=aV bO Ω ((bL.ext S).ext av);have fz:=bP.lt;intro ax V _ _;have bR:=dN.trans V;have fA:=V.size;have cG:=dO.ext V;obtain⟨fB,cH⟩:=cF.at 5 Ω;rw[aH aC.p 5 (bP.ext V) cH,aH aC.p 5 cG rfl];refine jM (α:=Λ) (a:=x.un) rfl cR.u aq.i (bm cg bR) (by rw[v8,a8];rfl) λfD fE bb dR cI=>?_;obtain⟨cJ,rfl⟩:∃u,bb=[u]:=by obtain⟨u,hu,_⟩:=cI;exact⟨u,hu⟩
  rw[aD (v:=cJ) Ψ (by have:=dR 0 cJ rfl;simpa using this)];refine rb (α:=Int) (R:=R) aq.u am.i λfF fG bc dS=>?_;refine⟨.inl bc,?_⟩;refine re (α:=Int) aq.u am.i rfl dS (bm cI bc) (λh=>h) (λr B y H=>by have:=E r H;have:=bR.size;omega) Ω Ω λcK cL cM cN=>?_;have fH:=bc.size;have fI:=cN.size;have cO:Ext ax cL:=bc.then cN λr B h=>by have h:ax.heap.size<=r:=h;omega
  refine⟨.inl cO,?_⟩;have cQ:bl (λr=>ax.heap.size<=r) R cL [cK] x.un:=al.mono cM (λr _ h=>by
   rcases h with h|h
   .exact h
   .show ax.heap.size<=r;omega) λ_ _ h=>h
  refine im cR.u aq.i Φ (a:=x.un) (cs:=[cK]) (kp cM) cQ λfJ fK cS _ dT=>?_;have ay:=cO.trans cS;refine⟨.inl ay,?_⟩;have dU:=cF.old.ext (V.trans ay);refine bt.O4 dU (bP.ext (V.trans ay)) cH (λq r h=>dM q r h.1) (λr h=>⟨(bQ r h).1,(bQ r h).2,by have:=(bQ r h).1;omega⟩) bD dT (bm cQ cS) (λr B h=>⟨λj y=>by have h:ax.heap.size<=r:=h;omega,by have h:ax.heap.size<=r:=h;omega⟩) Θ λdV dW fL bS dX dY dZ ea _=>?_;rw[aL];refine dE _ ⟨aO (bR.trans ay) bS,aV bS Ω (cG.ext ay),aV bS Ω ((dP.ext V).ext ay),dV,dW,dX,dZ,ea,?_⟩;rw[u9,a8,l7,Z4,Z4];exact dY
 rintro dC dD ⟨a6,a7,bL,A,cs,ap,bM,aP,aQ⟩;rw[o8]at aQ;refine b2 Ω ?_;have eb:=bm br a6;have dF:=ap.lt;rw[aH aC.p 6 a7 rfl,gq dp.u eb,u7];refine bU.range s.funs.length (λj C=>Ext w C/\ac C g1 aC [Δ k,szv,Δ s.zero,Y,ab,ad,aj,I]/\ac C gt aC z12/\∃A cs,ac C gs aC cs/\(∀q r,A q r->gs<r\/Z r)/\(∀r,Z r->r<gs/\A 4 r)/\
  bt true A R C cs k sizes s.zero (s.vars.map aw) (s.vars.map λx:be=>decide (x.gone≠0)) (s.vars.map λx:be=>x.un) ((s.funs.take j).map hM) (s.cP.map pC)) Ω ⟨a6,a7,bL,A,cs,ap,bM,aP,aQ⟩ ?_ ?_
 .rintro j C ed cT ⟨M,bT,bd,aR,bb,aA,bf,aT,W⟩ ee;obtain⟨f,bV⟩:∃f,s.funs[j]?=σ f:=⟨_,x7 cT⟩;obtain⟨_,fM,fN⟩:=tx aM (x6 bV);have ef:=aA.lt;refine bA Ω ?_;refine l2 cW.p rfl dp.u cW.i (bm br M) (by rw[v8,bV];rfl) λfO bW=>?_;have eg:=al.one bW;have fP:=bW;obtain⟨cU,cV,eh,ei,rfl,_,_,_,⟨bg,cX,ej,ek,rfl,_,_,_,aB,cY,cZ,fR,em,rfl,_,_,_,aE,aG⟩,bX⟩:=bW;have aB:Seen R C bg f.sc:=aB;have aE:Seen R C cY f.ag:=aE;have aG:al.rep true em R C cZ f.cs:=aG;have bX:cV=[.bool (decide (f.live≠0))]:=bX;obtain⟨aU,rfl⟩:∃u,bg=[u]:=by obtain⟨u,hu,_⟩:=aB;exact⟨u,hu⟩
  obtain⟨aI,rfl⟩:∃u,cY=[u]:=by obtain⟨u,hu,_⟩:=aE;exact⟨u,hu⟩
  obtain⟨v3,rfl⟩:∃u,cZ=[u]:=by obtain⟨u,hu,_⟩:=aG;exact⟨u,hu⟩
  subst bX;refine bw cW.i λaJ fS fV en eo=>?_;refine b1 (vs:=[aU,aI,v3,.bool (decide (f.live≠0))]) cW.i rfl rfl eg eo λG ep fW bh=>?_;have bY:Ext C G:=en.put ep Ω;refine rb (α:=Int) (R:=R) aq.u am.i λfX fY bj er=>?_;have c0:=bY.trans bj;rw[aS cW.p rfl,aS aX.p rfl,aD (v:=v3) Ψ ((bh.ext bj).cell (o:=0+0+2) rfl)];refine re (α:=Int) aq.u am.i rfl er (bm aG c0) (λh=>h) (λr B y H=>by have:=E r H;have:=(M.trans bY).size;omega) Ω Ω λaK fZ bZ b0=>?_;have gb:=bY.size;have gc:=bj.size;have gd:=b0.size;have es:=(bh.ext bj).aa b0 λh=>by have h:G.heap.size<=aJ:=h;have:=bh.lt;omega
  rw[aS cW.p rfl,aS aX.p rfl];refine bp (g:=aJ) (o:=2) aq.i (kp bZ) (hY bZ) es Ξ λbn c1 gf b3=>?_;have b3:ac bn aJ cW [aU,aI,aK,.bool (decide (f.live≠0))]:=b3;have gg:C.heap.size<=aJ:=Ω
  have gh:=bh.lt;have bo:Ext C bn:=(c0.then b0 λr B h=>by have h:G.heap.size<=r:=h;omega).then c1 λr B h=>by have h:r=aJ:=h;omega
  have et:bl (λr=>G.heap.size<=r) R bn [aK] f.cs:=al.mono (al.aa bZ c1 λr B h y=>by
   have y:r=aJ:=y;rcases h with h|h
   .rcases h with h|h
    .have h:G.heap.size<=r:=h;omega
    .omega
   .have:=E r h;have:=M.size;omega) (λr _ h=>by
    rcases h with h|h
    .exact h
    .show G.heap.size<=r;omega) λ_ _ h=>h
  have own:bl (α:=iG) (λr=>G.heap.size<=r) R bn [aU,aI,aK,.bool (decide (f.live≠0))] (hM f):=
   ⟨[aU,aI,aK],[.bool (decide (f.live≠0))],λr=>G.heap.size<=r,λ_=>False,rfl,λ_ h=>h,λ_ h=>h.elim,λ_ _ _ h=>h,⟨[aU],[aI,aK],λ_=>False,λr=>G.heap.size<=r,rfl,λ_ h=>h.elim,λ_ h=>h,λ_ _ h=>h.elim,bm aB bo,[aI],[aK],λ_=>False,λr=>G.heap.size<=r,rfl,λ_ h=>h.elim,λ_ h=>h,λ_ _ h=>h.elim,bm aE bo,et⟩,rfl⟩
  obtain⟨f0,c2⟩:=W.at 6 Ω;rw[aH aC.p 6 (aA.ext bo) c2,bE cW.p cW.i rfl b3.range];refine im dp.u cW.i Φ rfl own λgi gj c3 _ eu=>?_;have aW:=bo.trans c3;have ev:=W.old.ext aW;refine bt.O5 ev (aA.ext aW) c2 (λq r h=>bf q r h.1) (λr h=>⟨(aT r h).1,(aT r h).2,by have:=(aT r h).1;omega⟩) bD eu (bm own c3) (λr B h=>⟨λj y=>by have h:G.heap.size<=r:=h;omega,by have h:G.heap.size<=r:=h;omega⟩) Θ λew ey gk b4 ez eA eB eC _=>?_;rw[aL];refine ee _ ⟨aO (M.trans aW) b4,aV b4 Ω (bT.ext aW),aV b4 Ω (bd.ext aW),ew,ey,ez,eB,eC,?_⟩;rw[u9,bV,l7,Z4];exact eA
 rintro C ed ⟨M,bT,bd,aR,bb,aA,bf,aT,W⟩;rw[o8]at W;refine b2 Ω ?_;have ef:=aA.lt;have gl:=M.size;refine rb (α:=lx) (R:=R) nC.u p4.i λgm eD X eE=>?_;have gn:=X.size;rw[aH aC.p 7 (bT.ext X) rfl];refine re (α:=lx) nC.u p4.i rfl eE (bm bu (M.trans X)) (λh=>?_) (λr B y H=>by have:=E r H;omega) Θ Θ λb5 gp b7 b8=>?_
 .obtain⟨cU,cV,eh,ei,rfl,_,_,_,aB,bg,cX,ej,ek,rfl,_,_,_,aE,aG⟩:=h;exact⟨cU,_,λ_=>False,λ_=>False,rfl,λ_ h=>h,λ_ h=>h,λ_ _ h=>h.elim,aB,bg,cX,λ_=>False,λ_=>False,rfl,λ_ h=>h,λ_ h=>h,λ_ _ h=>h.elim,aE,aG⟩
 have gu:=b8.size;have eF:=(aA.ext X).aa b8 λh=>by have h:C.heap.size<=gs:=h;omega
 rw[aS aC.p rfl];refine bp (g:=gs) (o:=7) nC.i (kp b7) (hY b7) eF (by rw[(bt.len W).1];omega) λb9 c4 gv eH=>?_;have ca:ae (λr=>C.heap.size<=r\/r=gs) eD b9:=(b8.mono λr _ h=>.inl h).trans (c4.mono λr _ h=>.inr h);have eI:bl (λr=>C.heap.size<=r) R b9 [b5] (s.cP.map pC):=al.mono (al.aa b7 c4 λr B h y=>by
  have y:r=gs:=y;rcases h with h|h
  .rcases h with h|h
   .have h:C.heap.size<=r:=h;omega
   .omega
  .have:=E r h;omega) (λr _ h=>by
   rcases h with h|h
   .exact h
   .show C.heap.size<=r;omega) λ_ _ h=>h
 have eJ:=(W.old).ext X;have eK:∀j,¬aR j gs:=λj h=>(bf j gs h).elim (λh=>Ω) λh=>by have:=cp gs h;omega
 have eL:∀i j r,i≠j->aR i r->¬aR j r:=by obtain⟨_,_,_,_,_,_,_,_,_,_,_,_,_,eM⟩:=id W;exact(eM rfl).1
 have c5:=eJ.OV (x:=b5) ca (λr B=>?_) eI (λj r cT B y=>by have B:C.heap.size<=r:=B;have:=y.2;omega) (λr B y=>by have B:C.heap.size<=r:=B;have:=E r y;omega)
 rotate_left
 .refine .inr ⟨λj y=>?_,λy=>?_⟩
  .rcases B with B|rfl
   .have:=y.2;omega
   .exact eK j y.1
  .have:=E r y;rcases B with B|B<;>omega
 obtain⟨cb,eN⟩:=c5.len;have eO:ac b9 gt aC z12:=(bd.ext X).aa ca λh=>by
  rcases h with h|h
  .have:=bd.lt;omega
  .omega
 rw[bE aC.p aC.i cb eH.range];refine b1 (vs:=bb.set 7 b5) aC.i cb rfl eN eO λgw c6 gx eP=>?_;rw[fb aC.p aC.i cb eP.range];have c7:∀q r,fi (λi r=>aR i r/\r<C.heap.size) 4 (λr=>C.heap.size<=r) q r->gs<r:=λq r h=>by
  unfold fi at h;split at h
  .have h:C.heap.size<=r:=h;omega
  .rename_i eQ;exact(bf q r h.1).resolve_right λy=>eL q 4 r eQ h.1 (aT r y).2
 have eR:=c5.aa c6 λr B h he=>by
  have he:r=gt:=he;rcases h with⟨q,h⟩|h
  .have:=c7 q r h;omega
  .have:=E r h;omega
 refine⟨((M.trans X).then ca λr B h=>?_).then c6 λr B h=>by have h:r=gt:=h;omega,_,_,rfl,eR,λq r h=>by have:=c7 q r h;omega⟩;rcases h with h|h<;>omega
def tI{S T:Nat->Prop}(h:ae S w w')(k:ae T w w'):ae (λr=>S r/\T r) w w':=
 ⟨h.size,λr o a I f=>by
  by_cases e:S r
  .exact k.aV r o a I λj=>f ⟨e,j⟩
  .exact h.aV r o a I e⟩
def ml{ab ad:Nat}{A R:af}{n:aK}{s:ao}{t:ay}(h:bF w ab ad A R n s t):∀r,A r\/R r->r<w.heap.size:=λr a=>by
 obtain⟨j,p,q,x,⟨_,_,e,f⟩,_⟩:=h.1;exact a.elim (f r) (e r)
structure b3(w:x4)(ab ad ak:Nat)(A R:af)(A9:Nat->af)(aA:af)(n:aK)(s u:ao)(t:ay)(h:List ay)(cs:List x3):Prop where
 dl:bF w ab ad A R n s t
 ho:hC t h
 box:ac w ak aC cs
 doc:fQ true A9 aA w cs n.k n.sizes u
 apart:∀q r,A9 q r->¬A r/\¬R r/\r≠ak
 read:∀r,aA r->¬eA w r/\r<w.heap.size/\r≠ak
 out:¬A ak/\¬R ak
section
variable{w w':x4}{ab ad ak:Nat}{A R:af}{A9:Nat->af}{aA:af}{n:aK}{s u:ao}{t:ay}{h:List ay}{cs:List x3}
def b3.ext(p:b3 w ab ad ak A R A9 aA n s u t h cs)(a:Ext w w'):b3 w' ab ad ak A R A9 aA n s u t h cs:=
 ⟨p.dl.ext a,p.ho,p.box.ext a,p.doc.ext a,p.apart,λr e=>⟨λh=>(p.read r e).1 (mV (λo f I _=>a.aV r o f I) h),by have:=(p.read r e).2.1;have:=a.size;omega,(p.read r e).2.2⟩,p.out⟩
def b3.prog{aI R':af}{s':ao}{bn:ay}{h':List ay}(p:b3 w ab ad ak A R A9 aA n s u t h cs)(x:ae (eA w) w w')(f:Grow A w aI w')(C:bF w' ab ad aI R' n s' bn)(j:hC bn h')(y:∀r,R' r->R r\/B<=r)(E:∀q r,A9 q r->r<w.heap.size->r<B)(J:ak<B):
  b3 w' ab ad ak aI R' (λq r=>A9 q r/\r<w.heap.size) aA n s' u bn h' cs:=by
 have K:=p.box.lt;have z:=x.size;refine⟨C,j,p.box.aa f.1 p.out.1,bt.aa p.doc.old (tI x f.1) λr e h j=>?_,λq r h=>⟨λa=>?_,λe=>(y r e).elim (p.apart q r h.1).2.1 λF=>by have:=E q r h.1 h.2;omega,(p.apart q r h.1).2.2⟩,λr e=>⟨λh=>?_,by have:=(p.read r e).2.1;omega,(p.read r e).2.2⟩,λa=>?_,λe=>(y ak e).elim p.out.2 λF=>Ω⟩
 .rcases h with⟨q,h⟩|h
  .exact (p.apart q r h.1).1 j.2
  .exact (p.read r h).1 j.1
 .rcases f.2.1 r a with a|a
  .exact (p.apart q r h.1).1 a
  .have:=h.2;omega
 .exact (p.read r e).1 (mV (λo G I H=>x.aV r o G I H) h)
 .rcases f.2.1 ak a with a|a
  .exact p.out.1 a
  .omega
def b3.O9{S:af}{cn:Nat->af}{u':ao}{bB:List x3}(p:b3 w ab ad ak A R A9 aA n s u t h cs)(f:ae S w w')(y:∀r,r<w.heap.size->S r->(∃q,A9 q r)\/r=ak)(B:ac w' ak aC bB)(C:fQ true cn aA w' bB n.k n.sizes u')(E:∀q r,cn q r->(∃j,A9 j r)\/(¬A r/\¬R r/\r≠ak)):
  b3 w' ab ad ak A R cn aA n s u' t h bB:=by
 have J:=p.box.lt;have z:=f.size;have F:∀q r,A9 q r->¬aA r:=by obtain⟨_,_,_,_,_,_,_,_,_,_,_,_,_,G⟩:=p.doc;exact(G rfl).2
 refine⟨⟨p.dl.1.aa f λr e h I=>?_,p.dl.2⟩,p.ho,B,C,λq r h=>?_,λr e=>⟨λh=>(p.read r e).1 (mV (λo H I _=>f.aV r o H I λa=>?_) h),by have:=(p.read r e).2.1;omega,(p.read r e).2.2⟩,p.out⟩
 .rcases y r e I with⟨q,a⟩|a
  .exact h.elim (p.apart q r a).1 (p.apart q r a).2.1
  .subst a;exact h.elim p.out.1 p.out.2
 .rcases E q r h with⟨j,a⟩|a
  .exact p.apart j r a
  .exact a
 .rcases y r (p.read r e).2.1 a with⟨q,x⟩|x
  .exact F q r x e
  .exact (p.read r e).2.2 x
def b3.Pa{S:af}{cn:Nat->af}{u':ao}{bB:List x3}(p:b3 w ab ad ak A R A9 aA n s u t h cs)(e:∀r,A r\/R r->r<B)(E:ak<B)(f:ae S w w')(j:∀r,r<w.heap.size->S r->(∃q,A9 q r)\/r=ak)(x:ac w' ak aC bB)(y:fQ true cn aA w' bB n.k n.sizes u')(z:∀q r,cn q r->(∃C,A9 C r)\/B<=r):
  b3 w' ab ad ak A R cn aA n s u' t h bB:=
 p.O9 f j x y λq r h=>(z q r h).imp id λF=>⟨λa=>by have:=e r (.inl a);omega,λa=>by have:=e r (.inr a);omega,Ω⟩
def b3.D2{S:af}{cn:Nat->af}{u':ao}{bB:List x3}(p:b3 w ab ad ak A R A9 aA n s u t h cs)(a:ae S w w')(e:∀r,r<w.heap.size->S r->(∃q,A9 q r)\/r=ak)(f:ac w' ak aC bB)(j:fQ true cn aA w' bB n.k n.sizes u')(x:∀q r,cn q r->(∃y,A9 y r)\/w.heap.size<=r):
  b3 w' ab ad ak A R cn aA n s u' t h bB:=p.Pa (ml p.dl) p.box.lt a e f j x
def b3.look(p:b3 w ab ad ak A R A9 aA n s u t h cs):kH w ak n.k n.sizes u:=by
 refine fR.box p.doc.pD (Ext.refl _) ?_;have:=p.box;exact this
def b3.oj(p:b3 w ab ad ak A R A9 aA n s u t h cs):∃szv a e f j q,cs=[Δ n.k,szv,Δ u.zero,a,e,f,j,q]/\aG .i64 w szv n.sizes:=by
 obtain⟨szv,a,e,f,j,q,h1,r,_⟩:=p.doc;exact⟨szv,a,e,f,j,q,h1,dJ r⟩
end
end Go.Proofs.YtikkpokkcdocoaaGreatDoor
namespace Go.Vc
open Go Go.RowKit
section
variable{P:V1}{w:x4}{α:Type}[al α]{S R:af}
def tJ{v:x3}{l:List α}{i:Nat}{a:α}(h:bl S R w [v] l)(H:l[i]?=σ a)(Y:∀r,r<w.heap.size->S r->¬R r):∃g cap c F,v= .slice (σ ⟨g,0,ν⟩) l.length cap/\w.rangeAt g (i*al.n α) c/\bl F R w c a/\(∀r,F r->S r)/\
  ∀{w':x4}{a':α}{T z:af},ae T w w'->(∀r,r<w.heap.size->T r->F r)->bl z R w' c a'->(∀r,z r->F r\/w.heap.size<=r)->bl (λr=>S r\/w.heap.size<=r) R w' [v] (l.set i a'):=by
 have ao:=(x5.1 H).1;obtain⟨vs,g,F,s,he,I,hm⟩:=il h;obtain⟨Z,J,K⟩:=hm rfl;obtain⟨ap,⟨rfl,aq⟩|⟨cap,full,rfl,L,au,av,aw,ax⟩⟩:=id K
 .omega
 have ab:vs.length=l.length:=he.1;have M:S g:=Z.resolve_left Ξ;obtain⟨c,B⟩:∃c,vs[i]?=σ c:=⟨_,x7 Ω⟩;have ac:=he.2 i c a B H;refine⟨g,cap,c,F i,rfl,?_,ac,λr p=>s.sub i r p,λ{w' a' T z}N O P C=>?_⟩
 .obtain⟨_,ay,o',az,aA,ad,_,_,ag,_,ah⟩:=I;cases ad;cases ag Ω;intro j u ai;have Q:=ah (i*al.n α+j) u (by rw[<-List.flatMap_id];exact pj (f:=id) (k:=al.n α) (λx aj=>he.len x aj) B ai);rw[X6]at Q;exact Q
 have ak:¬T g:=λh=>s.top rfl i (O g L.lt h);have aB:=al.len P;have aC:vs.set i c=vs:=by
  refine Y9 λq=>?_;rw[X1];by_cases U:i=q
  .subst U;rw[if_pos rfl,if_pos Ω,B]
  .rw[if_neg U]
 have V:bX w' g J (al.n α) (.slice (σ ⟨g,0,ν⟩) l.length cap) (l.set i a').length vs.flatten:=by
  rw[Z9];exact K.aa N λ_=>ak
 refine⟨_,rfl,vs,g,λj r=>if j=i then z r else F j r/\r<w.heap.size,⟨λj r p=>?_,λ_ j p=>?_,λ_ j q r am h1 y=>?_⟩,⟨by simp[ab],λj W X G E=>?_⟩,?_,λ_=>⟨.inr (.inl M),J,V⟩⟩
 .split at p
  .exact (C r p).imp (s.sub i r) id
  .exact .inl (s.sub j r p.1)
 .split at p
  .rcases C g p with h|h
   .exact s.top rfl i h
   .have:=L.lt;omega
  .exact s.top rfl j p.1
 .split at h1<;>split at y
  .omega
  .rcases C r h1 with h|h
   .rename_i e _;exact s.gK rfl i q r Ω h y.1
   .have:=y.2;omega
  .rcases C r y with h|h
   .exact s.gK rfl j i r Ω h1.1 h
   .have:=h1.2;omega
  .exact s.gK rfl j q r am h1.1 y.1
 .by_cases A:j=i
  .subst A;rw[B]at G;rw[b8 Ω]at E;cases G;cases E;exact al.mono P (λr _ h=>by simpa using h) λ_ _ h=>h
  .rw[Y4 (R2 A)]at E;have an:bl (λr=>if j=i then z r else F j r/\r<w.heap.size) R w W X:=al.mono (he.2 j W X G E) (λr p h=>by rw[if_neg A];exact⟨h,p⟩) λ_ _ h=>h;refine al.aa an N λr p h1 y=>?_;have y:=O r p y;rcases h1 with h1|h1
   .simp only[if_neg A]at h1;exact s.gK rfl j i r A h1.1 y
   .exact Y r p (s.sub i r y) h1
 .have:=nM (S:=λr=>(S r\/w.heap.size<=r)\/R r) V (.inr (.inl (.inl M)));exact this
def D3{v:x3}{l:List α}{i:Nat}{a:α}(h:bl S R w [v] l)(N:l[i]?=σ a)(O:∀r,r<w.heap.size->S r->¬R r):∃g cap full z c F,v= .slice (σ ⟨g,0,ν⟩) l.length cap/\ac w g z full/\S g/\i*al.n α+al.n α<=full.length/\(∀(q:Nat)x,c[q]?=σ x->full[i*al.n α+q]?=σ x)/\bl F R w c a/\(∀r,F r->S r)/\¬F g/\
  ∀{w':x4}{a':α}{A:List x3}{T C:af},ae T w w'->(∀r,r<w.heap.size->T r->F r\/r=g)->ac w' g z (over full (i*al.n α) A)->bl C R w' A a'->(∀r,C r->F r\/w.heap.size<=r)->bl (λr=>S r\/w.heap.size<=r) R w' [v] (l.set i a'):=by
 have ag:=(x5.1 N).1;obtain⟨vs,g,F,y,he,I,hm⟩:=il h;obtain⟨ah,z,ai⟩:=hm rfl;obtain⟨ay,⟨rfl,az⟩|⟨cap,full,rfl,P,Q,aj,U,V⟩⟩:=id ai
 .omega
 have W:vs.length=l.length:=he.1;have G:S g:=ah.resolve_left Ξ;obtain⟨c,K⟩:∃c,vs[i]?=σ c:=⟨_,x7 Ω⟩;have ak:=he.2 i c a K N;have am:(i+1)*al.n α<=l.length*al.n α:=X0 _ ag;have an:l.length*al.n α<=full.length:=by rw[U];exact X0 _ Q
 rw[U5,Nat.one_mul]at am;refine⟨g,cap,full,z,c,F i,rfl,P,G,Ω,λq x X=>?_,ak,λr s=>y.sub i r s,y.top rfl i,λ{w' a' A T C}ao ap aq Y H=>?_⟩
 .have L:=pj (f:=id) (k:=al.n α) (λx au=>he.len x au) K X;rw[List.flatMap_id,<-V]at L;have aA:=(x5.1 X).1;have M:=he.len c (x6 K);rw[Y0 Ω]at L;exact L
 have M:=al.len Y;have av:∀c∈vs.set i A,c.length=al.n α:=λc B=>by
  rcases W7 B with p|rfl
  .exact he.len c p
  .exact M
 have Z:bX w' g z (al.n α) (.slice (σ ⟨g,0,ν⟩) l.length cap) (l.set i a').length (vs.set i A).flatten:=by
  refine⟨by rw[ko av,Z9,Z9,W],.inr ⟨cap,_,by rw[Z9],aq,by rw[Z9];exact Q,aj,by rw[lZ,U],?_⟩⟩;rw[Z9,sN Ω an,V,DZ he.len M Ω]
 refine⟨_,rfl,vs.set i A,g,λj r=>if j=i then C r else F j r/\r<w.heap.size,⟨λj r s=>?_,λ_ j s=>?_,λ_ j q r aw h1 p=>?_⟩,⟨by simp[W],λj ab ad B J=>?_⟩,?_,λ_=>⟨.inr (.inl G),z,Z⟩⟩
 .split at s
  .exact (H r s).imp (y.sub i r) id
  .exact .inl (y.sub j r s.1)
 .split at s
  .rcases H g s with h|h
   .exact y.top rfl i h
   .have:=P.lt;omega
  .exact y.top rfl j s.1
 .split at h1<;>split at p
  .omega
  .rcases H r h1 with h|h
   .rename_i e _;exact y.gK rfl i q r Ω h p.1
   .have:=p.2;omega
  .rcases H r p with h|h
   .exact y.gK rfl j i r Ω h1.1 h
   .have:=h1.2;omega
  .exact y.gK rfl j q r aw h1.1 p.1
 .by_cases E:j=i
  .subst E;rw[b8 Ω]at B;rw[b8 Ω]at J;cases B;cases J;exact al.mono Y (λr _ h=>by simpa using h) λ_ _ h=>h
  .rw[Y4 (R2 E)]at B J;have ax:bl (λr=>if j=i then C r else F j r/\r<w.heap.size) R w ab ad:=al.mono (he.2 j ab ad B J) (λr s h=>by rw[if_neg E];exact⟨h,s⟩) λ_ _ h=>h;refine al.aa ax ao λr s h1 p=>?_;have p:=ap r s p;rcases h1 with h1|h1
   .simp only[if_neg E]at h1;rcases p with p|rfl
    .exact y.gK rfl j i r E h1.1 p
    .exact y.top rfl j h1.1
   .rcases p with p|rfl
    .exact O r s (y.sub i r p) h1
    .exact O r s G h1
 .have:=nM (S:=λr=>(S r\/w.heap.size<=r)\/R r) Z (.inr (.inl (.inl G)));exact this
end
end Go.Vc
namespace Go.Proofs.YtikkpokkcdocoaaGreatDoor
open Go Go.Vc Go.RowKit Go.Proofs Go.Proofs.Tryz
set_option maxRecDepth 100000
section
variable{w0 w:x4}{ab ad ak ga:Nat}{A R:af}{A9 cn:Nat->af}{aA:af}{n:aK}{s u:ao}{t:ay}{h:List ay}{cs bB:List x3}{aO aM ly:x3}{Q:x3->x4->Prop}
def b3.olds(p:b3 w0 ab ad ak A R A9 aA n s u t h cs):b3 w0 ab ad ak A R (λq r=>A9 q r/\r<w0.heap.size) aA n s u t h cs:=
 ⟨p.dl,p.ho,p.box,p.doc.old,λq r a=>p.apart q r a.1,p.read,p.out⟩
end
def pF{α β:Type}{l:List α}{i:Nat}{a b:α}{f:α->β}(h:l[i]?=σ a)(j:f b=f a):(l.set i b).map f=l.map f:=by
 rw[U8,j];refine Y9 λq=>?_;rw[X1];by_cases e:i=q
 .subst e;rw[if_pos rfl,v8,h,if_pos (by rw[u7];exact(x5.1 h).1)];rfl
 .rw[if_neg e]
def xk{T:Nat->Prop}(h:ae T w w'):ae (λr=>T r/\r<w.heap.size) w w':=⟨h.size,λr o a I e=>h.aV r o a I λf=>e ⟨f,(j5.1 a).1⟩⟩
section
variable{w0 w w':x4}{ab ad ak ga:Nat}{A R:af}{A9:Nat->af}{aA:af}{n:aK}{s u u':ao}{t:ay}{h:List ay}{cs:List x3}{aO aM ly v:x3}{Q:x3->x4->Prop}
def bt.qk{m:Bool}{zero:Int}{D:List (Λ)}{G:List Bool}{aT:List (Λ)}{H:List iG}{E:List lx}{i:Nat}(a:cs[i]?=σ v)(h:bt m A9 aA w (cs.set i v) k sizes zero D G aT H E):bt m A9 aA w cs k sizes zero D G aT H E:=by
 have:cs.set i v=cs:=by
  refine Y9 λq=>?_;rw[X1];by_cases e:i=q
  .subst e;have:=(x5.1 a).1;rw[if_pos rfl,if_pos this,a]
  .rw[if_neg e]
 rw[this]at h;exact h
def b3.row{T:af}{cn:Nat->af}{q:Nat}(p:b3 w ab ad ak A R A9 aA n s u t h cs)(a:ae T w w')(e:∀r,r<w.heap.size->T r->A9 q r)(f:fQ true cn aA w' cs n.k n.sizes u')(j:∀q r,cn q r->(∃x,A9 x r)\/w.heap.size<=r):
  b3 w' ab ad ak A R cn aA n s u' t h cs:=
 p.D2 a (λr y h=>.inl ⟨q,e r y h⟩) (p.box.aa a λh=>(p.apart q ak (e ak p.box.lt h)).2.2 rfl) f j
def xl{q:Nat}{B:af}(a:∀r,B r->A9 q r\/w.heap.size<=r):∀j r,fi A9 q B j r->(∃e,A9 e r)\/w.heap.size<=r:=λj r h=>by
 unfold fi at h;split at h
 .exact (a r h).imp (λh=>⟨q,h⟩) id
 .exact .inl ⟨j,h⟩
end
def Pb{sv:x3}{q:Nat}{cap:Array x3}{p:Int->Bool}(h:aG .i64 w sv l)(z:∀w' x,Ext w w'->x∈l->ai x8 q (Δ x::cap.toList) w' λr A=>r= .bool (p x)/\Ext w' A):
  ai x8 uX [sv,.func (.func q) #[] cap] w λv w'=>Ext w w'/\((v=Δ (-1)/\∀x∈l,p x=false)\/∃i:Nat,v=Δ (i:Int)/\i<l.length/\(∀x∈l.take i,p x=false)/\∀x,l[i]?=σ x->p x=true):=by
 refine az func138 ?_;rw[aU an.u h];refine b4.range l.length (λi _ J=>Ext w J/\∀x∈l.take i,p x=false) h.le ⟨Ext.refl _,Ξ⟩ ?_ ?_
 .rintro i _ J k hi ⟨e,f⟩ hk;refine bA Ω ?_;obtain⟨y,j⟩:=aF (l:=l) hi;rw[bb an.u ah.i Ψ (h.ext e) j];refine ai.mono (z J y e (x6 j)) ?_;rintro _ U _ ⟨rfl,s⟩;rw[cg];refine⟨λB=>⟨e.trans s,.inr ⟨i,rfl,hi,f,λx a=>by rw[j]at a;cases a;exact B⟩⟩,λC=>?_⟩;rw[aL];refine hk _ _ ⟨e.trans s,λx a=>?_⟩;rw[u9,j]at a;rcases j0.1 a with a|a
  .exact f x a
  .simp at a;subst a;exact C
 .rintro _ J k ⟨e,f⟩;rw[o8]at f;rw[aR,aj];exact⟨λh=>Ω,λ_=>⟨e,.inl ⟨rfl,f⟩⟩⟩
def Pc{sv:x3}{g R:Nat}{cap:Array x3}{p:Int->Bool}(h:au .i64 e w g sv l)(aJ:l.length<=100000000)(S:∀w' x,ae (λr=>leads sv r) w w'->x∈l->ai x8 R (Δ x::cap.toList) w' λr Z=>r= .bool (p x)/\Ext w' Z):
  ai x8 GD [sv,.func (.func R) #[] cap] w λv w'=>ae (λr=>leads sv r) w w'/\au .i64 e w' g v (l.filter λx=>!p x)/\∀r,leads v r->leads sv r:=by
 refine az func72 ?_;refine(Pb h.ls λw' x B=>S w' x (B.aa _)).mono ?_;rintro _ J _ ⟨C,⟨rfl,L⟩|⟨i,rfl,hi,L,ab⟩⟩
 .rw[bf,aj];refine⟨λ_=>⟨C.aa _,?_⟩,λh=>absurd rfl h⟩;rw[List.filter_eq_self.2 λx B=>by rw[L x B];rfl];exact⟨h.ext C,λ_ h=>h⟩
 rw[bf,aj];refine⟨λh=>Ω,λ_=>?_⟩;rw[aL,wrap_i64 Ω Ω];obtain⟨n,M⟩:∃n,l.length=n:=⟨_,rfl⟩;obtain⟨s,rfl⟩:∃s,sv= .slice (σ ⟨g,0,ν⟩) n s:=by
  obtain⟨_,⟨_,h1⟩|⟨s,cs,h1,_⟩⟩:=id h
  .omega
  .exact⟨s,by rw[h1,M]⟩
 obtain⟨_,_,_,_,aK,ac,_⟩:=qL h Ω;have U:∀r,r=g->leads (.slice (σ ⟨g,0,ν⟩) n s) r:=λr N=>⟨_,_,_,rfl,N.symm⟩;have ad:(l.take (i+1)).filter (λx=>!p x)=l.take i:=by
  obtain⟨y,z⟩:=aF (l:=l) hi;rw[u9,z,List.filter_append,List.filter_eq_self.2 λx B=>by rw[L x B];rfl];simp[ab y z]
 refine⟨λO P E=>∃(q j:Nat)(f:Λ),O=Δ (q:Int)/\P=Δ (j:Int)/\q<j/\j<=n/\ae (λr=>r=g) w E/\au .i64 e E g (.slice (σ ⟨g,0,ν⟩) n s) f/\f.length=n/\f.take q=(l.take j).filter (λx=>!p x)/\∀k,j<=k->f[k]?=l[k]?,
  λ_ P _=>n-(b0 P).toNat,⟨i,i+1,l,rfl,rfl,Ω,Ω,C.aa _,h.ext C,M,ad.symm,λ_ _=>rfl⟩,?_⟩
 rintro _ _ E ⟨q,j,f,rfl,rfl,aM,aN,G,H,V,A,Q⟩;have aO:q=((l.take j).filter λx=>!p x).length:=by rw[<-A,o7];omega
 rw[hW an.u,aR,aj];refine⟨λaf=>?_,λaP=>?_⟩
 .have af:j<n:=Ω
  obtain⟨y,z⟩:=aF (l:=l) (i:=j) Ω;have ag:f[j]?=σ y:=by rw[Q j (o6 _),z]
  refine aW (λO I=>∃(q:Nat)(f:Λ),O=Δ (q:Int)/\q<j+1/\ae (λr=>r=g) w I/\au .i64 e I g (.slice (σ ⟨g,0,ν⟩) n s) f/\f.length=n/\f.take q=(l.take (j+1)).filter (λx=>!p x)/\∀k,j+1<=k->f[k]?=l[k]?) ?_ ?_
  .rintro _ I ⟨q,f,rfl,h1,ak,al,am,ao,ap⟩;rw[aL,wrap_i64 Ω Ω];exact⟨⟨q,j+1,f,rfl,rfl,h1,Ω,ak,al,am,ao,ap⟩,by simp only[b0];omega⟩
  intro ax W;rw[bb an.u ah.i Ψ H.ls ag];refine ai.mono (S E y (G.mono λr _=>U r) (x6 z)) ?_;rintro _ I _ ⟨rfl,K⟩;have X:(l.take (j+1)).filter (λx=>!p x)=(l.take j).filter (λx=>!p x)++[y].filter (λx=>!p x):=by rw[u9,z,List.filter_append];rfl
  rw[bJ,cg];refine⟨λaq=>?_,λav=>?_⟩
  .have Y:=H.ext K;rw[h0 rfl an.u ah.i Y Ω];refine h2 ah.i Y Ω λaQ aw aS ay=>?_;rw[aL,wrap_i64 Ω Ω];refine W _ _ ⟨q+1,_,rfl,Ω,(G.trans (K.aa _)).trans aw,ay,by simpa using V,?_,λk hk=>?_⟩
   .rw[X,u9,b8 Ω,List.take_set_of_le (o6 _),A];simp only[l7];rw[show[y].filter (λx=>!p x)=[y] by simpa using aq]
   .rw[Y4 Ω];exact Q k Ω
  .refine W _ _ ⟨q,f,rfl,Ω,G.trans (K.aa _),H.ext K,V,?_,λk hk=>Q k Ω⟩;rw[X,show[y].filter (λx=>!p x)=[] by simpa using av,V3];exact A
 .have aA:j=n:=Ω
  subst aA;rw[<-M,o8]at A;obtain⟨_,_,cs,aB,_,_,aT,aC⟩:=qL H Ω;simp only[maxLen]at ac;rw[hX an.u ah.i (l:=q) (h:=j) (m:=s) p8 jJ fG Ω Ω Ω,if_neg Ω];have aD:U2 (λx:Addr=>x.add (q*1)) (σ ⟨g,0,ν⟩)=σ ⟨g,q,ν⟩:=by simp[T7]
  rw[aD];refine Aa an.u ah.i rfl rfl aB Ω Ω λaU aE aV aG=>?_;rw[hX an.u ah.i (l:=0) (h:=q) (m:=s) jI p9 fG Ω Ω Ω,if_neg Ω];have aH:U2 (λx:Addr=>x.add (0*1)) (σ ⟨g,0,ν⟩)=σ ⟨g,0,ν⟩:=by simp[T7]
  rw[aH];refine⟨(G.trans aE).mono λr _=>U r,?_⟩;have aX:(l.filter λx=>!p x).length=q:=by rw[<-A,o7];omega
  rw[<-A,Nat.sub_zero];refine⟨?_,λr N=>by obtain⟨a,_,_,e,aI⟩:=N;cases e;exact⟨_,_,_,rfl,aI⟩⟩;refine au.of (n:=q) ⟨Θ,.inr ⟨s,_,Ξ,aG,Ω,by simp only[maxLen];omega,by rw[lZ];omega,?_⟩⟩;rw[U4];apply Y9;intro k;by_cases hk:k<q
  .rw[Y0 hk,nH _ _ _ Θ,if_neg Ω,ints,v8,Y0 hk];have:(cs.take j)[k]?=(ints .i64 f)[k]?:=by rw[aC]
   rw[Y0 Ω,ints,v8]at this;exact this
  .rw[Y2 Θ,Y2 Θ]
def D4{full c:List x3}{o q:Nat}{x:x3}(f:∀(k:Nat)y,c[k]?=σ y->full[o+k]?=σ y)(h:o+c.length<=full.length)(j:q<c.length):full.set (o+q) x=over full o (c.set q x):=by
 refine Y9 λk=>?_;rw[nH _ _ _ (by rw[Z9];exact h),X1,Z9];by_cases h1:o<=k/\k<o+c.length
 .rw[if_pos h1,X1];by_cases a:o+q=k
  .rw[if_pos a,if_pos Ω,if_pos Ω,if_pos Ω]
  .rw[if_neg a,if_neg Ω];have e:k-o<c.length:=Ω
   have:=f (k-o) c[k-o] (x7 e);rw[x7 e,<-this];congr 1;omega
 .rw[if_neg h1,if_neg Ω]
section
variable{w0 w w':x4}{ab ad ak ga:Nat}{A R:af}{A9:Nat->af}{aA:af}{n:aK}{s u u':ao}{t:ay}{h:List ay}{cs:List x3}{aO aM ly v:x3}{Q:x3->x4->Prop}
def b3.gK(p:b3 w ab ad ak A R A9 aA n s u t h cs):(∀i j r,i≠j->A9 i r->¬A9 j r)/\∀i r,A9 i r->¬aA r:=by
 obtain⟨_,_,_,_,_,_,_,_,_,_,_,_,_,a⟩:=p.doc;exact a rfl
def b3.Pd{T:af}(p:b3 w ab ad ak A R A9 aA n s u t h cs)(y:∀q r,A9 q r->r<w.heap.size)(z:cs[6]?=σ v)(e:ae T w w')(f:∀r,r<w.heap.size->T r->A9 3 r)(C:bl (λr=>A9 3 r\/w.heap.size<=r) aA w' [v] (u'.funs.map hM))(E:u'.zero=u.zero)(F:u'.vars=u.vars)(G:u'.cP=u.cP):∃cn,b3 w' ab ad ak A R cn aA n s u' t h cs/\∀q r,cn q r->(∃H,A9 H r)\/w.heap.size<=r:=by
 have I:=bt.j2 p.doc (xk e) (λr a=>.inl (f r a.2 a.1)) C (λj r J a=>?_) (λr a=>?_)
 .have x:=xl (w:=w) (A9:=A9) (q:=3) (B:=λr=>A9 3 r\/w.heap.size<=r) λr h=>h;refine⟨_,p.row e f ?_ x,x⟩;have:=bt.qk z I;unfold fQ;rw[E,F,G];exact this
 .rcases a with a|a
  .exact p.gK.1 3 j r (R2 J) a
  .exact λh=>by have:=y j r h;omega
 .rcases a with a|a
  .exact p.gK.2 3 r a
  .exact λh=>by have:=(p.read r h).2.1;omega
end
def Pe{m:Int}{w:Int}(a:0<=v)(hw:0<=w):dropped (((m.toNat ||| 2 ^ v.toNat:Nat):Int)) w=(dropped m w||decide (w=v)):=by
 unfold dropped;rw[r8,Nat.testBit_or,Nat.testBit_two_pow];congr 1;exact decide_eq_decide.2 ⟨λh=>Ω,λh=>Ω⟩
def xm{x:be}(a:0<=v):aw {x with mask:=((x.mask.toNat ||| 2 ^ v.toNat:Nat):Int)}=(aw x).filter λy=>!decide (y=v):=by
 unfold aw;rw[List.filter_filter];refine List.filter_congr λy e=>?_;obtain⟨q,_,rfl⟩:=l9.1 e;rw[Pe a Ω];cases dropped x.mask (q:Int)<;>simp
section
variable{w0 w w':x4}{ab ad ak ga:Nat}{A R:af}{A9:Nat->af}{aA:af}{n:aK}{s u u':ao}{t:ay}{h:List ay}{cs:List x3}{aO aM ly v:x3}{Q:x3->x4->Prop}
def b3.ol{T:af}(p:b3 w ab ad ak A R A9 aA n s u t h cs)(z:∀q r,A9 q r->r<w.heap.size)(C:cs[3]?=σ v)(e:ae T w w')(f:∀r,r<w.heap.size->T r->A9 0 r)(E:bl (λr=>A9 0 r\/w.heap.size<=r) aA w' [v] (u'.vars.map aw))(F:u'.zero=u.zero)(G:u'.vars.map (·.un)=u.vars.map (·.un))(H:(u'.vars.map λx=>decide (x.gone≠0))=u.vars.map λx=>decide (x.gone≠0))(I:u'.funs=u.funs)(J:u'.cP=u.cP):
  ∃cn,b3 w' ab ad ak A R cn aA n s u' t h cs/\∀q r,cn q r->(∃K,A9 K r)\/w.heap.size<=r:=by
 have L:=bt.xi p.doc (xk e) (λr a=>.inl (f r a.2 a.1)) E (λj r M a=>?_) (λr a=>?_)
 .have y:=xl (w:=w) (A9:=A9) (q:=0) (B:=λr=>A9 0 r\/w.heap.size<=r) λr h=>h;refine⟨_,p.row e f ?_ y,y⟩;have:=bt.qk C L;unfold fQ;rw[F,G,H,I,J];exact this
 .rcases a with a|a
  .exact p.gK.1 0 j r (R2 M) a
  .exact λh=>by have:=z j r h;omega
 .rcases a with a|a
  .exact p.gK.2 0 r a
  .exact λh=>by have:=(p.read r h).2.1;omega
end
section
variable{w0 w w':x4}{ab ad ak ga:Nat}{A R:af}{A9:Nat->af}{aA:af}{n:aK}{s u u':ao}{t:ay}{h:List ay}{cs:List x3}{aO aM ly v:x3}{Q:x3->x4->Prop}
def Pf{F:af}{c:List x3}{f:cK}(h:bl (α:=iG) F R w c (hM f))(z:∀r,F r->¬R r):∃aM szv aZ e,c=[aM,szv,aZ,.bool (decide (f.live≠0))]/\bl e R w [aZ] f.cs/\(∀r,e r->F r)/\
  ∀{w':x4}{bB:Λ},ae e w w'->bl e R w' [aZ] bB->bl (α:=iG) F R w' c (hM {f with cs:=bB}):=by
 obtain⟨ab,M,A,B,rfl,C,N,O,h1,p⟩:=h;obtain⟨P,ac,aI,Q,rfl,S,E,G,H,T⟩:=h1;obtain⟨U,V,W,q,rfl,X,s,I,J,K⟩:=T;have p:M=[.bool (decide (f.live≠0))]:=p;subst p;obtain⟨x,rfl⟩:=V2.1 (show P.length=1 from al.len H);obtain⟨j,rfl⟩:=V2.1 (show U.length=1 from al.len J);obtain⟨v3,rfl⟩:=V2.1 (show V.length=1 from al.len K);have y:∀r,q r->F r:=λr h=>C r (E r (s r h));refine⟨x,j,v3,q,rfl,K,y,λ{w' bB}L Y=>?_⟩;refine⟨[x,j,v3],[.bool (decide (f.live≠0))],A,B,rfl,C,N,O,⟨[x],[j,v3],aI,Q,rfl,S,E,G,al.aa H L λr Z a he=>?_,[j],[v3],W,q,rfl,X,s,I,al.aa J L λr Z a he=>?_,Y⟩,rfl⟩
 .exact a.elim (λa=>G rfl r a (s r he)) (z r (y r he))
 .exact a.elim (λa=>I rfl r a he) (z r (y r he))
end
def Pg{cs:Λ}{szv aZ ba:x3}(h1:aG .i64 w aM sc)(E:aG .i64 w szv (bI sizes sc))(G:aG .i64 w aZ cs)(h:fw sizes k (sc,cs))(s:∀z∈sizes,1<=z/\z<=32)(L:aG .i64 w ba a)(r:∀v∈sc,∃x,a[v.toNat]?=σ x/\0<=x/\x<sizes.getD v.toNat 0):
  ai x8 Gd [.agg #[aM,szv,aZ],ba] w λv w'=>v=Δ (bh (bI sizes sc) cs (i9 a sc))/\Ext w w':=by
 have A:dE (bI sizes sc):=me s λv r=>⟨(h.scope.1 v r).1,h.vars v r⟩;have aa:sc.length<=6:=h.scope.2;refine az func33 ?_;refine bk λM J ab j f=>?_;have f:ac J M aX [aM,szv,aZ]:=by
  obtain⟨_,_,_,N⟩:=c8 h1;obtain⟨_,_,_,O⟩:=c8 E;obtain⟨_,_,_,P⟩:=c8 G;rw[N,O,P]at f ⊢;exact f
 rw[aH aX.p 0 f rfl,aU an.u (h1.ext j)];have ad:(i9 a sc).length=sc.length:=by unfold i9;rw[u7]
 have ae:(bI sizes sc).length=sc.length:=by unfold bI;rw[u7]
 refine b4.range sc.length (λi Q U=>Ext J U/\∃m:Int,Q=Δ m/\cj ((bI sizes sc).take i) ((i9 a sc).take i) 0=σ m) h1.le ⟨Ext.refl _,0,rfl,rfl⟩ ?_ ?_
 .rintro i _ U R hi ⟨e,m,rfl,hm⟩ S;obtain⟨v,q⟩:=aF (l:=sc) hi;obtain⟨x,H,V,W⟩:=r v (x6 q);have af:=h.scope.1 v (x6 q);have B:(bI sizes sc)[i]?=σ (sizes.getD v.toNat 0):=by unfold bI;rw[v8,q];rfl
  have X:(i9 a sc)[i]?=σ x:=by unfold i9;rw[v8,q,Z7,u4,H];rfl
  have ag:=A _ (x6 B);have I:∀z∈(bI sizes sc).take i,1<=z/\z<=32:=λz s=>A z (U6 s);have Y:=k4 I hm;have aj:=prod_bound (l:=(bI sizes sc).take i) ⟨by rw[o7];omega,I⟩;refine bA Ω ?_;rw[bb an.u ah.i Ψ (h1.ext (j.trans e)) q];intro ak C _ _;have K:=(j.trans e).trans C;have al:0<=m*sizes.getD v.toNat 0/\m*sizes.getD v.toNat 0<=1073741824*32:=⟨Int.mul_nonneg Ω Ω,Int.mul_le_mul Ω Ω Ω Ω⟩;rw[aH aX.p 1 (f.ext (e.trans C)) rfl,bb an.u ah.i Ψ (E.ext K) B,gp,wrap_i64 Ω Ω,fq (y:=v) (i:=v.toNat) Ω an.u ah.i Ψ (L.ext K) H,aL,wrap_i64 Ω Ω,aL];refine S _ _ ⟨e.trans C,_,rfl,?_⟩;rw[u9,u9,B,X,l7,l7,DG (by rw[o7,o7];omega),hm];simp only[Option.bind_some];rw[if_pos ⟨V,W⟩]
 .rintro _ U R ⟨e,m,rfl,hm⟩;rw[j4 Ω,j4 Ω]at hm;have Y:=k4 A hm;have ao:cs.length=(aN (bI sizes sc)).toNat:=h.len;refine b2 Ω ?_;have Z:cs[m.toNat]?=σ (cs.getD m.toNat 0):=by rw[u4,x7 Ω];rfl
  rw[aH aX.p 2 (f.ext e) rfl,fq (y:=m) (i:=m.toNat) Ω aq.u am.i Ψ (G.ext (j.trans e)) Z];refine⟨?_,j.trans e⟩;unfold bh;rw[hm]
def D5{sv ba:x3}{s:ao}(h:fR w sv k sizes s)(G:bi k sizes s)(bj:cz s)(Y:hh s a)(aB:aG .i64 w ba a):ai x8 FX [sv,ba] w λv w'=>v=Δ (eW k s a)/\Ext w w':=by
 have b7:=G.vars;have hk:=G.fx;refine az func10 ?_;refine bk λg1 J b8 Q I=>?_;obtain⟨szv,b9,ca,cb,cc,cd,I,ce,_,bl,bn,bo,Z,_⟩:=h.box Q I;have aa:=aB.ext Q;have ch:=Y.1;rw[aH aC.p 2 I rfl,aU an.u aa];obtain⟨B,R⟩:∃B,B=s.vars.zip a:=⟨_,rfl⟩;have ci:B.length=a.length:=by rw[R,List.length_zip];omega
 refine mw.range a.length (λi _ H U=>Ext J U/\∃e:Int,H=Δ e/\e=(B.take i).foldl (kA k) s.zero/\(0<=e/\e<=k)/\(B.take i).all fL=true) aB.le
  ⟨Ext.refl _,s.zero,rfl,rfl,G.zero,rfl⟩ ?_ ?_
 .rintro i t4 _ U bp hi ⟨C,e,rfl,S,ab,V⟩ bq;obtain⟨x,E⟩:=aF (l:=s.vars) (i:=i) Ω;obtain⟨v,r⟩:=aF (l:=a) hi;obtain⟨z,K⟩:=aF (l:=sizes) (i:=i) Ω;obtain⟨ck,br,_⟩:=G.var i x z E K;have aE:B[i]?=σ (x,v):=by rw[R,S6];exact⟨E,r⟩
  have aI:B.take (i+1)=B.take i++[(x,v)]:=by rw[u9,aE];rfl
  have L:(B.take (i+1)).foldl (kA k) s.zero=kA k e (x,v):=by rw[aI,List.foldl_append,<-S];rfl
  have aJ:(B.take (i+1)).all fL=fL (x,v):=by rw[aI,List.all_append,V];simp
  have bt:(s.vars.map λx=>decide (x.gone≠0))[i]?=σ (decide (x.gone≠0)):=by rw[v8,E];rfl
  refine bA Ω ?_;refine ii (λ_ H aK=>Ext J aK/\∃e:Int,H=Δ e/\e=(B.take (i+1)).foldl (kA k) s.zero/\(0<=e/\e<=k)/\(B.take (i+1)).all fL=true) ?_ ?_
  .rintro t4 H aK ac;rw[aL];exact bq _ _ _ ac
  intro ax M;have ad:=I.ext C;rw[bb an.u ah.i Ψ (aa.ext C) r,aH aC.p 4 ad rfl];refine gL (α:=Bool) rfl rfl hU.u ec.i Ψ (bm bn C) bt λbu bx=>?_;obtain rfl:bu= .bool (decide (x.gone≠0)):=(List.cons.inj bx).1;rw[aj];refine⟨λaN=>M _ _ _ ⟨C,e,rfl,?_,ab,?_⟩,λae=>?_⟩
  .rw[L];unfold kA;rw[if_pos aN]
  .rw[aJ];unfold fL;rw[decide_eq_true aN,Bool.true_or]
  have bz:0<=v/\v<x.un.length:=(Y.2 i x v E r).resolve_left ae;rw[aH aC.p 3 ad rfl];refine gL (α:=Λ) (a:=aw x) rfl rfl b6.u an.i Ψ (bm bl C) (by rw[v8,E];rfl) λcl bB=>?_;refine(tB (v:=v) (dJ bB)).mono ?_;rintro _ cm _ ⟨rfl,aO⟩;have aP:=C.trans aO;have aQ:=w4 bz;rw[bJ,cg];refine⟨λaf=>?_,λaf=>?_⟩
  .have bC:v∉aw x:=by simpa using af
   rw[aH aC.p 0 (ad.ext aO) rfl];refine⟨?_,Q.trans aP⟩;unfold eW;rw[<-R,if_neg];intro bD;have:=List.all_eq_true.1 bD (x,v) (x6 aE);unfold fL at this;rw[decide_eq_false ae,Bool.false_or]at this;exact bC (aQ.2 (by simpa using this))
  have bF:dropped x.mask v=false:=aQ.1 (by simpa using af);intro cn bG _ _;have ak:=aP.trans bG;have aT:=I.ext ak;have aV:x.un[v.toNat]?=σ (x.un.getD v.toNat 0):=by rw[u4,x7 (show v.toNat<x.un.length by omega)];rfl
  have cp:=br _ (x6 aV);rw[aH aC.p 5 aT rfl];refine gL (α:=Λ) (a:=x.un) rfl rfl cR.u aq.i Ψ (bm bo ak) (by rw[v8,E];rfl) λcq bH=>?_;rw[fq (y:=v) (i:=v.toNat) Ω aq.u am.i Ψ (dJ bH) aV,aH aC.p 0 aT rfl];refine(mb Ω Ω).mono ?_;rintro _ cr _ ⟨rfl,bI⟩;refine M _ _ _ ⟨ak.trans bI,_,rfl,?_,⟨Ω,Ω⟩,?_⟩
  .rw[L];unfold kA;rw[if_neg ae]
  .rw[aJ];unfold fL;rw[bF];simp
 rintro t4 _ U bp ⟨C,e,rfl,S,ab,V⟩;rw[j4 Ω]at S V;have bK:eW k s a=s.funs.foldl (jX k a) e:=by
  unfold eW;rw[<-R,V,if_pos rfl,<-S]
 refine b2 Ω ?_;rw[aH aC.p 6 (I.ext C) rfl,gq dp.u (bm Z C),u7];have aY:=mG Z;rw[u7]at aY;refine b4.range s.funs.length (λj H N=>Ext J N/\∃A:Int,H=Δ A/\A=(s.funs.take j).foldl (jX k a) e/\0<=A/\A<=k) aY
  ⟨C,e,rfl,rfl,ab⟩ ?_ ?_
 rotate_left
 .rintro _ N bL ⟨O,A,rfl,W,_⟩;rw[j4 Ω]at W;rw[aR,aj];exact⟨λh=>Ω,λ_=>⟨by rw[bK,W],Q.trans O⟩⟩
 rintro j _ N bL ct ⟨O,A,rfl,W,bM⟩ bN;obtain⟨f,P⟩:=aF (l:=s.funs) (i:=j) Ω;obtain⟨X,a1,cu⟩:=G.funs f (x6 P);have L:(s.funs.take (j+1)).foldl (jX k a) e=jX k a A f:=by
  rw[u9,P,l7,List.foldl_append,<-W];rfl
 refine bA Ω ?_;refine aW (λH a2=>Ext J a2/\∃A:Int,H=Δ A/\A=(s.funs.take (j+1)).foldl (jX k a) e/\0<=A/\A<=k) ?_ ?_
 .rintro H a2 ac;rw[aL];exact bN _ _ ac
 intro ax M;refine l2 cW.p rfl dp.u cW.i (bm Z O) (by rw[v8,P];rfl) λcw a6=>?_;have bO:=al.one a6;obtain⟨aM,ap,aZ,rfl,bP,bQ,bR⟩:=nb a6;refine bw cW.i λa7 cA cB bS bT=>?_;refine b1 (vs:=[aM,ap,aZ,.bool (decide (f.live≠0))]) cW.i rfl rfl bO bT λbU bV cC a8=>?_;have bc:Ext N bU:=bS.put bV Ω;rw[aS cW.p rfl,aD (v:=.bool (decide (f.live≠0))) Ψ (a8.cell (o:=0+3) rfl),aj];refine⟨λbd=>?_,λbW=>M _ _ ⟨O.trans bc,A,rfl,by rw[L];unfold jX;rw[if_neg bW],bM⟩⟩;intro au be _ _;have bf:=bc.trans be;have av:=O.trans bf;have bX:=I.ext av;have ay:=a8.ext be;have bY:au.rangeAt a7 0 [aM,ap,aZ]:=λq v r=>by
  match q,r with
  |0,r=>cases r;exact ay.cell rfl
  |1,r=>cases r;exact ay.cell rfl
  |2,r=>cases r;exact ay.cell rfl
 rw[aS cW.p rfl,bE aX.p aX.i rfl (show au.rangeAt a7 (0+0) [aM,ap,aZ]from bY),aH aC.p 0 bX rfl];have aA:∀{v:x3}{l:Λ},Seen fc N [v] l->aG .i64 au v l:=λh=>(dJ h).ext bf;refine(Pg (a:=a) (aA bP) (a1▸aA bQ) (aA bR) X G.dQ.2.2 (aa.ext av) λv r=>?_).mono ?_
 .have cD:=X.scope.1 v r;have cE:=X.vars v r;obtain⟨x,E⟩:=aF (l:=s.vars) (i:=v.toNat) Ω;obtain⟨u,hu⟩:=aF (l:=a) (i:=v.toNat) Ω;obtain⟨z,K⟩:=aF (l:=sizes) (i:=v.toNat) Ω;have cF:=(G.var _ x z E K).1;have cG:=G.dQ.2.2 z (x6 K);have bZ:=bj f (x6 P) bd v r x E;have b0:=(Y.2 _ x u E hu).resolve_left λh=>h bZ;refine⟨u,hu,b0.1,?_⟩;rw[u4,K,V5];omega
 rintro _ cH _ ⟨rfl,bg⟩;refine⟨.inl bg,?_⟩;rw[<-a1];have cI:0<=bh f.ag f.cs (i9 a f.sc)/\bh f.ag f.cs (i9 a f.sc)<=k:=by
  unfold bh;cases hi:cj f.ag (i9 a f.sc) 0 with
  |none=>simp only;omega
  |some m=>
   simp only;obtain⟨b3,cJ,_⟩:=tx G (x6 P);have cK:=k4 b3.2 hi;rw[u4,x7 Ω,V5];exact X.h7 _ (S4 _)
 refine(mb Ω Ω).mono ?_;rintro _ cL _ ⟨rfl,b5⟩;refine M _ _ ⟨(av.trans bg).trans b5,_,rfl,?_,Ω,Ω⟩;rw[L];unfold jX;rw[if_pos bd]
theorem cz.vars{s:ao}{i:Nat}{x y:be}(h:cz s)(r:s.vars[i]?=σ x)(w:y.gone=x.gone):cz {s with vars:=s.vars.set i y}:=λf j p v q z a=>by
 have a:(s.vars.set i y)[v.toNat]?=σ z:=a;rw[X1]at a;split at a
 .rename_i e;split at a
  .cases a;subst e;rw[w];exact h f j p v q x r
  .cases a
 .exact h f j p v q z a
theorem cz.funs{s:ao}{f g:cK}(h:cz s)(r:s.funs[j]?=σ f)(I:g.sc=f.sc)(w:g.live≠0->f.live≠0):cz {s with funs:=s.funs.set j g}:=λx a e v p z q=>by
 rcases W7 a with a|rfl
 .exact h x a e v p z q
 .exact h f (x6 r) (w e) v (by rw[<-I];exact p) z q
structure gf where
 kind:Nat
 i:Int
 pos:Int
 v:Int
 c:Int
def dN(s:ao)(i v:Int):Option be:=if 0<=i then match s.vars[i.toNat]? with
 |some x=>if x.gone=0/\v∈aw x then σ x else ν
 |none=>ν else ν
def ew(s:ao)(j pos v:Int):Option (cK×Int×be):=if 0<=j/\0<=pos then match s.funs[j.toNat]? with
 |some f=>if f.live≠0 then match f.sc[pos.toNat]? with
  |some u=>(dN s u v).map λx=>(f,u,x)
  |none=>ν
  else ν
 |none=>ν else ν
def mm(k:Int)(s:ao)(f:cK)(pos:Nat)(v:Int):Int:=((ck s f.sc pos v).map (bh f.ag f.cs)).foldl min k
def dg(k c most:Int):Int:=if¬(0<=c/\c<=k)then 3 else if most<c then 7 else 0
def gS(x:be):Int:=match(aw x).map λv=>x.un.getD v.toNat 0 with
 |[]=>-1
 |c::l=>l.foldl min c
def gg(s:ao)(i:Nat)(v:Int):Λ->ao
 |[]=>s
 |w::L=>gg (if w≠v then dM s i w.toNat else s) i v L
def bj(k:Int)(s:ao)(a:gf):ao×Int:=
 if a.kind=0 then match ew s a.i a.pos a.v with
  |none=>(s,1)
  |some (f,u,x)=>if dg k a.c (mm k s f a.pos.toNat a.v)≠0 then(s,dg k a.c (mm k s f a.pos.toNat a.v))else(je s a.i.toNat f a.pos.toNat u.toNat x a.v (λg=>df k g a.c) λg=>cT k g a.c,0)
 else if a.kind=1 then match ew s a.i a.pos a.v with
  |none=>(s,1)
  |some (f,u,x)=>if dg k a.c (x.un.getD a.v.toNat 0)≠0 then(s,dg k a.c (x.un.getD a.v.toNat 0))else(je s a.i.toNat f a.pos.toNat u.toNat x a.v (λg=>cT k g a.c) λg=>df k g a.c,0)
 else if a.kind=2 then match(if 0<=a.i then s.vars[a.i.toNat]? else ν)with
  |none=>(s,1)
  |some x=>if x.gone≠0 then(s,1)else if dg k a.c (gS x)≠0 then(s,dg k a.c (gS x))else(hq s a.i.toNat x (λg=>df k g a.c) λg=>cT k g a.c,0)
 else if a.kind=3 then match(if 0<=a.i then s.vars[a.i.toNat]? else ν)with
  |none=>(s,1)
  |some x=>if x.gone≠0 then(s,1)else if dg k a.c (if aw x=[]then-1 else s.zero)≠0 then(s,dg k a.c (if aw x=[]then-1 else s.zero))else(hq s a.i.toNat x (λg=>cT k g a.c) λg=>df k g a.c,0)
 else if a.kind=4 then match dN s a.i a.v with
  |none=>(s,1)
  |some x=>if cT k s.zero (x.un.getD a.v.toNat 0)<k then(s,7)else(dM s a.i.toNat a.v.toNat,0)
 else match dN s a.i a.v with
  |none=>(s,1)
  |some x=>(gg s a.i.toNat a.v (aw x),0)
theorem om:∀(l:Λ)(z c:Int),c<=l.foldl min z↔c<=z/\∀x∈l,c<=x
 |[],z,c=>Ξ
 |a::l,z,c=>by
  rw[S0,om l (min z a) c];rw[List.forall_mem_cons];exact⟨λ⟨h1,e⟩=>⟨Ω,Ω,e⟩,λ⟨h1,e,f⟩=>⟨Ω,f⟩⟩
def lz{most:Int}(h:¬dg k c most≠0):(0<=c/\c<=k)/\c<=most:=by
 unfold dg at h;split at h
 .exact absurd Φ h
 .rename_i h1;split at h
  .exact absurd Φ h
  .exact⟨X4.1 h1,Ω⟩
def j8{s:ao}{i:Int}{x:be}(h:dN s i v=σ x):0<=i/\s.vars[i.toNat]?=σ x/\x.gone=0/\v∈aw x:=by
 unfold dN at h;split at h
 .rename_i e;split at h
  .rename_i y f;split at h
   .rename_i a;cases h;exact⟨e,f,a.1,a.2⟩
   .cases h
  .cases h
 .cases h
def nc{s:ao}{j pos u:Int}{f:cK}{x:be}(h:ew s j pos v=σ (f,u,x)):0<=j/\0<=pos/\s.funs[j.toNat]?=σ f/\f.live≠0/\f.sc[pos.toNat]?=σ u/\dN s u v=σ x:=by
 unfold ew at h;split at h
 .rename_i e;split at h
  .rename_i g p;split at h
   .rename_i q;split at h
    .rename_i w hw;cases a:dN s w v with
     |none=>rw[a]at h;cases h
     |some y=>
      rw[a]at h;cases h;exact⟨e.1,e.2,p,q,hw,a⟩
    .cases h
   .cases h
  .cases h
 .cases h
section
variable{k:Int}{sizes a:Λ}{s:ao}
def ne{g:Int}(a:0<=g/\g<=k)(e:0<=c/\c<=g):0<=df k g c/\df k g c<=k:=by
 unfold df;split<;>omega
def nf{g:Int}(a:0<=g/\g<=k)(e:0<=c):0<=cT k g c/\cT k g c<=k:=by
 unfold cT;omega
def hr{u:Nat}{v:Nat}{x:be}(a:bi k sizes s)(e:s.vars[u]?=σ x):0<=x.un.getD v 0/\x.un.getD v 0<=k:=by
 have hk:=a.fx;have f:=(x5.1 e).1;have h:=a.vars;exact DP Ω (a.var u x _ e (x7 Ω)).2.1
def oo{f:cK}(a:bi k sizes s)(e:f∈s.funs):0<=bh f.ag f.cs t/\bh f.ag f.cs t<=k:=(te a.fx λc h=>⟨a.fx,(a.funs f e).1.h7 c h⟩).2
def xn{x:be}(h:v∈aw x)(a:c<=gS x):c<=x.un.getD v.toNat 0:=by
 unfold gS at a;have hm:x.un.getD v.toNat 0∈(aw x).map λv=>x.un.getD v.toNat 0:=l9.2 ⟨v,h,rfl⟩;generalize (aw x).map (λv=>x.un.getD v.toNat 0)=l at a hm;cases l with
 |nil=>cases hm
 |cons b l=>
  have h1:=(om l b c).1 a;rcases V4.1 hm with e|e
  .rw[e];exact h1.1
  .exact h1.2 _ e
theorem rf{i:Nat}{v:Int}{x:be}:∀(L:Λ)(s:ao),bi k sizes s->s.vars[i]?=σ x->(∀w∈L,0<=w/\w<x.un.length)->bi k sizes (gg s i v L)/\(cz s->cz (gg s i v L))/\
  ∀ba,hh s a->x.gone=0->a[i]?=σ ba->eW k (gg s i v L) a=if ba∈L/\ba≠v then k else eW k s a
 |[],s,z,j,_=>⟨z,id,λba _ _ _=>by rw[if_neg Ξ];rfl⟩
 |w::L,s,z,j,C=>by
  unfold gg;by_cases hw:w≠v
  .rw[if_pos hw];have G:=C w (.head _);have J:=xh z j G;have H:=(x5.1 j).1;have K:(dM s i w.toNat).vars[i]?=σ {x with mask:=((x.mask.toNat ||| 2 ^ w.toNat:Nat):Int)}:=by rw[jw j];exact b8 H
   obtain⟨h1,E,F⟩:=rf L (dM s i w.toNat) J K λu hu=>C u (.tail _ hu);refine⟨h1,λM=>E ?_,λba p A B=>?_⟩
   .rw[jw j];exact cz.vars M j rfl
   .have N:hh (dM s i w.toNat) a:=by
     rw[jw j];refine⟨by show a.length=(s.vars.set _ _).length;rw[Z9];exact p.1,λq y b r I=>?_⟩;have r:(s.vars.set i {x with mask:=((x.mask.toNat ||| 2 ^ w.toNat:Nat):Int)})[q]?=σ y:=r;by_cases e:i=q
     .subst e;rw[b8 H]at r;cases r;exact p.2 i x b j I
     .rw[Y4 e]at r;exact p.2 q y b r I
    rw[F ba N A B,DY z p j A G B];by_cases e:ba=w
    .subst e;rw[if_pos rfl,if_pos (show ba∈ba::L/\ba≠v from⟨.head _,hw⟩)];split<;>rfl
    .rw[if_neg e];by_cases f:ba∈L/\ba≠v
     .rw[if_pos f,if_pos ⟨.tail _ f.1,f.2⟩]
     .rw[if_neg f,if_neg λh=>f ⟨(V4.1 h.1).resolve_left e,h.2⟩]
  .rw[if_neg hw];obtain⟨h1,E,F⟩:=rf L s z j λu hu=>C u (.tail _ hu);refine⟨h1,E,λba p A B=>?_⟩;rw[F ba p A B];have hw:=X4.1 hw;by_cases f:ba∈L/\ba≠v
   .rw[if_pos f,if_pos ⟨.tail _ f.1,f.2⟩]
   .rw[if_neg f,if_neg λh=>f ⟨(V4.1 h.1).resolve_left λe=>h.2 (e.trans hw),h.2⟩]
theorem cz.zero(h:cz s):cz {s with zero:=c}:=h
def D7{u:Nat}{f:cK}{x:be}{tup un:Int->Int}(h:cz s)(a:s.funs[j]?=σ f)(e:s.vars[u]?=σ x):cz (je s j f pos u x v tup un):=
 cz.vars (s:=dG s j f (dF tup (ck s f.sc pos v) f.ag f.cs)) (cz.funs h a rfl id) e rfl
def D8{u:Nat}{x:be}{g z:Int->Int}(h:cz s)(a:s.vars[u]?=σ x):cz (hq s u x g z):=cz.zero (cz.vars h a rfl)
def oq(k:Int)(s:ao)(m:gf)(s':ao)(e:Int)(a:Λ):Prop:=eW k s' a=if 5<=m.kind/\e=0/\a[m.i.toNat]? ≠σ m.v then k else eW k s a
def D9{m:gf}(p:bi k sizes s)(G:cz s):bi k sizes (bj k s m).1/\cz (bj k s m).1/\∀a,hh s a->oq k s m (bj k s m).1 (bj k s m).2 a:=by
 have hk:=p.fx;have C:∀e:Int,e≠0->bi k sizes s/\cz s/\∀a,hh s a->oq k s m s e a:=λe he=>⟨p,G,λa _=>by unfold oq;rw[if_neg λh=>he h.2.1]⟩;have low:∀{s':ao}{e:Int},m.kind<5->bi k sizes s'->cz s'->(∀a,hh s a->eW k s' a=eW k s a)->bi k sizes s'/\cz s'/\∀a,hh s a->oq k s m s' e a:=λhm h1 L U=>⟨h1,L,λa y=>by unfold oq;rw[if_neg λh=>Ω];exact U a y⟩;unfold bj;split
 .rename_i Q;cases z:ew s m.i m.pos m.v with
  |none=>exact C 1 Φ
  |some q=>
   obtain⟨f,u,x⟩:=q;simp only;split
   .rename_i he;exact C _ he
   .rename_i he;obtain⟨A,hm⟩:=lz he;simp only;obtain⟨_,_,H,M,hu,B⟩:=nc z;obtain⟨ab,j,F,R⟩:=j8 B;have I:=x6 H;have V:∀t∈ck s f.sc m.pos.toNat m.v,m.c<=bh f.ag f.cs t:=λt E=>((om _ _ _).1 hm).2 _ (l9.2 ⟨t,E,rfl⟩);have S:f.sc[m.pos.toNat]?=σ ((u.toNat:Nat):Int):=by rw[hu];congr 1;omega
    have E:∀t∈ck s f.sc m.pos.toNat m.v,0<=df k (bh f.ag f.cs t) m.c/\df k (bh f.ag f.cs t) m.c<=k:=λt E=>ne (oo p I) ⟨A.1,V t E⟩;have N:=nf (k:=k) (hr (v:=m.v.toNat) p j) A.1;refine low Ω (DU p H j E N) (D7 G H j) λa y=>DV p y H M S j R (G f I M) E N λt E r J=>?_;have:=oo (t:=t) p I;exact tD J ⟨V t E,this.2⟩ (hr p j) A.1
 split
 .rename_i _ Q;cases z:ew s m.i m.pos m.v with
  |none=>exact C 1 Φ
  |some q=>
   obtain⟨f,u,x⟩:=q;simp only;split
   .rename_i he;exact C _ he
   .rename_i he;obtain⟨A,hm⟩:=lz he;simp only;obtain⟨_,_,H,M,hu,B⟩:=nc z;obtain⟨ab,j,F,R⟩:=j8 B;have I:=x6 H;have S:f.sc[m.pos.toNat]?=σ ((u.toNat:Nat):Int):=by rw[hu];congr 1;omega
    have E:∀t∈ck s f.sc m.pos.toNat m.v,0<=cT k (bh f.ag f.cs t) m.c/\cT k (bh f.ag f.cs t) m.c<=k:=λt E=>nf (oo p I) A.1;have N:=ne (k:=k) (hr (v:=m.v.toNat) p j) ⟨A.1,hm⟩;refine low Ω (DU p H j E N) (D7 G H j) λa y=>DV p y H M S j R (G f I M) E N λt E r J=>?_;have h1:=oo (t:=t) p I;have L:=hr (v:=m.v.toNat) p j;have:=tD (k:=k) J ⟨hm,L.2⟩ h1 A.1;omega
 split
 .rename_i _ _ Q;cases z:(if 0<=m.i then s.vars[m.i.toNat]? else ν)with
  |none=>exact C 1 Φ
  |some x=>
   have j:s.vars[m.i.toNat]?=σ x:=by split at z;exact z;cases z
   simp only;split
   .exact C 1 Φ
   split
   .rename_i he;exact C _ he
   .rename_i F he;obtain⟨A,hm⟩:=lz he;simp only;have W:∀v∈aw x,m.c<=x.un.getD v.toNat 0:=λv B=>xn B hm;have O:∀v∈aw x,0<=df k (x.un.getD v.toNat 0) m.c/\df k (x.un.getD v.toNat 0) m.c<=k:=λv B=>ne (hr p j) ⟨A.1,W v B⟩;have P:=nf (k:=k) p.zero A.1;refine low Ω (xf p j O P) (D8 G j) λa y=>DX p y j (X4.1 F) O P λv B r J=>?_;exact tD J ⟨W v B,(hr p j).2⟩ p.zero A.1
 split
 .rename_i _ _ _ Q;cases z:(if 0<=m.i then s.vars[m.i.toNat]? else ν)with
  |none=>exact C 1 Φ
  |some x=>
   have j:s.vars[m.i.toNat]?=σ x:=by split at z;exact z;cases z
   simp only;obtain⟨X,Y⟩:∃X,X=(if aw x=[]then-1 else s.zero):=⟨_,rfl⟩;rw[<-Y];split
   .exact C 1 Φ
   split
   .rename_i he;exact C _ he
   .rename_i F he;obtain⟨A,hm⟩:=lz he;simp only;have Z:m.c<=s.zero:=by
     rw[Y]at hm;split at hm
     .omega
     .exact hm
    have O:∀v∈aw x,0<=cT k (x.un.getD v.toNat 0) m.c/\cT k (x.un.getD v.toNat 0) m.c<=k:=λv B=>nf (hr p j) A.1;have P:=ne (k:=k) p.zero ⟨A.1,Z⟩;refine low Ω (xf p j O P) (D8 G j) λa y=>DX p y j (X4.1 F) O P λv B r J=>?_;have:=tD (k:=k) J ⟨Z,p.zero.2⟩ (hr (v:=v.toNat) p j) A.1;omega
 split
 .rename_i _ _ _ _ Q;cases z:dN s m.i m.v with
  |none=>exact C 1 Φ
  |some x=>
   obtain⟨_,j,F,B⟩:=j8 z;simp only;split
   .exact C 7 Φ
   .rename_i he;have aa:=(fh.1 B).1;simp only;refine low Ω (xh p j aa) (by rw[jw j];exact cz.vars G j rfl) λa y=>?_;have ac:=(x5.1 j).1;have ad:=y.1;obtain⟨ba,K⟩:=aF (l:=a) (i:=m.i.toNat) Ω;rw[DY p y j F aa K];split
    .rename_i e;subst e;rw[oh p];split
     .have ae:(s.vars.zip a)[m.i.toNat]?=σ (x,m.v):=S6.2 ⟨j,K⟩;have h1:=q5 (tE (a:=a) p) (i:=m.i.toNat) (x:=dy (x,m.v)) (by rw[v8,ae];rfl);have L:=q4 _ (q6 (a:=a) p);have ah:dy (x,m.v)=x.un.getD m.v.toNat 0:=by unfold dy;rw[if_neg (by simp[F])]
      unfold cT at he;omega
     .rfl
    .rfl
 .rename_i h1 L U ai aj;cases z:dN s m.i m.v with
  |none=>exact C 1 Φ
  |some x=>
   obtain⟨_,j,F,B⟩:=j8 z;simp only;have T:∀w∈aw x,0<=w/\w<x.un.length:=λw hw=>(fh.1 hw).1;refine⟨(rf (a:=[]) (aw x) s p j T).1,(rf (a:=[]) (aw x) s p j T).2.1 G,λa y=>?_⟩;have ac:=(x5.1 j).1;have ad:=y.1;obtain⟨ba,K⟩:=aF (l:=a) (i:=m.i.toNat) Ω;unfold oq;rw[(rf (aw x) s p j T).2.2 ba y F K,K];by_cases e:ba=m.v
   .rw[if_neg λh=>h.2 e,if_neg λh=>h.2.2 (by rw[e])]
   .rw[if_pos (c:=5<=m.kind/\_) ⟨Ω,rfl,λh=>e (Z0 h)⟩];split
    .rfl
    .rename_i af;exact OS y j F K λh=>af ⟨h,e⟩
end
def Ph{f:Int->Int}{cs:Λ}(I:dE ag)(q:cs.length<=(bc ag).length)(h:∀t∈L,f (bh ag cs t)=bh ag cs t):dF f L ag cs=cs:=by
 apply Y9;intro i;cases a:cs[i]? with
 |none=>
  have h1:=List.getElem?_eq_none_iff.1 a;rw[Y2 (by rw[oe]<;>omega)]
 |some c=>
  obtain⟨t,j⟩:=aF (l:=bc ag) (i:=i) (by have:=(x5.1 a).1;omega);rw[pB j a];split
  .rename_i p;have e:bh ag cs t=c:=by
    unfold bh;rw[iS I j];simp only;rw[r8,u4,a];rfl
   have:=h t p;rw[e]at this;rw[this]
  .rfl
section
variable{k:Int}{sizes:Λ}{s:ao}
def Pj{i:Int}{u:Nat}{x y:be}{s':ao}(a:s.vars[u]?=σ x)(f:s'.vars=s.vars.set u y)(h:aw y=aw x):bH s' i=bH s i:=by
 unfold bH;rw[f,X1];by_cases e:u=i.toNat
 .subst e;rw[if_pos rfl,if_pos (x5.1 a).1,a];exact h
 .rw[if_neg e]
def Pk{x:be}{un:Λ}(h:un.length=x.un.length):aw {x with un:=un}=aw x:=by
 unfold aw;rw[h]
end
section
variable{k:Int}{sizes:Λ}{s:ao}
def tK{f:cK}(a:bi k sizes s)(e:f∈s.funs)(p:∀u,f.sc[pos]?=σ u->v∈bH s u)(h:t∈ck s f.sc pos v):∃m:Nat,cj f.ag t 0=σ (m:Int):=by
 obtain⟨j,q,_⟩:=a.funs f e;obtain⟨r,_⟩:=kG a e;rw[w9 a (λu hu=>⟨(j.scope.1 u hu).1,j.vars u hu⟩) p,<-q]at h;obtain⟨i,hi⟩:=X5.1 (S7.1 h).1;exact⟨i,iS r hi⟩
end
def Pl{x:be}(p:aw x≠[])(h:∀v∈aw x,c<=x.un.getD v.toNat 0):c<=gS x:=by
 unfold gS;have a:∀y∈(aw x).map λv=>x.un.getD v.toNat 0,c<=y:=λy f=>by
  obtain⟨v,q,rfl⟩:=l9.1 f;exact h v q
 have j:(aw x).map (λv=>x.un.getD v.toNat 0)≠[]:=λe=>p (List.map_eq_nil_iff.1 e);generalize (aw x).map (λv=>x.un.getD v.toNat 0)=l at a j;cases l with
 |nil=>exact absurd rfl j
 |cons b l=>exact(om l b c).2 ⟨a b (.head _),λy f=>a y (.tail _ f)⟩
section
variable{k:Int}{sizes:Λ}{s:ao}
def Ea{x:be}{g:Int->Int}{L:Λ}:aw {x with un:=dZ g x.un L}=aw x:=Pk (q7 _ _)
def Pm{a:gf}{x:be}(w:0<=a.i)(y:s.vars[a.i.toNat]?=σ x)(f:x.gone=0):
  (a.kind=2->(bj k s a).2=0->bj k s a=(hq s a.i.toNat x (λg=>df k g a.c) λg=>cT k g a.c,0)/\(0<=a.c/\a.c<=k)/\a.c<=gS x)/\
  (a.kind=2->(0<=a.c/\a.c<=k)->a.c<=gS x->bj k s a=(hq s a.i.toNat x (λg=>df k g a.c) λg=>cT k g a.c,0))/\
  (a.kind=3->(bj k s a).2=0->bj k s a=(hq s a.i.toNat x (λg=>cT k g a.c) λg=>df k g a.c,0)/\(0<=a.c/\a.c<=k)/\a.c<=(if aw x=[]then-1 else s.zero))/\
  (a.kind=3->(0<=a.c/\a.c<=k)->a.c<=(if aw x=[]then-1 else s.zero)->bj k s a=(hq s a.i.toNat x (λg=>cT k g a.c) λg=>df k g a.c,0)):=by
 have q:∀{m:Int},(0<=a.c/\a.c<=k)->a.c<=m->dg k a.c m=0:=λh1 j=>by
  unfold dg;rw[if_neg (λh=>h h1),if_neg Ω]
 generalize r:(if aw x=[]then-1 else s.zero)=z;have p:(if 0<=a.i then s.vars[a.i.toNat]? else ν)=σ x:=by rw[if_pos w,y]
 refine⟨λhk he=>?_,λhk h1 j=>?_,λhk he=>?_,λhk h1 j=>?_⟩
 .unfold bj at he ⊢;rw[if_neg Ω,if_neg Ω,if_pos hk,p]at he ⊢;simp only at he ⊢;rw[if_neg (λh=>h f)]at he ⊢;split at he
  .rename_i e;exact absurd he e
  .rename_i e;rw[if_neg e];exact⟨rfl,lz e⟩
 .unfold bj;rw[if_neg Ω,if_neg Ω,if_pos hk,p];simp only;rw[if_neg (λh=>h f),if_neg (λh=>h (q h1 j))]
 .unfold bj at he ⊢;rw[if_neg Ω,if_neg Ω,if_neg Ω,if_pos hk,p]at he ⊢;simp only[r]at he ⊢;rw[if_neg (λh=>h f)]at he ⊢;split at he
  .rename_i e;exact absurd he e
  .rename_i e;rw[if_neg e];exact⟨rfl,lz e⟩
 .unfold bj;rw[if_neg Ω,if_neg Ω,if_neg Ω,if_pos hk,p];simp only[r];rw[if_neg (λh=>h f),if_neg (λh=>h (q h1 j))]
end
section
variable{k:Int}{sizes:Λ}{s:ao}
def Pn{m:gf}(h:(bj k s m).2≠0):(bj k s m).1=s:=by
 generalize hm:bj k s m=r at h ⊢;unfold bj at hm
 repeat' split at hm
 all_goals (subst hm;first|rfl|exact absurd rfl h)
end
def Eb{of:Int->Int}(hk:0<=k)(h:∀v∈l,0<=of v/\of v<=k):0<=(dn k l of).1/\(dn k l of).1<=k:=by
 unfold dn;have:∀(l:Λ)(p:Int×Int),(0<=p.1/\p.1<=k)->(∀v∈l,0<=of v/\of v<=k)->0<=(l.foldl (eS of) p).1/\(l.foldl (eS of) p).1<=k:=λl=>by
  induction l with
  |nil=>exact λp a _=>a
  |cons v l f=>
   intro p a e;refine f _ ?_ λu hu=>e u (.tail _ hu);unfold eS;split
   .exact e v (.head _)
   .exact a
 exact this l (k,-1) ⟨hk,Int.le_refl _⟩ h
section
variable{w:x4}{ab ad:Nat}{A R:af}{n:aK}{s:ao}{t:ay}
end
def dz(n:aK)(s:ao)(i:Int):Int×Int:=dn n.k (bH s i) (eZ n s i)
def Po{s:ao}{i:Int}(a:bi k sizes s):(bH s i).length<=32:=by
 unfold bH;split
 .rename_i x e;have h:=(x5.1 e).1;have j:=a.vars;obtain⟨z,f⟩:=aF (l:=sizes) (i:=i.toNat) Ω;have h1:=(a.var _ x z e f).1;have p:=a.dQ.2.2 z (x6 f);have q:(aw x).length<=x.un.length:=by
   unfold aw;refine Y7 (Q0 _ _) ?_;rw[u7,List.length_range];exact o6 _
  omega
 .simp
section
variable{k:Int}{n:aK}{s:ao}
end
theorem xo{of:Int->Int}{c:Int}:∀(l:Λ)(b w:Int),w≠ -1->(∀v∈l,v≠ -1)->(c<=(l.foldl (eS of) (b,w)).1↔c<=b/\∀v∈l,c<=of v)
 |[],b,w,_,_=>Ξ
 |v::l,b,w,hw,e=>by
  rw[S0,List.forall_mem_cons];have j:=e v (.head _);have f:=λu hu=>e u (.tail _ hu);unfold eS;by_cases h:of v<b
  .rw[if_pos (.inr h)];show c<=(l.foldl (eS of) (of v,v)).1↔_;rw[xo l _ _ j f];exact⟨λ⟨h1,a⟩=>⟨Ω,h1,a⟩,λ⟨_,h1,a⟩=>⟨h1,a⟩⟩
  .rw[if_neg (by rintro (h1|h1)<;>contradiction)];show c<=(l.foldl (eS of) (b,w)).1↔_;rw[xo l _ _ hw f];exact⟨λ⟨h1,a⟩=>⟨h1,Ω,a⟩,λ⟨h1,_,a⟩=>⟨h1,a⟩⟩
def Pp{of:Int->Int}(h:∀v∈l,v≠ -1/\of v<=k):c<=(dn k l of).1↔c<=k/\∀v∈l,c<=of v:=by
 cases l with
 |nil=>simp[dn]
 |cons v l=>
  have f:=h v (.head _);have e:dn k (v::l) of=l.foldl (eS of) (of v,v):=by
   unfold dn;rw[S0];congr 1
  rw[e,xo l _ _ f.1 λu hu=>(h u (.tail _ hu)).1,List.forall_mem_cons];exact⟨λ⟨h1,a⟩=>⟨Ω,h1,a⟩,λ⟨_,h1,a⟩=>⟨h1,a⟩⟩
section
variable{n:aK}{s:ao}
def Pq{i:Int}(e:bi n.k n.sizes s):∀v∈bH s i,v≠ -1/\eZ n s i v<=n.k:=λv a=>by
 refine⟨?_,(w7 e).2⟩;unfold bH at a;split at a
 .have:=DL a;omega
 .cases a
def Ec{i:Int}(a:bi n.k n.sizes s):0<=(dz n s i).1/\(dz n s i).1<=n.k:=by
 have hk:=a.fx;exact Eb Ω λv _=>w7 a
def Ed{w:Nat}{x:be}{i u:Int}(f:bi n.k n.sizes s)(a:s.vars[w]?=σ x)(j:0<=v):u∈bH (dM s w v.toNat) i↔u∈bH s i/\(i.toNat=w->u≠v):=by
 have p:=(x5.1 a).1;have r:=f.vars;have h1:=f.var w x _ a (x7 Ω);have hm:((x.mask.toNat:Nat):Int)=x.mask:=Ω
 unfold bH;rw[jw a];simp only[X1];by_cases e:w=i.toNat
 .subst e;rw[if_pos rfl,if_pos p,a];simp only;rw[fh,fh];by_cases hu:0<=u
  .simp only;rw[xg j hu,hm,U7];simp[and_assoc]
  .exact⟨λh=>Ω,λh=>Ω⟩
 .rw[if_neg e];exact⟨λh=>⟨h,λq=>absurd q.symm e⟩,λh=>h.1⟩
def Pr{w:Nat}{i u:Int}{x:be}(a:s.vars[w]?=σ x):eZ n (dM s w v.toNat) i u=eZ n s i u:=by
 unfold eZ fP;rw[jw a];simp only[X1];by_cases e:w=i.toNat
 .subst e;rw[if_pos rfl,if_pos (x5.1 a).1,a]
 .rw[if_neg e]
end
structure ea(s s':ao):Prop where
 vars:s'.vars.length=s.vars.length
 var:∀(i:Nat)x y,s.vars[i]?=σ x->s'.vars[i]?=σ y->y.gone=x.gone/\y.un.length=x.un.length
 funs:s'.funs.length=s.funs.length
 fn:∀(j:Nat)f g,s.funs[j]?=σ f->s'.funs[j]?=σ g->g.sc=f.sc/\g.ag=f.ag/\g.live=f.live/\g.cs.length=f.cs.length
 cP:s'.cP=s.cP
def ea.rfl{s:ao}:ea s s:=⟨Eq.refl _,λ_ _ _ h1 a=>by rw[h1]at a;cases a;exact⟨Eq.refl _,Eq.refl _⟩,Eq.refl _,λ_ _ _ h1 a=>by rw[h1]at a;cases a;exact⟨Eq.refl _,Eq.refl _,Eq.refl _,Eq.refl _⟩,Eq.refl _⟩
def ea.trans{a b c:ao}(h:ea a b)(k:ea b c):ea a c:=by
 refine⟨k.vars.trans h.vars,λi x z p A=>?_,k.funs.trans h.funs,λj f q r B=>?_,k.cP.trans h.cP⟩
 .have C:=(x5.1 p).1;have E:=h.vars;obtain⟨y,s⟩:=aF (l:=b.vars) (i:=i) Ω;have h1:=h.var i x y p s;have e:=k.var i y z s A;exact⟨e.1.trans h1.1,e.2.trans h1.2⟩
 .have C:=(x5.1 r).1;have E:=h.funs;obtain⟨g,w⟩:=aF (l:=b.funs) (i:=j) Ω;have h1:=h.fn j f g r w;have e:=k.fn j g q w B;exact⟨e.1.trans h1.1,e.2.1.trans h1.2.1,e.2.2.1.trans h1.2.2.1,e.2.2.2.trans h1.2.2.2⟩
section
variable{k:Int}{sizes:Λ}{s:ao}
def xp{i:Nat}{x y:be}(r:s.vars[i]?=σ x)(w:y.gone=x.gone)(z:y.un.length=x.un.length):ea s {s with vars:=s.vars.set i y}:=by
 refine⟨Z9,λj a b q h=>?_,rfl,λj f g h1 p=>?_,rfl⟩
 .have h:(s.vars.set i y)[j]?=σ b:=h;by_cases e:i=j
  .subst e;rw[b8 (x5.1 r).1]at h;rw[r]at q;cases q;cases h;exact⟨w,z⟩
  .rw[Y4 e,q]at h;cases h;exact⟨rfl,rfl⟩
 .have p:s.funs[j]?=σ g:=p;rw[h1]at p;cases p;exact⟨rfl,rfl,rfl,rfl⟩
def Ps{f g:cK}(w:s.funs[j]?=σ f)(h:g.sc=f.sc/\g.ag=f.ag/\g.live=f.live/\g.cs.length=f.cs.length):ea s {s with funs:=s.funs.set j g}:=by
 refine⟨rfl,λi a b r p=>?_,Z9,λq a b r p=>?_,rfl⟩
 .have p:s.vars[i]?=σ b:=p;rw[r]at p;cases p;exact⟨rfl,rfl⟩
 .have p:(s.funs.set j g)[q]?=σ b:=p;by_cases e:j=q
  .subst e;rw[b8 (x5.1 w).1]at p;rw[w]at r;cases r;cases p;exact h
  .rw[Y4 e,r]at p;cases p;exact⟨rfl,rfl,rfl,rfl⟩
def Pt:ea s {s with zero:=c}:=⟨rfl,λ_ _ _ h1 a=>by have a:s.vars[_]?=σ _:=a;rw[h1]at a;cases a;exact⟨rfl,rfl⟩,rfl,λ_ _ _ h1 a=>by have a:s.funs[_]?=σ _:=a;rw[h1]at a;cases a;exact⟨rfl,rfl,rfl,rfl⟩,rfl⟩
def xq{i:Nat}:ea s (dM s i v.toNat):=by
 cases a:s.vars[i]? with
 |none=>unfold dM;rw[a];exact .rfl
 |some x=>rw[jw a];exact xp a rfl rfl
theorem xr{i:Nat}{v:Int}:∀(L:Λ)(s:ao),ea s (gg s i v L)
 |[],_=>.rfl
 |w::L,s=>by
  unfold gg;split
  .exact xq.trans (xr L _)
  .exact xr L s
def Ee{u:Nat}{x:be}{g z:Int->Int}(a:s.vars[u]?=σ x):ea s (hq s u x g z):=
 (xp (y:={x with un:=dZ g x.un (aw x)}) a rfl (q7 _ _)).trans Pt
def Ef{u:Nat}{f:cK}{x:be}{t un:Int->Int}(e:bi k sizes s)(a:s.funs[j]?=σ f)(h:s.vars[u]?=σ x):ea s (je s j f pos u x v t un):=by
 obtain⟨_,p⟩:=kG e (x6 a);have h1:ea s (dG s j f (dF t (ck s f.sc pos v) f.ag f.cs)):=Ps a ⟨rfl,rfl,rfl,oe _ _ _ _ Ω⟩;exact h1.trans (xp (s:=dG s j f (dF t (ck s f.sc pos v) f.ag f.cs)) (y:={x with un:=x.un.set v.toNat (un (x.un.getD v.toNat 0))}) h rfl Z9)
def Eg{m:gf}(w:bi k sizes s):ea s (bj k s m).1:=by
 by_cases he:(bj k s m).2=0
 .generalize a:bj k s m=r at he ⊢;unfold bj at a;split at a
  .split at a
   .subst a;exact .rfl
   .rename_i f u x e;obtain⟨_,_,j,_,_,p⟩:=nc e;obtain⟨_,q,_,_⟩:=j8 p;split at a
    .subst a;exact .rfl
    .subst a;simp only;exact Ef w j q
  split at a
  .split at a
   .subst a;exact .rfl
   .rename_i f u x e;obtain⟨_,_,j,_,_,p⟩:=nc e;obtain⟨_,q,_,_⟩:=j8 p;split at a
    .subst a;exact .rfl
    .subst a;simp only;exact Ef w j q
  have key:∀{x:be},(if 0<=m.i then s.vars[m.i.toNat]? else ν)=σ x->s.vars[m.i.toNat]?=σ x:=λh=>by
   split at h
   .exact h
   .cases h
  split at a
  .split at a
   .subst a;exact .rfl
   .rename_i x e;split at a
    .subst a;exact .rfl
    .split at a
     .subst a;exact .rfl
     .subst a;simp only;exact Ee (key e)
  split at a
  .split at a
   .subst a;exact .rfl
   .rename_i x e;generalize (if aw x=[]then-1 else s.zero)=y at a;split at a
    .subst a;exact .rfl
    .split at a
     .subst a;exact .rfl
     .subst a;simp only;exact Ee (key e)
  split at a
  .split at a
   .subst a;exact .rfl
   .split at a
    .subst a;exact .rfl
    .subst a;exact xq
  .split at a
   .subst a;exact .rfl
   .subst a;exact xr _ _
 .rw[Pn he];exact .rfl
def e9(i v:Int):gf:=⟨4,i,0,v,0⟩
def kI(i c:Int):gf:=⟨2,i,0,0,c⟩
def dA(k:Int)(i:Int):Λ->ao×Bool->ao×Bool
 |[],p=>p
 |v::L,p=>dA k i L ((bj k p.1 (e9 i v)).1,decide ((bj k p.1 (e9 i v)).2=0)||p.2)
def fj(n:aK)(i:Int)(p:ao×Bool):ao×Bool×Bool:=
 if er p.1 i.toNat=true then(p.1,p.2,false)else
 let q:=dA n.k i (bH p.1 i) (p.1,false)
 if(dz n q.1 i).2<0 then(q.1,false,true)else
 if 0<(dz n q.1 i).1 then((bj n.k q.1 (kI i (dz n q.1 i).1)).1,true,false)else(q.1,q.2||p.2,false)
def hs(n:aK):List Nat->ao×Bool->ao×Bool×Bool
 |[],p=>(p.1,p.2,false)
 |i::L,p=>if(fj n (i:Int) p).2.2=true then((fj n (i:Int) p).1,false,true)else hs n L ((fj n (i:Int) p).1,(fj n (i:Int) p).2.1)
def gE(n:aK)(s:ao):ao×Bool×Bool:=hs n (W5 n.sizes.length) (s,false)
structure ib(k:Int)(sizes:Λ)(s s':ao):Prop where
 ok:bi k sizes s'
 lA:cz s'
 same:ea s s'
 val:∀a,hh s a->eW k s' a=eW k s a
 pG:∀i u,u∈bH s' i->u∈bH s i
 zero:s.zero<=s'.zero
def Eh{s':ao}(h:ea s s')(e:hh s a):hh s' a:=by
 refine⟨e.1.trans h.vars.symm,λi y v f p=>?_⟩;have q:=(x5.1 f).1;have r:=h.vars;obtain⟨x,j⟩:=aF (l:=s.vars) (i:=i) Ω;have h1:=h.var i x y j f;rw[h1.1,h1.2];exact e.2 i x v j p
def ib.rfl(a:bi k sizes s)(e:cz s):ib k sizes s s:=⟨a,e,.rfl,λ_ _=>Eq.refl _,λ_ _ h=>h,Int.le_refl _⟩
def ib.trans{a b c:ao}(h:ib k sizes a b)(g:ib k sizes b c):ib k sizes a c:=
 ⟨g.ok,g.lA,h.same.trans g.same,λx e=>(g.val x (Eh h.same e)).trans (h.val x e),λi u hu=>h.pG i u (g.pG i u hu),Int.le_trans h.zero g.zero⟩
def Ei{m:gf}(e:bi k sizes s)(f:cz s)(hm:m.kind<5)(h:∀i u,u∈bH (bj k s m).1 i->u∈bH s i)(j:s.zero<=(bj k s m).1.zero):ib k sizes s (bj k s m).1:=by
 obtain⟨h1,p,q⟩:=D9 (m:=m) e f;refine⟨h1,p,Eg e,λa r=>?_,h,j⟩;have:=q a r;unfold oq at this;rw[if_neg Ω]at this;exact this
end
def dB{α:Type}(a b:List α)(i:Nat):List α:=a.take i++b.drop i
def tL{α:Type}{a b:List α}(h:a.length=b.length):dB a b b.length=a:=by
 unfold dB;rw[List.drop_length,V3,<-h,o8]
def xt{α:Type}{a b:List α}{i:Nat}(h:a.length=b.length):(dB a b i).length=b.length:=by
 unfold dB;rw[o4,o7,List.length_drop];omega
def Ej{α:Type}{a b:List α}{i:Nat}(h:a.length=b.length)(hi:i<b.length):(dB a b i)[i]?=b[i]?:=by
 unfold dB;rw[Y5 (by rw[o7];omega),o7,S5];congr 1;omega
def tM{α:Type}{a b:List α}{i:Nat}{x:α}(h:a.length=b.length)(f:a[i]?=σ x):(dB a b i).set i x=dB a b (i+1):=by
 have q:=(x5.1 f).1;refine Y9 λj=>?_;unfold dB;rw[X1,o4,o7,List.length_drop];by_cases e:i=j
 .subst e;rw[if_pos rfl,if_pos Ω,Y3 (by rw[o7];omega),Y0 Ω,f]
 .rw[if_neg e];by_cases p:j<i
  .rw[Y3 (by rw[o7];omega),Y3 (by rw[o7];omega),Y0 p,Y0 Ω]
  .rw[Y5 (by rw[o7];omega),Y5 (by rw[o7];omega),o7,o7,S5,S5];congr 1;omega
def c0(a b:ao)(m q:Nat):ao:=⟨a.zero,dB a.vars b.vars m,dB a.funs b.funs q,b.cP⟩
def Pu{a b:ao}(h:ea b a):c0 a b b.vars.length b.funs.length=a:=by
 unfold c0;rw[tL h.vars,tL h.funs,<-h.cP]
def Pv{x y:be}(h1:y.gone=x.gone):({({x with mask:=y.mask}:be)with un:=y.un}:be)=y:=by
 cases x;cases y;simp only at h1;subst h1;rfl
def Pw{x y:be}(h:y.un.length=x.un.length):aw {x with mask:=y.mask}=aw y:=by
 unfold aw;simp only;rw[h]
def Px{f g:cK}(h:g.sc=f.sc/\g.ag=f.ag/\g.live=f.live):({f with cs:=g.cs}:cK)=g:=by
 obtain⟨h1,a,e⟩:=h;cases f;cases g;simp only at h1 a e;subst h1;subst a;subst e;rfl
def tN(B:Nat)(w:x4)(a:x3)(cs:List x3)(f:cb):Prop:=∃ab ad A R t N A9 aA,fd N f/\a=Γ ab/\bF w ab ad A R (cH f) (dr (cH f)) t/\Plain t/\(∀r,A r->B<=r)/\
 fQ true A9 aA w cs (cH f).k (cH f).sizes (dr (cH f))/\(∀q r,A9 q r->¬A r/\¬R r/\B<=r)/\(∀r,aA r->¬eA w r/\r<w.heap.size/\B<=r)/\∀r,R r->B<=r
def Py(w:x4)(q:Λ)(v:x3)(w':x4):Prop:=Ext w w'/\∃a cs ok,v= .tuple #[a,.agg cs.toArray,.bool ok]/\(cs.length=8/\∀u∈cs,u.oneCell'=true)/\((ok=false/\a= .pointer ν)\/(ok=true/\∃f,gw q=σ f/\tN w.heap.size w' a cs f))/\∀f,gw q=σ f->mf f.funs<=16384->ok=true
def Pz(I:dE ag):(bc ag).Nodup:=by
 rw[List.nodup_iff_pairwise_ne,V9];intro i j hi a f he;have h1:=iS I (x7 hi);have e:=iS I (x7 a);rw[he,e]at h1;have:=Z0 h1;omega
section
variable{k:Int}{sizes:Λ}{s:ao}
def Ek{f:cK}(a:bi k sizes s)(e:f∈s.funs)(j:∀u,f.sc[pos]?=σ u->v∈bH s u):(ck s f.sc pos v).Nodup:=by
 obtain⟨h,p,_⟩:=a.funs f e;obtain⟨q,_⟩:=kG a e;rw[w9 a (λu hu=>⟨(h.scope.1 u hu).1,h.vars u hu⟩) j,<-p];exact(Pz q).sublist List.filter_sublist
def xu{α:Type}{l:List α}{q:Nat}{a:α}(e:l.Nodup)(h:l[q]?=σ a):a∉l.take q:=λhm=>by
 obtain⟨i,hi⟩:=X5.1 hm;have f:i<q:=by have:=(x5.1 hi).1;rw[o7]at this;omega
 rw[Y0 f]at hi;have h1:=(x5.1 hi).1;have j:=(x5.1 h).1;have:=(List.getElem_inj e (h₀:=h1) (h₁:=j)).1 (by rw[(x5.1 hi).2,(x5.1 h).2]);omega
def El{m q:Nat}{f:cK}{g:Int->Int}(y:bi k sizes s)(p:s.funs[j]?=σ f)(z:L.Nodup)(r:L[q]?=σ t)(hi:cj f.ag t 0=σ (m:Int)):
  bh f.ag (dF g (L.take q) f.ag f.cs) t=bh f.ag f.cs t/\j2 (dG s j f (dF g (L.take q) f.ag f.cs)) j m (g (bh f.ag f.cs t))=dG s j f (dF g (L.take (q+1)) f.ag f.cs):=by
 obtain⟨a,A⟩:=kG y (x6 p);have w:=xu z r;refine⟨by rw[DQ a A hi,if_neg w],?_⟩;have h:=mM a hi;rw[r8]at h;have E:=(x5.1 h).1;obtain⟨c,x⟩:=aF (l:=f.cs) (i:=m) Ω;have e:bh f.ag f.cs t=c:=by
  unfold bh;rw[hi];simp only;rw[r8,u4,x];rfl
 have B:=(OD (f:=g) a Ω h x w).2;unfold j2;have C:(dG s j f (dF g (L.take q) f.ag f.cs)).funs[j]?=σ {f with cs:=dF g (L.take q) f.ag f.cs}:=b8 (x5.1 p).1;rw[C,e];simp only;rw[B,u9,r];unfold dG;simp only[List.set_set];rfl
end
section
variable{w:x4}{ab ad:Nat}{A R:af}{n:aK}{s:ao}{t:ay}
def xv{i:Int}(h:bF w ab ad A R n s t):ai x8 Ho [Γ ab,Δ i,Δ v] w λr w'=>Ext w w'/\r=Δ (if(dN s i v).isSome=true then 0 else 1):=by
 have L:=h.2.2.2.1.vars;refine az func148 ?_;rw[dc ds.u];simp only[Z6,aY];refine aW (λr J=>r= .bool (!(dN s i v).isSome)/\Ext w J) ?_ ?_
 .rintro _ J ⟨rfl,C⟩;rw[cg];exact⟨λp=>⟨C,by rw[if_neg (by simpa using p)]⟩,λp=>⟨C,by rw[if_pos (by simpa using p)]⟩⟩
 intro ax E;refine(qZ (i:=i) h).mono ?_;rintro _ U _ ⟨rfl,q⟩;rw[cg];refine⟨λa=>E _ _ ⟨?_,q⟩,λa=>?_⟩
 .rw[U3,decide_eq_true_eq]at a;have y:dN s i v=ν:=by
   unfold dN;rw[if_pos a.1];have z:=a.2;unfold er at z;cases e:s.vars[i.toNat]? with
   |none=>rfl
   |some x=>
    rw[e]at z;simp only;rw[if_neg λh=>by simp[h.1]at z]
  rw[y];rfl
 refine(iE (i:=i) (h.ext q)).mono ?_;rintro _ M _ ⟨⟨b,m,rfl,B⟩,H⟩;refine(Dz (v:=v) B.1).mono ?_;rintro _ N _ ⟨rfl,I⟩;rw[bJ];refine E _ _ ⟨?_,(q.trans H).trans I⟩;congr 2;by_cases f:0<=i/\i<n.sizes.length
 .obtain⟨x,e⟩:=aF (l:=s.vars) (i:=i.toNat) Ω;rw[OI B f.1 e];unfold dN;rw[if_pos f.1,e];have K:x.gone=0:=by
   rw[decide_eq_true f.1,T6]at a;unfold er at a;rw[e]at a;simpa using a
  simp only;by_cases j:v∈aw x
  .rw[decide_eq_true j,if_pos ⟨K,j⟩];rfl
  .rw[decide_eq_false j,if_neg λh=>j h.2];rfl
 .obtain⟨rfl,rfl⟩:=B.2.1 f;have y:dN s i v=ν:=by
   unfold dN;by_cases G:0<=i
   .rw[if_pos G,Y2 Ω]
   .rw[if_neg G]
  rw[y,decide_eq_false Ω];rfl
def PA(s:ao)(j pos v:Int)(u e:Int):Prop:=(e=0/\∃f x,ew s j pos v=σ (f,u,x))\/(e=1/\ew s j pos v=ν)
def Em{j pos:Int}(h:bF w ab ad A R n s t):ai x8 Hl [Γ ab,Δ j,Δ pos,Δ v] w λr w'=>Ext w w'/\∃u e,r= .tuple #[Δ u,Δ e]/\PA s j pos v u e:=by
 refine az func145 ?_;rw[dc ds.u];simp only[Z6,aY];have key:∀(K:x3->x4->Prop),(∀r w',Ext w w'->(∀f,0<=j->s.funs[j.toNat]?=σ f->aG .i64 w' r f.sc)->K r w')->ai x8 rX [Γ ab,Δ j] w K:=λK W=>by
  by_cases X:0<=j/\j<s.funs.length
  .obtain⟨f,p⟩:=aF (l:=s.funs) (i:=j.toNat) Ω;have:=w8 h p;rw[show((j.toNat:Nat):Int)=j by omega]at this;refine this.mono ?_;rintro r J _ ⟨C,g,_,hm⟩;exact W r J C λH _ Y=>by rw[p]at Y;cases Y;exact hm.ls
  .refine (OC h X).mono ?_;rintro r J _ ⟨rfl,C⟩;exact W _ J C λf E p=>absurd ⟨E,by have:=(x5.1 p).1;omega⟩ X
 refine key _ λr J C Z=>?_;have M:∀{P:Prop},(¬∃f u,0<=j/\0<=pos/\s.funs[j.toNat]?=σ f/\f.live≠0/\f.sc[pos.toNat]?=σ u)->(ew s j pos v=ν->P)->P:=λz am=>am (by
  cases I:ew s j pos v with
  |none=>rfl
  |some q=>
   obtain⟨f,u,x⟩:=q;obtain⟨N,O,a3,a4,a5,_⟩:=nc I;exact absurd ⟨f,u,N,O,a3,a4,a5⟩ z)
 refine aW (λaa U=>Ext J U/\((aa= .bool true/\ew s j pos v=ν)\/(aa= .bool false/\∃f u,0<=j/\0<=pos/\s.funs[j.toNat]?=σ f/\f.live≠0/\f.sc[pos.toNat]?=σ u))) ?_ ?_
 .rintro _ U ⟨Q,⟨rfl,z⟩|⟨rfl,f,u,E,ac,p,ao,hu⟩⟩
  .rw[bQ];exact⟨C.trans Q,0,1,rfl,.inr ⟨rfl,z⟩⟩
  .rw[aY];intro ap B _ _;have ae:=(Z f E p).ext (Q.trans B);refine qf (y:=pos) (i:=pos.toNat) Ω an.u ah.i ae hu λb o aq=>?_;rw[aD (v:=Δ u) Ψ aq,fq (y:=pos) (i:=pos.toNat) Ω an.u ah.i Ψ ae hu];have af:=(C.trans Q).trans B;refine(xv (i:=u) (v:=v) (h.ext af)).mono ?_;rintro _ av _ ⟨ag,rfl⟩;refine⟨.inl ag,af.trans ag,u,_,rfl,?_⟩;have I:ew s j pos v=(dN s u v).map λx=>(f,u,x):=by
    unfold ew;rw[if_pos ⟨E,ac⟩,p];simp only;rw[if_pos ao,hu]
   cases ak:dN s u v with
   |none=>exact .inr ⟨rfl,by rw[I,ak];rfl⟩
   |some x=>exact .inl ⟨rfl,f,x,by rw[I,ak];rfl⟩
 intro ax L;refine(w2 (j:=j) (h.ext C)).mono ?_;rintro _ ap _ ⟨rfl,B⟩;have same:∀{f H:cK},s.funs[j.toNat]?=σ f->s.funs[j.toNat]?=σ H->H=f:=λa b=>by rw[a]at b;exact(Z0 b).symm
 rw[bJ,cg];refine⟨λS=>M (λ⟨f,u,N,O,a3,a4,a5⟩=>?_) λz=>L _ _ ⟨B,.inl ⟨rfl,z⟩⟩,λV=>?_⟩
 .unfold gD at S;rw[a3]at S;simp[N,a4]at S
 have V:0<=j/\gD s j.toNat=true:=by simpa using V
 obtain⟨E,G⟩:=V;obtain⟨f,p,au⟩:∃f,s.funs[j.toNat]?=σ f/\f.live≠0:=by
  unfold gD at G;cases p:s.funs[j.toNat]? with
  |none=>rw[p]at G;cases G
  |some f=>rw[p]at G;exact⟨f,rfl,by simpa using G⟩
 rw[aR,aj];refine⟨λaw=>M (λ⟨_,_,_,O,_⟩=>Ω) λz=>L _ _ ⟨B,.inl ⟨rfl,z⟩⟩,λac=>?_⟩;rw[aU an.u ((Z f E p).ext B),cS];by_cases al:(f.sc.length:Int)<=pos
 .refine M (λ⟨H,u,_,_,a3,_,a5⟩=>?_) λz=>L _ _ ⟨B,.inl ⟨by rw[decide_eq_true al],z⟩⟩;obtain rfl:=same p a3;have:=(x5.1 a5).1;omega
 .obtain⟨u,hu⟩:=aF (l:=f.sc) (i:=pos.toNat) Ω;exact L _ _ ⟨B,.inr ⟨by rw[decide_eq_false al],f,u,E,Ω,p,au,hu⟩⟩
def tO{most:Int}(h:bF w ab ad A R n s t):ai x8 G0 [Γ ab,Δ c,Δ most] w λr w'=>Ext w w'/\r=Δ (dg n.k c most):=by
 refine az func102 ?_;refine(mZ h).mono ?_;rintro _ J _ ⟨rfl,a⟩;refine jN.mono ?_;rintro _ U _ ⟨rfl,e⟩;have hi:cA c n.k↔0<=c/\c<=n.k:=⟨λh=>h.2,λj=>⟨h.2.2.2.1.fx,j⟩⟩;unfold dg;rw[bJ,cg];refine⟨λf=>⟨a.trans e,?_⟩,λf=>?_⟩
 .have:¬cA c n.k:=by simpa using f
  rw[if_pos λh=>this (hi.2 h)]
 .have:cA c n.k:=by simpa using f
  rw[if_neg λh=>h (hi.1 this),bS,aj];exact⟨λh=>⟨a.trans e,by rw[if_pos h]⟩,λh=>⟨a.trans e,by rw[if_neg h]⟩⟩
def PB{a b:Int}(hk:right k)(f:0<=a/\a<=k)(j:0<=b/\b<=k)(s:a=k\/b<=a):ai x8 Hx [Δ a,Δ b,Δ k] w λv w'=>v= .tuple #[Δ (df k a b),Δ 0]/\Ext w w':=by
 have x:1<=k/\k<=2147483648:=hk;refine az func159 ?_;refine aW (λr J=>r= .bool false/\Ext w J) ?_ ?_
 .rintro _ J ⟨rfl,e⟩;unfold df;rw[aY,bf,aj];refine⟨λh=>⟨by rw[if_pos h],e⟩,λh=>?_⟩;rw[if_neg h,bS,aj];refine⟨λy=>Ω,λ_=>?_⟩;rw[ed,wrap_i64 Ω Ω];exact⟨rfl,e⟩
 intro ax p;refine jN.mono ?_;rintro _ J _ ⟨rfl,e⟩;rw[decide_eq_true (show cA a k from⟨hk,f⟩),bJ,X3,aY];refine jN.mono ?_;rintro _ U _ ⟨rfl,q⟩;rw[decide_eq_true (show cA b k from⟨hk,j⟩),bJ,X3];exact p _ _ ⟨rfl,e.trans q⟩
def tP{a:Int}(h:bF w ab ad A R n s t)(e:0<=a/\a<=n.k)(f:0<=c/\c<=n.k)(j:a=n.k\/c<=a):ai x8 nw [Γ ab,Δ a,Δ c] w λr w'=>r=Δ (df n.k a c)/\Ext w w':=by
 refine az func104 ?_;refine(mZ h).mono ?_;rintro _ J _ ⟨rfl,p⟩;refine(PB h.2.2.2.1.fx e f j).mono ?_;rintro _ U _ ⟨rfl,q⟩;rw[bx,bz];exact⟨rfl,p.trans q⟩
def rg{a:Int}(h:bF w ab ad A R n s t)(e:0<=a/\a<=n.k)(f:0<=c/\c<=n.k):ai x8 nx [Γ ab,Δ a,Δ c] w λr w'=>r=Δ (cT n.k a c)/\Ext w w':=by
 refine az func105 ?_;refine(mZ h).mono ?_;rintro _ J _ ⟨rfl,j⟩;refine(Ov e f h.2.2.2.1.fx).mono ?_;rintro _ U _ ⟨rfl,p⟩;rw[bx,bz];exact⟨rfl,j.trans p⟩
end
def PC{g n c:Nat}(a:ac w g cI cs)(h:∀w',ae (λr=>r=g) w w'->(∀o vs,w.rangeAt g o vs->w'.rangeAt g o vs)->K (.slice (σ ⟨g,0,ν⟩) n c) w'):
  aB x8 (convert cM cM (.slice (σ ⟨g,0,ν⟩) n c)) w K:=by
 have f:∀r,(w.freeze ⟨g,cs.length,ν⟩ 1).heap[r]?=if g=r then(w.heap[r]?).map (λ| .cells c p (lo,hi)=>.cells c p (if lo == hi then(cs.length,cs.length+1)else(min lo cs.length,max hi (cs.length+1)))|o=>o)else w.heap[r]?:=λr=>by
  unfold x4.freeze;rw[if_neg Φ];exact Array.getElem?_modify
 have A:(w.freeze ⟨g,cs.length,ν⟩ 1).heap.size=w.heap.size:=by
  unfold x4.freeze;rw[if_neg Φ];exact Array.size_modify
 have q:w.shape? g=σ (cI,cs.length):=by
  unfold x4.shape?;unfold ac at a;rw[a];simp
 have s:(convert cM cM (.slice (σ ⟨g,0,ν⟩) n c)).run x8 w= .ok (.slice (σ ⟨g,0,ν⟩) n c) (w.freeze ⟨g,cs.length,ν⟩ 1):=by
  simp[convert,run_underlying cM.u,run_underlying cI.u,markStringish,q]
 unfold ac at a;refine .of s ⟨by unfold x4.freeze;rw[if_neg Φ],.ke (by unfold x4.freeze;rw[if_neg Φ]) (by unfold x4.freeze;rw[if_neg Φ]),by unfold x4.freeze;rw[if_neg Φ],Ω,λr o e I=>?_⟩ (h _ ⟨Ω,λr o e _ x=>?_⟩ λo vs y j v z=>?_)
 .rw[f];by_cases he:g=r
  .subst he;rw[a]at e;cases e;cases I
  .rw[if_neg he];exact e
 .rw[f,if_neg λhe=>x he.symm];exact e
 .have h1:=y j v z;unfold x4.cell? at h1 ⊢;rw[f,if_pos rfl];rw[a]at h1 ⊢;exact h1
def xw(s0 s:ao):Prop:=s.zero=s0.zero/\s.funs=s0.funs/\s.vars.length=s0.vars.length/\∀(i:Nat)x,s.vars[i]?=σ x->∃a,s0.vars[i]?=σ a/\x.un=a.un/\x.gone=0/\a.gone=0/\a.mask=0
def xw.new(n:aK):xw (dr n) (dr n):=⟨rfl,rfl,rfl,λi x a=>by
 refine⟨x,a,rfl,?_⟩;have a:(n.unary.map newVar)[i]?=σ x:=a;rw[v8]at a;obtain⟨u,_,rfl⟩:=X2.1 a;exact⟨rfl,rfl,rfl⟩⟩
def En(n:aK):cz (dr n):=λf _ _ v _ x a=>by
 obtain⟨_,_,_,h,_⟩:=(xw.new n).2.2.2 _ x a;exact h
def PD{U:x4}{ak:Nat}{E:x3}{f:cb}(G:tN B U E cs f)(e:Ext U w)(H:ac w ak aC cs)(O:U.heap.size<=ak):
  ∃ab ad A R A9 aA t,E=Γ ab/\b3 w ab ad ak A R A9 aA (cH f) (dr (cH f)) (dr (cH f)) t [] cs/\t.marks=[]/\(∀r,A r->B<=r)/\(∀q r,A9 q r->B<=r)/\t.cells.length<=2000000/\t.olds.length=0/\(cH f).funs.length<=256/\t.iq=0/\(∀r,aA r->B<=r)/\∀r,R r->B<=r:=by
 obtain⟨ab,ad,A,R,t,N,A9,aA,x,rfl,y,j,J,K,C,p,L⟩:=G;have F:=ml y;have z:=e.size;have s:=(ts (B8 x).1 (w5 x) (cH f).unary.length (cH f).funs.length);rw[wI,<-y.2.1]at s;unfold ay.bV at s;rw[u7]at s;refine⟨ab,ad,A,R,λq r=>A9 q r/\r<U.heap.size,aA,t,rfl,⟨y.ext e,j.2.2.1,H,K.old.ext e,λq r h=>⟨(C q r h.1).1,(C q r h.1).2.1,by have:=h.2;omega⟩,λr a=>⟨λh=>(p r a).1 (mV (λo M I _=>e.aV r o M I) h),by have:=(p r a).2;omega,by have:=(p r a).2;omega⟩,λh=>by have:=F ak (.inl h);omega,λh=>by have:=F ak (.inr h);omega⟩,j.1,J,λq r h=>(C q r h.1).2.2,s,by rw[j.2.1];rfl,w5 x,j.2.2.2,λr a=>(p r a).2.2,L⟩
def PE(s:ao):Prop:=∀e∈s.cP,e.sc.length<=1000/\e.pt.length<=1000
section
variable{w w':x4}{ab ad ak de:Nat}{A R O M aA:af}{A9:Nat->af}{k:Int}{sizes:Λ}{I:List ao}{n:aK}{s u:ao}{t:ay}{h:List ay}{cs:List x3}
structure R1(w:x4)(ak:Nat)(A R:af)(A9:Nat->af)(aA O M:af):Prop where
 o:∀r,O r->r<w.heap.size/\¬A r/\¬R r/\(∀q,¬A9 q r)/\¬aA r/\r≠ak/\¬M r
 m:∀r,M r->r<w.heap.size/\¬A r/\(∀q,¬A9 q r)/\¬aA r/\r≠ak
def b3.side{S:af}(p:b3 w ab ad ak A R A9 aA n s u t h cs)(f:ae S w w')(e:∀r,r<w.heap.size->S r->¬A r/\¬R r/\(∀q,¬A9 q r)/\¬aA r/\r≠ak):b3 w' ab ad ak A R A9 aA n s u t h cs:=by
 have z:=f.size;exact⟨⟨p.dl.1.aa f λr a h I=>h.elim (e r a I).1 (e r a I).2.1,p.dl.2⟩,p.ho,p.box.aa f λI=>(e ak p.box.lt I).2.2.2.2 rfl,p.doc.aa f λr a h I=>h.elim (λ⟨q,h⟩=>(e r a I).2.2.1 q h) (e r a I).2.2.2.1,p.apart,
  λr a=>⟨λh=>(p.read r a).1 (mV (λo j I _=>f.aV r o j I λx=>(e r (p.read r a).2.1 x).2.2.2.1 a) h),by have:=(p.read r a).2.1;omega,(p.read r a).2.2⟩,p.out⟩
def b3.Eo(p:b3 w ab ad ak A R A9 aA n s u t h cs):∀q r,A9 q r->¬aA r:=by
 obtain⟨_,_,_,_,_,_,_,_,_,_,_,_,_,a⟩:=p.doc;exact(a rfl).2
end
def Ep{w0:x4}{out:x3}{g:Nat}{x:Int}(e:Ext w0 w)(hm:au .i64 ah w g out l)(f:∀r,leads out r->w0.heap.size<=r)(F:l.length<=1000000000)(p:∀v w' q,Ext w0 w'->au .i64 ah w' q v (l++[x])->(∀r,leads v r->w0.heap.size<=r)->K v w'):
  aB x8 (Y8 an 1 #[(0,Δ x)]) w λy J=>aB x8 (Z3 #[an,an] an #[out,y]) J K:=by
 refine et (k:=.i64) an.u ah.i rfl λv4 G H I a s=>?_;refine gP an.u ah.i rfl (hm.ext a) s.ls Θ Θ λv5 A L B C E=>?_;have z:=(e.trans a).size;exact p _ _ A ((e.trans a).then E λr j he=>by have:=f r he;omega) B λr j=>(C r j).elim (f r) λh=>Ω
def ot(x:be):(aw x).length<=x.un.length:=by
 unfold aw;have:=Q0 (λv:Int=>!dropped x.mask v) ((W5 x.un.length).map λv:Nat=>(v:Int));rw[u7,List.length_range]at this;exact this
section
variable{w:x4}{ab ad:Nat}{A R:af}{n:aK}{s:ao}{t:ay}
end
def tQ{out:x3}{g:Nat}{x:Int}(hm:au .i64 am w g out l)(C:l.length<=1000000000000)(e:∀v w' f,ae (λr=>leads out r) w w'->au .i64 am w' f v (l++[x])->(∀r,leads v r->leads out r\/w.heap.size<=r)->K v w'):
  aB x8 (Y8 aq 1 #[(0,Δ x)]) w λy J=>aB x8 (Z3 #[aq,aq] aq #[out,y]) J K:=by
 refine et (k:=.i64) aq.u am.i rfl λv4 E F G a j=>?_;refine gP aq.u am.i rfl (hm.ext a) j.ls Θ Θ λv5 p H q s A=>?_;have z:=a.size;exact e _ _ p ((a.aa _).trans A) q λr B=>(s r B).imp id λh=>Ω
def kJ(l:Λ):Λ:=(l.length:Int)::l
def ou(w:x4)(out v:x3)(l:Λ)(w':x4):Prop:=ae (λr=>leads out r) w w'/\(∃g,au .i64 am w' g v l)/\∀r,leads v r->leads out r\/w.heap.size<=r
def ou.trans{J U:x4}{o v u:x3}{l':Λ}(h:ou w o v l J)(k:ou J v u l' U):ou w o u l' U:=by
 obtain⟨h1,_,e⟩:=h;obtain⟨f,p,q⟩:=k;have z:=h1.size;have s:=f.size;exact⟨⟨Ω,λr x a I j=>f.aV r x (h1.aV r x a I j) I λh=>(e r h).elim j λh=>by have:=(j5.1 a).1;omega⟩,p,λr a=>(q r a).elim (e r) λh=>.inr Ω⟩
def Er{k f:n9}{a:r9}{g:Nat}{v u:x3}{l':Λ}(h:au k e w g v l)(h':au f a w j u l')(he:e≠a)(p:ae (λr=>leads u r) w w'):au k e w' g v l:=br h p λr q hu=>by
 obtain⟨y,s⟩:=qX h r q;obtain⟨z,x⟩:=qX h' r hu;exact he (ez s x)
def PF{k:n9}{a:r9}{g b:Nat}{u:x3}(f:ac w b a cs)(h:au k e w g u l)(he:e≠a)(j:ae (λr=>leads u r) w w'):ac w' b a cs:=f.aa j λhu=>by
 obtain⟨q,p⟩:=qX h b hu;exact he (ez p f)
def tR{out cw:x3}{g f:Nat}{o:Λ}(hm:au .i64 am w g out o)(h:au .i64 ah w f cw l)(L:o.length+l.length<=100000000000):ai x8 Gi [out,cw] w λv w'=>ou w out v (o++kJ l) w':=by
 refine az func48 ?_;rw[aU an.u h.ls];refine tQ hm Ω λz J g1 j A B=>?_;have p:=Er h hm Φ j;have C:ou w out z (o++[(l.length:Int)]) J:=⟨j,⟨g1,A⟩,B⟩;rw[aU an.u p.ls];refine b4.range l.length (λi a U=>ou w out a (o++(l.length:Int)::l.take i) U/\au .i64 ah U f cw l) Ω ⟨by rw[List.take_zero];exact C,p⟩ ?_ ?_
 .rintro i a U E hi ⟨e,q⟩ G;obtain⟨x,r⟩:=aF (l:=l) hi;obtain⟨_,⟨M,s⟩,_⟩:=id e;refine bA Ω ?_;rw[bb an.u ah.i Ψ q.ls r];refine tQ s (by rw[o4,Z2,o7];omega) λv3 N H y I K=>?_;rw[aL];refine G _ _ ⟨e.trans ⟨y,⟨H,?_⟩,K⟩,Er q s Φ y⟩;rw[u9,r];simpa using I
 .rintro a U E ⟨e,_⟩;refine b2 Ω ?_;rw[o8]at e;exact e
def fk(s:ao)(sc t:Λ):Bool:=(sc.zip t).all λp=>match s.vars[p.1.toNat]? with
 |some x=>decide (p.2∈aw x)
 |none=>false
section
variable{w:x4}{ab ad:Nat}{A R:af}{n:aK}{s:ao}{t:ay}
def PG{szv aO:x3}{at_:Int}(h:bF w ab ad A R n s t)(f:aG .i64 w aM sc)(O:aG .i64 w szv ag)(P:∀v∈sc,0<=v/\v<n.sizes.length)(Q:aG .i64 w aO tl)(ap:tl.length=sc.length):
  ai x8 Gm [Γ ab,.agg #[aM,szv,Δ at_],aO] w λr w'=>r= .bool (fk s sc tl)/\Ext w w':=by
 have aq:=h.2.2.2.1.vars;refine az func52 ?_;refine bk λg1 J au L j=>?_;have j:ac J g1 dS [aM,szv,Δ at_]:=by
  obtain⟨_,_,_,S⟩:=c8 f;obtain⟨_,_,_,V⟩:=c8 O;rw[S,V]at j ⊢;exact j
 rw[aH dS.p 0 j rfl,aU an.u (f.ext L)];refine b4.range sc.length (λi _ U=>Ext w U/\fk s (sc.take i) (tl.take i)=true) f.le ⟨L,rfl⟩ ?_ ?_
 .rintro i W U X hi ⟨z,a⟩ Y;obtain⟨v,B⟩:=aF (l:=sc) hi;obtain⟨y,G⟩:=aF (l:=tl) (i:=i) Ω;have M:=P v (x6 B);obtain⟨x,C⟩:=aF (l:=s.vars) (i:=v.toNat) Ω;refine bA Ω ?_;rw[bb an.u ah.i Ψ (f.ext z) B];intro av Z _ _;have E:=z.trans Z;refine qf rfl an.u ah.i (Q.ext E) G λb o aa=>?_;rw[aD (v:=Δ y) Ψ aa];refine(iE (i:=v) (h.ext E)).mono ?_;rintro _ ax _ ⟨⟨b,m,rfl,H⟩,I⟩;refine⟨.inl I,?_⟩;refine(Dz H.1).mono ?_;rintro _ ay _ ⟨rfl,N⟩;obtain⟨hm,ae⟩:=H.2.2 x M.1 C;have aA:=j3 H M.1 C;have af:(decide (0<=y/\y<(m:Int))&&b.testBit y.toNat)=decide (y∈aw x):=by
   rw[ae,hm];by_cases e:0<=y/\y<(x.un.length:Int)
   .rw[decide_eq_true e,T6,decide_eq_true Ω,T6,Int.toNat_of_nonneg e.1];have:=w4 (x:=x) e;rw[V7,decide_eq_true_eq];simpa using this.symm
   .rw[decide_eq_false e,Bool.false_and];symm;refine decide_eq_false λhm=>e ?_;unfold aw at hm;obtain⟨h1,_⟩:=S7.1 hm;obtain⟨q,ak,rfl⟩:=l9.1 h1;have:=List.mem_range.1 ak;omega
  have al:(sc.take (i+1)).zip (tl.take (i+1))=(sc.take i).zip (tl.take i)++[(v,y)]:=by
   rw[u9,u9,B,G,l7,l7,List.zip_append Θ];rfl
  have am:fk s (sc.take (i+1)) (tl.take (i+1))=decide (y∈aw x):=by
   unfold fk at a ⊢;rw[al,List.all_append,a,T6];simp[C]
  rw[af,bJ,cg];refine⟨λK=>?_,λK=>?_⟩
  .refine⟨?_,(E.trans I).trans N⟩;congr 1;symm;have ao:(v,y)∈sc.zip tl:=x6 (S6.2 ⟨B,G⟩);unfold fk;rw[List.all_eq_false];exact⟨_,ao,by simp only[C];simpa using K⟩
  .rw[aL];exact Y _ _ ⟨(E.trans I).trans N,by rw[am];simpa using K⟩
 .rintro W U X ⟨z,a⟩;rw[aR,aj];refine⟨λh=>Ω,λ_=>⟨?_,z⟩⟩;rw[o8,j4 Ω]at a;rw[a]
end
def hN(x:be):Λ:=if x.gone≠0 then[]else(aw x).map λv=>x.un.getD v.toNat 0
def ht(x:be):Λ:=[x.gone]++kJ (aw x)++hN x
def iH(s:ao)(f:cK):Λ:=if f.live≠0 then kJ f.sc++((bc f.ag).filter (fk s f.sc)).map (bh f.ag f.cs)else[]
def mn(e:tm):Λ:=[-1,e.v]++kJ e.sc++kJ e.pt
def ng(s:ao):Λ:=[s.zero]++s.vars.flatMap ht++s.funs.flatMap (iH s)++s.cP.flatMap mn
def pH(l:Λ):(kJ l).length=l.length+1:=rfl
def hP(w w':x4)(ab g1 go:Nat)(l:Λ):Prop:=Ext w w'/\ac w' g1 ds [Γ ab]/\∃v g,ac w' go aq [v]/\au .i64 am w' g v l/\∀r,leads v r->w.heap.size<=r
section
variable{w J U:x4}{ab ad g1 go:Nat}{A R:af}{n:aK}{s:ao}{t:ay}{l l':Λ}
def hP.ext(h:hP w J ab g1 go l)(a:Ext J U):hP w U ab g1 go l:=by
 obtain⟨h1,e,v,g,f,j,p⟩:=h;exact⟨h1.trans a,e.ext a,v,g,f.ext a,j.ext a,p⟩
def hP.put{v u:x3}{g:Nat}{K:Unit->x4->Prop}(p:Ext w J)(y:w.heap.size<=go)(f:ac J g1 ds [Γ ab])(e:ac J go aq [u])(hm:au .i64 am J g v l)(q:∀r,leads v r->w.heap.size<=r)(s:∀U,ae (λr=>r=go) J U->hP w U ab g1 go l->K () U):aB x8 (o9 aq (Γ go) v) J K:=by
 have h:=hm.ls.cells;refine bp (g:=go) (o:=0) aq.i h.1 h.2 e Ξ λU a z x=>s U a ⟨p.then a λr j he=>by have he:r=go:=he;omega,f.aa a λhe=>?_,v,g,x,br hm a λr j he=>?_,q⟩
 .have he:g1=go:=he;subst he;exact absurd (ez f e) Φ
 .have he:r=go:=he;subst he;obtain⟨c,b⟩:=qX hm r j;exact absurd (ez b e) Φ
def side{v:x3}{g b:Nat}(a:ac J b e cs)(hm:au .i64 am J g v l)(he:am≠e)(f:ae (λr=>leads v r) J U):ac U b e cs:=PF a hm he f
def rh{u:x3}{b:Nat}(a:ac J b e cs)(f:ac J go aq [u])(he:aq≠e)(j:ae (λr=>r=go) J U):ac U b e cs:=a.aa j λh=>by
 have h:b=go:=h;subst h;exact he (ez f a)
end
def ko{α β:Type}{f:α->List β}{L:List α}{b:Nat}(h:∀a∈L,(f a).length<=b):(L.flatMap f).length<=L.length*b:=by
 induction L with
 |nil=>simp
 |cons a L e=>
  rw[W6,o4,Z2,U5,Nat.one_mul];have:=h a Ξ;have:=e λa j=>h a (by simp[j]);omega
section
variable{w:x4}{ab ad:Nat}{A R:af}{n:aK}{s:ao}{t:ay}
def PH(a:bi k sizes s):∀x∈s.vars,(ht x).length<=66:=λx e=>by
 obtain⟨i,hi⟩:=X5.1 e;have f:=a.vars;have h:=(x5.1 hi).1;obtain⟨j,_⟩:=a.var i x _ hi (x7 Ω);have p:=a.dQ.2.2 _ (S4 (l:=sizes) (n:=i) Ω);have:=ot x;have hu:(hN x).length<=(aw x).length:=by unfold hN;split<;>simp
 unfold ht;rw[o4,o4,pH];simp;omega
def PI(e:bi k sizes s):∀f∈s.funs,(iH s f).length<=4103:=λf q=>by
 obtain⟨a,h,_⟩:=e.funs f q;have r:dE f.ag:=by rw[h];exact me e.dQ.2.2 λv j=>⟨(a.scope.1 v j).1,a.vars v j⟩
 have h1:=io r;have w:aN f.ag<=4096:=by rw[h];exact a.small
 have x:=Q0 (fk s f.sc) (bc f.ag);have p:=a.scope.2;have p:f.sc.length<=6:=p;unfold iH;split
 .rw[o4,pH,u7];omega
 .simp
def PJ(h:bF w ab ad A R n s t)(cb:Laid w)(B:PE s)(fO:s.funs.length<=100000)(fQ:s.cP.length<=100000):ai x8 uQ [Γ ab] w λv w'=>Ext w w'/\∃g,au .i64 am w' g v (ng s)/\∀r,leads v r->w.heap.size<=r:=by
 have af:=h.2.2.2.1;have fR:=af.vars;have fS:=af.dQ.2.1;have c4:=PH af;have c5:=PI af;obtain⟨⟨fU,fV,fX,fY,en⟩,_⟩:=id h;obtain⟨_,_,_,_,cc,cd,_,_,c6,_,_,_,⟨ce,c7⟩,ch,c8⟩:=id en;have fZ:cc.length=s.funs.length:=c7.1;have gb:cd.length=s.cP.length:=c8.1;refine ik func20 ?_;refine bk λg1 J gc ci a7=>?_;have a7:ac J g1 ds [Γ ab]:=a7;rw[aD (v:=Γ ab) Ψ (a7.Qz rfl),dc ds.u];simp only[Z6,aY];rw[aD (v:=Γ ab) Ψ (a7.Qz rfl)];refine(pA (h.ext ci)).mono ?_;rintro _ gd _ ⟨rfl,c9⟩;refine et (k:=.i64) aq.u am.i rfl λv4 gf gg gh da db=>?_;refine bw aq.i λgo eo aK dd O=>?_;have gi:=ci.size;have z3:=c9.size;have z4:=da.size;have bt:=(c9.trans da).trans dd;have O:ac eo go aq [.slice ν 0 0]:=O;refine hP.put (w:=w) (g1:=g1) (ci.trans bt) Ω (a7.ext bt) O (db.ext dd) (λr z=>by obtain⟨e,_⟩:=bR db z;omega) λgj gl cj=>?_;rw[aD (v:=Γ ab) Ψ (cj.2.1.Qz rfl)];refine(wX (h.ext cj.1)).mono ?_;rintro _ gm _ ⟨rfl,ep⟩;have aK:w.heap.size<=go:=Ω
 refine bU.range n.sizes.length (λi bu=>hP w bu ab g1 go ([s.zero]++(s.vars.take i).flatMap ht)) Ω (by rw[List.take_zero,List.flatMap_nil,V3];exact cj.ext ep) ?_ ?_
 .rintro i bu es hi S eu;obtain⟨x,av⟩:=aF (l:=s.vars) (i:=i) Ω;have a8:([s.zero]++(s.vars.take i).flatMap ht).length<=100000:=by
   have:=ko (L:=s.vars.take i) (f:=ht) (b:=66) λa ba=>c4 a (U6 ba);rw[o7]at this;rw[o4];have P:min i s.vars.length*66<=64*66:=X0 _ Ω;simp only[T1];omega
  generalize bb:[s.zero]++(s.vars.take i).flatMap ht=aj at S a8;have bd:[s.zero]++(s.vars.take (i+1)).flatMap ht=aj++ht x:=by
   rw[<-bb,u9,av,l7,List.flatMap_append,List.flatMap_singleton,Y6]
  refine bA Ω ?_;refine bw ah.i λaQ ev gn ew ck=>?_;have ck:ac ev aQ ah [Δ 0]:=ck;refine bp (g:=aQ) (o:=0) ah.i rfl rfl ck Ξ λde ey gp cl=>?_;have cl:ac de aQ ah [Δ (i:Int)]:=cl;have ez:Ext bu de:=ew.put ey Ω;intro gq df _ _;have cm:=cl.ext df;obtain⟨ak,bB,v,g,O,hm,ay⟩:=S.ext (ez.trans df);obtain⟨gu,gv,gw,gx,a1,gA,L,gB,dg,gC,eA,eB,gE,gF⟩:=(h.ext ak).1.parts;have N:∀{Q:x4}{K:x3->Prop},ac Q g1 ds [Γ ab]->K (Γ ab)->V x8 (u5 ds (Γ g1)) Q K:=λB az=>by
   rw[aD (v:=Γ ab) Ψ (B.Qz rfl)];exact az
  have be:∀{Q:x4}{K:x3->Prop},ac Q aQ ah [Δ (i:Int)]->K (Δ (i:Int))->V x8 (u5 ah (Γ aQ)) Q K:=λB az=>by
   rw[aD (v:=Δ (i:Int)) Ψ (B.Qz rfl)];exact az
  rw[aD (v:=v) Ψ (O.Qz rfl)];refine N bB ?_;rw[aP cu.p 1 dg rfl];refine N bB ?_;rw[aP cu.p 2 dg rfl];refine be cm ?_;rw[fq (y:=(i:Int)) (i:=i) rfl an.u ah.i Ψ eB.ls (qY Ω)];refine N bB (be cm ?_);have bD:t.bV[fe s i+0]?=σ x.gone:=by rw[h.2.1,pv av Ω];rfl
  refine(mS (i:=fe s i) eA rfl bD).mono ?_;rintro _ gH _ ⟨rfl,cn⟩;refine⟨.inl cn,?_⟩;refine et (k:=.i64) aq.u am.i rfl λgI gJ gK gL di eC=>?_;refine⟨.inl (cn.trans di),?_⟩;have aR:=cn.trans di;have U:=hm.ext aR;refine gP aq.u am.i rfl U eC.ls Θ Θ λcp eD cq W cr X=>?_;have eE:=ak.size;have gM:=aR.size;have bf:∀r,leads cp r->w.heap.size<=r:=λr z=>(cr r z).elim (ay r) λh=>Ω
  have al:Ext w cq:=(ak.trans aR).then X λr z he=>by have:=ay r he;omega
  have dj:=side (cm.ext aR) U Φ X;have bG:=side (bB.ext aR) U Φ X;have ct:=side (O.ext aR) U Φ X;refine⟨.inr ⟨l3 Ψ (dj.Qz rfl),l3 Ψ (bG.Qz rfl),trivial⟩,?_⟩;refine(iE (i:=(i:Int)) (h.ext al)).mono ?_;rintro _ gN _ ⟨⟨gO,gQ,rfl,dk⟩,bt⟩;refine l6.mono ?_;rintro _ dl _ ⟨eF,dm,rfl,gR,cz⟩;have dn:=j3 dk Ω (by rw[r8];exact av);have dp:=bt.trans eF;have gS:=ot x;have gT:=(af.var i x _ av (x7 hi)).1;have gU:=af.dQ.2.2 _ (S4 hi);refine(wi (L:=aw x) (l5 (g:=dm) dk.1) (λk vs w hk=>by
    obtain⟨v,aA,rfl⟩:=hk;exact⟨v,by rw[<-dn,v8,aA];rfl,rfl⟩) (λa b bD dq=>⟨dq.1.aa bD λh=>by have:=cz.lt;have h:dl.heap.size<=dm:=h;omega,hA bD (λh=>by have h:dl.heap.size<=0:=h;have:=cz.lt;omega) dq.2⟩) ⟨cz,cb.ext (al.trans dp)⟩ (by rw[<-dn,u7]) Ω).mono ?_
  rintro gV gW _ ⟨eH,gX,_,eI⟩;have Y:=dp.trans eH;refine(tR (W.ext Y) eI Θ).mono ?_;rintro bH bg _ ⟨E,⟨dr,aB⟩,bi⟩;have eJ:=al.size;have gY:=Y.size;have bL:∀r,leads bH r->w.heap.size<=r:=λr z=>(bi r z).elim (bf r) λh=>Ω
  have aC:Ext w bg:=(al.trans Y).then E λr z he=>by have:=bf r he;omega
  have eK:=side (dj.ext Y) (W.ext Y) Φ E;have cA:=side (bG.ext Y) (W.ext Y) Φ E;have bM:=side (ct.ext Y) (W.ext Y) Φ E;refine hP.put (w:=w) (g1:=g1) aC aK cA bM aB bL λbN aE bj=>?_;have dt:=rh eK bM Φ aE;refine N bj.2.1 (be dt ?_);refine(iE (i:=(i:Int)) (h.ext bj.1)).mono ?_;rintro _ eL _ ⟨⟨eM,eN,rfl,dv⟩,eO⟩;refine l6.mono ?_;rintro _ gZ _ ⟨eP,dw,rfl,eQ,eS⟩;have dx:=eO.trans eP;have dy:=j3 dv Ω (by rw[r8];exact av);have dz:=bj.ext dx;let dA:=aj++[x.gone]++kJ (aw x);refine kj.old ⟨Nat,false,jk,#[Γ dw],_,_,_,_,λq w'=>hP w w' ab g1 go (dA++(hN x).take q)/\ac w' aQ ah [Δ (i:Int)],λ_ _ _=>False,rfl,(l5 (g:=dw) dv.1).s,?_,
   λ_ _ C h=>⟨h.1.ext C,h.2.ext C⟩,λ_ _ _ C h=>⟨h.1.ext C,h.2.ext C⟩,λ_ _ _ _ _ h=>h,⟨eS,cb.ext dz.1⟩,⟨by rw[List.take_zero,V3];exact dz,dt.ext dx⟩,?_,?_,λ_ _ h=>h.elim,λ_ _ _ h=>h.elim⟩
  .rintro _ _ _ _ ⟨_,_,_,_,rfl⟩;rfl
  .rintro _ q _ dC ⟨dD,eU⟩ ⟨bO,rfl,y,bP,eV⟩ ⟨bQ,cB⟩;cases eV;intro g0 cC _ _;have cD:=bQ.ext cC;have cE:=cB.ext cC;have dF:(aw x)[q]?=σ (y:Int):=by rw[<-dy,v8,bP];rfl
   have dG:=x6 dF;have g2:0<=(y:Int)/\(y:Int)<x.un.length:=by
    unfold aw at dG;obtain⟨h1,_⟩:=S7.1 dG;obtain⟨j,aG,e⟩:=l9.1 h1;have:=List.mem_range.1 aG;omega
   refine N cD.2.1 (be cE ?_);refine(m3 (i:=(i:Int)) (v:=(y:Int)) (h.ext cD.1)).mono ?_;rintro _ g3 _ ⟨rfl,bS⟩;have eW:eR n i y:=⟨Ω,Ω,Ω,by rw[r8,u4,x7 hi,V5];omega⟩;have eX:fP s (i:Int).toNat (y:Int).toNat=x.un.getD y 0:=by
    rw[r8,r8];unfold fP;rw[av]
   have bl:=cD.ext bS;rw[if_pos eW,eX,bx,bz];refine N bl.2.1 (be (cE.ext bS) ?_);refine(qZ (i:=(i:Int)) (h.ext bl.1)).mono ?_;rintro _ g4 _ ⟨rfl,bT⟩;have eY:(decide (0<=(i:Int))&&er s (i:Int).toNat)=decide (x.gone≠0):=by
    rw[decide_eq_true Ω,T6,r8];unfold er;rw[av]
   have bW:=(cC.trans bS).trans bT;rw[eY,bJ,cg];refine⟨λaI=>?_,λaI=>?_⟩
   .have aT:¬x.gone≠0:=by simpa using aI
    obtain⟨bm,cF,v5,eZ,ao,G,bn⟩:=bl.ext bT;rw[aD (v:=v5) Ψ (ao.Qz rfl)];have e0:((hN x).take q).length<=100:=by rw[o7];unfold hN;rw[if_neg aT,u7];omega
    refine tQ G (by simp only[dA,o4,pH,T1];omega) λe1 cG e2 H cH cI=>?_;have e3:=bm.size;have cJ:Ext w cG:=bm.then H λr z he=>by have:=bn r he;omega
    refine hP.put (w:=w) (g1:=g1) cJ aK (side cF G Φ H) (side ao G Φ H) cH (λr z=>(cI r z).elim (bn r) λh=>Ω) λcK bX aU=>?_;have e5:=rh (side ((cE.ext bS).ext bT) G Φ H) (side ao G Φ H) Φ bX;have cL:=eQ;have e6:∀{b:Nat}{e:r9}{cs:List x3},ac dC b e cs->am≠e->aq≠e->ac cK b e cs:=λB h1 P=>rh (side (B.ext bW) G h1 H) (side ao G Φ H) P bX;refine⟨⟨e6 dD Φ Φ,cb.ext aU.1⟩,⟨?_,e5⟩,λh=>by cases h⟩;rw[u9,show(hN x)[q]?=σ (x.un.getD y 0) by unfold hN;rw[if_neg aT,v8,dF];rfl,l7,<-Y6];exact aU
   .have aT:x.gone≠0:=by simpa using aI
    refine⟨⟨dD.ext bW,eU.ext bW⟩,⟨?_,cB.ext bW⟩,λh=>by cases h⟩;have e:hN x=[]:=by unfold hN;rw[if_pos aT]
    rw[e,List.take_nil]at bl ⊢;exact bl.ext bT
  .rintro q dC rfl ⟨bQ,cB⟩;rw[aL];refine eu _ ?_;rw[bd];have:(hN x).take (fW eM eN).length=hN x:=j4 (by
    unfold hN;split
    .simp
    .rw[u7,<-dy,u7];exact o6 _)
   rw[this]at bQ;unfold ht;rw[<-Y6,<-Y6];exact bQ
 .rintro bu es S;refine b2 Ω ?_;rw[j4 Ω]at S;have e7:([s.zero]++s.vars.flatMap ht).length<=100000:=by
   have:=ko (L:=s.vars) (f:=ht) (b:=66) c4;have P:s.vars.length*66<=64*66:=X0 _ Ω;rw[o4];simp only[T1];omega
  have N:∀{Q:x4}{K:x3->Prop},ac Q g1 ds [Γ ab]->K (Γ ab)->V x8 (u5 ds (Γ g1)) Q K:=λB az=>by
   rw[aD (v:=Γ ab) Ψ (B.Qz rfl)];exact az
  refine N S.2.1 ?_;rw[aP cu.p 3 (c6.ext S.1) rfl,e4 fm.u (ce.ext S.1)];unfold ng;generalize[s.zero]++s.vars.flatMap ht=cw at S e7;refine bU.range cc.length (λj bY=>hP w bY ab g1 go (cw++(s.funs.take j).flatMap (iH s))) Ω (by rw[List.take_zero,List.flatMap_nil,V3];exact S) ?_ ?_
  .rintro j bY e8 aG M e9;obtain⟨f,aV⟩:=aF (l:=s.funs) (i:=j) Ω;obtain⟨y,bP⟩:=aF (l:=cc) aG;obtain⟨⟨⟨bK,aW⟩,_⟩,fa,_⟩:=c7.2 j y f bP aV;have bZ:=fa.ls;obtain⟨aX,cM,_⟩:=af.funs f (x6 aV);have b0:dE f.ag:=by rw[cM];exact me af.dQ.2.2 λv aA=>⟨(aX.scope.1 v aA).1,aX.vars v aA⟩
   have g5:f.sc.length<=6:=aX.scope.2;have fb:f.ag.length=f.sc.length:=by rw[cM];unfold bI;rw[u7]
   have fc:ca f.ag:=⟨Ω,b0⟩;have g6:=io b0;have g7:aN f.ag<=4096:=by rw[cM];exact aX.small
   have a8:(cw++(s.funs.take j).flatMap (iH s)).length<=1000000000:=by
    have:=ko (L:=s.funs.take j) (f:=iH s) (b:=4103) λa ba=>c5 a (U6 ba);rw[o7]at this;have P:min j s.funs.length*4103<=100000*4103:=X0 _ Ω;rw[o4];omega
   generalize bb:cw++(s.funs.take j).flatMap (iH s)=aj at M a8;have bd:cw++(s.funs.take (j+1)).flatMap (iH s)=aj++iH s f:=by
    rw[<-bb,u9,aV,l7,List.flatMap_append,List.flatMap_singleton,Y6]
   refine bA Ω ?_;refine dh (λdH=>hP w dH ab g1 go (aj++iH s f)) (λdH fd=>by rw[aL];exact e9 _ (by rw[bd];exact fd)) λax dI=>?_;rw[du rfl fm.u dS.i (ce.ext M.1) aG,bE dS.p dS.i rfl ((ce.ext M.1).range bP)];refine bw ah.i λZ dJ g8 b3 aZ=>?_;have aZ:ac dJ Z ah [Δ 0]:=aZ;refine bw dS.i λb4 dK g9 dL dM=>?_;refine bp (g:=Z) (o:=0) ah.i rfl rfl (aZ.ext dL) Ξ λcO dN ha cQ=>?_;have cQ:ac cO Z ah [Δ (j:Int)]:=cQ;have hb:=b3.size;have hc:=aZ.lt;have cR:=(aW.ext M.1).ls;have ff:=bZ.ext M.1;refine b1 (vs:=mh y) dS.i rfl rfl (by intro u hu;simp[mh]at hu;rcases hu with rfl|rfl|rfl<;>first|rfl|exact cR.cells.2|exact ff.cells.2) (dM.aa dN λhe=>by have he:b4=Z:=he;omega) λdO dP hd fg=>?_;have dR:=cQ.aa dP λhe=>by have he:Z=b4:=he;omega
   have fh:Ext bY dO:=((b3.trans dL).then dN λr z he=>by have he:r=Z:=he;omega).put dP Ω;have cS:=M.ext fh;have dT:∀{Q:x4}{K:x3->Prop},ac Q Z ah [Δ (j:Int)]->K (Δ (j:Int))->V x8 (u5 ah (Γ Z)) Q K:=λB az=>by
    rw[aD (v:=Δ (j:Int)) Ψ (B.Qz rfl)];exact az
   refine N cS.2.1 (dT dR ?_);refine(w2 (j:=(j:Int)) (h.ext cS.1)).mono ?_;rintro _ dU _ ⟨rfl,bo⟩;have dV:=cS.ext bo;have fi:(decide (0<=(j:Int))&&gD s (j:Int).toNat)=decide (f.live≠0):=by
    rw[decide_eq_true Ω,T6,r8];unfold gD;rw[aV]
   rw[fi,bJ,cg];refine⟨λaI=>dI _ ?_,λaI=>?_⟩
   .have aT:¬f.live≠0:=by simpa using aI
    unfold iH;rw[if_neg aT,V3];exact dV
   have cL:f.live≠0:=by simpa using aI
   obtain⟨cT,fj,fo,ge,cU,bq,dW⟩:=id dV;have fp:=dR.ext bo;have dX:ac dU b4 dS [y.aM,y.szv,Δ (y.at_:Int)]:=fg.ext bo;rw[aD (v:=fo) Ψ (cU.Qz rfl),aH dS.p 0 dX rfl];refine(tR bq (aW.ext cT) Ω).mono ?_;rintro bH bg _ ⟨E,⟨dr,aB⟩,bi⟩;have hf:=cT.size;have aC:Ext w bg:=cT.then E λr z he=>by have:=dW r he;omega
   refine hP.put (w:=w) (g1:=g1) aC aK (side fj bq Φ E) (side cU bq Φ E) aB (λr z=>(bi r z).elim (dW r) λh=>Ω) λbN aE bj=>?_;have dY:∀{b:Nat}{e:r9}{cs:List x3},ac dU b e cs->am≠e->aq≠e->ac bN b e cs:=λB h1 P=>rh (side B bq h1 E) (side cU bq Φ E) P aE;have fs:=dY fp Φ Φ;have dZ:=dY dX Φ Φ;rw[aS dS.p rfl,bE (cs:=[y.szv]) bC.p bC.i rfl (λq u bO=>by
    cases q with
    |zero=>cases bO;exact dZ.cell (o:=0+1) rfl
    |succ q=>simp at bO)]
   refine sH.mono ?_;rintro _ hg _ ⟨cV,ea,rfl,hh,ft⟩;have cW:=bj.ext cV;have fu:=sG (g:=ea) (B0:=w.heap.size) (sv:=y.szv) fc;refine nr.old ⟨Nat,false,kV,#[Γ ea],_,_,_,_,λq w'=>hP w w' ab g1 go (aj++kJ f.sc++(((bc f.ag).take q).filter (fk s f.sc)).map (bh f.ag f.cs))/\ac w' Z ah [Δ (j:Int)]/\ac w' b4 dS [y.aM,y.szv,Δ (y.at_:Int)],λ_ _ _=>False,rfl,fu.s,
    ?_,λ_ _ C h=>⟨h.1.ext C,h.2.1.ext C,Y7 h.2.2 C.size⟩,λ_ _ _ C h=>⟨h.1.ext C,h.2.1.ext C,h.2.2.ext C⟩,λ_ _ _ _ _ h=>h,⟨ft,bZ.ext cW.1,cW.1.size⟩,⟨by rw[List.take_zero,List.filter_nil,List.map_nil,V3];exact cW,fs.ext cV,dZ.ext cV⟩,?_,?_,λ_ _ h=>h.elim,λ_ _ _ h=>h.elim⟩
   .rintro _ _ _ _ ⟨_,_,_,_,rfl,_⟩;rfl
   .rintro _ aO q _ eb ⟨ec,fv,fw⟩ ⟨bO,rfl,hj,gt,fx,hl,ed⟩ ⟨b5,cX,cY⟩;cases fx;have b6:(bc f.ag)[q]?=σ (cN f.ag (q:Int)):=o1 b0 Ω;generalize cN f.ag (q:Int)=tl at b6 ed;intro hn b7 _ _;have cZ:=b5.ext b7;have ee:=(ed.ext b7).ls;refine N cZ.2.1 (dT (cX.ext b7) ?_);refine(tz (j:=j) (h.ext cZ.1) ee).mono ?_;rintro _ ho _ ⟨rfl,c0⟩;have fy:=iS b0 b6;have fz:(ia s j tl).isSome=true:=by unfold ia;rw[aV];simp only;rw[if_pos cL,fy];rfl
    have fA:m4 s j tl=bh f.ag f.cs tl:=by unfold m4;rw[aV]
    have br:=cZ.ext c0;rw[if_pos fz,fA,bx,bz];refine N br.2.1 ?_;have ef:=b7.trans c0;rw[bE dS.p dS.i rfl (cY.ext ef).range];refine(PG (at_:=(y.at_:Int)) (h.ext br.1) ((aW.ext br.1).ls) (bZ.ext br.1) (λv aA=>⟨(aX.scope.1 v aA).1,aX.vars v aA⟩) (ee.ext c0) (by rw[vi b6,fb])).mono ?_;rintro _ hp _ ⟨rfl,eg⟩;have eh:=br.ext eg;have a2:=ef.trans eg;have ei:((bc f.ag).take (q+1)).filter (fk s f.sc)=((bc f.ag).take q).filter (fk s f.sc)++(if fk s f.sc tl=true then[tl]else[]):=by
     rw[u9,b6,l7,List.filter_append];congr 1;cases ap:fk s f.sc tl<;>simp[ap]
    rw[cg];refine⟨λc1=>?_,λc1=>?_⟩
    .obtain⟨bm,cF,v5,eZ,ao,G,bn⟩:=eh;rw[aD (v:=v5) Ψ (ao.Qz rfl)];have e0:(((bc f.ag).take q).filter (fk s f.sc)).length<=4096:=by
      have:=Q0 (fk s f.sc) ((bc f.ag).take q);rw[o7]at this;omega
     refine tQ G (by simp only[o4,pH,u7];omega) λe1 cG e2 H cH cI=>?_;have e3:=bm.size;have cJ:Ext w cG:=bm.then H λr z he=>by have:=bn r he;omega
     refine hP.put (w:=w) (g1:=g1) cJ aK (side cF G Φ H) (side ao G Φ H) cH (λr z=>(cI r z).elim (bn r) λh=>Ω) λcK bX aU=>?_;have c2:∀{b:Nat}{e:r9}{cs:List x3},ac eb b e cs->am≠e->aq≠e->ac cK b e cs:=λB h1 P=>rh (side (B.ext a2) G h1 H) (side ao G Φ H) P bX;refine⟨⟨c2 ec Φ Φ,bZ.ext aU.1,aU.1.size⟩,⟨?_,c2 cX Φ Φ,c2 cY Φ Φ⟩,λh=>by cases h⟩;rw[ei,if_pos c1,Z4,List.map_singleton,<-Y6];exact aU
    .refine⟨⟨ec.ext a2,fv.ext a2,Y7 fw a2.size⟩,⟨?_,cX.ext a2,cY.ext a2⟩,λh=>by cases h⟩;rw[ei,if_neg (by rw[c1];decide),V3];exact eh
   .rintro q eb rfl ⟨b5,_⟩;refine dI _ ?_;rw[j4 Ω]at b5;unfold iH;rw[if_pos cL,<-Y6];exact b5
  .rintro bY e8 M;refine b2 Ω ?_;rw[j4 Ω]at M;have fB:(cw++s.funs.flatMap (iH s)).length<=1000000000:=by
    have:=ko (L:=s.funs) (f:=iH s) (b:=4103) c5;have P:s.funs.length*4103<=100000*4103:=X0 _ Ω;rw[o4];omega
   refine N M.2.1 ?_;rw[aP cu.p 4 (c6.ext M.1) rfl,e4 r1.u (ch.ext M.1)];generalize cw++s.funs.flatMap (iH s)=b8 at M fB;refine bU.range cd.length (λj b9=>hP w b9 ab g1 go (b8++(s.cP.take j).flatMap mn)) Ω (by rw[List.take_zero,List.flatMap_nil,V3];exact M) ?_ ?_
   .rintro j b9 fD aG ae fE;obtain⟨e,he⟩:=aF (l:=s.cP) (i:=j) Ω;obtain⟨x,C⟩:=aF (l:=cd) aG;obtain⟨bo,⟨⟨bK,aW⟩,_⟩,⟨hq,ej⟩,_⟩:=c8.2 j x e C he;obtain⟨hr,dM⟩:=B e (x6 he);have a8:(b8++(s.cP.take j).flatMap mn).length<=10000000000:=by
     have:=ko (L:=s.cP.take j) (f:=mn) (b:=2004) λa ba=>by
      obtain⟨h1,P⟩:=B a (U6 ba);unfold mn;simp only[o4,pH,Z2,List.length_nil];omega
     rw[o7]at this;have P:min j s.cP.length*2004<=100000*2004:=X0 _ Ω;rw[o4];omega
    generalize bb:b8++(s.cP.take j).flatMap mn=aj at ae a8;have bd:b8++(s.cP.take (j+1)).flatMap mn=aj++mn e:=by
     rw[<-bb,u9,he,l7,List.flatMap_append,List.flatMap_singleton,Y6]
    refine bA Ω ?_;rw[du rfl r1.u gk.i (ch.ext ae.1) aG,bE gk.p gk.i rfl ((ch.ext ae.1).range C)];refine bw gk.i λge dJ hs b3 aZ=>?_;have cR:=(aW.ext ae.1).ls;have fF:=(ej.ext ae.1).ls;refine b1 (vs:=wC x) gk.i rfl rfl (by intro u hu;simp[wC]at hu;rcases hu with rfl|rfl|rfl<;>first|rfl|exact cR.cells.2|exact fF.cells.2) aZ λdK fG hv a6=>?_;have fH:Ext b9 dK:=b3.put fG Ω;intro cO ek _ _;have a6:ac cO ge gk [Δ x.v,x.aM,x.bv]:=a6.ext ek;obtain⟨ak,I,v,g,O,hm,ay⟩:=ae.ext (fH.trans ek);rw[aD (v:=v) Ψ (O.Qz rfl),aH gk.p 0 a6 rfl,aH gk.p 1 a6 rfl,aH gk.p 2 a6 rfl,bo];refine vp (l:=[-1,e.v]) aq.u am.i Ω rfl Ψ λhx hy dO hz aJ fI=>?_;refine⟨.inl aJ,?_⟩;have U:=hm.ext aJ;refine gP aq.u am.i rfl U fI.ls Θ Θ λcp eD cq W cr X=>?_;have eE:=ak.size;have hB:=aJ.size;have bf:∀r,leads cp r->w.heap.size<=r:=λr z=>(cr r z).elim (ay r) λh=>Ω
    have al:Ext w cq:=(ak.trans aJ).then X λr z he=>by have:=ay r he;omega
    have c3:=side (a6.ext aJ) U Φ X;have bG:=side (I.ext aJ) U Φ X;have ct:=side (O.ext aJ) U Φ X;refine⟨.inr ⟨l3 Ψ (c3.cell (o:=0+2) rfl),Go.Vc.js λK=>aS gk.p rfl,l3 Ψ (c3.cell (o:=0+1) rfl),Go.Vc.js λK=>aS gk.p rfl,trivial⟩,?_⟩;refine(tR W (aW.ext al) Θ).mono ?_;rintro bH bg _ ⟨E,⟨dr,aB⟩,bi⟩;have eJ:=al.size;have bL:∀r,leads bH r->w.heap.size<=r:=λr z=>(bi r z).elim (bf r) λh=>Ω
    have aC:Ext w bg:=al.then E λr z he=>by have:=bf r he;omega
    have fJ:=side c3 W Φ E;have cA:=side bG W Φ E;have bM:=side ct W Φ E;refine⟨.inr ⟨l3 Ψ (fJ.cell (o:=0+2) rfl),Go.Vc.js λK=>aS gk.p rfl,trivial⟩,?_⟩;refine(tR aB (ej.ext aC) (by simp[pH];omega)).mono ?_;rintro hC bN _ ⟨aE,⟨hD,fK⟩,fL⟩;have hE:=aC.size;have fM:Ext w bN:=aC.then aE λr z he=>by have:=bL r he;omega
    refine hP.put (w:=w) (g1:=g1) fM aK (side cA aB Φ aE) (side bM aB Φ aE) fK (λr z=>(fL r z).elim (bL r) λh=>Ω) λeL hF fN=>?_;rw[aL];refine fE _ ?_;rw[bd];unfold mn;rw[<-Y6,<-Y6];exact fN
   .rintro b9 fD ae;refine b2 Ω ?_;rw[j4 Ω]at ae;obtain⟨ak,I,v,g,O,hm,ay⟩:=ae;rw[aD (v:=v) Ψ (O.Qz rfl)];intro hG em _;exact⟨ak.trans em,g,hm.ext em,ay⟩
end
def PK{b r e:Λ}(h:kJ a++r=kJ b++e):a=b/\r=e:=by
 unfold kJ at h;rw[List.cons_append,List.cons_append,List.cons.injEq]at h;exact List.append_inj h.2 Ω
def Es{x:be}:(hN x).length=if x.gone≠0 then 0 else(aw x).length:=by
 unfold hN;split<;>simp
def PL{x y:be}{r:Λ}(h:ht x++r=ht y++a):(x.gone=y.gone/\aw x=aw y/\hN x=hN y)/\r=a:=by
 unfold ht at h;rw[Y6,Y6,Y6,Y6,List.singleton_append,List.singleton_append,List.cons.injEq]at h;obtain⟨h1,f⟩:=h;obtain⟨e,j⟩:=PK f;obtain⟨p,q⟩:=List.append_inj j (by rw[Es,Es,h1,e]);exact⟨⟨h1,e,p⟩,q⟩
def ov(ag t:Λ):Int:=(cj ag t 0).getD 0
def lB(s:ao)(f:cK)(pos:Nat)(v:Int):Λ:=(ck s f.sc pos v).map (ov f.ag)
def kK(s:ao)(sc:Λ)(pos:Nat)(v:Int)(t:Λ):Bool:=decide (t.getD pos 0=v)&&fk s sc t
section
variable{k:Int}{sizes:Λ}{s:ao}{f:cK}{pos:Nat}{v:Int}
def PM:fk s sc t=true↔ ∀(p:Nat)u w,sc[p]?=σ u->t[p]?=σ w->w∈bH s u:=by
 unfold fk;rw[List.all_eq_true];constructor
 .intro h p u w hu hw;have:=h (u,w) (x6 (S6.2 ⟨hu,hw⟩));unfold bH;cases a:s.vars[u.toNat]? with
  |none=>simp[a]at this
  |some x=>simpa[a]using this
 .rintro h ⟨u,w⟩ hm;obtain⟨p,e⟩:=X5.1 hm;obtain⟨h1,f⟩:=S6.1 e;have:=h p u w h1 f;unfold bH at this;simp only;cases a:s.vars[u.toNat]? with
  |none=>rw[a]at this;cases this
  |some x=>rw[a]at this;simpa using this
def PN(q:bi k sizes s)(B:f∈s.funs)(C:pos<f.sc.length)(r:∀u,f.sc[pos]?=σ u->v∈bH s u):ck s f.sc pos v=(bc f.ag).filter (kK s f.sc pos v):=by
 obtain⟨x,y,_⟩:=q.funs f B;have j:=w9 q (λu hu=>⟨(x.scope.1 u hu).1,x.vars u hu⟩) r;rw[<-y]at j;have h1:∀t∈bc f.ag,(m8 (og s pos v f.sc 0) t=true↔t∈ck s f.sc pos v):=λt a=>by rw[j,S7];exact⟨λh=>⟨a,h⟩,λh=>h.2⟩
 rw[j];refine List.filter_congr λt a=>?_;have E:t.length=f.sc.length:=by rw[sd a,y];simp[bI]
 rw[V7,h1 t a,xe,kK,U3,decide_eq_true_eq,PM];constructor
 .rintro⟨_,h⟩;obtain⟨u,hu⟩:=aF (l:=f.sc) C;obtain⟨w,hw⟩:=aF (l:=t) (i:=pos) Ω;have z:=h pos u w hu hw;rw[if_pos rfl]at z;refine⟨by rw[u4,hw];exact z,λp u' w' A F=>?_⟩;have:=h p u' w' A F;split at this
  .rename_i e;subst e;rw[this];exact r u' A
  .exact this
 .rintro⟨h1,G⟩;refine⟨E,λp u w hu hw=>?_⟩;split
  .rename_i e;subst e;rw[u4,hw]at h1;exact h1
  .exact G p u w hu hw
end
section
variable{w:x4}{ei:x3}{k:Int}{sizes:Λ}{s:ao}
def PO{j pos:Int}(h:fR w ei k sizes s)(ab:bi k sizes s)(am:cz s):ai x8 HZ [ei,Δ j,Δ pos,Δ v] w λr w'=>Ext w w'/\∃u,r= .tuple #[Δ u,.bool (ew s j pos v).isSome]:=by
 have aJ:=ab.vars;refine az func201 ?_;refine bk λg1 J aK H ao=>?_;have ac:=h.box H ao;obtain⟨szv,aL,aM,aN,aO,aP,I,aQ,_,ap,aT,aV,ad,aZ⟩:=id ac;refine aW (λr U=>Ext J U/\((r= .bool true/\ew s j pos v=ν)\/(r= .bool false/\∃f u,0<=j/\0<=pos/\s.funs[j.toNat]?=σ f/\f.live≠0/\f.sc[pos.toNat]?=σ u))) ?_ λax E=>?_
 .rintro _ U ⟨A,⟨rfl,z⟩|⟨rfl,f,u,K,ae,e,af,hu⟩⟩
  .rw[bQ,z];exact⟨H.trans A,0,rfl⟩
  .rw[aY];have ag:=x6 e;have L:=x6 hu;obtain⟨ak,a1,_⟩:=ab.funs f ag;have M:=(ak.scope.1 u L).1;have a2:=ak.vars u L;have M:0<=u:=M;obtain⟨x,N⟩:=aF (l:=s.vars) (i:=u.toNat) Ω;rw[aH aC.p 6 (I.ext A) rfl];refine jM (i:=j.toNat) Ω dp.u cW.i (bm ad A) (by rw[v8,e];rfl) λb o cs O Q=>?_;obtain⟨R,aq,v3,rfl,h1,au,av⟩:=nb Q;rw[aS cW.p rfl,aS aX.p rfl,aD (v:=R) Ψ (O 0 _ rfl),fq (y:=pos) (i:=pos.toNat) Ω an.u ah.i Ψ (dJ h1) hu,aH aC.p 3 (I.ext A) rfl];refine gL (α:=Λ) (a:=aw x) (i:=u.toNat) rfl Ω b6.u an.i Ψ (bm ap A) (by rw[v8,N];rfl) λa6 ay=>?_;refine(tB (dJ ay)).mono ?_;rintro _ a7 _ ⟨rfl,aA⟩;refine⟨(H.trans A).trans aA,u,?_⟩;have aB:=am f ag af u L x N;have S:ew s j pos v=(dN s u v).map λx=>(f,u,x):=by
    unfold ew;rw[if_pos ⟨K,ae⟩,e];simp only;rw[if_pos af,hu]
   have aE:dN s u v=if v∈aw x then σ x else ν:=by
    unfold dN;rw[if_pos M,N];simp only[aB,true_and]
   rw[S,aE];by_cases G:v∈aw x
   .rw[if_pos G,decide_eq_true G];rfl
   .rw[if_neg G,decide_eq_false G];rfl
 have V:∀{P:Prop},(¬∃f u,0<=j/\0<=pos/\s.funs[j.toNat]?=σ f/\f.live≠0/\f.sc[pos.toNat]?=σ u)->(ew s j pos v=ν->P)->P:=λz aG=>aG (by
  cases S:ew s j pos v with
  |none=>rfl
  |some q=>
   obtain⟨f,u,x⟩:=q;obtain⟨W,X,a3,a4,a5,_⟩:=nc S;exact absurd ⟨f,u,W,X,a3,a4,a5⟩ z)
 refine ac.load λu hu=>?_;refine(O7 (j:=j) hu).mono ?_;rintro _ a8 _ ⟨rfl,B⟩;have same:∀{f Y:cK},s.funs[j.toNat]?=σ f->s.funs[j.toNat]?=σ Y->Y=f:=λa b=>by rw[a]at b;exact(Z0 b).symm
 rw[bJ,cg];refine⟨λZ=>V (λ⟨f,u,W,X,a3,a4,a5⟩=>?_) λz=>E _ _ ⟨B,.inl ⟨rfl,z⟩⟩,λaa=>?_⟩
 .unfold gD at Z;rw[a3]at Z;simp[W,a4]at Z
 have aa:0<=j/\gD s j.toNat=true:=by simpa using aa
 obtain⟨K,C⟩:=aa;obtain⟨f,e,aI⟩:∃f,s.funs[j.toNat]?=σ f/\f.live≠0:=by
  unfold gD at C;cases e:s.funs[j.toNat]? with
  |none=>rw[e]at C;cases C
  |some f=>rw[e]at C;exact⟨f,rfl,by simpa using C⟩
 rw[aR,aj];refine⟨λba=>V (λ⟨_,_,_,X,_⟩=>Ω) λz=>E _ _ ⟨B,.inl ⟨rfl,z⟩⟩,λae=>?_⟩;rw[aH aC.p 6 (I.ext B) rfl];refine jM (i:=j.toNat) Ω dp.u cW.i (bm ad B) (by rw[v8,e];rfl) λb o cs O Q=>?_;obtain⟨R,aq,v3,rfl,h1,au,av⟩:=nb Q;rw[aS cW.p rfl,aS aX.p rfl,aD (v:=R) Ψ (O 0 _ rfl),aU an.u (dJ h1),cS];by_cases al:(f.sc.length:Int)<=pos
 .refine V (λ⟨Y,u,_,_,a3,_,a5⟩=>?_) λz=>E _ _ ⟨B,.inl ⟨by rw[decide_eq_true al],z⟩⟩;obtain rfl:=same e a3;have:=(x5.1 a5).1;omega
 .obtain⟨u,hu⟩:=aF (l:=f.sc) (i:=pos.toNat) Ω;exact E _ _ ⟨B,.inr ⟨by rw[decide_eq_false al],f,u,K,Ω,e,aI,hu⟩⟩
def Et{f:cK}(h:fR w ei k sizes s)(M:bi k sizes s)(ae:s.funs[j]?=σ f)(aM:pos<f.sc.length)(aP:∀u,f.sc[pos]?=σ u->v∈bH s u):
  ai x8 Hh [ei,Δ (j:Int),Δ (pos:Int),Δ v] w λr w'=>Ext w w'/\aG .i64 w' r (lB s f pos v)/\∀q,leads r q->w.heap.size<=q:=by
 have bC:=M.vars;have V:=x6 ae;obtain⟨N,af,_⟩:=M.funs f V;have O:=(kG M V).1;have aQ:f.ag.length=f.sc.length:=by rw[af];simp[bI]
 have bD:=io O;have bF:(bc f.ag).length<=4096:=by
  have P:aN (bI sizes f.sc)<=4096:=N.small;rw[<-af]at P;omega
 refine az func141 ?_;refine bk λg1 J bG W aR=>?_;obtain⟨szv,bJ,bK,bL,bM,bN,aj,bO,_,aT,bP,bQ,aV,bR⟩:=h.box W aR;rw[aH aC.p 6 aj rfl];refine jM (i:=j) rfl dp.u cW.i aV (by rw[v8,ae];rfl) λb o cs G aY=>?_;obtain⟨X,Y,v3,rfl,h1,P,aZ⟩:=nb aY;rw[aS cW.p rfl,bE (cs:=[X,Y,v3]) aX.p aX.i rfl (λq u z=>by
  have:q<3:=(x5.1 z).1
  match q,this,z with
  |0,_,z=>cases z;exact G 0 _ rfl
  |1,_,z=>cases z;exact G 1 _ rfl
  |2,_,z=>cases z;exact G 2 _ rfl)]
 refine bw aX.i λbS U bT a1 a2=>?_;have a6:∀u∈[X,Y,v3],u.oneCell'=true:=λu hu=>by
  simp only[V4,List.not_mem_nil,or_false]at hu;rcases hu with rfl|rfl|rfl
  .exact hY h1
  .exact hY P
  .exact hY aZ
 refine b1 (vs:=[X,Y,v3]) aX.i rfl rfl a6 a2 λa7 a8 bU ak=>?_;have al:Ext J a7:=a1.put a8 Ω;have s1:=dJ h1;have ba:=dJ P;rw[aH aX.p 1 ak rfl];refine(vx f.ag (ba.ext al) ⟨by rw[aQ];exact N.scope.2,O⟩).mono ?_;rintro bV H _ ⟨am,ao⟩;have Z:=al.trans am;rw[gq b6.u ao];refine b4.range (bc f.ag).length (λi out E=>Ext H E/\(∃g,au .i64 ah E g out ((((bc f.ag).take i).filter (kK s f.sc pos v)).map (ov f.ag)))/\∀r,leads out r->H.heap.size<=r) Ω ⟨Ext.refl _,⟨0,au.nil _ _ _ _⟩,λr G=>by obtain⟨_,_,_,e,_⟩:=G;cases e⟩ ?_ ?_
 .rintro q out E bd z ⟨A,⟨g,hm⟩,Q⟩ be;have I:(bc f.ag)[q]?=σ (cN f.ag (q:Int)):=o1 O Ω;generalize cN f.ag (q:Int)=tl at I;have bW:=vi I;have bg:=iS O I;have bh:ov f.ag tl=(q:Int):=by unfold ov;rw[bg];rfl
  have R:=Z.trans A;have aq:((bc f.ag).take (q+1)).filter (kK s f.sc pos v)=((bc f.ag).take q).filter (kK s f.sc pos v)++(if kK s f.sc pos v tl=true then[tl]else[]):=by
   rw[u9,I,l7,List.filter_append];congr 1;cases ap:kK s f.sc pos v tl<;>simp[ap]
  obtain⟨aa,av⟩:=aF (l:=tl) (i:=pos) Ω;refine bA Ω ?_;refine aW (λay aA=>Ext H aA/\(∃g,au .i64 ah aA g ay ((((bc f.ag).take (q+1)).filter (kK s f.sc pos v)).map (ov f.ag)))/\∀r,leads ay r->H.heap.size<=r) (λ_ _ ab=>by rw[aL];exact be _ _ ab) λax K=>?_;refine gL (α:=Λ) rfl rfl b6.u an.i Ψ (bm ao A) I λaO S=>?_;have S:=dJ S;rw[bb an.u ah.i Ψ S av,bf,aH aX.p 0 (ak.ext (am.trans A)) rfl,aU an.u (s1.ext R)];refine b4.range f.sc.length (λp ok ac=>Ext E ac/\ok= .bool (decide (aa=v)&&fk s (f.sc.take p) (tl.take p))) s1.le ⟨Ext.refl _,by simp[fk]⟩ ?_ ?_
  .rintro p _ ac bj bl ⟨B,rfl⟩ bn;obtain⟨u,ad⟩:=aF (l:=f.sc) bl;obtain⟨y,aB⟩:=aF (l:=tl) (i:=p) Ω;have aD:=x6 ad;have aE:=(N.scope.1 u aD).1;have aI:=N.vars u aD;have aI:u<sizes.length:=aI;have aE:0<=u:=aE;obtain⟨x,aJ⟩:=aF (l:=s.vars) (i:=u.toNat) Ω;have aK:fk s (f.sc.take (p+1)) (tl.take (p+1))=(fk s (f.sc.take p) (tl.take p)&&decide (y∈aw x)):=by
    unfold fk;rw[u9,u9,ad,aB,l7,l7,List.zip_append Θ,List.all_append];simp[aJ]
   refine bA Ω ?_;refine aW (λok bo=>Ext E bo/\ok= .bool (decide (aa=v)&&fk s (f.sc.take (p+1)) (tl.take (p+1)))) (λ_ _ ab=>by rw[aL];exact bn _ _ ab) λax K=>?_;rw[bb an.u ah.i Ψ (s1.ext (R.trans B)) ad];intro bX bp _ _;have L:=B.trans bp;rw[cg];refine⟨λC=>?_,λC=>K _ _ ⟨L,by rw[aK,<-Bool.and_assoc,C];rfl⟩⟩;rw[aH aC.p 3 (aj.ext (R.trans L)) rfl];refine gL (α:=Λ) (a:=aw x) (i:=u.toNat) rfl Ω b6.u an.i Ψ (bm aT (R.trans L)) (by rw[v8,aJ];rfl) λbY bq=>?_;rw[bb an.u ah.i Ψ (S.ext L) aB];refine(tB (dJ bq)).mono ?_;rintro _ bZ _ ⟨rfl,br⟩;exact K _ _ ⟨L.trans br,by rw[aK,<-Bool.and_assoc,C,T6]⟩
  .rintro _ ac bj ⟨B,rfl⟩;rw[o8,j4 Ω];refine b2 Ω ?_;have bt:(decide (aa=v)&&fk s f.sc tl)=kK s f.sc pos v tl:=by unfold kK;rw[u4,av];rfl
   rw[bt,cg];refine⟨λC=>?_,λC=>K _ _ ⟨A.trans B,⟨g,by rw[aq,if_neg (by rw[C];decide),V3];exact hm.ext B⟩,Q⟩⟩;refine Ep (w0:=H) (A.trans B) (hm.ext B) Q ?_ λb0 w' bu bx bz bB=>K _ _ ⟨bx,⟨bu,?_⟩,bB⟩
   .rw[u7];have h1:=Q0 (kK s f.sc pos v) ((bc f.ag).take q);rw[o7]at h1;omega
   .rw[aq,if_pos C,Z4,List.map_singleton,bh];exact bz
 .rintro out E bd ⟨A,⟨g,hm⟩,Q⟩;rw[o8,<-PN M V aM aP]at hm;refine b2 Ω ?_;exact⟨(W.trans Z).trans A,hm.ls,λq z=>by have:=Q q z;have:=(W.trans Z).size;omega⟩
def PP{j pos:Int}(h:fR w ei k sizes s)(e:bi k sizes s)(R:cz s):
  ai x8 Hf [ei,Δ j,Δ pos,Δ v] w λr w'=>Ext w w'/\r=(match ew s j pos v with|some (f,_,_)=>.tuple #[Δ (mm k s f pos.toNat v),.bool true]|none=>.tuple #[Δ 0,.bool false]):=by
 refine az func139 ?_;refine bk λg1 J ay z S=>?_;have H:=h.box z S;refine H.load λu hu=>?_;refine(PO hu e R).mono ?_;rintro _ U _ ⟨A,eN,rfl⟩;rw[bx,bz,bJ];cases V:ew s j pos v with
 |none=>
  rw[R5,W3,bQ];exact⟨z.trans A,rfl⟩
 |some q=>
 obtain⟨f,u',x⟩:=q;rw[R4,X3,aY];obtain⟨W,X,y,aA,B,Y⟩:=nc V;obtain⟨aB,Z,aE,aa⟩:=j8 Y;obtain⟨j,rfl⟩:=U9 W;obtain⟨pos,rfl⟩:=U9 X;rw[r8]at y B;have I:=x6 y;have ab:=(x5.1 B).1;have K:∀u,f.sc[pos]?=σ u->v∈bH s u:=λu hu=>by
  rw[B]at hu;cases hu;unfold bH;rw[Z];exact aa
 have L:=H.ext A;obtain⟨szv,aG,aI,aJ,aK,aM,M,aN,_,aP,aQ,aR,ac,aT⟩:=id L;rw[aH aC.p 0 M rfl];refine L.load λaV ad=>?_;refine(Et ad e y ab K).mono ?_;rintro aO ae _ ⟨N,C,_⟩;rw[aU an.u C];have O:(lB s f pos v).length=(ck s f.sc pos v).length:=by unfold lB;rw[u7]
 rw[O];refine b4.range (ck s f.sc pos v).length (λi af E=>Ext ae E/\af=Δ ((((ck s f.sc pos v).take i).map (bh f.ag f.cs)).foldl min k)) (by rw[<-O];exact C.le) ⟨Ext.refl _,rfl⟩ ?_ ?_
 .rintro i _ E aj hi ⟨a,rfl⟩ ak;obtain⟨tl,G⟩:=aF (l:=ck s f.sc pos v) hi;obtain⟨m,hm⟩:=tK e I K (x6 G);have al:(lB s f pos v)[i]?=σ (m:Int):=by
   unfold lB;rw[v8,G];unfold ov;rw[Z7,hm];rfl
  obtain⟨ao,aW⟩:=kG e I;have aZ:=(x5.1 (mM ao hm)).1;obtain⟨c,P⟩:=aF (l:=f.cs) (i:=m) Ω;have ap:bh f.ag f.cs tl=c:=by
   unfold bh;rw[hm];simp[u4,P]
  have Q:=N.trans a;refine bA Ω ?_;rw[bb an.u ah.i Ψ (C.ext a) al,aH aC.p 6 (M.ext Q) rfl];refine jM (i:=j) rfl dp.u cW.i (bm ac Q) (by rw[v8,y];rfl) λb o cs au av=>?_;obtain⟨a1,a2,v3,rfl,h1,a6,aw⟩:=nb av;rw[aS cW.p rfl,aS aX.p rfl,aD (v:=v3) Ψ (au 2 _ rfl),bb aq.u am.i Ψ (dJ aw) P];refine Dl.mono ?_;rintro _ a7 _ ⟨rfl,ax⟩;rw[aL];refine ak _ _ ⟨a.trans ax,?_⟩;rw[u9,G,l7,Z4,List.foldl_append,List.map_singleton,ap];rfl
 .rintro _ E aj ⟨a,rfl⟩;rw[o8];refine b2 Ω ?_;exact⟨(z.trans A).trans (N.trans a),rfl⟩
def tS{a b k:Int}(h1:0<=a/\a<=4294967296)(f:0<=b/\b<=4294967296):ai x8 Hi [Δ a,Δ b,Δ k] w λr w'=>r=Δ (df k a b)/\Ext w w':=by
 refine az func142 ?_;refine(show ai x8 H2 [Δ a,Δ b,Δ k] w λr w'=>(∃q,r= .tuple #[Δ (df k a b),q])/\Ext w w' from ?_).mono ?_
 .refine az func204 ?_;unfold df;rw[bf,aj];refine⟨λh=>⟨⟨_,by rw[if_pos h]⟩,Ext.refl _⟩,λh=>?_⟩;rw[ed,wrap_i64 Ω Ω,lU,if_neg h];exact⟨⟨_,rfl⟩,Ext.refl _⟩
 .rintro _ J _ ⟨⟨q,rfl⟩,e⟩;rw[bx,bz];exact⟨rfl,e⟩
end
def cm(w:x4)(ab ad ak:Nat)(A R:af)(A9:Nat->af)(aA:af)(n:aK)(s:ao)(t:ay)(h:List ay)(u:ao)(w':x4):Prop:=ae (λr=>(∃q,A9 q r)\/r=ak) w w'/\∃cn cs,b3 w' ab ad ak A R cn aA n s u t h cs/\∀q r,cn q r->(∃a,A9 a r)\/w.heap.size<=r
section
variable{w w' J U:x4}{ab ad ak:Nat}{A R:af}{A9:Nat->af}{aA:af}{n:aK}{s u eM eN:ao}{t:ay}{h:List ay}{cs:List x3}
def cm.same(p:b3 w ab ad ak A R A9 aA n s u t h cs)(a:Ext w w'):cm w ab ad ak A R A9 aA n s t h u w':=⟨a.aa _,A9,cs,p.ext a,λq r h=>.inl ⟨q,h⟩⟩
def cm.comp{cn:Nat->af}(e:ae (λr=>(∃q,A9 q r)\/r=ak) w J)(f:∀q r,cn q r->(∃a,A9 a r)\/w.heap.size<=r)(d:cm J ab ad ak A R cn aA n s t h eN U):cm w ab ad ak A R A9 aA n s t h eN U:=by
 obtain⟨p,x,bB,y,B⟩:=d;have z:=e.size;refine⟨?_,x,bB,y,λq r j=>(B q r j).elim (λ⟨a,h⟩=>f a r h) λh=>.inr Ω⟩;refine((e.mono λr _ h=>.inl h).trans (p.mono λr _ h=>?_):ae (λr=>((∃q,A9 q r)\/r=ak)\/w.heap.size<=r) w U).mono λr j h=>h.elim id λh=>Ω
 rcases h with⟨q,h⟩|h
 .exact (f q r h).imp .inl id
 .exact .inl (.inr h)
def jx(w:x4)(ab ad ak:Nat)(A R:af)(A9:Nat->af)(aA:af)(n:aK)(s:ao)(t:ay)(h:List ay)(u:ao)(w':x4):Prop:=ae (A9 2) w w'/\∃cn cs,b3 w' ab ad ak A R cn aA n s u t h cs/\(∀q r,cn q r->(∃a,A9 a r)\/w.heap.size<=r)/\∀r,cn 2 r->A9 2 r\/w.heap.size<=r
def jx.xx(d:jx w ab ad ak A R A9 aA n s t h u w'):cm w ab ad ak A R A9 aA n s t h u w':=by
 obtain⟨h1,cn,cs,a,e,_⟩:=d;exact⟨h1.mono λr _ h=>.inl ⟨2,h⟩,cn,cs,a,e⟩
def jx.same(p:b3 w ab ad ak A R A9 aA n s u t h cs)(a:Ext w w'):jx w ab ad ak A R A9 aA n s t h u w':=⟨a.aa _,A9,cs,p.ext a,λq r h=>.inl ⟨q,h⟩,λr h=>.inl h⟩
def jx.comp{cn:Nat->af}(f:ae (A9 2) w J)(p:∀q r,cn q r->(∃e,A9 e r)\/w.heap.size<=r)(j:∀r,cn 2 r->A9 2 r\/w.heap.size<=r)(d:jx J ab ad ak A R cn aA n s t h eN U):jx w ab ad ak A R A9 aA n s t h eN U:=by
 obtain⟨x,y,bB,B,C,E⟩:=d;have z:=f.size;refine⟨?_,y,bB,B,λq r a=>(C q r a).elim (λ⟨e,h⟩=>p e r h) λh=>.inr Ω,λr a=>(E r a).elim (j r) λh=>.inr Ω⟩;exact((f.mono λr _ h=>.inl h).trans (x.mono λr _ h=>j r h):ae (λr=>A9 2 r\/w.heap.size<=r) w U).mono λr a h=>h.elim id λh=>Ω
def b3.PQ{T:af}{v:x3}{u':ao}(p:b3 w ab ad ak A R A9 aA n s u t h cs)(z:∀q r,A9 q r->r<w.heap.size)(C:cs[5]?=σ v)(e:ae T w w')(f:∀r,r<w.heap.size->T r->A9 2 r)(E:bl (λr=>A9 2 r\/w.heap.size<=r) aA w' [v] (u'.vars.map (·.un)))(F:u'.zero=u.zero)(G:u'.vars.map aw=u.vars.map aw)(H:(u'.vars.map λx=>decide (x.gone≠0))=u.vars.map λx=>decide (x.gone≠0))(I:u'.funs=u.funs)(J:u'.cP=u.cP):
  ∃cn,b3 w' ab ad ak A R cn aA n s u' t h cs/\(∀q r,cn q r->(∃K,A9 K r)\/w.heap.size<=r)/\∀r,cn 2 r->A9 2 r\/w.heap.size<=r:=by
 have L:=bt.j1 p.doc (xk e) (λr a=>.inl (f r a.2 a.1)) E (λj r M a=>?_) (λr a=>?_)
 .have y:=xl (w:=w) (A9:=A9) (q:=2) (B:=λr=>A9 2 r\/w.heap.size<=r) λr h=>h;refine⟨_,p.row e f ?_ y,y,λr a=>a⟩;have:=bt.qk C L;unfold fQ;rw[F,G,H,I,J];exact this
 .rcases a with a|a
  .exact p.gK.1 2 j r (R2 M) a
  .exact λh=>by have:=z j r h;omega
 .rcases a with a|a
  .exact p.gK.2 2 r a
  .exact λh=>by have:=(p.read r h).2.1;omega
def ri(p:b3 w ab ad ak A R A9 aA n s u t h cs){i:Nat}{x:be}(B:u.vars[i]?=σ x):∃g cap y,cs[5]?=σ (.slice (σ ⟨g,0,ν⟩) u.vars.length cap)/\w.cell? ⟨g,i,ν⟩=σ y/\aG .i64 w y x.un/\
  ∀{w':x4}{v:Nat}{c:Int}{K:Unit->x4->Prop},Ext w w'->v<x.un.length->(∀H,jx w ab ad ak A R A9 aA n s t h (ev u i x (x.un.set v c)) H->K () H)->
   V x8 (j9 aq y (Δ (v:Int))) w' λa=>aB x8 (o9 am a (Δ c)) w' K:=by
 have I:=p.olds;obtain⟨szv,aj,an,ao,ap,au,J,_,_,_,L,_,_,C⟩:=id I.doc;obtain⟨g,cap,c,av,e,Q,M,ax,_⟩:=tJ (i:=i) (a:=x.un) L (by rw[v8,B];rfl) λr _ h=>(C rfl).2 2 r h;obtain⟨y,rfl⟩:=V2.1 (al.len M);have N:w.cell? ⟨g,i,ν⟩=σ y:=by
  have:=Q 0 y rfl;simpa[show al.n (Λ)=1 from rfl]using this
 rw[u7]at e;refine⟨g,cap,y,by rw[J,<-e];rfl,N,dJ (iO M),λ{w' v c K}j S U=>?_⟩;have W:=I.ext j;have z:=j.size;obtain⟨ay,az,aC,aD,O,X,P,E,Y⟩:=tJ (i:=i) (a:=x.un) (bm L j) (by rw[v8,B];rfl) λr _ h=>(C rfl).2 2 r h;obtain⟨F,rfl⟩:=V2.1 (al.len P);rw[u7,e]at O;cases O;have Z:F=y:=by
  have h1:=X 0 F rfl;have h1:w'.cell? ⟨g,i,ν⟩=σ F:=by simpa[show al.n (Λ)=1 from rfl]using h1
  rw[iM j N]at h1;exact(Z0 h1).symm
 subst Z;refine D0 (α:=Int) (i:=v) (A:=λ_=>False) rfl rfl aq.u am.i P S rfl rfl (λr _ f=>⟨λh=>h,(C rfl).2 2 r (E r f)⟩) λaE G ac=>?_;have ae:=Y G (λr _ h=>h) ac λr f=>f.elim .inl False.elim;obtain⟨cn,af,ag,ah⟩:=W.PQ (u':=ev u i x (x.un.set v c)) (λq r h=>by have:=h.2;omega) (by rw[J];rfl) G (λr _ h=>E r h) (by show bl _ _ _ _ ((u.vars.set i {x with un:=x.un.set v c}).map (·.un));rw[U8];exact ae) rfl (pF B (by unfold aw;simp)) (pF B rfl) rfl rfl;refine U _ ⟨(j.aa _).trans (G.mono λr _ h=>(E r h).1),cn,cs,af,λq r f=>?_,λr f=>?_⟩
 .rcases ag q r f with⟨ai,h⟩|h
  .exact .inl ⟨ai,h.1⟩
  .exact .inr Ω
 .exact (ah r f).imp (λh=>h.1) λh=>Ω
def Eu(p:b3 w ab ad ak A R A9 aA n s u t h cs){f:cK}(N:u.funs[j]?=σ f):∃g cap x E y,cs[6]?=σ (.slice (σ ⟨g,0,ν⟩) u.funs.length cap)/\w.rangeAt g (j*4) [x,E,y,.bool (decide (f.live≠0))]/\aG .i64 w x f.sc/\aG .i64 w y f.cs/\
  ∀{w':x4}{m:Nat}{c:Int}{K:Unit->x4->Prop},Ext w w'->m<f.cs.length->(∀O,cm w ab ad ak A R A9 aA n s t h (dG u j f (f.cs.set m c)) O->K () O)->
   V x8 (j9 aq y (Δ (m:Int))) w' λa=>aB x8 (o9 am a (Δ c)) w' K:=by
 have P:=p.olds;obtain⟨szv,az,aC,aD,aE,aF,Q,_,_,_,_,S,_,F⟩:=id P.doc;obtain⟨g,cap,c,aH,e,G,W,aI,_⟩:=tJ (i:=j) (a:=hM f) S (by rw[v8,N];rfl) λr _ h=>(F rfl).2 3 r h;have X:=nb W;obtain⟨x,E,y,rfl,Y,aJ,Z⟩:=X;rw[u7]at e;have G:w.rangeAt g (j*4) [x,E,y,.bool (decide (f.live≠0))]:=G;refine⟨g,cap,x,E,y,by rw[Q,<-e];rfl,G,dJ Y,dJ Z,λ{w' m c K}B hm ac=>?_⟩;have ae:=P.ext B;have z:=B.size;obtain⟨aK,aL,aM,aN,U,L,af,H,ag⟩:=tJ (i:=j) (a:=hM f) (bm S B) (by rw[v8,N];rfl) λr _ h=>(F rfl).2 3 r h;rw[u7,e]at U;cases U;obtain⟨ah,ai,M,aO,rfl,aj,I,an⟩:=Pf af λr h=>(F rfl).2 3 r (H r h);have L:w'.rangeAt g (j*4) [ah,ai,M,.bool (decide (f.live≠0))]:=L;have ao:M=y:=by
  have h1:=L 2 M rfl;rw[(nE B G) 2 y rfl]at h1;exact(Z0 h1).symm
 subst ao;refine D0 (α:=Int) (i:=m) (A:=λ_=>False) rfl rfl aq.u am.i aj hm rfl rfl (λr _ C=>⟨λh=>h,(F rfl).2 3 r (H r (I r C))⟩) λaP J ap=>?_;have au:=an J (al.mono ap (λr _ h=>h.elim id False.elim) λ_ _ h=>h);have av:=ag J (λr _ h=>I r h) au λr C=>.inl C;obtain⟨cn,aw,ax⟩:=ae.Pd (u':=dG u j f (f.cs.set m c)) (λq r h=>by have:=h.2;omega) (by rw[Q];rfl) J (λr _ h=>H r (I r h)) (by show bl _ _ _ _ ((u.funs.set j {f with cs:=f.cs.set m c}).map hM);rw[U8];exact av) rfl rfl rfl;refine ac _ ⟨(B.aa _).trans (J.mono λr _ h=>.inl ⟨3,(H r (I r h)).1⟩),cn,cs,aw,λq r C=>?_⟩;rcases ax q r C with⟨ay,h⟩|h
 .exact .inl ⟨ay,h.1⟩
 .exact .inr Ω
def Ev(p:b3 w ab ad ak A R A9 aA n s u t h cs){K:Unit->x4->Prop}(f:∀e,cm w ab ad ak A R A9 aA n s t h {u with zero:=c} e->K () e):aB x8 (o9 am (.pointer (σ ⟨ak,0+2,ν⟩)) (Δ c)) w K:=by
 refine bp (o:=0+2) am.i rfl rfl p.box (by rw[p.doc.len.1];omega) λU a x j=>?_;refine f _ ⟨a.mono λr _ h=>.inr h,A9,_,p.D2 a (λr _ h=>.inr h) j ?_ λq r h=>.inl ⟨q,h⟩,λq r h=>.inl ⟨q,h⟩⟩;exact(bt.aa p.doc a λr _ h he=>h.elim (λ⟨q,h⟩=>(p.apart q r h).2.2 he) λh=>(p.read r h).2.2 he).OW
def Ew(p:b3 w ab ad ak A R A9 aA n s u t h cs){i:Nat}{x:be}(B:u.vars[i]?=σ x):∃g cap y,cs[3]?=σ (.slice (σ ⟨g,0,ν⟩) u.vars.length cap)/\w.cell? ⟨g,i,ν⟩=σ y/\aG .i64 w y (aw x)/\(∀r,leads y r->A9 0 r)/\
  ∀{w':x4}{m:Int}{z:x3}{gz:Nat}{K:Unit->x4->Prop},Ext w w'->au .i64 ah w' gz z (aw {x with mask:=m})->(∀r,leads z r->w.heap.size<=r)->(∀I,cm w ab ad ak A R A9 aA n s t h {u with vars:=u.vars.set i {x with mask:=m}} I->K () I)->
   V x8 (j9 b6 (.slice (σ ⟨g,0,ν⟩) u.vars.length cap) (Δ (i:Int))) w' λa=>aB x8 (o9 an a z) w' K:=by
 have J:=p.olds;have X:=(x5.1 B).1;obtain⟨szv,Y,aF,aH,aI,aJ,L,_,Z,_,_,_,_,af⟩:=id J.doc;obtain⟨g,cap,full,ag,c,aK,e,C,ai,E,M,F,aj,aL,am⟩:=D3 (i:=i) (a:=aw x) Z (by rw[v8,B];rfl) λr _ h=>(af rfl).2 0 r h;obtain⟨y,rfl⟩:=V2.1 (al.len F);rw[u7]at e;have ao:full[i]?=σ y:=by have:=M 0 y rfl;simpa[show al.n (Λ)=1 from rfl]using this
 refine⟨g,cap,y,by rw[L,<-e];rfl,by have:=C.cell (o:=i) ao;exact this,dJ (iO F),λr f=>?_,λ{w' m N gz K}G O P ap=>?_⟩
 .obtain⟨aM,aN,aq,av⟩:=zO F;rcases av with rfl|ax
  .obtain⟨_,_,_,e,_⟩:=f;cases e
  .obtain⟨e,_⟩:=bR aq f;rw[e];exact(aj _ ax).1
 have z:=G.size;have E:i*1+1<=full.length:=E;rw[eK b6.u an.i X λ_=>rfl];obtain⟨_,_,_,Q⟩:=c8 O.ls;refine bp (o:=0+i*1) an.i (by rw[Q];rfl) (by rw[Q];rfl) (C.ext G) Ω λS U aO j=>?_;have j:ac S g ag (over full (i*1) [N]):=by
  have e:=D4 (full:=full) (c:=[y]) (o:=i*1) (q:=0) (x:=N) M E Ξ;rw[X6]at j;rw[Nat.add_zero]at e;rw[e]at j;exact j
 have aP:g<w.heap.size:=C.lt;have H:ae (λr=>r=g) w S:=(G.aa _).trans U;have ay:=br O U λr f he=>by have he:r=g:=he;have:=P r f;omega
 have az:=am H (λr _ h=>.inr h) j (na (R:=aA) ay) λr f=>.inr (P r f);have W:∀r,r<w.heap.size->r=g->A9 0 r/\r<w.heap.size:=λr f h=>by rw[h];exact ai
 obtain⟨cn,aC,aD⟩:=J.ol (u':={u with vars:=u.vars.set i {x with mask:=m}}) (λq r h=>h.2) (v:=Y) (by rw[L];rfl) H W (by show bl _ _ _ _ ((u.vars.set i {x with mask:=m}).map aw);rw[U8];exact az) rfl (pF B rfl) (pF B rfl) rfl rfl;refine ap _ ⟨H.mono λr f h=>.inl ⟨0,(W r f h).1⟩,cn,cs,aC,λq r f=>?_⟩;rcases aD q r f with⟨aE,h⟩|h
 .exact .inl ⟨aE,h.1⟩
 .exact .inr h
end
def fS(s:ao)(sc:Λ)(pos:Int)(v:Int):Nat->Nat->Λ->List (Λ)
 |0,_,tl=>[tl]
 |m+1,p,tl=>if(p:Int)=pos then fS s sc pos v m (p+1) (tl.set p v)else(bH s (sc.getD p 0)).flatMap λx=>fS s sc pos v m (p+1) (tl.set p x)
def tT{α:Type}{l:List α}{p:Nat}{x:α}(h:p<l.length):(l.set p x).take (p+1)=l.take p++[x]:=by
 rw[u9,b8 h,List.take_set_of_le (o6 _)];rfl
theorem rj{s:ao}{sc:Λ}{pos:Nat}{v:Int}:∀(m p:Nat)(tl:Λ),sc.length=p+m->tl.length=sc.length->fS s sc pos v m p tl=(iF (jv s pos v (sc.drop p) p)).map (tl.take p++ ·)
 |0,p,tl,h1,a=>by
  rw[List.drop_eq_nil_of_le Ω,j4 Ω];unfold fS jv iF;rw[List.map_singleton,V3]
 |m+1,p,tl,h1,a=>by
  have e:p<sc.length:=Ω
  obtain⟨u,hu⟩:=aF (l:=sc) e;have h:sc.drop p=u::sc.drop (p+1):=by rw[W0 e,(x5.1 hu).2]
  have j:sc.getD p 0=u:=by rw[u4,hu];rfl
  rw[h];unfold fS jv;rw[iF];by_cases f:p=pos
  .rw[if_pos Ω,if_pos f,List.flatMap_singleton,rj m (p+1) (tl.set p v) Ω (by rw[Z9];exact a),R6,tT Ω];refine List.map_congr_left λr _=>?_;simp
  .rw[if_neg Ω,if_neg f,j,List.map_flatMap];congr 1;funext x;rw[rj m (p+1) (tl.set p x) Ω (by rw[Z9];exact a),R6,tT Ω];refine List.map_congr_left λr _=>?_;simp
def PR{s:ao}{m p:Nat}(h1:sc.length=p+m)(e:tl.length=sc.length)(f:a.length=sc.length)(h:a.take p=tl.take p):fS s sc pos v m p a=fS s sc pos v m p tl:=by
 rw[rj m p tl h1 e,rj m p a h1 f,h]
def PS{s:ao}(h:tl.length=sc.length):fS s sc pos v sc.length 0 tl=ck s sc pos v:=by
 rw[rj sc.length 0 tl Ω h];unfold ck;simp
def nh(w:x4)(ab gs bK bq a1:Nat)(aM:x3)(pos v:Int):Prop:=ac w gs ds [Γ ab]/\ac w bK an [aM]/\ac w bq ah [Δ pos]/\ac w a1 ah [Δ v]
def nh.aa{S:af}{ab gs bK bq a1:Nat}{pos:Int}(h:nh w ab gs bK bq a1 aM pos v)(a:ae S w w')(e:¬S gs/\¬S bK/\¬S bq/\¬S a1):nh w' ab gs bK bq a1 aM pos v:=
 ⟨h.1.aa a e.1,h.2.1.aa a e.2.1,h.2.2.1.aa a e.2.2.1,h.2.2.2.aa a e.2.2.2⟩
def nh.ext{ab gs bK bq a1:Nat}{pos:Int}(h:nh w ab gs bK bq a1 aM pos v)(a:Ext w w'):nh w' ab gs bK bq a1 aM pos v:=h.aa (a.aa λ_=>False) ⟨id,id,id,id⟩
def gh(ab ad:Nat)(R:af)(n:aK)(s:ao)(gs bK bq a1:Nat)(aM:x3)(sc:Λ)(pos v:Int)(B0:Nat)(D:Nat->Prop)(w:x4):Prop:=
 nh w ab gs bK bq a1 aM pos v/\(gs<B0/\bK<B0/\bq<B0/\a1<B0)/\aG .i64 w aM sc/\(∀r,leads aM r->r<B0)/\(Laid w/\B0<=w.heap.size)/\∃A s' bn,bF w ab ad A R n s' bn/\(∀i,bH s' i=bH s i)/\∀r,A r\/R r->r<B0\/D r
section
variable{ab ad gs bK bq a1 B0:Nat}{R:af}{n:aK}{s:ao}{aM:x3}{sc:Λ}{pos v:Int}
def gh.ext(h:gh ab ad R n s gs bK bq a1 aM sc pos v B0 D w)(a:Ext w w'):gh ab ad R n s gs bK bq a1 aM sc pos v B0 D w':=by
 obtain⟨h1,f,j,p,e,A,s',bn,q,r,x⟩:=h;exact⟨h1.ext a,f,j.ext a,p,⟨e.1.ext a,Y7 e.2 a.size⟩,A,s',bn,q.ext a,r,x⟩
def ka(w:x4)(l gy gt gtb ga:Nat)(hv:Array x3)(q:Nat)(tl:Λ):Prop:=ac w gy zu [.func (.yield l) #[] #[]]/\ac w gtb an [.slice (σ ⟨gt,0,ν⟩) q q]/\ac w ga oN [.func (.func lR) #[] hv]/\
 au .i64 ah w gt (.slice (σ ⟨gt,0,ν⟩) q q) tl
def ka.aa{S:af}{l q:Nat}{hv:Array x3}(h:ka w l gy gt gtb ga hv q tl)(f:ae S w w')(j:¬S gy/\¬S gtb/\¬S ga/\¬S gt):ka w' l gy gt gtb ga hv q tl:=
 ⟨h.1.aa f j.1,h.2.1.aa f j.2.1,h.2.2.1.aa f j.2.2.1,br h.2.2.2 f λr p=>by
  obtain⟨a,_,_,e,s⟩:=p;cases e;rw[<-s];exact j.2.2.2⟩
def ka.ext{l q:Nat}{hv:Array x3}(h:ka w l gy gt gtb ga hv q tl)(a:Ext w w'):ka w' l gy gt gtb ga hv q tl:=h.aa (a.aa λ_=>False) ⟨id,id,id,id⟩
def PT(I:aG .i64 w aM sc):ai x8 zn [Γ ab,aM,Δ pos,Δ v] w λr w'=>Ext w w'/\∃gs bK bq a1,r= .func (.func lQ) #[] #[Γ bK,Γ bq,Γ a1,Γ gs]/\nh w' ab gs bK bq a1 aM pos v/\w.heap.size<=gs/\w.heap.size<=bK/\w.heap.size<=bq/\w.heap.size<=a1:=by
 obtain⟨_,_,_,x⟩:=c8 I;refine az func206 ?_;refine bk λgs J z s h=>?_;refine bk λbK U A j a=>?_;refine bk λbq B C e p=>?_;refine bk λa1 q E f y=>?_;have h:ac q gs ds [Γ ab]:=((ac.ext h j).ext e).ext f;have a:ac q bK an [aM]:=by rw[x]at a ⊢;exact(ac.ext a e).ext f
 have p:ac q bq ah [Δ pos]:=ac.ext p f;rw[k0];have G:=s.size;have H:=j.size;have z3:=e.size;exact⟨((s.trans j).trans e).trans f,gs,bK,bq,a1,rfl,⟨h,a,p,y⟩,Ω,Ω,Ω,Ω⟩
def gh.own{S:af}(h:gh ab ad R n s gs bK bq a1 aM sc pos v B0 D w)(j:ae S w w')(q:∀r,S r->B0<=r/\¬D r):gh ab ad R n s gs bK bq a1 aM sc pos v B0 D w':=by
 obtain⟨h1,f,C,x,y,A,s',bn,z,E,B⟩:=h;have no:∀{r:Nat},r<B0->¬S r:=λh1 f=>by have:=(q _ f).1;omega
 refine⟨h1.aa j ⟨no f.1,no f.2.1,no f.2.2.1,no f.2.2.2⟩,f,h3 C j λr p a n c e F=>?_,x,⟨?_,Y7 y.2 j.size⟩,A,s',bn,⟨z.1.aa j λr _ p I=>?_,z.2⟩,E,B⟩
 .exact no (x r ⟨a,n,c,e,F⟩) p
 .exact hA j (no Ω) y.1
 .exact (B r p).elim (λh=>no h I) (q r I).2
def PU(P:(Nat->Prop)->x4->Prop)(ax:(Nat->Prop)->Nat->x4->Prop)(L:List (Λ))(l B:Nat):Prop:=∀(D:Nat->Prop)(k:Nat)tl aO w',(∀r,D r->B<=r/\r<w'.heap.size)->B<=w'.heap.size->P D w'->L[k]?=σ tl->aG .i64 w' aO tl->ax D k w'->
 hR x8 l [aO] w' λu a=>u= .bool true/\(∃D',(∀r,D' r->D r\/w'.heap.size<=r/\r<a.heap.size)/\(∀r,D r->D' r)/\P D' a/\ax D' (k+1) a)/\cL w' a/\w'.heap.size<=a.heap.size/\ae (λr=>r<B\/D r) w' a
def rk(D:Nat->Prop)(B gy gtb ga gt:Nat):Prop:=(B<=gy/\¬D gy)/\(B<=gtb/\¬D gtb)/\(B<=ga/\¬D ga)/\B<=gt/\¬D gt
def rk.go{D':Nat->Prop}{m bW:Nat}(h:rk D B gy gtb ga gt)(a:∀r,D' r->D r\/m<=r/\r<bW)(hm:gy<m/\gtb<m/\ga<m/\gt<m):rk D' B gy gtb ga gt:=
 have f:∀{g:Nat},g<m->¬D g->¬D' g:=λh1 e j=>(a _ j).elim e λh=>Ω
 ⟨⟨h.1.1,f hm.1 h.1.2⟩,⟨h.2.1.1,f hm.2.1 h.2.1.2⟩,⟨h.2.2.1.1,f hm.2.2.1 h.2.2.1.2⟩,h.2.2.2.1,f hm.2.2.2 h.2.2.2.2⟩
def ka.lt{l q:Nat}{hv:Array x3}(h:ka w l gy gt gtb ga hv q tl):gy<w.heap.size/\gtb<w.heap.size/\ga<w.heap.size/\gt<w.heap.size:=
 ⟨h.1.lt,h.2.1.lt,h.2.2.1.lt,(bR h.2.2.2 ⟨_,_,_,rfl,rfl⟩).2⟩
def AtR(l gy gt gtb ga:Nat)(hv:Array x3)(P:(Nat->Prop)->x4->Prop)(ax:(Nat->Prop)->Nat->x4->Prop)(S:af)(D:Nat->Prop)(w:x4)(sl k p:Nat)(tl:Λ)(w':x4):Prop:=
 w.heap.size<=w'.heap.size/\∃D' a,a.length=sl/\a.take p=tl.take p/\ka w' l gy gt gtb ga hv sl a/\((∀r,D' r->D r\/w.heap.size<=r/\r<w'.heap.size)/\∀r,D r->D' r)/\P D' w'/\ax D' k w'/\ae S w w'
section
variable{l gy gt gtb ga B:Nat}{hv:Array x3}{P:(Nat->Prop)->x4->Prop}{ax:(Nat->Prop)->Nat->x4->Prop}{S T:af}{D:Nat->Prop}{w J U:x4}{sl k p:Nat}{tl:Λ}
def AtR.own(s:∀D T J U,ae T J U->(∀r,T r->B<=r/\¬D r)->P D J->P D U)(x:∀D k J U,ae (λr=>B<=r/\¬D r) J U->fA B J U->ax D k J->ax D k U)(h:AtR l gy gt gtb ga hv P ax S D w sl k p tl J)(e:ae T J U)(y:fA B J U)(a:∀r,T r->r<w.heap.size/\¬D r/\B<=r/\S r/\r≠gy/\r≠gtb/\r≠ga/\r≠gt):AtR l gy gt gtb ga hv P ax S D w sl k p tl U:=by
 obtain⟨z,D',A,h1,C,E,⟨j,F⟩,G,H,I⟩:=h;have q:∀r,T r->B<=r/\¬D' r:=λr f=>⟨(a r f).2.2.1,λK=>(j r K).elim (a r f).2.1 λh=>by have:=(a r f).1;omega⟩;exact⟨Y7 z e.size,D',A,h1,C,E.aa e ⟨λh=>(a _ h).2.2.2.2.1 rfl,λh=>(a _ h).2.2.2.2.2.1 rfl,λh=>(a _ h).2.2.2.2.2.2.1 rfl,λh=>(a _ h).2.2.2.2.2.2.2 rfl⟩,
  ⟨λr f=>(j r f).imp id λh=>⟨h.1,T8 h.2 e.size⟩,F⟩,s D' T J U e q G,x D' k J U (e.mono λr _ h=>q r h) y H,I.trans (e.mono λr _ h=>(a r h).2.2.2.1)⟩
def AtR.base{w0:x4}(h:AtR l gy gt gtb ga hv P ax S D w sl k p tl J)(a:Ext w0 w)(e:∀r,r<w0.heap.size->S r->T r):AtR l gy gt gtb ga hv P ax T D w0 sl k p tl J:=by
 obtain⟨f,D',j,h1,q,s,⟨x,y⟩,z,A,B⟩:=h;exact⟨Y7 a.size f,D',j,h1,q,s,⟨λr C=>(x r C).imp id λh=>⟨Y7 a.size h.1,h.2⟩,y⟩,z,A,((a.aa S).trans B).mono e⟩
def AtR.comp{a:Nat->Prop}{j:Λ}{x:Int}(f:∀r,r<B\/D r\/r=gt->S r)(q:∀r,a r->D r\/w.heap.size<=r/\r<J.heap.size)(y:∀r,D r->a r)(s:ae S w J)(z:j.take p=tl.take p)(h:AtR l gy gt gtb ga hv P ax (λr=>r<B\/a r\/r=gt) a J sl k (p+1) (j.set p x) U):AtR l gy gt gtb ga hv P ax S D w sl k p tl U:=by
 obtain⟨A,D',C,h1,E,F,⟨G,H⟩,K,L,M⟩:=h;have I:=s.size;refine⟨Y7 I A,D',C,h1,?_,F,⟨λr e=>?_,λr e=>H r (y r e)⟩,K,L,?_⟩
 .have:=congrArg (List.take p) E;rw[List.take_take,List.take_take,Nat.min_eq_left Ω,List.take_set_of_le (o6 _)]at this;rw[this,z]
 .rcases G r e with h|h
  .exact (q r h).imp id λh=>⟨h.1,Ω⟩
  .exact .inr ⟨Ω,h.2⟩
 .refine ((s.mono λr _ h=>.inl h).trans (M.mono λr _ h=>?_):ae (λr=>S r\/w.heap.size<=r) w U).mono λr e h=>h.elim id λh=>Ω
  rcases h with h|h|h
  .exact .inl (f r (.inl h))
  .exact (q r h).elim (λh=>.inl (f r (.inr (.inl h)))) λh=>.inr h.1
  .exact .inl (f r (.inr (.inr h)))
end
def PV{α β:Type}{l:List α}{a:α->List β}{i:Nat}{y:α}{z:β}(h:l[j]?=σ y)(hi:(a y)[i]?=σ z):(l.flatMap a)[((l.take j).flatMap a).length+i]?=σ z:=by
 have f:=(x5.1 h).1;have e:l=l.take j++y::l.drop (j+1):=by
  conv=>lhs;rw[<-List.take_append_drop j l,W0 f,(x5.1 h).2]
 conv=>lhs;rw[e,List.flatMap_append,W6]
 have p:=(x5.1 hi).1;have el:((l.take j++y::l.drop (j+1)).take j)=l.take j:=by rw[List.take_append_of_le_length (by rw[o7];omega),List.take_take,Nat.min_self]
 rw[el,Y5 Ω,Q1,Y3 p];exact hi
def PW{t:r9}{b o:Nat}{x:x3}{K:x3->Prop}(a:jH x8 t=true)(h:w.cell? ⟨b,o,ν⟩=σ x):V x8 (do loadVar t (<-asAddr (.pointer (σ ⟨b,o,ν⟩)))) w K=K x:=V.of λw' e=>by
 have h':=iM e h;unfold jH at a;cases hu:x8.underlying t with
 |none=>rw[hu]at a;cases a
 |some d=>
  rw[hu]at a;cases d<;>first|(cases a;done)|simp[asAddr,loadVar,isAgg,run_underlying hu,h']
def kb(bK gy gtb bq a1 ga gs:Nat):Array x3:=#[Γ bK,Γ gy,Γ gtb,Γ bq,Γ a1,Γ ga,Γ gs]
def tU(p:Nat)(bK gy gtb bq a1 ga gs:Nat):List x3:=[Δ (p:Int),Γ bK,Γ gy,Γ gtb,Γ bq,Γ a1,Γ ga,Γ gs]
def PX{l:Nat}{ax:(Nat->Prop)->Nat->x4->Prop}(bY:0<=pos)(bZ:∀u∈sc,0<=u/\u<n.sizes.length)(c4:sc.length<=6)(b0:B0<=B)(ag:gt≠gy/\gt≠gtb/\gt≠ga)(Q:∀D k J U,ae (λr=>B<=r/\¬D r) J U->fA B J U->ax D k J->ax D k U)(b1:PU (gh ab ad R n s gs bK bq a1 aM sc pos v B0) ax L l B):
  ∀(q p:Nat)(tl:Λ)(k:Nat)(D:Nat->Prop)(w:x4),sc.length=p+q->tl.length=sc.length->(∀r,D r->B<=r/\r<w.heap.size)->B<=w.heap.size->rk D B gy gtb ga gt->ka w l gy gt gtb ga (kb bK gy gtb bq a1 ga gs) sc.length tl->gh ab ad R n s gs bK bq a1 aM sc pos v B0 D w->ax D k w->
   (∀i x,(fS s sc pos v q p tl)[i]?=σ x->L[k+i]?=σ x)->
   ai x8 lR (tU p bK gy gtb bq a1 ga gs) w λr w'=>r= .bool true/\AtR l gy gt gtb ga (kb bK gy gtb bq a1 ga gs) (gh ab ad R n s gs bK bq a1 aM sc pos v B0) ax (λr=>r<B\/D r\/r=gt) D w sc.length (k+(fS s sc pos v q p tl).length) p tl w':=by
 obtain⟨f,rfl⟩:=U9 bY;have ak:∀D T J U,ae T J U->(∀r,T r->B<=r/\¬D r)->gh ab ad R n s gs bK bq a1 aM sc f v B0 D J->gh ab ad R n s gs bK bq a1 aM sc f v B0 D U:=λD T J U aW bm h=>h.own aW λr z=>⟨Y7 b0 (bm r z).1,(bm r z).2⟩;have aX:∀{N:x4}{K:x3->Prop},ac N bK an [aM]->K aM->V x8 (u5 an (Γ bK)) N K:=λaZ a2=>by rw[aD (v:=aM) Ψ (aZ.Qz rfl)];exact a2
 have a6:∀{a7 p:Nat}{tl:Λ}{D:Nat->Prop}{w U N:x4}{a:Nat}{b:Bool},Ext w U->w.heap.size<=a->a<U.heap.size->(∀r,D r->B<=r/\r<w.heap.size)->B<=w.heap.size->(gy<w.heap.size/\gtb<w.heap.size/\ga<w.heap.size/\gt<w.heap.size)->
   AtR l gy gt gtb ga (kb bK gy gtb bq a1 ga gs) (gh ab ad R n s gs bK bq a1 aM sc f v B0) ax (λr=>r<B\/D r\/r=gt\/r=a) D U sc.length a7 p tl N->ac N a ec [.bool b]->
   aB x8 (o9 ec (Γ a) (.bool true)) N λ(_:Unit)aJ=>V x8 (do loadVar ec (<-asAddr (Γ a))) aJ λr=>uw w.heap.size aJ λbo=>r= .bool true/\AtR l gy gt gtb ga (kb bK gy gtb bq a1 ga gs) (gh ab ad R n s gs bK bq a1 aM sc f v B0) ax (λr=>r<B\/D r\/r=gt) D w sc.length a7 p tl bo:=by
  intro a7 p tl D w U N a b H br al C am au a8 ba;have b2:∀r,r=a->r<U.heap.size/\¬D r/\B<=r/\(r<B\/D r\/r=gt\/r=a)/\r≠gy/\r≠gtb/\r≠ga/\r≠gt:=by
   rintro r rfl;exact⟨al,λh=>by have:=(C _ h).2;omega,Ω,.inr (.inr (.inr rfl)),Ω,Ω,Ω,Ω⟩
  refine aB.cr (bp ec.i rfl rfl ba Ξ λaJ b3 c5 bc b4=>?_);have bc:ac aJ a ec [.bool true]:=bc;have b5:=a8.own ak Q b3 b4.o b2;rw[PW (x:=.bool true) Ψ (bc.Qz rfl)];intro bo b6 b7;refine⟨rfl,((b5.own ak Q (b6.aa λ_=>False) (b7.2.mono am) λ_ h=>h.elim).base H λr z h=>?_)⟩;rcases h with h|h|h|h
  .exact .inl h
  .exact .inr (.inl h)
  .exact .inr (.inr h)
  .omega
 intro q;induction q with
 |zero=>
  intro p tl k D w b8 av C am E ay bd be az;refine ik func250 ?_;refine aB.cr (bk λg1 J b9 aA G bg=>?_);refine aB.cr (bw ec.i λa U br Y O bh=>?_);have H:=aA.trans Y;have ca:=aA.size;have cb:=Y.size;have G:ac U g1 ah [Δ (p:Int)]:=ac.ext G Y;have O:ac U a ec [.bool false]:=O;have al:=O.lt;have aK:=Q D k w U (H.aa _) (bg.trans bh).o be;have M:=bd.ext H;have I:=ay.ext H;rw[aD (v:=Δ (p:Int)) Ψ (G.Qz rfl)];refine aX M.1.2.1 ?_;rw[aU an.u M.2.2.1,bf,aj];refine⟨λ_=>?_,λh=>absurd Ω h⟩;rw[aD (v:=.func (.yield l) #[] #[]) Ψ (I.1.Qz rfl),aD (v:=.slice (σ ⟨gt,0,ν⟩) sc.length sc.length) Ψ (I.2.1.Qz rfl)];have cc:L[k]?=σ tl:=az 0 tl rfl;refine(show hR x8 l [.slice (σ ⟨gt,0,ν⟩) sc.length sc.length] U _ from hR.mono (b1 D k tl _ U (λr z=>⟨(C r z).1,by have:=(C r z).2;omega⟩) Ω M cc I.2.2.2.ls aK) ?_);rintro _ bt ⟨rfl,⟨D',d1,d2,cd,ce⟩,cg,ch,bi⟩;refine⟨cg,?_⟩;have au:=ay.lt;have aN:∀{g:Nat},w.heap.size<=g->¬D g:=λh1 aC=>by have:=(C _ aC).2;omega
  have aE:∀{g:Nat},B<=g->¬D g->¬(g<B\/D g):=λh1 aC ci=>ci.elim Ω aC;have ba:ac bt a ec [.bool false]:=O.aa bi (aE Ω (aN Ω));have a8:AtR l gy gt gtb ga (kb bK gy gtb bq a1 ga gs) (gh ab ad R n s gs bK bq a1 aM sc f v B0) ax (λr=>r<B\/D r\/r=gt\/r=a) D U sc.length (k+1) p tl bt:=
   ⟨ch,D',tl,av,rfl,I.aa bi ⟨aE E.1.1 E.1.2,aE E.2.1.1 E.2.1.2,aE E.2.2.1.1 E.2.2.1.2,aE E.2.2.2.1 E.2.2.2.2⟩,⟨d1,d2⟩,cd,ce,bi.mono λr _ h=>h.imp id .inl⟩
  exact a6 H Ω al C am au a8 ba
 |succ q bu=>
  intro p tl k D w b8 av C am E ay bd be az;refine ik func250 ?_;refine aB.cr (bk λg1 J b9 aA G bg=>?_);refine aB.cr (bw ec.i λa U br Y O bh=>?_);have H:=aA.trans Y;have ca:=aA.size;have cb:=Y.size;have G:ac U g1 ah [Δ (p:Int)]:=ac.ext G Y;have O:ac U a ec [.bool false]:=O;have al:=O.lt;have h1:=G.lt;have aK:=Q D k w U (H.aa _) (bg.trans bh).o be;have M:=bd.ext H;have I:=ay.ext H;have au:=ay.lt;have aN:∀{g:Nat},w.heap.size<=g->¬D g:=λh1 aC=>by have:=(C _ aC).2;omega
  rw[aD (v:=Δ (p:Int)) Ψ (G.Qz rfl)];refine aX M.1.2.1 ?_;rw[aU an.u M.2.2.1,bf,aj];refine⟨λh=>absurd h Ω,λ_=>?_⟩;rw[aD (v:=Δ (p:Int)) Ψ (G.Qz rfl),aD (v:=Δ (f:Int)) Ψ (M.1.2.2.1.Qz rfl),bf,aj];have bx:∀{N:x4}{K:x3->Prop},ac N gtb an [.slice (σ ⟨gt,0,ν⟩) sc.length sc.length]->K (.slice (σ ⟨gt,0,ν⟩) sc.length sc.length)->V x8 (u5 an (Γ gtb)) N K:=λaZ a2=>by rw[aD (v:=.slice (σ ⟨gt,0,ν⟩) sc.length sc.length) Ψ (aZ.Qz rfl)];exact a2
  have aO:∀{D:Nat->Prop}(r:Nat),rk D B gy gtb ga gt->r=gt->B<=r/\¬D r:=λr h e=>e▸⟨h.2.2.2.1,h.2.2.2.2⟩;refine⟨λhe=>?_,λcj=>?_⟩
  .refine bx I.2.1 ?_;rw[aD (v:=Δ (p:Int)) Ψ (G.Qz rfl),aD (v:=Δ v) Ψ (M.1.2.2.2.Qz rfl),h0 rfl an.u ah.i I.2.2.2 Ω];refine aB.cr (h2 ah.i I.2.2.2 Ω λao X c6 ck cl=>?_);have bz:ka ao l gy gt gtb ga (kb bK gy gtb bq a1 ga gs) sc.length (tl.set p v):=⟨I.1.aa X λh=>ag.1 h.symm,I.2.1.aa X λh=>ag.2.1 h.symm,I.2.2.1.aa X λh=>ag.2.2 h.symm,ck⟩;have cm:=ak D _ _ _ X (λr h=>aO r E h) M;have cn:=Q D k U ao (X.mono λr _ h=>aO r E h) cl.o aK;have cp:ac ao g1 ah [Δ (p:Int)]:=G.aa X Ω;have cq:ac ao a ec [.bool false]:=O.aa X Ω;rw[aD (v:=.func (.func lR) #[] (kb bK gy gtb bq a1 ga gs)) Ψ (bz.2.2.1.Qz rfl),aD (v:=Δ (p:Int)) Ψ (cp.Qz rfl),aL,wrap_i64 Ω Ω];have hw:fS s sc f v (q+1) p tl=fS s sc f v q (p+1) (tl.set p v):=by rw[fS,if_pos he]
   rw[hw];rw[hw]at az;refine(show ai x8 lR (tU (p+1) bK gy gtb bq a1 ga gs) ao _ from ai.mono (bu (p+1) (tl.set p v) k D ao Ω (by rw[Z9];exact av) (λr z=>⟨(C r z).1,by have:=(C r z).2;omega⟩) Ω E bz cm cn az) ?_);rintro _ ct c7 ⟨rfl,bA⟩;have cu:ac ct a ec [.bool false]:=by
    obtain⟨_,_,_,_,_,_,_,_,_,cw⟩:=bA;exact cq.aa cw λh=>by
     rcases h with h|h|h
     .omega
     .exact aN Ω h
     .omega
   exact a6 H Ω al C am au (AtR.comp (λr h=>h.imp id λh=>h.imp id .inl) (λr h=>.inl h) (λ_ h=>h) (X.mono λr _ h=>.inr (.inr (.inl h))) rfl bA) cu
  intro c8 aP _ cz;have aQ:=M.ext aP;obtain⟨A,s',bn,bB,cA,c9⟩:=id aQ.2.2.2.2.2;obtain⟨u,hu⟩:=aF (l:=sc) (i:=p) Ω;obtain⟨cB,da⟩:=bZ u (x6 hu);have db:=bB.2.2.2.1.vars;obtain⟨x,bC⟩:=aF (l:=s'.vars) (i:=u.toNat) Ω;rw[aD (v:=Γ ab) Ψ (aQ.1.1.Qz rfl)];refine aX aQ.1.2.1 ?_;rw[aD (v:=Δ (p:Int)) Ψ ((G.ext aP).Qz rfl),bb an.u ah.i Ψ aQ.2.2.1 hu];refine(iE (i:=u) bB).mono ?_;rintro _ dc cC ⟨⟨b,cD,rfl,bD⟩,bE⟩;refine(l6 (b:=b) (n:=cD)).mono ?_;rintro _ aR cE ⟨cF,bF,rfl,dd,bG⟩;have bI:=j3 bD cB bC;have cG:bH s (sc.getD p 0)=aw x:=by
   rw[<-cA,u4,hu,V5];unfold bH;rw[bC]
  have bL:fS s sc f v (q+1) p tl=(aw x).flatMap λy=>fS s sc f v q (p+1) (tl.set p y):=by rw[fS,if_neg cj,cG]
  have Z:=(aP.trans bE).trans cF;have cH:=(cz.trans cC).trans cE;have z12:=Z.size;have de:=(aP.trans bE).size;have df:=bG.lt;have bM:B<=aR.heap.size:=Ω
  have cI:=Q D k U aR (Z.aa _) cH.o aK;have bN:=M.ext Z;have bO:=I.ext Z;refine⟨Nat,false,false,jk,#[Γ bF],0,_,_,λ_=>_,λ_ j w'=>AtR l gy gt gtb ga (kb bK gy gtb bq a1 ga gs) (gh ab ad R n s gs bK bq a1 aM sc f v B0) ax (λr=>r<B\/D r\/r=gt) D aR sc.length (k+(((aw x).take j).flatMap λy=>fS s sc f v q (p+1) (tl.set p y)).length) p tl w'/\ac w' g1 ah [Δ (p:Int)]/\ac w' a ec [.bool false],
   λ_ _ _ _=>False,rfl,(l5 (g:=bF) bD.1).s.x,?_,λ_ _ _ ap h=>⟨h.1.ext ap,h.2.ext ap⟩,?_,λ_ _ _ _ _ _ _ h=>h,⟨bG,bN.2.2.2.2.1.1⟩,?_,?_,?_,λ_ _ _ h=>h.elim,λ_ _ _ _ h=>h.elim⟩
  .rintro _ _ _ _ ⟨_,_,_,_,rfl⟩;rfl
  .rintro _ j dg dh aW cJ ⟨af,aG,P⟩;have ap:=aW.ext λ_ _ h=>nomatch h.1;exact⟨af.own ak Q (ap.aa λ_=>False) (cJ.mono bM) λ_ h=>h.elim,aG.ext ap,P.ext ap⟩
  .exact⟨⟨o6 _,D,tl,av,rfl,bO,⟨λ_ h=>.inl h,λ_ h=>h⟩,bN,by simpa using cI,ae.refl _ _⟩,G.ext Z,O.ext Z⟩
  .rintro _ _ j _ di _ _ ⟨cK,dj⟩ ⟨dk,rfl,y,cL,cM⟩ ⟨cN,bP,cO⟩;cases cM;intro bQ aH cP _;have bR:(aw x)[j]?=σ (y:Int):=by rw[<-bI,v8,cL];rfl
   have cQ:=cN.own ak Q (aH.aa λ_=>False) (cP.2.mono bM) λ_ h=>h.elim;obtain⟨dl,aI,aS,af,aG,P,⟨aT,cR⟩,cS,cT,cU⟩:=cQ;have cV:=bO.lt;have bj:=E.go aT cV;have bS:∀r,aI r->B<=r/\r<bQ.heap.size:=λr z=>(aT r z).elim (λh=>⟨(C r h).1,by have:=(C r h).2;omega⟩) λh=>⟨Ω,h.2⟩;refine bx P.2.1 ?_;rw[aD (v:=Δ (p:Int)) Ψ ((bP.ext aH).Qz rfl),h0 rfl an.u ah.i P.2.2.2 Ω];refine aB.cr (h2 ah.i P.2.2.2 Ω λaq W dm cW cX=>?_);have bT:ka aq l gy gt gtb ga (kb bK gy gtb bq a1 ga gs) sc.length (aS.set p y):=⟨P.1.aa W λh=>ag.1 h.symm,P.2.1.aa W λh=>ag.2.1 h.symm,P.2.2.1.aa W λh=>ag.2.2 h.symm,cW⟩;have cY:=ak aI _ _ _ W (λr h=>aO r bj h) cS;have cZ:=Q aI _ bQ aq (W.mono λr _ h=>aO r bj h) cX.o cT;have bU:ac aq g1 ah [Δ (p:Int)]:=(bP.ext aH).aa W Ω;have c0:ac aq a ec [.bool false]:=(cO.ext aH).aa W Ω;have c1:=(cK.ext aH).aa W Ω;rw[aD (v:=.func (.func lR) #[] (kb bK gy gtb bq a1 ga gs)) Ψ (bT.2.2.1.Qz rfl),aD (v:=Δ (p:Int)) Ψ (bU.Qz rfl),aL,wrap_i64 Ω Ω];have bV:fS s sc f v q (p+1) (aS.set p (y:Int))=fS s sc f v q (p+1) (tl.set p (y:Int)):=PR Ω (by rw[Z9];exact av) (by rw[Z9];exact af) (by rw[tT Ω,tT Ω,aG]);refine(show ai x8 lR (tU (p+1) bK gy gtb bq a1 ga gs) aq _ from ai.mono (bu (p+1) (aS.set p y) _ aI aq Ω (by rw[Z9];exact af) (λr z=>⟨(bS r z).1,by have:=(bS r z).2;omega⟩) Ω bj bT cY cZ λi dn hi=>?_) ?_)
   .rw[bV]at hi;rw[R7];refine az _ _ ?_;rw[bL];exact PV bR hi
   rintro _ dp dq ⟨rfl,bW⟩;rw[bJ,X3,aY];have bX:=AtR.comp (S:=λr=>r<B\/D r\/r=gt) (λr h=>h) (λr h=>(aT r h).imp id λh=>⟨h.1,Ω⟩) cR (cU.trans (W.mono λr _ h=>.inr (.inr h))) aG bW;obtain⟨_,_,_,_,_,_,_,c2,_,bl⟩:=bW;have aV:∀{g:Nat},w.heap.size<=g->g<aR.heap.size->¬(g<B\/aI g\/g=gt):=λc3 dr h=>by
    rcases h with h|h|h
    .omega
    .exact (aT _ h).elim (aN c3) λh=>Ω
    .omega
   refine⟨⟨c1.aa bl (aV Ω Ω),c2.2.2.2.2.1.1⟩,⟨?_,bU.aa bl (aV Ω Ω),c0.aa bl (aV Ω Ω)⟩,λh=>by cases h⟩;have e:k+(((aw x).take j).flatMap λy=>fS s sc f v q (p+1) (tl.set p y)).length+(fS s sc f v q (p+1) (aS.set p (y:Int))).length=k+(((aw x).take (j+1)).flatMap λy=>fS s sc f v q (p+1) (tl.set p y)).length:=by
    rw[bV,u9,bR,l7,List.flatMap_append,List.flatMap_singleton,o4];omega
   rw[e]at bX;exact bX
  .rintro _ j ds rfl ⟨af,aG,P⟩;rw[j4 (by rw[<-bI,u7];exact o6 _),<-bL]at af;exact a6 H Ω al C am au (af.base Z λr _ h=>h.imp id λh=>h.imp id .inl) P
end
section
variable{ab ad gs bK bq a1 B0:Nat}{R:af}{n:aK}{s:ao}{aM:x3}{sc:Λ}{v:Int}
def Ex{e:Nat}(W:∀u∈sc,0<=u/\u<n.sizes.length)(X:sc.length<=6):
  pV x8 true false lQ [Γ bK,Γ bq,Γ a1,Γ gs] 0 (λk=>k=(ck s sc e v).length)
   (λk vs Y w=>Y=k+1/\∃tl aO,(ck s sc e v)[k]?=σ tl/\vs=[aO]/\aG .i64 w aO tl) (gh ab ad R n s gs bK bq a1 aM sc e v B0):=by
 refine⟨lQ.enters,λl ax aY w Z _ af hj ag=>?_⟩;have E:∀D k J U,ae (λr=>w.heap.size<=r/\¬D r) J U->fA w.heap.size J U->ax D k J->ax D k U:=λD k J U ai aj=>Z D k J U (ai.mono λr _ h=>⟨rfl,h⟩) aj;have I:=hj.2.2.1;have ak:=hj.2.2.2.2.1.2;obtain⟨_,_,_,aZ⟩:=c8 I;refine p5 func249 ?_;refine aB.cr (bk λgy J a2 p G al=>?_);have am:∀{H:x4}{K:x3->Prop},ac H bK an [aM]->K aM->V x8 (u5 an (Γ bK)) H K:=λao ap=>by rw[aD (v:=aM) Ψ (ao.Qz rfl)];exact ap
 refine am (hj.1.2.1.ext p) ?_;rw[aU an.u (I.ext p)];refine aB.cr (jL (k:=.i64) an.u ah.i Ω Ω λgt U a6 A M aq=>?_);refine aB.cr (bw an.i λgtb a7 a8 q N av=>?_);refine aB.cr (bp an.i rfl rfl N (by simp[x3.cells]) λba C bb aw ay=>?_);refine aB.cr (bw oN.i λga bc bd f O az=>?_);rw[k0];refine aB.cr (bp oN.i rfl rfl O (by simp[x3.cells]) λa y be aA aC=>?_);have bf:=p.size;have bg:=A.size;have z3:=q.size;have z5:=f.size;have bh:=G.lt;have bi:=M.lt;have bj:=N.lt;have bl:=O.lt;have aE:ac a gy zu [.func (.yield l) #[] #[]]:=(((((ac.ext G A).ext q).aa C Ω).ext f).aa y Ω);have aF:ac a gt ah (ints .i64 (o5 sc.length 0)):=((((M.ext q).aa C Ω).ext f).aa y Ω);have aH:ac a gtb an [.slice (σ ⟨gt,0,ν⟩) sc.length sc.length]:=((ac.ext aw f).aa y Ω);have P:ac a ga oN [.func (.func lR) #[] (kb bK gy gtb bq a1 ga gs)]:=aA;rw[aD (v:=.func (.func lR) #[] (kb bK gy gtb bq a1 ga gs)) Ψ (P.Qz rfl)];have hm:au .i64 ah a gt (.slice (σ ⟨gt,0,ν⟩) sc.length sc.length) (o5 sc.length 0):=by
  have:=bX.full (n:=sc.length) (k:=1) aF Ξ (by simp only[maxLen];omega);unfold au;rw[List.length_replicate];exact this
 have aI:=(p.trans A).trans q;have Q:ae (λr=>w.heap.size<=r/\¬False) w a:=(((aI.aa _).trans (C.mono λr _ h=>⟨by have h:r=gtb:=h;omega,id⟩)).trans (f.aa _)).trans (y.mono λr _ h=>⟨by have h:r=ga:=h;omega,id⟩);have aJ:cL w a:=((((al.trans aq).trans av).trans ay).trans az).trans aC;have aK:gh ab ad R n s gs bK bq a1 aM sc e v B0 (λ_=>False) a:=hj.own Q λr aL=>⟨Ω,aL.2⟩;have S:=PS (s:=s) (sc:=sc) (pos:=e) (v:=v) (tl:=o5 sc.length 0) Ξ;refine(show gH x8 lR (tU 0 bK gy gtb bq a1 ga gs) a _ from(PX (L:=ck s sc e v) (B:=w.heap.size) (l:=l) (gy:=gy) (gt:=gt) (gtb:=gtb) (ga:=ga) (pos:=e) Ω W X ak ⟨Ω,Ω,Ω⟩ E ?_ sc.length 0 (o5 sc.length 0) 0 (λ_=>False) a Ω Ξ (λ_ h=>h.elim) Ω ⟨⟨Ω,id⟩,⟨Ω,id⟩,⟨Ω,id⟩,Ω,id⟩ ⟨aE,aH,P,hm⟩ aK (E _ _ _ _ Q aJ.o ag) λi x hi=>?_).free.mono ?_)
 .intro D k tl aO w' aN aP aQ aR aS z;refine hR.mono (af D k (k+1) [aO] w' aN aP aQ ⟨rfl,tl,aO,aR,rfl,aS⟩ z) ?_;rintro u bm (⟨h1,aT,aV,aW,aX⟩|⟨h,_⟩)
  .exact⟨h1,aT,aV (.inr rfl),aW,aX rfl⟩
  .cases h
 .rw[S]at hi;rw[X6];exact hi
 .rintro _ bn ⟨_,rfl,_,D',_,_,_,_,_,_,z,_⟩;rw[S,X6]at z;exact .inl ⟨D',_,rfl,z⟩
end
def Ey(m gs bK bq a1:Nat)(aM:x3):Prop:=(m<=gs/\m<=bK/\m<=bq/\m<=a1)/\∀r,leads aM r->m<=r
section
variable{ab ad gs bK bq a1 B0 m:Nat}{A R:af}{n:aK}{s s':ao}{t:ay}{aM:x3}{sc:Λ}{pos v:Int}{w w':x4}
def bF.lt(h:bF w ab ad A R n s t){r:Nat}(a:A r\/R r):r<w.heap.size:=by
 obtain⟨⟨j,p,q,x,⟨_,_,e,f⟩,_⟩,_⟩:=h;exact a.elim (f r) (e r)
def gh.put{D' S:Nat->Prop}(h:gh ab ad R n s gs bK bq a1 aM sc pos v B0 D w)(j:ae S w w')(hm:Ey m gs bK bq a1 aM)(y:∀r,S r->r<m\/B0<=r)(z:Laid w')(B:bF w' ab ad A R n s' t)(C:∀i,bH s' i=bH s i)(E:∀r,A r\/R r->r<B0\/D' r):gh ab ad R n s gs bK bq a1 aM sc pos v B0 D' w':=by
 obtain⟨h1,f,p,q,F,_⟩:=h;have no:∀{r:Nat},m<=r->r<B0->¬S r:=λh1 f p=>by have:=y _ p;omega
 exact⟨h1.aa j ⟨no hm.1.1 f.1,no hm.1.2.1 f.2.1,no hm.1.2.2.1 f.2.2.1,no hm.1.2.2.2 f.2.2.2⟩,f,h3 p j λr G a n c e x=>no (hm.2 r ⟨a,n,c,e,x⟩) (q r ⟨a,n,c,e,x⟩) G,q,⟨z,Y7 F.2 j.size⟩,A,s',t,B,C,E⟩
def Ez{f:cK}{y:x4->Prop}(h:bF w ab ad A R n s t)(B:Laid w)(C:s.funs[j]?=σ f)(E:∀aM gs bK bq a1 w',Ext w w'->Ey w.heap.size gs bK bq a1 aM->gh ab ad R n s gs bK bq a1 aM f.sc pos v w'.heap.size (λ_=>False) w'->K (.func (.func lQ) #[] #[Γ bK,Γ bq,Γ a1,Γ gs]) w'):
  ai x8 rX [Γ ab,Δ (j:Int)] w λaM J=>(Ext w J\/y J)/\ai x8 zn [Γ ab,aM,Δ pos,Δ v] J K:=by
 refine(w8 h C).mono ?_;rintro aM J _ ⟨q,g,G,hm⟩;refine⟨.inl q,(PT hm.ls).mono ?_⟩;rintro _ U _ ⟨x,gs,bK,bq,a1,rfl,a,H,I,L,M⟩;have p:=q.trans x;have N:=q.size;have z:=p.size;refine E aM gs bK bq a1 U p ⟨⟨Ω,Ω,Ω,Ω⟩,λr e=>(bR hm e).1▸G⟩ ⟨a,⟨a.1.lt,a.2.1.lt,a.2.2.1.lt,a.2.2.2.lt⟩,hm.ls.ext x,λr e=>?_,⟨B.ext p,o6 _⟩,A,s,t,h.ext p,λ_=>rfl,λr e=>.inl ?_⟩
 .have:=bR hm e;have:=x.size;omega
 .have:=h.lt e;omega
end
section
variable{k:Int}{sizes:Λ}{s:ao}{f:cK}{j pos:Nat}{v:Int}{tl:Λ}
def xy{m:Nat}(a:s.funs[j]?=σ f)(e:f.live≠0)(hm:cj f.ag tl 0=σ (m:Int)):(ia s j tl).isSome=true/\m4 s j tl=bh f.ag f.cs tl:=by
 unfold ia m4;rw[a];simp[e,hm]
end
section
variable{w:x4}{ab ad:Nat}{A R:af}{n:aK}{s:ao}{t:ay}
def PY{f:cK}(h:bF w ab ad A R n s t)(ak:Laid w)(N:s.funs[j]?=σ f)(ax:f.live≠0)(ay:∀u,f.sc[pos]?=σ u->v∈bH s u):
  ai x8 Hm [Γ ab,Δ (j:Int),Δ (pos:Int),Δ v] w λr w'=>r=Δ (mm n.k s f pos v)/\Ext w w':=by
 have al:=h.2.2.2.1;have an:=x6 N;obtain⟨O,aU,_⟩:=al.funs f an;refine ik func146 ?_;refine bk λg1 J aW P y=>?_;refine bk λQ U aX K L=>?_;have y:ac U g1 ds [Γ ab]:=ac.ext y K;have L:ac U Q ah [Δ (j:Int)]:=L;rw[aD (v:=Γ ab) Ψ (y.Qz rfl)];refine(mZ (h.ext (P.trans K))).mono ?_;rintro _ aY _ ⟨rfl,S⟩;refine bw am.i λz aZ a2 V ao=>?_;have a6:=P.size;have a7:=K.size;have z3:=S.size;have z4:=V.size;have a8:=y.lt;have ba:=L.lt;have bb:=ao.lt;refine bp am.i rfl rfl ao (by simp[x3.cells]) λaz W bc X=>?_;have X:ac az z am [Δ n.k]:=X;intro Y B _ _;have bd:=B.size;have ap:=S.trans V;have Z:Ext w Y:=((((P.trans K).trans S).trans V).then W (by rintro r p rfl;omega)).trans B;have ae:ac Y g1 ds [Γ ab]:=((y.ext ap).aa W Ω).ext B;have aq:ac Y Q ah [Δ (j:Int)]:=((L.ext ap).aa W Ω).ext B;have au:=X.ext B;have be:=au.lt;rw[aD (v:=Γ ab) Ψ (ae.Qz rfl),aD (v:=Γ ab) Ψ (ae.Qz rfl),aD (v:=Δ (j:Int)) Ψ (aq.Qz rfl)];refine Ez (h.ext Z) (ak.ext Z) N λaM gs bK bq a1 aA C aC aE=>?_;have bf:=C.size;refine⟨Nat,true,false,lQ,#[Γ bK,Γ bq,Γ a1,Γ gs],0,_,_,_,λD k w'=>Ext w w'/\ac w' g1 ds [Γ ab]/\ac w' Q ah [Δ (j:Int)]/\ac w' z am [Δ ((((ck s f.sc pos v).take k).map (bh f.ag f.cs)).foldl min n.k)],
  λ_ _ _ _=>False,rfl,Ex (λu hu=>⟨(O.scope.1 u hu).1,O.vars u hu⟩) O.scope.2,?_,λ_ _ _ aF h=>h.ext aF,?_,λ_ _ _ _ _ _ _ h=>h,aE,?_,?_,?_,λ_ _ _ h=>h.elim,λ_ _ _ _ h=>h.elim⟩
 .rintro _ _ _ _ ⟨_,_,_,_,rfl,_⟩;rfl
 .rintro D k aG aH M bg ⟨q,E,G,x⟩;have aV:∀{g:Nat}{e:r9}{cs:List x3},g<aA.heap.size->ac aG g e cs->ac aH g e cs:=λbi aI=>aI.aa M λh=>by have:=h.2.1;omega
  exact⟨q.then M λr p h=>by have:=h.2.1;omega,aV Ω E,aV Ω G,aV Ω x⟩
 .exact⟨Z.trans C,ae.ext C,aq.ext C,au.ext C⟩
 .rintro aO D k bj bl bm bn aJ ⟨rfl,tl,bo,av,e,aK⟩ ⟨q,E,G,x⟩;cases e;intro br H _ aL;obtain⟨m,hm⟩:=tK al an ay (x6 av);obtain⟨aN,M⟩:=xy N ax hm;rw[aD (v:=Γ ab) Ψ ((E.ext H).Qz rfl),aD (v:=Δ (j:Int)) Ψ ((G.ext H).Qz rfl)];refine(tz (j:=j) (h.ext (q.trans H)) (aK.ext H)).mono ?_;rintro _ bt aP ⟨rfl,aQ⟩;have a:=H.trans aQ;rw[if_pos aN,M,bx,bz,aD (v:=Δ ((((ck s f.sc pos v).take k).map (bh f.ag f.cs)).foldl min n.k)) Ψ ((x.ext a).Qz rfl),lW];refine aB.cr (bp am.i rfl rfl (x.ext a) Ξ λaw I bu af aR=>?_);have bA:=a.size;have aj:Ext w aw:=(q.trans a).then I (by rintro r p rfl;omega);have aS:=h.ext aj;refine⟨⟨D,λr h=>.inl h,λ_ h=>h,(aJ.ext a).put I aC (λr p=>.inl (by have p:r=z:=p;omega)) (ak.ext aj) aS (λ_=>rfl) λr p=>.inl (by have:=h.lt p;omega),aj,(E.ext a).aa I Ω,(G.ext a).aa I Ω,?_⟩,aL.trans (aP.kf.trans aR.kf),(a.aa _).trans (I.mono λr _ h=>.inl (by have h:r=z:=h;omega))⟩;have af:ac aw z am [Δ (min ((((ck s f.sc pos v).take k).map (bh f.ag f.cs)).foldl min n.k) (bh f.ag f.cs tl))]:=af;rw[u9,av,l7,Z4,List.foldl_append];exact af
 .rintro D k bB rfl ⟨q,E,G,x⟩;rw[aD (v:=Δ ((((ck s f.sc pos v).take (ck s f.sc pos v).length).map (bh f.ag f.cs)).foldl min n.k)) Ψ (x.Qz rfl)];intro bC aT _;refine⟨?_,q.trans aT⟩;rw[j4 (o6 _)];rfl
end
def rl(t:ay):Prop:=∀m,t.marks.getLast? =σ m->m.olds+t.cells.length<100000000/\t.olds.length<=m.olds+t.cells.countP λc=>decide (c.st=m.st)
def eB(ap:List ay)(t:ay):Prop:=hC t ap/\rl t
def hC.m{t:ay}(h:hC t []):eB [] t:=⟨h,λm hm=>by rw[h.1]at hm;cases hm⟩
def eB.room{ap:List ay}{t:ay}(h:eB ap t):Room t:=by
 cases hm:t.marks.getLast? with
 |none=>exact .inl (List.getLast?_eq_none_iff.1 hm)
 |some m=>
  obtain⟨h1,a⟩:=h.2 m hm;have:=List.countP_le_length (p:=λc:Cell=>decide (c.st=m.st)) (l:=t.cells);exact .inr Ω
def rl.set{t:ay}{i:Nat}{x:Int}(h:rl t):rl (t.set i x):=by
 unfold ay.set;cases e:t.cells[i]? with
 |none=>exact h
 |some c=>
  obtain⟨f,j⟩:=x5.1 e;cases hm:t.marks.getLast? with
  |none=>
   intro m a;have a:t.marks.getLast? =σ m:=a;rw[hm]at a;cases a
  |some m=>
   obtain⟨h1,q⟩:=h m hm;simp only;split
   .rename_i r;intro bW a;have a:t.marks.getLast? =σ bW:=a;rw[hm]at a;cases a;show m.olds+(t.cells.set i _).length<_/\(t.olds++[_]).length<=m.olds+(t.cells.set i _).countP _;rw[Z9,List.countP_set f,j,o4,T1,if_neg (by rw[decide_eq_true_eq];omega),if_pos Ξ];exact⟨h1,Ω⟩
   .intro bW a;have a:t.marks.getLast? =σ bW:=a;rw[hm]at a;cases a;show m.olds+(t.cells.set i _).length<_/\t.olds.length<=m.olds+(t.cells.set i _).countP _;rw[Z9,List.countP_set f,j];refine⟨h1,?_⟩;by_cases I:c.st=m.st
    .have:=List.countP_pos_iff (p:=λc:Cell=>decide (c.st=m.st)).2 ⟨c,x6 e,decide_eq_true I⟩;rw[if_pos (decide_eq_true I)];omega
    .rw[if_neg (by rw[decide_eq_true_eq];exact I)];omega
def eB.set{ap:List ay}{t:ay}{i:Nat}{x:Int}(h:eB ap t):eB ap (t.set i x):=⟨h.1.set,h.2.set⟩
def cU(ap:List ay)(w:x4)(ab ad:Nat)(A R:af)(n:aK)(s':ao)(w':x4):Prop:=ae (eA w) w w'/\Laid w'/\∃aI bn,Grow A w aI w'/\bF w' ab ad aI R n s' bn/\eB ap bn/\¬aI 0
def eT(ap:List ay)(w:x4)(ab ad:Nat)(A R:af)(n:aK)(m:Nat)(D:Nat->Prop)(s':ao)(w':x4):Prop:=
 ae (λr=>eA w r\/w.heap.size<=r) w w'/\(Laid w'/\w.heap.size<=m/\0<w.heap.size/\(∀r,A r\/R r->r<w.heap.size))/\∃aI bn,Grow A w aI w'/\bF w' ab ad aI R n s' bn/\(eB ap bn/\¬aI 0)/\∀r,aI r->r<m\/D r
section
variable{ap:List ay}{w J U:x4}{ab ad m:Nat}{A R:af}{n:aK}{s s' ow:ao}{t:ay}{D D' S:Nat->Prop}
def eT.start(h:bF w ab ad A R n s t)(f:Laid w)(j:¬A 0)(p:eB ap t)(a:Ext w J)(hm:w.heap.size<=m):eT ap w ab ad A R n m D s J:=
 ⟨a.aa _,⟨f.ext a,hm,by
  obtain⟨x,y,z,B,⟨h1,_,_,q⟩,_⟩:=h.1;have:=q _ h1;omega,λr e=>h.lt e⟩,A,t,Grow.ext a,h.ext a,⟨p,j⟩,λr e=>.inl (by have:=h.lt (.inl e);omega)⟩
def eT.own(h:eT ap w ab ad A R n m D s' J)(e:ae S J U)(f:∀r,S r->m<=r/\¬D r):eT ap w ab ad A R n m D s' U:=by
 obtain⟨h1,⟨s,x,y,j⟩,aI,bn,⟨g1,z,B⟩,p,C,q⟩:=h;refine⟨h1.trans (e.mono λr _ h=>.inr (by have:=(f r h).1;omega)),⟨hA e (λh=>by have:=(f _ h).1;omega) s,x,y,j⟩,aI,bn,⟨?_,z,B⟩,⟨p.1.aa e λr _ a I=>?_,p.2⟩,C,q⟩
 .exact ((g1.mono λr _ h=>.inl h).trans (e.mono λr _ h=>.inr (f r h).1):ae (λr=>A r\/m<=r) w U).mono λr a h=>h.elim id λh=>Ω
 .obtain⟨F,E⟩:=f r I;rcases a with a|a
  .exact (q r a).elim Ω E
  .have:=j r (.inr a);omega
def eT.ext(h:eT ap w ab ad A R n m D s' J)(a:Ext J U):eT ap w ab ad A R n m D s' U:=h.own (a.aa λ_=>False) λ_ h=>h.elim
def eT.EA(h:eT ap w ab ad A R n m D s' J):∃aI bn,bF J ab ad aI R n s' bn/\eB ap bn/\¬aI 0/\∀{U:x4}{ow:ao}{D' a:Nat->Prop}{j:ay},ae (eA J) J U->Grow aI J a U->bF U ab ad a R n ow j->eB ap j->(∀r,D r->D' r)->(∀r,J.heap.size<=r->r<U.heap.size->D' r)->
  eT ap w ab ad A R n m D' ow U/\ae (λr=>r<m\/D r) J U/\∀r,a r->r<m\/D' r:=by
 obtain⟨h1,⟨y,z,B,C⟩,aI,bn,E,F,p,q⟩:=h;refine⟨aI,bn,F,p.1,p.2,λ{U ow D' a j}G e s H K L=>?_⟩;have P:=h1.size;have M:¬a 0:=λh=>(e.2.1 0 h).elim p.2 λh=>Ω
 have x:∀r,a r->r<m\/D' r:=λr f=>(e.2.1 r f).elim (λh=>(q r h).imp id (K r)) λh=>.inr (L r h (s.lt (.inl f)));refine⟨⟨h1.trans (G.mono λr _ h=>?_),⟨hA e.1 p.2 y,z,B,C⟩,a,j,E.trans e,s,⟨H,M⟩,x⟩,e.1.mono λr _ h=>q r h,x⟩;by_cases f:w.heap.size<=r
 .exact .inr f
 .exact .inl (mV (λo N I O=>h1.aV r o N I λh=>h.elim O f) h)
def eT.open(h:eT ap w ab ad A R n m D s' J):∃aI bn,bF J ab ad aI R n s' bn/\eB ap bn/\∀{U:x4}{ow:ao}{D' e:Nat->Prop}{f:ay},ae (eA J) J U->Grow aI J e U->bF U ab ad e R n ow f->eB ap f->(∀r,D r->D' r)->(∀r,J.heap.size<=r->r<U.heap.size->D' r)->
  eT ap w ab ad A R n m D' ow U/\ae (λr=>r<m\/D r) J U/\∀r,e r->r<m\/D' r:=by
 obtain⟨aI,bn,a,b,_,d⟩:=h.EA;exact⟨aI,bn,a,b,d⟩
def eT.done(h:eT ap w ab ad A R n m D s' J)(e:Ext J U):cU ap w ab ad A R n s' U:=by
 obtain⟨h1,⟨f,q,s,x⟩,aI,bn,j,p,a,y⟩:=h.ext e;exact⟨h1.mono λr z h=>h.elim id λh=>Ω,f,aI,bn,j,p,a.1,a.2⟩
end
section
variable{ap:List ay}{w:x4}{ab ad:Nat}{A R:af}{n:aK}{s:ao}{t:ay}
def ox{u:Nat}{x:be}(a:bi n.k n.sizes s)(f:s.vars[u]?=σ x)(h:v∈aw x):eR n (u:Int) v:=by
 have p:=(x5.1 f).1;have q:=a.vars;obtain⟨z,e⟩:=aF (l:=n.sizes) (i:=u) Ω;have r:=(a.var _ x z f e).1;have w:=a.dQ.2.2 z (x6 e);have j:=(fh.1 h).1;refine⟨Ω,Ω,j.1,?_⟩;rw[r8,u4,e,V5];omega
def EB{f:cK}{g:Int->Int}(p:bi k sizes s)(a:s.funs[j]?=σ f):dG s j f (dF g [] f.ag f.cs)=s:=by
 obtain⟨q,r⟩:=kG p (x6 a);rw[Ph q Ω (λ_ h=>absurd h List.not_mem_nil)];have:s.funs.set j f=s.funs:=by
  apply Y9;intro i;by_cases e:j=i
  .subst e;rw[b8 (x5.1 a).1,a]
  .rw[Y4 e]
 unfold dG;show{s with funs:=s.funs.set j f}=s;rw[this]
def EC{u:Nat}{f:cK}{x:be}{F1 F2:Q2}{tup un:Int->Int}(h:bF w ab ad A R n s t)(aQ:Laid w)(bl:¬A 0)(bm:eB ap t)(E:s.funs[j]?=σ f)(bn:f.live≠0)(hu:f.sc[pos]?=σ (u:Int))(y:s.vars[u]?=σ x)(aR:v∈aw x)(h1:∀tl∈ck s f.sc pos v,(0<=tup (bh f.ag f.cs tl)/\tup (bh f.ag f.cs tl)<=n.k)/\∀{w:x4}{A:af}{s:ao}{t:ay},bF w ab ad A R n s t->ai x8 F1 [Γ ab,Δ (bh f.ag f.cs tl),Δ c] w λr w'=>r=Δ (tup (bh f.ag f.cs tl))/\Ext w w')(aS:(0<=un (x.un.getD v.toNat 0)/\un (x.un.getD v.toNat 0)<=n.k)/\∀{w:x4}{A:af}{s:ao}{t:ay},bF w ab ad A R n s t->ai x8 F2 [Γ ab,Δ (x.un.getD v.toNat 0),Δ c] w λr w'=>r=Δ (un (x.un.getD v.toNat 0))/\Ext w w'):
  ai x8 Hn [.agg #[.func (.func F1) #[] #[],.func (.func F2) #[] #[]],Γ ab,Δ (j:Int),Δ (pos:Int),Δ v,Δ c] w λ_ w'=>cU ap w ab ad A R n (je s j f pos u x v tup un) w':=by
 have G:=h.2.2.2.1;have ak:=x6 E;obtain⟨al,b5,_⟩:=G.funs f ak;have aT:∀u',f.sc[pos]?=σ u'->v∈bH s u':=λu' aU=>by
  rw[hu]at aU;cases aU;unfold bH;rw[r8,y];exact aR
 have bo:=Ek G ak aT;refine ik func147 ?_;refine bk λbp J b6 aW P=>?_;refine bk λg1 U b7 aq a=>?_;refine bk λbr b9 ca Y B=>?_;refine bk λbt z cb Z Q=>?_;have P:ac z bp p3 [.func (.func F1) #[] #[],.func (.func F2) #[] #[]]:=((ac.ext P aq).ext Y).ext Z;have a:ac z g1 ds [Γ ab]:=(ac.ext a Y).ext Z;have B:ac z br ah [Δ (j:Int)]:=ac.ext B Z;have Q:ac z bt am [Δ c]:=Q;have au:=((aW.trans aq).trans Y).trans Z;have cc:=aW.size;have cd:=aq.size;have z3:=Y.size;have ce:=au.size;have aX:=P.lt;have H:=a.lt;have aY:=B.lt;have aZ:=Q.lt;rw[aD (v:=Γ ab) Ψ (a.Qz rfl),aD (v:=Δ (j:Int)) Ψ (B.Qz rfl)];refine(w8 (h.ext au) E).mono ?_;rintro cg ch _ ⟨bu,_,_,bw⟩;rw[bb an.u ah.i Ψ bw.ls hu];intro ci bA _ _;have I:=bu.trans bA;have av:=au.trans I;have z46:=I.size;rw[aD (v:=Γ ab) Ψ ((a.ext I).Qz rfl),aD (v:=Γ ab) Ψ ((a.ext I).Qz rfl),aD (v:=Δ (j:Int)) Ψ ((B.ext I).Qz rfl)];refine Ez (h.ext av) (aQ.ext av) E λaM gs bK bq a1 a2 ax bB bC=>?_;have cj:=ax.size;have bD:=I.trans ax;refine⟨Nat,true,false,lQ,#[Γ bK,Γ bq,Γ a1,Γ gs],0,_,_,_,
  λD k w'=>eT ap w ab ad A R n w.heap.size D (dG s j f (dF tup ((ck s f.sc pos v).take k) f.ag f.cs)) w'/\(ae (λr=>r<w.heap.size\/a2.heap.size<=r) z w'/\a2.heap.size<=w'.heap.size),
  λ_ _ _ _=>False,rfl,Ex (λu hu=>⟨(al.scope.1 u hu).1,al.vars u hu⟩) al.scope.2,?_,λ_ _ _ y h=>h.ext y,?_,λ_ _ _ _ _ _ _ h=>h,bC,?_,?_,?_,λ_ _ _ h=>h.elim,λ_ _ _ _ h=>h.elim⟩
 .rintro _ _ _ _ ⟨_,_,_,_,rfl,_⟩;rfl
 .rintro D k cl cm S cn ⟨K,L,az⟩;exact⟨K.own S λr q=>⟨Ω,q.2.2⟩,L.trans (S.mono λr _ h=>.inr h.2.1),Y7 az S.size⟩
 .refine⟨?_,bD.aa _,o6 _⟩;have e:dG s j f (dF tup ((ck s f.sc pos v).take 0) f.ag f.cs)=s:=EB G E;rw[e];exact eT.start h aQ bl bm (av.trans ax) (o6 _)
 .rintro aO D k cp aA a6 cq bE ⟨rfl,tl,cr,aB,e,a7⟩ ⟨K,L,az⟩;cases e;intro ct V _ bG;obtain⟨m,hm⟩:=tK G ak aT (x6 aB);obtain⟨bI,bJ⟩:=El (g:=tup) G E bo aB hm;obtain⟨⟨bL,bM⟩,bN⟩:=h1 tl (x6 aB);have aV:∀{W:x4}{g:Nat}{e:r9}{cs:List x3},Ext aA W->w.heap.size<=g->g<z.heap.size->ac z g e cs->ac W g e cs:=λy M aC aE=>(aE.aa L Ω).ext y;have bO:=(x5.1 E).1;have a8:(dG s j f (dF tup ((ck s f.sc pos v).take k) f.ag f.cs)).funs[j]?=σ {f with cs:=dF tup ((ck s f.sc pos v).take k) f.ag f.cs}:=b8 bO;obtain⟨M,S⟩:=xy (tl:=tl) a8 bn hm;obtain⟨A9,t9,aF,ba,aG⟩:=K.open;rw[aD (v:=Γ ab) Ψ ((aV V Ω H a).Qz rfl),aD (v:=Δ (j:Int)) Ψ ((aV V Ω aY B).Qz rfl)];refine(tz (j:=j) (aF.ext V) (a7.ext V)).mono ?_;rintro _ cu bP ⟨rfl,bQ⟩;rw[if_pos M,S,bx,bz];intro bR bS _ bT;have C:=(V.trans bQ).trans bS;rw[aD (v:=Γ ab) Ψ ((aV C Ω H a).Qz rfl),aD (v:=Δ (j:Int)) Ψ ((aV C Ω aY B).Qz rfl),
   aH p3.p 0 (aV C Ω aX P) rfl,aD (v:=Γ ab) Ψ ((aV C Ω H a).Qz rfl),aD (v:=Δ c) Ψ ((aV C Ω aZ Q).Qz rfl)]
  show ai x8 F1 [Γ ab,Δ (bh f.ag (dF tup ((ck s f.sc pos v).take k) f.ag f.cs) tl),Δ c] bR _;rw[bI];refine(bN (aF.ext C)).mono ?_;rintro _ cw bU ⟨rfl,bc⟩;have X:=C.trans bc;refine⟨.inl bc,(OF (j:=j) (aF.ext X) ba.room (a7.ext X)).mono ?_⟩;rintro r bd bV ⟨_,_,aJ⟩;obtain⟨_,aj,aI,bW,bX,aK,N⟩:=aJ M ⟨bL,bM⟩ _ m a8 hm;rw[bJ]at N;have cz:=X.size;have cA:=aj.size;obtain⟨bf,aL,bY⟩:=aG (D':=λr=>D r\/aA.heap.size<=r/\r<bd.heap.size) (iD X aj) ((Grow.ext X).trans aK) N ba.set (λr h=>.inl h) λr M aC=>.inr ⟨M,aC⟩;refine⟨⟨λr=>D r\/aA.heap.size<=r/\r<bd.heap.size,λr h=>h,λr h=>.inl h,?_,bf,L.trans (aL.mono λr _ h=>h.imp id λh=>(a6 r h).1),Ω⟩,bG.trans ((((bP.trans bT).trans bU).trans bV).kf),aL.mono λr _ h=>h.imp (λh=>Ω) id⟩;refine bE.put aL bB (λr q=>?_) bf.2.1.1 N (λ_=>rfl) λr q=>?_
  .rcases q with q|q
   .exact .inl Ω
   .exact .inr (a6 r q).1
  .rcases q with q|q
   .exact (bY r q).imp (λh=>Ω) id
   .exact .inl (by have:=h.lt (.inr q);omega)
 .rintro D k bZ rfl ⟨K,L,az⟩;rw[j4 (o6 _)]at K;have bg:=ox G y aR;obtain⟨cB,cC,aN,bi,aG⟩:=K.open;have aV:∀{W:x4}{g:Nat}{e:r9}{cs:List x3},Ext bZ W->w.heap.size<=g->g<z.heap.size->ac z g e cs->ac W g e cs:=λy M aC aE=>(aE.aa L Ω).ext y;rw[aD (v:=Γ ab) Ψ ((aV (Ext.refl _) Ω H a).Qz rfl)];refine(m3 (i:=(u:Int)) (v:=v) aN).mono ?_;rintro _ cD _ ⟨rfl,b0⟩;have b1:fP (dG s j f (dF tup (ck s f.sc pos v) f.ag f.cs)) (u:Int).toNat v.toNat=x.un.getD v.toNat 0:=by
   unfold fP;rw[r8,show(dG s j f (dF tup (ck s f.sc pos v) f.ag f.cs)).vars[u]?=σ x from y]
  rw[if_pos bg,b1,bx,bz];intro b2 b3 _ _;have O:=b0.trans b3;rw[aD (v:=Γ ab) Ψ ((aV O Ω H a).Qz rfl),aH p3.p 1 (aV O Ω aX P) rfl,aD (v:=Γ ab) Ψ ((aV O Ω H a).Qz rfl),aD (v:=Δ c) Ψ ((aV O Ω aZ Q).Qz rfl)];show ai x8 F2 [Γ ab,Δ (x.un.getD v.toNat 0),Δ c] b2 _;refine(aS.2 (aN.ext O)).mono ?_;rintro _ cE _ ⟨rfl,bj⟩;have aP:=O.trans bj;refine⟨.inl bj,(DJ (i:=(u:Int)) (v:=v) (aN.ext aP) bi.room).mono ?_⟩;rintro r cF _ ⟨_,_,aJ⟩;obtain⟨_,aj,aI,bW,bX,aK,N⟩:=aJ bg aS.1;have e:j1 (dG s j f (dF tup (ck s f.sc pos v) f.ag f.cs)) (u:Int).toNat v.toNat (un (x.un.getD v.toNat 0))=je s j f pos u x v tup un:=by
   unfold j1 je ev;rw[r8,show(dG s j f (dF tup (ck s f.sc pos v) f.ag f.cs)).vars[u]?=σ x from y]
  rw[e]at N;intro cG b4 _;exact(aG (D':=λ_=>True) (iD aP aj) ((Grow.ext aP).trans aK) N bi.set (λ_ _=>trivial) λ_ _ _=>trivial).1.done b4
end
def rm(h e:Nat){l a:Nat}(f:l<256)(hm:a<256):(256*h+l) &&& (256*e+a)=256*(h &&& e)+(l &&& a):=by
 have j:l &&& a<2 ^ 8:=Nat.and_lt_two_pow _ hm;apply Nat.eq_of_testBit_eq;intro i;rw[Nat.testBit_and,show 256=2 ^ 8 from rfl,Nat.testBit_two_pow_mul_add _ f,Nat.testBit_two_pow_mul_add _ hm,Nat.testBit_two_pow_mul_add _ j];split
 .rw[Nat.testBit_and]
 .rw[Nat.testBit_and]
def gT(m x:Nat):Nat:=(x / 2 &&& m)+(x &&& m)
def hQ(m x:Nat):Nat:=(x / 4 &&& m)+(x &&& m)
def jy(m x:Nat):Nat:=(x / 16+x) &&& m
def c3(a:Nat):Nat:=jy 15 (hQ 51 (gT 85 a))
def PZ:∀e<2,∀l<256,(128*e+l / 2) &&& 85=l / 2 &&& 85:=by decide+kernel
def P0:∀e<4,∀l<256,(64*e+l / 4) &&& 51=l / 4 &&& 51:=by decide+kernel
def P1:∀e<5,∀l<69,(16*e+l / 16+l) &&& 15=(l / 16+l) &&& 15:=by decide+kernel
def ni:∀l<256,gT 85 l<256/\hQ 51 (gT 85 l)<69/\hQ 51 (gT 85 l) % 16<5/\c3 l<=8/\(c3 l=0->l=0):=by decide+kernel
def tV(h a:Nat){l:Nat}(e:l<256):gT (256*a+85) (256*h+l)=256*gT a h+gT 85 l:=by
 unfold gT;rw[show(256*h+l) / 2=256*(h / 2)+(128*(h % 2)+l / 2) by omega,rm _ _ Ω Ω,rm _ _ e Ω,PZ _ Ω _ e];omega
def tW(h a:Nat){l:Nat}(e:l<256):hQ (256*a+51) (256*h+l)=256*hQ a h+hQ 51 l:=by
 unfold hQ;rw[show(256*h+l) / 4=256*(h / 4)+(64*(h % 4)+l / 4) by omega,rm _ _ Ω Ω,rm _ _ e Ω,P0 _ Ω _ e];omega
def tX(h a:Nat){l:Nat}(e:l<69)(he:h % 16<5):jy (256*a+15) (256*h+l)=256*jy a h+jy 15 l:=by
 unfold jy;rw[show(256*h+l) / 16+(256*h+l)=256*(h / 16+h)+(16*(h % 16)+l / 16+l) by omega,rm _ _ Ω Ω,P1 _ he _ e]
def four(a b c d:Nat):Nat:=256*(256*(256*d+c)+b)+a
def P2{a b c d:Nat}(e:a<256)(f:b<256)(h:c<256)(j:d<256):gT 6148914691236517205 (four a b c d)=four (gT 85 a) (gT 85 b) (gT 85 c) (gT 85 d):=by
 unfold four;rw[show 6148914691236517205=256*(256*(256*(256*1431655765+85)+85)+85)+85 from rfl,tV _ _ e,tV _ _ f,tV _ _ h];have:=tV 0 1431655765 j;rw[show 256*0+d=d by omega,show gT 1431655765 0=0 from by unfold gT;simp]at this;rw[this,Nat.mul_zero,X6]
def P3{a b c d:Nat}(e:a<256)(f:b<256)(h:c<256)(j:d<256):hQ 3689348814741910323 (four a b c d)=four (hQ 51 a) (hQ 51 b) (hQ 51 c) (hQ 51 d):=by
 unfold four;rw[show 3689348814741910323=256*(256*(256*(256*858993459+51)+51)+51)+51 from rfl,tW _ _ e,tW _ _ f,tW _ _ h];have:=tW 0 858993459 j;rw[show 256*0+d=d by omega,show hQ 858993459 0=0 from by unfold hQ;simp]at this;rw[this,Nat.mul_zero,X6]
def P4{a b c d:Nat}(e:a<69)(f:b<69/\b % 16<5)(h:c<69/\c % 16<5)(j:d<69/\d % 16<5):jy 1085102592571150095 (four a b c d)=four (jy 15 a) (jy 15 b) (jy 15 c) (jy 15 d):=by
 unfold four;rw[show 1085102592571150095=256*(256*(256*(256*252645135+15)+15)+15)+15 from rfl,tX _ _ e Ω,tX _ _ f.1 Ω,tX _ _ h.1 Ω];have:=tX 0 252645135 j.1 Ω;rw[show 256*0+d=d by omega,show jy 252645135 0=0 from by unfold jy;simp]at this;rw[this,Nat.mul_zero,X6]
def pI(x:Nat):Nat:=c3 (x % 256)+c3 (x / 256 % 256)+c3 (x / 65536 % 256)+c3 (x / 16777216)
def P5{x:Nat}(h:x<4294967296):pI x=0↔x=0:=by
 constructor
 .intro a;unfold pI at a;have h1:=(ni (x % 256) Ω).2.2.2.2 Ω;have e:=(ni (x / 256 % 256) Ω).2.2.2.2 Ω;have f:=(ni (x / 65536 % 256) Ω).2.2.2.2 Ω;have j:=(ni (x / 16777216) Ω).2.2.2.2 Ω;omega
 .rintro rfl;decide
def ED{x:Nat}(an:x<4294967296):ai x8 GB [.int .u64 (x:Int)] w λv w'=>v=Δ (pI x:Int)/\Ext w w':=by
 obtain⟨a,b,c,d,G,H,I,J,e,Q,R,S,U⟩:∃a b c d,a<256/\b<256/\c<256/\d<256/\x=four a b c d/\a=x % 256/\b=x / 256 % 256/\c=x / 65536 % 256/\d=x / 16777216:=
  ⟨x % 256,x / 256 % 256,x / 65536 % 256,x / 16777216,Ω,Ω,Ω,Ω,by unfold four;omega,rfl,rfl,rfl,rfl⟩
 obtain⟨W,X,a3,a4,_⟩:=ni a G;obtain⟨Y,Z,aa,ao,_⟩:=ni b H;obtain⟨ab,ac,ad,ap,_⟩:=ni c I;obtain⟨d1,d2,d3,d4,_⟩:=ni d J;have g1:=P2 G H I J;have L:=P3 W Y ab d1;have ae:=P4 X ⟨Z,aa⟩ ⟨ac,ad⟩ ⟨d2,d3⟩;have af:pI x=c3 a+c3 b+c3 c+c3 d:=by unfold pI;rw[<-Q,<-R,<-S,<-U]
 rw[<-e]at g1;have ag:gT 6148914691236517205 x<4294967296:=by rw[g1];unfold four;omega
 have M:hQ 3689348814741910323 (gT 6148914691236517205 x)<4294967296:=by rw[g1,L];unfold four;omega
 have A:jy 1085102592571150095 (hQ 3689348814741910323 (gT 6148914691236517205 x))=four (c3 a) (c3 b) (c3 c) (c3 d):=by rw[g1,L,ae];rfl
 have aj:four (c3 a) (c3 b) (c3 c) (c3 d)<4294967296:=by unfold four;omega
 refine az func70 ?_;have s:∀{t:r9}{cx cy:Bool}{K:x3->Prop}(p q:Nat),p+q<18446744073709551616->V x8 (aJ .add t cx cy (.int .u64 (p:Int)) (.int .u64 (q:Int))) w K=K (.int .u64 ((p+q:Nat):Int)):=λp q h=>by
  rw[aL,wrap_u64 Ω Ω];rfl
 have small:∀(p m:Nat),p &&& m<=p:=λp m=>Nat.and_le_left;rw[show(1:Int)=((1:Nat):Int)from rfl,k8 Ω,show(6148914691236517205:Int)=((6148914691236517205:Nat):Int)from rfl,u64_and Ω Ω,u64_and Ω Ω,s (x / 2 ^ 1 &&& 6148914691236517205) (x &&& 6148914691236517205) (by exact Nat.lt_of_le_of_lt (Nat.add_le_add (small _ _) (small _ _)) Ω)];obtain⟨y,B⟩:∃y,(x / 2 ^ 1 &&& 6148914691236517205)+(x &&& 6148914691236517205)=y:=⟨_,rfl⟩;rw[B];have B:gT 6148914691236517205 x=y:=B;rw[B]at ag M A;rw[show(2:Int)=((2:Nat):Int)from rfl,k8 Ω,show(3689348814741910323:Int)=((3689348814741910323:Nat):Int)from rfl,u64_and Ω Ω,u64_and Ω Ω,s (y / 2 ^ 2 &&& 3689348814741910323) (y &&& 3689348814741910323) (by exact Nat.lt_of_le_of_lt (Nat.add_le_add (small _ _) (small _ _)) Ω)];obtain⟨z,C⟩:∃z,(y / 2 ^ 2 &&& 3689348814741910323)+(y &&& 3689348814741910323)=z:=⟨_,rfl⟩;rw[C];have C:hQ 3689348814741910323 y=z:=C;rw[C]at M A;rw[show(4:Int)=((4:Nat):Int)from rfl,k8 Ω,s (z / 2 ^ 4) z Ω,show(1085102592571150095:Int)=((1085102592571150095:Nat):Int)from rfl,u64_and Ω Ω];have A:z / 2 ^ 4+z &&& 1085102592571150095=four (c3 a) (c3 b) (c3 c) (c3 d):=A;rw[A];obtain⟨j,E⟩:∃j,four (c3 a) (c3 b) (c3 c) (c3 d)=j:=⟨_,rfl⟩;rw[E]at aj ⊢;unfold four at E;rw[show(8:Int)=((8:Nat):Int)from rfl,k8 Ω,s j (j / 2 ^ 8) Ω];obtain⟨r,N⟩:∃r,j+j / 2 ^ 8=r:=⟨_,rfl⟩;rw[N];rw[show(16:Int)=((16:Nat):Int)from rfl,k8 Ω,s r (r / 2 ^ 16) Ω];obtain⟨f,O⟩:∃f,r+r / 2 ^ 16=f:=⟨_,rfl⟩;rw[O];rw[show(32:Int)=((32:Nat):Int)from rfl,k8 Ω,s f (f / 2 ^ 32) Ω,fp fC.u ah.u,wrap_i64 Ω Ω,show(127:Int)=((127:Nat):Int)from rfl,Dx Ω Ω];refine⟨?_,Ext.refl _⟩;rw[af,show 127=2 ^ 7-1 from rfl,Nat.and_two_pow_sub_one_eq_mod];have ak:j / 2 ^ 8=65536*c3 d+256*c3 c+c3 b:=Ω
 have al:r / 2 ^ 16=256*c3 d+(c3 c+c3 d):=Ω
 have P:f / 2 ^ 32=0:=Ω
 have aq:f=128*(131072*c3 d+512*(c3 c+c3 d)+2*(c3 b+c3 c+c3 d))+(c3 a+c3 b+c3 c+c3 d):=Ω
 have am:(f+f / 2 ^ 32) % 2 ^ 7=c3 a+c3 b+c3 c+c3 d:=by rw[P];clear E N O ak al P;omega
 rw[am]
def hB{b n:Nat}(a:k9 b n):ai x8 yX [iR b n] w λr w'=>(∃q:Int,r=Δ q/\(q=0↔b=0))/\Ext w w':=by
 have e:b<4294967296:=by
  have:=a.2;have:(2:Nat) ^ n<=2 ^ 32:=T9 Ω a.1;omega
 refine az func27 ?_;refine bk λg J s f h=>?_;rw[aH b5.p 0 h rfl];refine(ED e).mono ?_;rintro _ U _ ⟨rfl,j⟩;refine⟨⟨_,rfl,?_⟩,f.trans j⟩;rw[<-P5 e];omega
def oy(ap:List ay)(w:x4)(ab ad:Nat)(A R:af)(n:aK)(s:ao)(a:gf)(r:x3)(w':x4):Prop:=r=Δ (bj n.k s a).2/\cU ap w ab ad A R n (bj n.k s a).1 w'
section
variable{ap:List ay}{w:x4}{ab ad:Nat}{A R:af}{n:aK}{s:ao}{t:ay}{a:gf}
def cU.same(h:bF w ab ad A R n s t)(a:Laid w)(e:¬A 0)(f:eB ap t)(j:Ext w w'):cU ap w ab ad A R n s w':=(eT.start (m:=w.heap.size) (D:=λ_=>False) h a e f j (o6 _)).done (Ext.refl _)
def cU.before{J:x4}{s':ao}(a:Ext w J)(h:cU ap J ab ad A R n s' w'):cU ap w ab ad A R n s' w':=by
 obtain⟨h1,e,aI,bn,f,j⟩:=h;exact⟨iD a h1,e,aI,bn,(Grow.ext a).trans f,j⟩
def xz{j pos u:Int}{f:cK}{x:be}(h:ew s j pos v=σ (f,u,x)):∃p e u':Nat,j=p/\pos=e/\u=u'/\s.funs[p]?=σ f/\f.live≠0/\f.sc[e]?=σ (u':Int)/\s.vars[u']?=σ x/\v∈aw x/\∀q,f.sc[e]?=σ q->v∈bH s q:=by
 obtain⟨h1,z,A,B,a,C⟩:=nc h;obtain⟨E,r,F,w⟩:=j8 C;obtain⟨j,rfl⟩:=U9 h1;obtain⟨pos,rfl⟩:=U9 z;obtain⟨u,rfl⟩:=U9 E;refine⟨j,pos,u,rfl,rfl,rfl,A,B,a,r,w,λu' y=>?_⟩;have a:f.sc[pos]?=σ (u:Int):=a;rw[a]at y;cases y;unfold bH;rw[r];exact w
theorem P6(hk:a.kind=0)(h:bF w ab ad A R n s t)(z:Laid w)(E:¬A 0)(G:eB ap t):ai x8 GF [Γ ab,Δ a.i,Δ a.pos,Δ a.v,Δ a.c] w (oy ap w ab ad A R n s a):=by
 have K:=h.2.2.2.1;refine az func75 ?_;refine(Em h).mono ?_;rintro _ J _ ⟨y,u,e,rfl,q⟩;rw[bx,bz];have p:bj n.k s a=match ew s a.i a.pos a.v with
  |none=>(s,1)
  |some (f,u,x)=>if dg n.k a.c (mm n.k s f a.pos.toNat a.v)≠0 then(s,dg n.k a.c (mm n.k s f a.pos.toNat a.v))else(je s a.i.toNat f a.pos.toNat u.toNat x a.v (λg=>df n.k g a.c) λg=>cT n.k g a.c,0):=by unfold bj;rw[if_pos hk]<;>cases ew s a.i a.pos a.v<;>rfl
 rcases q with⟨rfl,f,x,q⟩|⟨rfl,q⟩
 rotate_left
 .rw[q]at p;rw[bN,aj];exact⟨λ_=>⟨by rw[p],by rw[p];exact cU.same h z E G y⟩,λh=>absurd Φ h⟩
 rw[q]at p;rw[bN,aj];refine⟨λh=>absurd rfl h,λ_=>?_⟩;obtain⟨j,pos,u,V,W,X,H,L,hu,M,Y,Z⟩:=xz q;have aa:=x6 H;simp only[V,W,X,r8]at p ⊢;refine(PY (j:=j) (pos:=pos) (h.ext y) (z.ext y) H L Z).mono ?_;rintro _ U _ ⟨rfl,N⟩;refine(tO (h.ext (y.trans N))).mono ?_;rintro _ ak _ ⟨ac,rfl⟩;have B:=(y.trans N).trans ac;refine dh (λw'=>cU ap w ab ad A R n (bj n.k s a).1 w') ?_ λax O=>?_
 .intro w' ae;refine⟨?_,ae⟩;rw[p];split
  .rfl
  .rename_i r;rw[X4.1 r]
 rw[bf,aj];refine⟨λr=>?_,λr=>O _ ?_⟩
 .obtain⟨C,hm⟩:=lz (λh=>h r);rw[dq (cs:=#[.func (.func nw) #[] #[],.func (.func nx) #[] #[]]) Ψ];have P:∀t∈ck s f.sc pos a.v,a.c<=bh f.ag f.cs t:=λt af=>((om _ _ _).1 hm).2 _ (l9.2 ⟨t,af,rfl⟩);have Q:=hr (v:=a.v.toNat) K M;refine(EC (t:=t) (F1:=nw) (F2:=nx) (tup:=λg=>df n.k g a.c) (un:=λg=>cT n.k g a.c) (h.ext B) (z.ext B) E G H L hu M Y (λtl S=>?_) ⟨nf Q C.1,λ{w A s t}I=>rg I Q C⟩).mono ?_
  .have T:=oo (t:=tl) K aa;exact⟨ne T ⟨C.1,P tl S⟩,λ{w A s t}I=>tP I T C (.inr (P tl S))⟩
  .rintro _ al _ ah;refine O _ ?_;rw[p,if_neg (λh=>h r)];exact ah.before B
 .rw[p,if_pos r];exact cU.same h z E G B
theorem P7(hk:a.kind=1)(h:bF w ab ad A R n s t)(E:Laid w)(G:¬A 0)(H:eB ap t):ai x8 GG [Γ ab,Δ a.i,Δ a.pos,Δ a.v,Δ a.c] w (oy ap w ab ad A R n s a):=by
 have I:=h.2.2.2.1;refine az func76 ?_;refine(Em h).mono ?_;rintro _ J _ ⟨y,u,e,rfl,q⟩;rw[bx,bz];have p:bj n.k s a=match ew s a.i a.pos a.v with
  |none=>(s,1)
  |some (f,u,x)=>if dg n.k a.c (x.un.getD a.v.toNat 0)≠0 then(s,dg n.k a.c (x.un.getD a.v.toNat 0))else(je s a.i.toNat f a.pos.toNat u.toNat x a.v (λg=>cT n.k g a.c) λg=>df n.k g a.c,0):=by unfold bj;rw[if_neg Ω,if_pos hk]<;>cases ew s a.i a.pos a.v<;>rfl
 rcases q with⟨rfl,f,x,q⟩|⟨rfl,q⟩
 rotate_left
 .rw[q]at p;rw[bN,aj];exact⟨λ_=>⟨by rw[p],by rw[p];exact cU.same h E G H y⟩,λh=>absurd Φ h⟩
 rw[q]at p;rw[bN,aj];refine⟨λh=>absurd rfl h,λ_=>?_⟩;obtain⟨j,pos,u,S,T,V,L,W,hu,z,M,ae⟩:=xz q;have X:=x6 L;simp only[S,T,V,r8]at p ⊢;refine(m3 (i:=(u:Int)) (v:=a.v) (h.ext y)).mono ?_;rintro _ U _ ⟨rfl,N⟩;have Y:fP s (u:Int).toNat a.v.toNat=x.un.getD a.v.toNat 0:=by
  unfold fP;rw[r8,z]
 rw[if_pos (ox I z M),Y,bx,bz];refine(tO (h.ext (y.trans N))).mono ?_;rintro _ af _ ⟨Z,rfl⟩;have B:=(y.trans N).trans Z;refine dh (λw'=>cU ap w ab ad A R n (bj n.k s a).1 w') ?_ λax O=>?_
 .intro w' aa;refine⟨?_,aa⟩;rw[p];split
  .rfl
  .rename_i r;rw[X4.1 r]
 rw[bf,aj];refine⟨λr=>?_,λr=>O _ ?_⟩
 .obtain⟨C,hm⟩:=lz (λh=>h r);rw[dq (cs:=#[.func (.func nx) #[] #[],.func (.func nw) #[] #[]]) Ψ];have P:=hr (v:=a.v.toNat) I z;refine(EC (t:=t) (F1:=nx) (F2:=nw) (tup:=λg=>cT n.k g a.c) (un:=λg=>df n.k g a.c) (h.ext B) (E.ext B) G H L W hu z M (λtl ag=>?_) ⟨ne P ⟨C.1,hm⟩,λ{w A s t}K=>tP K P C (.inr hm)⟩).mono ?_
  .have Q:=oo (t:=tl) I X;exact⟨nf Q C.1,λ{w A s t}K=>rg K Q C⟩
  .rintro _ ah _ ac;refine O _ ?_;rw[p,if_neg (λh=>h r)];exact ac.before B
 .rw[p,if_pos r];exact cU.same h E G H B
end
def gU(s:ao)(i:Int):Option be:=match(if 0<=i then s.vars[i.toNat]? else ν)with
 |some x=>if x.gone=0 then σ x else ν
 |none=>ν
def xA{s:ao}{i:Int}{x:be}(h:gU s i=σ x):0<=i/\s.vars[i.toNat]?=σ x/\x.gone=0:=by
 unfold gU at h;by_cases a:0<=i
 .rw[if_pos a]at h;cases e:s.vars[i.toNat]? with
  |none=>rw[e]at h;cases h
  |some y=>
   rw[e]at h;simp only at h;split at h
   .rename_i f;cases h;exact⟨a,rfl,f⟩
   .cases h
 .rw[if_neg a]at h;cases h
def EE{g:Int->Int}{un L:Λ}(h:L[j]?=σ v):dZ g un (L.take (j+1))=(dZ g un (L.take j)).set v.toNat (g ((dZ g un (L.take j)).getD v.toNat 0)):=by
 unfold dZ;rw[u9,h,l7,List.foldl_append];rfl
theorem EF{i:Nat}{v:Int}:∀(L M:Λ)(s:ao),gg s i v (L++M)=gg (gg s i v L) i v M
 |[],_,_=>rfl
 |w::L,M,s=>by
  rw[List.cons_append,gg,gg];exact EF L M _
def P8{s:ao}{i:Nat}{w:Int}{L:Λ}(h:L[j]?=σ w):gg s i v (L.take (j+1))=if w≠v then dM (gg s i v (L.take j)) i w.toNat else gg s i v (L.take j):=by
 rw[u9,h,l7,EF];rfl
def kc(m u:Int):Int:=if m<0\/u<m then u else m
theorem EG:∀(l:Λ)(m:Int),0<=m->(∀c∈l,0<=c)->l.foldl kc m=l.foldl min m
 |[],_,_,_=>rfl
 |c::l,m,hm,a=>by
  have f:=a c (.head _);have e:kc m c=min m c:=by unfold kc;split<;>omega
  rw[S0,S0,e];exact EG l _ Ω λc h=>a c (.tail _ h)
def P9{x:be}(h:∀v∈aw x,0<=x.un.getD v.toNat 0):((aw x).map λv=>x.un.getD v.toNat 0).foldl kc (-1)=gS x:=by
 unfold gS;have a:∀c∈(aw x).map (λv=>x.un.getD v.toNat 0),0<=c:=λc e=>by
  obtain⟨v,f,rfl⟩:=l9.1 e;exact h v f
 generalize (aw x).map (λv=>x.un.getD v.toNat 0)=l at a;cases l with
 |nil=>rfl
 |cons c l=>exact EG l c (a c (.head _)) λc h=>a c (.tail _ h)
section
variable{ap:List ay}{w:x4}{ab ad:Nat}{A R:af}{n:aK}{s:ao}{t:ay}{a:gf}
def EH{i:Int}(h:bF w ab ad A R n s t):ai x8 GZ [Γ ab,Δ i] w λr w'=>Ext w w'/\r=Δ (if(gU s i).isSome=true then 0 else 1):=by
 have p:=h.2.2.2.1;have O:=p.vars;refine az func101 ?_;rw[dc ds.u];simp only[Z6,aY];refine aW (λr J=>r= .bool (!(gU s i).isSome)/\Ext w J) ?_ ?_
 .rintro _ J ⟨rfl,C⟩;rw[cg];exact⟨λq=>⟨C,by rw[if_neg (by simpa using q)]⟩,λq=>⟨C,by rw[if_pos (by simpa using q)]⟩⟩
 intro ax E;refine(qZ (i:=i) h).mono ?_;rintro _ U _ ⟨rfl,y⟩;rw[cg];refine⟨λa=>E _ _ ⟨?_,y⟩,λa=>?_⟩
 .rw[U3,decide_eq_true_eq]at a;have K:gU s i=ν:=by
   unfold gU;rw[if_pos a.1];have B:=a.2;unfold er at B;cases f:s.vars[i.toNat]? with
   |none=>rfl
   |some x=>
    rw[f]at B;simp only;rw[if_neg λh=>by simp[h]at B]
  rw[K];rfl
 refine(iE (i:=i) (h.ext y)).mono ?_;rintro _ P _ ⟨⟨b,m,rfl,G⟩,L⟩;refine(vB (b:=b) (n:=m)).mono ?_;rintro _ Q _ ⟨rfl,M⟩;rw[bf];refine E _ _ ⟨?_,(y.trans L).trans M⟩;congr 1;by_cases j:0<=i/\i<n.sizes.length
 .obtain⟨x,f⟩:=aF (l:=s.vars) (i:=i.toNat) Ω;obtain⟨z,H⟩:=aF (l:=n.sizes) (i:=i.toNat) Ω;have S:=p.dQ.2.2 z (x6 H);have V:=(p.var _ x z f H).1;have hm:=(G.2.2 x j.1 f).1;have N:x.gone=0:=by
   rw[decide_eq_true j.1,T6]at a;unfold er at a;rw[f]at a;simpa using a
  have e:gU s i=σ x:=by
   unfold gU;rw[if_pos j.1,f];simp only;rw[if_pos N]
  rw[e,decide_eq_false Ω];rfl
 .obtain⟨rfl,rfl⟩:=G.2.1 j;have e:gU s i=ν:=by
   unfold gU;by_cases I:0<=i
   .rw[if_pos I,Y2 Ω]
   .rw[if_neg I]
  rw[e];rfl
def EI{u:Nat}{x:be}{F1 F2:Q2}{g z:Int->Int}(h:bF w ab ad A R n s t)(aC:Laid w)(a2:¬A 0)(a6:eB ap t)(a:s.vars[u]?=σ x)(h1:∀v∈aw x,(0<=g (x.un.getD v.toNat 0)/\g (x.un.getD v.toNat 0)<=n.k)/\∀{w:x4}{A:af}{s:ao}{t:ay},bF w ab ad A R n s t->ai x8 F1 [Γ ab,Δ (x.un.getD v.toNat 0),Δ c] w λr w'=>r=Δ (g (x.un.getD v.toNat 0))/\Ext w w')(aE:(0<=z s.zero/\z s.zero<=n.k)/\∀{w:x4}{A:af}{s':ao}{t:ay},bF w ab ad A R n s' t->ai x8 F2 [Γ ab,Δ s.zero,Δ c] w λr w'=>r=Δ (z s.zero)/\Ext w w'):
  ai x8 G1 [Γ ab,Δ (u:Int),Δ c,.func (.func F1) #[] #[],.func (.func F2) #[] #[]] w λ_ w'=>cU ap w ab ad A R n (hq s u x g z) w':=by
 have a7:=h.2.2.2.1;have W:=(x5.1 a).1;refine ik func103 ?_;refine bk λg1 J bD aF f=>?_;refine bk λa8 U bE X B=>?_;refine bk λba bG bH I C=>?_;refine bk λbb p bI K L=>?_;have f:ac p g1 ds [Γ ab]:=((ac.ext f X).ext I).ext K;have B:ac p a8 ah [Δ (u:Int)]:=(ac.ext B I).ext K;have C:ac p ba am [Δ c]:=ac.ext C K;have L:ac p bb IT [.func (.func F1) #[] #[]]:=L;have M:=((aF.trans X).trans I).trans K;have bJ:=aF.size;have bK:=X.size;have z3:=I.size;have bL:=M.size;have N:=f.lt;have aG:=B.lt;have aH:=C.lt;have bc:=L.lt;rw[aD (v:=Γ ab) Ψ (f.Qz rfl),aD (v:=Δ (u:Int)) Ψ (B.Qz rfl)];refine(iE (i:=(u:Int)) (h.ext M)).mono ?_;rintro _ bM _ ⟨⟨b,bd,rfl,aJ⟩,aK⟩;refine(l6 (b:=b) (n:=bd)).mono ?_;rintro _ O _ ⟨bf,aL,rfl,bN,aM⟩;have aN:=j3 aJ Ω (show s.vars[(u:Int).toNat]?=σ x by rw[r8];exact a);have E:=aK.trans bf;have z5:=aK.size;have z46:=E.size;have bO:=aM.lt;have aO:=q8 x;have bg:ev s u x (dZ g x.un ((aw x).take 0))=s:=by
  unfold ev;show{s with vars:=s.vars.set u x}=s;have:s.vars.set u x=s.vars:=by
   apply Y9;intro i;by_cases e:u=i
   .subst e;rw[b8 W,a]
   .rw[Y4 e]
  rw[this]
 refine kj.old ⟨_,false,jk,#[Γ aL],_,_,_,_,λj w'=>eT ap w ab ad A R n w.heap.size (λr=>O.heap.size<=r) (ev s u x (dZ g x.un ((aw x).take j))) w'/\ae (λr=>r<w.heap.size\/O.heap.size<=r) O w',λ_ _ _=>False,rfl,(l5 (g:=aL) aJ.1).s,?_,
  λ_ _ a h=>⟨h.1.ext a,h.2.ext a⟩,λ_ _ _ a h=>⟨h.1.ext a,h.2.trans (a.aa _)⟩,λ_ _ _ _ _ h=>h,⟨aM,aC.ext (M.trans E)⟩,?_,?_,?_,λ_ _ h=>h.elim,λ_ _ _ h=>h.elim⟩
 .rintro _ _ _ _ ⟨_,_,_,_,rfl⟩;rfl
 .refine⟨?_,ae.refl _ _⟩;rw[bg];exact eT.start h aC a2 a6 (M.trans E) (o6 _)
 .rintro _ j _ bh ⟨bi,bP⟩ ⟨bQ,rfl,v,bj,bl⟩ ⟨P,G⟩;cases bl;intro bR Q _ _;have Y:(aw x)[j]?=σ (v:Int):=by rw[<-aN,v8,bj];rfl
  have aP:=x6 Y;have aV:∀{H:x4}{g:Nat}{e:r9}{cs:List x3},Ext bh H->w.heap.size<=g->g<p.heap.size->ac p g e cs->ac H g e cs:=λa aQ aR Z=>((Z.ext E).aa G Ω).ext a;obtain⟨bS,bT,ag,aS,aj⟩:=P.open;have aT:eR n (u:Int) (v:Int):=ox a7 a aP;have bm:∀y∈aw x,0<=y/\y<x.un.length:=λy ak=>(fh.1 ak).1;have al:=tH (g:=g) ((aw x).take j) x.un (v:Int) (aO.sublist (List.take_sublist _ _)) (λy ak=>bm y (U6 ak)) Ω;rw[if_neg (xu aO Y)]at al;have bn:fP (ev s u x (dZ g x.un ((aw x).take j))) (u:Int).toNat (v:Int).toNat=x.un.getD (v:Int).toNat 0:=by
   unfold fP ev;rw[r8,b8 W];exact al
  rw[aD (v:=Γ ab) Ψ ((aV Q Ω N f).Qz rfl),aD (v:=Δ (u:Int)) Ψ ((aV Q Ω aG B).Qz rfl)];refine(m3 (i:=(u:Int)) (v:=(v:Int)) (ag.ext Q)).mono ?_;rintro _ bU _ ⟨rfl,bo⟩;rw[if_pos aT,bn,bx,bz];intro bp bq _ _;have q:=(Q.trans bo).trans bq;rw[aD (v:=Γ ab) Ψ ((aV q Ω N f).Qz rfl),aD (v:=Δ (u:Int)) Ψ ((aV q Ω aG B).Qz rfl),
   aD (v:=.func (.func F1) #[] #[]) Ψ ((aV q Ω bc L).Qz rfl),aD (v:=Γ ab) Ψ ((aV q Ω N f).Qz rfl),aD (v:=Δ c) Ψ ((aV q Ω aH C).Qz rfl)]
  show ai x8 F1 [Γ ab,Δ (x.un.getD (v:Int).toNat 0),Δ c] bp _;obtain⟨br,bt⟩:=h1 v aP;refine(bt (ag.ext q)).mono ?_;rintro _ bV _ ⟨rfl,aU⟩;have an:=q.trans aU;refine⟨.inl aU,(DJ (i:=(u:Int)) (v:=(v:Int)) (ag.ext an) aS.room).mono ?_⟩;rintro r bW _ ⟨_,_,aq⟩;obtain⟨_,au,aI,bu,bw,av,S⟩:=aq aT br;have e:j1 (ev s u x (dZ g x.un ((aw x).take j))) (u:Int).toNat (v:Int).toNat (g (x.un.getD (v:Int).toNat 0))=ev s u x (dZ g x.un ((aw x).take (j+1))):=by
   rw[EE Y,al];unfold j1 ev;rw[r8,b8 W];simp only[List.set_set]
  rw[e]at S;have bX:=G.size;obtain⟨aW,aX,bY⟩:=aj (D':=λr=>O.heap.size<=r) (iD an au) ((Grow.ext an).trans av) S aS.set (λr h=>h) λr aQ aR=>Ω
  exact⟨⟨bi.aa aX Ω,aW.2.1.1⟩,⟨aW,G.trans aX⟩,λh=>by cases h⟩
 .rintro k bA rfl ⟨P,G⟩;rw[j4 (by rw[<-aN,u7];exact o6 _)]at P;obtain⟨bZ,b0,ax,aY,aj⟩:=P.open;have aV:∀{H:x4}{g:Nat}{e:r9}{cs:List x3},Ext bA H->w.heap.size<=g->g<p.heap.size->ac p g e cs->ac H g e cs:=λa aQ aR Z=>((Z.ext E).aa G Ω).ext a;intro b1 V _ _;have az:=aV V Ω N f;rw[aD (v:=Γ ab) Ψ (az.Qz rfl),aD (v:=Γ ab) Ψ (az.Qz rfl),aD (v:=Γ ab) Ψ (az.Qz rfl),aD (v:=Δ c) Ψ ((aV V Ω aH C).Qz rfl)];refine(pA (ax.ext V)).mono ?_;rintro _ bB _ ⟨rfl,aA⟩;have aZ:=V.trans aA;refine⟨.inl aA,?_⟩;show ai x8 F2 [Γ ab,Δ s.zero,Δ c] bB _;refine(aE.2 (ax.ext aZ)).mono ?_;rintro _ b2 _ ⟨rfl,a1⟩;have aB:=aZ.trans a1;refine⟨.inl (aA.trans a1),(OE (ax.ext aB) aY.room).mono ?_⟩;rintro r b3 _ ⟨_,aq⟩;obtain⟨_,au,aI,bu,bw,av,S⟩:=aq aE.1;intro b4 bC _;exact(aj (D':=λ_=>True) (iD aB au) ((Grow.ext aB).trans av) S aY.set (λ_ _=>trivial) λ_ _ _=>trivial).1.done bC
end
section
variable{w:x4}{ab ad ak:Nat}{A R:af}{A9:Nat->af}{aA:af}{n:aK}{s u:ao}{t:ay}{h:List ay}{cs:List x3}{a:gf}
def Qa(hk:a.kind<2):bj n.k u a=match ew u a.i a.pos a.v with
  |none=>(u,1)
  |some (f,v,x)=>if dg n.k a.c (if a.kind=1 then x.un.getD a.v.toNat 0 else mm n.k u f a.pos.toNat a.v)≠0 then(u,dg n.k a.c (if a.kind=1 then x.un.getD a.v.toNat 0 else mm n.k u f a.pos.toNat a.v))
   else(je u a.i.toNat f a.pos.toNat v.toNat x a.v (λg=>if a.kind=0 then df n.k g a.c else cT n.k g a.c) λg=>if a.kind=0 then cT n.k g a.c else df n.k g a.c,0):=by
 unfold bj;by_cases e:a.kind=0
 .rw[if_pos e];simp only[e];cases ew u a.i a.pos a.v<;>rfl
 .have h1:a.kind=1:=Ω
  rw[if_neg e,if_pos h1];simp only[h1];cases ew u a.i a.pos a.v<;>rfl
def getD_some{i:Nat}(h:i<l.length):l[i]?=σ (l.getD i 0):=by
 rw[u4,x7 h];rfl
def Qb(p:b3 w ab ad ak A R A9 aA n s u t h cs)(G:bi n.k n.sizes u)(bR:cz u)(hk:a.kind<2):ai x8 uU [Γ ak,Δ (a.kind:Int),Δ a.i,Δ a.pos,Δ a.v,Δ a.c] w λr w'=>r=Δ (bj n.k u a).2/\cm w ab ad ak A R A9 aA n s t h (bj n.k u a).1 w':=by
 have C:=Qa (n:=n) (u:=u) hk;have c6:=G.vars;have bT:=G.fx;refine az func74 ?_;have bV:cs[0]?=σ (Δ n.k):=by obtain⟨_,_,_,_,_,_,rfl,_⟩:=p.oj;rfl
 rw[aP aC.p 0 p.box bV,aR,aj];refine⟨λ_=>?_,λh=>Ω⟩;rw[bY];refine p.look.load λei bW=>?_;refine(PP bW G bR).mono ?_;rintro _ J _ ⟨aE,rfl⟩;cases aV:ew u a.i a.pos a.v with
 |none=>
  rw[aV]at C;simp only;rw[bx,bz,bJ,W3,bQ];exact⟨by rw[C],by rw[C];exact cm.same p aE⟩
 |some q=>
 obtain⟨f,N,x⟩:=q;rw[aV]at C;simp only;rw[bx,bz,bJ,X3,aY];obtain⟨j,pos,N,bX,bZ,b0,Q,c7,hu,M,b1,aZ⟩:=xz aV;have aH:=x6 Q;simp only[bX,bZ,b0,r8]at C ⊢;have b4:=(x5.1 Q).1;have bo:=(x5.1 M).1;have b5:=(x5.1 hu).1;obtain⟨b6,c8⟩:=kG G aH;have b7:=Ek G aH aZ;have b9:=(fh.1 b1).1;obtain⟨v,S⟩:=U9 b9.1;have bp:=hr (v:=a.v.toNat) G M;have aI:=p.ext aE;have bq:∀{U:x4}{eN:ao}{br:List x3}{bt:Nat->af}{f2:cK},b3 U ab ad ak A R bt aA n s eN t h br->eN.funs[j]?=σ f2->∃W cap X a1 y,br[6]?=σ (.slice (σ ⟨W,0,ν⟩) eN.funs.length cap)/\j<eN.funs.length/\U.cell? ⟨W,0+j*4+0+0,ν⟩=σ X/\U.cell? ⟨W,0+j*4+0+2,ν⟩=σ y/\aG .i64 U X f2.sc/\aG .i64 U y f2.cs/\
   ∀{w':x4}{m:Nat}{c:Int}{K:Unit->x4->Prop},Ext U w'->m<f2.cs.length->(∀bu,cm U ab ad ak A R bt aA n s t h (dG eN j f2 (f2.cs.set m c)) bu->K () bu)->V x8 (j9 aq y (Δ (m:Int))) w' λa=>aB x8 (o9 am a (Δ c)) w' K:=λca aJ=>by
  obtain⟨W,cap,X,a1,y,cb,bw,cc,cd,Y⟩:=Eu ca aJ;exact⟨W,cap,X,a1,y,cb,(x5.1 aJ).1,by rw[X6];exact bw 0 _ rfl,by rw[X6];exact bw 2 _ rfl,cc,cd,Y⟩
 obtain⟨W,c9,X,a1,da,ce,ch,ci,_,cj,_,_⟩:=bq aI Q;rw[aP aC.p 6 aI.box ce,eK dp.u cW.i ch λ_=>rfl,aS cW.p rfl,aS aX.p rfl,aD (v:=X) (o:=0+j*4+0+0) Ψ ci,bb an.u ah.i Ψ cj hu];generalize bC:(if a.kind=1 then x.un.getD a.v.toNat 0 else mm n.k u f pos a.v)=most at C;refine aW (λr U=>r=Δ most/\Ext w U) ?_ λax bD=>?_
 rotate_left
 .rw[bf,aj];refine⟨λh1=>?_,λh1=>bD _ _ ⟨by rw[<-bC,if_neg Ω],aE⟩⟩;have h1:a.kind=1:=Ω
  obtain⟨a2,bE,y,a6,a7,aK,_⟩:=ri aI M;rw[aP aC.p 5 aI.box a6,eK cR.u aq.i bo λ_=>rfl,aD (v:=y) (o:=0+N*1) Ψ (by rw[X6,U4];exact a7),S,bb aq.u am.i Ψ aK (getD_some Ω)];refine bD _ _ ⟨?_,aE⟩;rw[<-bC,if_pos h1,S,r8]
 rintro _ U ⟨rfl,cl⟩;refine zQ.mono ?_;rintro _ db _ ⟨rfl,cn⟩;have Z:=cl.trans cn;have bF:cA a.c n.k↔0<=a.c/\a.c<=n.k:=⟨λh=>h.2,λaJ=>⟨bT,aJ⟩⟩;rw[bJ,cg];refine⟨λac=>?_,λac=>?_⟩
 .have cp:¬cA a.c n.k:=by simpa using ac
  have E:dg n.k a.c most=3:=by unfold dg;rw[if_pos λh=>cp (bF.2 h)]
  rw[if_pos (by rw[E];decide),E]at C;exact⟨by rw[C],by rw[C];exact cm.same p Z⟩
 have bG:=bF.1 (show cA a.c n.k by simpa using ac);rw[bS,aj];refine⟨λcq=>?_,λcr=>?_⟩
 .have E:dg n.k a.c most=7:=by unfold dg;rw[if_neg (λh=>h bG),if_pos cq]
  rw[if_pos (by rw[E];decide),E]at C;exact⟨by rw[C],by rw[C];exact cm.same p Z⟩
 have E:dg n.k a.c most=0:=by unfold dg;rw[if_neg (λh=>h bG),if_neg cr]
 rw[if_neg (λh=>h E)]at C;have ct:=p.ext Z;rw[bY];refine ct.look.load λdc cu=>?_;refine(Et cu G Q b5 aZ).mono ?_;rintro aO a8 _ ⟨cw,ba,cB⟩;have bH:=Z.trans cw;rw[aU an.u ba];have bI:(lB u f pos a.v).length=(ck u f.sc pos a.v).length:=by unfold lB;rw[u7]
 rw[bI];obtain⟨tup,bc⟩:∃tup:Int->Int,tup=λg=>if a.kind=0 then df n.k g a.c else cT n.k g a.c:=⟨_,rfl⟩;obtain⟨un,bd⟩:∃un:Int->Int,un=λg=>if a.kind=0 then cT n.k g a.c else df n.k g a.c:=⟨_,rfl⟩;rw[<-bc,<-bd]at C;have cC:=p.olds.ext bH;have dd:=p.box.lt;have de:=Z.size;have cD:∀{w':x4},ae (λr=>(∃q,A9 q r/\r<w.heap.size)\/r=ak) a8 w'->aG .i64 w' aO (lB u f pos a.v):=λcE=>h3 ba cE λr E b n c e ac=>by
  have:=cB r ⟨b,n,c,e,ac⟩;rcases E with⟨q,E⟩|E
  .have:=E.2;omega
  .omega
 refine bU.range (ck u f.sc pos a.v).length (λq w'=>cm a8 ab ad ak A R (λq r=>A9 q r/\r<w.heap.size) aA n s t h (dG u j f (dF tup ((ck u f.sc pos a.v).take q) f.ag f.cs)) w') (by rw[<-bI];exact ba.le) ?_ ?_ ?_
 .rw[List.take_zero,EB G Q];exact cm.same cC (Ext.refl _)
 .rintro q al cF cG aM cH;obtain⟨tl,be⟩:=aF (l:=ck u f.sc pos a.v) cG;obtain⟨m,hm⟩:=tK G aH aZ (x6 be);have cI:(lB u f pos a.v)[q]?=σ (m:Int):=by
   unfold lB;rw[v8,be];unfold ov;rw[Z7,hm];rfl
  obtain⟨bK,bL⟩:=El (g:=tup) G Q b7 be hm;have cJ:=(x5.1 (mM b6 hm)).1;have di:m<f.cs.length:=by rw[r8]at cJ;omega
  obtain⟨Y,cL,bM,P,bg⟩:=id aM;obtain⟨bB,bN⟩:∃bB,bB=dF tup ((ck u f.sc pos a.v).take q) f.ag f.cs:=⟨_,rfl⟩;have dj:bB.length=f.cs.length:=by rw[bN,oe _ _ _ _ Ω]
  rw[<-bN]at P bK bL;have bO:(dG u j f bB).funs[j]?=σ {f with cs:=bB}:=b8 b4;obtain⟨aN,cM,dk,dl,aQ,cN,cO,_,bk,_,cP,cQ⟩:=bq P bO;have cS:bB[m]?=σ (bh f.ag f.cs tl):=by
   rw[getD_some Ω,<-bK];unfold bh;rw[hm];simp
  have dm:=oo (t:=tl) G aH;have dn:bM[0]?=σ (Δ n.k):=by obtain⟨_,_,_,_,_,_,rfl,_⟩:=P.oj;rfl
  have cU:=cD Y;refine bA Ω ?_;refine dh (λH=>cm a8 ab ad ak A R (λq r=>A9 q r/\r<w.heap.size) aA n s t h (dG u j f (dF tup ((ck u f.sc pos a.v).take (q+1)) f.ag f.cs)) H) (λH O=>by rw[aL];exact cH _ O) λcV cX=>?_;have ap:∀{I:x4},Ext al I->V x8 (j9 aq aQ (Δ (m:Int))) I λa'=>aB x8 (o9 am a' (Δ (tup (bh f.ag f.cs tl)))) I λ(_:Unit)H=>cV H:=λbl=>by
   refine cQ bl (by show m<bB.length;omega) λH O=>cX _ (cm.comp Y bg ?_);have cY:dG (dG u j f bB) j {f with cs:=bB} (bB.set m (tup (bh f.ag f.cs tl)))=j2 (dG u j f bB) j m (tup (bh f.ag f.cs tl)):=by unfold j2;rw[bO];rfl
   rw[cY,bL]at O;exact O
  have row:∀{z:x4}{K:x3->x3->x3->x3->x3->x3->Prop},Ext al z->K (Γ ak) (.pointer (σ ⟨ak,0+6,ν⟩)) (.slice (σ ⟨aN,0,ν⟩) (dG u j f bB).funs.length cM) (.pointer (σ ⟨aN,0+j*4,ν⟩)) (.pointer (σ ⟨aN,0+j*4+0,ν⟩)) (.pointer (σ ⟨aN,0+j*4+0+2,ν⟩))->
    V x8 (bP (Γ ak)) z λau=>V x8 (u6 aC au 6) z λav=>V x8 (u5 dp av) z λaw=>V x8 (j9 dp aw (Δ (j:Int))) z λay=>V x8 (u6 cW ay 0) z λaT=>V x8 (u6 aX aT 2) z λcZ=>K au av aw ay aT cZ:=λM bm=>by
   rw[aP aC.p 6 (P.box.ext M) cN,eK dp.u cW.i cO λ_=>rfl,aS cW.p rfl,aS aX.p rfl];exact bm
  rw[bb an.u ah.i Ψ cU cI];refine row (Ext.refl _) ?_;rw[aD (v:=aQ) (o:=0+j*4+0+2) Ψ bk,bb aq.u am.i Ψ cP cS,bf,aj];refine⟨λbn=>?_,λbn=>?_⟩
  .intro z B _ _;refine row B ?_;rw[aD (v:=aQ) (o:=0+j*4+0+2) Ψ (iM B bk)];refine(tS Ω Ω).mono ?_;rintro _ I _ ⟨rfl,L⟩;refine⟨.inl L,?_⟩;have:=ap (B.trans L);rw[bc]at this;simp only[if_pos (show a.kind=0 by omega)]at this;exact this
  .intro z B _ _;refine row B ?_;rw[aD (v:=aQ) (o:=0+j*4+0+2) Ψ (iM B bk)];refine(mb Ω Ω).mono ?_;rintro _ I _ ⟨rfl,L⟩;refine⟨.inl L,?_⟩;have:=ap (B.trans L);rw[bc]at this;simp only[if_neg (show¬a.kind=0 by omega)]at this;exact this
 .rintro al cF aM;rw[o8]at aM;refine b2 Ω ?_;obtain⟨Y,cL,bM,P,bg⟩:=id aM;have c0:(dG u j f (dF tup (ck u f.sc pos a.v) f.ag f.cs)).vars[N]?=σ x:=M;obtain⟨a2,bE,y,a6,a7,aK,c1⟩:=ri P c0;refine dh (λH=>cm w ab ad ak A R A9 aA n s t h (je u j f pos N x a.v tup un) H) (λH O=>⟨by rw[C],by rw[C];exact O⟩) λc2 c3=>?_;have c4:N<(dG u j f (dF tup (ck u f.sc pos a.v) f.ag f.cs)).vars.length:=bo;have row:∀{z:x4}{K:x3->x3->x3->x3->x3->Prop},Ext al z->K (Γ ak) (.pointer (σ ⟨ak,0+5,ν⟩)) (.slice (σ ⟨a2,0,ν⟩) (dG u j f (dF tup (ck u f.sc pos a.v) f.ag f.cs)).vars.length bE) (.pointer (σ ⟨a2,0+N*1,ν⟩)) y->
    V x8 (bP (Γ ak)) z λau=>V x8 (u6 aC au 5) z λav=>V x8 (u5 cR av) z λaw=>V x8 (j9 cR aw (Δ (N:Int))) z λay=>V x8 (u5 aq ay) z λaT=>K au av aw ay aT:=λM bm=>by
   rw[aP aC.p 5 (P.box.ext M) a6,eK cR.u aq.i c4 λ_=>rfl,aD (v:=y) (o:=0+N*1) Ψ (by rw[X6,U4];exact iM M a7)];exact bm
  have ap:∀{I:x4},Ext al I->V x8 (j9 aq y (Δ (v:Int))) I λa'=>aB x8 (o9 am a' (Δ (un (x.un.getD v 0)))) I λ(_:Unit)H=>c2 H:=λbl=>by
   refine c1 bl Ω λH O=>c3 _ ?_;have c5:=cm.comp Y bg O.xx;have:=cm.comp (A9:=A9) (w:=w) (bH.aa _) (λq r E=>.inl ⟨q,E.1⟩) c5;unfold je;rw[show a.v.toNat=v by omega];exact this
  rw[bf,aj];refine⟨λbn=>?_,λbn=>?_⟩
  .intro z B _ _;refine row B (row B ?_);rw[S,bb aq.u am.i Ψ (aK.ext B) (getD_some Ω)];rw[S,r8]at bp;refine(mb Ω Ω).mono ?_;rintro _ I _ ⟨rfl,L⟩;refine⟨.inl L,?_⟩;have:=ap (B.trans L);rw[bd]at this;simp only[if_pos (show a.kind=0 by omega)]at this;exact this
  .intro z B _ _;refine row B (row B ?_);rw[S,bb aq.u am.i Ψ (aK.ext B) (getD_some Ω)];rw[S,r8]at bp;refine(tS Ω Ω).mono ?_;rintro _ I _ ⟨rfl,L⟩;refine⟨.inl L,?_⟩;have:=ap (B.trans L);rw[bd]at this;simp only[if_neg (show¬a.kind=0 by omega)]at this;exact this
end
end Go.Proofs.YtikkpokkcdocoaaGreatDoor
