/- own texts, made small by a tool (wip/ holds them as they were written): no statement of the seat. -/
import Derived.Test.YtnhkbjhpbbobaaaGreatDoorYd
set_option linter.defProp false
set_option linter.unusedVariables false
set_option linter.unusedSimpArgs false
set_option linter.unnecessarySimpa false
open Array renaming getElem?_eq_some_iff→Z0
open Bool renaming false→v6,true→v2,not_true→X3,not_false→W6,or_eq_false_iff→U1,eq_iff_iff→U6,and_eq_true→U9,true_and→Q4
open Decidable renaming not_not→X5
open Go renaming Value→x4,World→x6,TypeId→o5,IntKind→j4,Program→V5,FuncId→Q6
open Go.Addr renaming add_mid→T9
open Go.Builtin renaming append_→Z9
open Go.Instr renaming loadAt→u6,fieldAt→u7,storeAt→j0,indexAt→b8,buildSlice→X2,sliceAt→U4
open Go.Proofs.Tryz renaming prog→v8
open Int renaming toNat_natCast→u9,eq_ofNat_of_zero_le→V3,le_refl→S9
open List renaming getElem?_eq_some_iff→x5,mem_of_getElem?→x7,getElem?_eq_getElem→x8,getElem?_map→u4,getD_eq_getElem?_getD→u5,length_map→r8,take_add_one→r9,replicate→o6,length_set→o7,length_take→o8,take_length→o9,length_append→n9,getElem?_set_self→l9,mem_map→j5,mem_append→j9,mem_singleton→c9,take_of_length_le→b9,eq_nil_of_length_eq_zero→Z2,map_append→Z4,getElem?_set_ne→Z6,getElem?_append_right→Z7,length_cons→Y1,getElem?_append_left→Y2,getElem?_eq_none→Y5,getElem?_take_of_lt→Y6,getElem?_set→Y7,ext_getElem?→X0,mem_iff_getElem?→X8,range→X9,drop_eq_getElem_cons→W3,mem_or_eq_of_mem_set→W8,mem_cons→V4,length_eq_one_iff→V6,foldl_cons→V7,flatMap_cons→V8,append_nil→U2,pairwise_iff_getElem→U5,mem_of_mem_take→T1,map_set→T2,map_cons→T3,length_singleton→T5,foldl_append→S2,map_map→S5,mem_filter→S8,getElem?_drop→R3,sum_cons→R6,length→Q2,getElem_mem→P6
open Nat renaming le_refl→o4,le_trans→X1,mul_le_mul_right→X4,zero_add→X6,sub_self→V0,add_mul→U7,mul_one→T0,lt_of_lt_of_le→S3,pow_le_pow_right→S4,add_assoc→Q3,add_sub_cancel_left→Q5
open Ne renaming symm→R7
open Option renaming toList_some→j6,isNone_some→Y0,map_some→Y3,map_eq_some_iff→Y9,getD_some→W7,map→U8,isSome_some→R2,isSome_none→Q1
open Option.some renaming inj→Z5
set_option maxHeartbeats 16000000
open Option renaming some→σ,none→ν
variable{a aj cs l sc co t tl un:Λ}{B ga gt gtb gy j pos:Nat}{c k v:Int}{L:List (Λ)}{U e:o5}{aS z:x4}{I w:x6}{K:x4->x6->Prop}{D:Nat->Prop}
namespace Go.Proofs.YtnhkbjhpbbobaaaGreatDoor
open Go Go.Vc Go.RowKit Go.Proofs Go.Proofs.Tryz
set_option maxRecDepth 100000
def jr(s:am)(pos:Nat)(v:Int):Λ->Nat->List (Λ)
 |[],_=>[]
 |u::sc,p=>(if p=pos then[v]else ba s u)::jr s pos v sc (p+1)
def bX(s:am)(sc:Λ)(pos:Nat)(v:Int):List (Λ):=iz (jr s pos v sc 0)
theorem ys{s:am}{sc:Λ}{pos:Nat}{v:Int}:∀(m p:Nat)(tl:Λ),sc.length=p+m->tl.length=sc.length->(p<=pos->tl[pos]?=σ v)->
  pF s sc pos m p tl=(iz (jr s pos v (sc.drop p) p)).map (tl.take p++ ·)
 |0,p,tl,h1,a,f=>by
  rw[List.drop_eq_nil_of_le Ω,b9 Ω];unfold pF jr iz;rw[List.map_singleton,U2]
 |m+1,p,tl,h1,a,f=>by
  have ac:p<sc.length:=Ω
  obtain⟨u,hu⟩:=aD (l:=sc) ac;have w:sc.drop p=u::sc.drop (p+1):=by rw[W3 ac,(x5.1 hu).2]
  have y:sc.getD p 0=u:=by rw[u5,hu];rfl
  rw[w];unfold pF jr;rw[iz];by_cases j:p=pos
  .have q:=f Ω;rw[ms Ω,ms j,List.flatMap_singleton,ys m (p+1) tl Ω a (λ_=>q),S5];refine List.map_congr_left λr _=>?_;rw[r9,j,q];simp
  .rw[rc Ω,rc j,y,List.map_flatMap];congr 1;funext x;have e:(tl.set p x).take (p+1)=tl.take p++[x]:=by rw[r9,l9 Ω,List.take_set_of_le (o4 _)];rfl
   rw[ys m (p+1) (tl.set p x) Ω (by rw[o7];exact a) (λh=>by rw[Z6 Ω];exact f Ω),S5,e];refine List.map_congr_left λr _=>?_;simp
def QR{s:am}(h:pos<sc.length):pF s sc pos sc.length 0 ((o6 sc.length 0).set pos v)=bX s sc pos v:=by
 rw[ys sc.length 0 _ Ω Ξ (λ_=>by rw[l9 (by simpa using h)])];unfold bX;simp
def pG(s:am)(pos:Nat)(v:Int):Λ->Nat->List (Int->Bool)
 |[],_=>[]
 |u::sc,p=>(λx=>(decide (p=pos->x=v))&&decide (x∈ba s u))::pG s pos v sc (p+1)
def QS(h:0<=v/\v<k):(iA k).filter (λx=>decide (x=v))=[v]:=by
 have f:(iA k).Nodup:=by
  unfold iA;exact List.Pairwise.map _ (λa b s=>Ω) List.nodup_range
 have hm:v∈iA k:=sn.2 h;generalize iA k=l at f hm;induction l with
 |nil=>cases hm
 |cons a l p=>
  have j:=List.nodup_cons.1 f;by_cases e:a=v
  .subst e;rw[List.filter_cons_of_pos Ξ,List.filter_eq_nil_iff.2 λx q=>by simp;intro r;exact j.1 (r▸q)]
  .rw[List.filter_cons_of_neg (by simpa using e)];exact p j.2 ((V4.1 hm).resolve_left (R7 e))
section
variable{k:Int}{co:Λ}{s:am}{v:Int}{pos:Nat}
def QT{u:Int}(a:bc k co s)(h:0<=u/\u<co.length):(iA (co.getD u.toNat 0)).filter (λx=>decide (x∈ba s u))=ba s u:=by
 have w:=a.d6;obtain⟨x,j⟩:=aD (l:=s.d6) (i:=u.toNat) Ω;obtain⟨z,f⟩:=aD (l:=co) (i:=u.toNat) Ω;have h1:=(a.var _ x z j f).1;have e:ba s u=aC x:=by unfold ba;rw[j]
 have p:co.getD u.toNat 0=z:=by rw[u5,f];rfl
 have A:=a.ev.2.2 z (x7 f);have q:aC x=(iA z).filter λv=>!dropped x.mask v:=by unfold aC iA;rw[h1]
 rw[e,p,q];refine List.filter_congr λy r=>?_;simp[S8,r]
theorem Fh(j:bc k co s):∀(sc:Λ)(p:Nat),(∀u∈sc,0<=u/\u<co.length)->(∀u,p<=pos->sc[pos-p]?=σ u->v∈ba s u)->
  jr s pos v sc p=(((bN co sc).map iA).zip (pG s pos v sc p)).map λq=>q.1.filter q.2
 |[],p,_,_=>rfl
 |u::sc,p,hu,r=>by
  have w:=Fh j sc (p+1) (λu h=>hu u (.tail _ h)) λu' ac h=>r u' Ω (by rw[show pos-p=(pos-(p+1))+1 by omega];exact h);have y:=hu u (.head _);have a:=QT j y;show(if p=pos then[v]else ba s u)::jr s pos v sc (p+1)=(iA (co.getD u.toNat 0)).filter (λx=>decide (p=pos->x=v)&&decide (x∈ba s u))::((((bN co sc).map iA).zip (pG s pos v sc (p+1))).map λq=>q.1.filter q.2);rw[<-w];congr 1;by_cases ac:p=pos
  .rw[ms ac];have f:v∈ba s u:=r u Ω (by rw[ac,V0];rfl);have z:v∈iA (co.getD u.toNat 0):=by rw[<-a]at f;exact(S8.1 f).1
   rw[<-QS (sn.1 z)];refine List.filter_congr λx _=>?_;by_cases e:x=v
   .subst e;simp[f]
   .simp[e,ac]
  .rw[rc ac,<-a];refine(List.filter_congr λx A=>?_).symm;rw[a];simp[ac]
theorem Fi:∀(sc:Λ)(p:Nat),(pG s pos v sc p).length=sc.length
 |[],_=>rfl
 |u::sc,p=>by unfold pG;rw[Y1,Fi sc (p+1),Y1]
def yt(a:bc k co s)(e:∀u∈sc,0<=u/\u<co.length)(f:∀u,sc[pos]?=σ u->v∈ba s u):
  bX s sc pos v=(br (bN co sc)).filter (oq (pG s pos v sc 0)):=by
 unfold bX;rw[Fh a sc 0 e λu _ h=>f u h,Fb _ _ (by rw[Fi,r8];unfold bN;rw[r8]),va]
end
theorem yu{k:Int}:∀(l:Λ)(z:Int),z<=k->(∀c∈l,0<=c)->l.foldl (λa c=>min (a+c) k) z=min (z+l.sum) k
 |[],z,h,_=>Θ
 |c::l,z,h,e=>by
  have J:∀(l:Λ),(∀c∈l,0<=c)->0<=l.sum:=λl=>by
   induction l with
   |nil=>intro _;simp
   |cons a l f=>intro h;have:=f λc e=>h c (.tail _ e);have:=h a (.head _);rw[R6];omega
  have h1:=e c (.head _);have j:=J l λc h=>e c (.tail _ h);rw[V7,yu l _ Ω λc h=>e c (.tail _ h),R6];omega
def dQ(p:bo×Int):Int:=if p.1.gone≠0 then 0 else p.1.un.getD p.2.toNat 0
def fG(a:Λ)(f:cm):Int:=if f.live≠0 then bq f.aj f.cs (kd a f.sc)else 0
theorem foldl_map'{α β e:Type}(g:α->β)(h:e->β->e)(aW:e->α->e)(P:e->Prop)(au:∀c a,P c->aW c a=h c (g a))(f:∀c a,P c->P (aW c a)):∀(l:List α)(c:e),P c->l.foldl aW c=(l.map g).foldl h c
 |[],_,_=>rfl
 |a::l,c,j=>by
  rw[V7,T3,V7,<-au c a j];exact foldl_map' g h aW P au f l _ (f c a j)
def yv{i:Nat}{x y:Int}(h:l[i]?=σ x):(l.set i y).sum=l.sum-x+y:=by
 induction l generalizing i with
 |nil=>simp at h
 |cons a l e=>
  cases i with
  |zero=>simp at h;subst h;rw[List.set_cons_zero,R6,R6];omega
  |succ i=>
   rw[List.set_cons_succ,R6,R6,e (by simpa using h)];omega
def cY(k a c:Int):Int:=if a=k then k else a-c
def cr(k a c:Int):Int:=min (a+c) k
def vb{r g u:Int}(a:0<=r)(e:c<=g/\g<=k)(hu:0<=u/\u<=k)(f:0<=c):min (r+cY k g c+cr k u c) k=min (r+g+u) k:=by
 unfold cY cr;split<;>omega
theorem su:∀(l:Λ),(∀c∈l,0<=c)->0<=l.sum
 |[],_=>Ξ
 |a::l,h=>by have:=su l λc e=>h c (.tail _ e);have:=h a (.head _);rw[R6];omega
theorem sw:∀{l:Λ}{i:Nat}{x:Int},(∀c∈l,0<=c)->l[i]?=σ x->x<=l.sum
 |[],_,_,_,h=>by simp at h
 |a::l,0,x,e,h=>by
  simp at h;subst h;have:=su l λc h=>e c (.tail _ h);rw[R6];omega
 |a::l,i+1,x,e,h=>by
  have:=sw (λc h=>e c (.tail _ h)) (show l[i]?=σ x by simpa using h);have:=e a (.head _);rw[R6];omega
def Fj{i:Nat}(hk:0<=k)(h:∀c∈l,0<=c/\c<=k):0<=l.getD i 0/\l.getD i 0<=k:=by
 rw[u5];cases a:l[i]? with
 |none=>exact⟨S9 _,hk⟩
 |some c=>exact h c (x7 a)
def Fk{f:Int->Int}{m:Int}(J:dT aj)(h:cs.length=(br aj).length)(hi:cj aj t 0=σ m):bq aj (dX f L aj cs) t=if t∈L then f (bq aj cs t)else bq aj cs t:=by
 have a:=ns J hi;have j:=(x5.1 a).1;obtain⟨c,e⟩:=aD (l:=cs) (i:=m.toNat) Ω;have h1:=qL (f:=f) (L:=L) a e;unfold bq;rw[hi];simp only;rw[u5,h1,u5,e,W7,W7]
section
variable{k:Int}{co a:Λ}{s:am}
def QU{i:Nat}{p:bo×Int}(e:bc k co s)(h:(s.d6.zip a)[i]?=σ p):0<=dQ p/\dQ p<=k:=by
 have hk:=e.fk;obtain⟨h1,_⟩:=List.getElem?_zip_eq_some.1 h;have f:=(x5.1 h1).1;have j:=e.d6;have:=e.var i p.1 _ h1 (x8 Ω);unfold dQ;split
 .omega
 .exact Fj Ω this.2.1
def QV{f:cm}(e:bc k co s)(h:f∈s.d9):0<=fG a f/\fG a f<=k:=by
 have hk:=e.fk;have:=(e.d9 f h).1.jm;unfold fG;split
 .exact (uI e.fk λc j=>⟨e.fk,this c j⟩).2
 .omega
def vc(e:bc k co s):∀c∈(s.d6.zip a).map dQ,0<=c:=λc f=>by
 obtain⟨p,ac,rfl⟩:=j5.1 f;obtain⟨i,hi⟩:=X8.1 ac;exact(QU e hi).1
def sx(e:bc k co s):∀c∈s.d9.map (fG a),0<=c:=λc f=>by
 obtain⟨p,ac,rfl⟩:=j5.1 f;exact(QV e ac).1
def pH(e:bc k co s):eP k s a=if(s.d6.zip a).all fY then min (s.zero+((s.d6.zip a).map dQ).sum+(s.d9.map (fG a)).sum) k else k:=by
 have h1:(s.d6.zip a).foldl (lR k) s.zero=((s.d6.zip a).map dQ).foldl (λx c=>min (x+c) k) s.zero:=by
  refine foldl_map' dQ (λx c=>min (x+c) k) (lR k) (λc=>c<=k) (λc p f=>?_) (λc p f=>?_) _ _ e.zero.2
  .unfold lR dQ;split
   .omega
   .rfl
  .unfold lR;split
   .exact f
   .omega
 have h:∀z,z<=k->s.d9.foldl (lf k a) z=(s.d9.map (fG a)).foldl (λx c=>min (x+c) k) z:=λz j=>by
  refine foldl_map' (fG a) (λx c=>min (x+c) k) (lf k a) (λc=>c<=k) (λc p f=>?_) (λc p f=>?_) _ _ j
  .unfold lf fG;split
   .rfl
   .omega
  .unfold lf;split
   .omega
   .exact f
 unfold eP;split
 .rw[h1,yu _ _ e.zero.2 (vc e),h _ Ω,yu _ _ Ω (sx e)];have:=su _ (sx (a:=a) e);omega
 .rfl
theorem vd{α β:Type}:∀{l:List α}{m:List β}{i:Nat}{x:α}{y:β},m[i]?=σ y->(l.set i x).zip m=(l.zip m).set i (x,y)
 |[],_,_,_,_,_=>Ξ
 |_::_,[],_,_,_,h=>by simp at h
 |a::l,b::m,0,x,y,h=>by simp at h;subst h;rfl
 |a::l,b::m,i+1,x,y,h=>by
  rw[List.set_cons_succ,List.zip_cons_cons,List.zip_cons_cons,List.set_cons_succ,vd (by simpa using h)]
theorem ve{α:Type}{q:α->Bool}:∀{l:List α}{i:Nat}{x y:α},l[i]?=σ x->q y=q x->(l.set i y).all q=l.all q
 |[],_,_,_,h,_=>by simp at h
 |a::l,0,x,y,h,e=>by simp at h;subst h;rw[List.set_cons_zero,List.all_cons,List.all_cons,e]
 |a::l,i+1,x,y,h,e=>by rw[List.set_cons_succ,List.all_cons,List.all_cons,ve (by simpa using h) e]
def eI(s:am)(u:Nat)(x:bo)(un:Λ):am:={s with d6:=s.d6.set u {x with un:=un}}
def ed(s:am)(j:Nat)(f:cm)(cs:Λ):am:={s with d9:=s.d9.set j {f with cs:=cs}}
def yw{u:Nat}{x:bo}(a:bc k co s)(e:s.d6[u]?=σ x)(f:un.length=x.un.length)(h:∀c∈un,0<=c/\c<=k):bc k co (eI s u x un):=by
 have j:=(x5.1 e).1;have p:=a.d6;have h1:=a.var u x _ e (x8 Ω);exact a.u2 e f h h1.2.2
def Fl{f:cm}(a:bc k co s)(e:s.d9[j]?=σ f)(h:cs.length=f.cs.length)(p:∀c∈cs,0<=c/\c<=k):bc k co (ed s j f cs):=a.E6 e rfl rfl h p
def QW{u:Nat}{x:bo}{f:cm}{bj:Int}(e:bc k co s)(w:s.d6[u]?=σ x)(p:s.d9[j]?=σ f)(z:un.length=x.un.length)(A:∀c∈un,0<=c/\c<=k)(B:cs.length=f.cs.length)(C:∀c∈cs,0<=c/\c<=k)(y:a[u]?=σ bj)(h:(s.d6.zip a).all fY=v2->∀r,0<=r->min (r+fG a {f with cs:=cs}+dQ ({x with un:=un},bj)) k=min (r+fG a f+dQ (x,bj)) k):eP k (eI (ed s j f cs) u x un) a=eP k s a:=by
 have E:=Fl e p B C;have F:=yw E w z A;rw[pH F,pH e];have q:(s.d6.zip a)[u]?=σ (x,bj):=List.getElem?_zip_eq_some.2 ⟨w,y⟩;have G:((eI (ed s j f cs) u x un).d6.zip a)=(s.d6.zip a).set u ({x with un:=un},bj):=vd y;have H:((s.d6.zip a).set u ({x with un:=un},bj)).all fY=(s.d6.zip a).all fY:=ve q rfl;rw[G,H];split
 .rename_i I;have J:(((s.d6.zip a).set u ({x with un:=un},bj)).map dQ).sum=((s.d6.zip a).map dQ).sum-dQ (x,bj)+dQ ({x with un:=un},bj):=by
   rw[T2];exact yv (by rw[u4,q];rfl)
  have K:((eI (ed s j f cs) u x un).d9.map (fG a)).sum=(s.d9.map (fG a)).sum-fG a f+fG a {f with cs:=cs}:=by
   show((s.d9.set j {f with cs:=cs}).map (fG a)).sum=_;rw[T2];exact yv (by rw[u4,p];rfl)
  have h1:=sw (vc e) (by rw[u4,q];rfl);have L:=sw (sx (a:=a) e) (by rw[u4,p];rfl);have M:=e.zero.1;have N:=h I (s.zero+(((s.d6.zip a).map dQ).sum-dQ (x,bj))+((s.d9.map (fG a)).sum-fG a f)) Ω;rw[J,K];show min (s.zero+_+_) k=_;omega
 .rfl
end
theorem yx{s:am}{pos:Nat}{v:Int}:∀(sc:Λ)(p q:Nat),(jr s pos v sc p)[q]?=(sc[q]?).map λu=>if p+q=pos then[v]else ba s u
 |[],_,q=>by simp[jr]
 |u::sc,p,0=>by simp[jr]
 |u::sc,p,q+1=>by
  unfold jr;rw[List.getElem?_cons_succ,List.getElem?_cons_succ,yx sc (p+1) q,show p+1+q=p+(q+1) by omega]
theorem Fm{s:am}{pos:Nat}{v:Int}:∀(sc:Λ)(p:Nat),(jr s pos v sc p).length=sc.length
 |[],_=>rfl
 |u::sc,p=>by unfold jr;rw[Y1,Fm sc (p+1),Y1]
def yy{s:am}:t∈bX s sc pos v↔t.length=sc.length/\∀(p:Nat)u w,sc[p]?=σ u->t[p]?=σ w->if p=pos then w=v else w∈ba s u:=by
 unfold bX;rw[sm,Fm];refine and_congr_right λ_=>⟨λh p u w hu hw=>?_,λh p d w a hw=>?_⟩
 .have:w∈if 0+p=pos then[v]else ba s u:=h p _ w (by rw[yx,hu];rfl) hw;rw[X6]at this;split
  .rename_i e;rw[ms e]at this;exact c9.1 this
  .rename_i e;rw[rc e]at this;exact this
 .rw[yx]at a;cases hu:sc[p]? with
  |none=>rw[hu]at a;cases a
  |some u=>
   rw[hu]at a;have a:(if 0+p=pos then[v]else ba s u)=d:=Z5 a;subst a;have:=h p u w hu hw;rw[X6];split
   .rename_i e;rw[ms e]at this;exact c9.2 this
   .rename_i e;rw[rc e]at this;exact this
def e1{x:bo}:v∈aC x↔(0<=v/\v<x.un.length)/\dropped x.mask v=v6:=by
 unfold aC;rw[S8];refine and_congr ?_ Ξ;have:=sn (k:=(x.un.length:Int)) (v:=v);unfold iA at this;rw[u9]at this;exact this
def Fo{f:Int->Int}(J:dT aj)(q:∀c∈cs,0<=c/\c<=k)(r:∀t∈L,0<=f (bq aj cs t)/\f (bq aj cs t)<=k):∀c∈dX f L aj cs,0<=c/\c<=k:=λc a=>by
 unfold dX at a;obtain⟨p,ac,rfl⟩:=j5.1 a;obtain⟨i,hi⟩:=X8.1 ac;obtain⟨h1,h⟩:=List.getElem?_zip_eq_some.1 hi;split
 .rename_i s;have j:=r p.1 s;have e:bq aj cs p.1=p.2:=by
   unfold bq;rw[kA J h1];simp only;rw[u9,u5,h];rfl
  rw[e]at j;exact j
 .exact q _ (x7 h)
section
variable{k:Int}{co a:Λ}{s:am}
def gd(s:am)(j:Nat)(f:cm)(pos u:Nat)(x:bo)(v:Int)(tup un:Int->Int):am:=
 eI (ed s j f (dX tup (bX s f.sc pos v) f.aj f.cs)) u x (x.un.set v.toNat (un (x.un.getD v.toNat 0)))
def kH{f:cm}(e:bc k co s)(q:f∈s.d9):dT f.aj/\f.cs.length=(br f.aj).length:=by
 obtain⟨a,h,_⟩:=e.d9 f q;have j:dT f.aj:=by rw[h];exact ps e.ev.2.2 λv p=>⟨(a.scope.1 v p).1,a.d6 v p⟩
 refine⟨j,?_⟩;have h1:=a.len;rw[j1 j,h];exact h1
def Fp{u:Nat}{f:cm}{x:bo}{tup un:Int->Int}(a:bc k co s)(e:s.d9[j]?=σ f)(h:s.d6[u]?=σ x)(p:∀t∈bX s f.sc pos v,0<=tup (bq f.aj f.cs t)/\tup (bq f.aj f.cs t)<=k)(q:0<=un (x.un.getD v.toNat 0)/\un (x.un.getD v.toNat 0)<=k):bc k co (gd s j f pos u x v tup un):=by
 obtain⟨r,y⟩:=kH a (x7 e);have w:=(a.d9 f (x7 e)).1;have z:=(x5.1 h).1;have A:=a.d6;have h1:=a.var u x _ h (x8 Ω);exact yw (Fl a e (pE _ _ _ _ Ω) (Fo r w.jm p)) h (by rw[o7]) (sq h1.2.1 q)
def Fq{u:Nat}{f:cm}{x:bo}{tup un:Int->Int}(p:bc k co s)(Q:ig s a)(G:s.d9[j]?=σ f)(R:f.live≠0)(hu:f.sc[pos]?=σ (u:Int))(B:s.d6[u]?=σ x)(Y:v∈aC x)(S:∀w∈f.sc,∀y,s.d6[w.toNat]?=σ y->y.gone=0)(Z:∀t∈bX s f.sc pos v,0<=tup (bq f.aj f.cs t)/\tup (bq f.aj f.cs t)<=k)(aa:0<=un (x.un.getD v.toNat 0)/\un (x.un.getD v.toNat 0)<=k)(ab:∀t∈bX s f.sc pos v,∀r,0<=r->min (r+tup (bq f.aj f.cs t)+un (x.un.getD v.toNat 0)) k=min (r+bq f.aj f.cs t+x.un.getD v.toNat 0) k):
  eP k (gd s j f pos u x v tup un) a=eP k s a:=by
 obtain⟨H,ac⟩:=kH p (x7 G);obtain⟨I,T,_⟩:=p.d9 f (x7 G);have au:=(x5.1 B).1;have av:=p.d6;have h1:=p.var u x _ B (x8 Ω);have aw:=Q.1;obtain⟨bj,U⟩:=aD (l:=a) (i:=u) Ω;refine QW p B G (by rw[o7]) (sq h1.2.1 aa) (pE _ _ _ _ Ω) (Fo H I.jm Z) U λad r ae=>?_;have V:=S u (x7 hu) x (by rw[u9];exact B);obtain⟨tl,C⟩:∃tl,tl=kd a f.sc:=⟨_,rfl⟩;have J:∀(q:Nat)w,f.sc[q]?=σ w->∃y,s.d6[w.toNat]?=σ y/\tl[q]?=σ (a.getD w.toNat 0)/\a.getD w.toNat 0∈aC y/\f.aj[q]?=σ (y.un.length:Int):=λq w hw=>by
  have hm:=x7 hw;have ax:=(I.scope.1 w hm).1;have ay:=I.d6 w hm;obtain⟨y,h⟩:=aD (l:=s.d6) (i:=w.toNat) Ω;obtain⟨z,K⟩:=aD (l:=co) (i:=w.toNat) Ω;obtain⟨L,M⟩:=aD (l:=a) (i:=w.toNat) Ω;have af:=S w hm y h;have az:=(p.var _ y z h K).1;have aA:=p.ev.2.2 z (x7 K);have e:a.getD w.toNat 0=L:=by rw[u5,M];rfl
  have W:=List.all_eq_true.1 ad (y,L) (x7 (List.getElem?_zip_eq_some.2 ⟨h,M⟩));have ag:=(Q.2 _ y L h M).resolve_left Ω;refine⟨y,h,by rw[C];unfold kd;rw[u4,hw];rfl,?_,?_⟩
  .rw[e,e1];refine⟨ag,?_⟩;unfold fY at W;simpa[af]using W
  .rw[T];unfold bN;rw[u4,hw,Y3,u5,K,W7];congr 1;omega
 have ah:tl.length=f.sc.length:=by rw[C];unfold kd;rw[r8]
 have aB:f.aj.length=f.sc.length:=by rw[T];unfold bN;rw[r8]
 obtain⟨m,hm⟩:∃m,cj f.aj tl 0=σ m:=by
  have:tl∈br f.aj:=by
   rw[va,sm];refine⟨by rw[r8];omega,λq d w X hw=>?_⟩;obtain⟨b,A⟩:=aD (l:=f.sc) (i:=q) (by have:=(x5.1 hw).1;omega);obtain⟨y,_,N,O,ai⟩:=J q b A;rw[u4,ai]at X;cases X;rw[N]at hw;cases hw;exact sn.2 (e1.1 O).1
  obtain⟨i,hi⟩:=X8.1 this;exact⟨_,kA H hi⟩
 have ak:fG a f=bq f.aj f.cs tl:=by unfold fG;rw[ms R,C]
 have al:fG a {f with cs:=dX tup (bX s f.sc pos v) f.aj f.cs}=if tl∈bX s f.sc pos v then tup (bq f.aj f.cs tl)else bq f.aj f.cs tl:=by
  rw[<-Fk H ac hm,C];unfold fG;rw[ms R]
 have am:dQ (x,bj)=x.un.getD bj.toNat 0:=by unfold dQ;rw[rc (by simp[V])]
 have an:dQ ({x with un:=x.un.set v.toNat (un (x.un.getD v.toNat 0))},bj)=(x.un.set v.toNat (un (x.un.getD v.toNat 0))).getD bj.toNat 0:=by unfold dQ;rw[rc (by simp[V])]
 obtain⟨y,h,E,P,_⟩:=J pos _ hu;rw[u9]at h E P;rw[B]at h;cases h;have ao:a.getD u 0=bj:=by rw[u5,U];rfl
 rw[ao]at E P;have aE:=(e1.1 Y).1;have aF:=(e1.1 P).1;rw[ak,al,am,an];by_cases he:bj=v
 .subst he;have F:=yy.2 ⟨ah,λq w b hw A=>by
   obtain⟨aG,ap,N,O,_⟩:=J q w hw;split
   .rename_i aq;subst aq;rw[E]at A;exact(Z5 A).symm
   .rw[N]at A;cases A;unfold ba;rw[ap];exact O⟩
  rw[ms F,u5,l9 Ω,W7];exact ab tl F r ae
 .have F:tl∉bX s f.sc pos v:=λhm=>by
   have:=(yy.1 hm).2 pos _ bj hu E;rw[ms rfl]at this;exact he this
  rw[rc F,u5,Z6 Ω,<-u5]
end
def ee(g:Int->Int)(un L:Λ):Λ:=L.foldl (λun v=>un.set v.toNat (g (un.getD v.toNat 0))) un
theorem sy{g:Int->Int}:∀(L un:Λ),(ee g un L).length=un.length
 |[],_=>rfl
 |v::L,un=>by
  unfold ee;rw[V7];have:=sy (g:=g) L (un.set v.toNat (g (un.getD v.toNat 0)));unfold ee at this;rw[this,o7]
theorem vf{g:Int->Int}:∀(L un:Λ)(w:Int),L.Nodup->(∀v∈L,0<=v/\v<un.length)->0<=w->(ee g un L).getD w.toNat 0=if w∈L then g (un.getD w.toNat 0)else un.getD w.toNat 0
 |[],un,w,_,_,_=>by simp[ee]
 |v::L,un,w,j,a,hw=>by
  obtain⟨h1,p⟩:=List.nodup_cons.1 j;have r:=a v (.head _);have q:=vf (g:=g) L (un.set v.toNat (g (un.getD v.toNat 0))) w p (λu hu=>by rw[o7];exact a u (.tail _ hu)) hw;have e:ee g un (v::L)=ee g (un.set v.toNat (g (un.getD v.toNat 0))) L:=rfl;rw[e,q];by_cases f:w=v
  .subst f;have J:(un.set w.toNat (g (un.getD w.toNat 0))).getD w.toNat 0=g (un.getD w.toNat 0):=by
    rw[u5,l9 Ω];rfl
   rw[rc h1,ms (.head _),J]
  .have J:(un.set v.toNat (g (un.getD v.toNat 0))).getD w.toNat 0=un.getD w.toNat 0:=by
    rw[u5,Z6 Ω,<-u5]
   rw[J];by_cases hm:w∈L
   .rw[ms hm,ms (.tail _ hm)]
   .rw[rc hm,rc λh=>(V4.1 h).elim f hm]
def sz(x:bo):(aC x).Nodup:=by
 unfold aC;refine List.Nodup.sublist List.filter_sublist ?_;exact List.Pairwise.map _ (λa b e=>Ω) List.nodup_range
theorem Fr{k:Int}{g:Int->Int}:∀(L un:Λ),(∀c∈un,0<=c/\c<=k)->L.Nodup->(∀v∈L,0<=v/\v<un.length)->(∀v∈L,0<=g (un.getD v.toNat 0)/\g (un.getD v.toNat 0)<=k)->∀c∈ee g un L,0<=c/\c<=k
 |[],un,h,_,_,_,c,a=>h c a
 |v::L,un,h,p,f,j,c,a=>by
  obtain⟨h1,q⟩:=List.nodup_cons.1 p;have r:=f v (.head _);refine Fr (g:=g) L (un.set v.toNat (g (un.getD v.toNat 0))) (sq h (j v (.head _))) q (λu hu=>by rw[o7];exact f u (.tail _ hu)) (λu hu=>?_) c a;have s:u≠v:=λe=>h1 (e▸hu);have w:=f u (.tail _ hu);rw[u5,Z6 Ω,<-u5];exact j u (.tail _ hu)
section
variable{k:Int}{co a:Λ}{s:am}
def iB(s:am)(u:Nat)(x:bo)(g z:Int->Int):am:={eI s u x (ee g x.un (aC x))with zero:=z s.zero}
def bc.QX(a:bc k co s)(h:0<=c/\c<=k):bc k co {s with zero:=c}:=⟨a.fk,a.ev,h,a.d6,a.var,a.d9⟩
def yz{u:Nat}{x:bo}{g z:Int->Int}(a:bc k co s)(e:s.d6[u]?=σ x)(f:∀v∈aC x,0<=g (x.un.getD v.toNat 0)/\g (x.un.getD v.toNat 0)<=k)(h:0<=z s.zero/\z s.zero<=k):bc k co (iB s u x g z):=by
 have p:=(x5.1 e).1;have q:=a.d6;have h1:=a.var u x _ e (x8 Ω);exact(yw a e (sy _ _) (Fr _ _ h1.2.1 (sz x) (λv j=>(e1.1 j).1) f)).QX h
def Fs{u:Nat}{x:bo}{g z:Int->Int}(e:bc k co s)(q:ig s a)(f:s.d6[u]?=σ x)(j:x.gone=0)(C:∀v∈aC x,0<=g (x.un.getD v.toNat 0)/\g (x.un.getD v.toNat 0)<=k)(E:0<=z s.zero/\z s.zero<=k)(F:∀v∈aC x,∀r,0<=r->min (r+g (x.un.getD v.toNat 0)+z s.zero) k=min (r+x.un.getD v.toNat 0+s.zero) k):eP k (iB s u x g z) a=eP k s a:=by
 have G:=yz e f C E;have O:=(x5.1 f).1;have P:=e.d6;have Q:=q.1;obtain⟨bj,p⟩:=aD (l:=a) (i:=u) Ω;rw[pH G,pH e];have h:(s.d6.zip a)[u]?=σ (x,bj):=List.getElem?_zip_eq_some.2 ⟨f,p⟩;obtain⟨un,w⟩:∃un,un=ee g x.un (aC x):=⟨_,rfl⟩;have H:((iB s u x g z).d6.zip a)=(s.d6.zip a).set u ({x with un:=un},bj):=by rw[w];exact vd p
 have I:((s.d6.zip a).set u ({x with un:=un},bj)).all fY=(s.d6.zip a).all fY:=ve h rfl;rw[H,I];split
 .rename_i J;have K:(((s.d6.zip a).set u ({x with un:=un},bj)).map dQ).sum=((s.d6.zip a).map dQ).sum-dQ (x,bj)+dQ ({x with un:=un},bj):=by
   rw[T2];exact yv (by rw[u4,h];rfl)
  have h1:=sw (vc e) (by rw[u4,h];rfl);have R:=su _ (sx (a:=a) e);have y:=List.all_eq_true.1 J (x,bj) (x7 h);have A:=(q.2 _ x bj f p).resolve_left Ω;have B:bj∈aC x:=by
   rw[e1];refine⟨A,?_⟩;unfold fY at y;simpa[j]using y
  have L:dQ (x,bj)=x.un.getD bj.toNat 0:=by unfold dQ;rw[rc (by simp[j])]
  have M:dQ ({x with un:=un},bj)=g (x.un.getD bj.toNat 0):=by
   unfold dQ;rw[rc (by simp[j])];show un.getD bj.toNat 0=_;rw[w,vf _ _ _ (sz x) (λv N=>(e1.1 N).1) A.1,ms B]
  rw[K,M];rw[L]at h1 ⊢;have S:=F bj B (((s.d6.zip a).map dQ).sum-x.un.getD bj.toNat 0+(s.d9.map (fG a)).sum) Ω;show min (z s.zero+_+(s.d9.map (fG a)).sum) k=_;omega
 .rfl
def yA{m:Nat}{w:Int}(a:0<=v)(hw:0<=w):dropped ((m ||| 2 ^ v.toNat:Nat):Int) w=(dropped (m:Int) w||decide (w=v)):=by
 unfold dropped;rw[u9,u9,Nat.testBit_or,Nat.testBit_two_pow];congr 1;exact decide_eq_decide.2 ⟨λh=>Ω,λh=>Ω⟩
def kI{i:Nat}{x:bo}(a:s.d6[i]?=σ x):dP s i v.toNat={s with d6:=s.d6.set i {x with mask:=((x.mask.toNat ||| 2 ^ v.toNat:Nat):Int)}}:=by
 unfold dP;rw[a]
def yB{i:Nat}{x:bo}(a:bc k co s)(e:s.d6[i]?=σ x)(j:0<=v/\v<x.un.length):bc k co (dP s i v.toNat):=by
 rw[kI e];have p:=(x5.1 e).1;have q:=a.d6;have h1:=a.var i x _ e (x8 Ω);have r:=a.ev.2.2 _ (P6 (n:=i) Ω);refine a.u2 e rfl h1.2.1 ⟨by simp only;omega,?_⟩;have f:x.mask.toNat<2 ^ 32:=by have:=h1.2.2;omega
 have h:2 ^ v.toNat<2 ^ 32:=Nat.pow_lt_pow_right Ω Ω;have:=Nat.or_lt_two_pow f h;simp only;omega
def Ft{i:Nat}{bj:Int}{x:bo}(j:bc k co s)(C:ig s a)(f:s.d6[i]?=σ x)(E:x.gone=0)(z:0<=v/\v<x.un.length)(p:a[i]?=σ bj):eP k (dP s i v.toNat) a=if bj=v then k else eP k s a:=by
 have F:=yB j f z;rw[pH F,pH j];have r:(s.d6.zip a)[i]?=σ (x,bj):=List.getElem?_zip_eq_some.2 ⟨f,p⟩;have G:=(C.2 _ x bj f p).resolve_left Ω;obtain⟨y,w⟩:∃y:bo,y={x with mask:=((x.mask.toNat ||| 2 ^ v.toNat:Nat):Int)}:=⟨_,rfl⟩;have H:((dP s i v.toNat).d6.zip a)=(s.d6.zip a).set i (y,bj):=by rw[kI f,w];exact vd p
 have A:(dP s i v.toNat).zero=s.zero/\(dP s i v.toNat).d9=s.d9:=by rw[kI f];exact⟨rfl,rfl⟩
 have B:fY (y,bj)=(fY (x,bj)&&decide (bj≠v)):=by
  unfold fY;rw[w];simp only[E];rw[yA z.1 G.1];have hm:((x.mask.toNat:Nat):Int)=x.mask:=by
   have N:=(x5.1 f).1;have O:=j.d6;have h1:=j.var i x _ f (x8 Ω);omega
  rw[hm];by_cases e:bj=v
  .simp[e]
  .simp[e]
 rw[H,A.1,A.2];by_cases e:bj=v
 .rw[ms e,rc];intro I;have:=List.all_eq_true.1 I (y,bj) (x7 (l9 (x5.1 r).1));rw[B]at this;simp[e]at this
 .have J:((s.d6.zip a).set i (y,bj)).all fY=(s.d6.zip a).all fY:=ve r (by rw[B];simp[e]);have K:((s.d6.zip a).set i (y,bj)).map dQ=(s.d6.zip a).map dQ:=by
   rw[T2];have L:dQ (y,bj)=dQ (x,bj):=by rw[w];rfl
   rw[L];refine X0 λq=>?_;rw[Y7];split
   .rename_i M;subst M;split
    .rw[u4,r];rfl
    .rename_i h;rw[Y5 Ω]
   .rfl
  rw[rc e,J,K]
def QY{i:Nat}{bj:Int}{x:bo}(h:ig s a)(e:s.d6[i]?=σ x)(j:x.gone=0)(f:a[i]?=σ bj)(p:bj∉aC x):eP k s a=k:=by
 have q:=(h.2 _ x bj e f).resolve_left Ω;unfold eP;rw[rc];intro r;have:=List.all_eq_true.1 r (x,bj) (x7 (List.getElem?_zip_eq_some.2 ⟨e,f⟩));unfold fY at this;have w:dropped x.mask bj=v6:=by simpa[j]using this
 exact p (e1.2 ⟨q,w⟩)
end
end Go.Proofs.YtnhkbjhpbbobaaaGreatDoor
namespace Go.Vc
open Go Go.RowKit
section
variable{P:V5}{w:x6}{α:Type}[ao α]{S R:ah}
def Fu{k:Nat}{vs:List (List x4)}{i:Nat}{c:List x4}(h:∀x∈vs,x.length=k)(e:c.length=k)(hi:i<vs.length):over vs.flatten (i*k) c=(vs.set i c).flatten:=by
 have:=xl (f:=id) (k:=k) (L:=vs) (i:=i) (a:=c) h e hi;rw[List.flatMap_id,List.flatMap_id]at this;exact this
def QZ{v:x4}{l:List α}{i:Nat}(h:bs S R w [v] l)(T:i<l.length):∃g cap full p,v= .slice (σ ⟨g,0,ν⟩) l.length cap/\ag w g p full/\S g/\i*ao.n α+ao.n α<=full.length/\
  ∀{A:ah}{cs:List x4}{a:α},bs A R w cs a->(∀r,r<w.heap.size->S r->¬A r/\¬R r)->∀I,af (λr=>r=g) w I->ag I g p (over full (i*ao.n α) cs)->bs (λr=>S r\/A r) R I [v] (l.set i a):=by
 obtain⟨vs,g,F,ac,he,J,hm⟩:=jA h;obtain⟨U,p,V⟩:=hm rfl;obtain⟨ai,⟨rfl,aj⟩|⟨cap,full,rfl,C,G,W,H,X⟩⟩:=id V
 .omega
 have K:=he.1;have Y:(i+1)*ao.n α<=l.length*ao.n α:=X4 _ T;have Z:l.length*ao.n α<=full.length:=by rw[H];exact X4 _ G
 rw[U7,Nat.one_mul]at Y;have x:=U.resolve_left Ξ;refine⟨g,cap,full,p,rfl,C,x,Ω,λ{A cs a}L y I M ab=>?_⟩;have N:=ao.len L;have O:=(y g C.lt x).1;have P:=(y g C.lt x).2;have ad:∀c∈vs.set i cs,c.length=ao.n α:=λc s=>by
  rcases W8 s with e|rfl
  .exact he.len c e
  .exact N
 have Q:b2 I g p (ao.n α) (.slice (σ ⟨g,0,ν⟩) l.length cap) (l.set i a).length (vs.set i cs).flatten:=by
  refine⟨by rw[rp ad,o7,o7,K],.inr ⟨cap,_,by rw[o7],ab,by rw[o7];exact G,W,by rw[nl,H],?_⟩⟩;rw[o7,ui Ω Z,X,Fu he.len N Ω]
 refine⟨_,rfl,vs.set i cs,g,λj r=>if j=i then A r/\r<w.heap.size else F j r/\r<w.heap.size,⟨λj r f=>?_,λ_ j f=>?_,λ_ j q r ae h1 e=>?_⟩,⟨by simp[K],λj c a' s z=>?_⟩,?_,λ_=>⟨.inr (.inl x),p,Q⟩⟩
 .split at f
  .exact .inr f.1
  .exact .inl (ac.sub j r f.1)
 .split at f
  .exact O f.1
  .exact ac.top rfl j f.1
 .split at h1<;>split at e
  .omega
  .exact (y r e.2 (ac.sub q r e.1)).1 h1.1
  .exact (y r h1.2 (ac.sub j r h1.1)).1 e.1
  .exact ac.gX rfl j q r ae h1.1 e.1
 .by_cases B:j=i
  .subst B;rw[l9 Ω]at s z;cases s;cases z;have E:bs (λr=>if j=j then A r/\r<w.heap.size else F j r/\r<w.heap.size) R w cs a:=ao.Y L (λr f h=>by rw[ms rfl];exact⟨h,f⟩) λ_ _ h=>h;refine ao.aa E M λr f h1 e=>?_;have e:r=g:=e;subst e;rcases h1 with h1|h1
   .simp only[if_true]at h1;exact O h1.1
   .exact P h1
  .rw[Z6 (R7 B)]at s z;have E:bs (λr=>if j=i then A r/\r<w.heap.size else F j r/\r<w.heap.size) R w c a':=ao.Y (he.2 j c a' s z) (λr f h=>by rw[rc B];exact⟨h,f⟩) λ_ _ h=>h;refine ao.aa E M λr f h1 e=>?_;have e:r=g:=e;subst e;rcases h1 with h1|h1
   .simp only[rc B]at h1;exact ac.top rfl j h1.1
   .exact P h1
 .have:=pc (S:=λr=>(S r\/A r)\/R r) Q (.inr (.inl (.inl x)));exact this
def Fv{t:o5}{C:j4}{i b:Nat}{y:Int}{v x:x4}{l:List α}{a:α}{A:ah}{K:Unit->x6->Prop}(j:ao.n α=1)(E:y=(i:Int))(F:P.underlying t=σ (.slice e))(hi:aR P e 1 b z)(h:bs S R w [v] l)(q:i<l.length)(G:x.cells= #[x])(s:bs A R w [x] a)(H:∀r,r<w.heap.size->S r->¬A r/\¬R r)(J:∀I,af S w I->bs (λr=>S r\/A r) R I [v] (l.set i a)->K () I):ab P (b8 t v (.int C y)) w λp=>aG P (j0 e p x) w K:=by
 subst E;obtain⟨g,cap,full,T,rfl,L,M,N,O⟩:=QZ h q;rw[j]at N;rw[eT F hi q λ_=>rfl];refine bu (o:=0+i*1) hi G (ao.one s x (.head _)) L Ω λI B _ Q=>J I (B.Y λr _ f=>by have f:r=g:=f;subst f;exact M) (O s H I B ?_);rw[j,X6]at*;exact Q
end
end Go.Vc
namespace Go.Proofs.YtnhkbjhpbbobaaaGreatDoor
open Go Go.Vc Go.RowKit Go.Proofs Go.Proofs.Tryz
set_option maxRecDepth 100000
abbrev jN:Type:=(Rd (Λ)×Rd (Λ)×Λ)×Bool
abbrev mK:Type:=Int×Rd (Λ)×Rd (Λ)
def js(f:cm):jN:=((f.sc,f.aj,f.cs),decide (f.live≠0))
def qN(e:uP):mK:=(e.v,e.sc,e.mC)
def bD(m:Bool)(A:Nat->ah)(R:ah)(w:x6)(cs:List x4)(k:Int)(co:Λ)(zero:Int)(D:List (Λ))(G:List Bool)(aZ:List (Λ))(H:List jN)(E:List mK):Prop:=
 ∃lc a e f h p,cs=[Δ k,lc,Δ zero,a,e,f,h,p]/\Seen R w [lc] co/\
 ao.rep m (A 0) R w [a] D/\ao.rep m (A 1) R w [e] G/\ao.rep m (A 2) R w [f] aZ/\ao.rep m (A 3) R w [h] H/\ao.rep m (A 4) R w [p] E/\
 (m=v2->(∀i j r,i≠j->A i r->¬A j r)/\∀i r,A i r->¬R r)
abbrev gC(m:Bool)(A:Nat->ah)(R:ah)(w:x6)(cs:List x4)(k:Int)(co:Λ)(s:am):Prop:=
 bD m A R w cs k co s.zero (s.d6.map aC) (s.d6.map λx=>decide (x.gone≠0)) (s.d6.map (·.un)) (s.d9.map js) (s.du.map qN)
def e9(w:x6)(v:x4)(k:Int)(co:Λ)(s:am):Prop:=∃cs,v= .agg cs.toArray/\gC v6 (λ_ _=>False) eM w cs k co s
def fw(A:Nat->ah)(i:Nat)(B:ah):Nat->ah:=λj=>if j=i then B else A j
section
variable{m:Bool}{A:Nat->ah}{R:ah}{w I:x6}{cs:List x4}{k zero:Int}{co:Λ}{D:List (Λ)}{G:List Bool}{aZ:List (Λ)}{H:List jN}{E:List mK}{s:am}
def bD.len(h:bD m A R w cs k co zero D G aZ H E):cs.length=8/\∀u∈cs,u.oneCell'=v2:=by
 obtain⟨lc,q,r,s,x,y,rfl,h1,a,e,f,j,p,_⟩:=h;refine⟨rfl,λu hu=>?_⟩;simp only[V4,List.not_mem_nil,or_false]at hu;rcases hu with rfl|rfl|rfl|rfl|rfl|rfl|rfl|rfl
 .rfl
 .exact fT h1
 .rfl
 .exact fT a
 .exact fT e
 .exact fT f
 .exact fT j
 .exact fT p
def bD.aa{T:ah}(h:bD m A R w cs k co zero D G aZ H E)(a:af T w I)(f:∀r,r<w.heap.size->(∃i,A i r)\/R r->¬T r):bD m A R I cs k co zero D G aZ H E:=by
 obtain⟨lc,j,p,q,s,x,rfl,h1,y,z,B,C,F,J⟩:=h;have au:∀i r,r<w.heap.size->A i r\/R r->¬T r:=λi r e h=>f r e (h.imp (λh=>⟨i,h⟩) id);exact⟨lc,j,p,q,s,x,rfl,ao.aa h1 a λr e h=>f r e (h.elim False.elim .inr),ao.aa y a (au 0),ao.aa z a (au 1),ao.aa B a (au 2),ao.aa C a (au 3),ao.aa F a (au 4),J⟩
def bD.W(h:bD m A R w cs k co zero D G aZ H E)(a:Ext w I):bD m A R I cs k co zero D G aZ H E:=h.aa (a.aa λ_=>False) λ_ _ _ h=>h
def gC.sA(h:gC m A R w cs k co s):e9 w (.agg cs.toArray) k co s:=by
 obtain⟨lc,a,e,f,j,p,rfl,h1,q,r,x,y,z,B⟩:=h;exact⟨_,rfl,lc,a,e,f,j,p,rfl,jz h1,jz q,jz r,jz x,jz y,jz z,λh=>by cases h⟩
def e9.W{v:x4}(h:e9 w v k co s)(a:Ext w I):e9 I v k co s:=by
 obtain⟨cs,rfl,h⟩:=h;exact⟨cs,rfl,h.W a⟩
def bD.old(h:bD v2 A R w cs k co zero D G aZ H E):bD v2 (λi r=>A i r/\r<w.heap.size) R w cs k co zero D G aZ H E:=by
 obtain⟨lc,f,p,q,s,x,rfl,h1,a,y,z,B,C,e⟩:=h;obtain⟨e,F⟩:=e rfl;have hm:∀i r,r<w.heap.size->A i r->A i r/\r<w.heap.size:=λi r I h=>⟨h,I⟩;exact⟨lc,f,p,q,s,x,rfl,h1,ao.Y a (hm 0) λ_ _ h=>h,ao.Y y (hm 1) λ_ _ h=>h,ao.Y z (hm 2) λ_ _ h=>h,ao.Y B (hm 3) λ_ _ h=>h,ao.Y C (hm 4) λ_ _ h=>h,
  λ_=>⟨λi j r J h1 a=>e i j r J h1.1 a.1,λi r h=>F i r h.1⟩⟩
def sB{i:Nat}{B:ah}(h:∀i j r,i≠j->A i r->¬A j r)(e:∀j r,j≠i->B r->¬A j r):∀p q r,p≠q->fw A i B p r->¬fw A i B q r:=λp q r f h1 a=>by
 unfold fw at h1 a;split at h1<;>split at a
 .omega
 .exact e q r (by assumption) h1 a
 .exact e p r (by assumption) a h1
 .exact h p q r f h1 a
def sC{i:Nat}{B:ah}(h:∀i r,A i r->¬R r)(a:∀r,B r->¬R r):∀p r,fw A i B p r->¬R r:=λp r h1=>by
 unfold fw at h1;split at h1
 .exact a r h1
 .exact h p r h1
def bD.yC{B:ah}{x:x4}{D':List (Λ)}(h:bD v2 A R w cs k co zero D G aZ H E){T:ah}(e:af T w I)(p:∀r,T r->A 0 r\/(∀j,¬A j r)/\¬R r)(y:bs B R I [x] D')(z:∀j r,j≠0->B r->¬A j r)(C:∀r,B r->¬R r):bD v2 (fw A 0 B) R I (cs.set 3 x) k co zero D' G aZ H E:=by
 obtain⟨lc,S,F,J,K,L,rfl,h1,a,M,N,O,P,f⟩:=h;obtain⟨f,q⟩:=f rfl;have s:∀r,R r->¬T r:=λr h a=>(p r a).elim (λa=>q 0 r a h) λa=>a.2 h;have au:∀j r,j≠0->r<w.heap.size->A j r\/R r->¬T r:=λj r Q _ h a=>h.elim (λh=>(p r a).elim (λa=>f j 0 r Q h a) λa=>a.1 j h) λh=>s r h a;refine⟨lc,x,F,J,K,L,rfl,ao.aa h1 e λr _ h=>h.elim False.elim (s r),?_,?_,?_,?_,?_,λ_=>⟨sB f z,sC q C⟩⟩
 .exact y
 .exact ao.aa M e λr=>au 1 r Ω
 .exact ao.aa N e λr=>au 2 r Ω
 .exact ao.aa O e λr=>au 3 r Ω
 .exact ao.aa P e λr=>au 4 r Ω
def bD.Ra{B:ah}{x:x4}{p:List Bool}(h:bD v2 A R w cs k co zero D G aZ H E){T:ah}(e:af T w I)(q:∀r,T r->A 1 r\/(∀j,¬A j r)/\¬R r)(z:bs B R I [x] p)(C:∀j r,j≠1->B r->¬A j r)(F:∀r,B r->¬R r):bD v2 (fw A 1 B) R I (cs.set 4 x) k co zero D p aZ H E:=by
 obtain⟨lc,J,S,K,L,M,rfl,h1,a,U,N,O,P,f⟩:=h;obtain⟨f,s⟩:=f rfl;have y:∀r,R r->¬T r:=λr h a=>(q r a).elim (λa=>s 1 r a h) λa=>a.2 h;have au:∀j r,j≠1->r<w.heap.size->A j r\/R r->¬T r:=λj r Q _ h a=>h.elim (λh=>(q r a).elim (λa=>f j 1 r Q h a) λa=>a.1 j h) λh=>y r h a;refine⟨lc,J,x,K,L,M,rfl,ao.aa h1 e λr _ h=>h.elim False.elim (y r),?_,?_,?_,?_,?_,λ_=>⟨sB f C,sC s F⟩⟩
 .exact ao.aa a e λr=>au 0 r Ω
 .exact z
 .exact ao.aa N e λr=>au 2 r Ω
 .exact ao.aa O e λr=>au 3 r Ω
 .exact ao.aa P e λr=>au 4 r Ω
def bD.li{B:ah}{x:x4}{p:List (Λ)}(h:bD v2 A R w cs k co zero D G aZ H E){T:ah}(e:af T w I)(q:∀r,T r->A 2 r\/(∀j,¬A j r)/\¬R r)(z:bs B R I [x] p)(C:∀j r,j≠2->B r->¬A j r)(F:∀r,B r->¬R r):bD v2 (fw A 2 B) R I (cs.set 5 x) k co zero D G p H E:=by
 obtain⟨lc,J,K,S,L,M,rfl,h1,a,N,U,O,P,f⟩:=h;obtain⟨f,s⟩:=f rfl;have y:∀r,R r->¬T r:=λr h a=>(q r a).elim (λa=>s 2 r a h) λa=>a.2 h;have au:∀j r,j≠2->r<w.heap.size->A j r\/R r->¬T r:=λj r Q _ h a=>h.elim (λh=>(q r a).elim (λa=>f j 2 r Q h a) λa=>a.1 j h) λh=>y r h a;refine⟨lc,J,K,x,L,M,rfl,ao.aa h1 e λr _ h=>h.elim False.elim (y r),?_,?_,?_,?_,?_,λ_=>⟨sB f C,sC s F⟩⟩
 .exact ao.aa a e λr=>au 0 r Ω
 .exact ao.aa N e λr=>au 1 r Ω
 .exact z
 .exact ao.aa O e λr=>au 3 r Ω
 .exact ao.aa P e λr=>au 4 r Ω
def bD.lj{B:ah}{x:x4}{p:List jN}(h:bD v2 A R w cs k co zero D G aZ H E){T:ah}(e:af T w I)(q:∀r,T r->A 3 r\/(∀j,¬A j r)/\¬R r)(z:bs B R I [x] p)(C:∀j r,j≠3->B r->¬A j r)(F:∀r,B r->¬R r):bD v2 (fw A 3 B) R I (cs.set 6 x) k co zero D G aZ p E:=by
 obtain⟨lc,J,K,L,S,M,rfl,h1,a,N,O,U,P,f⟩:=h;obtain⟨f,s⟩:=f rfl;have y:∀r,R r->¬T r:=λr h a=>(q r a).elim (λa=>s 3 r a h) λa=>a.2 h;have au:∀j r,j≠3->r<w.heap.size->A j r\/R r->¬T r:=λj r Q _ h a=>h.elim (λh=>(q r a).elim (λa=>f j 3 r Q h a) λa=>a.1 j h) λh=>y r h a;refine⟨lc,J,K,L,x,M,rfl,ao.aa h1 e λr _ h=>h.elim False.elim (y r),?_,?_,?_,?_,?_,λ_=>⟨sB f C,sC s F⟩⟩
 .exact ao.aa a e λr=>au 0 r Ω
 .exact ao.aa N e λr=>au 1 r Ω
 .exact ao.aa O e λr=>au 2 r Ω
 .exact z
 .exact ao.aa P e λr=>au 4 r Ω
def bD.Rb{B:ah}{x:x4}{p:List mK}(h:bD v2 A R w cs k co zero D G aZ H E){T:ah}(e:af T w I)(q:∀r,T r->A 4 r\/(∀j,¬A j r)/\¬R r)(z:bs B R I [x] p)(C:∀j r,j≠4->B r->¬A j r)(F:∀r,B r->¬R r):bD v2 (fw A 4 B) R I (cs.set 7 x) k co zero D G aZ H p:=by
 obtain⟨lc,J,K,L,M,S,rfl,h1,a,N,O,P,U,f⟩:=h;obtain⟨f,s⟩:=f rfl;have y:∀r,R r->¬T r:=λr h a=>(q r a).elim (λa=>s 4 r a h) λa=>a.2 h;have au:∀j r,j≠4->r<w.heap.size->A j r\/R r->¬T r:=λj r Q _ h a=>h.elim (λh=>(q r a).elim (λa=>f j 4 r Q h a) λa=>a.1 j h) λh=>y r h a;refine⟨lc,J,K,L,M,x,rfl,ao.aa h1 e λr _ h=>h.elim False.elim (y r),?_,?_,?_,?_,?_,λ_=>⟨sB f C,sC s F⟩⟩
 .exact ao.aa a e λr=>au 0 r Ω
 .exact ao.aa N e λr=>au 1 r Ω
 .exact ao.aa O e λr=>au 2 r Ω
 .exact ao.aa P e λr=>au 3 r Ω
 .exact z
def bD.Rc{z:Int}(h:bD m A R w cs k co zero D G aZ H E):bD m A R w (cs.set 2 (Δ z)) k co z D G aZ H E:=by
 obtain⟨lc,a,e,f,j,p,rfl,h1,q,r,s,x,y,B⟩:=h;exact⟨lc,a,e,f,j,p,rfl,h1,q,r,s,x,y,B⟩
end
def pI{α:Type}[ao α]{st t L:o5}{pl:List (Nat×Nat)}{gs c q b M:Nat}{N y v:x4}{box cs:List x4}{S A R:ah}{l:List α}{a:α}{K:x6->Prop}(ac:bJ v8 st pl)(O:pl[c]?=σ (c,q+1))(P:v8.underlying t=σ (.slice e))(Q:aR v8 t 1 M N)(hi:aR v8 e (ao.n α) b z)(T:z.cells.size=ao.n α)(C:ag w gs st box)(U:box[c]?=σ v)(h:bs S R w [v] l)(J:cg w (ao.n α) y 1 cs)(W:bs A R w cs a)(X:∀r,r<w.heap.size->S r->¬A r/\¬R r)(p:¬S gs/\¬A gs/\¬R gs)(ai:(l.length+1)*b<=140737488355328)(aj:l.length+1<=1000000)(Y:∀j I,af (λr=>S r\/r=gs) w I->ag I gs st (box.set c j)->bs (λr=>S r\/A r\/w.heap.size<=r) R I [j] (l++[a])->K I):
  aG v8 (Z9 #[t,t] L #[v,y]) w λj V=>ab v8 (u7 st (Γ gs) c) V λZ=>aG v8 (j0 t Z j) V λ_ s=>K s:=by
 have ad:=(x5.1 U).1;refine nY P hi T h J W (λr E J f=>?_) Ω Ω λj V x F=>?_
 .have:=X r E J;exact f.elim this.1 this.2
 have ae:=C.aa F p.1;rw[aU ac O];refine bu (o:=0+c) Q (lH x) (fT x) ae (by rw[X6];exact ad) λs G ak H=>?_;refine Y j s ((F.Y λr _ h=>.inl h).F (G.Y λr _ h=>.inr h)) (by rw[X6]at H;exact H) (ao.aa x G λr E f B=>?_);have B:r=gs:=B;subst B;have al:=C.lt;rcases f with f|f
 .rcases f with f|f|f
  .exact p.1 f
  .exact p.2.1 f
  .omega
 .exact p.2.2 f
section
variable{A:Nat->ah}{B R:ah}{w:x6}{cs xs:List x4}{gs:Nat}{y v:x4}{k zero:Int}{co:Λ}{D:List (Λ)}{G:List Bool}{aZ:List (Λ)}{H:List jN}{E:List mK}{K:x6->Prop}
def bD.Re(h:bD v2 A R w cs k co zero D G aZ H E)(L:ag w gs aE cs)(x:cs[3]?=σ v)(f:∀j r,A j r->gs<r)(s:∀r,R r->r<gs)(J:cg w 1 y 1 xs)(W:bs B R w xs a)(q:∀r,r<w.heap.size->B r->(∀j,¬A j r)/\gs<r)(ak:D.length<=1000)(X:∀aN bF I,af (λr=>gs<=r) w I->ag I gs aE bF->bD v2 aN R I bF k co zero (D++[a]) G aZ H E->(∀j r,aN j r->gs<r)->(∀j,j≠3->bF[j]?=cs[j]?)->K I):
  aG v8 (Z9 #[ca,ca] U #[v,y]) w λM V=>ab v8 (u7 aE (Γ gs) 3) V λY=>aG v8 (j0 ca Y M) V λ_ z=>K z:=by
 have N:=h.old;have Z:=L.lt;obtain⟨lc,aa,al,am,ap,O,ac,h1,ad,aq,au,av,aw,C⟩:=id N;obtain⟨C,P⟩:=C rfl;have O:v=aa:=by rw[ac]at x;exact(Z5 x).symm
 subst O;have ae:bs (λr=>B r/\r<w.heap.size) R w xs a:=ao.Y W (λr e h=>⟨h,e⟩) λ_ _ h=>h;refine pI aE.p rfl ca.u ca.i an.i rfl L x ad J ae (λr e Q=>⟨λah=>(q r e ah.1).1 0 Q.1,P 0 r Q⟩) ⟨λh=>by have:=f 0 gs h.1;omega,λh=>by have:=(q gs Z h.1).2;omega,λh=>by have:=s gs h;omega⟩ Ω Ω λM z S ai aj=>?_;refine X _ _ z (S.Y λr _ h=>h.elim (λh=>by have:=f 0 r h.1;omega) λh=>Ω) ai (N.yC S (λr e=>?_) aj (λj r F e=>?_) λr e=>?_) (λj r e=>?_) λj F=>?_
 .rcases e with e|rfl
  .exact .inl e
  .exact .inr ⟨λj h=>by have:=f j r h.1;omega,λh=>by have:=s r h;omega⟩
 .rcases e with e|e|e
  .exact C 0 j r (R7 F) e
  .exact λh=>(q r e.2 e.1).1 j h.1
  .exact λh=>by have:=h.2;omega
 .rcases e with e|e|e
  .exact P 0 r e
  .exact λh=>by have:=(q r e.2 e.1).2;have:=s r h;omega
  .exact λh=>by have:=s r h;omega
 .unfold fw at e;split at e
  .rcases e with e|e|e
   .exact f 0 r e.1
   .exact (q r e.2 e.1).2
   .omega
  .exact f j r e.1
 .rw[Z6 (R7 F)]
def bD.Rf{a:Bool}(h:bD v2 A R w cs k co zero D G aZ H E)(L:ag w gs aE cs)(x:cs[4]?=σ v)(f:∀j r,A j r->gs<r)(s:∀r,R r->r<gs)(J:cg w 1 y 1 xs)(W:bs B R w xs a)(q:∀r,r<w.heap.size->B r->(∀j,¬A j r)/\gs<r)(ak:G.length<=1000)(X:∀aN bF I,af (λr=>gs<=r) w I->ag I gs aE bF->bD v2 aN R I bF k co zero D (G++[a]) aZ H E->(∀j r,aN j r->gs<r)->(∀j,j≠4->bF[j]?=cs[j]?)->K I):
  aG v8 (Z9 #[jb,jb] U #[v,y]) w λM V=>ab v8 (u7 aE (Γ gs) 4) V λY=>aG v8 (j0 jb Y M) V λ_ z=>K z:=by
 have N:=h.old;have Z:=L.lt;obtain⟨lc,al,aa,am,an,O,ac,h1,ap,ad,aq,au,av,C⟩:=id N;obtain⟨C,P⟩:=C rfl;have O:v=aa:=by rw[ac]at x;exact(Z5 x).symm
 subst O;have ae:bs (λr=>B r/\r<w.heap.size) R w xs a:=ao.Y W (λr e h=>⟨h,e⟩) λ_ _ h=>h;refine pI aE.p rfl jb.u jb.i dK.i rfl L x ad J ae (λr e Q=>⟨λah=>(q r e ah.1).1 1 Q.1,P 1 r Q⟩) ⟨λh=>by have:=f 1 gs h.1;omega,λh=>by have:=(q gs Z h.1).2;omega,λh=>by have:=s gs h;omega⟩ Ω Ω λM z S ai aj=>?_;refine X _ _ z (S.Y λr _ h=>h.elim (λh=>by have:=f 1 r h.1;omega) λh=>Ω) ai (N.Ra S (λr e=>?_) aj (λj r F e=>?_) λr e=>?_) (λj r e=>?_) λj F=>?_
 .rcases e with e|rfl
  .exact .inl e
  .exact .inr ⟨λj h=>by have:=f j r h.1;omega,λh=>by have:=s r h;omega⟩
 .rcases e with e|e|e
  .exact C 1 j r (R7 F) e
  .exact λh=>(q r e.2 e.1).1 j h.1
  .exact λh=>by have:=h.2;omega
 .rcases e with e|e|e
  .exact P 1 r e
  .exact λh=>by have:=(q r e.2 e.1).2;have:=s r h;omega
  .exact λh=>by have:=s r h;omega
 .unfold fw at e;split at e
  .rcases e with e|e|e
   .exact f 1 r e.1
   .exact (q r e.2 e.1).2
   .omega
  .exact f j r e.1
 .rw[Z6 (R7 F)]
def bD.Rg(h:bD v2 A R w cs k co zero D G aZ H E)(L:ag w gs aE cs)(x:cs[5]?=σ v)(f:∀j r,A j r->gs<r)(s:∀r,R r->r<gs)(J:cg w 1 y 1 xs)(W:bs B R w xs a)(q:∀r,r<w.heap.size->B r->(∀j,¬A j r)/\gs<r)(ak:aZ.length<=1000)(X:∀aN bF I,af (λr=>gs<=r) w I->ag I gs aE bF->bD v2 aN R I bF k co zero D G (aZ++[a]) H E->(∀j r,aN j r->gs<r)->(∀j,j≠5->bF[j]?=cs[j]?)->K I):
  aG v8 (Z9 #[cW,cW] U #[v,y]) w λM V=>ab v8 (u7 aE (Γ gs) 5) V λY=>aG v8 (j0 cW Y M) V λ_ z=>K z:=by
 have N:=h.old;have Z:=L.lt;obtain⟨lc,al,am,aa,an,O,ac,h1,ap,aq,ad,au,av,C⟩:=id N;obtain⟨C,P⟩:=C rfl;have O:v=aa:=by rw[ac]at x;exact(Z5 x).symm
 subst O;have ae:bs (λr=>B r/\r<w.heap.size) R w xs a:=ao.Y W (λr e h=>⟨h,e⟩) λ_ _ h=>h;refine pI aE.p rfl cW.u cW.i aw.i rfl L x ad J ae (λr e Q=>⟨λah=>(q r e ah.1).1 2 Q.1,P 2 r Q⟩) ⟨λh=>by have:=f 2 gs h.1;omega,λh=>by have:=(q gs Z h.1).2;omega,λh=>by have:=s gs h;omega⟩ Ω Ω λM z S ai aj=>?_;refine X _ _ z (S.Y λr _ h=>h.elim (λh=>by have:=f 2 r h.1;omega) λh=>Ω) ai (N.li S (λr e=>?_) aj (λj r F e=>?_) λr e=>?_) (λj r e=>?_) λj F=>?_
 .rcases e with e|rfl
  .exact .inl e
  .exact .inr ⟨λj h=>by have:=f j r h.1;omega,λh=>by have:=s r h;omega⟩
 .rcases e with e|e|e
  .exact C 2 j r (R7 F) e
  .exact λh=>(q r e.2 e.1).1 j h.1
  .exact λh=>by have:=h.2;omega
 .rcases e with e|e|e
  .exact P 2 r e
  .exact λh=>by have:=(q r e.2 e.1).2;have:=s r h;omega
  .exact λh=>by have:=s r h;omega
 .unfold fw at e;split at e
  .rcases e with e|e|e
   .exact f 2 r e.1
   .exact (q r e.2 e.1).2
   .omega
  .exact f j r e.1
 .rw[Z6 (R7 F)]
def bD.Rh{a:jN}(h:bD v2 A R w cs k co zero D G aZ H E)(L:ag w gs aE cs)(x:cs[6]?=σ v)(f:∀j r,A j r->gs<r)(s:∀r,R r->r<gs)(J:cg w 4 y 1 xs)(W:bs B R w xs a)(q:∀r,r<w.heap.size->B r->(∀j,¬A j r)/\gs<r)(ak:H.length<=1000)(X:∀aN bF I,af (λr=>gs<=r) w I->ag I gs aE bF->bD v2 aN R I bF k co zero D G aZ (H++[a]) E->(∀j r,aN j r->gs<r)->(∀j,j≠6->bF[j]?=cs[j]?)->K I):
  aG v8 (Z9 #[dh,dh] U #[v,y]) w λM V=>ab v8 (u7 aE (Γ gs) 6) V λY=>aG v8 (j0 dh Y M) V λ_ z=>K z:=by
 have N:=h.old;have Z:=L.lt;obtain⟨lc,al,am,an,aa,O,ac,h1,ap,aq,au,ad,av,C⟩:=id N;obtain⟨C,P⟩:=C rfl;have O:v=aa:=by rw[ac]at x;exact(Z5 x).symm
 subst O;have ae:bs (λr=>B r/\r<w.heap.size) R w xs a:=ao.Y W (λr e h=>⟨h,e⟩) λ_ _ h=>h;refine pI aE.p rfl dh.u dh.i cC.i rfl L x ad J ae (λr e Q=>⟨λah=>(q r e ah.1).1 3 Q.1,P 3 r Q⟩) ⟨λh=>by have:=f 3 gs h.1;omega,λh=>by have:=(q gs Z h.1).2;omega,λh=>by have:=s gs h;omega⟩ Ω Ω λM z S ai aj=>?_;refine X _ _ z (S.Y λr _ h=>h.elim (λh=>by have:=f 3 r h.1;omega) λh=>Ω) ai (N.lj S (λr e=>?_) aj (λj r F e=>?_) λr e=>?_) (λj r e=>?_) λj F=>?_
 .rcases e with e|rfl
  .exact .inl e
  .exact .inr ⟨λj h=>by have:=f j r h.1;omega,λh=>by have:=s r h;omega⟩
 .rcases e with e|e|e
  .exact C 3 j r (R7 F) e
  .exact λh=>(q r e.2 e.1).1 j h.1
  .exact λh=>by have:=h.2;omega
 .rcases e with e|e|e
  .exact P 3 r e
  .exact λh=>by have:=(q r e.2 e.1).2;have:=s r h;omega
  .exact λh=>by have:=s r h;omega
 .unfold fw at e;split at e
  .rcases e with e|e|e
   .exact f 3 r e.1
   .exact (q r e.2 e.1).2
   .omega
  .exact f j r e.1
 .rw[Z6 (R7 F)]
end
def ou{R:ah}{v:x4}{g:Nat}(h:aB .i64 e w g v l):bs (λr=>lw v r) R w [v] l:=by
 have h1:=mj (R:=R) h;by_cases f:v= .slice ν 0 0
 .subst f;have:l=[]:=by
   obtain⟨j,⟨_,a⟩|⟨_,_,a,_⟩⟩:=h
   .exact Z2 a
   .cases a
  subst this;exact gm
 .obtain⟨j,⟨a,_⟩|⟨cap,cs,a,_⟩⟩:=id h
  .exact ro a f
  .refine ao.Y h1 (λr _ p=>?_) λ_ _ h=>h;rw[a];exact⟨_,_,_,rfl,p.symm⟩
def yD{R:ah}{v:x4}{g:Nat}(e:∀r c,B<=r->ag w r ai c->R r)(h:aB .i64 ai w g v l)(f:∀r,lw v r->B<=r):Seen R w [v] l:=pa (ou (R:=λ_=>False) h) λr p a=>by
 rcases a with a|a
 .obtain⟨c,j⟩:=Qt h r a;exact e r c (f r a) j
 .exact a.elim
def Ri{R:ah}{zero:Int}{lc:x4}(h:Seen R w [lc] co):bD v2 (λ_ _=>False) R w [Δ k,lc,Δ zero,.slice ν 0 0,.slice ν 0 0,.slice ν 0 0,.slice ν 0 0,.slice ν 0 0] k co zero [] [] [] [] []:=
 ⟨_,_,_,_,_,_,rfl,h,gm,gm,gm,gm,gm,λ_=>⟨λ_ _ _ _ h=>h.elim,λ_ _ h=>h.elim⟩⟩
def bD.at{m:Bool}{A:Nat->ah}{R:ah}{cs:List x4}{zero:Int}{D:List (Λ)}{G:List Bool}{aZ:List (Λ)}{H:List jN}{E:List mK}(h:bD m A R w cs k co zero D G aZ H E)(c:Nat)(a:c<8):∃v,cs[c]?=σ v:=⟨_,x8 (by rw[h.len.1];exact a)⟩
def Rj(R:ah)(w:x6)(e gt gs:Nat)(n:aI)(f:List x4)(i j:Nat)(a:x6):Prop:=Ext w a/\ag a e dY f/\ag a gt aE z12/\∃A cs,ag a gs aE cs/\(∀q r,A q r->gs<r)/\
 bD v2 A R a cs n.k n.co n.zero ((n.unary.take i).map λu=>aC (newVar u)) (o6 i v6) (n.unary.take i) ((n.d9.take j).map λg=>js (lS n.co g)) []
def Fw{bI:x4}{n:aI}{R:ah}(ax:∀r,R r->r<w.heap.size)(a7:∀r c,B<=r->ag w r ai c->R r)(cB:yg w B bI n)(ad:lb n)(ec:n.d9.length<=256):ak v8 Ip [bI] w λv I=>Ext w I/\∃A cs,v= .agg cs.toArray/\gC v2 A R I cs n.k n.co (c6 n)/\∀q r,A q r->w.heap.size<=r:=by
 have ed:=ad.co.2.1;have cD:=ad.lQ;refine az func63 ?_;refine bn λg1 U ee a8 cE=>?_;obtain⟨lc,gz,cF,eg,bJ,cG,eh,ba,ay,aA,cH,bK,bb,cI,bL,cJ,bM⟩:=Qu cB cE;refine bE aE.i λgt V ei aG aH=>?_;have aH:ag V gt aE z12:=aH;have bc:=ay.W aG;rw[aJ dY.p 0 bc rfl,aJ dY.p 1 bc rfl,aJ dY.p 2 bc rfl,
  dk (cs:=#[Δ n.k,lc,Δ n.zero,.slice ν 0 0,.slice ν 0 0,.slice ν 0 0,.slice ν 0 0,.slice ν 0 0]) (by obtain⟨_,_,_,e⟩:=c5 aA.ls;rw[e];kernel_rfl)]
 refine bE aE.i λgs ej ek aK cK=>?_;have cL:Seen R w [lc] n.co:=yD a7 aA cJ;have em:=a8.size;have en:=aG.size;have z3:=aK.size;have cM:=(a8.F aG).F aK;have bN:=Ri (k:=n.k) (zero:=n.zero) (bp cL cM);refine b1 (vs:=[Δ n.k,lc,Δ n.zero,.slice ν 0 0,.slice ν 0 0,.slice ν 0 0,.slice ν 0 0,.slice ν 0 0]) aE.i rfl rfl bN.len.2 cK λeo bd ep cN=>?_;have er:=aH.lt;have es:=ay.lt;have cO:gt≠gs:=Ω
 have be:=(aG.F aK).put bd Ω;have bO:=a8.F be;have cP:=(aH.W aK).aa bd λhe=>cO he;have et:w.heap.size<gs:=Ω
 rw[aJ dY.p 1 (ay.W be) rfl,a1 an.u (aA.W bO).ls];have cQ:=bN.aa bd λr f h he=>by
  have he:r=gs:=he;rcases h with⟨_,h⟩|h
  .exact h
  .have:=ax r h;omega
 refine bY.range n.co.length (λi O=>Rj R w g1 gt gs n [Δ n.k,lc,Δ n.zero,cF,cG] i 0 O) Ω ⟨bO,ay.W be,cP,_,_,cN,(λ_ _ h=>h.elim),cQ⟩ ?_ ?_
 .rintro i O cR hi ⟨P,bf,bg,A,cs,ae,bi,aL⟩ cS;obtain⟨z,bj⟩:=aD (l:=n.co) hi;obtain⟨u,hu⟩:=aD (l:=n.unary) (i:=i) Ω;have eu:=ad.co.2.2 z (x7 bj);obtain⟨ev,_⟩:=ad.unary i z u bj hu;refine bC Ω ?_;rw[bh an.u ai.i Ψ (aA.W P).ls bj];obtain⟨bP,rfl⟩:∃m:Nat,z=m:=⟨z.toNat,Ω⟩;refine b7.range bP (λj aj aM=>Ext O aM/\∃g,aB .i64 ai aM g aj ((X9 j).map λv:Nat=>(v:Int))/\∀r,lw aj r->O.heap.size<=r) Ω
   ⟨Ext.refl _,0,aB.nil _ _ _ _,λr f=>by obtain⟨a,n,c,J,Q⟩:=f;cases J⟩ ?_ ?_
  .rintro j aj aM bk bl ⟨K,cT,S,aN⟩ bm;refine bC Ω ?_;refine eU an.u ai.i rfl λew ey cU ez H cV=>?_;refine jp an.u ai.i rfl (S.W H) cV.ls Θ Θ λeA cX cY cZ c1 W=>?_;rw[aO];have c2:=K.size;have c3:=H.size;refine bm _ _ ⟨(K.F H).then W λr f he=>by have:=aN r he;omega,cX,?_,λr f=>(c1 r f).elim (aN r) λh=>Ω⟩;rw[List.range_succ,Z4];exact cZ
  rintro aj aM bk ⟨K,cT,S,aN⟩;refine b3 Ω ?_;have c4:(X9 bP).map (λv:Nat=>(v:Int))=aC (newVar u):=by rw[Qv];congr 2;omega
  rw[c4]at S;have c2:=K.size;have eB:=P.size;have eC:=ae.lt;have al:∀r,R r->r<gs:=λr f=>by have:=ax r f;omega
  have low:∀{s C:x6}{b:Nat}{e:o5}{c:List x4},af (λr=>gs<=r) s C->b<gs->ag s b e c->ag C b e c:=λL c7 h=>h.aa L λX=>by have X:=X;omega
  have am:∀{s C:x6},Ext w s->af (λr=>gs<=r) s C->Ext w C:=λbo L=>bo.then L λr f h=>by have h:=h;omega
  have bQ:=aL.old.W K;have c8:∀q r,(A q r/\r<O.heap.size)->gs<r:=λq r h=>bi q r h.1;obtain⟨eD,bR⟩:=bQ.at 3 Ω;rw[aJ aE.p 3 (ae.W K) bR];refine jB ca.u an.i Φ (a:=aC (newVar u)) (cs:=[aj]) S.ls.cells.1 (ou (R:=R) S) λeE cU H _ c9=>?_;have c3:=H.size;have aP:=K.F H;refine bD.Re (bQ.W H) (ae.W aP) bR c8 al c9 (bp (ou S) H) (λr f h=>?_) Θ λeF eH cY W bS bT da _=>?_
  .have:=aN r h;exact⟨λj h=>Ω,Ω⟩
  have eI:=W.size;obtain⟨eJ,bU⟩:=bT.at 4 Ω;rw[aJ aE.p 4 bS bU];refine jB (a:=v6) (cs:=[.bool v6]) (A:=λ_=>False) (R:=R) jb.u dK.i Φ rfl rfl λeK eL Y _ db=>?_;refine bD.Rf (B:=λ_=>False) (bT.W Y) (bS.W Y) bU da al db rfl (λr f h=>h.elim) Θ λdc eM bV aQ bX dd de _=>?_;have z9:=Y.size;have eN:=aQ.size;have df:Ext w bV:=am ((am (P.F aP) W).F Y) aQ;have dg:=low aQ Ω ((low W Ω (bf.W aP)).W Y);have di:=low aQ Ω ((low W Ω (bg.W aP)).W Y);intro bq Z _ _;have bZ:=bX.W Z;have b0:=dg.W Z;have b2:=df.F Z;obtain⟨ab,aR⟩:∃ab,bJ[i]?=σ ab:=⟨_,x8 (by have:=congrArg Q2 bK;rw[r8]at this;omega)⟩;have dj:ab.l=u:=by
   have b4:(bJ.map (·.l))[i]?=σ ab.l:=by rw[u4,aR];rfl
   rw[bK,hu]at b4;exact(Z5 b4).symm
  have br:=cH.W b2;obtain⟨eO,b5⟩:=br.2 ab (x7 aR);rw[dj]at b5;have b6:=dd.old.W Z;have dl:∀q r,(dc q r/\r<bV.heap.size)->gs<r:=λq r h=>de q r h.1;obtain⟨eP,b8⟩:=b6.at 5 Ω;rw[aJ aE.p 5 bZ b8,aJ dY.p 3 b0 rfl,ck rfl cW.u aw.i br.1 (x5.1 aR).1,aF (v:=ab.v) (o:=i*1) Ψ (br.1.range aR 0 _ rfl)];refine yj (k:=.i64) aw.u av.i λdm eQ eR eS aT cb=>?_;refine⟨.inl aT,?_⟩;refine jp aw.u av.i rfl cb (b5.W aT).ls Θ Θ λcc eV dn aU dp dq=>?_;rw[List.nil_append]at aU;have eW:=Z.size;have eX:=aT.size;have cd:∀r,lw dm r->bq.heap.size<=r:=λr f=>by have:=(bW cb f).1;omega
  have dr:∀r,lw cc r->bq.heap.size<=r:=λr f=>(dp r f).elim (cd r) λh=>Ω
  have bt:Ext bq dn:=aT.then dq λr f he=>by have:=cd r he;omega
  refine⟨.inl bt,?_⟩;have eY:=bt.size;refine jB cW.u aw.i Φ (a:=u) (cs:=[cc]) aU.ls.cells.1 (ou (R:=R) aU) λeZ e0 bu _ ds=>?_;have e1:=bu.size;have ac:=bt.F bu;refine⟨.inl ac,?_⟩;refine bD.Rg (b6.W ac) (bZ.W ac) b8 dl al ds (bp (ou (R:=R) aU) bu) (λr f h=>?_) Θ λdt du e2 bw dv dw dx _=>?_
  .have:=dr r h;have:=bX.lt;exact⟨λj h=>Ω,Ω⟩
  rw[aO];refine cS _ ⟨am (b2.F ac) bw,low bw Ω (b0.W ac),low bw Ω ((di.W Z).W ac),dt,du,dv,dx,?_⟩;rw[r9,hu,j6,Z4,T3,List.map_nil,List.replicate_succ'];exact dw
 rintro O cR ⟨P,bf,bg,A,cs,ae,bi,aL⟩;refine b3 Ω ?_;rw[b9 Ω]at aL;have e3:ba.length=n.d9.length:=by rw[<-bL,r8]
 have dy:=bb.W P;rw[aJ dY.p 4 bf rfl,ef c0.u dy];have al:∀r,R r->r<gs:=λr f=>by have:=ax r f;omega
 have low:∀{s C:x6}{b:Nat}{e:o5}{c:List x4},af (λr=>gs<=r) s C->b<gs->ag s b e c->ag C b e c:=λL c7 h=>h.aa L λX=>by have X:gs<=_:=X;omega
 have am:∀{s C:x6},Ext w s->af (λr=>gs<=r) s C->Ext w C:=λbo L=>bo.then L λr f h=>by have h:gs<=r:=h;omega
 refine bY.range ba.length (λj G=>Ext w G/\ag G gt aE z12/\∃A cs,ag G gs aE cs/\(∀q r,A q r->gs<r)/\
  bD v2 A R G cs n.k n.co n.zero (n.unary.map λu=>aC (newVar u)) (o6 n.co.length v6) n.unary ((n.d9.take j).map λg=>js (lS n.co g)) []) bb.le ⟨P,bg,A,cs,ae,bi,aL⟩ ?_ ?_
 .rintro j G bk bl ⟨M,bx,bA,aV,aW,aX,ao⟩ bm;obtain⟨y,ap⟩:=aD (l:=ba) bl;have ce:n.d9[j]?=σ (dO y):=by rw[<-bL,u4,ap];rfl
  have cf:=(ad.d9 (dO y) (x7 ce)).1;have e4:y.cs.length<=4096:=by
   have h1:y.cs.length=_:=cf.len;have X:=cf.small;omega
  have cg:=cI y (x7 ap);have ch:=cg.W M;have ci:=bb.W M;refine bC Ω ?_;rw[ck rfl c0.u a6.i ci bl,bz a6.p a6.i rfl (ci.range ap)];refine bE a6.i λe5 e6 e7 dz dA=>?_;refine b1 (vs:=dW y) a6.i rfl rfl ch.one dA λdC dD e8 dE=>?_;have dF:Ext G dC:=dz.put dD Ω;intro bB cj _ _;have N:=dF.F cj;have cl:=aW.W N;have bF:=dE.W cj;have dG:=ch.W N;obtain⟨⟨e9,cm⟩,⟨fa,cn⟩,fb,dH⟩:=id dG;have cp:=ao.old.W N;have dI:∀q r,(bA q r/\r<G.heap.size)->gs<r:=λq r h=>aX q r h.1;obtain⟨fc,cq⟩:=cp.at 6 Ω;rw[aJ aE.p 6 cl cq,aJ a6.p 0 bF rfl,aJ a6.p 1 bF rfl,aJ a6.p 2 bF rfl];refine yj (k:=.i64) aw.u av.i λv25 fd ff fg aY cr=>?_;refine⟨.inl aY,?_⟩;refine jp aw.u av.i rfl cr (dH.W aY).ls Θ Θ λE fh ct aZ dJ dL=>?_;rw[List.nil_append]at aZ;have fi:=N.size;have z25:=aY.size;have cu:∀r,lw v25 r->bB.heap.size<=r:=λr f=>by have:=(bW cr f).1;omega
  have dM:∀r,lw E r->bB.heap.size<=r:=λr f=>(dJ r f).elim (cu r) λh=>Ω
  have a2:Ext bB ct:=aY.then dL λr f he=>by have:=cu r he;omega
  refine⟨.inl a2,?_⟩;rw[dk (cs:=#[y.aS,y.lc,E]) (by obtain⟨_,_,_,J⟩:=c5 cm.ls;obtain⟨_,_,_,Q⟩:=c5 cn.ls;obtain⟨_,_,_,aq⟩:=c5 aZ.ls;rw[J,Q,aq];kernel_rfl),
   dk (cs:=#[y.aS,y.lc,E,.bool v2]) (by obtain⟨_,_,_,J⟩:=c5 cm.ls;obtain⟨_,_,_,Q⟩:=c5 cn.ls;obtain⟨_,_,_,aq⟩:=c5 aZ.ls;rw[J,Q,aq];kernel_rfl)]
  have fj:=a2.size;have cw:=(M.F N).F a2;obtain⟨⟨ga,dN⟩,⟨fk,dP⟩,_⟩:=id cg;have own:bs (α:=jN) (λr=>lw E r) R ct [y.aS,y.lc,E,.bool v2] (js (lS n.co (dO y))):=by
   refine⟨[y.aS,y.lc,E],[.bool v2],λr=>lw E r,λ_=>False,rfl,λ_ h=>h,λ_ h=>h.elim,λ_ _ _ h=>h,⟨[y.aS],[y.lc,E],λ_=>False,λr=>lw E r,rfl,λ_ h=>h.elim,λ_ h=>h,λ_ _ h=>h.elim,?_,[y.lc],[E],λ_=>False,λr=>lw E r,rfl,λ_ h=>h.elim,λ_ h=>h,λ_ _ h=>h.elim,?_,?_⟩,rfl⟩
   .exact bp (yD a7 dN λr f=>bM y (x7 ap) r (.inr (.inl f))) cw
   .exact bp (yD a7 dP λr f=>bM y (x7 ap) r (.inr (.inr f))) cw
   .exact ou aZ
  refine jB dh.u cC.i Φ rfl own λfm fo bG _ dQ=>?_;have fp:=bG.size;have au:=a2.F bG;refine⟨.inl au,?_⟩;refine bD.Rh (cp.W au) (cl.W au) cq dI al dQ (bp own bG) (λr f h=>?_) Θ λdR dS fq cz dT dU dV _=>?_
  .have:=dM r h;have:=aW.lt;exact⟨λj h=>Ω,Ω⟩
  rw[aO];refine bm _ ⟨am (M.F (N.F au)) cz,low cz Ω (bx.W (N.F au)),dR,dS,dT,dV,?_⟩;rw[r9,ce,j6,Z4,T3,List.map_nil];exact dU
 rintro G bk ⟨M,bx,bA,aV,aW,aX,ao⟩;rw[b9 Ω]at ao;refine b3 Ω ?_;obtain⟨bH,dX⟩:=ao.len;rw[bz aE.p aE.i bH (show G.rangeAt gs 0 aV from aW.range)];refine b1 (vs:=aV) aE.i bH rfl dX bx λfs cA ft dZ=>?_;rw[fe aE.p aE.i bH dZ.range];have ea:=ao.aa cA λr f h he=>by
  have he:r=gt:=he;rcases h with⟨q,h⟩|h
  .have:=aX q r h;omega
  .have:=ax r h;omega
 have fu:=M.size;refine⟨M.then cA λr f he=>by have he:r=gt:=he;omega,bA,aV,rfl,?_,λq r h=>by have:=aX q r h;omega⟩;have J:(c6 n).d6.map aC=n.unary.map λu=>aC (newVar u):=by show(n.unary.map newVar).map aC=_;rw[S5];rfl
 have Q:(c6 n).d6.map (λx=>decide (x.gone≠0))=o6 n.co.length v6:=by
  show(n.unary.map newVar).map _=_;rw[S5,<-cD];exact List.map_const' ..
 have aq:(c6 n).d6.map (·.un)=n.unary:=by show(n.unary.map newVar).map _=_;rw[S5];exact List.map_id _
 have eb:(c6 n).d9.map js=n.d9.map λg=>js (lS n.co g):=by show(n.d9.map (lS n.co)).map js=_;rw[S5];rfl
 unfold gC;rw[J,Q,aq,eb];exact ea
section
variable{A:Nat->ah}{B R:ah}{w:x6}{cs xs:List x4}{gs:Nat}{y v:x4}{k zero:Int}{co:Λ}{D:List (Λ)}{G:List Bool}{aZ:List (Λ)}{H:List jN}{E:List mK}{K:x6->Prop}{Z:ah}
def bD.Rk{ac:o5}(h:bD v2 A R w cs k co zero D G aZ H E)(O:ag w gs aE cs)(x:cs[3]?=σ v)(z:∀j r,A j r->gs<r\/Z r)(f:∀r,Z r->r<gs/\A 4 r)(s:∀r,R r->r<gs)(J:cg w 1 y 1 xs)(ad:bs B R w xs a)(q:∀r,r<w.heap.size->B r->(∀j,¬A j r)/\gs<r)(aw:D.length<=1000)(ae:∀aN bF I,af (λr=>gs<=r) w I->ag I gs aE bF->bD v2 aN R I bF k co zero (D++[a]) G aZ H E->(∀j r,aN j r->gs<r\/Z r)->(∀r,Z r->r<gs/\aN 4 r)->(∀j,j≠3->bF[j]?=cs[j]?)->K I):
  aG v8 (Z9 #[ca,ca] ac #[v,y]) w λP V=>ab v8 (u7 aE (Γ gs) 3) V λah=>aG v8 (j0 ca ah P) V λ_ C=>K C:=by
 have Q:=h.old;have ai:∀i j r,i≠j->A i r->¬A j r:=by obtain⟨_,_,_,_,_,_,_,_,_,_,_,_,_,aj⟩:=id h;exact(aj rfl).1
 have S:∀r,A 0 r->gs<r:=λr h=>(z 0 r h).resolve_right λF=>ai 0 4 r Ω h (f r F).2;have U:∀j,¬A j gs:=λj h=>(z j gs h).elim (λh=>Ω) λh=>by have:=(f gs h).1;omega
 have ak:=O.lt;obtain⟨lc,al,ax,ay,az,W,am,h1,F,aA,aB,aC,aD,L⟩:=id Q;obtain⟨L,X⟩:=L rfl;have W:v=al:=by rw[am]at x;exact(Z5 x).symm
 subst W;have ap:bs (λr=>B r/\r<w.heap.size) R w xs a:=ao.Y ad (λr e h=>⟨h,e⟩) λ_ _ h=>h;refine pI aE.p rfl ca.u ca.i an.i rfl O x F J ap (λr e Y=>⟨λaq=>(q r e aq.1).1 0 Y.1,X 0 r Y⟩) ⟨λh=>U 0 h.1,λh=>by have:=(q gs ak h.1).2;omega,λh=>by have:=s gs h;omega⟩ Ω Ω λP C aa au av=>?_;refine ae _ _ C (aa.Y λr _ h=>h.elim (λh=>by have:=S r h.1;omega) λh=>Ω) au (Q.yC aa (λr e=>?_) av (λj r M e=>?_) λr e=>?_) (λj r e=>?_) (λr N=>⟨(f r N).1,?_⟩) λj M=>?_
 .rcases e with e|rfl
  .exact .inl e
  .exact .inr ⟨λj h=>U j h.1,λh=>by have:=s r h;omega⟩
 .rcases e with e|e|e
  .exact L 0 j r (R7 M) e
  .exact λh=>(q r e.2 e.1).1 j h.1
  .exact λh=>by have:=h.2;omega
 .rcases e with e|e|e
  .exact X 0 r e
  .exact λh=>by have:=(q r e.2 e.1).2;have:=s r h;omega
  .exact λh=>by have:=s r h;omega
 .unfold fw at e;split at e
  .rcases e with e|e|e
   .exact .inl (S r e.1)
   .exact .inl (q r e.2 e.1).2
   .exact .inl Ω
  .exact z j r e.1
 .unfold fw;rw[rc Ω];exact⟨(f r N).2,by have:=(f r N).1;omega⟩
 .rw[Z6 (R7 M)]
def bD.Rl{ac:o5}(h:bD v2 A R w cs k co zero D G aZ H E)(N:ag w gs aE cs)(x:cs[5]?=σ v)(z:∀j r,A j r->gs<r\/Z r)(f:∀r,Z r->r<gs/\A 4 r)(s:∀r,R r->r<gs)(J:cg w 1 y 1 xs)(ad:bs B R w xs a)(q:∀r,r<w.heap.size->B r->(∀j,¬A j r)/\gs<r)(ax:aZ.length<=1000)(ae:∀aN bF I,af (λr=>gs<=r) w I->ag I gs aE bF->bD v2 aN R I bF k co zero D G (aZ++[a]) H E->(∀j r,aN j r->gs<r\/Z r)->(∀r,Z r->r<gs/\aN 4 r)->(∀j,j≠5->bF[j]?=cs[j]?)->K I):
  aG v8 (Z9 #[cW,cW] ac #[v,y]) w λO V=>ab v8 (u7 aE (Γ gs) 5) V λah=>aG v8 (j0 cW ah O) V λ_ C=>K C:=by
 have P:=h.old;have ai:∀i j r,i≠j->A i r->¬A j r:=by obtain⟨_,_,_,_,_,_,_,_,_,_,_,_,_,aj⟩:=id h;exact(aj rfl).1
 have Q:∀r,A 2 r->gs<r:=λr h=>(z 2 r h).resolve_right λS=>ai 2 4 r Ω h (f r S).2;have U:∀j,¬A j gs:=λj h=>(z j gs h).elim (λh=>Ω) λh=>by have:=(f gs h).1;omega
 have ak:=N.lt;obtain⟨lc,ay,az,al,aA,W,am,h1,S,aB,an,aC,aD,F⟩:=id P;obtain⟨F,X⟩:=F rfl;have W:v=al:=by rw[am]at x;exact(Z5 x).symm
 subst W;have ap:bs (λr=>B r/\r<w.heap.size) R w xs a:=ao.Y ad (λr e h=>⟨h,e⟩) λ_ _ h=>h;refine pI aE.p rfl cW.u cW.i aw.i rfl N x an J ap (λr e Y=>⟨λaq=>(q r e aq.1).1 2 Y.1,X 2 r Y⟩) ⟨λh=>U 2 h.1,λh=>by have:=(q gs ak h.1).2;omega,λh=>by have:=s gs h;omega⟩ Ω Ω λO C aa au av=>?_;refine ae _ _ C (aa.Y λr _ h=>h.elim (λh=>by have:=Q r h.1;omega) λh=>Ω) au (P.li aa (λr e=>?_) av (λj r L e=>?_) λr e=>?_) (λj r e=>?_) (λr M=>⟨(f r M).1,?_⟩) λj L=>?_
 .rcases e with e|rfl
  .exact .inl e
  .exact .inr ⟨λj h=>U j h.1,λh=>by have:=s r h;omega⟩
 .rcases e with e|e|e
  .exact F 2 j r (R7 L) e
  .exact λh=>(q r e.2 e.1).1 j h.1
  .exact λh=>by have:=h.2;omega
 .rcases e with e|e|e
  .exact X 2 r e
  .exact λh=>by have:=(q r e.2 e.1).2;have:=s r h;omega
  .exact λh=>by have:=s r h;omega
 .unfold fw at e;split at e
  .rcases e with e|e|e
   .exact .inl (Q r e.1)
   .exact .inl (q r e.2 e.1).2
   .exact .inl Ω
  .exact z j r e.1
 .unfold fw;rw[rc Ω];exact⟨(f r M).2,by have:=(f r M).1;omega⟩
 .rw[Z6 (R7 L)]
def bD.Rm{a:jN}{ac:o5}(h:bD v2 A R w cs k co zero D G aZ H E)(N:ag w gs aE cs)(x:cs[6]?=σ v)(z:∀j r,A j r->gs<r\/Z r)(f:∀r,Z r->r<gs/\A 4 r)(s:∀r,R r->r<gs)(J:cg w 4 y 1 xs)(ad:bs B R w xs a)(q:∀r,r<w.heap.size->B r->(∀j,¬A j r)/\gs<r)(aw:H.length<=1000)(ae:∀aN bF I,af (λr=>gs<=r) w I->ag I gs aE bF->bD v2 aN R I bF k co zero D G aZ (H++[a]) E->(∀j r,aN j r->gs<r\/Z r)->(∀r,Z r->r<gs/\aN 4 r)->(∀j,j≠6->bF[j]?=cs[j]?)->K I):
  aG v8 (Z9 #[dh,dh] ac #[v,y]) w λO V=>ab v8 (u7 aE (Γ gs) 6) V λah=>aG v8 (j0 dh ah O) V λ_ C=>K C:=by
 have P:=h.old;have ai:∀i j r,i≠j->A i r->¬A j r:=by obtain⟨_,_,_,_,_,_,_,_,_,_,_,_,_,aj⟩:=id h;exact(aj rfl).1
 have Q:∀r,A 3 r->gs<r:=λr h=>(z 3 r h).resolve_right λS=>ai 3 4 r Ω h (f r S).2;have U:∀j,¬A j gs:=λj h=>(z j gs h).elim (λh=>Ω) λh=>by have:=(f gs h).1;omega
 have ak:=N.lt;obtain⟨lc,ax,ay,az,al,W,am,h1,S,aA,aB,an,aC,F⟩:=id P;obtain⟨F,X⟩:=F rfl;have W:v=al:=by rw[am]at x;exact(Z5 x).symm
 subst W;have ap:bs (λr=>B r/\r<w.heap.size) R w xs a:=ao.Y ad (λr e h=>⟨h,e⟩) λ_ _ h=>h;refine pI aE.p rfl dh.u dh.i cC.i rfl N x an J ap (λr e Y=>⟨λaq=>(q r e aq.1).1 3 Y.1,X 3 r Y⟩) ⟨λh=>U 3 h.1,λh=>by have:=(q gs ak h.1).2;omega,λh=>by have:=s gs h;omega⟩ Ω Ω λO C aa au av=>?_;refine ae _ _ C (aa.Y λr _ h=>h.elim (λh=>by have:=Q r h.1;omega) λh=>Ω) au (P.lj aa (λr e=>?_) av (λj r L e=>?_) λr e=>?_) (λj r e=>?_) (λr M=>⟨(f r M).1,?_⟩) λj L=>?_
 .rcases e with e|rfl
  .exact .inl e
  .exact .inr ⟨λj h=>U j h.1,λh=>by have:=s r h;omega⟩
 .rcases e with e|e|e
  .exact F 3 j r (R7 L) e
  .exact λh=>(q r e.2 e.1).1 j h.1
  .exact λh=>by have:=h.2;omega
 .rcases e with e|e|e
  .exact X 3 r e
  .exact λh=>by have:=(q r e.2 e.1).2;have:=s r h;omega
  .exact λh=>by have:=s r h;omega
 .unfold fw at e;split at e
  .rcases e with e|e|e
   .exact .inl (Q r e.1)
   .exact .inl (q r e.2 e.1).2
   .exact .inl Ω
  .exact z j r e.1
 .unfold fw;rw[rc Ω];exact⟨(f r M).2,by have:=(f r M).1;omega⟩
 .rw[Z6 (R7 L)]
end
def kJ(w:x6)(g:Nat)(k:Int)(co:Λ)(s:am):Prop:=∃lc a e f h j,ag w g aE [Δ k,lc,Δ s.zero,a,e,f,h,j]/\aM .i64 w lc co/\Seen eM w [lc] co/\
 Seen eM w [a] (s.d6.map aC)/\Seen eM w [e] (s.d6.map λx=>decide (x.gone≠0))/\Seen eM w [f] (s.d6.map (·.un))/\Seen eM w [h] (s.d9.map js)/\Seen eM w [j] (s.du.map qN)
section
variable{w I:x6}{g:Nat}{v:x4}{k:Int}{co:Λ}{s:am}
def kJ.W(h:kJ w g k co s)(a:Ext w I):kJ I g k co s:=by
 obtain⟨lc,e,f,j,p,q,r,h1,x,y,z,A,B,C⟩:=h;exact⟨lc,e,f,j,p,q,r.W a,h1.W a,bp x a,bp y a,bp z a,bp A a,bp B a,bp C a⟩
def e9.box(h:e9 w v k co s)(f:Ext w I)(j:ag I g aE v.cells.toList):kJ I g k co s:=by
 obtain⟨cs,rfl,lc,z,B,C,E,F,rfl,h1,p,q,r,x,y,_⟩:=h;obtain⟨_,_,_,G⟩:=c5 (dl h1);have c:∀{α:Type}[ao α]{v:x4}{l:List α}{A:ah},ao.rep v6 A eM w [v] l->∃a n c,v= .slice a n c:=λh=>by
  obtain⟨_,_,_,_,_,⟨_,b,o,base,cap,e,_⟩,_⟩:=jA h;exact⟨_,_,_,e⟩
 obtain⟨_,_,_,H⟩:=c p;obtain⟨_,_,_,J⟩:=c q;obtain⟨_,_,_,K⟩:=c r;obtain⟨_,_,_,L⟩:=c x;obtain⟨_,_,_,M⟩:=c y;refine⟨lc,z,B,C,E,F,?_,(dl h1).W f,bp h1 f,bp p f,bp q f,bp r f,bp x f,bp y f⟩;rw[G,H,J,K,L,M]at j ⊢;exact j
def kJ.load{K:x4->Prop}(h:kJ w g k co s)(a:∀u,e9 w u k co s->K u):ab v8 (u6 aE (Γ g)) w K:=by
 obtain⟨lc,e,f,j,q,r,x,h1,y,z,A,B,C,E⟩:=h;rw[bz aE.p aE.i rfl x.range];exact a _ ⟨_,rfl,lc,e,f,j,q,r,rfl,y,z,A,B,C,E,λh=>by cases h⟩
def Rn{i:Int}(h:e9 w v k co s):ak v8 Jf [v,Δ i] w λr I=>r= .bool (decide (0<=i/\i<co.length))/\Ext w I:=by
 refine az func144 ?_;refine bn λg1 U x a e=>?_;obtain⟨lc,y,z,A,B,C,e,q,_⟩:=h.box a e;refine aY (λv V=>v= .bool (decide (0<=i/\i<co.length))/\Ext w V) (λ_ _ h=>h) λax f=>?_;rw[cP,al];refine⟨λj=>?_,λj=>f _ _ ⟨by rw[s2];omega,a⟩⟩;rw[aJ aE.p 1 e rfl,a1 an.u q,aT];refine f _ _ ⟨?_,a⟩;congr 1;exact decide_eq_decide.2 ⟨λh=>⟨j,h⟩,λh=>h.2⟩
def mL{m:Bool}{S R:ah}{cs:List x4}{f:cm}(h:ao.rep (α:=jN) m S R w cs (js f)):∃aS lc a8,cs=[aS,lc,a8,.bool (decide (f.live≠0))]/\Seen eM w [aS] f.sc/\Seen eM w [lc] f.aj/\Seen eM w [a8] f.cs:=by
 obtain⟨E,p,A,B,rfl,_,_,_,⟨q,F,aN,G,rfl,_,_,_,h1,r,s,H,x,rfl,_,_,_,a,e⟩,j⟩:=h;have one:∀{α:Type}[ao α]{m:Bool}{S R:ah}{c:List x4}{l:List α},ao.rep m S R w c l->∃v,c=[v]:=λh=>by obtain⟨v,y,_⟩:=h;exact⟨v,y⟩
 have h1:Seen _ w q f.sc:=h1;have a:Seen _ w r f.aj:=a;have j:p=[.bool (decide (f.live≠0))]:=j;have e:ao.rep m x R w s f.cs:=e;obtain⟨z,rfl⟩:=one h1;obtain⟨C,rfl⟩:=one a;obtain⟨v3,rfl⟩:=one e;subst j;exact⟨z,C,v3,rfl,jz h1,jz a,jz e⟩
def Ro{j:Int}(h:e9 w v k co s):ak v8 Ky [v,Δ j] w λr I=>r= .bool (decide (0<=j)&&fv s j.toNat)/\Ext w I:=by
 refine az func260 ?_;refine bn λg1 U C a e=>?_;obtain⟨lc,E,G,H,J,K,e,L,_,_,_,_,y,_⟩:=h.box a e;refine aY (λv V=>v= .bool (decide (0<=j)&&fv s j.toNat)/\Ext w V) (λ_ _ h=>h) λax q=>?_;rw[cP,al];refine⟨λx=>?_,λx=>q _ _ ⟨by rw[s2 x];rfl,a⟩⟩;rw[aJ aE.p 6 e rfl,fU dh.u y,aT,al,r8];refine⟨λM=>?_,λN=>q _ _ ⟨by unfold fv;rw[Y5 Ω,Bool.and_false],a⟩⟩;obtain⟨f,z⟩:=aD (l:=s.d9) (i:=j.toNat) Ω;rw[aJ aE.p 6 e rfl];refine kv (i:=j.toNat) Ω dh.u cC.i y (by rw[u4,z];rfl) λb o cs A B=>?_;obtain⟨O,P,v3,rfl,_⟩:=mL B;rw[aU cC.p rfl,aF (v:=.bool (decide (f.live≠0))) Ψ (A 3 _ rfl)];exact q _ _ ⟨by unfold fv;rw[z,rs x,Q4],a⟩
end
end Go.Proofs.YtnhkbjhpbbobaaaGreatDoor
namespace Go.Vc
open Go Go.RowKit
section
variable{P:V5}{w:x6}{α:Type}[ao α]{S R:ah}
def sD{t:o5}{b:Nat}(f:P.underlying t=σ (.slice e))(hi:aR P e (ao.n α) b z)(j:∀v I,Ext w I->bs (λr=>w.heap.size<=r) R I [v] ([]:List α)->K v I):aG P (X2 t 0 #[]) w K:=
 kZ f hi Ω (cs:=#[]) (by simp[Instr.fill]) λg I x p q=>j _ I p (by
  have hm:b2 I g e (ao.n α) (.slice (σ ⟨g,0,ν⟩) 0 0) 0 []:=b2.full (by simpa using q) Ξ (by simp[maxLen]);exact⟨_,rfl,[],g,λ_ _=>False,⟨λ_ _ h=>h.elim,λ_ _ h=>h,λ_ _ _ _ _ h=>h.elim⟩,⟨rfl,λi c a s=>by simp at s⟩,pc hm (.inr (.inl Ω)),λ_=>⟨.inr Ω,e,hm⟩⟩)
def sE{t p:o5}{b:Nat}{v x:x4}{m:Bool}{S':ah}{l':List α}(j:P.underlying t=σ (.slice e))(hi:aR P e (ao.n α) b z)(q:z.cells.size=ao.n α)(h:bs S R w [v] ([]:List α))(s:ao.rep m S' R w [x] l')(y:∀{F:ah}{c:List x4}{a:α},ao.rep m F R w c a->bs (λ_=>False) R w c a)(A:∀r,r<w.heap.size->S r->¬R r)(B:l'.length*b<=140737488355328)(C:l'.length<=9223372036854775807)(E:∀f I,bs (λr=>S r\/w.heap.size<=r) R I [f] l'->af S w I->K f I):aG P (Z9 #[t,t] p #[v,x]) w K:=by
 obtain⟨vs,g,F,ac,he,J,_⟩:=jA s;refine Bi (l:=[]) (l':=l') (us:=vs) (G:=λ_ _=>False) j j hi q h J.sl ⟨he.1,λi c a H L=>y (he.2 i c a H L)⟩ (λ_ _ _ _ h=>h.elim) (λr M h=>⟨λ_ h=>h,A r M h⟩) (by simpa using B) (by simpa using C) λf I h1 N=>E f I (ao.Y h1 (λr _ h=>?_) λ_ _ h=>h) N;rcases h with h|⟨_,h⟩|h
 .exact .inl h
 .exact h.elim
 .exact .inr h
end
end Go.Vc
namespace Go.Proofs.YtnhkbjhpbbobaaaGreatDoor
open Go Go.Vc Go.RowKit Go.Proofs Go.Proofs.Tryz
set_option maxRecDepth 100000
def qO{α:Type}[ao α]{m:Bool}{S R:ah}{v:x4}{l:List α}(h:ao.rep m S R w [v] l):∃a n c,v= .slice a n c:=by
 obtain⟨_,_,_,_,_,⟨_,b,o,base,cap,e,_⟩,_⟩:=jA h;exact⟨_,_,_,e⟩
def Rp{cc:Nat->ah}{R:ah}{cs:List x4}{s:am}(h:gC v2 cc R w cs k co s)(E:∀r,R r->r<w.heap.size)(aM:bc k co s)(eR:s.d9.length<=1000)(he:s.du.length<=1000):
  ak v8 H7 [.agg cs.toArray] w λv I=>Ext w I/\∃A bF,v= .agg bF.toArray/\gC v2 A R I bF k co s/\∀q r,A q r->w.heap.size<=r:=by
 have eS:=aM.ev.2.1;have eU:=aM.d6;obtain⟨lc,ab,ac,ad,ae,J,rfl,cd,bm,ce,cf,bq,br,c6⟩:=bD.old h;refine az func33 ?_;refine bn λg1 U eV cg N=>?_;have N:ag U g1 aE [Δ k,lc,Δ s.zero,ab,ac,ad,ae,J]:=by
  obtain⟨_,_,_,c7⟩:=qO cd;obtain⟨_,_,_,c8⟩:=qO bm;obtain⟨_,_,_,c9⟩:=qO ce;obtain⟨_,_,_,da⟩:=qO cf;obtain⟨_,_,_,db⟩:=qO bq;obtain⟨_,_,_,dc⟩:=qO br;rw[c7,c8,c9,da,db,dc]at N ⊢;exact N
 have dd:∀u∈([Δ k,lc,Δ s.zero,ab,ac,ad,ae,J]:List x4),u.oneCell'=v2:=(bD.len h).2;refine bE aE.i λgt V eW bt ch=>?_;rw[bz aE.p aE.i rfl (N.W bt).range];refine bE aE.i λgs eX eY bw de=>?_;refine b1 (vs:=[Δ k,lc,Δ s.zero,ab,ac,ad,ae,J]) aE.i rfl rfl dd de λO ci eZ cj=>?_;have e0:=cg.size;have e1:=bt.size;have z3:=bw.size;have e2:=N.lt;have e3:=ch.lt;have bx:Ext U O:=(bt.F bw).put ci Ω;have df:=(ch.W bw).aa ci λhe=>by have he:gt=gs:=he;omega
 have ck:=cg.F bx;have bA:∀r,R r->r<gs:=λr B=>by have:=E r B;omega
 refine sD (α:=Bool) (R:=R) jb.u dK.i λv5 P al dg=>?_;have aN:=bx.F al;have z4:=bx.size;have z5:=al.size;rw[aJ aE.p 4 (N.W aN) rfl];refine sE (α:=Bool) jb.u dK.i rfl dg (bp (bp ce ck) al) (λh=>h) (λr B y H=>by have:=E r H;omega) Θ Θ λbB aY bG cl=>?_;have aX:∀{K L:x6}{b:Nat}{e:o5}{c:List x4},af (λr=>gs<=r) K L->b<gs->ag K b e c->ag L b e c:=λbH e4 h=>h.aa bH λy=>by have y:gs<=_:=y;omega
 have aP:∀{K L:x6},Ext w K->af (λr=>gs<=r) K L->Ext w L:=λdi bH=>di.then bH λr B h=>by have h:gs<=r:=h;omega
 have e5:=cj.lt;have bI:af (λr=>gs<=r) P aY:=cl.Y λr _ h=>by have h:O.heap.size<=r:=h;omega
 have dj:ag aY gs aE [Δ k,lc,Δ s.zero,ab,ac,ad,ae,J]:=(cj.W al).aa cl λh=>by have h:O.heap.size<=gs:=h;omega
 rw[aU aE.p rfl];refine bu (g:=gs) (o:=3) ca.i Ψ rfl dj Ξ λe6 dk e7 dl=>?_;rw[aU aE.p rfl];refine bu (g:=gs) (o:=4) jb.i (lH bG) (fT bG) dl Ξ λe8 dm e9 dn=>?_;rw[aU aE.p rfl];refine bu (g:=gs) (o:=5) cW.i Ψ rfl dn Ξ λfa dp fb dq=>?_;rw[aU aE.p rfl];refine bu (g:=gs) (o:=6) dh.i Ψ rfl dq Ξ λaZ dr fc bJ=>?_;have bJ:ag aZ gs aE [Δ k,lc,Δ s.zero,.slice ν 0 0,bB,.slice ν 0 0,.slice ν 0 0,J]:=bJ;have bK:∀{K L:x6},af (λr=>r=gs) K L->af (λr=>gs<=r) K L:=λh=>h.Y λr _ h=>by have h:r=gs:=h;omega
 have a1:af (λr=>r=gs) aY aZ:=((dk.F dm).F dp).F dr;have a2:Ext w aZ:=aP (aP (ck.F al) bI) (bK a1);have cm:=aX (bK a1) Ω (aX bI Ω (N.W aN));have ds:=aX (bK a1) Ω (aX bI Ω (df.W al));obtain⟨fd,dt⟩:=c6 rfl;let Z:ah:=λr=>cc 4 r/\r<w.heap.size;have cn:∀r,Z r->r<gs:=λr h=>by have:=h.2;omega
 let Q:Nat->ah:=λj r=>if j=1 then O.heap.size<=r else if j=4 then Z r else False;have dv:bD v2 Q R aZ [Δ k,lc,Δ s.zero,.slice ν 0 0,bB,.slice ν 0 0,.slice ν 0 0,J] k co s.zero [] (s.d6.map λx=>decide (x.gone≠0)) [] [] (s.du.map qN):=by
  refine⟨_,_,_,_,_,_,rfl,bp cd a2,gm,?_,gm,gm,bp br a2,λ_=>⟨λi j r ff h1 y=>?_,λi r h1 y=>?_⟩⟩
  .have dw:bs (λr=>O.heap.size<=r) R aY [bB] (s.d6.map λx=>decide (x.gone≠0)):=ao.Y bG (λr _ h=>by
    rcases h with h|h
    .exact h
    .show O.heap.size<=r;omega) λ_ _ h=>h
   refine ao.aa dw a1 λr B h1 y=>?_;have y:r=gs:=y;subst y;rcases h1 with h1|h1
   .have h1:O.heap.size<=r:=h1;omega
   .have:=E r h1;omega
  .simp only[Q]at h1 y;split at h1<;>split at y
   .omega
   .split at y
    .have:=y.2;omega
    .exact y
   .split at h1
    .have:=h1.2;omega
    .exact h1
   .split at h1<;>split at y
    .omega
    .exact y
    .exact h1
    .exact h1
  .simp only[Q]at h1;have:=E r y;split at h1
   .omega
   .split at h1
    .exact dt 4 r h1 y
    .exact h1
 have dx:∀j r,Q j r->gs<r\/Z r:=λj r h=>by
  simp only[Q]at h;split at h
  .exact .inl Ω
  .split at h
   .exact .inr h
   .exact h.elim
 have dy:∀r,Z r->r<gs/\Q 4 r:=λr h=>⟨cn r h,h⟩;have dz:=bp bm a2;rw[aJ aE.p 3 cm rfl,fU ca.u dz,r8];refine bY.range s.d6.length (λi P=>Ext w P/\ag P g1 aE [Δ k,lc,Δ s.zero,ab,ac,ad,ae,J]/\ag P gt aE z12/\∃A cs,ag P gs aE cs/\(∀q r,A q r->gs<r\/Z r)/\(∀r,Z r->r<gs/\A 4 r)/\
  bD v2 A R P cs k co s.zero ((s.d6.take i).map aC) (s.d6.map λx:bo=>decide (x.gone≠0)) ((s.d6.take i).map λx:bo=>x.un) [] (s.du.map qN)) Ω ⟨a2,cm,ds,Q,_,bJ,dx,dy,dv⟩ ?_ ?_
 .rintro i dA dC hi ⟨a7,a8,bL,A,cs,ap,bM,aQ,aR⟩ dD;obtain⟨x,ba⟩:=aD (l:=s.d6) hi;obtain⟨z,cp⟩:=aD (l:=co) (i:=i) Ω;have fg:=(aM.var i x z ba cp).1;have fh:=aM.ev.2.2 z (x7 cp);have fi:(aC x).length<=32:=by
   unfold aC;refine X1 (List.length_filter_le _ _) ?_;rw[r8,List.length_range];omega
  have dE:=ap.lt;refine bC Ω ?_;intro aq S _ _;have bN:=a7.F S;have fj:=S.size;have cq:=a8.W S;obtain⟨d0,cr⟩:=aR.at 3 Ω;rw[aJ aE.p 3 (ap.W S) cr,aJ aE.p 3 cq rfl];refine kv (α:=Λ) (a:=aC x) rfl ca.u an.i (bp bm bN) (by rw[u4,ba];rfl) λfk fm dF dG ct=>?_;obtain⟨cu,rfl⟩:∃u,dF=[u]:=by obtain⟨u,hu,_⟩:=ct;exact⟨u,hu⟩
  rw[aF (v:=cu) Ψ (by have:=dG 0 cu rfl;simpa using this)];refine sD (α:=Int) (R:=R) an.u ai.i λfo fp bb dH=>?_;refine⟨.inl bb,?_⟩;refine sE (α:=Int) an.u ai.i rfl dH (bp ct bb) (λh=>h) (λr B y H=>by have:=E r H;have:=bN.size;omega) Ω Ω λcw cz cA cB=>?_;have fq:=bb.size;have fs:=cB.size;have cD:Ext aq cz:=bb.then cB λr B h=>by have h:aq.heap.size<=r:=h;omega
  refine⟨.inl cD,?_⟩;have cE:bs (λr=>aq.heap.size<=r) R cz [cw] (aC x):=ao.Y cA (λr _ h=>by
   rcases h with h|h
   .exact h
   .show aq.heap.size<=r;omega) λ_ _ h=>h
  refine jB ca.u an.i Φ (a:=aC x) (cs:=[cw]) (lH cA) cE λft fu aN _ dI=>?_;have au:=cD.F aN;refine⟨.inl au,?_⟩;have dJ:=aR.old.W (S.F au);refine bD.Rk dJ (ap.W (S.F au)) cr (λq r h=>bM q r h.1) (λr h=>⟨(aQ r h).1,(aQ r h).2,by have:=(aQ r h).1;omega⟩) bA dI (bp cE aN) (λr B h=>⟨λj y=>by have h:aq.heap.size<=r:=h;omega,by have h:aq.heap.size<=r:=h;omega⟩) Θ λfv fx dL bO bP cF dM bQ _=>?_;have dN:Ext w dL:=aP (bN.F au) bO;have dO:=aX bO Ω (cq.W au);have dP:=aX bO Ω ((bL.W S).W au);have fy:=bP.lt;intro ax W _ _;have bR:=dN.F W;have fz:=W.size;have cG:=dO.W W;obtain⟨fA,cH⟩:=cF.at 5 Ω;rw[aJ aE.p 5 (bP.W W) cH,aJ aE.p 5 cG rfl];refine kv (α:=Λ) (a:=x.un) rfl cW.u aw.i (bp cf bR) (by rw[u4,ba];rfl) λfB fD bd dQ cI=>?_;obtain⟨cJ,rfl⟩:∃u,bd=[u]:=by obtain⟨u,hu,_⟩:=cI;exact⟨u,hu⟩
  rw[aF (v:=cJ) Ψ (by have:=dQ 0 cJ rfl;simpa using this)];refine sD (α:=Int) (R:=R) aw.u av.i λfE fF be dR=>?_;refine⟨.inl be,?_⟩;refine sE (α:=Int) aw.u av.i rfl dR (bp cI be) (λh=>h) (λr B y H=>by have:=E r H;have:=bR.size;omega) Ω Ω λcK cL cM cN=>?_;have fG:=be.size;have fH:=cN.size;have cO:Ext ax cL:=be.then cN λr B h=>by have h:ax.heap.size<=r:=h;omega
  refine⟨.inl cO,?_⟩;have cP:bs (λr=>ax.heap.size<=r) R cL [cK] x.un:=ao.Y cM (λr _ h=>by
   rcases h with h|h
   .exact h
   .show ax.heap.size<=r;omega) λ_ _ h=>h
  refine jB cW.u aw.i Φ (a:=x.un) (cs:=[cK]) (lH cM) cP λfI fJ cQ _ dS=>?_;have ay:=cO.F cQ;refine⟨.inl ay,?_⟩;have dT:=cF.old.W (W.F ay);refine bD.Rl dT (bP.W (W.F ay)) cH (λq r h=>dM q r h.1) (λr h=>⟨(bQ r h).1,(bQ r h).2,by have:=(bQ r h).1;omega⟩) bA dS (bp cP cQ) (λr B h=>⟨λj y=>by have h:ax.heap.size<=r:=h;omega,by have h:ax.heap.size<=r:=h;omega⟩) Θ λdU dV fK bS dW dX dY dZ _=>?_;rw[aO];refine dD _ ⟨aP (bR.F ay) bS,aX bS Ω (cG.W ay),aX bS Ω ((dP.W W).W ay),dU,dV,dW,dY,dZ,?_⟩;rw[r9,ba,j6,Z4,Z4];exact dX
 rintro dA dC ⟨a7,a8,bL,A,cs,ap,bM,aQ,aR⟩;rw[o9]at aR;refine b3 Ω ?_;have ea:=bp bq a7;have dE:=ap.lt;rw[aJ aE.p 6 a8 rfl,fU dh.u ea,r8];refine bY.range s.d9.length (λj C=>Ext w C/\ag C g1 aE [Δ k,lc,Δ s.zero,ab,ac,ad,ae,J]/\ag C gt aE z12/\∃A cs,ag C gs aE cs/\(∀q r,A q r->gs<r\/Z r)/\(∀r,Z r->r<gs/\A 4 r)/\
  bD v2 A R C cs k co s.zero (s.d6.map aC) (s.d6.map λx:bo=>decide (x.gone≠0)) (s.d6.map λx:bo=>x.un) ((s.d9.take j).map js) (s.du.map qN)) Ω ⟨a7,a8,bL,A,cs,ap,bM,aQ,aR⟩ ?_ ?_
 .rintro j C eb cR ⟨M,bT,bf,aS,bd,aA,bg,aT,X⟩ ec;obtain⟨f,bU⟩:∃f,s.d9[j]?=σ f:=⟨_,x8 cR⟩;obtain⟨_,fL,fM⟩:=u1 aM (x7 bU);have ed:=aA.lt;refine bC Ω ?_;refine mi cC.p rfl dh.u cC.i (bp bq M) (by rw[u4,bU];rfl) λfN bV=>?_;have ee:=ao.one bV;have fO:=bV;obtain⟨cS,cT,ef,eg,rfl,_,_,_,⟨bh,cU,eh,ei,rfl,_,_,_,aB,cV,cX,fP,ej,rfl,_,_,_,aG,aH⟩,bW⟩:=bV;have aB:Seen R C bh f.sc:=aB;have aG:Seen R C cV f.aj:=aG;have aH:ao.rep v2 ej R C cX f.cs:=aH;have bW:cT=[.bool (decide (f.live≠0))]:=bW;obtain⟨aV,rfl⟩:∃u,bh=[u]:=by obtain⟨u,hu,_⟩:=aB;exact⟨u,hu⟩
  obtain⟨aI,rfl⟩:∃u,cV=[u]:=by obtain⟨u,hu,_⟩:=aG;exact⟨u,hu⟩
  obtain⟨v3,rfl⟩:∃u,cX=[u]:=by obtain⟨u,hu,_⟩:=aH;exact⟨u,hu⟩
  subst bW;refine bE cC.i λaK fQ fR ek em=>?_;refine b1 (vs:=[aV,aI,v3,.bool (decide (f.live≠0))]) cC.i rfl rfl ee em λG en fS bi=>?_;have bX:Ext C G:=ek.put en Ω;refine sD (α:=Int) (R:=R) aw.u av.i λfV fW bj eo=>?_;have cY:=bX.F bj;rw[aU cC.p rfl,aU a6.p rfl,aF (v:=v3) Ψ ((bi.W bj).cell (o:=0+0+2) rfl)];refine sE (α:=Int) aw.u av.i rfl eo (bp aH cY) (λh=>h) (λr B y H=>by have:=E r H;have:=(M.F bX).size;omega) Ω Ω λaL fX bZ b0=>?_;have fY:=bX.size;have fZ:=bj.size;have gb:=b0.size;have ep:=(bi.W bj).aa b0 λh=>by have h:G.heap.size<=aK:=h;have:=bi.lt;omega
  rw[aU cC.p rfl,aU a6.p rfl];refine bu (g:=aK) (o:=2) aw.i (lH bZ) (fT bZ) ep Ξ λbk cZ gc b2=>?_;have b2:ag bk aK cC [aV,aI,aL,.bool (decide (f.live≠0))]:=b2;have gd:C.heap.size<=aK:=Ω
  have gf:=bi.lt;have bl:Ext C bk:=(cY.then b0 λr B h=>by have h:G.heap.size<=r:=h;omega).then cZ λr B h=>by have h:r=aK:=h;omega
  have er:bs (λr=>G.heap.size<=r) R bk [aL] f.cs:=ao.Y (ao.aa bZ cZ λr B h y=>by
   have y:r=aK:=y;rcases h with h|h
   .rcases h with h|h
    .have h:G.heap.size<=r:=h;omega
    .omega
   .have:=E r h;have:=M.size;omega) (λr _ h=>by
    rcases h with h|h
    .exact h
    .show G.heap.size<=r;omega) λ_ _ h=>h
  have own:bs (α:=jN) (λr=>G.heap.size<=r) R bk [aV,aI,aL,.bool (decide (f.live≠0))] (js f):=
   ⟨[aV,aI,aL],[.bool (decide (f.live≠0))],λr=>G.heap.size<=r,λ_=>False,rfl,λ_ h=>h,λ_ h=>h.elim,λ_ _ _ h=>h,⟨[aV],[aI,aL],λ_=>False,λr=>G.heap.size<=r,rfl,λ_ h=>h.elim,λ_ h=>h,λ_ _ h=>h.elim,bp aB bl,[aI],[aL],λ_=>False,λr=>G.heap.size<=r,rfl,λ_ h=>h.elim,λ_ h=>h,λ_ _ h=>h.elim,bp aG bl,er⟩,rfl⟩
  obtain⟨f0,c0⟩:=X.at 6 Ω;rw[aJ aE.p 6 (aA.W bl) c0,bz cC.p cC.i rfl b2.range];refine jB dh.u cC.i Φ rfl own λgg gh c1 _ es=>?_;have aW:=bl.F c1;have et:=X.old.W aW;refine bD.Rm et (aA.W aW) c0 (λq r h=>bg q r h.1) (λr h=>⟨(aT r h).1,(aT r h).2,by have:=(aT r h).1;omega⟩) bA es (bp own c1) (λr B h=>⟨λj y=>by have h:G.heap.size<=r:=h;omega,by have h:G.heap.size<=r:=h;omega⟩) Θ λeu ew gi b4 ey ez eA eB _=>?_;rw[aO];refine ec _ ⟨aP (M.F aW) b4,aX b4 Ω (bT.W aW),aX b4 Ω (bf.W aW),eu,ew,ey,eA,eB,?_⟩;rw[r9,bU,j6,Z4];exact ez
 rintro C eb ⟨M,bT,bf,aS,bd,aA,bg,aT,X⟩;rw[o9]at X;refine b3 Ω ?_;have ed:=aA.lt;have gj:=M.size;refine sD (α:=mK) (R:=R) oU.u rj.i λgk eC Y eD=>?_;have gl:=Y.size;rw[aJ aE.p 7 (bT.W Y) rfl];refine sE (α:=mK) oU.u rj.i rfl eD (bp br (M.F Y)) (λh=>?_) (λr B y H=>by have:=E r H;omega) Θ Θ λb5 gn b6 b7=>?_
 .obtain⟨cS,cT,ef,eg,rfl,_,_,_,aB,bh,cU,eh,ei,rfl,_,_,_,aG,aH⟩:=h;exact⟨cS,_,λ_=>False,λ_=>False,rfl,λ_ h=>h,λ_ h=>h,λ_ _ h=>h.elim,aB,bh,cU,λ_=>False,λ_=>False,rfl,λ_ h=>h,λ_ h=>h,λ_ _ h=>h.elim,aG,aH⟩
 have gp:=b7.size;have eE:=(aA.W Y).aa b7 λh=>by have h:C.heap.size<=gs:=h;omega
 rw[aU aE.p rfl];refine bu (g:=gs) (o:=7) oU.i (lH b6) (fT b6) eE (by rw[(bD.len X).1];omega) λb8 c2 gq eF=>?_;have b9:af (λr=>C.heap.size<=r\/r=gs) eC b8:=(b7.Y λr _ h=>.inl h).F (c2.Y λr _ h=>.inr h);have eH:bs (λr=>C.heap.size<=r) R b8 [b5] (s.du.map qN):=ao.Y (ao.aa b6 c2 λr B h y=>by
  have y:r=gs:=y;rcases h with h|h
  .rcases h with h|h
   .have h:C.heap.size<=r:=h;omega
   .omega
  .have:=E r h;omega) (λr _ h=>by
   rcases h with h|h
   .exact h
   .show C.heap.size<=r;omega) λ_ _ h=>h
 have eI:=(X.old).W Y;have eJ:∀j,¬aS j gs:=λj h=>(bg j gs h).elim (λh=>Ω) λh=>by have:=cn gs h;omega
 have eK:∀i j r,i≠j->aS i r->¬aS j r:=by obtain⟨_,_,_,_,_,_,_,_,_,_,_,_,_,eL⟩:=id X;exact(eL rfl).1
 have c3:=eI.Rb (x:=b5) b9 (λr B=>?_) eH (λj r cR B y=>by have B:C.heap.size<=r:=B;have:=y.2;omega) (λr B y=>by have B:C.heap.size<=r:=B;have:=E r y;omega)
 rotate_left
 .refine .inr ⟨λj y=>?_,λy=>?_⟩
  .rcases B with B|rfl
   .have:=y.2;omega
   .exact eJ j y.1
  .have:=E r y;rcases B with B|B<;>omega
 obtain⟨cb,eM⟩:=c3.len;have eN:ag b8 gt aE z12:=(bf.W Y).aa b9 λh=>by
  rcases h with h|h
  .have:=bf.lt;omega
  .omega
 rw[bz aE.p aE.i cb eF.range];refine b1 (vs:=bd.set 7 b5) aE.i cb rfl eM eN λgu c4 gv eO=>?_;rw[fe aE.p aE.i cb eO.range];have c5:∀q r,fw (λi r=>aS i r/\r<C.heap.size) 4 (λr=>C.heap.size<=r) q r->gs<r:=λq r h=>by
  unfold fw at h;split at h
  .have h:C.heap.size<=r:=h;omega
  .rename_i eP;exact(bg q r h.1).resolve_right λy=>eK q 4 r eP h.1 (aT r y).2
 have eQ:=c3.aa c4 λr B h he=>by
  have he:r=gt:=he;rcases h with⟨q,h⟩|h
  .have:=c5 q r h;omega
  .have:=E r h;omega
 refine⟨((M.F Y).then b9 λr B h=>?_).then c4 λr B h=>by have h:r=gt:=h;omega,_,_,rfl,eQ,λq r h=>by have:=c5 q r h;omega⟩;rcases h with h|h<;>omega
def vg{S T:Nat->Prop}(h:af S w I)(k:af T w I):af (λr=>S r/\T r) w I:=
 ⟨h.size,λr o a J f=>by
  by_cases e:S r
  .exact k.aX r o a J λj=>f ⟨e,j⟩
  .exact h.aX r o a J e⟩
def nC{ad ae:Nat}{A R:ah}{n:aI}{s:am}{t:aA}(h:bG w ad ae A R n s t):∀r,A r\/R r->r<w.heap.size:=λr a=>by
 obtain⟨j,p,q,x,⟨_,_,e,f⟩,_⟩:=h.1;exact a.elim (f r) (e r)
structure cd(w:x6)(ad ae aq:Nat)(A R:ah)(A9:Nat->ah)(aH:ah)(n:aI)(s u:am)(t:aA)(h:List aA)(cs:List x4):Prop where
 dy:bG w ad ae A R n s t
 ix:iI t h
 box:ag w aq aE cs
 doc:gC v2 A9 aH w cs n.k n.co u
 apart:∀q r,A9 q r->¬A r/\¬R r/\r≠aq
 read:∀r,aH r->¬eH w r/\r<w.heap.size/\r≠aq
 out:¬A aq/\¬R aq
section
variable{w I:x6}{ad ae aq:Nat}{A R:ah}{A9:Nat->ah}{aH:ah}{n:aI}{s u:am}{t:aA}{h:List aA}{cs:List x4}
def cd.W(p:cd w ad ae aq A R A9 aH n s u t h cs)(a:Ext w I):cd I ad ae aq A R A9 aH n s u t h cs:=
 ⟨p.dy.W a,p.ix,p.box.W a,p.doc.W a,p.apart,λr e=>⟨λh=>(p.read r e).1 (og (λo f J _=>a.aX r o f J) h),by have:=(p.read r e).2.1;have:=a.size;omega,(p.read r e).2.2⟩,p.out⟩
def cd.prog{aN R':ah}{s':am}{bt:aA}{aW:List aA}(p:cd w ad ae aq A R A9 aH n s u t h cs)(x:af (eH w) w I)(f:Grow A w aN I)(C:bG I ad ae aN R' n s' bt)(j:iI bt aW)(y:∀r,R' r->R r\/B<=r)(E:∀q r,A9 q r->r<w.heap.size->r<B)(K:aq<B):
  cd I ad ae aq aN R' (λq r=>A9 q r/\r<w.heap.size) aH n s' u bt aW cs:=by
 have L:=p.box.lt;have z:=x.size;refine⟨C,j,p.box.aa f.1 p.out.1,bD.aa p.doc.old (vg x f.1) λr e h j=>?_,λq r h=>⟨λa=>?_,λe=>(y r e).elim (p.apart q r h.1).2.1 λF=>by have:=E q r h.1 h.2;omega,(p.apart q r h.1).2.2⟩,λr e=>⟨λh=>?_,by have:=(p.read r e).2.1;omega,(p.read r e).2.2⟩,λa=>?_,λe=>(y aq e).elim p.out.2 λF=>Ω⟩
 .rcases h with⟨q,h⟩|h
  .exact (p.apart q r h.1).1 j.2
  .exact (p.read r h).1 j.1
 .rcases f.2.1 r a with a|a
  .exact (p.apart q r h.1).1 a
  .have:=h.2;omega
 .exact (p.read r e).1 (og (λo G J H=>x.aX r o G J H) h)
 .rcases f.2.1 aq a with a|a
  .exact p.out.1 a
  .omega
def cd.Rq{S:ah}{cv:Nat->ah}{u':am}{bF:List x4}(p:cd w ad ae aq A R A9 aH n s u t h cs)(f:af S w I)(y:∀r,r<w.heap.size->S r->(∃q,A9 q r)\/r=aq)(B:ag I aq aE bF)(C:gC v2 cv aH I bF n.k n.co u')(E:∀q r,cv q r->(∃j,A9 j r)\/(¬A r/\¬R r/\r≠aq)):
  cd I ad ae aq A R cv aH n s u' t h bF:=by
 have K:=p.box.lt;have z:=f.size;have F:∀q r,A9 q r->¬aH r:=by obtain⟨_,_,_,_,_,_,_,_,_,_,_,_,_,G⟩:=p.doc;exact(G rfl).2
 refine⟨⟨p.dy.1.aa f λr e h J=>?_,p.dy.2⟩,p.ix,B,C,λq r h=>?_,λr e=>⟨λh=>(p.read r e).1 (og (λo H J _=>f.aX r o H J λa=>?_) h),by have:=(p.read r e).2.1;omega,(p.read r e).2.2⟩,p.out⟩
 .rcases y r e J with⟨q,a⟩|a
  .exact h.elim (p.apart q r a).1 (p.apart q r a).2.1
  .subst a;exact h.elim p.out.1 p.out.2
 .rcases E q r h with⟨j,a⟩|a
  .exact p.apart j r a
  .exact a
 .rcases y r (p.read r e).2.1 a with⟨q,x⟩|x
  .exact F q r x e
  .exact (p.read r e).2.2 x
def cd.Rr{S:ah}{cv:Nat->ah}{u':am}{bF:List x4}(p:cd w ad ae aq A R A9 aH n s u t h cs)(e:∀r,A r\/R r->r<B)(E:aq<B)(f:af S w I)(j:∀r,r<w.heap.size->S r->(∃q,A9 q r)\/r=aq)(x:ag I aq aE bF)(y:gC v2 cv aH I bF n.k n.co u')(z:∀q r,cv q r->(∃C,A9 C r)\/B<=r):
  cd I ad ae aq A R cv aH n s u' t h bF:=
 p.Rq f j x y λq r h=>(z q r h).imp id λF=>⟨λa=>by have:=e r (.inl a);omega,λa=>by have:=e r (.inr a);omega,Ω⟩
def cd.Fx{S:ah}{cv:Nat->ah}{u':am}{bF:List x4}(p:cd w ad ae aq A R A9 aH n s u t h cs)(a:af S w I)(e:∀r,r<w.heap.size->S r->(∃q,A9 q r)\/r=aq)(f:ag I aq aE bF)(j:gC v2 cv aH I bF n.k n.co u')(x:∀q r,cv q r->(∃y,A9 y r)\/w.heap.size<=r):
  cd I ad ae aq A R cv aH n s u' t h bF:=p.Rr (nC p.dy) p.box.lt a e f j x
def cd.look(p:cd w ad ae aq A R A9 aH n s u t h cs):kJ w aq n.k n.co u:=by
 refine e9.box p.doc.sA (Ext.refl _) ?_;have:=p.box;exact this
def cd.pJ(p:cd w ad ae aq A R A9 aH n s u t h cs):∃lc a e f j q,cs=[Δ n.k,lc,Δ u.zero,a,e,f,j,q]/\aM .i64 w lc n.co:=by
 obtain⟨lc,a,e,f,j,q,h1,r,_⟩:=p.doc;exact⟨lc,a,e,f,j,q,h1,dl r⟩
end
end Go.Proofs.YtnhkbjhpbbobaaaGreatDoor
namespace Go.Vc
open Go Go.RowKit
section
variable{P:V5}{w:x6}{α:Type}[ao α]{S R:ah}
def vh{v:x4}{l:List α}{i:Nat}{a:α}(h:bs S R w [v] l)(G:l[i]?=σ a)(Y:∀r,r<w.heap.size->S r->¬R r):∃g cap c F,v= .slice (σ ⟨g,0,ν⟩) l.length cap/\w.rangeAt g (i*ao.n α) c/\bs F R w c a/\(∀r,F r->S r)/\
  ∀{I:x6}{a':α}{T y:ah},af T w I->(∀r,r<w.heap.size->T r->F r)->bs y R I c a'->(∀r,y r->F r\/w.heap.size<=r)->bs (λr=>S r\/w.heap.size<=r) R I [v] (l.set i a'):=by
 have ap:=(x5.1 G).1;obtain⟨vs,g,F,ac,he,J,hm⟩:=jA h;obtain⟨Z,H,K⟩:=hm rfl;obtain⟨aq,⟨rfl,au⟩|⟨cap,full,rfl,L,av,aw,ax,ay⟩⟩:=id K
 .omega
 have ab:vs.length=l.length:=he.1;have M:S g:=Z.resolve_left Ξ;obtain⟨c,A⟩:∃c,vs[i]?=σ c:=⟨_,x8 Ω⟩;have ad:=he.2 i c a A G;refine⟨g,cap,c,F i,rfl,?_,ad,λr p=>ac.sub i r p,λ{I a' T y}N O P B=>?_⟩
 .obtain⟨_,az,o',aA,aB,ae,_,_,ag,_,ai⟩:=J;cases ae;cases ag Ω;intro j u aj;have Q:=ai (i*ao.n α+j) u (by rw[<-List.flatMap_id];exact qu (f:=id) (k:=ao.n α) (λx ak=>he.len x ak) A aj);rw[X6]at Q;exact Q
 have al:¬T g:=λh=>ac.top rfl i (O g L.lt h);have aC:=ao.len P;have aD:vs.set i c=vs:=by
  refine X0 λq=>?_;rw[Y7];by_cases U:i=q
  .subst U;rw[ms rfl,ms Ω,A]
  .rw[rc U]
 have V:b2 I g H (ao.n α) (.slice (σ ⟨g,0,ν⟩) l.length cap) (l.set i a').length vs.flatten:=by
  rw[o7];exact K.aa N λ_=>al
 refine⟨_,rfl,vs,g,λj r=>if j=i then y r else F j r/\r<w.heap.size,⟨λj r p=>?_,λ_ j p=>?_,λ_ j q r am h1 s=>?_⟩,⟨by simp[ab],λj W X E C=>?_⟩,?_,λ_=>⟨.inr (.inl M),H,V⟩⟩
 .split at p
  .exact (B r p).imp (ac.sub i r) id
  .exact .inl (ac.sub j r p.1)
 .split at p
  .rcases B g p with h|h
   .exact ac.top rfl i h
   .have:=L.lt;omega
  .exact ac.top rfl j p.1
 .split at h1<;>split at s
  .omega
  .rcases B r h1 with h|h
   .rename_i e _;exact ac.gX rfl i q r Ω h s.1
   .have:=s.2;omega
  .rcases B r s with h|h
   .exact ac.gX rfl j i r Ω h1.1 h
   .have:=h1.2;omega
  .exact ac.gX rfl j q r am h1.1 s.1
 .by_cases z:j=i
  .subst z;rw[A]at E;rw[l9 Ω]at C;cases E;cases C;exact ao.Y P (λr _ h=>by simpa using h) λ_ _ h=>h
  .rw[Z6 (R7 z)]at C;have an:bs (λr=>if j=i then y r else F j r/\r<w.heap.size) R w W X:=ao.Y (he.2 j W X E C) (λr p h=>by rw[rc z];exact⟨h,p⟩) λ_ _ h=>h;refine ao.aa an N λr p h1 s=>?_;have s:=O r p s;rcases h1 with h1|h1
   .simp only[rc z]at h1;exact ac.gX rfl j i r z h1.1 s
   .exact Y r p (ac.sub i r s) h1
 .have:=pc (S:=λr=>(S r\/w.heap.size<=r)\/R r) V (.inr (.inl (.inl M)));exact this
def Fy{v:x4}{l:List α}{i:Nat}{a:α}(h:bs S R w [v] l)(N:l[i]?=σ a)(O:∀r,r<w.heap.size->S r->¬R r):∃g cap full y c F,v= .slice (σ ⟨g,0,ν⟩) l.length cap/\ag w g y full/\S g/\i*ao.n α+ao.n α<=full.length/\(∀(q:Nat)x,c[q]?=σ x->full[i*ao.n α+q]?=σ x)/\bs F R w c a/\(∀r,F r->S r)/\¬F g/\
  ∀{I:x6}{a':α}{z:List x4}{T B:ah},af T w I->(∀r,r<w.heap.size->T r->F r\/r=g)->ag I g y (over full (i*ao.n α) z)->bs B R I z a'->(∀r,B r->F r\/w.heap.size<=r)->bs (λr=>S r\/w.heap.size<=r) R I [v] (l.set i a'):=by
 have ae:=(x5.1 N).1;obtain⟨vs,g,F,ac,he,J,hm⟩:=jA h;obtain⟨ai,y,aj⟩:=hm rfl;obtain⟨az,⟨rfl,aA⟩|⟨cap,full,rfl,P,Q,ak,U,V⟩⟩:=id aj
 .omega
 have W:vs.length=l.length:=he.1;have E:S g:=ai.resolve_left Ξ;obtain⟨c,K⟩:∃c,vs[i]?=σ c:=⟨_,x8 Ω⟩;have al:=he.2 i c a K N;have am:(i+1)*ao.n α<=l.length*ao.n α:=X4 _ ae;have an:l.length*ao.n α<=full.length:=by rw[U];exact X4 _ Q
 rw[U7,Nat.one_mul]at am;refine⟨g,cap,full,y,c,F i,rfl,P,E,Ω,λq x X=>?_,al,λr s=>ac.sub i r s,ac.top rfl i,λ{I a' z T B}ap aq au Y G=>?_⟩
 .have L:=qu (f:=id) (k:=ao.n α) (λx av=>he.len x av) K X;rw[List.flatMap_id,<-V]at L;have aB:=(x5.1 X).1;have M:=he.len c (x7 K);rw[Y6 Ω]at L;exact L
 have M:=ao.len Y;have aw:∀c∈vs.set i z,c.length=ao.n α:=λc A=>by
  rcases W8 A with p|rfl
  .exact he.len c p
  .exact M
 have Z:b2 I g y (ao.n α) (.slice (σ ⟨g,0,ν⟩) l.length cap) (l.set i a').length (vs.set i z).flatten:=by
  refine⟨by rw[rp aw,o7,o7,W],.inr ⟨cap,_,by rw[o7],au,by rw[o7];exact Q,ak,by rw[nl,U],?_⟩⟩;rw[o7,ui Ω an,V,Fu he.len M Ω]
 refine⟨_,rfl,vs.set i z,g,λj r=>if j=i then B r else F j r/\r<w.heap.size,⟨λj r s=>?_,λ_ j s=>?_,λ_ j q r ax h1 p=>?_⟩,⟨by simp[W],λj ab ad A H=>?_⟩,?_,λ_=>⟨.inr (.inl E),y,Z⟩⟩
 .split at s
  .exact (G r s).imp (ac.sub i r) id
  .exact .inl (ac.sub j r s.1)
 .split at s
  .rcases G g s with h|h
   .exact ac.top rfl i h
   .have:=P.lt;omega
  .exact ac.top rfl j s.1
 .split at h1<;>split at p
  .omega
  .rcases G r h1 with h|h
   .rename_i e _;exact ac.gX rfl i q r Ω h p.1
   .have:=p.2;omega
  .rcases G r p with h|h
   .exact ac.gX rfl j i r Ω h1.1 h
   .have:=h1.2;omega
  .exact ac.gX rfl j q r ax h1.1 p.1
 .by_cases C:j=i
  .subst C;rw[l9 Ω]at A;rw[l9 Ω]at H;cases A;cases H;exact ao.Y Y (λr _ h=>by simpa using h) λ_ _ h=>h
  .rw[Z6 (R7 C)]at A H;have ay:bs (λr=>if j=i then B r else F j r/\r<w.heap.size) R w ab ad:=ao.Y (he.2 j ab ad A H) (λr s h=>by rw[rc C];exact⟨h,s⟩) λ_ _ h=>h;refine ao.aa ay ap λr s h1 p=>?_;have p:=aq r s p;rcases h1 with h1|h1
   .simp only[rc C]at h1;rcases p with p|rfl
    .exact ac.gX rfl j i r C h1.1 p
    .exact ac.top rfl j h1.1
   .rcases p with p|rfl
    .exact O r s (ac.sub i r p) h1
    .exact O r s E h1
 .have:=pc (S:=λr=>(S r\/w.heap.size<=r)\/R r) Z (.inr (.inl (.inl E)));exact this
end
end Go.Vc
namespace Go.Proofs.YtnhkbjhpbbobaaaGreatDoor
open Go Go.Vc Go.RowKit Go.Proofs Go.Proofs.Tryz
set_option maxRecDepth 100000
section
variable{w0 w:x6}{ad ae aq ga:Nat}{A R:ah}{A9 cv:Nat->ah}{aH:ah}{n:aI}{s u:am}{t:aA}{h:List aA}{cs bF:List x4}{aV aS mM:x4}{Q:x4->x6->Prop}
def cd.olds(p:cd w0 ad ae aq A R A9 aH n s u t h cs):cd w0 ad ae aq A R (λq r=>A9 q r/\r<w0.heap.size) aH n s u t h cs:=
 ⟨p.dy,p.ix,p.box,p.doc.old,λq r a=>p.apart q r a.1,p.read,p.out⟩
end
def qP{α β:Type}{l:List α}{i:Nat}{a b:α}{f:α->β}(h:l[i]?=σ a)(j:f b=f a):(l.set i b).map f=l.map f:=by
 rw[T2,j];refine X0 λq=>?_;rw[Y7];by_cases e:i=q
 .subst e;rw[ms rfl,u4,h,ms (by rw[r8];exact(x5.1 h).1)];rfl
 .rw[rc e]
def yE{T:Nat->Prop}(h:af T w I):af (λr=>T r/\r<w.heap.size) w I:=⟨h.size,λr o a J e=>h.aX r o a J λf=>e ⟨f,(Z0.1 a).1⟩⟩
section
variable{w0 w I:x6}{ad ae aq ga:Nat}{A R:ah}{A9:Nat->ah}{aH:ah}{n:aI}{s u u':am}{t:aA}{h:List aA}{cs:List x4}{aV aS mM v:x4}{Q:x4->x6->Prop}
def bD.rD{m:Bool}{zero:Int}{D:List (Λ)}{G:List Bool}{aZ:List (Λ)}{H:List jN}{E:List mK}{i:Nat}(a:cs[i]?=σ v)(h:bD m A9 aH w (cs.set i v) k co zero D G aZ H E):bD m A9 aH w cs k co zero D G aZ H E:=by
 have:cs.set i v=cs:=by
  refine X0 λq=>?_;rw[Y7];by_cases e:i=q
  .subst e;have:=(x5.1 a).1;rw[ms rfl,ms this,a]
  .rw[rc e]
 rw[this]at h;exact h
def cd.row{T:ah}{cv:Nat->ah}{q:Nat}(p:cd w ad ae aq A R A9 aH n s u t h cs)(a:af T w I)(e:∀r,r<w.heap.size->T r->A9 q r)(f:gC v2 cv aH I cs n.k n.co u')(j:∀q r,cv q r->(∃x,A9 x r)\/w.heap.size<=r):
  cd I ad ae aq A R cv aH n s u' t h cs:=
 p.Fx a (λr y h=>.inl ⟨q,e r y h⟩) (p.box.aa a λh=>(p.apart q aq (e aq p.box.lt h)).2.2 rfl) f j
def yF{q:Nat}{B:ah}(a:∀r,B r->A9 q r\/w.heap.size<=r):∀j r,fw A9 q B j r->(∃e,A9 e r)\/w.heap.size<=r:=λj r h=>by
 unfold fw at h;split at h
 .exact (a r h).imp (λh=>⟨q,h⟩) id
 .exact .inl ⟨j,h⟩
end
def Rs{sv:x4}{lX:Nat}{cap:Array x4}{p:Int->Bool}(h:aM .i64 w sv l)(ac:∀I x,Ext w I->x∈l->ak v8 lX (Δ x::cap.toList) I λr s=>r= .bool (p x)/\Ext I s):
  ak v8 wx [sv,.func (.func lX) #[] cap] w λv I=>Ext w I/\((v=Δ (-1)/\∀x∈l,p x=v6)\/∃i:Nat,v=Δ (i:Int)/\i<l.length/\(∀x∈l.take i,p x=v6)/\∀x,l[i]?=σ x->p x=v2):=by
 refine az func139 ?_;rw[a1 an.u h];refine b7.range l.length (λi _ U=>Ext w U/\∀x∈l.take i,p x=v6) h.le ⟨Ext.refl _,Ξ⟩ ?_ ?_
 .rintro i _ U k hi ⟨e,f⟩ hk;refine bC Ω ?_;obtain⟨y,j⟩:=aD (l:=l) hi;rw[bh an.u ai.i Ψ (h.W e) j];refine ak.Y (ac U y e (x7 j)) ?_;rintro _ V _ ⟨rfl,q⟩;rw[cb];refine⟨λz=>⟨e.F q,.inr ⟨i,rfl,hi,f,λx a=>by rw[j]at a;cases a;exact z⟩⟩,λA=>?_⟩;rw[aO];refine hk _ _ ⟨e.F q,λx a=>?_⟩;rw[r9,j]at a;rcases j9.1 a with a|a
  .exact f x a
  .simp at a;subst a;exact A
 .rintro _ U k ⟨e,f⟩;rw[o9]at f;rw[aT,al];exact⟨λh=>Ω,λ_=>⟨e,.inl ⟨rfl,f⟩⟩⟩
def Rt{sv:x4}{g lX:Nat}{cap:Array x4}{p:Int->Bool}(h:aB .i64 e w g sv l)(aJ:l.length<=100000000)(ac:∀I x,af (λr=>lw sv r) w I->x∈l->ak v8 lX (Δ x::cap.toList) I λr Y=>r= .bool (p x)/\Ext I Y):
  ak v8 Iy [sv,.func (.func lX) #[] cap] w λv I=>af (λr=>lw sv r) w I/\aB .i64 e I g v (l.filter λx=>!p x)/\∀r,lw v r->lw sv r:=by
 refine az func72 ?_;refine(Rs h.ls λI x B=>ac I x (B.aa _)).Y ?_;rintro _ U _ ⟨C,⟨rfl,L⟩|⟨i,rfl,hi,L,Z⟩⟩
 .rw[bl,al];refine⟨λ_=>⟨C.aa _,?_⟩,λh=>ro rfl h⟩;rw[List.filter_eq_self.2 λx B=>by rw[L x B];rfl];exact⟨h.W C,λ_ h=>h⟩
 rw[bl,al];refine⟨λh=>Ω,λ_=>?_⟩;rw[aO,m1 Ω Ω];obtain⟨n,M⟩:∃n,l.length=n:=⟨_,rfl⟩;obtain⟨s,rfl⟩:∃s,sv= .slice (σ ⟨g,0,ν⟩) n s:=by
  obtain⟨_,⟨_,h1⟩|⟨s,cs,h1,_⟩⟩:=id h
  .omega
  .exact⟨s,by rw[h1,M]⟩
 obtain⟨_,_,_,_,aK,ab,_⟩:=r3 h Ω;have R:∀r,r=g->lw (.slice (σ ⟨g,0,ν⟩) n s) r:=λr N=>⟨_,_,_,rfl,N.symm⟩;have ad:(l.take (i+1)).filter (λx=>!p x)=l.take i:=by
  obtain⟨y,z⟩:=aD (l:=l) hi;rw[r9,z,List.filter_append,List.filter_eq_self.2 λx B=>by rw[L x B];rfl];simp[Z y z]
 refine⟨λO P E=>∃(q j:Nat)(f:Λ),O=Δ (q:Int)/\P=Δ (j:Int)/\q<j/\j<=n/\af (λr=>r=g) w E/\aB .i64 e E g (.slice (σ ⟨g,0,ν⟩) n s) f/\f.length=n/\f.take q=(l.take j).filter (λx=>!p x)/\∀k,j<=k->f[k]?=l[k]?,
  λ_ P _=>n-(bZ P).toNat,⟨i,i+1,l,rfl,rfl,Ω,Ω,C.aa _,h.W C,M,ad.symm,λ_ _=>rfl⟩,?_⟩
 rintro _ _ E ⟨q,j,f,rfl,rfl,aL,aM,G,H,S,A,Q⟩;have aN:q=((l.take j).filter λx=>!p x).length:=by rw[<-A,o8];omega
 rw[jd an.u,aT,al];refine⟨λae=>?_,λaP=>?_⟩
 .have ae:j<n:=Ω
  obtain⟨y,z⟩:=aD (l:=l) (i:=j) Ω;have ag:f[j]?=σ y:=by rw[Q j (o4 _),z]
  refine aY (λO J=>∃(q:Nat)(f:Λ),O=Δ (q:Int)/\q<j+1/\af (λr=>r=g) w J/\aB .i64 e J g (.slice (σ ⟨g,0,ν⟩) n s) f/\f.length=n/\f.take q=(l.take (j+1)).filter (λx=>!p x)/\∀k,j+1<=k->f[k]?=l[k]?) ?_ ?_
  .rintro _ J ⟨q,f,rfl,h1,ah,aj,am,ao,ap⟩;rw[aO,m1 Ω Ω];exact⟨⟨q,j+1,f,rfl,rfl,h1,Ω,ah,aj,am,ao,ap⟩,by simp only[bZ];omega⟩
  intro ax V;rw[bh an.u ai.i Ψ H.ls ag];refine ak.Y (ac E y (G.Y λr _=>R r) (x7 z)) ?_;rintro _ J _ ⟨rfl,K⟩;have W:(l.take (j+1)).filter (λx=>!p x)=(l.take j).filter (λx=>!p x)++[y].filter (λx=>!p x):=by rw[r9,z,List.filter_append];rfl
  rw[bL,cb];refine⟨λaq=>?_,λau=>?_⟩
  .have X:=H.W K;rw[jf rfl an.u ai.i X Ω];refine jg ai.i X Ω λaQ av aR aw=>?_;rw[aO,m1 Ω Ω];refine V _ _ ⟨q+1,_,rfl,Ω,(G.F (K.aa _)).F av,aw,by simpa using S,?_,λk hk=>?_⟩
   .rw[W,r9,l9 Ω,List.take_set_of_le (o4 _),A];simp only[j6];rw[show[y].filter (λx=>!p x)=[y] by simpa using aq]
   .rw[Z6 Ω];exact Q k Ω
  .refine V _ _ ⟨q,f,rfl,Ω,G.F (K.aa _),H.W K,S,?_,λk hk=>Q k Ω⟩;rw[W,show[y].filter (λx=>!p x)=[] by simpa using au,U2];exact A
 .have ay:j=n:=Ω
  subst ay;rw[<-M,o9]at A;obtain⟨_,_,cs,aA,_,_,aS,aC⟩:=r3 H Ω;simp only[maxLen]at ab;rw[ip an.u ai.i rm kY fo Ω Ω Ω,rc Ω];have aE:U8 (λx:Addr=>x.add (q*1)) (σ ⟨g,0,ν⟩)=σ ⟨g,q,ν⟩:=by simp[T9]
  rw[aE];refine BC an.u ai.i rfl rfl aA Ω Ω λaU aF aV aG=>?_;rw[ip an.u ai.i jZ o0 fo Ω Ω Ω,rc Ω];have aH:U8 (λx:Addr=>x.add (0*1)) (σ ⟨g,0,ν⟩)=σ ⟨g,0,ν⟩:=by simp[T9]
  rw[aH];refine⟨(G.F aF).Y λr _=>R r,?_⟩;have aW:(l.filter λx=>!p x).length=q:=by rw[<-A,o8];omega
  rw[<-A,Nat.sub_zero];refine⟨?_,λr N=>by obtain⟨a,_,_,e,aI⟩:=N;cases e;exact⟨_,_,_,rfl,aI⟩⟩;refine aB.of (n:=q) ⟨Θ,.inr ⟨s,_,Ξ,aG,Ω,by simp only[maxLen];omega,by rw[nl];omega,?_⟩⟩;rw[T0];apply X0;intro k;by_cases hk:k<q
  .rw[Y6 hk,o1 _ _ _ Θ,rc Ω,ints,u4,Y6 hk];have:(cs.take j)[k]?=(ints .i64 f)[k]?:=by rw[aC]
   rw[Y6 Ω,ints,u4]at this;exact this
  .rw[Y5 Θ,Y5 Θ]
def Fz{full c:List x4}{o q:Nat}{x:x4}(f:∀(k:Nat)y,c[k]?=σ y->full[o+k]?=σ y)(h:o+c.length<=full.length)(j:q<c.length):full.set (o+q) x=over full o (c.set q x):=by
 refine X0 λk=>?_;rw[o1 _ _ _ (by rw[o7];exact h),Y7,o7];by_cases h1:o<=k/\k<o+c.length
 .rw[ms h1,Y7];by_cases a:o+q=k
  .rw[ms a,ms Ω,ms Ω,ms Ω]
  .rw[rc a,rc Ω];have e:k-o<c.length:=Ω
   have:=f (k-o) c[k-o] (x8 e);rw[x8 e,<-this];congr 1;omega
 .rw[rc h1,rc Ω]
section
variable{w0 w I:x6}{ad ae aq ga:Nat}{A R:ah}{A9:Nat->ah}{aH:ah}{n:aI}{s u u':am}{t:aA}{h:List aA}{cs:List x4}{aV aS mM v:x4}{Q:x4->x6->Prop}
def cd.gX(p:cd w ad ae aq A R A9 aH n s u t h cs):(∀i j r,i≠j->A9 i r->¬A9 j r)/\∀i r,A9 i r->¬aH r:=by
 obtain⟨_,_,_,_,_,_,_,_,_,_,_,_,_,a⟩:=p.doc;exact a rfl
def cd.Ru{T:ah}(p:cd w ad ae aq A R A9 aH n s u t h cs)(y:∀q r,A9 q r->r<w.heap.size)(z:cs[6]?=σ v)(e:af T w I)(f:∀r,r<w.heap.size->T r->A9 3 r)(C:bs (λr=>A9 3 r\/w.heap.size<=r) aH I [v] (u'.d9.map js))(E:u'.zero=u.zero)(F:u'.d6=u.d6)(G:u'.du=u.du):∃cv,cd I ad ae aq A R cv aH n s u' t h cs/\∀q r,cv q r->(∃H,A9 H r)\/w.heap.size<=r:=by
 have J:=bD.lj p.doc (yE e) (λr a=>.inl (f r a.2 a.1)) C (λj r K a=>?_) (λr a=>?_)
 .have x:=yF (w:=w) (A9:=A9) (q:=3) (B:=λr=>A9 3 r\/w.heap.size<=r) λr h=>h;refine⟨_,p.row e f ?_ x,x⟩;have:=bD.rD z J;unfold gC;rw[E,F,G];exact this
 .rcases a with a|a
  .exact p.gX.1 3 j r (R7 K) a
  .exact λh=>by have:=y j r h;omega
 .rcases a with a|a
  .exact p.gX.2 3 r a
  .exact λh=>by have:=(p.read r h).2.1;omega
end
def Rv{m:Int}{w:Int}(a:0<=v)(hw:0<=w):dropped (((m.toNat ||| 2 ^ v.toNat:Nat):Int)) w=(dropped m w||decide (w=v)):=by
 unfold dropped;rw[u9,Nat.testBit_or,Nat.testBit_two_pow];congr 1;exact decide_eq_decide.2 ⟨λh=>Ω,λh=>Ω⟩
def yG{x:bo}(a:0<=v):aC {x with mask:=((x.mask.toNat ||| 2 ^ v.toNat:Nat):Int)}=(aC x).filter λy=>!decide (y=v):=by
 unfold aC;rw[List.filter_filter];refine List.filter_congr λy e=>?_;obtain⟨q,_,rfl⟩:=j5.1 e;rw[Rv a Ω];cases dropped x.mask (q:Int)<;>simp
section
variable{w0 w I:x6}{ad ae aq ga:Nat}{A R:ah}{A9:Nat->ah}{aH:ah}{n:aI}{s u u':am}{t:aA}{h:List aA}{cs:List x4}{aV aS mM v:x4}{Q:x4->x6->Prop}
def cd.pK{T:ah}(p:cd w ad ae aq A R A9 aH n s u t h cs)(z:∀q r,A9 q r->r<w.heap.size)(C:cs[3]?=σ v)(e:af T w I)(f:∀r,r<w.heap.size->T r->A9 0 r)(E:bs (λr=>A9 0 r\/w.heap.size<=r) aH I [v] (u'.d6.map aC))(F:u'.zero=u.zero)(G:u'.d6.map (·.un)=u.d6.map (·.un))(H:(u'.d6.map λx=>decide (x.gone≠0))=u.d6.map λx=>decide (x.gone≠0))(J:u'.d9=u.d9)(K:u'.du=u.du):
  ∃cv,cd I ad ae aq A R cv aH n s u' t h cs/\∀q r,cv q r->(∃L,A9 L r)\/w.heap.size<=r:=by
 have M:=bD.yC p.doc (yE e) (λr a=>.inl (f r a.2 a.1)) E (λj r N a=>?_) (λr a=>?_)
 .have y:=yF (w:=w) (B:=λr=>A9 0 r\/w.heap.size<=r) λr h=>h;refine⟨_,p.row e f ?_ y,y⟩;have:=bD.rD C M;unfold gC;rw[F,G,H,J,K];exact this
 .rcases a with a|a
  .exact p.gX.1 0 j r (R7 N) a
  .exact λh=>by have:=z j r h;omega
 .rcases a with a|a
  .exact p.gX.2 0 r a
  .exact λh=>by have:=(p.read r h).2.1;omega
end
section
variable{w0 w I:x6}{ad ae aq ga:Nat}{A R:ah}{A9:Nat->ah}{aH:ah}{n:aI}{s u u':am}{t:aA}{h:List aA}{cs:List x4}{aV aS mM v:x4}{Q:x4->x6->Prop}
def Rw{F:ah}{c:List x4}{f:cm}(h:bs (α:=jN) F R w c (js f))(z:∀r,F r->¬R r):∃aS lc a8 e,c=[aS,lc,a8,.bool (decide (f.live≠0))]/\bs e R w [a8] f.cs/\(∀r,e r->F r)/\
  ∀{I:x6}{bF:Λ},af e w I->bs e R I [a8] bF->bs (α:=jN) F R I c (js {f with cs:=bF}):=by
 obtain⟨ab,ac,A,B,rfl,C,N,O,h1,p⟩:=h;obtain⟨P,ad,aN,Q,rfl,S,E,G,H,T⟩:=h1;obtain⟨U,V,W,q,rfl,X,s,J,K,L⟩:=T;have p:=p;subst p;obtain⟨x,rfl⟩:=V6.1 (show P.length=1 from ao.len H);obtain⟨j,rfl⟩:=V6.1 (show U.length=1 from ao.len K);obtain⟨v3,rfl⟩:=V6.1 (show V.length=1 from ao.len L);have y:∀r,q r->F r:=λr h=>C r (E r (s r h));refine⟨x,j,v3,q,rfl,L,y,λ{I bF}M Y=>?_⟩;refine⟨[x,j,v3],[.bool (decide (f.live≠0))],A,B,rfl,C,N,O,⟨[x],[j,v3],aN,Q,rfl,S,E,G,ao.aa H M λr Z a he=>?_,[j],[v3],W,q,rfl,X,s,J,ao.aa K M λr Z a he=>?_,Y⟩,rfl⟩
 .exact a.elim (λa=>G rfl r a (s r he)) (z r (y r he))
 .exact a.elim (λa=>J rfl r a he) (z r (y r he))
end
def Rx{lc a8 bj:x4}(h1:aM .i64 w aS sc)(E:aM .i64 w lc (bN co sc))(G:aM .i64 w a8 cs)(h:gR co k (sc,cs))(s:∀z∈co,1<=z/\z<=32)(L:aM .i64 w bj a)(r:∀v∈sc,∃x,a[v.toNat]?=σ x/\0<=x/\x<co.getD v.toNat 0):
  ak v8 H6 [.agg #[aS,lc,a8],bj] w λv I=>v=Δ (bq (bN co sc) cs (kd a sc))/\Ext w I:=by
 have A:dT (bN co sc):=ps s λv r=>⟨(h.scope.1 v r).1,h.d6 v r⟩;have ab:sc.length<=6:=h.scope.2;refine az func32 ?_;refine bn λM U ac j f=>?_;have f:ag U M a6 [aS,lc,a8]:=by
  obtain⟨_,_,_,N⟩:=c5 h1;obtain⟨_,_,_,O⟩:=c5 E;obtain⟨_,_,_,P⟩:=c5 G;rw[N,O,P]at f ⊢;exact f
 rw[aJ a6.p 0 f rfl,a1 an.u (h1.W j)];have ad:(kd a sc).length=sc.length:=by unfold kd;rw[r8]
 have ae:(bN co sc).length=sc.length:=by unfold bN;rw[r8]
 refine b7.range sc.length (λi Q V=>Ext U V/\∃m:Int,Q=Δ m/\cj ((bN co sc).take i) ((kd a sc).take i) 0=σ m) h1.le ⟨Ext.refl _,0,rfl,rfl⟩ ?_ ?_
 .rintro i _ V R hi ⟨e,m,rfl,hm⟩ S;obtain⟨v,q⟩:=aD (l:=sc) hi;obtain⟨x,H,W,X⟩:=r v (x7 q);have af:=h.scope.1 v (x7 q);have B:(bN co sc)[i]?=σ (co.getD v.toNat 0):=by unfold bN;rw[u4,q];rfl
  have Y:(kd a sc)[i]?=σ x:=by unfold kd;rw[u4,q,Y3,u5,H];rfl
  have ah:=A _ (x7 B);have J:∀z∈(bN co sc).take i,1<=z/\z<=32:=λz s=>A z (T1 s);have Z:=mm J hm;have aj:=prod_bound (l:=(bN co sc).take i) ⟨by rw[o8];omega,J⟩;refine bC Ω ?_;rw[bh an.u ai.i Ψ (h1.W (j.F e)) q];intro al C _ _;have K:=(j.F e).F C;have am:0<=m*co.getD v.toNat 0/\m*co.getD v.toNat 0<=1073741824*32:=⟨Int.mul_nonneg Ω Ω,Int.mul_le_mul Ω Ω Ω Ω⟩;rw[aJ a6.p 1 (f.W (e.F C)) rfl,bh an.u ai.i Ψ (E.W K) B,fB,m1 Ω Ω,fP (y:=v) (i:=v.toNat) Ω an.u ai.i Ψ (L.W K) H,aO,m1 Ω Ω,aO];refine S _ _ ⟨e.F C,_,rfl,?_⟩;rw[r9,r9,B,Y,j6,j6,E8 (by rw[o8,o8];omega),hm];simp only[Option.bind_some];rw[ms ⟨W,X⟩]
 .rintro _ V R ⟨e,m,rfl,hm⟩;rw[b9 Ω,b9 Ω]at hm;have Z:=mm A hm;have ao:cs.length=(aQ (bN co sc)).toNat:=h.len;refine b3 Ω ?_;have aa:cs[m.toNat]?=σ (cs.getD m.toNat 0):=by rw[u5,x8 Ω];rfl
  rw[aJ a6.p 2 (f.W e) rfl,fP (y:=m) (i:=m.toNat) Ω aw.u av.i Ψ (G.W (j.F e)) aa];refine⟨?_,j.F e⟩;unfold bq;rw[hm]
def FA{sv bj:x4}{s:am}(h:e9 w sv k co s)(G:bc k co s)(bi:b4 s)(Z:ig s a)(aB:aM .i64 w bj a):ak v8 HR [sv,bj] w λv I=>v=Δ (eP k s a)/\Ext w I:=by
 have b6:=G.d6;have hk:=G.fk;refine az func9 ?_;refine bn λg1 U b8 Q J=>?_;obtain⟨lc,cc,cd,ce,cf,cg,J,ch,_,bk,bl,bm,aa,_⟩:=h.box Q J;have ab:=aB.W Q;have ci:=Z.1;rw[aJ aE.p 2 J rfl,a1 an.u ab];obtain⟨B,R⟩:∃B,B=s.d6.zip a:=⟨_,rfl⟩;have ck:B.length=a.length:=by rw[R,List.length_zip];omega
 refine kS.range a.length (λi _ H V=>Ext U V/\∃e:Int,H=Δ e/\e=(B.take i).foldl (lR k) s.zero/\(0<=e/\e<=k)/\(B.take i).all fY=v2) aB.le
  ⟨Ext.refl _,s.zero,rfl,rfl,G.zero,rfl⟩ ?_ ?_
 .rintro i t4 _ V bo hi ⟨C,e,rfl,S,ac,W⟩ br;obtain⟨x,E⟩:=aD (l:=s.d6) (i:=i) Ω;obtain⟨v,r⟩:=aD (l:=a) hi;obtain⟨z,K⟩:=aD (l:=co) (i:=i) Ω;obtain⟨cl,bs,_⟩:=G.var i x z E K;have aG:B[i]?=σ (x,v):=by rw[R,List.getElem?_zip_eq_some];exact⟨E,r⟩
  have aH:B.take (i+1)=B.take i++[(x,v)]:=by rw[r9,aG];rfl
  have L:(B.take (i+1)).foldl (lR k) s.zero=lR k e (x,v):=by rw[aH,S2,<-S];rfl
  have aI:(B.take (i+1)).all fY=fY (x,v):=by rw[aH,List.all_append,W];simp
  have bt:(s.d6.map λx=>decide (x.gone≠0))[i]?=σ (decide (x.gone≠0)):=by rw[u4,E];rfl
  refine bC Ω ?_;refine i9 (λ_ H aK=>Ext U aK/\∃e:Int,H=Δ e/\e=(B.take (i+1)).foldl (lR k) s.zero/\(0<=e/\e<=k)/\(B.take (i+1)).all fY=v2) ?_ ?_
  .rintro t4 H aK ad;rw[aO];exact br _ _ _ ad
  intro ax M;have ae:=J.W C;rw[bh an.u ai.i Ψ (ab.W C) r,aJ aE.p 4 ae rfl];refine gn (α:=Bool) rfl rfl jb.u dK.i Ψ (bp bl C) bt λbu bw=>?_;obtain rfl:bu= .bool (decide (x.gone≠0)):=(List.cons.inj bw).1;rw[al];refine⟨λaL=>M _ _ _ ⟨C,e,rfl,?_,ac,?_⟩,λaf=>?_⟩
  .rw[L];unfold lR;rw[ms aL]
  .rw[aI];unfold fY;rw[rs aL,Bool.true_or]
  have bx:0<=v/\v<x.un.length:=(Z.2 i x v E r).resolve_left af;rw[aJ aE.p 3 ae rfl];refine gn (α:=Λ) (a:=aC x) rfl rfl ca.u an.i Ψ (bp bk C) (by rw[u4,E];rfl) λcm bA=>?_;refine(u3 (v:=v) (dl bA)).Y ?_;rintro _ cn _ ⟨rfl,aN⟩;have aP:=C.F aN;have aQ:=E9 bx;rw[bL,cb];refine⟨λag=>?_,λag=>?_⟩
  .have bB:v∉aC x:=by simpa using ag
   rw[aJ aE.p 0 (ae.W aN) rfl];refine⟨?_,Q.F aP⟩;unfold eP;rw[<-R,rc];intro bD;have:=List.all_eq_true.1 bD (x,v) (x7 aG);unfold fY at this;rw[s2 af,Bool.false_or]at this;exact bB (aQ.2 (by simpa using this))
  have bF:dropped x.mask v=v6:=aQ.1 (by simpa using ag);intro cp bG _ _;have ah:=aP.F bG;have aR:=J.W ah;have aV:x.un[v.toNat]?=σ (x.un.getD v.toNat 0):=by rw[u5,x8 (show v.toNat<x.un.length by omega)];rfl
  have cq:=bs _ (x7 aV);rw[aJ aE.p 5 aR rfl];refine gn (α:=Λ) (a:=x.un) rfl rfl cW.u aw.i Ψ (bp bm ah) (by rw[u4,E];rfl) λcr bH=>?_;rw[fP (y:=v) (i:=v.toNat) Ω aw.u av.i Ψ (dl bH) aV,aJ aE.p 0 aR rfl];refine(nt Ω Ω).Y ?_;rintro _ ct _ ⟨rfl,bI⟩;refine M _ _ _ ⟨ah.F bI,_,rfl,?_,⟨Ω,Ω⟩,?_⟩
  .rw[L];unfold lR;rw[rc af]
  .rw[aI];unfold fY;rw[bF];simp
 rintro t4 _ V bo ⟨C,e,rfl,S,ac,W⟩;rw[b9 Ω]at S W;have bJ:eP k s a=s.d9.foldl (lf k a) e:=by
  unfold eP;rw[<-R,W,ms rfl,<-S]
 refine b3 Ω ?_;rw[aJ aE.p 6 (J.W C) rfl,fU dh.u (bp aa C),r8];have aW:=nX aa;rw[r8]at aW;refine b7.range s.d9.length (λj H N=>Ext U N/\∃A:Int,H=Δ A/\A=(s.d9.take j).foldl (lf k a) e/\0<=A/\A<=k) aW
  ⟨C,e,rfl,rfl,ac⟩ ?_ ?_
 rotate_left
 .rintro _ N bK ⟨O,A,rfl,X,_⟩;rw[b9 Ω]at X;rw[aT,al];exact⟨λh=>Ω,λ_=>⟨by rw[bJ,X],Q.F O⟩⟩
 rintro j _ N bK cu ⟨O,A,rfl,X,bM⟩ bN;obtain⟨f,P⟩:=aD (l:=s.d9) (i:=j) Ω;obtain⟨Y,aX,cw⟩:=G.d9 f (x7 P);have L:(s.d9.take (j+1)).foldl (lf k a) e=lf k a A f:=by
  rw[r9,P,j6,S2,<-X];rfl
 refine bC Ω ?_;refine aY (λH aZ=>Ext U aZ/\∃A:Int,H=Δ A/\A=(s.d9.take (j+1)).foldl (lf k a) e/\0<=A/\A<=k) ?_ ?_
 .rintro H aZ ad;rw[aO];exact bN _ _ ad
 intro ax M;refine mi cC.p rfl dh.u cC.i (bp aa O) (by rw[u4,P];rfl) λcz a2=>?_;have bO:=ao.one a2;obtain⟨aS,ap,a8,rfl,bP,bQ,bR⟩:=mL a2;refine bE cC.i λa7 cA cB bS bT=>?_;refine b1 (vs:=[aS,ap,a8,.bool (decide (f.live≠0))]) cC.i rfl rfl bO bT λbU bV cD ba=>?_;have bb:Ext N bU:=bS.put bV Ω;rw[aU cC.p rfl,aF (v:=.bool (decide (f.live≠0))) Ψ (ba.cell (o:=0+3) rfl),al];refine⟨λbd=>?_,λbW=>M _ _ ⟨O.F bb,A,rfl,by rw[L];unfold lf;rw[rc bW],bM⟩⟩;intro aq be _ _;have bf:=bb.F be;have au:=O.F bf;have bX:=J.W au;have ay:=ba.W be;have bY:aq.rangeAt a7 0 [aS,ap,a8]:=λq v r=>by
  match q,r with
  |0,r=>cases r;exact ay.cell rfl
  |1,r=>cases r;exact ay.cell rfl
  |2,r=>cases r;exact ay.cell rfl
 rw[aU cC.p rfl,bz a6.p a6.i rfl (show aq.rangeAt a7 (0+0) [aS,ap,a8]from bY),aJ aE.p 0 bX rfl];have aA:∀{v:x4}{l:Λ},Seen eM N [v] l->aM .i64 aq v l:=λh=>(dl h).W bf;refine(Rx (a:=a) (aA bP) (aX▸aA bQ) (aA bR) Y G.ev.2.2 (ab.W au) λv r=>?_).Y ?_
 .have cE:=Y.scope.1 v r;have cF:=Y.d6 v r;obtain⟨x,E⟩:=aD (l:=s.d6) (i:=v.toNat) Ω;obtain⟨u,hu⟩:=aD (l:=a) (i:=v.toNat) Ω;obtain⟨z,K⟩:=aD (l:=co) (i:=v.toNat) Ω;have cG:=(G.var _ x z E K).1;have cH:=G.ev.2.2 z (x7 K);have bZ:=bi f (x7 P) bd v r x E;have b0:=(Z.2 _ x u E hu).resolve_left λh=>h bZ;refine⟨u,hu,b0.1,?_⟩;rw[u5,K,W7];omega
 rintro _ cI _ ⟨rfl,bg⟩;refine⟨.inl bg,?_⟩;rw[<-aX];have cJ:0<=bq f.aj f.cs (kd a f.sc)/\bq f.aj f.cs (kd a f.sc)<=k:=by
  unfold bq;cases hi:cj f.aj (kd a f.sc) 0 with
  |none=>simp only;omega
  |some m=>
   simp only;obtain⟨b2,cK,_⟩:=u1 G (x7 P);have cL:=mm b2.2 hi;rw[u5,x8 Ω,W7];exact Y.jm _ (P6 _)
 refine(nt Ω Ω).Y ?_;rintro _ cM _ ⟨rfl,b5⟩;refine M _ _ ⟨(au.F bg).F b5,_,rfl,?_,Ω,Ω⟩;rw[L];unfold lf;rw[ms bd]
def Ry{bv:x4}{mC:Λ}(J:aM .i64 w aS sc)(C:aM .i64 w bv mC)(h1:sc.length<=1000000)(P:mC.length<=1000000):
  ak v8 H8 [.agg #[Δ v,aS,bv]] w λr I=>Ext w I/\∃E G g1 H,r= .agg #[Δ v,E,G]/\w.heap.size<=g1/\w.heap.size<=H/\aB .i64 ai I g1 E sc/\aB .i64 ai I H G mC:=by
 refine az func39 ?_;refine bn λge U ac K L=>?_;have Q:ag U ge e2 [Δ v,aS,bv]:=by
  obtain⟨_,_,_,q⟩:=c5 J;obtain⟨_,_,_,R⟩:=c5 C;rw[q,R]at L ⊢;exact L
 refine bE e2.i λgr V ad M N=>?_;intro ae s _ _;have O:=M.F s;have e:=K.F O;have x:=Q.W O;rw[aJ e2.p 0 x rfl,aJ e2.p 1 x rfl,aJ e2.p 2 x rfl];refine(k1 (J.W e) h1).Y ?_;rintro y af _ ⟨a,S,ah,f⟩;refine⟨.inl a,?_⟩;refine(k1 ((C.W e).W a) P).Y ?_;rintro z aj _ ⟨h,W,al,j⟩;refine⟨.inl (a.F h),?_⟩;have z3:=e.size;have z4:=a.size;have X:=f.W h;rw[dk (cs:=#[Δ v,y,z]) (by obtain⟨_,_,_,rfl⟩:=c5 f.ls;obtain⟨_,_,_,rfl⟩:=c5 j.ls;kernel_rfl)];have Y:=((N.W s).W a).W h;have am:=M.size;have an:=N.lt;have ao:=s.size;refine b1 (vs:=[Δ v,y,z]) e2.i rfl rfl ?_ Y λZ A ap aa=>?_
 .intro u hu;simp at hu;rcases hu with rfl|rfl|rfl
  .rfl
  .exact f.ls.cells.2
  .exact j.ls.cells.2
 rw[fe e2.p e2.i rfl aa.range];have aq:=K.size;have ab:Ext w Z:=((e.F a).F h).put A Ω;refine⟨ab,y,z,S,W,rfl,Ω,Ω,bw X A λr B he=>?_,bw j A λr B he=>?_⟩
 .have he:r=gr:=he;obtain⟨q,_⟩:=bW f B;omega
 .have he:r=gr:=he;obtain⟨q,_⟩:=bW j B;omega
section
variable{w:x6}{ad ae:Nat}{A R:ah}{n:aI}{s:am}{t:aA}
end
theorem b4.d6{s:am}{i:Nat}{x y:bo}(h:b4 s)(r:s.d6[i]?=σ x)(w:y.gone=x.gone):b4 {s with d6:=s.d6.set i y}:=λf j p v q z a=>by
 have a:(s.d6.set i y)[v.toNat]?=σ z:=a;rw[Y7]at a;split at a
 .rename_i e;split at a
  .cases a;subst e;rw[w];exact h f j p v q x r
  .cases a
 .exact h f j p v q z a
theorem b4.d9{s:am}{f g:cm}(h:b4 s)(r:s.d9[j]?=σ f)(J:g.sc=f.sc)(w:g.live≠0->f.live≠0):b4 {s with d9:=s.d9.set j g}:=λx a e v p z q=>by
 rcases W8 a with a|rfl
 .exact h x a e v p z q
 .exact h f (x7 r) (w e) v (by rw[<-J];exact p) z q
structure fH where
 kind:Nat
 i:Int
 pos:Int
 v:Int
 c:Int
def dz(s:am)(i v:Int):Option bo:=if 0<=i then match s.d6[i.toNat]? with
 |some x=>if x.gone=0/\v∈aC x then σ x else ν
 |none=>ν else ν
def dp(s:am)(j pos v:Int):Option (cm×Int×bo):=if 0<=j/\0<=pos then match s.d9[j.toNat]? with
 |some f=>if f.live≠0 then match f.sc[pos.toNat]? with
  |some u=>(dz s u v).map λx=>(f,u,x)
  |none=>ν
  else ν
 |none=>ν else ν
def eh(k:Int)(s:am)(f:cm)(pos:Nat)(v:Int):Int:=((bX s f.sc pos v).map (bq f.aj f.cs)).foldl min k
def dj(k c most:Int):Int:=if¬(0<=c/\c<=k)then 3 else if most<c then 7 else 0
def iW(x:bo):Int:=match(aC x).map λv=>x.un.getD v.toNat 0 with
 |[]=>-1
 |c::l=>l.foldl min c
def gD(s:am)(i:Nat)(v:Int):Λ->am
 |[]=>s
 |w::L=>gD (if w≠v then dP s i w.toNat else s) i v L
def bg(k:Int)(s:am)(a:fH):am×Int:=
 if a.kind=0 then match dp s a.i a.pos a.v with
  |none=>(s,1)
  |some (f,u,x)=>if dj k a.c (eh k s f a.pos.toNat a.v)≠0 then(s,dj k a.c (eh k s f a.pos.toNat a.v))else(gd s a.i.toNat f a.pos.toNat u.toNat x a.v (λg=>cY k g a.c) λg=>cr k g a.c,0)
 else if a.kind=1 then match dp s a.i a.pos a.v with
  |none=>(s,1)
  |some (f,u,x)=>if dj k a.c (x.un.getD a.v.toNat 0)≠0 then(s,dj k a.c (x.un.getD a.v.toNat 0))else(gd s a.i.toNat f a.pos.toNat u.toNat x a.v (λg=>cr k g a.c) λg=>cY k g a.c,0)
 else if a.kind=2 then match(if 0<=a.i then s.d6[a.i.toNat]? else ν)with
  |none=>(s,1)
  |some x=>if x.gone≠0 then(s,1)else if dj k a.c (iW x)≠0 then(s,dj k a.c (iW x))else(iB s a.i.toNat x (λg=>cY k g a.c) λg=>cr k g a.c,0)
 else if a.kind=3 then match(if 0<=a.i then s.d6[a.i.toNat]? else ν)with
  |none=>(s,1)
  |some x=>if x.gone≠0 then(s,1)else if dj k a.c (if aC x=[]then-1 else s.zero)≠0 then(s,dj k a.c (if aC x=[]then-1 else s.zero))else(iB s a.i.toNat x (λg=>cr k g a.c) λg=>cY k g a.c,0)
 else if a.kind=4 then match dz s a.i a.v with
  |none=>(s,1)
  |some x=>if cr k s.zero (x.un.getD a.v.toNat 0)<k then(s,7)else(dP s a.i.toNat a.v.toNat,0)
 else match dz s a.i a.v with
  |none=>(s,1)
  |some x=>(gD s a.i.toNat a.v (aC x),0)
theorem ov:∀(l:Λ)(z c:Int),c<=l.foldl min z↔c<=z/\∀x∈l,c<=x
 |[],z,c=>Ξ
 |a::l,z,c=>by
  rw[V7,ov l (min z a) c];rw[List.forall_mem_cons];exact⟨λ⟨h1,e⟩=>⟨Ω,Ω,e⟩,λ⟨h1,e,f⟩=>⟨Ω,f⟩⟩
def ll{most:Int}(h:¬dj k c most≠0):(0<=c/\c<=k)/\c<=most:=by
 unfold dj at h;split at h
 .exact ro Φ h
 .rename_i h1;split at h
  .exact ro Φ h
  .exact⟨X5.1 h1,Ω⟩
def jO{s:am}{i:Int}{x:bo}(h:dz s i v=σ x):0<=i/\s.d6[i.toNat]?=σ x/\x.gone=0/\v∈aC x:=by
 unfold dz at h;split at h
 .rename_i e;split at h
  .rename_i y f;split at h
   .rename_i a;cases h;exact⟨e,f,a.1,a.2⟩
   .cases h
  .cases h
 .cases h
def mN{s:am}{j pos u:Int}{f:cm}{x:bo}(h:dp s j pos v=σ (f,u,x)):0<=j/\0<=pos/\s.d9[j.toNat]?=σ f/\f.live≠0/\f.sc[pos.toNat]?=σ u/\dz s u v=σ x:=by
 unfold dp at h;split at h
 .rename_i e;split at h
  .rename_i g p;split at h
   .rename_i q;split at h
    .rename_i w hw;cases a:dz s w v with
     |none=>rw[a]at h;cases h
     |some y=>
      rw[a]at h;cases h;exact⟨e.1,e.2,p,q,hw,a⟩
    .cases h
   .cases h
  .cases h
 .cases h
section
variable{k:Int}{co a:Λ}{s:am}
def ow{g:Int}(a:0<=g/\g<=k)(e:0<=c/\c<=g):0<=cY k g c/\cY k g c<=k:=by
 unfold cY;split<;>omega
def ox{g:Int}(a:0<=g/\g<=k)(e:0<=c):0<=cr k g c/\cr k g c<=k:=by
 unfold cr;omega
def ij{u:Nat}{v:Nat}{x:bo}(a:bc k co s)(e:s.d6[u]?=σ x):0<=x.un.getD v 0/\x.un.getD v 0<=k:=by
 have hk:=a.fk;have f:=(x5.1 e).1;have h:=a.d6;exact Fj Ω (a.var u x _ e (x8 Ω)).2.1
def nD{f:cm}(a:bc k co s)(e:f∈s.d9):0<=bq f.aj f.cs t/\bq f.aj f.cs t<=k:=(uI a.fk λc h=>⟨a.fk,(a.d9 f e).1.jm c h⟩).2
def yH{x:bo}(h:v∈aC x)(a:c<=iW x):c<=x.un.getD v.toNat 0:=by
 unfold iW at a;have hm:x.un.getD v.toNat 0∈(aC x).map λv=>x.un.getD v.toNat 0:=j5.2 ⟨v,h,rfl⟩;generalize (aC x).map (λv=>x.un.getD v.toNat 0)=l at a hm;cases l with
 |nil=>cases hm
 |cons b l=>
  have h1:=(ov l b c).1 a;rcases V4.1 hm with e|e
  .rw[e];exact h1.1
  .exact h1.2 _ e
theorem sF{i:Nat}{v:Int}{x:bo}:∀(L:Λ)(s:am),bc k co s->s.d6[i]?=σ x->(∀w∈L,0<=w/\w<x.un.length)->bc k co (gD s i v L)/\(b4 s->b4 (gD s i v L))/\
  ∀bj,ig s a->x.gone=0->a[i]?=σ bj->eP k (gD s i v L) a=if bj∈L/\bj≠v then k else eP k s a
 |[],s,z,j,_=>⟨z,id,λbj _ _ _=>by rw[rc Ξ];rfl⟩
 |w::L,s,z,j,C=>by
  unfold gD;by_cases hw:w≠v
  .rw[ms hw];have G:=C w (.head _);have J:=yB z j G;have H:=(x5.1 j).1;have K:(dP s i w.toNat).d6[i]?=σ {x with mask:=((x.mask.toNat ||| 2 ^ w.toNat:Nat):Int)}:=by rw[kI j];exact l9 H
   obtain⟨h1,E,F⟩:=sF L (dP s i w.toNat) J K λu hu=>C u (.tail _ hu);refine⟨h1,λM=>E ?_,λbj p A B=>?_⟩
   .rw[kI j];exact b4.d6 M j rfl
   .have N:ig (dP s i w.toNat) a:=by
     rw[kI j];refine⟨by show a.length=(s.d6.set _ _).length;rw[o7];exact p.1,λq y b r I=>?_⟩;have r:(s.d6.set i {x with mask:=((x.mask.toNat ||| 2 ^ w.toNat:Nat):Int)})[q]?=σ y:=r;by_cases e:i=q
     .subst e;rw[l9 H]at r;cases r;exact p.2 i x b j I
     .rw[Z6 e]at r;exact p.2 q y b r I
    rw[F bj N A B,Ft z p j A G B];by_cases e:bj=w
    .subst e;rw[ms rfl,ms (show bj∈bj::L/\bj≠v from⟨.head _,hw⟩)];split<;>rfl
    .rw[rc e];by_cases f:bj∈L/\bj≠v
     .rw[ms f,ms ⟨.tail _ f.1,f.2⟩]
     .rw[rc f,rc λh=>f ⟨(V4.1 h.1).resolve_left e,h.2⟩]
  .rw[rc hw];obtain⟨h1,E,F⟩:=sF L s z j λu hu=>C u (.tail _ hu);refine⟨h1,E,λbj p A B=>?_⟩;rw[F bj p A B];have hw:=X5.1 hw;by_cases f:bj∈L/\bj≠v
   .rw[ms f,ms ⟨.tail _ f.1,f.2⟩]
   .rw[rc f,rc λh=>f ⟨(V4.1 h.1).resolve_left λe=>h.2 (e.F hw),h.2⟩]
theorem b4.zero(h:b4 s):b4 {s with zero:=c}:=h
def FC{u:Nat}{f:cm}{x:bo}{tup un:Int->Int}(h:b4 s)(a:s.d9[j]?=σ f)(e:s.d6[u]?=σ x):b4 (gd s j f pos u x v tup un):=
 b4.d6 (b4.d9 h a rfl id) e rfl
def FD{u:Nat}{x:bo}{g z:Int->Int}(h:b4 s)(a:s.d6[u]?=σ x):b4 (iB s u x g z):=b4.zero (b4.d6 h a rfl)
def oy(k:Int)(s:am)(m:fH)(s':am)(e:Int)(a:Λ):Prop:=eP k s' a=if 5<=m.kind/\e=0/\a[m.i.toNat]? ≠σ m.v then k else eP k s a
def yI{m:fH}(p:bc k co s)(F:b4 s):bc k co (bg k s m).1/\b4 (bg k s m).1/\∀a,ig s a->oy k s m (bg k s m).1 (bg k s m).2 a:=by
 have hk:=p.fk;have B:∀e:Int,e≠0->bc k co s/\b4 s/\∀a,ig s a->oy k s m s e a:=λe he=>⟨p,F,λa _=>by unfold oy;rw[rc λh=>he h.2.1]⟩;have low:∀{s':am}{e:Int},m.kind<5->bc k co s'->b4 s'->(∀a,ig s a->eP k s' a=eP k s a)->bc k co s'/\b4 s'/\∀a,ig s a->oy k s m s' e a:=λhm h1 K T=>⟨h1,K,λa y=>by unfold oy;rw[rc λh=>Ω];exact T a y⟩;unfold bg;split
 .rename_i P;cases ac:dp s m.i m.pos m.v with
  |none=>exact B 1 Φ
  |some q=>
   obtain⟨f,u,x⟩:=q;simp only;split
   .rename_i he;exact B _ he
   .rename_i he;obtain⟨z,hm⟩:=ll he;simp only;obtain⟨_,_,G,L,hu,A⟩:=mN ac;obtain⟨aa,j,E,Q⟩:=jO A;have H:=x7 G;have U:∀t∈bX s f.sc m.pos.toNat m.v,m.c<=bq f.aj f.cs t:=λt C=>((ov _ _ _).1 hm).2 _ (j5.2 ⟨t,C,rfl⟩);have R:f.sc[m.pos.toNat]?=σ ((u.toNat:Nat):Int):=by rw[hu];congr 1;omega
    have C:∀t∈bX s f.sc m.pos.toNat m.v,0<=cY k (bq f.aj f.cs t) m.c/\cY k (bq f.aj f.cs t) m.c<=k:=λt C=>ow (nD p H) ⟨z.1,U t C⟩;have M:=ox (k:=k) (ij (v:=m.v.toNat) p j) z.1;refine low Ω (Fp p G j C M) (FC F G j) λa y=>Fq p y G L R j Q (F f H L) C M λt C r I=>?_;have:=nD (t:=t) p H;exact vb I ⟨U t C,this.2⟩ (ij p j) z.1
 split
 .rename_i _ P;cases ac:dp s m.i m.pos m.v with
  |none=>exact B 1 Φ
  |some q=>
   obtain⟨f,u,x⟩:=q;simp only;split
   .rename_i he;exact B _ he
   .rename_i he;obtain⟨z,hm⟩:=ll he;simp only;obtain⟨_,_,G,L,hu,A⟩:=mN ac;obtain⟨aa,j,E,Q⟩:=jO A;have H:=x7 G;have R:f.sc[m.pos.toNat]?=σ ((u.toNat:Nat):Int):=by rw[hu];congr 1;omega
    have C:∀t∈bX s f.sc m.pos.toNat m.v,0<=cr k (bq f.aj f.cs t) m.c/\cr k (bq f.aj f.cs t) m.c<=k:=λt C=>ox (nD p H) z.1;have M:=ow (k:=k) (ij (v:=m.v.toNat) p j) ⟨z.1,hm⟩;refine low Ω (Fp p G j C M) (FC F G j) λa y=>Fq p y G L R j Q (F f H L) C M λt C r I=>?_;have h1:=nD (t:=t) p H;have K:=ij (v:=m.v.toNat) p j;have:=vb I ⟨hm,K.2⟩ h1 z.1;omega
 split
 .rename_i _ _ P;cases ac:(if 0<=m.i then s.d6[m.i.toNat]? else ν)with
  |none=>exact B 1 Φ
  |some x=>
   have j:s.d6[m.i.toNat]?=σ x:=by split at ac;exact ac;cases ac
   simp only;split
   .exact B 1 Φ
   split
   .rename_i he;exact B _ he
   .rename_i E he;obtain⟨z,hm⟩:=ll he;simp only;have V:∀v∈aC x,m.c<=x.un.getD v.toNat 0:=λv A=>yH A hm;have N:∀v∈aC x,0<=cY k (x.un.getD v.toNat 0) m.c/\cY k (x.un.getD v.toNat 0) m.c<=k:=λv A=>ow (ij p j) ⟨z.1,V v A⟩;have O:=ox p.zero z.1;refine low Ω (yz p j N O) (FD F j) λa y=>Fs p y j (X5.1 E) N O λv A r I=>?_;exact vb I ⟨V v A,(ij p j).2⟩ p.zero z.1
 split
 .rename_i _ _ _ P;cases ac:(if 0<=m.i then s.d6[m.i.toNat]? else ν)with
  |none=>exact B 1 Φ
  |some x=>
   have j:s.d6[m.i.toNat]?=σ x:=by split at ac;exact ac;cases ac
   simp only;obtain⟨W,X⟩:∃W,W=(if aC x=[]then-1 else s.zero):=⟨_,rfl⟩;rw[<-X];split
   .exact B 1 Φ
   split
   .rename_i he;exact B _ he
   .rename_i E he;obtain⟨z,hm⟩:=ll he;simp only;have Y:m.c<=s.zero:=by
     rw[X]at hm;split at hm
     .omega
     .exact hm
    have N:∀v∈aC x,0<=cr k (x.un.getD v.toNat 0) m.c/\cr k (x.un.getD v.toNat 0) m.c<=k:=λv A=>ox (ij p j) z.1;have O:=ow p.zero ⟨z.1,Y⟩;refine low Ω (yz p j N O) (FD F j) λa y=>Fs p y j (X5.1 E) N O λv A r I=>?_;have:=vb I ⟨Y,p.zero.2⟩ (ij (v:=v.toNat) p j) z.1;omega
 split
 .rename_i _ _ _ _ P;cases ac:dz s m.i m.v with
  |none=>exact B 1 Φ
  |some x=>
   obtain⟨_,j,E,A⟩:=jO ac;simp only;split
   .exact B 7 Φ
   .rename_i he;have Z:=(e1.1 A).1;simp only;refine low Ω (yB p j Z) (by rw[kI j];exact b4.d6 F j rfl) λa y=>?_;have ab:=(x5.1 j).1;have ad:=y.1;obtain⟨bj,J⟩:=aD (l:=a) (i:=m.i.toNat) Ω;rw[Ft p y j E Z J];split
    .rename_i e;subst e;rw[pH p];split
     .have ae:(s.d6.zip a)[m.i.toNat]?=σ (x,m.v):=List.getElem?_zip_eq_some.2 ⟨j,J⟩;have h1:=sw (vc p) (x:=dQ (x,m.v)) (by rw[u4,ae];rfl);have K:=su _ (sx (a:=a) p);have ag:dQ (x,m.v)=x.un.getD m.v.toNat 0:=by unfold dQ;rw[rc (by simp[E])]
      unfold cr at he;omega
     .rfl
    .rfl
 .rename_i h1 K T ah ai;cases ac:dz s m.i m.v with
  |none=>exact B 1 Φ
  |some x=>
   obtain⟨_,j,E,A⟩:=jO ac;simp only;have S:∀w∈aC x,0<=w/\w<x.un.length:=λw hw=>(e1.1 hw).1;refine⟨(sF (a:=[]) (aC x) s p j S).1,(sF (a:=[]) (aC x) s p j S).2.1 F,λa y=>?_⟩;have ab:=(x5.1 j).1;have ad:=y.1;obtain⟨bj,J⟩:=aD (l:=a) (i:=m.i.toNat) Ω;unfold oy;rw[(sF (aC x) s p j S).2.2 bj y E J,J];by_cases e:bj=m.v
   .rw[rc λh=>h.2 e,rc λh=>h.2.2 (by rw[e])]
   .rw[ms (c:=5<=m.kind/\_) ⟨Ω,rfl,λh=>e (Z5 h)⟩];split
    .rfl
    .rename_i af;exact QY y j E J λh=>af ⟨h,e⟩
end
def Rz{f:Int->Int}(J:dT aj)(q:cs.length<=(br aj).length)(h:∀t∈L,f (bq aj cs t)=bq aj cs t):dX f L aj cs=cs:=by
 apply X0;intro i;cases a:cs[i]? with
 |none=>
  have h1:=List.getElem?_eq_none_iff.1 a;rw[Y5 (by rw[pE]<;>omega)]
 |some c=>
  obtain⟨t,j⟩:=aD (l:=br aj) (i:=i) (by have:=(x5.1 a).1;omega);rw[qL j a];split
  .rename_i p;have e:bq aj cs t=c:=by
    unfold bq;rw[kA J j];simp only;rw[u9,u5,a];rfl
   have:=h t p;rw[e]at this;rw[this]
  .rfl
section
variable{k:Int}{co:Λ}{s:am}
def FE{i:Int}{u:Nat}{x y:bo}{s':am}(a:s.d6[u]?=σ x)(f:s'.d6=s.d6.set u y)(h:aC y=aC x):ba s' i=ba s i:=by
 unfold ba;rw[f,Y7];by_cases e:u=i.toNat
 .subst e;rw[ms rfl,ms (x5.1 a).1,a];exact h
 .rw[rc e]
def FF{x:bo}(h:un.length=x.un.length):aC {x with un:=un}=aC x:=by
 unfold aC;rw[h]
def FG{u:Nat}{f:cm}{x:bo}{tup un:Int->Int}(a:s.d6[u]?=σ x):∀i,ba (gd s j f pos u x v tup un) i=ba s i:=λi=>
 FE a rfl (FF (by rw[o7]))
def RA{a:fH}{f:cm}{u:Int}{x:bo}(ac:dp s a.i a.pos a.v=σ (f,u,x)):
  (a.kind=0->(bg k s a).2=0->bg k s a=(gd s a.i.toNat f a.pos.toNat u.toNat x a.v (λg=>cY k g a.c) λg=>cr k g a.c,0)/\(0<=a.c/\a.c<=k)/\a.c<=eh k s f a.pos.toNat a.v)/\
  (a.kind=0->(0<=a.c/\a.c<=k)->a.c<=eh k s f a.pos.toNat a.v->bg k s a=(gd s a.i.toNat f a.pos.toNat u.toNat x a.v (λg=>cY k g a.c) λg=>cr k g a.c,0))/\
  (a.kind=1->(bg k s a).2=0->bg k s a=(gd s a.i.toNat f a.pos.toNat u.toNat x a.v (λg=>cr k g a.c) λg=>cY k g a.c,0)/\(0<=a.c/\a.c<=k)/\a.c<=x.un.getD a.v.toNat 0)/\
  (a.kind=1->(0<=a.c/\a.c<=k)->a.c<=x.un.getD a.v.toNat 0->bg k s a=(gd s a.i.toNat f a.pos.toNat u.toNat x a.v (λg=>cr k g a.c) λg=>cY k g a.c,0)):=by
 have q:∀{m:Int},(0<=a.c/\a.c<=k)->a.c<=m->dj k a.c m=0:=λh1 p=>by
  unfold dj;rw[rc (λh=>h h1),rc Ω]
 refine⟨λj he=>?_,λj h1 p=>?_,λj he=>?_,λj h1 p=>?_⟩
 .unfold bg at he ⊢;rw[ms j,ac]at he ⊢;simp only at he ⊢;split at he
  .rename_i e;exact ro he e
  .rename_i e;rw[rc e];exact⟨rfl,ll e⟩
 .unfold bg;rw[ms j,ac];simp only;rw[rc (λh=>h (q h1 p))]
 .unfold bg at he ⊢;rw[rc Ω,ms j,ac]at he ⊢;simp only at he ⊢;split at he
  .rename_i e;exact ro he e
  .rename_i e;rw[rc e];exact⟨rfl,ll e⟩
 .unfold bg;rw[rc Ω,ms j,ac];simp only;rw[rc (λh=>h (q h1 p))]
end
section
variable{k:Int}{co:Λ}{s:am}
def qQ{f:cm}(a:bc k co s)(e:f∈s.d9)(p:∀u,f.sc[pos]?=σ u->v∈ba s u)(h:t∈bX s f.sc pos v):∃m:Nat,cj f.aj t 0=σ (m:Int):=by
 obtain⟨j,q,_⟩:=a.d9 f e;obtain⟨r,_⟩:=kH a e;rw[yt a (λu hu=>⟨(j.scope.1 u hu).1,j.d6 u hu⟩) p,<-q]at h;obtain⟨i,hi⟩:=X8.1 (S8.1 h).1;exact⟨i,kA r hi⟩
def room_le{f:cm}:c<=eh k s f pos v↔c<=k/\∀t∈bX s f.sc pos v,c<=bq f.aj f.cs t:=by
 unfold eh;rw[ov];refine and_congr_right λ_=>⟨λh t a=>h _ (j5.2 ⟨t,a,rfl⟩),λh x e=>?_⟩;obtain⟨t,a,rfl⟩:=j5.1 e;exact h t a
end
def RB{x:bo}(p:aC x≠[])(h:∀v∈aC x,c<=x.un.getD v.toNat 0):c<=iW x:=by
 unfold iW;have a:∀y∈(aC x).map λv=>x.un.getD v.toNat 0,c<=y:=λy f=>by
  obtain⟨v,q,rfl⟩:=j5.1 f;exact h v q
 have j:(aC x).map (λv=>x.un.getD v.toNat 0)≠[]:=λe=>p (List.map_eq_nil_iff.1 e);generalize (aC x).map (λv=>x.un.getD v.toNat 0)=l at a j;cases l with
 |nil=>exact ro rfl j
 |cons b l=>exact(ov l b c).2 ⟨a b (.head _),λy f=>a y (.tail _ f)⟩
section
variable{k:Int}{co:Λ}{s:am}
def FH{x:bo}{g:Int->Int}{L:Λ}:aC {x with un:=ee g x.un L}=aC x:=FF (sy _ _)
def RC{a:fH}{x:bo}(r:0<=a.i)(w:s.d6[a.i.toNat]?=σ x)(f:x.gone=0):
  (a.kind=2->(bg k s a).2=0->bg k s a=(iB s a.i.toNat x (λg=>cY k g a.c) λg=>cr k g a.c,0)/\(0<=a.c/\a.c<=k)/\a.c<=iW x)/\
  (a.kind=2->(0<=a.c/\a.c<=k)->a.c<=iW x->bg k s a=(iB s a.i.toNat x (λg=>cY k g a.c) λg=>cr k g a.c,0))/\
  (a.kind=3->(bg k s a).2=0->bg k s a=(iB s a.i.toNat x (λg=>cr k g a.c) λg=>cY k g a.c,0)/\(0<=a.c/\a.c<=k)/\a.c<=(if aC x=[]then-1 else s.zero))/\
  (a.kind=3->(0<=a.c/\a.c<=k)->a.c<=(if aC x=[]then-1 else s.zero)->bg k s a=(iB s a.i.toNat x (λg=>cr k g a.c) λg=>cY k g a.c,0)):=by
 have p:∀{m:Int},(0<=a.c/\a.c<=k)->a.c<=m->dj k a.c m=0:=λh1 j=>by
  unfold dj;rw[rc (λh=>h h1),rc Ω]
 generalize q:(if aC x=[]then-1 else s.zero)=y;have ac:(if 0<=a.i then s.d6[a.i.toNat]? else ν)=σ x:=by rw[ms r,w]
 refine⟨λhk he=>?_,λhk h1 j=>?_,λhk he=>?_,λhk h1 j=>?_⟩
 .unfold bg at he ⊢;rw[rc Ω,rc Ω,ms hk,ac]at he ⊢;simp only at he ⊢;rw[rc (λh=>h f)]at he ⊢;split at he
  .rename_i e;exact ro he e
  .rename_i e;rw[rc e];exact⟨rfl,ll e⟩
 .unfold bg;rw[rc Ω,rc Ω,ms hk,ac];simp only;rw[rc (λh=>h f),rc (λh=>h (p h1 j))]
 .unfold bg at he ⊢;rw[rc Ω,rc Ω,rc Ω,ms hk,ac]at he ⊢;simp only[q]at he ⊢;rw[rc (λh=>h f)]at he ⊢;split at he
  .rename_i e;exact ro he e
  .rename_i e;rw[rc e];exact⟨rfl,ll e⟩
 .unfold bg;rw[rc Ω,rc Ω,rc Ω,ms hk,ac];simp only[q];rw[rc (λh=>h f),rc (λh=>h (p h1 j))]
end
section
variable{k:Int}{co:Λ}{s:am}
def RD{m:fH}(h:(bg k s m).2≠0):(bg k s m).1=s:=by
 generalize hm:bg k s m=r at h ⊢;unfold bg at hm
 repeat' split at hm
 all_goals (subst hm;first|rfl|exact ro rfl h)
end
def FI{of:Int->Int}(hk:0<=k)(h:∀v∈l,0<=of v/\of v<=k):0<=(dE k l of).1/\(dE k l of).1<=k:=by
 unfold dE;have:∀(l:Λ)(p:Int×Int),(0<=p.1/\p.1<=k)->(∀v∈l,0<=of v/\of v<=k)->0<=(l.foldl (e0 of) p).1/\(l.foldl (e0 of) p).1<=k:=λl=>by
  induction l with
  |nil=>exact λp ac _=>ac
  |cons v l e=>
   intro p ac a;refine e _ ?_ λu hu=>a u (.tail _ hu);unfold e0;split
   .exact a v (.head _)
   .exact ac
 exact this l (k,-1) ⟨hk,S9 _⟩ h
section
variable{w:x6}{ad ae:Nat}{A R:ah}{n:aI}{s:am}{t:aA}
end
def simpStep(of:Λ->Int)(p:Int×Option (Λ))(tl:Λ):Int×Option (Λ):=if p.2=ν\/of tl<p.1 then(of tl,σ tl)else p
def fI(k:Int)(of:Λ->Int)(l:List (Λ)):Int×Option (Λ):=l.foldl (simpStep of) (k,ν)
section
variable{w:x6}{ad ae:Nat}{A R:ah}{n:aI}{s:am}{t:aA}
end
def dF(n:aI)(s:am)(i:Int):Int×Int:=dE n.k (ba s i) (cu n s i)
def ln(n:aI)(s:am)(j:Nat)(f:cm)(p:Nat)(v:Int):Int×Option (Λ):=fI n.k (yr s j) (pF s f.sc p f.sc.length 0 ((o6 f.sc.length 0).set p v))
def RE{s:am}{i:Int}(a:bc k co s):(ba s i).length<=32:=by
 unfold ba;split
 .rename_i x e;have h:=(x5.1 e).1;have j:=a.d6;obtain⟨z,f⟩:=aD (l:=co) (i:=i.toNat) Ω;have h1:=(a.var _ x z e f).1;have p:=a.ev.2.2 z (x7 f);have q:(aC x).length<=x.un.length:=by
   unfold aC;refine X1 (List.length_filter_le _ _) ?_;rw[r8,List.length_range];exact o4 _
  omega
 .simp
section
variable{k:Int}{n:aI}{s:am}
end
theorem yJ{of:Int->Int}{c:Int}:∀(l:Λ)(b w:Int),w≠ -1->(∀v∈l,v≠ -1)->(c<=(l.foldl (e0 of) (b,w)).1↔c<=b/\∀v∈l,c<=of v)
 |[],b,w,_,_=>Ξ
 |v::l,b,w,hw,e=>by
  rw[V7,List.forall_mem_cons];have j:=e v (.head _);have f:=λu hu=>e u (.tail _ hu);unfold e0;by_cases h:of v<b
  .rw[ms (.inr h)];show c<=(l.foldl (e0 of) (of v,v)).1↔_;rw[yJ l _ _ j f];exact⟨λ⟨h1,a⟩=>⟨Ω,h1,a⟩,λ⟨_,h1,a⟩=>⟨h1,a⟩⟩
  .rw[rc (by rintro (h1|h1)<;>contradiction)];show c<=(l.foldl (e0 of) (b,w)).1↔_;rw[yJ l _ _ hw f];exact⟨λ⟨h1,a⟩=>⟨h1,Ω,a⟩,λ⟨h1,_,a⟩=>⟨h1,a⟩⟩
def RF{of:Int->Int}(h:∀v∈l,v≠ -1/\of v<=k):c<=(dE k l of).1↔c<=k/\∀v∈l,c<=of v:=by
 cases l with
 |nil=>simp[dE]
 |cons v l=>
  have f:=h v (.head _);have e:dE k (v::l) of=l.foldl (e0 of) (of v,v):=by
   unfold dE;rw[V7];congr 1
  rw[e,yJ l _ _ f.1 λu hu=>(h u (.tail _ hu)).1,List.forall_mem_cons];exact⟨λ⟨h1,a⟩=>⟨Ω,h1,a⟩,λ⟨_,h1,a⟩=>⟨h1,a⟩⟩
section
variable{n:aI}{s:am}
def RG{i:Int}(e:bc n.k n.co s):∀v∈ba s i,v≠ -1/\cu n s i v<=n.k:=λv a=>by
 refine⟨?_,(qM e).2⟩;unfold ba at a;split at a
 .have:=Ff a;omega
 .cases a
def FJ{i:Int}(a:bc n.k n.co s):0<=(dF n s i).1/\(dF n s i).1<=n.k:=by
 have hk:=a.fk;exact FI Ω λv _=>qM a
def FK{w:Nat}{x:bo}{i u:Int}(f:bc n.k n.co s)(a:s.d6[w]?=σ x)(j:0<=v):u∈ba (dP s w v.toNat) i↔u∈ba s i/\(i.toNat=w->u≠v):=by
 have p:=(x5.1 a).1;have r:=f.d6;have h1:=f.var w x _ a (x8 Ω);have hm:((x.mask.toNat:Nat):Int)=x.mask:=Ω
 unfold ba;rw[kI a];simp only[Y7];by_cases e:w=i.toNat
 .subst e;rw[ms rfl,ms p,a];simp only;rw[e1,e1];by_cases hu:0<=u
  .simp only;rw[yA j hu,hm,U1];simp[and_assoc]
  .exact⟨λh=>Ω,λh=>Ω⟩
 .rw[rc e];exact⟨λh=>⟨h,λq=>ro q.symm e⟩,λh=>h.1⟩
def RH{w:Nat}{i u:Int}{x:bo}(a:s.d6[w]?=σ x):cu n (dP s w v.toNat) i u=cu n s i u:=by
 unfold cu fl;rw[kI a];simp only[Y7];by_cases e:w=i.toNat
 .subst e;rw[ms rfl,ms (x5.1 a).1,a]
 .rw[rc e]
end
structure dG(s s':am):Prop where
 d6:s'.d6.length=s.d6.length
 var:∀(i:Nat)x y,s.d6[i]?=σ x->s'.d6[i]?=σ y->y.gone=x.gone/\y.un.length=x.un.length
 d9:s'.d9.length=s.d9.length
 fn:∀(j:Nat)f g,s.d9[j]?=σ f->s'.d9[j]?=σ g->g.sc=f.sc/\g.aj=f.aj/\g.live=f.live/\g.cs.length=f.cs.length
 du:s'.du=s.du
def dG.rfl{s:am}:dG s s:=⟨Eq.refl _,λ_ _ _ h1 a=>by rw[h1]at a;cases a;exact⟨Eq.refl _,Eq.refl _⟩,Eq.refl _,λ_ _ _ h1 a=>by rw[h1]at a;cases a;exact⟨Eq.refl _,Eq.refl _,Eq.refl _,Eq.refl _⟩,Eq.refl _⟩
def dG.F{a b c:am}(h:dG a b)(k:dG b c):dG a c:=by
 refine⟨k.d6.F h.d6,λi x z p A=>?_,k.d9.F h.d9,λj f q r B=>?_,k.du.F h.du⟩
 .have C:=(x5.1 p).1;have E:=h.d6;obtain⟨y,s⟩:=aD (l:=b.d6) (i:=i) Ω;have h1:=h.var i x y p s;have e:=k.var i y z s A;exact⟨e.1.F h1.1,e.2.F h1.2⟩
 .have C:=(x5.1 r).1;have E:=h.d9;obtain⟨g,w⟩:=aD (l:=b.d9) (i:=j) Ω;have h1:=h.fn j f g r w;have e:=k.fn j g q w B;exact⟨e.1.F h1.1,e.2.1.F h1.2.1,e.2.2.1.F h1.2.2.1,e.2.2.2.F h1.2.2.2⟩
section
variable{k:Int}{co:Λ}{s:am}
def yK{i:Nat}{x y:bo}(r:s.d6[i]?=σ x)(w:y.gone=x.gone)(z:y.un.length=x.un.length):dG s {s with d6:=s.d6.set i y}:=by
 refine⟨o7,λj a b q h=>?_,rfl,λj f g h1 p=>?_,rfl⟩
 .have h:(s.d6.set i y)[j]?=σ b:=h;by_cases e:i=j
  .subst e;rw[l9 (x5.1 r).1]at h;rw[r]at q;cases q;cases h;exact⟨w,z⟩
  .rw[Z6 e,q]at h;cases h;exact⟨rfl,rfl⟩
 .have p:=p;rw[h1]at p;cases p;exact⟨rfl,rfl,rfl,rfl⟩
def RI{f g:cm}(w:s.d9[j]?=σ f)(h:g.sc=f.sc/\g.aj=f.aj/\g.live=f.live/\g.cs.length=f.cs.length):dG s {s with d9:=s.d9.set j g}:=by
 refine⟨rfl,λi a b r p=>?_,o7,λq a b r p=>?_,rfl⟩
 .have p:=p;rw[r]at p;cases p;exact⟨rfl,rfl⟩
 .have p:(s.d9.set j g)[q]?=σ b:=p;by_cases e:j=q
  .subst e;rw[l9 (x5.1 w).1]at p;rw[w]at r;cases r;cases p;exact h
  .rw[Z6 e,r]at p;cases p;exact⟨rfl,rfl,rfl,rfl⟩
def RJ:dG s {s with zero:=c}:=⟨rfl,λ_ _ _ h1 a=>by have a:=a;rw[h1]at a;cases a;exact⟨rfl,rfl⟩,rfl,λ_ _ _ h1 a=>by have a:=a;rw[h1]at a;cases a;exact⟨rfl,rfl,rfl,rfl⟩,rfl⟩
def yL{i:Nat}:dG s (dP s i v.toNat):=by
 cases a:s.d6[i]? with
 |none=>unfold dP;rw[a];exact .rfl
 |some x=>rw[kI a];exact yK a rfl rfl
theorem yM{i:Nat}{v:Int}:∀(L:Λ)(s:am),dG s (gD s i v L)
 |[],_=>.rfl
 |w::L,s=>by
  unfold gD;split
  .exact yL.F (yM L _)
  .exact yM L s
def FL{u:Nat}{x:bo}{g z:Int->Int}(a:s.d6[u]?=σ x):dG s (iB s u x g z):=
 (yK (y:={x with un:=ee g x.un (aC x)}) a rfl (sy _ _)).F RJ
def FM{u:Nat}{f:cm}{x:bo}{t un:Int->Int}(e:bc k co s)(a:s.d9[j]?=σ f)(h:s.d6[u]?=σ x):dG s (gd s j f pos u x v t un):=by
 obtain⟨_,p⟩:=kH e (x7 a);have h1:dG s (ed s j f (dX t (bX s f.sc pos v) f.aj f.cs)):=RI a ⟨rfl,rfl,rfl,pE _ _ _ _ Ω⟩;exact h1.F (yK (y:={x with un:=x.un.set v.toNat (un (x.un.getD v.toNat 0))}) h rfl o7)
def yN{m:fH}(q:bc k co s):dG s (bg k s m).1:=by
 by_cases he:(bg k s m).2=0
 .generalize a:bg k s m=r at he ⊢;unfold bg at a;split at a
  .split at a
   .subst a;exact .rfl
   .rename_i f u x ac;obtain⟨_,_,e,_,_,j⟩:=mN ac;obtain⟨_,p,_,_⟩:=jO j;split at a
    .subst a;exact .rfl
    .subst a;simp only;exact FM q e p
  split at a
  .split at a
   .subst a;exact .rfl
   .rename_i f u x ac;obtain⟨_,_,e,_,_,j⟩:=mN ac;obtain⟨_,p,_,_⟩:=jO j;split at a
    .subst a;exact .rfl
    .subst a;simp only;exact FM q e p
  have key:∀{x:bo},(if 0<=m.i then s.d6[m.i.toNat]? else ν)=σ x->s.d6[m.i.toNat]?=σ x:=λh=>by
   split at h
   .exact h
   .cases h
  split at a
  .split at a
   .subst a;exact .rfl
   .rename_i x ac;split at a
    .subst a;exact .rfl
    .split at a
     .subst a;exact .rfl
     .subst a;simp only;exact FL (key ac)
  split at a
  .split at a
   .subst a;exact .rfl
   .rename_i x ac;generalize (if aC x=[]then-1 else s.zero)=w at a;split at a
    .subst a;exact .rfl
    .split at a
     .subst a;exact .rfl
     .subst a;simp only;exact FL (key ac)
  split at a
  .split at a
   .subst a;exact .rfl
   .split at a
    .subst a;exact .rfl
    .subst a;exact yL
  .split at a
   .subst a;exact .rfl
   .subst a;exact yM _ _
 .rw[RD he];exact .rfl
def eD(i v:Int):fH:=⟨4,i,0,v,0⟩
def lY(i c:Int):fH:=⟨2,i,0,0,c⟩
def dq(k:Int)(i:Int):Λ->am×Bool->am×Bool
 |[],p=>p
 |v::L,p=>dq k i L ((bg k p.1 (eD i v)).1,decide ((bg k p.1 (eD i v)).2=0)||p.2)
def fa(n:aI)(i:Int)(p:am×Bool):am×Bool×Bool:=
 if dD p.1 i.toNat=v2 then(p.1,p.2,v6)else
 let q:=dq n.k i (ba p.1 i) (p.1,v6)
 if(dF n q.1 i).2<0 then(q.1,v6,v2)else
 if 0<(dF n q.1 i).1 then((bg n.k q.1 (lY i (dF n q.1 i).1)).1,v2,v6)else(q.1,q.2||p.2,v6)
def gS(n:aI):List Nat->am×Bool->am×Bool×Bool
 |[],p=>(p.1,p.2,v6)
 |i::L,p=>if(fa n (i:Int) p).2.2=v2 then((fa n (i:Int) p).1,v6,v2)else gS n L ((fa n (i:Int) p).1,(fa n (i:Int) p).2.1)
def fx(n:aI)(s:am):am×Bool×Bool:=gS n (X9 n.co.length) (s,v6)
structure gE(k:Int)(co:Λ)(s s':am):Prop where
 ok:bc k co s'
 iX:b4 s'
 same:dG s s'
 val:∀a,ig s a->eP k s' a=eP k s a
 ki:∀i u,u∈ba s' i->u∈ba s i
 zero:s.zero<=s'.zero
def yO{s':am}(h:dG s s')(e:ig s a):ig s' a:=by
 refine⟨e.1.F h.d6.symm,λi y v f p=>?_⟩;have q:=(x5.1 f).1;have r:=h.d6;obtain⟨x,j⟩:=aD (l:=s.d6) (i:=i) Ω;have h1:=h.var i x y j f;rw[h1.1,h1.2];exact e.2 i x v j p
def gE.rfl(a:bc k co s)(e:b4 s):gE k co s s:=⟨a,e,.rfl,λ_ _=>Eq.refl _,λ_ _ h=>h,S9 _⟩
def gE.F{a b c:am}(h:gE k co a b)(g:gE k co b c):gE k co a c:=
 ⟨g.ok,g.iX,h.same.F g.same,λx e=>(g.val x (yO h.same e)).F (h.val x e),λi u hu=>h.ki i u (g.ki i u hu),Int.le_trans h.zero g.zero⟩
def FN{m:fH}(e:bc k co s)(f:b4 s)(hm:m.kind<5)(h:∀i u,u∈ba (bg k s m).1 i->u∈ba s i)(j:s.zero<=(bg k s m).1.zero):gE k co s (bg k s m).1:=by
 obtain⟨h1,p,q⟩:=yI (m:=m) e f;refine⟨h1,p,yN e,λa r=>?_,h,j⟩;have:=q a r;unfold oy at this;rw[rc Ω]at this;exact this
end
def dH{α:Type}(a b:List α)(i:Nat):List α:=a.take i++b.drop i
def vi{α:Type}{a b:List α}(h:a.length=b.length):dH a b b.length=a:=by
 unfold dH;rw[List.drop_length,U2,<-h,o9]
def yP{α:Type}{a b:List α}{i:Nat}(h:a.length=b.length):(dH a b i).length=b.length:=by
 unfold dH;rw[n9,o8,List.length_drop];omega
def FO{α:Type}{a b:List α}{i:Nat}(h:a.length=b.length)(hi:i<b.length):(dH a b i)[i]?=b[i]?:=by
 unfold dH;rw[Z7 (by rw[o8];omega),o8,R3];congr 1;omega
def vj{α:Type}{a b:List α}{i:Nat}{x:α}(h:a.length=b.length)(f:a[i]?=σ x):(dH a b i).set i x=dH a b (i+1):=by
 have q:=(x5.1 f).1;refine X0 λj=>?_;unfold dH;rw[Y7,n9,o8,List.length_drop];by_cases e:i=j
 .subst e;rw[ms rfl,ms Ω,Y2 (by rw[o8];omega),Y6 Ω,f]
 .rw[rc e];by_cases p:j<i
  .rw[Y2 (by rw[o8];omega),Y2 (by rw[o8];omega),Y6 p,Y6 Ω]
  .rw[Z7 (by rw[o8];omega),Z7 (by rw[o8];omega),o8,o8,R3,R3];congr 1;omega
def dg(a b:am)(m q:Nat):am:=⟨a.zero,dH a.d6 b.d6 m,dH a.d9 b.d9 q,b.du⟩
def RK{a b:am}(h:dG b a):dg a b b.d6.length b.d9.length=a:=by
 unfold dg;rw[vi h.d6,vi h.d9,<-h.du]
def RL{x y:bo}(h1:y.gone=x.gone):({({x with mask:=y.mask}:bo)with un:=y.un}:bo)=y:=by
 cases x;cases y;simp only at h1;subst h1;rfl
def RM{x y:bo}(h:y.un.length=x.un.length):aC {x with mask:=y.mask}=aC y:=by
 unfold aC;simp only;rw[h]
def RN{f g:cm}(h:g.sc=f.sc/\g.aj=f.aj/\g.live=f.live):({f with cs:=g.cs}:cm)=g:=by
 obtain⟨h1,a,e⟩:=h;cases f;cases g;simp only at h1 a e;subst h1;subst a;subst e;rfl
def vk(B:Nat)(w:x6)(a:x4)(cs:List x4)(f:ce):Prop:=∃ad ae A R t N A9 aH,fq N f/\a=Γ ad/\bG w ad ae A R (cK f) (c6 (cK f)) t/\Plain t/\(∀r,A r->B<=r)/\
 gC v2 A9 aH w cs (cK f).k (cK f).co (c6 (cK f))/\(∀q r,A9 q r->¬A r/\¬R r/\B<=r)/\(∀r,aH r->¬eH w r/\r<w.heap.size/\B<=r)/\∀r,R r->B<=r
def RO(w:x6)(q:Λ)(v:x4)(I:x6):Prop:=Ext w I/\∃a cs ok,v= .tuple #[a,.agg cs.toArray,.bool ok]/\(cs.length=8/\∀u∈cs,u.oneCell'=v2)/\((ok=v6/\a= .pointer ν)\/(ok=v2/\∃f,gY q=σ f/\vk w.heap.size I a cs f))/\∀f,gY q=σ f->nz f.d9<=16384->ok=v2
def RP(J:dT aj):(br aj).Nodup:=by
 rw[List.nodup_iff_pairwise_ne,U5];intro i j hi a f he;have h1:=kA J (x8 hi);have e:=kA J (x8 a);rw[he,e]at h1;have:=Z5 h1;omega
section
variable{k:Int}{co:Λ}{s:am}
def FP{f:cm}(a:bc k co s)(e:f∈s.d9)(j:∀u,f.sc[pos]?=σ u->v∈ba s u):(bX s f.sc pos v).Nodup:=by
 obtain⟨h,p,_⟩:=a.d9 f e;obtain⟨q,_⟩:=kH a e;rw[yt a (λu hu=>⟨(h.scope.1 u hu).1,h.d6 u hu⟩) j,<-p];exact(RP q).sublist List.filter_sublist
def yQ{α:Type}{l:List α}{q:Nat}{a:α}(e:l.Nodup)(h:l[q]?=σ a):a∉l.take q:=λhm=>by
 obtain⟨i,hi⟩:=X8.1 hm;have f:i<q:=by have:=(x5.1 hi).1;rw[o8]at this;omega
 rw[Y6 f]at hi;have h1:=(x5.1 hi).1;have j:=(x5.1 h).1;have:=(List.getElem_inj e (h₁:=j)).1 (by rw[(x5.1 hi).2,(x5.1 h).2]);omega
def RQ{m:Nat}{f:cm}(a:s.d9[j]?=σ f)(e:f.live≠0)(hi:cj f.aj t 0=σ (m:Int)):yr s j t=bq f.aj f.cs t/\∃p,iy s j t=σ p:=by
 have h:∃p,iy s j t=σ p:=by
  unfold iy;rw[a];simp only;rw[ms e,hi];exact⟨_,rfl⟩
 obtain⟨p,ac⟩:=h;refine⟨?_,p,ac⟩;unfold yr;rw[ac,R2,ms rfl];unfold oo;rw[a]
def FQ{m q:Nat}{f:cm}{g:Int->Int}(y:bc k co s)(p:s.d9[j]?=σ f)(z:L.Nodup)(r:L[q]?=σ t)(hi:cj f.aj t 0=σ (m:Int)):
  bq f.aj (dX g (L.take q) f.aj f.cs) t=bq f.aj f.cs t/\lj (ed s j f (dX g (L.take q) f.aj f.cs)) j m (g (bq f.aj f.cs t))=ed s j f (dX g (L.take (q+1)) f.aj f.cs):=by
 obtain⟨a,A⟩:=kH y (x7 p);have w:=yQ z r;refine⟨by rw[Fk a A hi,rc w],?_⟩;have h:=ns a hi;rw[u9]at h;have E:=(x5.1 h).1;obtain⟨c,x⟩:=aD (l:=f.cs) (i:=m) Ω;have e:bq f.aj f.cs t=c:=by
  unfold bq;rw[hi];simp only;rw[u9,u5,x];rfl
 have B:=(QI (f:=g) a Ω h x w).2;unfold lj;have C:(ed s j f (dX g (L.take q) f.aj f.cs)).d9[j]?=σ {f with cs:=dX g (L.take q) f.aj f.cs}:=l9 (x5.1 p).1;rw[C,e];simp only;rw[B,r9,r];unfold ed;simp only[List.set_set];rfl
end
section
variable{w:x6}{ad ae:Nat}{A R:ah}{n:aI}{s:am}{t:aA}
def yR{i:Int}(h:bG w ad ae A R n s t):ak v8 Jn [Γ ad,Δ i,Δ v] w λr I=>Ext w I/\r=Δ (if(dz s i v).isSome=v2 then 0 else 1):=by
 have L:=h.2.2.2.1.d6;refine az func154 ?_;rw[di eF.u];simp only[Y0,a7];refine aY (λr U=>r= .bool (!(dz s i v).isSome)/\Ext w U) ?_ ?_
 .rintro _ U ⟨rfl,C⟩;rw[cb];exact⟨λp=>⟨C,by rw[rc (by simpa using p)]⟩,λp=>⟨C,by rw[ms (by simpa using p)]⟩⟩
 intro ax E;refine(uZ h).Y ?_;rintro _ V _ ⟨rfl,q⟩;rw[cb];refine⟨λa=>E _ _ ⟨?_,q⟩,λa=>?_⟩
 .rw[U9,sp]at a;have y:dz s i v=ν:=by
   unfold dz;rw[ms a.1];have z:=a.2;unfold dD at z;cases e:s.d6[i.toNat]? with
   |none=>rfl
   |some x=>
    rw[e]at z;simp only;rw[rc λh=>by simp[h.1]at z]
  rw[y];rfl
 refine(kG (i:=i) (h.W q)).Y ?_;rintro _ M _ ⟨⟨b,m,rfl,B⟩,H⟩;refine(Qy B.1).Y ?_;rintro _ N _ ⟨rfl,J⟩;rw[bL];refine E _ _ ⟨?_,(q.F H).F J⟩;congr 2;by_cases f:0<=i/\i<n.co.length
 .obtain⟨x,e⟩:=aD (l:=s.d6) (i:=i.toNat) Ω;rw[QN B f.1 e];unfold dz;rw[ms f.1,e];have K:x.gone=0:=by
   rw[rs f.1,Q4]at a;unfold dD at a;rw[e]at a;simpa using a
  simp only;by_cases j:v∈aC x
  .rw[rs j,ms ⟨K,j⟩];rfl
  .rw[s2 j,rc λh=>j h.2];rfl
 .obtain⟨rfl,rfl⟩:=B.2.1 f;have y:dz s i v=ν:=by
   unfold dz;by_cases G:0<=i
   .rw[ms G,Y5 Ω]
   .rw[rc G]
  rw[y,s2 Ω];rfl
def RR(s:am)(j pos v:Int)(u e:Int):Prop:=(e=0/\∃f x,dp s j pos v=σ (f,u,x))\/(e=1/\dp s j pos v=ν)
def yS{j pos:Int}(h:bG w ad ae A R n s t):ak v8 Jh [Γ ad,Δ j,Δ pos,Δ v] w λr I=>Ext w I/\∃u e,r= .tuple #[Δ u,Δ e]/\RR s j pos v u e:=by
 refine az func146 ?_;rw[di eF.u];simp only[Y0,a7];have key:∀(K:x4->x6->Prop),(∀r I,Ext w I->(∀f,0<=j->s.d9[j.toNat]?=σ f->aM .i64 I r f.sc)->K r I)->ak v8 tp [Γ ad,Δ j] w K:=λK W=>by
  by_cases X:0<=j/\j<s.d9.length
  .obtain⟨f,p⟩:=aD (l:=s.d9) (i:=j.toNat) Ω;have:=ss h p;rw[show((j.toNat:Nat):Int)=j by omega]at this;refine this.Y ?_;rintro r U _ ⟨C,g,_,hm⟩;exact W r U C λH _ Y=>by rw[p]at Y;cases Y;exact hm.ls
  .refine (QH h X).Y ?_;rintro r U _ ⟨rfl,C⟩;exact W _ U C λf E p=>ro ⟨E,by have:=(x5.1 p).1;omega⟩ X
 refine key _ λr U C Z=>?_;have L:∀{P:Prop},(¬∃f u,0<=j/\0<=pos/\s.d9[j.toNat]?=σ f/\f.live≠0/\f.sc[pos.toNat]?=σ u)->(dp s j pos v=ν->P)->P:=λz ao=>ao (by
  cases ac:dp s j pos v with
  |none=>rfl
  |some q=>
   obtain⟨f,u,x⟩:=q;obtain⟨M,N,a3,a4,a5,_⟩:=mN ac;exact ro ⟨f,u,M,N,a3,a4,a5⟩ z)
 refine aY (λaa V=>Ext U V/\((aa= .bool v2/\dp s j pos v=ν)\/(aa= .bool v6/\∃f u,0<=j/\0<=pos/\s.d9[j.toNat]?=σ f/\f.live≠0/\f.sc[pos.toNat]?=σ u))) ?_ ?_
 .rintro _ V ⟨O,⟨rfl,z⟩|⟨rfl,f,u,E,ab,p,ap,hu⟩⟩
  .rw[bO];exact⟨C.F O,0,1,rfl,.inr ⟨rfl,z⟩⟩
  .rw[a7];intro aq B _ _;have af:=(Z f E p).W (O.F B);refine rv Ω an.u ai.i af hu λb o au=>?_;rw[aF Ψ au,fP (y:=pos) (i:=pos.toNat) Ω an.u ai.i Ψ af hu];have ag:=(C.F O).F B;refine(yR (h.W ag)).Y ?_;rintro _ aw _ ⟨ah,rfl⟩;refine⟨.inl ah,ag.F ah,u,_,rfl,?_⟩;have ac:dp s j pos v=(dz s u v).map λx=>(f,u,x):=by
    unfold dp;rw[ms ⟨E,ab⟩,p];simp only;rw[ms ap,hu]
   cases aj:dz s u v with
   |none=>exact .inr ⟨rfl,by rw[ac,aj];rfl⟩
   |some x=>exact .inl ⟨rfl,f,x,by rw[ac,aj];rfl⟩
 intro ax J;refine(ym (h.W C)).Y ?_;rintro _ aq _ ⟨rfl,B⟩;have same:∀{f H:cm},s.d9[j.toNat]?=σ f->s.d9[j.toNat]?=σ H->H=f:=λa b=>by rw[a]at b;exact(Z5 b).symm
 rw[bL,cb];refine⟨λQ=>L (λ⟨f,u,M,N,a3,a4,a5⟩=>?_) λz=>J _ _ ⟨B,.inl ⟨rfl,z⟩⟩,λS=>?_⟩
 .unfold fv at Q;rw[a3]at Q;simp[M,a4]at Q
 have S:0<=j/\fv s j.toNat=v2:=by simpa using S
 obtain⟨E,G⟩:=S;obtain⟨f,p,av⟩:∃f,s.d9[j.toNat]?=σ f/\f.live≠0:=by
  unfold fv at G;cases p:s.d9[j.toNat]? with
  |none=>rw[p]at G;cases G
  |some f=>rw[p]at G;exact⟨f,rfl,by simpa using G⟩
 rw[aT,al];refine⟨λay=>L (λ⟨_,_,_,N,_⟩=>Ω) λz=>J _ _ ⟨B,.inl ⟨rfl,z⟩⟩,λab=>?_⟩;rw[a1 an.u ((Z f E p).W B),cP];by_cases am:(f.sc.length:Int)<=pos
 .refine L (λ⟨H,u,_,_,a3,_,a5⟩=>?_) λz=>J _ _ ⟨B,.inl ⟨by rw[rs am],z⟩⟩;obtain rfl:=same p a3;have:=(x5.1 a5).1;omega
 .obtain⟨u,hu⟩:=aD (l:=f.sc) (i:=pos.toNat) Ω;exact J _ _ ⟨B,.inr ⟨by rw[s2 am],f,u,E,Ω,p,av,hu⟩⟩
def vl{most:Int}(h:bG w ad ae A R n s t):ak v8 Ji [Γ ad,Δ c,Δ most] w λr I=>Ext w I/\r=Δ (dj n.k c most):=by
 refine az func147 ?_;refine(om h).Y ?_;rintro _ U _ ⟨rfl,a⟩;refine k0.Y ?_;rintro _ V _ ⟨rfl,e⟩;have hi:cG c n.k↔0<=c/\c<=n.k:=⟨λh=>h.2,λj=>⟨h.2.2.2.1.fk,j⟩⟩;unfold dj;rw[bL,cb];refine⟨λf=>⟨a.F e,?_⟩,λf=>?_⟩
 .have:¬cG c n.k:=by simpa using f
  rw[ms λh=>this (hi.2 h)]
 .have:cG c n.k:=by simpa using f
  rw[rc λh=>h (hi.1 this),bP,al];exact⟨λh=>⟨a.F e,by rw[ms h]⟩,λh=>⟨a.F e,by rw[rc h]⟩⟩
def RS{a b:Int}(hk:right k)(f:0<=a/\a<=k)(j:0<=b/\b<=k)(s:a=k\/b<=a):ak v8 J5 [Δ a,Δ b,Δ k] w λv I=>v= .tuple #[Δ (cY k a b),Δ 0]/\Ext w I:=by
 have x:1<=k/\k<=2147483648:=hk;refine az func214 ?_;refine aY (λr U=>r= .bool v6/\Ext w U) ?_ ?_
 .rintro _ U ⟨rfl,e⟩;unfold cY;rw[a7,bl,al];refine⟨λh=>⟨by rw[ms h],e⟩,λh=>?_⟩;rw[rc h,bP,al];refine⟨λy=>Ω,λ_=>?_⟩;rw[dA,m1 Ω Ω];exact⟨rfl,e⟩
 intro ax p;refine k0.Y ?_;rintro _ U _ ⟨rfl,e⟩;rw[rs (show cG a k from⟨hk,f⟩),bL,X3,a7];refine k0.Y ?_;rintro _ V _ ⟨rfl,q⟩;rw[rs (show cG b k from⟨hk,j⟩),bL,X3];exact p _ _ ⟨rfl,e.F q⟩
def vm{a:Int}(h:bG w ad ae A R n s t)(e:0<=a/\a<=n.k)(f:0<=c/\c<=n.k)(j:a=n.k\/c<=a):ak v8 oQ [Γ ad,Δ a,Δ c] w λr I=>r=Δ (cY n.k a c)/\Ext w I:=by
 refine az func149 ?_;refine(om h).Y ?_;rintro _ U _ ⟨rfl,p⟩;refine(RS h.2.2.2.1.fk e f j).Y ?_;rintro _ V _ ⟨rfl,q⟩;rw[bA,bB];exact⟨rfl,p.F q⟩
def sG{a:Int}(h:bG w ad ae A R n s t)(e:0<=a/\a<=n.k)(f:0<=c/\c<=n.k):ak v8 oR [Γ ad,Δ a,Δ c] w λr I=>r=Δ (cr n.k a c)/\Ext w I:=by
 refine az func150 ?_;refine(om h).Y ?_;rintro _ U _ ⟨rfl,j⟩;refine(QA e f h.2.2.2.1.fk).Y ?_;rintro _ V _ ⟨rfl,p⟩;rw[bA,bB];exact⟨rfl,j.F p⟩
end
def RT{g n c:Nat}{cs:List x4}(a:ag w g cO cs)(h:∀I,af (λr=>r=g) w I->(∀o vs,w.rangeAt g o vs->I.rangeAt g o vs)->K (.slice (σ ⟨g,0,ν⟩) n c) I):
  aG v8 (convert cT cT (.slice (σ ⟨g,0,ν⟩) n c)) w K:=by
 have f:∀r,(w.freeze ⟨g,cs.length,ν⟩ 1).heap[r]?=if g=r then(w.heap[r]?).map (λ| .cells c p (lo,hi)=>.cells c p (if lo == hi then(cs.length,cs.length+1)else(min lo cs.length,max hi (cs.length+1)))|o=>o)else w.heap[r]?:=λr=>by
  unfold x6.freeze;rw[rc Φ];exact Array.getElem?_modify
 have A:(w.freeze ⟨g,cs.length,ν⟩ 1).heap.size=w.heap.size:=by
  unfold x6.freeze;rw[rc Φ];exact Array.size_modify
 have q:w.shape? g=σ (cO,cs.length):=by
  unfold x6.shape?;unfold ag at a;rw[a];simp
 have s:(convert cT cT (.slice (σ ⟨g,0,ν⟩) n c)).run v8 w= .ok (.slice (σ ⟨g,0,ν⟩) n c) (w.freeze ⟨g,cs.length,ν⟩ 1):=by
  simp[convert,run_underlying cT.u,run_underlying cO.u,markStringish,q]
 unfold ag at a;refine .of s ⟨by unfold x6.freeze;rw[rc Φ],.ly (by unfold x6.freeze;rw[rc Φ]) (by unfold x6.freeze;rw[rc Φ]),by unfold x6.freeze;rw[rc Φ],Ω,λr o e J=>?_⟩ (h _ ⟨Ω,λr o e _ x=>?_⟩ λo vs y j v z=>?_)
 .rw[f];by_cases he:g=r
  .subst he;rw[a]at e;cases e;cases J
  .rw[rc he];exact e
 .rw[f,rc λhe=>x he.symm];exact e
 .have h1:=y j v z;unfold x6.cell? at h1 ⊢;rw[f,ms rfl];rw[a]at h1 ⊢;exact h1
def yT(s0 s:am):Prop:=s.zero=s0.zero/\s.d9=s0.d9/\s.d6.length=s0.d6.length/\∀(i:Nat)x,s.d6[i]?=σ x->∃a,s0.d6[i]?=σ a/\x.un=a.un/\x.gone=0/\a.gone=0/\a.mask=0
def yT.new(n:aI):yT (c6 n) (c6 n):=⟨rfl,rfl,rfl,λi x a=>by
 refine⟨x,a,rfl,?_⟩;have a:(n.unary.map newVar)[i]?=σ x:=a;rw[u4]at a;obtain⟨u,_,rfl⟩:=Y9.1 a;exact⟨rfl,rfl,rfl⟩⟩
def FR(n:aI):b4 (c6 n):=λf _ _ v _ x a=>by
 obtain⟨_,_,_,h,_⟩:=(yT.new n).2.2.2 _ x a;exact h
def RU{V:x6}{aq:Nat}{E:x4}{cs:List x4}{f:ce}(G:vk B V E cs f)(e:Ext V w)(H:ag w aq aE cs)(O:V.heap.size<=aq):
  ∃ad ae A R A9 aH t,E=Γ ad/\cd w ad ae aq A R A9 aH (cK f) (c6 (cK f)) (c6 (cK f)) t [] cs/\t.marks=[]/\(∀r,A r->B<=r)/\(∀q r,A9 q r->B<=r)/\t.cells.length<=2000000/\t.olds.length=0/\(cK f).d9.length<=256/\t.ky=0/\(∀r,aH r->B<=r)/\∀r,R r->B<=r:=by
 obtain⟨ad,ae,A,R,t,N,A9,aH,x,rfl,y,j,I,K,C,p,L⟩:=G;have F:=nC y;have z:=e.size;have s:=(uU (Dy x).1 (yp x) (cK f).unary.length (cK f).d9.length);rw[x0,<-y.2.1]at s;unfold aA.b5 at s;rw[r8]at s;refine⟨ad,ae,A,R,λq r=>A9 q r/\r<V.heap.size,aH,t,rfl,⟨y.W e,j.2.2.1,H,K.old.W e,λq r h=>⟨(C q r h.1).1,(C q r h.1).2.1,by have:=h.2;omega⟩,λr a=>⟨λh=>(p r a).1 (og (λo M J _=>e.aX r o M J) h),by have:=(p r a).2;omega,by have:=(p r a).2;omega⟩,λh=>by have:=F aq (.inl h);omega,λh=>by have:=F aq (.inr h);omega⟩,j.1,I,λq r h=>(C q r h.1).2.2,s,by rw[j.2.1];rfl,yp x,j.2.2.2,λr a=>(p r a).2.2,L⟩
section
variable{α:Type}{f:α->List x4}{k:Nat}{e:o5}{w:x6}{g:Nat}{v:x4}{L:List α}
def RV{t:o5}{b:Nat}{i:Nat}(A:v8.underlying t=σ (.slice e))(hi:aR v8 e k b z)(h:bk f k e w g v L)(j:i<=L.length):
  ∃q,(∀(I:x6)(K:x4->Prop),ab v8 (U4 t v ν (σ (Δ (i:Int))) ν) I K=K q)/\bk f k e w g q (L.take i)/\∀r,lm q r->lm v r:=by
 obtain⟨⟨O,⟨rfl,B⟩|⟨cap,cs,rfl,C,P,E,F,G⟩⟩,s⟩:=id h
 .have H:=Z2 B;subst H;have:i=0:=by simpa using j
  subst this;exact⟨_,λI K=>ip A hi jZ o0 fo Ω Ω Ω,h,λr y=>y⟩
 .have J:(if cap=0 then(σ ⟨g,0,ν⟩:Option Addr)else U8 (λx:Addr=>x.add (0*k)) (σ ⟨g,0,ν⟩))=σ ⟨g,0,ν⟩:=by split<;>simp[T9]
  refine⟨.slice (σ ⟨g,0,ν⟩) i cap,λI K=>?_,⟨⟨?_,.inr ⟨cap,cs,by rw[o8,Nat.min_eq_left j],C,by rw[o8];omega,E,F,?_⟩⟩,λa p=>s a (T1 p)⟩,λr y=>by obtain⟨a,_,_,e,M⟩:=y;cases e;exact⟨_,_,_,rfl,M⟩⟩
  .rw[ip A hi jZ o0 fo Ω Ω Ω,J,Nat.sub_zero,Nat.sub_zero]
  .rw[iN λa p=>s a (T1 p)]
  .rw[o8,Nat.min_eq_left j];have N:L.flatMap f=(L.take i).flatMap f++(L.drop i).flatMap f:=by rw[<-List.flatMap_append,List.take_append_drop]
   have Q:((L.take i).flatMap f).length=i*k:=by rw[iN λa p=>s a (T1 p),o8,Nat.min_eq_left j]
   have:cs.take (i*k)=(cs.take (L.length*k)).take (i*k):=by rw[List.take_take,Nat.min_eq_left (X4 _ j)]
   rw[this,G,N,List.take_append_of_le_length Ω,b9 Ω]
end
def RW(s:am):Prop:=∀e∈s.du,e.sc.length<=1000/\e.mC.length<=1000
section
variable{w I:x6}{ad ae aq dt:Nat}{A R O M aH:ah}{A9:Nat->ah}{k:Int}{co:Λ}{J:List am}{n:aI}{s u:am}{t:aA}{h:List aA}{cs:List x4}
structure Vn(w:x6)(aq:Nat)(A R:ah)(A9:Nat->ah)(aH O M:ah):Prop where
 o:∀r,O r->r<w.heap.size/\¬A r/\¬R r/\(∀q,¬A9 q r)/\¬aH r/\r≠aq/\¬M r
 m:∀r,M r->r<w.heap.size/\¬A r/\(∀q,¬A9 q r)/\¬aH r/\r≠aq
def cd.side{S:ah}(p:cd w ad ae aq A R A9 aH n s u t h cs)(f:af S w I)(e:∀r,r<w.heap.size->S r->¬A r/\¬R r/\(∀q,¬A9 q r)/\¬aH r/\r≠aq):cd I ad ae aq A R A9 aH n s u t h cs:=by
 have z:=f.size;exact⟨⟨p.dy.1.aa f λr a h J=>h.elim (e r a J).1 (e r a J).2.1,p.dy.2⟩,p.ix,p.box.aa f λJ=>(e aq p.box.lt J).2.2.2.2 rfl,p.doc.aa f λr a h J=>h.elim (λ⟨q,h⟩=>(e r a J).2.2.1 q h) (e r a J).2.2.2.1,p.apart,
  λr a=>⟨λh=>(p.read r a).1 (og (λo j J _=>f.aX r o j J λx=>(e r (p.read r a).2.1 x).2.2.2.1 a) h),by have:=(p.read r a).2.1;omega,(p.read r a).2.2⟩,p.out⟩
def cd.FS(p:cd w ad ae aq A R A9 aH n s u t h cs):∀q r,A9 q r->¬aH r:=by
 obtain⟨_,_,_,_,_,_,_,_,_,_,_,_,_,a⟩:=p.doc;exact(a rfl).2
end
def FT{w0:x6}{out:x4}{g:Nat}{x:Int}(e:Ext w0 w)(hm:aB .i64 ai w g out l)(f:∀r,lw out r->w0.heap.size<=r)(F:l.length<=1000000000)(p:∀v I q,Ext w0 I->aB .i64 ai I q v (l++[x])->(∀r,lw v r->w0.heap.size<=r)->K v I):
  aG v8 (X2 an 1 #[(0,Δ x)]) w λy U=>aG v8 (Z9 #[an,an] an #[out,y]) U K:=by
 refine eU an.u ai.i rfl λv4 G H J a s=>?_;refine jp an.u ai.i rfl (hm.W a) s.ls Θ Θ λv5 A L B C E=>?_;have z:=(e.F a).size;exact p _ _ A ((e.F a).then E λr j he=>by have:=f r he;omega) B λr j=>(C r j).elim (f r) λh=>Ω
def sH(x:bo):(aC x).length<=x.un.length:=by
 unfold aC;have:=List.length_filter_le (λv:Int=>!dropped x.mask v) ((X9 x.un.length).map λv:Nat=>(v:Int));rw[r8,List.length_range]at this;exact this
def FU(w:x6)(g:Nat)(v:x4)(l:List uP):Prop:=∃E,bk px 3 e2 w g v E/\E.length=l.length/\∀(q:Nat)x e,E[q]?=σ x->l[q]?=σ e->x.v=e.v/\(∃g,aB .i64 ai w g x.aS e.sc)/\∃g,aB .i64 ai w g x.bv e.mC
section
variable{w:x6}{ad ae:Nat}{A R:ah}{n:aI}{s:am}{t:aA}
def RX(h:bG w ad ae A R n s t)(ag:RW s)(aV:s.du.length<=100000):ak v8 HX [Γ ad] w λv I=>Ext w I/\∃g,FU I g v s.du/\∀r,lm v r->w.heap.size<=r:=by
 obtain⟨⟨aW,aY,aZ,a1,Q⟩,_⟩:=h;obtain⟨_,_,_,_,_,E,_,_,ah,_,_,_,_,N,S⟩:=id Q;have a2:E.length=s.du.length:=S.1;refine az func16 ?_;rw[di eF.u];simp only[Y0,a7];rw[aL cU.p 4 ah rfl,ef oV.u N];refine b7.range E.length (λj out V=>Ext w V/\∃g,FU V g out (s.du.take j)/\∀r,lm out r->w.heap.size<=r) Ω ⟨Ext.refl _,0,⟨[],bk.nil _ _ _ _ _,rfl,λq x e h=>by simp at h⟩,λr B=>(fi B).elim⟩ ?_ ?_
 .rintro j out V aj U ⟨z,g,⟨O,C,W,am⟩,K⟩ an;obtain⟨x,X⟩:=aD (l:=E) U;obtain⟨e,P⟩:=aD (l:=s.du) (i:=j) Ω;obtain⟨a6,a8⟩:=ag e (x7 P);have ba:=Q.W z;obtain⟨ao,ap,aq⟩:=S.2 j x e X P;have f2:=ap.ls.W z;have f3:=aq.ls.W z;refine bC Ω ?_;rw[ck rfl oV.u e2.i (N.W z) U,bz e2.p e2.i rfl ((N.W z).range X)];refine bE e2.i λge bb bc au av=>?_;refine b1 (vs:=px x) e2.i rfl rfl (by intro u hu;simp[px]at hu;rcases hu with rfl|rfl|rfl<;>first|rfl|exact f2.cells.2|exact f3.cells.2) av λaw ax bd ay=>?_;have L:Ext V aw:=au.put ax Ω;rw[bz e2.p e2.i rfl ay.range];refine(Ry (v:=x.v) (f2.W L) (f3.W L) Ω Ω).Y ?_;rintro _ be _ ⟨aA,aC,aE,g1,bf,rfl,bg,bh,Y,Z⟩;let a:qG:=⟨x.v,aC,aE⟩;refine iO (f:=px) (a:=a) oV.u e2.i Ω rfl rfl λbi bj aF bl M aG=>?_;have G:=(L.F aA).F M;have bm:=z.size;have bn:=G.size;have bo:=L.size;have bp:=M.size;have aa:(s.du.take j).length=j:=by rw[o8];omega
  refine jl (f:=px) (a:=a) oV.u e2.i rfl (C.W G) (by simpa using aG.sl) (by intro u hu;simp[px,a]at hu;rcases hu with rfl|rfl|rfl<;>first|rfl|exact Y.ls.cells.2|exact Z.ls.cells.2) Ω Ω λbq aH ab aI aJ ac=>?_;have br:∀r,lm out r->r=g/\r<V.heap.size:=λr B=>by obtain⟨af,bs⟩:=C.lw B;omega
  have aK:Ext w ab:=(z.F G).then ac λr B he=>by have:=K r he;omega
  rw[aO];refine an _ _ ⟨aK,aH,⟨O++[a],aI,by simp[W,aa];omega,λq y f J H=>?_⟩,λr B=>(aJ r B).elim (K r) λh=>Ω⟩;have aX:∀{v:x4}{aM:Nat}{l:Λ},aB .i64 ai aF aM v l->∃g,aB .i64 ai ab g v l:=λhm=>⟨_,bw hm ac λr B he=>by
   obtain⟨af,c,aN⟩:=dU (C.W G) he;exact ch hm aN Φ B af⟩
  by_cases aP:q<O.length
  .rw[Y2 aP]at J;rw[List.getElem?_take]at H;split at H
   .obtain⟨aQ,⟨_,aR⟩,_,aS⟩:=am q y f J (by rw[List.getElem?_take,ms Ω];exact H);exact⟨aQ,aX (aR.W G),aX (aS.W G)⟩
   .cases H
  .have aU:q=O.length:=by have:=(x5.1 J).1;simp at this;omega
   subst aU;rw[Z7 (o4 _),V0]at J;rw[W,aa,List.getElem?_take,ms Ω,P]at H;cases J;cases H;exact⟨ao,aX (Y.W M),aX (Z.W M)⟩
 .rintro out V aj ⟨z,g,C,K⟩;rw[aT,al];refine⟨λh=>Ω,λ_=>⟨z,g,?_,K⟩⟩;rw[b9 Ω]at C;exact C
end
def mO(s:am)(sc t:Λ):Bool:=(sc.zip t).all λp=>match s.d6[p.1.toNat]? with
 |some x=>decide (p.2∈aC x)
 |none=>v6
section
variable{w:x6}{ad ae:Nat}{A R:ah}{n:aI}{s:am}{t:aA}
end
def RY{b:Bool}{lc a8:x4}{e f:Λ}(h1:Seen eM w [aS] a)(h:Seen eM w [lc] e)(j:Seen eM w [a8] f):∀u∈[aS,lc,a8,.bool b],u.oneCell'=v2:=by
 intro u hu;simp only[V4,List.not_mem_nil,or_false]at hu;rcases hu with rfl|rfl|rfl|rfl
 .exact fT h1
 .exact fT h
 .exact fT j
 .rfl
section
variable{w:x6}{ad ae:Nat}{A R:ah}{n:aI}{s:am}{t:aA}{dv:x4}
end
def nE(aj t:Λ):Int:=(cj aj t 0).getD 0
def kj(s:am)(f:cm)(pos:Nat)(v:Int):Λ:=(bX s f.sc pos v).map (nE f.aj)
def lZ(s:am)(sc:Λ)(pos:Nat)(v:Int)(t:Λ):Bool:=decide (t.getD pos 0=v)&&mO s sc t
section
variable{k:Int}{co:Λ}{s:am}{f:cm}{pos:Nat}{v:Int}
def RZ:mO s sc t=v2↔ ∀(p:Nat)u w,sc[p]?=σ u->t[p]?=σ w->w∈ba s u:=by
 unfold mO;rw[List.all_eq_true];constructor
 .intro h p u w hu hw;have:=h (u,w) (x7 (List.getElem?_zip_eq_some.2 ⟨hu,hw⟩));unfold ba;cases a:s.d6[u.toNat]? with
  |none=>simp[a]at this
  |some x=>simpa[a]using this
 .rintro h ⟨u,w⟩ hm;obtain⟨p,ac⟩:=X8.1 hm;obtain⟨h1,e⟩:=List.getElem?_zip_eq_some.1 ac;have:=h p u w h1 e;unfold ba at this;simp only;cases a:s.d6[u.toNat]? with
  |none=>rw[a]at this;cases this
  |some x=>rw[a]at this;simpa using this
def R1(q:bc k co s)(B:f∈s.d9)(C:pos<f.sc.length)(r:∀u,f.sc[pos]?=σ u->v∈ba s u):bX s f.sc pos v=(br f.aj).filter (lZ s f.sc pos v):=by
 obtain⟨x,y,_⟩:=q.d9 f B;have j:=yt q (λu hu=>⟨(x.scope.1 u hu).1,x.d6 u hu⟩) r;rw[<-y]at j;have h1:∀t∈br f.aj,(oq (pG s pos v f.sc 0) t=v2↔t∈bX s f.sc pos v):=λt a=>by rw[j,S8];exact⟨λh=>⟨a,h⟩,λh=>h.2⟩
 rw[j];refine List.filter_congr λt a=>?_;have E:t.length=f.sc.length:=by rw[tC a,y];simp[bN]
 rw[U6,h1 t a,yy,lZ,U9,sp,RZ];constructor
 .rintro⟨_,h⟩;obtain⟨u,hu⟩:=aD (l:=f.sc) C;obtain⟨w,hw⟩:=aD (l:=t) (i:=pos) Ω;have z:=h pos u w hu hw;rw[ms rfl]at z;refine⟨by rw[u5,hw];exact z,λp u' I A F=>?_⟩;have:=h p u' I A F;split at this
  .rename_i e;subst e;rw[this];exact r u' A
  .exact this
 .rintro⟨h1,G⟩;refine⟨E,λp u w hu hw=>?_⟩;split
  .rename_i e;subst e;rw[u5,hw]at h1;exact h1
  .exact G p u w hu hw
end
section
variable{w:x6}{dv:x4}{k:Int}{co:Λ}{s:am}
def R8{j pos:Int}(h:e9 w dv k co s)(aa:bc k co s)(am:b4 s):ak v8 J0 [dv,Δ j,Δ pos,Δ v] w λr I=>Ext w I/\∃u,r= .tuple #[Δ u,.bool (dp s j pos v).isSome]:=by
 have aK:=aa.d6;refine az func208 ?_;refine bn λg1 U aL H ao=>?_;have ab:=h.box H ao;obtain⟨lc,aM,aN,aO,aP,aQ,J,aR,_,ap,aS,aV,ad,aW⟩:=id ab;refine aY (λr V=>Ext U V/\((r= .bool v2/\dp s j pos v=ν)\/(r= .bool v6/\∃f u,0<=j/\0<=pos/\s.d9[j.toNat]?=σ f/\f.live≠0/\f.sc[pos.toNat]?=σ u))) ?_ λax E=>?_
 .rintro _ V ⟨A,⟨rfl,z⟩|⟨rfl,f,u,K,ae,e,af,hu⟩⟩
  .rw[bO,z];exact⟨H.F A,0,rfl⟩
  .rw[a7];have ag:=x7 e;have L:=x7 hu;obtain⟨ah,aX,_⟩:=aa.d9 f ag;have M:=(ah.scope.1 u L).1;have aZ:=ah.d6 u L;have M:=M;obtain⟨x,N⟩:=aD (l:=s.d6) (i:=u.toNat) Ω;rw[aJ aE.p 6 (J.W A) rfl];refine kv (i:=j.toNat) Ω dh.u cC.i (bp ad A) (by rw[u4,e];rfl) λb o cs O Q=>?_;obtain⟨aq,au,v3,rfl,h1,av,aw⟩:=mL Q;rw[aU cC.p rfl,aU a6.p rfl,aF Ψ (O 0 _ rfl),fP (y:=pos) (i:=pos.toNat) Ω an.u ai.i Ψ (dl h1) hu,aJ aE.p 3 (J.W A) rfl];refine gn (i:=u.toNat) rfl Ω ca.u an.i Ψ (bp ap A) (by rw[u4,N];rfl) λa2 ay=>?_;refine(u3 (dl ay)).Y ?_;rintro _ a8 _ ⟨rfl,aA⟩;refine⟨(H.F A).F aA,u,?_⟩;have aB:=am f ag af u L x N;have ac:dp s j pos v=(dz s u v).map λx=>(f,u,x):=by
    unfold dp;rw[ms ⟨K,ae⟩,e];simp only;rw[ms af,hu]
   have aG:dz s u v=if v∈aC x then σ x else ν:=by
    unfold dz;rw[ms M,N];simp only[aB,true_and]
   rw[ac,aG];by_cases G:v∈aC x
   .rw[ms G,rs G];rfl
   .rw[rc G,s2 G];rfl
 have R:∀{P:Prop},(¬∃f u,0<=j/\0<=pos/\s.d9[j.toNat]?=σ f/\f.live≠0/\f.sc[pos.toNat]?=σ u)->(dp s j pos v=ν->P)->P:=λz aH=>aH (by
  cases ac:dp s j pos v with
  |none=>rfl
  |some q=>
   obtain⟨f,u,x⟩:=q;obtain⟨S,W,a3,a4,a5,_⟩:=mN ac;exact ro ⟨f,u,S,W,a3,a4,a5⟩ z)
 refine ab.load λu hu=>?_;refine(Ro hu).Y ?_;rintro _ ba _ ⟨rfl,B⟩;have same:∀{f X:cm},s.d9[j.toNat]?=σ f->s.d9[j.toNat]?=σ X->X=f:=λa b=>by rw[a]at b;exact(Z5 b).symm
 rw[bL,cb];refine⟨λY=>R (λ⟨f,u,S,W,a3,a4,a5⟩=>?_) λz=>E _ _ ⟨B,.inl ⟨rfl,z⟩⟩,λZ=>?_⟩
 .unfold fv at Y;rw[a3]at Y;simp[S,a4]at Y
 have Z:0<=j/\fv s j.toNat=v2:=by simpa using Z
 obtain⟨K,C⟩:=Z;obtain⟨f,e,aI⟩:∃f,s.d9[j.toNat]?=σ f/\f.live≠0:=by
  unfold fv at C;cases e:s.d9[j.toNat]? with
  |none=>rw[e]at C;cases C
  |some f=>rw[e]at C;exact⟨f,rfl,by simpa using C⟩
 rw[aT,al];refine⟨λbb=>R (λ⟨_,_,_,W,_⟩=>Ω) λz=>E _ _ ⟨B,.inl ⟨rfl,z⟩⟩,λae=>?_⟩;rw[aJ aE.p 6 (J.W B) rfl];refine kv (i:=j.toNat) Ω dh.u cC.i (bp ad B) (by rw[u4,e];rfl) λb o cs O Q=>?_;obtain⟨aq,au,v3,rfl,h1,av,aw⟩:=mL Q;rw[aU cC.p rfl,aU a6.p rfl,aF Ψ (O 0 _ rfl),a1 an.u (dl h1),cP];by_cases aj:(f.sc.length:Int)<=pos
 .refine R (λ⟨X,u,_,_,a3,_,a5⟩=>?_) λz=>E _ _ ⟨B,.inl ⟨by rw[rs aj],z⟩⟩;obtain rfl:=same e a3;have:=(x5.1 a5).1;omega
 .obtain⟨u,hu⟩:=aD (l:=f.sc) (i:=pos.toNat) Ω;exact E _ _ ⟨B,.inr ⟨by rw[s2 aj],f,u,K,Ω,e,aI,hu⟩⟩
def yU{f:cm}(h:e9 w dv k co s)(K:bc k co s)(af:s.d9[j]?=σ f)(aL:pos<f.sc.length)(aN:∀u,f.sc[pos]?=σ u->v∈ba s u):
  ak v8 Jd [dv,Δ (j:Int),Δ (pos:Int),Δ v] w λr I=>Ext w I/\aM .i64 I r (kj s f pos v)/\∀q,lw r q->w.heap.size<=q:=by
 have bx:=K.d6;have S:=x7 af;obtain⟨L,ag,_⟩:=K.d9 f S;have M:=(kH K S).1;have aP:f.aj.length=f.sc.length:=by rw[ag];simp[bN]
 have bA:=j1 M;have bB:(br f.aj).length<=4096:=by
  have N:=L.small;rw[<-ag]at N;omega
 refine az func142 ?_;refine bn λg1 U bD W aQ=>?_;obtain⟨lc,bF,bG,bH,bI,bJ,ah,bK,_,aR,bL,bM,aS,bO⟩:=h.box W aQ;rw[aJ aE.p 6 ah rfl];refine kv (i:=j) rfl dh.u cC.i aS (by rw[u4,af];rfl) λb o cs E aT=>?_;obtain⟨X,Y,v3,rfl,h1,N,aW⟩:=mL aT;rw[aU cC.p rfl,bz (cs:=[X,Y,v3]) a6.p a6.i rfl (λq u a=>by
  have:q<3:=(x5.1 a).1
  match q,this,a with
  |0,_,a=>cases a;exact E 0 _ rfl
  |1,_,a=>cases a;exact E 1 _ rfl
  |2,_,a=>cases a;exact E 2 _ rfl)]
 refine bE a6.i λbP V bQ aX aZ=>?_;have a2:∀u∈[X,Y,v3],u.oneCell'=v2:=λu hu=>by
  simp only[V4,List.not_mem_nil,or_false]at hu;rcases hu with rfl|rfl|rfl
  .exact fT h1
  .exact fT N
  .exact fT aW
 refine b1 (vs:=[X,Y,v3]) a6.i rfl rfl a2 aZ λbR a7 bS al=>?_;have am:=aX.put a7 Ω;have s1:=dl h1;have a8:=dl N;rw[aJ a6.p 1 al rfl];refine(tO f.aj (a8.W am) ⟨by rw[aP];exact L.scope.2,M⟩).Y ?_;rintro bT O _ ⟨ao,ap⟩;have Z:=am.F ao;rw[fU ca.u ap];refine b7.range (br f.aj).length (λi out C=>Ext O C/\(∃g,aB .i64 ai C g out ((((br f.aj).take i).filter (lZ s f.sc pos v)).map (nE f.aj)))/\∀r,lw out r->O.heap.size<=r) Ω ⟨Ext.refl _,⟨0,aB.nil _ _ _ _⟩,λr E=>by obtain⟨_,_,_,e,_⟩:=E;cases e⟩ ?_ ?_
 .rintro q out C bb a ⟨z,⟨g,hm⟩,P⟩ bd;have G:(br f.aj)[q]?=σ (dr f.aj (q:Int)):=rC M Ω;generalize dr f.aj (q:Int)=tl at G;have bU:=wO G;have be:=kA M G;have bf:nE f.aj tl=(q:Int):=by unfold nE;rw[be];rfl
  have Q:=Z.F z;have aq:((br f.aj).take (q+1)).filter (lZ s f.sc pos v)=((br f.aj).take q).filter (lZ s f.sc pos v)++(if lZ s f.sc pos v tl=v2 then[tl]else[]):=by
   rw[r9,G,j6,List.filter_append];congr 1;cases au:lZ s f.sc pos v tl<;>simp[au]
  obtain⟨aa,av⟩:=aD (l:=tl) (i:=pos) Ω;refine bC Ω ?_;refine aY (λaw ay=>Ext O ay/\(∃g,aB .i64 ai ay g aw ((((br f.aj).take (q+1)).filter (lZ s f.sc pos v)).map (nE f.aj)))/\∀r,lw aw r->O.heap.size<=r) (λ_ _ ab=>by rw[aO];exact bd _ _ ab) λax H=>?_;refine gn rfl rfl ca.u an.i Ψ (bp ap z) G λaV R=>?_;have R:=dl R;rw[bh an.u ai.i Ψ R av,bl,aJ a6.p 0 (al.W (ao.F z)) rfl,a1 an.u (s1.W Q)];refine b7.range f.sc.length (λp ok ad=>Ext C ad/\ok= .bool (decide (aa=v)&&mO s (f.sc.take p) (tl.take p))) s1.le ⟨Ext.refl _,by simp[mO]⟩ ?_ ?_
  .rintro p _ ad bg ac ⟨A,rfl⟩ bi;obtain⟨u,ae⟩:=aD (l:=f.sc) ac;obtain⟨y,aA⟩:=aD (l:=tl) (i:=p) Ω;have aF:=x7 ae;have aG:=(L.scope.1 u aF).1;have aH:=L.d6 u aF;have aH:=aH;have aG:=aG;obtain⟨x,aI⟩:=aD (l:=s.d6) (i:=u.toNat) Ω;have aK:mO s (f.sc.take (p+1)) (tl.take (p+1))=(mO s (f.sc.take p) (tl.take p)&&decide (y∈aC x)):=by
    unfold mO;rw[r9,r9,ae,aA,j6,j6,List.zip_append Θ,List.all_append];simp[aI]
   refine bC Ω ?_;refine aY (λok bj=>Ext C bj/\ok= .bool (decide (aa=v)&&mO s (f.sc.take (p+1)) (tl.take (p+1)))) (λ_ _ ab=>by rw[aO];exact bi _ _ ab) λax H=>?_;rw[bh an.u ai.i Ψ (s1.W (Q.F A)) ae];intro bV bk _ _;have J:=A.F bk;rw[cb];refine⟨λB=>?_,λB=>H _ _ ⟨J,by rw[aK,<-Bool.and_assoc,B];rfl⟩⟩;rw[aJ aE.p 3 (ah.W (Q.F J)) rfl];refine gn (i:=u.toNat) rfl Ω ca.u an.i Ψ (bp aR (Q.F J)) (by rw[u4,aI];rfl) λbW bm=>?_;rw[bh an.u ai.i Ψ (R.W J) aA];refine(u3 (dl bm)).Y ?_;rintro _ bX _ ⟨rfl,bo⟩;exact H _ _ ⟨J.F bo,by rw[aK,<-Bool.and_assoc,B,Q4]⟩
  .rintro _ ad bg ⟨A,rfl⟩;rw[o9,b9 Ω];refine b3 Ω ?_;have bq:(decide (aa=v)&&mO s f.sc tl)=lZ s f.sc pos v tl:=by unfold lZ;rw[u5,av];rfl
   rw[bq,cb];refine⟨λB=>?_,λB=>H _ _ ⟨z.F A,⟨g,by rw[aq,rc (by rw[B];decide),U2];exact hm.W A⟩,P⟩⟩;refine FT (z.F A) (hm.W A) P ?_ λbY I bs bt bu bw=>H _ _ ⟨bt,⟨bs,?_⟩,bw⟩
   .rw[r8];have h1:=List.length_filter_le (lZ s f.sc pos v) ((br f.aj).take q);rw[o8]at h1;omega
   .rw[aq,ms B,Z4,List.map_singleton,bf];exact bu
 .rintro out C bb ⟨z,⟨g,hm⟩,P⟩;rw[o9,<-R1 K S aL aN]at hm;refine b3 Ω ?_;exact⟨(W.F Z).F z,hm.ls,λq a=>by have:=P q a;have:=(W.F Z).size;omega⟩
def R9{j pos:Int}(h:e9 w dv k co s)(e:bc k co s)(R:b4 s):
  ak v8 Jb [dv,Δ j,Δ pos,Δ v] w λr I=>Ext w I/\r=(match dp s j pos v with|some (f,_,_)=>.tuple #[Δ (eh k s f pos.toNat v),.bool v2]|none=>.tuple #[Δ 0,.bool v6]):=by
 refine az func140 ?_;refine bn λg1 U aA z S=>?_;have H:=h.box z S;refine H.load λu hu=>?_;refine(R8 hu e R).Y ?_;rintro _ V _ ⟨A,e6,rfl⟩;rw[bA,bB,bL];cases ac:dp s j pos v with
 |none=>
  rw[Q1,W6,bO];exact⟨z.F A,rfl⟩
 |some q=>
 obtain⟨f,u',x⟩:=q;rw[R2,X3,a7];obtain⟨W,X,y,aB,B,Y⟩:=mN ac;obtain⟨aC,Z,aG,aa⟩:=jO Y;obtain⟨j,rfl⟩:=V3 W;obtain⟨pos,rfl⟩:=V3 X;rw[u9]at y B;have J:=x7 y;have ab:=(x5.1 B).1;have K:∀u,f.sc[pos]?=σ u->v∈ba s u:=λu hu=>by
  rw[B]at hu;cases hu;unfold ba;rw[Z];exact aa
 have L:=H.W A;obtain⟨lc,aH,aI,aK,aL,aM,M,aN,_,aP,aQ,aR,ad,aS⟩:=id L;rw[aJ aE.p 0 M rfl];refine L.load λaT ae=>?_;refine(yU ae e y ab K).Y ?_;rintro aV af _ ⟨N,C,_⟩;rw[a1 an.u C];have O:(kj s f pos v).length=(bX s f.sc pos v).length:=by unfold kj;rw[r8]
 rw[O];refine b7.range (bX s f.sc pos v).length (λi ag E=>Ext af E/\ag=Δ ((((bX s f.sc pos v).take i).map (bq f.aj f.cs)).foldl min k)) (by rw[<-O];exact C.le) ⟨Ext.refl _,rfl⟩ ?_ ?_
 .rintro i _ E ah hi ⟨a,rfl⟩ al;obtain⟨tl,G⟩:=aD (l:=bX s f.sc pos v) hi;obtain⟨m,hm⟩:=qQ e J K (x7 G);have am:(kj s f pos v)[i]?=σ (m:Int):=by
   unfold kj;rw[u4,G];unfold nE;rw[Y3,hm];rfl
  obtain⟨ao,aW⟩:=kH e J;have aX:=(x5.1 (ns ao hm)).1;obtain⟨c,P⟩:=aD (l:=f.cs) (i:=m) Ω;have ap:bq f.aj f.cs tl=c:=by
   unfold bq;rw[hm];simp[u5,P]
  have Q:=N.F a;refine bC Ω ?_;rw[bh an.u ai.i Ψ (C.W a) am,aJ aE.p 6 (M.W Q) rfl];refine kv (i:=j) rfl dh.u cC.i (bp ad Q) (by rw[u4,y];rfl) λb o cs aq au=>?_;obtain⟨aY,aZ,v3,rfl,h1,a2,ax⟩:=mL au;rw[aU cC.p rfl,aU a6.p rfl,aF Ψ (aq 2 _ rfl),bh aw.u av.i Ψ (dl ax) P];refine EN.Y ?_;rintro _ a8 _ ⟨rfl,ay⟩;rw[aO];refine al _ _ ⟨a.F ay,?_⟩;rw[r9,G,j6,Z4,S2,List.map_singleton,ap];rfl
 .rintro _ E ah ⟨a,rfl⟩;rw[o9];refine b3 Ω ?_;exact⟨(z.F A).F (N.F a),rfl⟩
def vn{a b k:Int}(h1:0<=a/\a<=4294967296)(f:0<=b/\b<=4294967296):ak v8 Je [Δ a,Δ b,Δ k] w λr I=>r=Δ (cY k a b)/\Ext w I:=by
 refine az func143 ?_;refine(show ak v8 J3 [Δ a,Δ b,Δ k] w λr I=>(∃q,r= .tuple #[Δ (cY k a b),q])/\Ext w I from ?_).Y ?_
 .refine az func211 ?_;unfold cY;rw[bl,al];refine⟨λh=>⟨⟨_,by rw[ms h]⟩,Ext.refl _⟩,λh=>?_⟩;rw[dA,m1 Ω Ω,mf,rc h];exact⟨⟨_,rfl⟩,Ext.refl _⟩
 .rintro _ U _ ⟨⟨q,rfl⟩,e⟩;rw[bA,bB];exact⟨rfl,e⟩
end
def ct(w:x6)(ad ae aq:Nat)(A R:ah)(A9:Nat->ah)(aH:ah)(n:aI)(s:am)(t:aA)(h:List aA)(u:am)(I:x6):Prop:=af (λr=>(∃q,A9 q r)\/r=aq) w I/\∃cv cs,cd I ad ae aq A R cv aH n s u t h cs/\∀q r,cv q r->(∃a,A9 a r)\/w.heap.size<=r
section
variable{w I U V:x6}{ad ae aq:Nat}{A R:ah}{A9:Nat->ah}{aH:ah}{n:aI}{s u eX e6:am}{t:aA}{h:List aA}{cs:List x4}
def ct.same(p:cd w ad ae aq A R A9 aH n s u t h cs)(a:Ext w I):ct w ad ae aq A R A9 aH n s t h u I:=⟨a.aa _,A9,cs,p.W a,λq r h=>.inl ⟨q,h⟩⟩
def ct.comp{cv:Nat->ah}(e:af (λr=>(∃q,A9 q r)\/r=aq) w U)(f:∀q r,cv q r->(∃a,A9 a r)\/w.heap.size<=r)(d:ct U ad ae aq A R cv aH n s t h e6 V):ct w ad ae aq A R A9 aH n s t h e6 V:=by
 obtain⟨p,x,bF,y,B⟩:=d;have z:=e.size;refine⟨?_,x,bF,y,λq r j=>(B q r j).elim (λ⟨a,h⟩=>f a r h) λh=>.inr Ω⟩;refine((e.Y λr _ h=>.inl h).F (p.Y λr _ h=>?_):af (λr=>((∃q,A9 q r)\/r=aq)\/w.heap.size<=r) w V).Y λr j h=>h.elim id λh=>Ω
 rcases h with⟨q,h⟩|h
 .exact (f q r h).imp .inl id
 .exact .inl (.inr h)
def kK(w:x6)(ad ae aq:Nat)(A R:ah)(A9:Nat->ah)(aH:ah)(n:aI)(s:am)(t:aA)(h:List aA)(u:am)(I:x6):Prop:=af (A9 2) w I/\∃cv cs,cd I ad ae aq A R cv aH n s u t h cs/\(∀q r,cv q r->(∃a,A9 a r)\/w.heap.size<=r)/\∀r,cv 2 r->A9 2 r\/w.heap.size<=r
def kK.yV(d:kK w ad ae aq A R A9 aH n s t h u I):ct w ad ae aq A R A9 aH n s t h u I:=by
 obtain⟨h1,cv,cs,a,e,_⟩:=d;exact⟨h1.Y λr _ h=>.inl ⟨2,h⟩,cv,cs,a,e⟩
def kK.same(p:cd w ad ae aq A R A9 aH n s u t h cs)(a:Ext w I):kK w ad ae aq A R A9 aH n s t h u I:=⟨a.aa _,A9,cs,p.W a,λq r h=>.inl ⟨q,h⟩,λr h=>.inl h⟩
def kK.comp{cv:Nat->ah}(f:af (A9 2) w U)(p:∀q r,cv q r->(∃e,A9 e r)\/w.heap.size<=r)(j:∀r,cv 2 r->A9 2 r\/w.heap.size<=r)(d:kK U ad ae aq A R cv aH n s t h e6 V):kK w ad ae aq A R A9 aH n s t h e6 V:=by
 obtain⟨x,y,bF,B,C,E⟩:=d;have z:=f.size;refine⟨?_,y,bF,B,λq r a=>(C q r a).elim (λ⟨e,h⟩=>p e r h) λh=>.inr Ω,λr a=>(E r a).elim (j r) λh=>.inr Ω⟩;exact((f.Y λr _ h=>.inl h).F (x.Y λr _ h=>j r h):af (λr=>A9 2 r\/w.heap.size<=r) w V).Y λr a h=>h.elim id λh=>Ω
def cd.Sa{T:ah}{v:x4}{u':am}(p:cd w ad ae aq A R A9 aH n s u t h cs)(z:∀q r,A9 q r->r<w.heap.size)(C:cs[5]?=σ v)(e:af T w I)(f:∀r,r<w.heap.size->T r->A9 2 r)(E:bs (λr=>A9 2 r\/w.heap.size<=r) aH I [v] (u'.d6.map (·.un)))(F:u'.zero=u.zero)(G:u'.d6.map aC=u.d6.map aC)(H:(u'.d6.map λx=>decide (x.gone≠0))=u.d6.map λx=>decide (x.gone≠0))(J:u'.d9=u.d9)(K:u'.du=u.du):
  ∃cv,cd I ad ae aq A R cv aH n s u' t h cs/\(∀q r,cv q r->(∃L,A9 L r)\/w.heap.size<=r)/\∀r,cv 2 r->A9 2 r\/w.heap.size<=r:=by
 have M:=bD.li p.doc (yE e) (λr a=>.inl (f r a.2 a.1)) E (λj r N a=>?_) (λr a=>?_)
 .have y:=yF (w:=w) (B:=λr=>A9 2 r\/w.heap.size<=r) λr h=>h;refine⟨_,p.row e f ?_ y,y,λr a=>a⟩;have:=bD.rD C M;unfold gC;rw[F,G,H,J,K];exact this
 .rcases a with a|a
  .exact p.gX.1 2 j r (R7 N) a
  .exact λh=>by have:=z j r h;omega
 .rcases a with a|a
  .exact p.gX.2 2 r a
  .exact λh=>by have:=(p.read r h).2.1;omega
def sI(p:cd w ad ae aq A R A9 aH n s u t h cs){i:Nat}{x:bo}(B:u.d6[i]?=σ x):∃g cap y,cs[5]?=σ (.slice (σ ⟨g,0,ν⟩) u.d6.length cap)/\w.cell? ⟨g,i,ν⟩=σ y/\aM .i64 w y x.un/\
  ∀{I:x6}{v:Nat}{c:Int}{K:Unit->x6->Prop},Ext w I->v<x.un.length->(∀H,kK w ad ae aq A R A9 aH n s t h (eI u i x (x.un.set v c)) H->K () H)->
   ab v8 (b8 aw y (Δ (v:Int))) I λa=>aG v8 (j0 av a (Δ c)) I K:=by
 have J:=p.olds;obtain⟨lc,ak,al,am,an,ap,L,_,_,_,M,_,_,C⟩:=id J.doc;obtain⟨g,cap,c,au,e,S,N,ax,_⟩:=vh M (by rw[u4,B];rfl) λr _ h=>(C rfl).2 2 r h;obtain⟨y,rfl⟩:=V6.1 (ao.len N);have O:w.cell? ⟨g,i,ν⟩=σ y:=by
  have:=S 0 y rfl;simpa[show ao.n (Λ)=1 from rfl]using this
 rw[r8]at e;refine⟨g,cap,y,by rw[L,<-e];rfl,O,dl (jz N),λ{I v c K}j U V=>?_⟩;have W:=J.W j;have z:=j.size;obtain⟨ay,az,aA,aB,P,X,Q,E,Y⟩:=vh (bp M j) (by rw[u4,B];rfl) λr _ h=>(C rfl).2 2 r h;obtain⟨F,rfl⟩:=V6.1 (ao.len Q);rw[r8,e]at P;cases P;have Z:F=y:=by
  have h1:=X 0 F rfl;have h1:I.cell? ⟨g,i,ν⟩=σ F:=by simpa[show ao.n (Λ)=1 from rfl]using h1
  rw[jX j O]at h1;exact(Z5 h1).symm
 subst Z;refine Fv rfl rfl aw.u av.i Q U rfl rfl (λr _ f=>⟨λh=>h,(C rfl).2 2 r (E r f)⟩) λaD G ac=>?_;have af:=Y G (λr _ h=>h) ac λr f=>f.elim .inl False.elim;obtain⟨cv,ag,ah,ai⟩:=W.Sa (u':=eI u i x (x.un.set v c)) (λq r h=>by have:=h.2;omega) (by rw[L];rfl) G (λr _ h=>E r h) (by show bs _ _ _ _ ((u.d6.set i {x with un:=x.un.set v c}).map (·.un));rw[T2];exact af) rfl (qP B (by unfold aC;simp)) (qP B rfl) rfl rfl;refine V _ ⟨(j.aa _).F (G.Y λr _ h=>(E r h).1),cv,cs,ag,λq r f=>?_,λr f=>?_⟩
 .rcases ah q r f with⟨aj,h⟩|h
  .exact .inl ⟨aj,h.1⟩
  .exact .inr Ω
 .exact (ai r f).imp (λh=>h.1) λh=>Ω
def FV(p:cd w ad ae aq A R A9 aH n s u t h cs){f:cm}(N:u.d9[j]?=σ f):∃g cap C L y,cs[6]?=σ (.slice (σ ⟨g,0,ν⟩) u.d9.length cap)/\w.rangeAt g (j*4) [C,L,y,.bool (decide (f.live≠0))]/\aM .i64 w C f.sc/\aM .i64 w y f.cs/\
  ∀{I:x6}{m:Nat}{c:Int}{K:Unit->x6->Prop},Ext w I->m<f.cs.length->(∀O,ct w ad ae aq A R A9 aH n s t h (ed u j f (f.cs.set m c)) O->K () O)->
   ab v8 (b8 aw y (Δ (m:Int))) I λa=>aG v8 (j0 av a (Δ c)) I K:=by
 have P:=p.olds;obtain⟨lc,ay,az,aA,aB,aC,Q,_,_,_,_,S,_,E⟩:=id P.doc;obtain⟨g,cap,c,aD,e,F,W,aE,_⟩:=vh S (by rw[u4,N];rfl) λr _ h=>(E rfl).2 3 r h;have X:=mL W;obtain⟨C,L,y,rfl,Y,aF,Z⟩:=X;rw[r8]at e;have F:=F;refine⟨g,cap,C,L,y,by rw[Q,<-e];rfl,F,dl Y,dl Z,λ{I m c K}x hm ac=>?_⟩;have af:=P.W x;have z:=x.size;obtain⟨aI,aJ,aK,aL,U,M,ag,G,ah⟩:=vh (bp S x) (by rw[u4,N];rfl) λr _ h=>(E rfl).2 3 r h;rw[r8,e]at U;cases U;obtain⟨aN,aO,V,aP,rfl,ai,H,aj⟩:=Rw ag λr h=>(E rfl).2 3 r (G r h);have M:=M;have ak:V=y:=by
  have h1:=M 2 V rfl;rw[(oX x F) 2 y rfl]at h1;exact(Z5 h1).symm
 subst ak;refine Fv rfl rfl aw.u av.i ai hm rfl rfl (λr _ B=>⟨λh=>h,(E rfl).2 3 r (G r (H r B))⟩) λaQ J al=>?_;have am:=aj J (ao.Y al (λr _ h=>h.elim id False.elim) λ_ _ h=>h);have an:=ah J (λr _ h=>H r h) am λr B=>.inl B;obtain⟨cv,ap,au⟩:=af.Ru (u':=ed u j f (f.cs.set m c)) (λq r h=>by have:=h.2;omega) (by rw[Q];rfl) J (λr _ h=>G r (H r h)) (by show bs _ _ _ _ ((u.d9.set j {f with cs:=f.cs.set m c}).map js);rw[T2];exact an) rfl rfl rfl;refine ac _ ⟨(x.aa _).F (J.Y λr _ h=>.inl ⟨3,(G r (H r h)).1⟩),cv,cs,ap,λq r B=>?_⟩;rcases au q r B with⟨ax,h⟩|h
 .exact .inl ⟨ax,h.1⟩
 .exact .inr Ω
def FW(p:cd w ad ae aq A R A9 aH n s u t h cs){K:Unit->x6->Prop}(f:∀e,ct w ad ae aq A R A9 aH n s t h {u with zero:=c} e->K () e):aG v8 (j0 av (.pointer (σ ⟨aq,0+2,ν⟩)) (Δ c)) w K:=by
 refine bu (o:=0+2) av.i rfl rfl p.box (by rw[p.doc.len.1];omega) λV a x j=>?_;refine f _ ⟨a.Y λr _ h=>.inr h,A9,_,p.Fx a (λr _ h=>.inr h) j ?_ λq r h=>.inl ⟨q,h⟩,λq r h=>.inl ⟨q,h⟩⟩;exact(bD.aa p.doc a λr _ h he=>h.elim (λ⟨q,h⟩=>(p.apart q r h).2.2 he) λh=>(p.read r h).2.2 he).Rc
def FX(p:cd w ad ae aq A R A9 aH n s u t h cs){i:Nat}{x:bo}(B:u.d6[i]?=σ x):∃g cap y,cs[3]?=σ (.slice (σ ⟨g,0,ν⟩) u.d6.length cap)/\w.cell? ⟨g,i,ν⟩=σ y/\aM .i64 w y (aC x)/\(∀r,lw y r->A9 0 r)/\
  ∀{I:x6}{m:Int}{z:x4}{gz:Nat}{K:Unit->x6->Prop},Ext w I->aB .i64 ai I gz z (aC {x with mask:=m})->(∀r,lw z r->w.heap.size<=r)->(∀J,ct w ad ae aq A R A9 aH n s t h {u with d6:=u.d6.set i {x with mask:=m}} J->K () J)->
   ab v8 (b8 ca (.slice (σ ⟨g,0,ν⟩) u.d6.length cap) (Δ (i:Int))) I λa=>aG v8 (j0 an a z) I K:=by
 have L:=p.olds;have X:=(x5.1 B).1;obtain⟨lc,Y,aE,aF,aI,aJ,M,_,Z,_,_,_,_,ac⟩:=id L.doc;obtain⟨g,cap,full,ah,c,aK,e,C,aj,E,N,F,ak,aL,al⟩:=Fy Z (by rw[u4,B];rfl) λr _ h=>(ac rfl).2 0 r h;obtain⟨y,rfl⟩:=V6.1 (ao.len F);rw[r8]at e;have am:full[i]?=σ y:=by have:=N 0 y rfl;simpa[show ao.n (Λ)=1 from rfl]using this
 refine⟨g,cap,y,by rw[M,<-e];rfl,by have:=C.cell am;exact this,dl (jz F),λr f=>?_,λ{I m O gz K}G P Q ap=>?_⟩
 .obtain⟨aN,aO,au,av⟩:=Bl F;rcases av with rfl|aw
  .obtain⟨_,_,_,e,_⟩:=f;cases e
  .obtain⟨e,_⟩:=bW au f;rw[e];exact(ak _ aw).1
 have z:=G.size;have E:i*1+1<=full.length:=E;rw[eT ca.u an.i X λ_=>rfl];obtain⟨_,_,_,S⟩:=c5 P.ls;refine bu (o:=0+i*1) an.i (by rw[S];rfl) (by rw[S];rfl) (C.W G) Ω λU V aP j=>?_;have j:ag U g ah (over full (i*1) [O]):=by
  have e:=Fz (o:=i*1) (q:=0) (x:=O) N E Ξ;rw[X6]at j;rw[Nat.add_zero]at e;rw[e]at j;exact j
 have aQ:g<w.heap.size:=C.lt;have H:af (λr=>r=g) w U:=(G.aa _).F V;have ax:=bw P V λr f he=>by have he:r=g:=he;have:=Q r f;omega
 have ay:=al H (λr _ h=>.inr h) j (ou ax) λr f=>.inr (Q r f);have W:∀r,r<w.heap.size->r=g->A9 0 r/\r<w.heap.size:=λr f h=>by rw[h];exact aj
 obtain⟨cv,az,aA⟩:=L.pK (u':={u with d6:=u.d6.set i {x with mask:=m}}) (λq r h=>h.2) (v:=Y) (by rw[M];rfl) H W (by show bs _ _ _ _ ((u.d6.set i {x with mask:=m}).map aC);rw[T2];exact ay) rfl (qP B rfl) (qP B rfl) rfl rfl;refine ap _ ⟨H.Y λr f h=>.inl ⟨0,(W r f h).1⟩,cv,cs,az,λq r f=>?_⟩;rcases aA q r f with⟨aD,h⟩|h
 .exact .inl ⟨aD,h.1⟩
 .exact .inr h
end
def gf(s:am)(sc:Λ)(pos:Int)(v:Int):Nat->Nat->Λ->List (Λ)
 |0,_,tl=>[tl]
 |m+1,p,tl=>if(p:Int)=pos then gf s sc pos v m (p+1) (tl.set p v)else(ba s (sc.getD p 0)).flatMap λx=>gf s sc pos v m (p+1) (tl.set p x)
def vo{α:Type}{l:List α}{p:Nat}{x:α}(h:p<l.length):(l.set p x).take (p+1)=l.take p++[x]:=by
 rw[r9,l9 h,List.take_set_of_le (o4 _)];rfl
theorem sJ{s:am}{sc:Λ}{pos:Nat}{v:Int}:∀(m p:Nat)(tl:Λ),sc.length=p+m->tl.length=sc.length->gf s sc pos v m p tl=(iz (jr s pos v (sc.drop p) p)).map (tl.take p++ ·)
 |0,p,tl,h1,a=>by
  rw[List.drop_eq_nil_of_le Ω,b9 Ω];unfold gf jr iz;rw[List.map_singleton,U2]
 |m+1,p,tl,h1,a=>by
  have ac:p<sc.length:=Ω
  obtain⟨u,hu⟩:=aD (l:=sc) ac;have f:sc.drop p=u::sc.drop (p+1):=by rw[W3 ac,(x5.1 hu).2]
  have h:sc.getD p 0=u:=by rw[u5,hu];rfl
  rw[f];unfold gf jr;rw[iz];by_cases e:p=pos
  .rw[ms Ω,ms e,List.flatMap_singleton,sJ m (p+1) (tl.set p v) Ω (by rw[o7];exact a),S5,vo Ω];refine List.map_congr_left λr _=>?_;simp
  .rw[rc Ω,rc e,h,List.map_flatMap];congr 1;funext x;rw[sJ m (p+1) (tl.set p x) Ω (by rw[o7];exact a),S5,vo Ω];refine List.map_congr_left λr _=>?_;simp
def Sb{s:am}{m p:Nat}(h1:sc.length=p+m)(e:tl.length=sc.length)(f:a.length=sc.length)(h:a.take p=tl.take p):gf s sc pos v m p a=gf s sc pos v m p tl:=by
 rw[sJ m p tl h1 e,sJ m p a h1 f,h]
def Sc{s:am}(h:tl.length=sc.length):gf s sc pos v sc.length 0 tl=bX s sc pos v:=by
 rw[sJ sc.length 0 tl Ω h];unfold bX;simp
def oz(w:x6)(ad gs bT bb bd:Nat)(aS:x4)(pos v:Int):Prop:=ag w gs eF [Γ ad]/\ag w bT an [aS]/\ag w bb ai [Δ pos]/\ag w bd ai [Δ v]
def oz.aa{S:ah}{ad gs bT bb bd:Nat}{pos:Int}(h:oz w ad gs bT bb bd aS pos v)(a:af S w I)(e:¬S gs/\¬S bT/\¬S bb/\¬S bd):oz I ad gs bT bb bd aS pos v:=
 ⟨h.1.aa a e.1,h.2.1.aa a e.2.1,h.2.2.1.aa a e.2.2.1,h.2.2.2.aa a e.2.2.2⟩
def oz.W{ad gs bT bb bd:Nat}{pos:Int}(h:oz w ad gs bT bb bd aS pos v)(a:Ext w I):oz I ad gs bT bb bd aS pos v:=h.aa (a.aa λ_=>False) ⟨id,id,id,id⟩
def gF(ad ae:Nat)(R:ah)(n:aI)(s:am)(gs bT bb bd:Nat)(aS:x4)(sc:Λ)(pos v:Int)(B0:Nat)(D:Nat->Prop)(w:x6):Prop:=
 oz w ad gs bT bb bd aS pos v/\(gs<B0/\bT<B0/\bb<B0/\bd<B0)/\aM .i64 w aS sc/\(∀r,lw aS r->r<B0)/\(Laid w/\B0<=w.heap.size)/\∃A s' bt,bG w ad ae A R n s' bt/\(∀i,ba s' i=ba s i)/\∀r,A r\/R r->r<B0\/D r
section
variable{ad ae gs bT bb bd B0:Nat}{R:ah}{n:aI}{s:am}{aS:x4}{sc:Λ}{pos v:Int}
def gF.W(h:gF ad ae R n s gs bT bb bd aS sc pos v B0 D w)(a:Ext w I):gF ad ae R n s gs bT bb bd aS sc pos v B0 D I:=by
 obtain⟨h1,f,j,p,e,A,s',bt,q,r,x⟩:=h;exact⟨h1.W a,f,j.W a,p,⟨e.1.W a,X1 e.2 a.size⟩,A,s',bt,q.W a,r,x⟩
def lp(w:x6)(l gy gt gtb ga:Nat)(iC:Array x4)(q:Nat)(tl:Λ):Prop:=ag w gy A1 [.func (.yield l) #[] #[]]/\ag w gtb an [.slice (σ ⟨gt,0,ν⟩) q q]/\ag w ga p5 [.func (.func oS) #[] iC]/\
 aB .i64 ai w gt (.slice (σ ⟨gt,0,ν⟩) q q) tl
def lp.aa{S:ah}{l q:Nat}{iC:Array x4}(h:lp w l gy gt gtb ga iC q tl)(f:af S w I)(j:¬S gy/\¬S gtb/\¬S ga/\¬S gt):lp I l gy gt gtb ga iC q tl:=
 ⟨h.1.aa f j.1,h.2.1.aa f j.2.1,h.2.2.1.aa f j.2.2.1,bw h.2.2.2 f λr p=>by
  obtain⟨a,_,_,e,s⟩:=p;cases e;rw[<-s];exact j.2.2.2⟩
def lp.W{l q:Nat}{iC:Array x4}(h:lp w l gy gt gtb ga iC q tl)(a:Ext w I):lp I l gy gt gtb ga iC q tl:=h.aa (a.aa λ_=>False) ⟨id,id,id,id⟩
def Sd(J:aM .i64 w aS sc):ak v8 AS [Γ ad,aS,Δ pos,Δ v] w λr I=>Ext w I/\∃gs bT bb bd,r= .func (.func nd) #[] #[Γ bT,Γ bb,Γ bd,Γ gs]/\oz I ad gs bT bb bd aS pos v/\w.heap.size<=gs/\w.heap.size<=bT/\w.heap.size<=bb/\w.heap.size<=bd:=by
 obtain⟨_,_,_,x⟩:=c5 J;refine az func213 ?_;refine bn λgs U z q h=>?_;refine bn λbT V A j a=>?_;refine bn λbb B C e p=>?_;refine bn λbd s E f y=>?_;have h:ag s gs eF [Γ ad]:=((ag.W h j).W e).W f;have a:ag s bT an [aS]:=by rw[x]at a ⊢;exact(ag.W a e).W f
 have p:=ag.W p f;rw[mg];have G:=q.size;have H:=j.size;have z3:=e.size;exact⟨((q.F j).F e).F f,gs,bT,bb,bd,rfl,⟨h,a,p,y⟩,Ω,Ω,Ω,Ω⟩
def gF.own{S:ah}(h:gF ad ae R n s gs bT bb bd aS sc pos v B0 D w)(j:af S w I)(q:∀r,S r->B0<=r/\¬D r):gF ad ae R n s gs bT bb bd aS sc pos v B0 D I:=by
 obtain⟨h1,f,C,x,y,A,s',bt,z,E,B⟩:=h;have no:∀{r:Nat},r<B0->¬S r:=λh1 f=>by have:=(q _ f).1;omega
 refine⟨h1.aa j ⟨no f.1,no f.2.1,no f.2.2.1,no f.2.2.2⟩,f,jh C j λr p a n c e F=>?_,x,⟨?_,X1 y.2 j.size⟩,A,s',bt,⟨z.1.aa j λr _ p J=>?_,z.2⟩,E,B⟩
 .exact no (x r ⟨a,n,c,e,F⟩) p
 .exact iH j (no Ω) y.1
 .exact (B r p).elim (λh=>no h J) (q r J).2
def Se(P:(Nat->Prop)->x6->Prop)(ax:(Nat->Prop)->Nat->x6->Prop)(L:List (Λ))(l B:Nat):Prop:=∀(D:Nat->Prop)(k:Nat)tl aV I,(∀r,D r->B<=r/\r<I.heap.size)->B<=I.heap.size->P D I->L[k]?=σ tl->aM .i64 I aV tl->ax D k I->
 iZ v8 l [aV] I λu a=>u= .bool v2/\(∃D',(∀r,D' r->D r\/I.heap.size<=r/\r<a.heap.size)/\(∀r,D r->D' r)/\P D' a/\ax D' (k+1) a)/\cQ I a/\I.heap.size<=a.heap.size/\af (λr=>r<B\/D r) I a
def sK(D:Nat->Prop)(B gy gtb ga gt:Nat):Prop:=(B<=gy/\¬D gy)/\(B<=gtb/\¬D gtb)/\(B<=ga/\¬D ga)/\B<=gt/\¬D gt
def sK.go{D':Nat->Prop}{m bR:Nat}(h:sK D B gy gtb ga gt)(a:∀r,D' r->D r\/m<=r/\r<bR)(hm:gy<m/\gtb<m/\ga<m/\gt<m):sK D' B gy gtb ga gt:=
 have f:∀{g:Nat},g<m->¬D g->¬D' g:=λh1 e j=>(a _ j).elim e λh=>Ω
 ⟨⟨h.1.1,f hm.1 h.1.2⟩,⟨h.2.1.1,f hm.2.1 h.2.1.2⟩,⟨h.2.2.1.1,f hm.2.2.1 h.2.2.1.2⟩,h.2.2.2.1,f hm.2.2.2 h.2.2.2.2⟩
def lp.lt{l q:Nat}{iC:Array x4}(h:lp w l gy gt gtb ga iC q tl):gy<w.heap.size/\gtb<w.heap.size/\ga<w.heap.size/\gt<w.heap.size:=
 ⟨h.1.lt,h.2.1.lt,h.2.2.1.lt,(bW h.2.2.2 ⟨_,_,_,rfl,rfl⟩).2⟩
def AtR(l gy gt gtb ga:Nat)(iC:Array x4)(P:(Nat->Prop)->x6->Prop)(ax:(Nat->Prop)->Nat->x6->Prop)(S:ah)(D:Nat->Prop)(w:x6)(sl k p:Nat)(tl:Λ)(I:x6):Prop:=
 w.heap.size<=I.heap.size/\∃D' a,a.length=sl/\a.take p=tl.take p/\lp I l gy gt gtb ga iC sl a/\((∀r,D' r->D r\/w.heap.size<=r/\r<I.heap.size)/\∀r,D r->D' r)/\P D' I/\ax D' k I/\af S w I
section
variable{l gy gt gtb ga B:Nat}{iC:Array x4}{P:(Nat->Prop)->x6->Prop}{ax:(Nat->Prop)->Nat->x6->Prop}{S T:ah}{D:Nat->Prop}{w U V:x6}{sl k p:Nat}{tl:Λ}
def AtR.own(s:∀D T U V,af T U V->(∀r,T r->B<=r/\¬D r)->P D U->P D V)(x:∀D k U V,af (λr=>B<=r/\¬D r) U V->fL B U V->ax D k U->ax D k V)(h:AtR l gy gt gtb ga iC P ax S D w sl k p tl U)(e:af T U V)(y:fL B U V)(a:∀r,T r->r<w.heap.size/\¬D r/\B<=r/\S r/\r≠gy/\r≠gtb/\r≠ga/\r≠gt):AtR l gy gt gtb ga iC P ax S D w sl k p tl V:=by
 obtain⟨z,D',A,h1,C,E,⟨j,F⟩,G,H,I⟩:=h;have q:∀r,T r->B<=r/\¬D' r:=λr f=>⟨(a r f).2.2.1,λJ=>(j r J).elim (a r f).2.1 λh=>by have:=(a r f).1;omega⟩;exact⟨X1 z e.size,D',A,h1,C,E.aa e ⟨λh=>(a _ h).2.2.2.2.1 rfl,λh=>(a _ h).2.2.2.2.2.1 rfl,λh=>(a _ h).2.2.2.2.2.2.1 rfl,λh=>(a _ h).2.2.2.2.2.2.2 rfl⟩,
  ⟨λr f=>(j r f).imp id λh=>⟨h.1,S3 h.2 e.size⟩,F⟩,s D' T U V e q G,x D' k U V (e.Y λr _ h=>q r h) y H,I.F (e.Y λr _ h=>(a r h).2.2.2.1)⟩
def AtR.base{w0:x6}(h:AtR l gy gt gtb ga iC P ax S D w sl k p tl U)(a:Ext w0 w)(e:∀r,r<w0.heap.size->S r->T r):AtR l gy gt gtb ga iC P ax T D w0 sl k p tl U:=by
 obtain⟨f,D',j,h1,q,s,⟨x,y⟩,z,A,B⟩:=h;exact⟨X1 a.size f,D',j,h1,q,s,⟨λr C=>(x r C).imp id λh=>⟨X1 a.size h.1,h.2⟩,y⟩,z,A,((a.aa S).F B).Y e⟩
def AtR.comp{a:Nat->Prop}{j:Λ}{x:Int}(f:∀r,r<B\/D r\/r=gt->S r)(q:∀r,a r->D r\/w.heap.size<=r/\r<U.heap.size)(y:∀r,D r->a r)(s:af S w U)(z:j.take p=tl.take p)(h:AtR l gy gt gtb ga iC P ax (λr=>r<B\/a r\/r=gt) a U sl k (p+1) (j.set p x) V):AtR l gy gt gtb ga iC P ax S D w sl k p tl V:=by
 obtain⟨A,D',C,h1,E,F,⟨G,H⟩,I,K,L⟩:=h;have J:=s.size;refine⟨X1 J A,D',C,h1,?_,F,⟨λr e=>?_,λr e=>H r (y r e)⟩,I,K,?_⟩
 .have:=congrArg (List.take p) E;rw[List.take_take,List.take_take,Nat.min_eq_left Ω,List.take_set_of_le (o4 _)]at this;rw[this,z]
 .rcases G r e with h|h
  .exact (q r h).imp id λh=>⟨h.1,Ω⟩
  .exact .inr ⟨Ω,h.2⟩
 .refine ((s.Y λr _ h=>.inl h).F (L.Y λr _ h=>?_):af (λr=>S r\/w.heap.size<=r) w V).Y λr e h=>h.elim id λh=>Ω
  rcases h with h|h|h
  .exact .inl (f r (.inl h))
  .exact (q r h).elim (λh=>.inl (f r (.inr (.inl h)))) λh=>.inr h.1
  .exact .inl (f r (.inr (.inr h)))
end
def Sf{α β:Type}{l:List α}{a:α->List β}{i:Nat}{y:α}{z:β}(h:l[j]?=σ y)(hi:(a y)[i]?=σ z):(l.flatMap a)[((l.take j).flatMap a).length+i]?=σ z:=by
 have f:=(x5.1 h).1;have e:l=l.take j++y::l.drop (j+1):=by
  conv=>lhs;rw[<-List.take_append_drop j l,W3 f,(x5.1 h).2]
 conv=>lhs;rw[e,List.flatMap_append,V8]
 have p:=(x5.1 hi).1;have el:((l.take j++y::l.drop (j+1)).take j)=l.take j:=by rw[List.take_append_of_le_length (by rw[o8];omega),List.take_take,Nat.min_self]
 rw[el,Z7 Ω,Q5,Y2 p];exact hi
def Sg{t:o5}{b o:Nat}{x:x4}{K:x4->Prop}(a:kX v8 t=v2)(h:w.cell? ⟨b,o,ν⟩=σ x):ab v8 (do loadVar t (<-asAddr (.pointer (σ ⟨b,o,ν⟩)))) w K=K x:=ab.of λI e=>by
 have aW:=jX e h;unfold kX at a;cases hu:v8.underlying t with
 |none=>rw[hu]at a;cases a
 |some d=>
  rw[hu]at a;cases d<;>first|(cases a;done)|simp[asAddr,loadVar,isAgg,run_underlying hu,aW]
def mP(bT gy gtb bb bd ga gs:Nat):Array x4:=#[Γ bT,Γ gy,Γ gtb,Γ bb,Γ bd,Γ ga,Γ gs]
def vp(p:Nat)(bT gy gtb bb bd ga gs:Nat):List x4:=[Δ (p:Int),Γ bT,Γ gy,Γ gtb,Γ bb,Γ bd,Γ ga,Γ gs]
def Sh{l:Nat}{ax:(Nat->Prop)->Nat->x6->Prop}(bW:0<=pos)(bX:∀u∈sc,0<=u/\u<n.co.length)(c2:sc.length<=6)(bY:B0<=B)(ac:gt≠gy/\gt≠gtb/\gt≠ga)(Q:∀D k U V,af (λr=>B<=r/\¬D r) U V->fL B U V->ax D k U->ax D k V)(bZ:Se (gF ad ae R n s gs bT bb bd aS sc pos v B0) ax L l B):
  ∀(q p:Nat)(tl:Λ)(k:Nat)(D:Nat->Prop)(w:x6),sc.length=p+q->tl.length=sc.length->(∀r,D r->B<=r/\r<w.heap.size)->B<=w.heap.size->sK D B gy gtb ga gt->lp w l gy gt gtb ga (mP bT gy gtb bb bd ga gs) sc.length tl->gF ad ae R n s gs bT bb bd aS sc pos v B0 D w->ax D k w->
   (∀i x,(gf s sc pos v q p tl)[i]?=σ x->L[k+i]?=σ x)->
   ak v8 oS (vp p bT gy gtb bb bd ga gs) w λr I=>r= .bool v2/\AtR l gy gt gtb ga (mP bT gy gtb bb bd ga gs) (gF ad ae R n s gs bT bb bd aS sc pos v B0) ax (λr=>r<B\/D r\/r=gt) D w sc.length (k+(gf s sc pos v q p tl).length) p tl I:=by
 obtain⟨a,rfl⟩:=V3 bW;have ah:∀D T U V,af T U V->(∀r,T r->B<=r/\¬D r)->gF ad ae R n s gs bT bb bd aS sc a v B0 D U->gF ad ae R n s gs bT bb bd aS sc a v B0 D V:=λD T U V aT bo h=>h.own aT λr z=>⟨X1 bY (bo r z).1,(bo r z).2⟩;have aU:∀{N:x6}{K:x4->Prop},ag N bT an [aS]->K aS->ab v8 (u6 an (Γ bT)) N K:=λaV aW=>by rw[aF Ψ (aV.cell rfl)];exact aW
 have aY:∀{aZ p:Nat}{tl:Λ}{D:Nat->Prop}{w V N:x6}{f:Nat}{b:Bool},Ext w V->w.heap.size<=f->f<V.heap.size->(∀r,D r->B<=r/\r<w.heap.size)->B<=w.heap.size->(gy<w.heap.size/\gtb<w.heap.size/\ga<w.heap.size/\gt<w.heap.size)->
   AtR l gy gt gtb ga (mP bT gy gtb bb bd ga gs) (gF ad ae R n s gs bT bb bd aS sc a v B0) ax (λr=>r<B\/D r\/r=gt\/r=f) D V sc.length aZ p tl N->ag N f dK [.bool b]->
   aG v8 (j0 dK (Γ f) (.bool v2)) N λ(_:Unit)a2=>ab v8 (do loadVar dK (<-asAddr (Γ f))) a2 λr=>vT w.heap.size a2 λbp=>r= .bool v2/\AtR l gy gt gtb ga (mP bT gy gtb bb bd ga gs) (gF ad ae R n s gs bT bb bd aS sc a v B0) ax (λr=>r<B\/D r\/r=gt) D w sc.length aZ p tl bp:=by
  intro aZ p tl D w V N f b H bq aj C am aq a6 a8;have b0:∀r,r=f->r<V.heap.size/\¬D r/\B<=r/\(r<B\/D r\/r=gt\/r=f)/\r≠gy/\r≠gtb/\r≠ga/\r≠gt:=by
   rintro r rfl;exact⟨aj,λh=>by have:=(C _ h).2;omega,Ω,.inr (.inr (.inr rfl)),Ω,Ω,Ω,Ω⟩
  refine aG.cA (bu dK.i rfl rfl a8 Ξ λa2 b1 c3 bc b2=>?_);have bc:=bc;have b3:=a6.own ah Q b1 b2.o b0;rw[Sg Ψ (bc.cell rfl)];intro bp b4 b5;refine⟨rfl,((b3.own ah Q (b4.aa λ_=>False) (b5.2.Y am) λ_ h=>h.elim).base H λr z h=>?_)⟩;rcases h with h|h|h|h
  .exact .inl h
  .exact .inr (.inl h)
  .exact .inr (.inr h)
  .omega
 intro q;induction q with
 |zero=>
  intro p tl k D w b6 au C am E av be bf aw;refine jy func262 ?_;refine aG.cA (bn λg1 U b7 ay G bg=>?_);refine aG.cA (bE dK.i λf V bq X O bi=>?_);have H:=ay.F X;have b8:=ay.size;have ca:=X.size;have G:=ag.W G X;have O:=O;have aj:=O.lt;have aI:=Q D k w V (H.aa _) (bg.F bi).o bf;have M:=be.W H;have J:=av.W H;rw[aF Ψ (G.cell rfl)];refine aU M.1.2.1 ?_;rw[a1 an.u M.2.2.1,bl,al];refine⟨λ_=>?_,λh=>ro Ω h⟩;rw[aF Ψ (J.1.cell rfl),aF Ψ (J.2.1.cell rfl)];have cb:=aw 0 tl rfl;refine(show iZ v8 l [.slice (σ ⟨gt,0,ν⟩) sc.length sc.length] V _ from iZ.Y (bZ D k tl _ V (λr z=>⟨(C r z).1,by have:=(C r z).2;omega⟩) Ω M cb J.2.2.2.ls aI) ?_);rintro _ cc ⟨rfl,⟨D',d1,d2,cd,ce⟩,cf,cg,bj⟩;refine⟨cf,?_⟩;have aq:=av.lt;have aJ:∀{g:Nat},w.heap.size<=g->¬D g:=λh1 az=>by have:=(C _ az).2;omega
  have aA:∀{g:Nat},B<=g->¬D g->¬(g<B\/D g):=λh1 az ch=>ch.elim Ω az;have a8:=O.aa bj (aA Ω (aJ Ω));have a6:AtR l gy gt gtb ga (mP bT gy gtb bb bd ga gs) (gF ad ae R n s gs bT bb bd aS sc a v B0) ax (λr=>r<B\/D r\/r=gt\/r=f) D V sc.length (k+1) p tl cc:=
   ⟨cg,D',tl,au,rfl,J.aa bj ⟨aA E.1.1 E.1.2,aA E.2.1.1 E.2.1.2,aA E.2.2.1.1 E.2.2.1.2,aA E.2.2.2.1 E.2.2.2.2⟩,⟨d1,d2⟩,cd,ce,bj.Y λr _ h=>h.imp id .inl⟩
  exact aY H Ω aj C am aq a6 a8
 |succ q br=>
  intro p tl k D w b6 au C am E av be bf aw;refine jy func262 ?_;refine aG.cA (bn λg1 U b7 ay G bg=>?_);refine aG.cA (bE dK.i λf V bq X O bi=>?_);have H:=ay.F X;have b8:=ay.size;have ca:=X.size;have G:=ag.W G X;have O:=O;have aj:=O.lt;have h1:=G.lt;have aI:=Q D k w V (H.aa _) (bg.F bi).o bf;have M:=be.W H;have J:=av.W H;have aq:=av.lt;have aJ:∀{g:Nat},w.heap.size<=g->¬D g:=λh1 az=>by have:=(C _ az).2;omega
  rw[aF Ψ (G.cell rfl)];refine aU M.1.2.1 ?_;rw[a1 an.u M.2.2.1,bl,al];refine⟨λh=>ro h Ω,λ_=>?_⟩;rw[aF Ψ (G.cell rfl),aF Ψ (M.1.2.2.1.cell rfl),bl,al];have bs:∀{N:x6}{K:x4->Prop},ag N gtb an [.slice (σ ⟨gt,0,ν⟩) sc.length sc.length]->K (.slice (σ ⟨gt,0,ν⟩) sc.length sc.length)->ab v8 (u6 an (Γ gtb)) N K:=λaV aW=>by rw[aF Ψ (aV.cell rfl)];exact aW
  have aK:∀{D:Nat->Prop}(r:Nat),sK D B gy gtb ga gt->r=gt->B<=r/\¬D r:=λr h e=>e▸⟨h.2.2.2.1,h.2.2.2.2⟩;refine⟨λhe=>?_,λci=>?_⟩
  .refine bs J.2.1 ?_;rw[aF Ψ (G.cell rfl),aF Ψ (M.1.2.2.2.cell rfl),jf rfl an.u ai.i J.2.2.2 Ω];refine aG.cA (jg ai.i J.2.2.2 Ω λaL W c4 cj ck=>?_);have bw:lp aL l gy gt gtb ga (mP bT gy gtb bb bd ga gs) sc.length (tl.set p v):=⟨J.1.aa W λh=>ac.1 h.symm,J.2.1.aa W λh=>ac.2.1 h.symm,J.2.2.1.aa W λh=>ac.2.2 h.symm,cj⟩;have cl:=ah D _ _ _ W (λr h=>aK r E h) M;have cm:=Q D k V aL (W.Y λr _ h=>aK r E h) ck.o aI;have cn:=G.aa W Ω;have cp:=O.aa W Ω;rw[aF Ψ (bw.2.2.1.cell rfl),aF Ψ (cn.cell rfl),aO,m1 Ω Ω];have hw:gf s sc a v (q+1) p tl=gf s sc a v q (p+1) (tl.set p v):=by rw[gf,ms he]
   rw[hw];rw[hw]at aw;refine(show ak v8 oS (vp (p+1) bT gy gtb bb bd ga gs) aL _ from ak.Y (br (p+1) (tl.set p v) k D aL Ω (by rw[o7];exact au) (λr z=>⟨(C r z).1,by have:=(C r z).2;omega⟩) Ω E bw cl cm aw) ?_);rintro _ cq c5 ⟨rfl,bx⟩;have cr:ag cq f dK [.bool v6]:=by
    obtain⟨_,_,_,_,_,_,_,_,_,ct⟩:=bx;exact cp.aa ct λh=>by
     rcases h with h|h|h
     .omega
     .exact aJ Ω h
     .omega
   exact aY H Ω aj C am aq (AtR.comp (λr h=>h.imp id λh=>h.imp id .inl) (λr h=>.inl h) (λ_ h=>h) (W.Y λr _ h=>.inr (.inr (.inl h))) rfl bx) cr
  intro c6 aM _ cu;have aN:=M.W aM;obtain⟨A,s',bt,bz,cw,c7⟩:=id aN.2.2.2.2.2;obtain⟨u,hu⟩:=aD (l:=sc) (i:=p) Ω;obtain⟨cz,c8⟩:=bX u (x7 hu);have c9:=bz.2.2.2.1.d6;obtain⟨x,bA⟩:=aD (l:=s'.d6) (i:=u.toNat) Ω;rw[aF Ψ (aN.1.1.cell rfl)];refine aU aN.1.2.1 ?_;rw[aF Ψ ((G.W aM).cell rfl),bh an.u ai.i Ψ aN.2.2.1 hu];refine(kG (i:=u) bz).Y ?_;rintro _ da cB ⟨⟨b,db,rfl,bB⟩,bC⟩;refine(n4).Y ?_;rintro _ aP cC ⟨cD,bD,rfl,dc,bF⟩;have bG:=mJ bB cz bA;have cE:ba s (sc.getD p 0)=aC x:=by
   rw[<-cw,u5,hu,W7];unfold ba;rw[bA]
  have bH:gf s sc a v (q+1) p tl=(aC x).flatMap λy=>gf s sc a v q (p+1) (tl.set p y):=by rw[gf,rc ci,cE]
  have Y:=(aM.F bC).F cD;have cF:=(cu.F cB).F cC;have z12:=Y.size;have dd:=(aM.F bC).size;have de:=bF.lt;have bI:B<=aP.heap.size:=Ω
  have cG:=Q D k V aP (Y.aa _) cF.o aI;have bJ:=M.W Y;have bK:=J.W Y;refine⟨Nat,v6,v6,kq,#[Γ bD],0,_,_,λ_=>_,λ_ j I=>AtR l gy gt gtb ga (mP bT gy gtb bb bd ga gs) (gF ad ae R n s gs bT bb bd aS sc a v B0) ax (λr=>r<B\/D r\/r=gt) D aP sc.length (k+(((aC x).take j).flatMap λy=>gf s sc a v q (p+1) (tl.set p y)).length) p tl I/\ag I g1 ai [Δ (p:Int)]/\ag I f dK [.bool v6],
   λ_ _ _ _=>False,rfl,(n3 (g:=bD) bB.1).s.x,?_,λ_ _ _ ao h=>⟨h.1.W ao,h.2.W ao⟩,?_,λ_ _ _ _ _ _ _ h=>h,⟨bF,bJ.2.2.2.2.1.1⟩,?_,?_,?_,λ_ _ _ h=>h.elim,λ_ _ _ _ h=>h.elim⟩
  .rintro _ _ _ _ ⟨_,_,_,_,rfl⟩;rfl
  .rintro _ j df dg aT cH ⟨Z,aB,P⟩;have ao:=aT.W λ_ _ h=>nomatch h.1;exact⟨Z.own ah Q (ao.aa λ_=>False) (cH.Y bI) λ_ h=>h.elim,aB.W ao,P.W ao⟩
  .exact⟨⟨o4 _,D,tl,au,rfl,bK,⟨λ_ h=>.inl h,λ_ h=>h⟩,bJ,by simpa using cG,af.refl _ _⟩,G.W Y,O.W Y⟩
  .rintro _ _ j _ dh _ _ ⟨cI,di⟩ ⟨dj,rfl,y,cJ,cK⟩ ⟨cL,bM,cM⟩;cases cK;intro bN aE cN _;have bO:(aC x)[j]?=σ (y:Int):=by rw[<-bG,u4,cJ];rfl
   have cO:=cL.own ah Q (aE.aa λ_=>False) (cN.2.Y bI) λ_ h=>h.elim;obtain⟨dk,aH,aQ,Z,aB,P,⟨aR,cP⟩,cQ,cR,cS⟩:=cO;have cT:=bK.lt;have bk:=E.go aR cT;have bP:∀r,aH r->B<=r/\r<bN.heap.size:=λr z=>(aR r z).elim (λh=>⟨(C r h).1,by have:=(C r h).2;omega⟩) λh=>⟨Ω,h.2⟩;refine bs P.2.1 ?_;rw[aF Ψ ((bM.W aE).cell rfl),jf rfl an.u ai.i P.2.2.2 Ω];refine aG.cA (jg ai.i P.2.2.2 Ω λap S dl cU cV=>?_);have bQ:lp ap l gy gt gtb ga (mP bT gy gtb bb bd ga gs) sc.length (aQ.set p y):=⟨P.1.aa S λh=>ac.1 h.symm,P.2.1.aa S λh=>ac.2.1 h.symm,P.2.2.1.aa S λh=>ac.2.2 h.symm,cU⟩;have cW:=ah aH _ _ _ S (λr h=>aK r bk h) cQ;have cX:=Q aH _ bN ap (S.Y λr _ h=>aK r bk h) cV.o cR;have bR:ag ap g1 ai [Δ (p:Int)]:=(bM.W aE).aa S Ω;have cY:ag ap f dK [.bool v6]:=(cM.W aE).aa S Ω;have cZ:=(cI.W aE).aa S Ω;rw[aF Ψ (bQ.2.2.1.cell rfl),aF Ψ (bR.cell rfl),aO,m1 Ω Ω];have bS:gf s sc a v q (p+1) (aQ.set p (y:Int))=gf s sc a v q (p+1) (tl.set p (y:Int)):=Sb Ω (by rw[o7];exact au) (by rw[o7];exact Z) (by rw[vo Ω,vo Ω,aB]);refine(show ak v8 oS (vp (p+1) bT gy gtb bb bd ga gs) ap _ from ak.Y (br (p+1) (aQ.set p y) _ aH ap Ω (by rw[o7];exact Z) (λr z=>⟨(bP r z).1,by have:=(bP r z).2;omega⟩) Ω bk bQ cW cX λi dm hi=>?_) ?_)
   .rw[bS]at hi;rw[Q3];refine aw _ _ ?_;rw[bH];exact Sf bO hi
   rintro _ dn dp ⟨rfl,bU⟩;rw[bL,X3,a7];have bV:=AtR.comp (λr h=>h) (λr h=>(aR r h).imp id λh=>⟨h.1,Ω⟩) cP (cS.F (S.Y λr _ h=>.inr (.inr h))) aB bU;obtain⟨_,_,_,_,_,_,_,c0,_,bm⟩:=bU;have aX:∀{g:Nat},w.heap.size<=g->g<aP.heap.size->¬(g<B\/aH g\/g=gt):=λc1 dq h=>by
    rcases h with h|h|h
    .omega
    .exact (aR _ h).elim (aJ c1) λh=>Ω
    .omega
   refine⟨⟨cZ.aa bm (aX Ω Ω),c0.2.2.2.2.1.1⟩,⟨?_,bR.aa bm (aX Ω Ω),cY.aa bm (aX Ω Ω)⟩,λh=>by cases h⟩;have e:k+(((aC x).take j).flatMap λy=>gf s sc a v q (p+1) (tl.set p y)).length+(gf s sc a v q (p+1) (aQ.set p (y:Int))).length=k+(((aC x).take (j+1)).flatMap λy=>gf s sc a v q (p+1) (tl.set p y)).length:=by
    rw[bS,r9,bO,j6,List.flatMap_append,List.flatMap_singleton,n9];omega
   rw[e]at bV;exact bV
  .rintro _ j dr rfl ⟨Z,aB,P⟩;rw[b9 (by rw[<-bG,r8];exact o4 _),<-bH]at Z;exact aY H Ω aj C am aq (Z.base Y λr _ h=>h.imp id λh=>h.imp id .inl) P
end
section
variable{ad ae gs bT bb bd B0:Nat}{R:ah}{n:aI}{s:am}{aS:x4}{sc:Λ}{v:Int}
def FY{e:Nat}(W:∀u∈sc,0<=u/\u<n.co.length)(X:sc.length<=6):
  q7 v8 v2 v6 nd [Γ bT,Γ bb,Γ bd,Γ gs] 0 (λk=>k=(bX s sc e v).length)
   (λk vs Y w=>Y=k+1/\∃tl aV,(bX s sc e v)[k]?=σ tl/\vs=[aV]/\aM .i64 w aV tl) (gF ad ae R n s gs bT bb bd aS sc e v B0):=by
 refine⟨nd.enters,λl ax aY w Z _ ac hj ah=>?_⟩;have E:∀D k U V,af (λr=>w.heap.size<=r/\¬D r) U V->fL w.heap.size U V->ax D k U->ax D k V:=λD k U V aj ak=>Z D k U V (aj.Y λr _ h=>⟨rfl,h⟩) ak;have J:=hj.2.2.1;have al:=hj.2.2.2.2.1.2;obtain⟨_,_,_,aZ⟩:=c5 J;refine rk func261 ?_;refine aG.cA (bn λgy U a2 p G am=>?_);have ao:∀{H:x6}{K:x4->Prop},ag H bT an [aS]->K aS->ab v8 (u6 an (Γ bT)) H K:=λap aq=>by rw[aF (v:=aS) Ψ (ap.Qz rfl)];exact aq
 refine ao (hj.1.2.1.W p) ?_;rw[a1 an.u (J.W p)];refine aG.cA (ku (k:=.i64) an.u ai.i Ω Ω λgt V a6 A M au=>?_);refine aG.cA (bE an.i λgtb a7 a8 q N av=>?_);refine aG.cA (bu an.i rfl rfl N (by simp[x4.cells]) λba C bc aw ay=>?_);refine aG.cA (bE p5.i λga be bf f O az=>?_);rw[mg];refine aG.cA (bu p5.i rfl rfl O (by simp[x4.cells]) λa y bg aA aC=>?_);have bh:=p.size;have bi:=A.size;have z3:=q.size;have z5:=f.size;have bj:=G.lt;have bk:=M.lt;have bl:=N.lt;have bm:=O.lt;have aD:ag a gy A1 [.func (.yield l) #[] #[]]:=(((((ag.W G A).W q).aa C Ω).W f).aa y Ω);have aE:ag a gt ai (ints .i64 (o6 sc.length 0)):=((((M.W q).aa C Ω).W f).aa y Ω);have aH:ag a gtb an [.slice (σ ⟨gt,0,ν⟩) sc.length sc.length]:=((ag.W aw f).aa y Ω);have P:ag a ga p5 [.func (.func oS) #[] (mP bT gy gtb bb bd ga gs)]:=aA;rw[aF (v:=.func (.func oS) #[] (mP bT gy gtb bb bd ga gs)) Ψ (P.Qz rfl)];have hm:aB .i64 ai a gt (.slice (σ ⟨gt,0,ν⟩) sc.length sc.length) (o6 sc.length 0):=by
  have:=b2.full (n:=sc.length) (k:=1) aE Ξ (by simp only[maxLen];omega);unfold aB;rw[List.length_replicate];exact this
 have aI:=(p.F A).F q;have Q:af (λr=>w.heap.size<=r/\¬False) w a:=(((aI.aa _).F (C.Y λr _ h=>⟨by have h:r=gtb:=h;omega,id⟩)).F (f.aa _)).F (y.Y λr _ h=>⟨by have h:r=ga:=h;omega,id⟩);have aJ:cQ w a:=((((am.F au).F av).F ay).F az).F aC;have aK:gF ad ae R n s gs bT bb bd aS sc e v B0 (λ_=>False) a:=hj.own Q λr aL=>⟨Ω,aL.2⟩;have S:=Sc (s:=s) (sc:=sc) (pos:=e) (v:=v) (tl:=o6 sc.length 0) Ξ;refine(show gT v8 oS (vp 0 bT gy gtb bb bd ga gs) a _ from(Sh (L:=bX s sc e v) (B:=w.heap.size) (l:=l) (gy:=gy) (gt:=gt) (gtb:=gtb) (ga:=ga) (pos:=e) Ω W X al ⟨Ω,Ω,Ω⟩ E ?_ sc.length 0 (o6 sc.length 0) 0 (λ_=>False) a Ω Ξ (λ_ h=>h.elim) Ω ⟨⟨Ω,id⟩,⟨Ω,id⟩,⟨Ω,id⟩,Ω,id⟩ ⟨aD,aH,P,hm⟩ aK (E _ _ _ _ Q aJ.o ah) λi x hi=>?_).free.Y ?_)
 .intro D k tl aV I aN aO aP aQ aR z;refine iZ.Y (ac D k (k+1) [aV] I aN aO aP ⟨rfl,tl,aV,aQ,rfl,aR⟩ z) ?_;rintro u bo (⟨h1,aT,aU,aW,aX⟩|⟨h,_⟩)
  .exact⟨h1,aT,aU (.inr rfl),aW,aX rfl⟩
  .cases h
 .rw[S]at hi;rw[X6];exact hi
 .rintro _ bp ⟨_,rfl,_,D',_,_,_,_,_,_,z,_⟩;rw[S,X6]at z;exact .inl ⟨D',_,rfl,z⟩
end
def FZ(m gs bT bb bd:Nat)(aS:x4):Prop:=(m<=gs/\m<=bT/\m<=bb/\m<=bd)/\∀r,lw aS r->m<=r
section
variable{ad ae gs bT bb bd B0 m:Nat}{A R:ah}{n:aI}{s s':am}{t:aA}{aS:x4}{sc:Λ}{pos v:Int}{w I:x6}
def bG.lt(h:bG w ad ae A R n s t){r:Nat}(a:A r\/R r):r<w.heap.size:=by
 obtain⟨⟨j,p,q,x,⟨_,_,e,f⟩,_⟩,_⟩:=h;exact a.elim (f r) (e r)
def gF.put{D' S:Nat->Prop}(h:gF ad ae R n s gs bT bb bd aS sc pos v B0 D w)(j:af S w I)(hm:FZ m gs bT bb bd aS)(y:∀r,S r->r<m\/B0<=r)(z:Laid I)(B:bG I ad ae A R n s' t)(C:∀i,ba s' i=ba s i)(E:∀r,A r\/R r->r<B0\/D' r):gF ad ae R n s gs bT bb bd aS sc pos v B0 D' I:=by
 obtain⟨h1,f,p,q,F,_⟩:=h;have no:∀{r:Nat},m<=r->r<B0->¬S r:=λh1 f p=>by have:=y _ p;omega
 exact⟨h1.aa j ⟨no hm.1.1 f.1,no hm.1.2.1 f.2.1,no hm.1.2.2.1 f.2.2.1,no hm.1.2.2.2 f.2.2.2⟩,f,jh p j λr G a n c e x=>no (hm.2 r ⟨a,n,c,e,x⟩) (q r ⟨a,n,c,e,x⟩) G,q,⟨z,X1 F.2 j.size⟩,A,s',t,B,C,E⟩
def F0{f:cm}{X:x6->Prop}(h:bG w ad ae A R n s t)(y:Laid w)(B:s.d9[j]?=σ f)(C:∀aS gs bT bb bd I,Ext w I->FZ w.heap.size gs bT bb bd aS->gF ad ae R n s gs bT bb bd aS f.sc pos v I.heap.size (λ_=>False) I->K (.func (.func nd) #[] #[Γ bT,Γ bb,Γ bd,Γ gs]) I):
  ak v8 tp [Γ ad,Δ (j:Int)] w λaS U=>(Ext w U\/X U)/\ak v8 AS [Γ ad,aS,Δ pos,Δ v] U K:=by
 refine(ss h B).Y ?_;rintro aS U _ ⟨q,g,E,hm⟩;refine⟨.inl q,(Sd hm.ls).Y ?_⟩;rintro _ V _ ⟨x,gs,bT,bb,bd,rfl,a,G,H,J,L⟩;have p:=q.F x;have M:=q.size;have z:=p.size;refine C aS gs bT bb bd V p ⟨⟨Ω,Ω,Ω,Ω⟩,λr e=>(bW hm e).1▸E⟩ ⟨a,⟨a.1.lt,a.2.1.lt,a.2.2.1.lt,a.2.2.2.lt⟩,hm.ls.W x,λr e=>?_,⟨y.W p,o4 _⟩,A,s,t,h.W p,λ_=>rfl,λr e=>.inl ?_⟩
 .have:=bW hm e;have:=x.size;omega
 .have:=h.lt e;omega
end
section
variable{k:Int}{co:Λ}{s:am}{f:cm}{j pos:Nat}{v:Int}{tl:Λ}
def yW{m:Nat}(a:s.d9[j]?=σ f)(e:f.live≠0)(hm:cj f.aj tl 0=σ (m:Int)):(iy s j tl).isSome=v2/\oo s j tl=bq f.aj f.cs tl:=by
 unfold iy oo;rw[a];simp[e,hm]
end
section
variable{w:x6}{ad ae:Nat}{A R:ah}{n:aI}{s:am}{t:aA}
def F3{f:cm}(h:bG w ad ae A R n s t)(af:Laid w)(M:s.d9[j]?=σ f)(ax:f.live≠0)(ay:∀u,f.sc[pos]?=σ u->v∈ba s u):
  ak v8 Jj [Γ ad,Δ (j:Int),Δ (pos:Int),Δ v] w λr I=>r=Δ (eh n.k s f pos v)/\Ext w I:=by
 have ah:=h.2.2.2.1;have al:=x7 M;obtain⟨N,aR,_⟩:=ah.d9 f al;refine jy func148 ?_;refine bn λg1 U aT O y=>?_;refine bn λam V aU J K=>?_;have y:=ag.W y J;have K:=K;rw[aF Ψ (y.cell rfl)];refine(om (h.W (O.F J))).Y ?_;rintro _ aW _ ⟨rfl,P⟩;refine bE av.i λQ aY aZ S an=>?_;have a1:=O.size;have a2:=J.size;have z3:=P.size;have z4:=S.size;have a6:=y.lt;have a7:=K.lt;have a8:=an.lt;refine bu av.i rfl rfl an (by simp[x4.cells]) λbc W be X=>?_;have X:=X;intro ao z _ _;have bf:=z.size;have ap:=P.F S;have Y:=((((O.F J).F P).F S).then W (by rintro r p rfl;omega)).F z;have Z:ag ao g1 eF [Γ ad]:=((y.W ap).aa W Ω).W z;have aq:ag ao am ai [Δ (j:Int)]:=((K.W ap).aa W Ω).W z;have au:=X.W z;have bg:=au.lt;rw[aF Ψ (Z.cell rfl),aF Ψ (Z.cell rfl),aF Ψ (aq.cell rfl)];refine F0 (h.W Y) (af.W Y) M λaS gs bT bb bd az B aA aB=>?_;have bh:=B.size;refine⟨Nat,v2,v6,nd,#[Γ bT,Γ bb,Γ bd,Γ gs],0,_,_,_,λD k I=>Ext w I/\ag I g1 eF [Γ ad]/\ag I am ai [Δ (j:Int)]/\ag I Q av [Δ ((((bX s f.sc pos v).take k).map (bq f.aj f.cs)).foldl min n.k)],
  λ_ _ _ _=>False,rfl,FY (λu hu=>⟨(N.scope.1 u hu).1,N.d6 u hu⟩) N.scope.2,?_,λ_ _ _ aC h=>h.W aC,?_,λ_ _ _ _ _ _ _ h=>h,aB,?_,?_,?_,λ_ _ _ h=>h.elim,λ_ _ _ _ h=>h.elim⟩
 .rintro _ _ _ _ ⟨_,_,_,_,rfl,_⟩;rfl
 .rintro D k aD aE L bi ⟨q,C,E,x⟩;have aX:∀{g:Nat}{e:o5}{cs:List x4},g<az.heap.size->ag aD g e cs->ag aE g e cs:=λbj aH=>aH.aa L λh=>by have:=h.2.1;omega
  exact⟨q.then L λr p h=>by have:=h.2.1;omega,aX Ω C,aX Ω E,aX Ω x⟩
 .exact⟨Y.F B,Z.W B,aq.W B,au.W B⟩
 .rintro aV D k bk bl bm bo aI ⟨rfl,tl,bp,aw,e,aJ⟩ ⟨q,C,E,x⟩;cases e;intro br G _ aK;obtain⟨m,hm⟩:=qQ ah al ay (x7 aw);obtain⟨aL,L⟩:=yW M ax hm;rw[aF Ψ ((C.W G).cell rfl),aF Ψ ((E.W G).cell rfl)];refine(yn (h.W (q.F G)) (aJ.W G)).Y ?_;rintro _ bs aM ⟨rfl,aN⟩;have a:=G.F aN;rw[ms aL,L,bA,bB,aF Ψ ((x.W a).cell rfl),ni];refine aG.cA (bu av.i rfl rfl (x.W a) Ξ λbt H bw ab aO=>?_);have bx:=a.size;have ac:=(q.F a).then H (by rintro r p rfl;omega);have aP:=h.W ac;refine⟨⟨D,λr h=>.inl h,λ_ h=>h,(aI.W a).put H aA (λr p=>.inl (by have p:r=Q:=p;omega)) (af.W ac) aP (λ_=>rfl) λr p=>.inl (by have:=h.lt p;omega),ac,(C.W a).aa H Ω,(E.W a).aa H Ω,?_⟩,aK.F (aM.lz.F aO.lz),(a.aa _).F (H.Y λr _ h=>.inl (by have h:r=Q:=h;omega))⟩;have ab:=ab;rw[r9,aw,j6,Z4,S2];exact ab
 .rintro D k bz rfl ⟨q,C,E,x⟩;rw[aF Ψ (x.cell rfl)];intro bC aQ _;refine⟨?_,q.F aQ⟩;rw[b9 (o4 _)];rfl
def Si{j pos:Int}(h:bG w ad ae A R n s t)(y:Laid w):ak v8 IX [Γ ad,Δ j,Δ pos,Δ v] w λr I=>Ext w I/\r=(match dp s j pos v with|some (f,_,_)=>.tuple #[Δ (eh n.k s f pos.toNat v),Δ 0]|none=>.tuple #[Δ 0,Δ 1]):=by
 refine az func106 ?_;refine(yS h).Y ?_;rintro _ U _ ⟨a,u,e,rfl,ac⟩;rw[bA,bB];rcases ac with⟨rfl,f,x,ac⟩|⟨rfl,ac⟩
 .rw[ac,bK,al];refine⟨λh=>ro rfl h,λ_=>?_⟩;obtain⟨h1,z,B,C,p,E⟩:=mN ac;obtain⟨K,G,L,H⟩:=jO E;obtain⟨j,rfl⟩:=V3 h1;obtain⟨pos,rfl⟩:=V3 z;refine(F3 (j:=j) (pos:=pos) (h.W a) (y.W a) B C λu' q=>?_).Y ?_
  .have p:f.sc[pos]?=σ u:=p;rw[p]at q;cases q;unfold ba;rw[G];exact H
  .rintro _ V _ ⟨rfl,J⟩;exact⟨a.F J,rfl⟩
 .rw[ac,bK,al];exact⟨λ_=>⟨a,rfl⟩,λh=>ro Φ h⟩
end
def sL(t:aA):Prop:=∀m,t.marks.getLast? =σ m->m.olds+t.cells.length<100000000/\t.olds.length<=m.olds+t.cells.countP λc=>decide (c.st=m.st)
def eC(au:List aA)(t:aA):Prop:=iI t au/\sL t
def iI.m{t:aA}(h:iI t []):eC [] t:=⟨h,λm hm=>by rw[h.1]at hm;cases hm⟩
def eC.room{au:List aA}{t:aA}(h:eC au t):Room t:=by
 cases hm:t.marks.getLast? with
 |none=>exact .inl (List.getLast?_eq_none_iff.1 hm)
 |some m=>
  obtain⟨h1,a⟩:=h.2 m hm;have:=List.countP_le_length (p:=λc:Cell=>decide (c.st=m.st)) (l:=t.cells);exact .inr Ω
def sL.set{t:aA}{i:Nat}{x:Int}(h:sL t):sL (t.set i x):=by
 unfold aA.set;cases e:t.cells[i]? with
 |none=>exact h
 |some c=>
  obtain⟨f,j⟩:=x5.1 e;cases hm:t.marks.getLast? with
  |none=>
   intro m a;have a:=a;rw[hm]at a;cases a
  |some m=>
   obtain⟨h1,q⟩:=h m hm;simp only;split
   .rename_i r;intro bR a;have a:=a;rw[hm]at a;cases a;show m.olds+(t.cells.set i _).length<_/\(t.olds++[_]).length<=m.olds+(t.cells.set i _).countP _;rw[o7,List.countP_set f,j,n9,T5,rc (by rw[sp];omega),ms Ξ];exact⟨h1,Ω⟩
   .intro bR a;have a:=a;rw[hm]at a;cases a;show m.olds+(t.cells.set i _).length<_/\t.olds.length<=m.olds+(t.cells.set i _).countP _;rw[o7,List.countP_set f,j];refine⟨h1,?_⟩;by_cases J:c.st=m.st
    .have:=List.countP_pos_iff (p:=λc:Cell=>decide (c.st=m.st)).2 ⟨c,x7 e,rs J⟩;rw[ms (rs J)];omega
    .rw[rc (by rw[sp];exact J)];omega
def eC.set{au:List aA}{t:aA}{i:Nat}{x:Int}(h:eC au t):eC au (t.set i x):=⟨h.1.set,h.2.set⟩
def cS(au:List aA)(w:x6)(ad ae:Nat)(A R:ah)(n:aI)(s':am)(I:x6):Prop:=af (eH w) w I/\Laid I/\∃aN bt,Grow A w aN I/\bG I ad ae aN R n s' bt/\eC au bt/\¬aN 0
def dR(au:List aA)(w:x6)(ad ae:Nat)(A R:ah)(n:aI)(m:Nat)(D:Nat->Prop)(s':am)(I:x6):Prop:=
 af (λr=>eH w r\/w.heap.size<=r) w I/\(Laid I/\w.heap.size<=m/\0<w.heap.size/\(∀r,A r\/R r->r<w.heap.size))/\∃aN bt,Grow A w aN I/\bG I ad ae aN R n s' bt/\(eC au bt/\¬aN 0)/\∀r,aN r->r<m\/D r
section
variable{au:List aA}{w U V:x6}{ad ae m:Nat}{A R:ah}{n:aI}{s s' pL:am}{t:aA}{D D' S:Nat->Prop}
def dR.start(h:bG w ad ae A R n s t)(f:Laid w)(j:¬A 0)(p:eC au t)(a:Ext w U)(hm:w.heap.size<=m):dR au w ad ae A R n m D s U:=
 ⟨a.aa _,⟨f.W a,hm,by
  obtain⟨x,y,z,B,⟨h1,_,_,q⟩,_⟩:=h.1;have:=q _ h1;omega,λr e=>h.lt e⟩,A,t,Grow.W a,h.W a,⟨p,j⟩,λr e=>.inl (by have:=h.lt (.inl e);omega)⟩
def dR.own(h:dR au w ad ae A R n m D s' U)(e:af S U V)(f:∀r,S r->m<=r/\¬D r):dR au w ad ae A R n m D s' V:=by
 obtain⟨h1,⟨s,x,y,j⟩,aN,bt,⟨g1,z,B⟩,p,C,q⟩:=h;refine⟨h1.F (e.Y λr _ h=>.inr (by have:=(f r h).1;omega)),⟨iH e (λh=>by have:=(f _ h).1;omega) s,x,y,j⟩,aN,bt,⟨?_,z,B⟩,⟨p.1.aa e λr _ a J=>?_,p.2⟩,C,q⟩
 .exact ((g1.Y λr _ h=>.inl h).F (e.Y λr _ h=>.inr (f r h).1):af (λr=>A r\/m<=r) w V).Y λr a h=>h.elim id λh=>Ω
 .obtain⟨F,E⟩:=f r J;rcases a with a|a
  .exact (q r a).elim Ω E
  .have:=j r (.inr a);omega
def dR.W(h:dR au w ad ae A R n m D s' U)(a:Ext U V):dR au w ad ae A R n m D s' V:=h.own (a.aa λ_=>False) λ_ h=>h.elim
def dR.sM(h:dR au w ad ae A R n m D s' U):∃aN bt,bG U ad ae aN R n s' bt/\eC au bt/\¬aN 0/\∀{V:x6}{pL:am}{D' a:Nat->Prop}{j:aA},af (eH U) U V->Grow aN U a V->bG V ad ae a R n pL j->eC au j->(∀r,D r->D' r)->(∀r,U.heap.size<=r->r<V.heap.size->D' r)->
  dR au w ad ae A R n m D' pL V/\af (λr=>r<m\/D r) U V/\∀r,a r->r<m\/D' r:=by
 obtain⟨h1,⟨y,z,B,C⟩,aN,bt,E,F,p,q⟩:=h;refine⟨aN,bt,F,p.1,p.2,λ{V pL D' a j}G e s H I K=>?_⟩;have O:=h1.size;have L:¬a 0:=λh=>(e.2.1 0 h).elim p.2 λh=>Ω
 have x:∀r,a r->r<m\/D' r:=λr f=>(e.2.1 r f).elim (λh=>(q r h).imp id (I r)) λh=>.inr (K r h (s.lt (.inl f)));refine⟨⟨h1.F (G.Y λr _ h=>?_),⟨iH e.1 p.2 y,z,B,C⟩,a,j,E.F e,s,⟨H,L⟩,x⟩,e.1.Y λr _ h=>q r h,x⟩;by_cases f:w.heap.size<=r
 .exact .inr f
 .exact .inl (og (λo M J N=>h1.aX r o M J λh=>h.elim N f) h)
def dR.open(h:dR au w ad ae A R n m D s' U):∃aN bt,bG U ad ae aN R n s' bt/\eC au bt/\∀{V:x6}{pL:am}{D' e:Nat->Prop}{f:aA},af (eH U) U V->Grow aN U e V->bG V ad ae e R n pL f->eC au f->(∀r,D r->D' r)->(∀r,U.heap.size<=r->r<V.heap.size->D' r)->
  dR au w ad ae A R n m D' pL V/\af (λr=>r<m\/D r) U V/\∀r,e r->r<m\/D' r:=by
 obtain⟨aN,bt,a,b,_,d⟩:=h.sM;exact⟨aN,bt,a,b,d⟩
def dR.done(h:dR au w ad ae A R n m D s' U)(e:Ext U V):cS au w ad ae A R n s' V:=by
 obtain⟨h1,⟨f,q,s,x⟩,aN,bt,j,p,a,y⟩:=h.W e;exact⟨h1.Y λr z h=>h.elim id λh=>Ω,f,aN,bt,j,p,a.1,a.2⟩
end
section
variable{au:List aA}{w:x6}{ad ae:Nat}{A R:ah}{n:aI}{s:am}{t:aA}
def pM{u:Nat}{x:bo}(a:bc n.k n.co s)(f:s.d6[u]?=σ x)(h:v∈aC x):ew n (u:Int) v:=by
 have p:=(x5.1 f).1;have q:=a.d6;obtain⟨z,e⟩:=aD (l:=n.co) (i:=u) Ω;have r:=(a.var _ x z f e).1;have w:=a.ev.2.2 z (x7 e);have j:=(e1.1 h).1;refine⟨Ω,Ω,j.1,?_⟩;rw[u9,u5,e,W7];omega
def F4{f:cm}{g:Int->Int}(p:bc k co s)(a:s.d9[j]?=σ f):ed s j f (dX g [] f.aj f.cs)=s:=by
 obtain⟨q,r⟩:=kH p (x7 a);rw[Rz q Ω (λ_ h=>ro h List.not_mem_nil)];have:s.d9.set j f=s.d9:=by
  apply X0;intro i;by_cases e:j=i
  .subst e;rw[l9 (x5.1 a).1,a]
  .rw[Z6 e]
 unfold ed;show{s with d9:=s.d9.set j f}=s;rw[this]
def F5{u:Nat}{f:cm}{x:bo}{F1 F2:Q6}{tup un:Int->Int}(h:bG w ad ae A R n s t)(aO:Laid w)(bk:¬A 0)(bl:eC au t)(E:s.d9[j]?=σ f)(bm:f.live≠0)(hu:f.sc[pos]?=σ (u:Int))(y:s.d6[u]?=σ x)(aP:v∈aC x)(h1:∀tl∈bX s f.sc pos v,(0<=tup (bq f.aj f.cs tl)/\tup (bq f.aj f.cs tl)<=n.k)/\∀{w:x6}{A:ah}{s:am}{t:aA},bG w ad ae A R n s t->ak v8 F1 [Γ ad,Δ (bq f.aj f.cs tl),Δ c] w λr I=>r=Δ (tup (bq f.aj f.cs tl))/\Ext w I)(aQ:(0<=un (x.un.getD v.toNat 0)/\un (x.un.getD v.toNat 0)<=n.k)/\∀{w:x6}{A:ah}{s:am}{t:aA},bG w ad ae A R n s t->ak v8 F2 [Γ ad,Δ (x.un.getD v.toNat 0),Δ c] w λr I=>r=Δ (un (x.un.getD v.toNat 0))/\Ext w I):
  ak v8 Jk [.agg #[.func (.func F1) #[] #[],.func (.func F2) #[] #[]],Γ ad,Δ (j:Int),Δ (pos:Int),Δ v,Δ c] w λ_ I=>cS au w ad ae A R n (gd s j f pos u x v tup un) I:=by
 have G:=h.2.2.2.1;have al:=x7 E;obtain⟨ao,b3,_⟩:=G.d9 f al;have aR:∀u',f.sc[pos]?=σ u'->v∈ba s u':=λu' aT=>by
  rw[hu]at aT;cases aT;unfold ba;rw[u9,y];exact aP
 have bp:=FP G al aR;refine jy func151 ?_;refine bn λbr U b4 aU P=>?_;refine bn λg1 V b5 ap a=>?_;refine bn λb6 b7 b8 Z z=>?_;refine bn λca B cb ab Q=>?_;have P:ag B br ri [.func (.func F1) #[] #[],.func (.func F2) #[] #[]]:=((ag.W P ap).W Z).W ab;have a:ag B g1 eF [Γ ad]:=(ag.W a Z).W ab;have z:=ag.W z ab;have Q:=Q;have aq:=((aU.F ap).F Z).F ab;have cc:=aU.size;have cd:=ap.size;have z3:=Z.size;have ce:=aq.size;have aW:=P.lt;have H:=a.lt;have aY:=z.lt;have aZ:=Q.lt;rw[aF Ψ (a.cell rfl),aF Ψ (z.cell rfl)];refine(ss (h.W aq) E).Y ?_;rintro cf cg _ ⟨bs,_,_,bt⟩;rw[bh an.u ai.i Ψ bt.ls hu];intro ch bu _ _;have J:=bs.F bu;have av:=aq.F J;have z46:=J.size;rw[aF Ψ ((a.W J).cell rfl),aF Ψ ((a.W J).cell rfl),aF Ψ ((z.W J).cell rfl)];refine F0 (h.W av) (aO.W av) E λaS gs bT bb bd a1 aw bw bx=>?_;have ci:=aw.size;have bz:=J.F aw;refine⟨Nat,v2,v6,nd,#[Γ bT,Γ bb,Γ bd,Γ gs],0,_,_,_,
  λD k I=>dR au w ad ae A R n w.heap.size D (ed s j f (dX tup ((bX s f.sc pos v).take k) f.aj f.cs)) I/\(af (λr=>r<w.heap.size\/a1.heap.size<=r) B I/\a1.heap.size<=I.heap.size),
  λ_ _ _ _=>False,rfl,FY (λu hu=>⟨(ao.scope.1 u hu).1,ao.d6 u hu⟩) ao.scope.2,?_,λ_ _ _ y h=>h.W y,?_,λ_ _ _ _ _ _ _ h=>h,bx,?_,?_,?_,λ_ _ _ h=>h.elim,λ_ _ _ _ h=>h.elim⟩
 .rintro _ _ _ _ ⟨_,_,_,_,rfl,_⟩;rfl
 .rintro D k cj ck S cl ⟨K,L,ax⟩;exact⟨K.own S λr q=>⟨Ω,q.2.2⟩,L.F (S.Y λr _ h=>.inr h.2.1),X1 ax S.size⟩
 .refine⟨?_,bz.aa _,o4 _⟩;have e:ed s j f (dX tup ((bX s f.sc pos v).take 0) f.aj f.cs)=s:=F4 G E;rw[e];exact dR.start h aO bk bl (av.F aw) (o4 _)
 .rintro aV D k cn ay a2 cp bC ⟨rfl,tl,cq,az,e,a6⟩ ⟨K,L,ax⟩;cases e;intro cr W _ bD;obtain⟨m,hm⟩:=qQ G al aR (x7 az);obtain⟨bE,bF⟩:=FQ G E bp az hm;obtain⟨⟨bH,bI⟩,bJ⟩:=h1 tl (x7 az);have aX:∀{X:x6}{g:Nat}{e:o5}{cs:List x4},Ext ay X->w.heap.size<=g->g<B.heap.size->ag B g e cs->ag X g e cs:=λy M aB aD=>(aD.aa L Ω).W y;have bK:=(x5.1 E).1;have a7:(ed s j f (dX tup ((bX s f.sc pos v).take k) f.aj f.cs)).d9[j]?=σ {f with cs:=dX tup ((bX s f.sc pos v).take k) f.aj f.cs}:=l9 bK;obtain⟨M,S⟩:=yW a7 bm hm;obtain⟨A9,t9,aE,a8,aG⟩:=K.open;rw[aF Ψ ((aX W Ω H a).cell rfl),aF Ψ ((aX W Ω aY z).cell rfl)];refine(yn (aE.W W) (a6.W W)).Y ?_;rintro _ ct bL ⟨rfl,bM⟩;rw[ms M,S,bA,bB];intro bN bO _ bP;have C:=(W.F bM).F bO;rw[aF Ψ ((aX C Ω H a).cell rfl),aF Ψ ((aX C Ω aY z).cell rfl),
   aJ ri.p 0 (aX C Ω aW P) rfl,aF Ψ ((aX C Ω H a).cell rfl),aF Ψ ((aX C Ω aZ Q).cell rfl)]
  show ak v8 F1 [Γ ad,Δ (bq f.aj (dX tup ((bX s f.sc pos v).take k) f.aj f.cs) tl),Δ c] bN _;rw[bE];refine(bJ (aE.W C)).Y ?_;rintro _ cu bQ ⟨rfl,bc⟩;have Y:=C.F bc;refine⟨.inl bc,(QK (aE.W Y) a8.room (a6.W Y)).Y ?_⟩;rintro r be bR ⟨_,_,aH⟩;obtain⟨_,ac,aN,bS,bU,aI,N⟩:=aH M ⟨bH,bI⟩ _ m a7 hm;rw[bF]at N;have cw:=Y.size;have cz:=ac.size;obtain⟨bf,aK,bV⟩:=aG (D':=λr=>D r\/ay.heap.size<=r/\r<be.heap.size) (jo Y ac) ((Grow.W Y).F aI) N a8.set (λr h=>.inl h) λr M aB=>.inr ⟨M,aB⟩;refine⟨⟨λr=>D r\/ay.heap.size<=r/\r<be.heap.size,λr h=>h,λr h=>.inl h,?_,bf,L.F (aK.Y λr _ h=>h.imp id λh=>(a2 r h).1),Ω⟩,bD.F ((((bL.F bP).F bQ).F bR).lz),aK.Y λr _ h=>h.imp (λh=>Ω) id⟩;refine bC.put aK bw (λr q=>?_) bf.2.1.1 N (λ_=>rfl) λr q=>?_
  .rcases q with q|q
   .exact .inl Ω
   .exact .inr (a2 r q).1
  .rcases q with q|q
   .exact (bV r q).imp (λh=>Ω) id
   .exact .inl (by have:=h.lt (.inr q);omega)
 .rintro D k bW rfl ⟨K,L,ax⟩;rw[b9 (o4 _)]at K;have bg:=pM G y aP;obtain⟨cA,cB,aL,bi,aG⟩:=K.open;have aX:∀{X:x6}{g:Nat}{e:o5}{cs:List x4},Ext bW X->w.heap.size<=g->g<B.heap.size->ag B g e cs->ag X g e cs:=λy M aB aD=>(aD.aa L Ω).W y;rw[aF Ψ ((aX (Ext.refl _) Ω H a).cell rfl)];refine(pD aL).Y ?_;rintro _ cC _ ⟨rfl,bY⟩;have bZ:fl (ed s j f (dX tup (bX s f.sc pos v) f.aj f.cs)) (u:Int).toNat v.toNat=x.un.getD v.toNat 0:=by
   unfold fl;rw[u9,show(ed s j f (dX tup (bX s f.sc pos v) f.aj f.cs)).d6[u]?=σ x from y]
  rw[ms bg,bZ,bA,bB];intro b0 b1 _ _;have O:=bY.F b1;rw[aF Ψ ((aX O Ω H a).cell rfl),aJ ri.p 1 (aX O Ω aW P) rfl,aF Ψ ((aX O Ω H a).cell rfl),aF Ψ ((aX O Ω aZ Q).cell rfl)];show ak v8 F2 [Γ ad,Δ (x.un.getD v.toNat 0),Δ c] b0 _;refine(aQ.2 (aL.W O)).Y ?_;rintro _ cD _ ⟨rfl,bj⟩;have aM:=O.F bj;refine⟨.inl bj,(Fc (aL.W aM) bi.room).Y ?_⟩;rintro r cE _ ⟨_,_,aH⟩;obtain⟨_,ac,aN,bS,bU,aI,N⟩:=aH bg aQ.1;have e:li (ed s j f (dX tup (bX s f.sc pos v) f.aj f.cs)) (u:Int).toNat v.toNat (un (x.un.getD v.toNat 0))=gd s j f pos u x v tup un:=by
   unfold li gd eI;rw[u9,show(ed s j f (dX tup (bX s f.sc pos v) f.aj f.cs)).d6[u]?=σ x from y]
  rw[e]at N;intro cF b2 _;exact(aG (jo aM ac) ((Grow.W aM).F aI) N bi.set (λ_ _=>trivial) λ_ _ _=>trivial).1.done b2
end
def sN(h e:Nat){l a:Nat}(f:l<256)(hm:a<256):(256*h+l) &&& (256*e+a)=256*(h &&& e)+(l &&& a):=by
 have j:l &&& a<2 ^ 8:=Nat.and_lt_two_pow _ hm;apply Nat.eq_of_testBit_eq;intro i;rw[Nat.testBit_and,show 256=2 ^ 8 from rfl,Nat.testBit_two_pow_mul_add _ f,Nat.testBit_two_pow_mul_add _ hm,Nat.testBit_two_pow_mul_add _ j];split
 .rw[Nat.testBit_and]
 .rw[Nat.testBit_and]
def ik(m x:Nat):Nat:=(x / 2 &&& m)+(x &&& m)
def iY(m x:Nat):Nat:=(x / 4 &&& m)+(x &&& m)
def kL(m x:Nat):Nat:=(x / 16+x) &&& m
def c7(a:Nat):Nat:=kL 15 (iY 51 (ik 85 a))
def Sj:∀e<2,∀l<256,(128*e+l / 2) &&& 85=l / 2 &&& 85:=by decide+kernel
def Sk:∀e<4,∀l<256,(64*e+l / 4) &&& 51=l / 4 &&& 51:=by decide+kernel
def Sl:∀e<5,∀l<69,(16*e+l / 16+l) &&& 15=(l / 16+l) &&& 15:=by decide+kernel
def oA:∀l<256,ik 85 l<256/\iY 51 (ik 85 l)<69/\iY 51 (ik 85 l) % 16<5/\c7 l<=8/\(c7 l=0->l=0):=by decide+kernel
def vq(h a:Nat){l:Nat}(e:l<256):ik (256*a+85) (256*h+l)=256*ik a h+ik 85 l:=by
 unfold ik;rw[show(256*h+l) / 2=256*(h / 2)+(128*(h % 2)+l / 2) by omega,sN _ _ Ω Ω,sN _ _ e Ω,Sj _ Ω _ e];omega
def vr(h a:Nat){l:Nat}(e:l<256):iY (256*a+51) (256*h+l)=256*iY a h+iY 51 l:=by
 unfold iY;rw[show(256*h+l) / 4=256*(h / 4)+(64*(h % 4)+l / 4) by omega,sN _ _ Ω Ω,sN _ _ e Ω,Sk _ Ω _ e];omega
def vt(h a:Nat){l:Nat}(e:l<69)(he:h % 16<5):kL (256*a+15) (256*h+l)=256*kL a h+kL 15 l:=by
 unfold kL;rw[show(256*h+l) / 16+(256*h+l)=256*(h / 16+h)+(16*(h % 16)+l / 16+l) by omega,sN _ _ Ω Ω,Sl _ he _ e]
def four(a b c d:Nat):Nat:=256*(256*(256*d+c)+b)+a
def Sm{a b c d:Nat}(e:a<256)(f:b<256)(h:c<256)(j:d<256):ik 6148914691236517205 (four a b c d)=four (ik 85 a) (ik 85 b) (ik 85 c) (ik 85 d):=by
 unfold four;rw[show 6148914691236517205=256*(256*(256*(256*1431655765+85)+85)+85)+85 from rfl,vq _ _ e,vq _ _ f,vq _ _ h];have:=vq 0 1431655765 j;rw[show 256*0+d=d by omega,show ik 1431655765 0=0 from by unfold ik;simp]at this;rw[this,Nat.mul_zero,X6]
def Sn{a b c d:Nat}(e:a<256)(f:b<256)(h:c<256)(j:d<256):iY 3689348814741910323 (four a b c d)=four (iY 51 a) (iY 51 b) (iY 51 c) (iY 51 d):=by
 unfold four;rw[show 3689348814741910323=256*(256*(256*(256*858993459+51)+51)+51)+51 from rfl,vr _ _ e,vr _ _ f,vr _ _ h];have:=vr 0 858993459 j;rw[show 256*0+d=d by omega,show iY 858993459 0=0 from by unfold iY;simp]at this;rw[this,Nat.mul_zero,X6]
def Sp{a b c d:Nat}(e:a<69)(f:b<69/\b % 16<5)(h:c<69/\c % 16<5)(j:d<69/\d % 16<5):kL 1085102592571150095 (four a b c d)=four (kL 15 a) (kL 15 b) (kL 15 c) (kL 15 d):=by
 unfold four;rw[show 1085102592571150095=256*(256*(256*(256*252645135+15)+15)+15)+15 from rfl,vt _ _ e Ω,vt _ _ f.1 Ω,vt _ _ h.1 Ω];have:=vt 0 252645135 j.1 Ω;rw[show 256*0+d=d by omega,show kL 252645135 0=0 from by unfold kL;simp]at this;rw[this,Nat.mul_zero,X6]
def qR(x:Nat):Nat:=c7 (x % 256)+c7 (x / 256 % 256)+c7 (x / 65536 % 256)+c7 (x / 16777216)
def Sq{x:Nat}(h:x<4294967296):qR x=0↔x=0:=by
 constructor
 .intro a;unfold qR at a;have h1:=(oA (x % 256) Ω).2.2.2.2 Ω;have e:=(oA (x / 256 % 256) Ω).2.2.2.2 Ω;have f:=(oA (x / 65536 % 256) Ω).2.2.2.2 Ω;have j:=(oA (x / 16777216) Ω).2.2.2.2 Ω;omega
 .rintro rfl;decide
def F6{x:Nat}(ao:x<4294967296):ak v8 Iw [.int .u64 (x:Int)] w λv I=>v=Δ (qR x:Int)/\Ext w I:=by
 obtain⟨a,b,c,d,G,H,J,L,e,R,S,U,V⟩:∃a b c d,a<256/\b<256/\c<256/\d<256/\x=four a b c d/\a=x % 256/\b=x / 256 % 256/\c=x / 65536 % 256/\d=x / 16777216:=
  ⟨x % 256,x / 256 % 256,x / 65536 % 256,x / 16777216,Ω,Ω,Ω,Ω,by unfold four;omega,rfl,rfl,rfl,rfl⟩
 obtain⟨W,X,a3,a4,_⟩:=oA a G;obtain⟨Y,Z,aa,ap,_⟩:=oA b H;obtain⟨ac,ad,ae,aq,_⟩:=oA c J;obtain⟨d1,d2,d3,d4,_⟩:=oA d L;have g1:=Sm G H J L;have M:=Sn W Y ac d1;have af:=Sp X ⟨Z,aa⟩ ⟨ad,ae⟩ ⟨d2,d3⟩;have ag:qR x=c7 a+c7 b+c7 c+c7 d:=by unfold qR;rw[<-R,<-S,<-U,<-V]
 rw[<-e]at g1;have ah:ik 6148914691236517205 x<4294967296:=by rw[g1];unfold four;omega
 have N:iY 3689348814741910323 (ik 6148914691236517205 x)<4294967296:=by rw[g1,M];unfold four;omega
 have A:kL 1085102592571150095 (iY 3689348814741910323 (ik 6148914691236517205 x))=four (c7 a) (c7 b) (c7 c) (c7 d):=by rw[g1,M,af];rfl
 have aj:four (c7 a) (c7 b) (c7 c) (c7 d)<4294967296:=by unfold four;omega
 refine az func70 ?_;have s:∀{t:o5}{cx cy:Bool}{K:x4->Prop}(p q:Nat),p+q<18446744073709551616->ab v8 (aP .add t cx cy (.int .u64 (p:Int)) (.int .u64 (q:Int))) w K=K (.int .u64 ((p+q:Nat):Int)):=λp q h=>by
  rw[aO,m2 Ω Ω];rfl
 have small:∀(p m:Nat),p &&& m<=p:=λp m=>Nat.and_le_left;rw[show(1:Int)=((1:Nat):Int)from rfl,mp Ω,show(6148914691236517205:Int)=((6148914691236517205:Nat):Int)from rfl,u64_and Ω Ω,u64_and Ω Ω,s (x / 2 ^ 1 &&& 6148914691236517205) (x &&& 6148914691236517205) (by exact Nat.lt_of_le_of_lt (Nat.add_le_add (small _ _) (small _ _)) Ω)];obtain⟨y,B⟩:∃y,(x / 2 ^ 1 &&& 6148914691236517205)+(x &&& 6148914691236517205)=y:=⟨_,rfl⟩;rw[B];have B:ik 6148914691236517205 x=y:=B;rw[B]at ah N A;rw[show(2:Int)=((2:Nat):Int)from rfl,mp Ω,show(3689348814741910323:Int)=((3689348814741910323:Nat):Int)from rfl,u64_and Ω Ω,u64_and Ω Ω,s (y / 2 ^ 2 &&& 3689348814741910323) (y &&& 3689348814741910323) (by exact Nat.lt_of_le_of_lt (Nat.add_le_add (small _ _) (small _ _)) Ω)];obtain⟨z,C⟩:∃z,(y / 2 ^ 2 &&& 3689348814741910323)+(y &&& 3689348814741910323)=z:=⟨_,rfl⟩;rw[C];have C:iY 3689348814741910323 y=z:=C;rw[C]at N A;rw[show(4:Int)=((4:Nat):Int)from rfl,mp Ω,s (z / 2 ^ 4) z Ω,show(1085102592571150095:Int)=((1085102592571150095:Nat):Int)from rfl,u64_and Ω Ω];have A:z / 2 ^ 4+z &&& 1085102592571150095=four (c7 a) (c7 b) (c7 c) (c7 d):=A;rw[A];obtain⟨j,E⟩:∃j,four (c7 a) (c7 b) (c7 c) (c7 d)=j:=⟨_,rfl⟩;rw[E]at aj ⊢;unfold four at E;rw[show(8:Int)=((8:Nat):Int)from rfl,mp Ω,s j (j / 2 ^ 8) Ω];obtain⟨r,O⟩:∃r,j+j / 2 ^ 8=r:=⟨_,rfl⟩;rw[O];rw[show(16:Int)=((16:Nat):Int)from rfl,mp Ω,s r (r / 2 ^ 16) Ω];obtain⟨f,P⟩:∃f,r+r / 2 ^ 16=f:=⟨_,rfl⟩;rw[P];rw[show(32:Int)=((32:Nat):Int)from rfl,mp Ω,s f (f / 2 ^ 32) Ω,fC fN.u ai.u,m1 Ω Ω,show(127:Int)=((127:Nat):Int)from rfl,EZ Ω Ω];refine⟨?_,Ext.refl _⟩;rw[ag,show 127=2 ^ 7-1 from rfl,Nat.and_two_pow_sub_one_eq_mod];have al:j / 2 ^ 8=65536*c7 d+256*c7 c+c7 b:=Ω
 have am:r / 2 ^ 16=256*c7 d+(c7 c+c7 d):=Ω
 have Q:f / 2 ^ 32=0:=Ω
 have au:f=128*(131072*c7 d+512*(c7 c+c7 d)+2*(c7 b+c7 c+c7 d))+(c7 a+c7 b+c7 c+c7 d):=Ω
 have an:(f+f / 2 ^ 32) % 2 ^ 7=c7 a+c7 b+c7 c+c7 d:=by rw[Q];clear E O P al am Q;omega
 rw[an]
def je{b n:Nat}(a:mq b n):ak v8 As [j3 b n] w λr I=>(∃q:Int,r=Δ q/\(q=0↔b=0))/\Ext w I:=by
 have e:b<4294967296:=by
  have:=a.2;have:(2:Nat) ^ n<=2 ^ 32:=S4 Ω a.1;omega
 refine az func26 ?_;refine bn λg U s f h=>?_;rw[aJ cc.p 0 h rfl];refine(F6 e).Y ?_;rintro _ V _ ⟨rfl,j⟩;refine⟨⟨_,rfl,?_⟩,f.F j⟩;rw[<-Sq e];omega
def pN(au:List aA)(w:x6)(ad ae:Nat)(A R:ah)(n:aI)(s:am)(a:fH)(r:x4)(I:x6):Prop:=r=Δ (bg n.k s a).2/\cS au w ad ae A R n (bg n.k s a).1 I
section
variable{au:List aA}{w:x6}{ad ae:Nat}{A R:ah}{n:aI}{s:am}{t:aA}{a:fH}
def cS.same(h:bG w ad ae A R n s t)(a:Laid w)(e:¬A 0)(f:eC au t)(j:Ext w I):cS au w ad ae A R n s I:=(dR.start (m:=w.heap.size) (D:=λ_=>False) h a e f j (o4 _)).done (Ext.refl _)
def cS.before{U:x6}{s':am}(a:Ext w U)(h:cS au U ad ae A R n s' I):cS au w ad ae A R n s' I:=by
 obtain⟨h1,e,aN,bt,f,j⟩:=h;exact⟨jo a h1,e,aN,bt,(Grow.W a).F f,j⟩
def yX{j pos u:Int}{f:cm}{x:bo}(h:dp s j pos v=σ (f,u,x)):∃p e u':Nat,j=p/\pos=e/\u=u'/\s.d9[p]?=σ f/\f.live≠0/\f.sc[e]?=σ (u':Int)/\s.d6[u']?=σ x/\v∈aC x/\∀q,f.sc[e]?=σ q->v∈ba s q:=by
 obtain⟨h1,z,A,B,a,C⟩:=mN h;obtain⟨E,r,F,w⟩:=jO C;obtain⟨j,rfl⟩:=V3 h1;obtain⟨pos,rfl⟩:=V3 z;obtain⟨u,rfl⟩:=V3 E;refine⟨j,pos,u,rfl,rfl,rfl,A,B,a,r,w,λu' y=>?_⟩;have a:f.sc[pos]?=σ (u:Int):=a;rw[a]at y;cases y;unfold ba;rw[r];exact w
def F7(hk:a.kind=0)(h:bG w ad ae A R n s t)(y:Laid w)(C:¬A 0)(E:eC au t):ak v8 Iz [Γ ad,Δ a.i,Δ a.pos,Δ a.v,Δ a.c] w (pN au w ad ae A R n s a):=by
 have J:=h.2.2.2.1;refine az func75 ?_;refine(yS h).Y ?_;rintro _ U _ ⟨r,u,e,rfl,ac⟩;rw[bA,bB];have p:bg n.k s a=match dp s a.i a.pos a.v with
  |none=>(s,1)
  |some (f,u,x)=>if dj n.k a.c (eh n.k s f a.pos.toNat a.v)≠0 then(s,dj n.k a.c (eh n.k s f a.pos.toNat a.v))else(gd s a.i.toNat f a.pos.toNat u.toNat x a.v (λg=>cY n.k g a.c) λg=>cr n.k g a.c,0):=by unfold bg;rw[ms hk]<;>cases dp s a.i a.pos a.v<;>rfl
 rcases ac with⟨rfl,f,x,ac⟩|⟨rfl,ac⟩
 rotate_left
 .rw[ac]at p;rw[bK,al];exact⟨λ_=>⟨by rw[p],by rw[p];exact cS.same h y C E r⟩,λh=>ro Φ h⟩
 rw[ac]at p;rw[bK,al];refine⟨λh=>ro rfl h,λ_=>?_⟩;obtain⟨j,pos,u,T,W,X,G,K,hu,L,Y,Z⟩:=yX ac;have aa:=x7 G;simp only[T,W,X,u9]at p ⊢;refine(F3 (j:=j) (pos:=pos) (h.W r) (y.W r) G K Z).Y ?_;rintro _ V _ ⟨rfl,M⟩;refine(vl (h.W (r.F M))).Y ?_;rintro _ ai _ ⟨ab,rfl⟩;have z:=(r.F M).F ab;refine c8 (λI=>cS au w ad ae A R n (bg n.k s a).1 I) ?_ λax N=>?_
 .intro I af;refine⟨?_,af⟩;rw[p];split
  .rfl
  .rename_i q;rw[X5.1 q]
 rw[bl,al];refine⟨λq=>?_,λq=>N _ ?_⟩
 .obtain⟨B,hm⟩:=ll (λh=>h q);rw[dk (cs:=#[.func (.func oQ) #[] #[],.func (.func oR) #[] #[]]) Ψ];have O:∀t∈bX s f.sc pos a.v,a.c<=bq f.aj f.cs t:=λt ag=>((ov _ _ _).1 hm).2 _ (j5.2 ⟨t,ag,rfl⟩);have P:=ij (v:=a.v.toNat) J L;refine(F5 (t:=t) (F1:=oQ) (F2:=oR) (tup:=λg=>cY n.k g a.c) (un:=λg=>cr n.k g a.c) (h.W z) (y.W z) C E G K hu L Y (λtl Q=>?_) ⟨ox P B.1,λ{w A s t}H=>sG H P B⟩).Y ?_
  .have S:=nD (t:=tl) J aa;exact⟨ow S ⟨B.1,O tl Q⟩,λ{w A s t}H=>vm H S B (.inr (O tl Q))⟩
  .rintro _ am _ ah;refine N _ ?_;rw[p,rc (λh=>h q)];exact ah.before z
 .rw[p,ms q];exact cS.same h y C E z
def Sr(hk:a.kind=1)(h:bG w ad ae A R n s t)(C:Laid w)(E:¬A 0)(G:eC au t):ak v8 IA [Γ ad,Δ a.i,Δ a.pos,Δ a.v,Δ a.c] w (pN au w ad ae A R n s a):=by
 have H:=h.2.2.2.1;refine az func76 ?_;refine(yS h).Y ?_;rintro _ U _ ⟨r,u,e,rfl,ac⟩;rw[bA,bB];have p:bg n.k s a=match dp s a.i a.pos a.v with
  |none=>(s,1)
  |some (f,u,x)=>if dj n.k a.c (x.un.getD a.v.toNat 0)≠0 then(s,dj n.k a.c (x.un.getD a.v.toNat 0))else(gd s a.i.toNat f a.pos.toNat u.toNat x a.v (λg=>cr n.k g a.c) λg=>cY n.k g a.c,0):=by unfold bg;rw[rc Ω,ms hk]<;>cases dp s a.i a.pos a.v<;>rfl
 rcases ac with⟨rfl,f,x,ac⟩|⟨rfl,ac⟩
 rotate_left
 .rw[ac]at p;rw[bK,al];exact⟨λ_=>⟨by rw[p],by rw[p];exact cS.same h C E G r⟩,λh=>ro Φ h⟩
 rw[ac]at p;rw[bK,al];refine⟨λh=>ro rfl h,λ_=>?_⟩;obtain⟨j,pos,u,Q,S,T,K,W,hu,y,L,af⟩:=yX ac;have X:=x7 K;simp only[Q,S,T,u9]at p ⊢;refine(pD (i:=(u:Int)) (v:=a.v) (h.W r)).Y ?_;rintro _ V _ ⟨rfl,M⟩;have Y:fl s (u:Int).toNat a.v.toNat=x.un.getD a.v.toNat 0:=by
  unfold fl;rw[u9,y]
 rw[ms (pM H y L),Y,bA,bB];refine(vl (h.W (r.F M))).Y ?_;rintro _ ag _ ⟨Z,rfl⟩;have z:=(r.F M).F Z;refine c8 (λI=>cS au w ad ae A R n (bg n.k s a).1 I) ?_ λax N=>?_
 .intro I aa;refine⟨?_,aa⟩;rw[p];split
  .rfl
  .rename_i q;rw[X5.1 q]
 rw[bl,al];refine⟨λq=>?_,λq=>N _ ?_⟩
 .obtain⟨B,hm⟩:=ll (λh=>h q);rw[dk (cs:=#[.func (.func oR) #[] #[],.func (.func oQ) #[] #[]]) Ψ];have O:=ij (v:=a.v.toNat) H y;refine(F5 (t:=t) (F1:=oR) (F2:=oQ) (tup:=λg=>cr n.k g a.c) (un:=λg=>cY n.k g a.c) (h.W z) (C.W z) E G K W hu y L (λtl ah=>?_) ⟨ow O ⟨B.1,hm⟩,λ{w A s t}J=>vm J O B (.inr hm)⟩).Y ?_
  .have P:=nD (t:=tl) H X;exact⟨ox P B.1,λ{w A s t}J=>sG J P B⟩
  .rintro _ ai _ ab;refine N _ ?_;rw[p,rc (λh=>h q)];exact ab.before z
 .rw[p,ms q];exact cS.same h C E G z
end
def il(s:am)(i:Int):Option bo:=match(if 0<=i then s.d6[i.toNat]? else ν)with
 |some x=>if x.gone=0 then σ x else ν
 |none=>ν
def yY{s:am}{i:Int}{x:bo}(h:il s i=σ x):0<=i/\s.d6[i.toNat]?=σ x/\x.gone=0:=by
 unfold il at h;by_cases a:0<=i
 .rw[ms a]at h;cases e:s.d6[i.toNat]? with
  |none=>rw[e]at h;cases h
  |some y=>
   rw[e]at h;simp only at h;split at h
   .rename_i f;cases h;exact⟨a,rfl,f⟩
   .cases h
 .rw[rc a]at h;cases h
def F8{g:Int->Int}{L:Λ}(h:L[j]?=σ v):ee g un (L.take (j+1))=(ee g un (L.take j)).set v.toNat (g ((ee g un (L.take j)).getD v.toNat 0)):=by
 unfold ee;rw[r9,h,j6,S2];rfl
theorem F9{i:Nat}{v:Int}:∀(L M:Λ)(s:am),gD s i v (L++M)=gD (gD s i v L) i v M
 |[],_,_=>rfl
 |w::L,M,s=>by
  rw[List.cons_append,gD,gD];exact F9 L M _
def Ss{s:am}{i:Nat}{w:Int}{L:Λ}(h:L[j]?=σ w):gD s i v (L.take (j+1))=if w≠v then dP (gD s i v (L.take j)) i w.toNat else gD s i v (L.take j):=by
 rw[r9,h,j6,F9];rfl
def lq(m u:Int):Int:=if m<0\/u<m then u else m
theorem Ga:∀(l:Λ)(m:Int),0<=m->(∀c∈l,0<=c)->l.foldl lq m=l.foldl min m
 |[],_,_,_=>rfl
 |c::l,m,hm,a=>by
  have f:=a c (.head _);have e:lq m c=min m c:=by unfold lq;split<;>omega
  rw[V7,V7,e];exact Ga l _ Ω λc h=>a c (.tail _ h)
def St{x:bo}(h:∀v∈aC x,0<=x.un.getD v.toNat 0):((aC x).map λv=>x.un.getD v.toNat 0).foldl lq (-1)=iW x:=by
 unfold iW;have a:∀c∈(aC x).map (λv=>x.un.getD v.toNat 0),0<=c:=λc e=>by
  obtain⟨v,f,rfl⟩:=j5.1 e;exact h v f
 generalize (aC x).map (λv=>x.un.getD v.toNat 0)=l at a;cases l with
 |nil=>rfl
 |cons c l=>exact Ga l c (a c (.head _)) λc h=>a c (.tail _ h)
section
variable{au:List aA}{w:x6}{ad ae:Nat}{A R:ah}{n:aI}{s:am}{t:aA}{a:fH}
def Gb{i:Int}(h:bG w ad ae A R n s t):ak v8 Jl [Γ ad,Δ i] w λr I=>Ext w I/\r=Δ (if(il s i).isSome=v2 then 0 else 1):=by
 have p:=h.2.2.2.1;have O:=p.d6;refine az func152 ?_;rw[di eF.u];simp only[Y0,a7];refine aY (λr U=>r= .bool (!(il s i).isSome)/\Ext w U) ?_ ?_
 .rintro _ U ⟨rfl,C⟩;rw[cb];exact⟨λq=>⟨C,by rw[rc (by simpa using q)]⟩,λq=>⟨C,by rw[ms (by simpa using q)]⟩⟩
 intro ax E;refine(uZ h).Y ?_;rintro _ V _ ⟨rfl,y⟩;rw[cb];refine⟨λa=>E _ _ ⟨?_,y⟩,λa=>?_⟩
 .rw[U9,sp]at a;have K:il s i=ν:=by
   unfold il;rw[ms a.1];have B:=a.2;unfold dD at B;cases f:s.d6[i.toNat]? with
   |none=>rfl
   |some x=>
    rw[f]at B;simp only;rw[rc λh=>by simp[h]at B]
  rw[K];rfl
 refine(kG (i:=i) (h.W y)).Y ?_;rintro _ P _ ⟨⟨b,m,rfl,G⟩,L⟩;refine(w4).Y ?_;rintro _ Q _ ⟨rfl,M⟩;rw[bl];refine E _ _ ⟨?_,(y.F L).F M⟩;congr 1;by_cases j:0<=i/\i<n.co.length
 .obtain⟨x,f⟩:=aD (l:=s.d6) (i:=i.toNat) Ω;obtain⟨z,H⟩:=aD (l:=n.co) (i:=i.toNat) Ω;have S:=p.ev.2.2 z (x7 H);have W:=(p.var _ x z f H).1;have hm:=(G.2.2 x j.1 f).1;have N:x.gone=0:=by
   rw[rs j.1,Q4]at a;unfold dD at a;rw[f]at a;simpa using a
  have e:il s i=σ x:=by
   unfold il;rw[ms j.1,f];simp only;rw[ms N]
  rw[e,s2 Ω];rfl
 .obtain⟨rfl,rfl⟩:=G.2.1 j;have e:il s i=ν:=by
   unfold il;by_cases J:0<=i
   .rw[ms J,Y5 Ω]
   .rw[rc J]
  rw[e];rfl
def Gc{u:Nat}{x:bo}{F1 F2:Q6}{g z:Int->Int}(h:bG w ad ae A R n s t)(aB:Laid w)(a2:¬A 0)(a6:eC au t)(a:s.d6[u]?=σ x)(h1:∀v∈aC x,(0<=g (x.un.getD v.toNat 0)/\g (x.un.getD v.toNat 0)<=n.k)/\∀{w:x6}{A:ah}{s:am}{t:aA},bG w ad ae A R n s t->ak v8 F1 [Γ ad,Δ (x.un.getD v.toNat 0),Δ c] w λr I=>r=Δ (g (x.un.getD v.toNat 0))/\Ext w I)(aD:(0<=z s.zero/\z s.zero<=n.k)/\∀{w:x6}{A:ah}{s':am}{t:aA},bG w ad ae A R n s' t->ak v8 F2 [Γ ad,Δ s.zero,Δ c] w λr I=>r=Δ (z s.zero)/\Ext w I):
  ak v8 Jm [Γ ad,Δ (u:Int),Δ c,.func (.func F1) #[] #[],.func (.func F2) #[] #[]] w λ_ I=>cS au w ad ae A R n (iB s u x g z) I:=by
 have a7:=h.2.2.2.1;have W:=(x5.1 a).1;refine jy func153 ?_;refine bn λg1 U bw aE f=>?_;refine bn λa8 V bx X q=>?_;refine bn λbz bC bD J C=>?_;refine bn λbE B bF K L=>?_;have f:ag B g1 eF [Γ ad]:=((ag.W f X).W J).W K;have q:ag B a8 ai [Δ (u:Int)]:=(ag.W q J).W K;have C:=ag.W C K;have L:=L;have M:=((aE.F X).F J).F K;have bH:=aE.size;have bI:=X.size;have z3:=J.size;have bJ:=M.size;have N:=f.lt;have aG:=q.lt;have aH:=C.lt;have ba:=L.lt;rw[aF Ψ (f.cell rfl),aF Ψ (q.cell rfl)];refine(kG (i:=(u:Int)) (h.W M)).Y ?_;rintro _ bK _ ⟨⟨b,bL,rfl,aI⟩,aJ⟩;refine(n4).Y ?_;rintro _ Y _ ⟨bb,aK,rfl,bM,aL⟩;have aM:=mJ aI Ω (show s.d6[(u:Int).toNat]?=σ x by rw[u9];exact a);have E:=aJ.F bb;have z5:=aJ.size;have z46:=E.size;have bN:=aL.lt;have aO:=sz x;have bc:eI s u x (ee g x.un ((aC x).take 0))=s:=by
  unfold eI;show{s with d6:=s.d6.set u x}=s;have:s.d6.set u x=s.d6:=by
   apply X0;intro i;by_cases e:u=i
   .subst e;rw[l9 W,a]
   .rw[Z6 e]
  rw[this]
 refine lD.old ⟨_,v6,kq,#[Γ aK],_,_,_,_,λj I=>dR au w ad ae A R n w.heap.size (λr=>Y.heap.size<=r) (eI s u x (ee g x.un ((aC x).take j))) I/\af (λr=>r<w.heap.size\/Y.heap.size<=r) Y I,λ_ _ _=>False,rfl,(n3 (g:=aK) aI.1).s,?_,
  λ_ _ a h=>⟨h.1.W a,h.2.W a⟩,λ_ _ _ a h=>⟨h.1.W a,h.2.F (a.aa _)⟩,λ_ _ _ _ _ h=>h,⟨aL,aB.W (M.F E)⟩,?_,?_,?_,λ_ _ h=>h.elim,λ_ _ _ h=>h.elim⟩
 .rintro _ _ _ _ ⟨_,_,_,_,rfl⟩;rfl
 .refine⟨?_,af.refl _ _⟩;rw[bc];exact dR.start h aB a2 a6 (M.F E) (o4 _)
 .rintro _ j _ bd ⟨be,bO⟩ ⟨bP,rfl,v,bf,bg⟩ ⟨O,G⟩;cases bg;intro bQ P _ _;have Z:(aC x)[j]?=σ (v:Int):=by rw[<-aM,u4,bf];rfl
  have aP:=x7 Z;have aX:∀{H:x6}{g:Nat}{e:o5}{cs:List x4},Ext bd H->w.heap.size<=g->g<B.heap.size->ag B g e cs->ag H g e cs:=λa aQ aR ab=>((ab.W E).aa G Ω).W a;obtain⟨bR,bS,ac,aS,aj⟩:=O.open;have aT:ew n (u:Int) (v:Int):=pM a7 a aP;have bh:∀y∈aC x,0<=y/\y<x.un.length:=λy al=>(e1.1 al).1;have an:=vf (g:=g) ((aC x).take j) x.un (v:Int) (aO.sublist (List.take_sublist _ _)) (λy al=>bh y (T1 al)) Ω;rw[rc (yQ aO Z)]at an;have bi:fl (eI s u x (ee g x.un ((aC x).take j))) (u:Int).toNat (v:Int).toNat=x.un.getD (v:Int).toNat 0:=by
   unfold fl eI;rw[u9,l9 W];exact an
  rw[aF Ψ ((aX P Ω N f).cell rfl),aF Ψ ((aX P Ω aG q).cell rfl)];refine(pD (ac.W P)).Y ?_;rintro _ bT _ ⟨rfl,bj⟩;rw[ms aT,bi,bA,bB];intro bk bl _ _;have p:=(P.F bj).F bl;rw[aF Ψ ((aX p Ω N f).cell rfl),aF Ψ ((aX p Ω aG q).cell rfl),
   aF Ψ ((aX p Ω ba L).cell rfl),aF Ψ ((aX p Ω N f).cell rfl),aF Ψ ((aX p Ω aH C).cell rfl)]
  show ak v8 F1 [Γ ad,Δ (x.un.getD (v:Int).toNat 0),Δ c] bk _;obtain⟨bm,bp⟩:=h1 v aP;refine(bp (ac.W p)).Y ?_;rintro _ bU _ ⟨rfl,aU⟩;have ao:=p.F aU;refine⟨.inl aU,(Fc (ac.W ao) aS.room).Y ?_⟩;rintro r bV _ ⟨_,_,ap⟩;obtain⟨_,aq,aN,bq,br,av,Q⟩:=ap aT bm;have e:li (eI s u x (ee g x.un ((aC x).take j))) (u:Int).toNat (v:Int).toNat (g (x.un.getD (v:Int).toNat 0))=eI s u x (ee g x.un ((aC x).take (j+1))):=by
   rw[F8 Z,an];unfold li eI;rw[u9,l9 W];simp only[List.set_set]
  rw[e]at Q;have bW:=G.size;obtain⟨aV,aW,bX⟩:=aj (jo ao aq) ((Grow.W ao).F av) Q aS.set (λr h=>h) λr aQ aR=>Ω
  exact⟨⟨be.aa aW Ω,aV.2.1.1⟩,⟨aV,G.F aW⟩,λh=>by cases h⟩
 .rintro k bs rfl ⟨O,G⟩;rw[b9 (by rw[<-aM,r8];exact o4 _)]at O;obtain⟨bY,bZ,aw,aY,aj⟩:=O.open;have aX:∀{H:x6}{g:Nat}{e:o5}{cs:List x4},Ext bs H->w.heap.size<=g->g<B.heap.size->ag B g e cs->ag H g e cs:=λa aQ aR ab=>((ab.W E).aa G Ω).W a;intro b0 S _ _;have ax:=aX S Ω N f;rw[aF Ψ (ax.cell rfl),aF Ψ (ax.cell rfl),aF Ψ (ax.cell rfl),aF Ψ ((aX S Ω aH C).cell rfl)];refine(sk (aw.W S)).Y ?_;rintro _ bt _ ⟨rfl,ay⟩;have aZ:=S.F ay;refine⟨.inl ay,?_⟩;show ak v8 F2 [Γ ad,Δ s.zero,Δ c] bt _;refine(aD.2 (aw.W aZ)).Y ?_;rintro _ b1 _ ⟨rfl,a1⟩;have az:=aZ.F a1;refine⟨.inl (ay.F a1),(QJ (aw.W az) aY.room).Y ?_⟩;rintro r b2 _ ⟨_,ap⟩;obtain⟨_,aq,aN,bq,br,av,Q⟩:=ap aD.1;intro b3 bu _;exact(aj (jo az aq) ((Grow.W az).F av) Q aY.set (λ_ _=>trivial) λ_ _ _=>trivial).1.done bu
end
section
variable{w:x6}{ad ae aq:Nat}{A R:ah}{A9:Nat->ah}{aH:ah}{n:aI}{s u:am}{t:aA}{h:List aA}{cs:List x4}{a:fH}
def Su(hk:a.kind<2):bg n.k u a=match dp u a.i a.pos a.v with
  |none=>(u,1)
  |some (f,v,x)=>if dj n.k a.c (if a.kind=1 then x.un.getD a.v.toNat 0 else eh n.k u f a.pos.toNat a.v)≠0 then(u,dj n.k a.c (if a.kind=1 then x.un.getD a.v.toNat 0 else eh n.k u f a.pos.toNat a.v))
   else(gd u a.i.toNat f a.pos.toNat v.toNat x a.v (λg=>if a.kind=0 then cY n.k g a.c else cr n.k g a.c) λg=>if a.kind=0 then cr n.k g a.c else cY n.k g a.c,0):=by
 unfold bg;by_cases e:a.kind=0
 .rw[ms e];simp only[e];cases dp u a.i a.pos a.v<;>rfl
 .have h1:a.kind=1:=Ω
  rw[rc e,ms h1];simp only[h1];cases dp u a.i a.pos a.v<;>rfl
def getD_some{i:Nat}(h:i<l.length):l[i]?=σ (l.getD i 0):=by
 rw[u5,x8 h];rfl
def Sv(p:cd w ad ae aq A R A9 aH n s u t h cs)(G:bc n.k n.co u)(bQ:b4 u)(hk:a.kind<2):ak v8 ws [Γ aq,Δ (a.kind:Int),Δ a.i,Δ a.pos,Δ a.v,Δ a.c] w λr I=>r=Δ (bg n.k u a).2/\ct w ad ae aq A R A9 aH n s t h (bg n.k u a).1 I:=by
 have C:=Su (n:=n) (u:=u) hk;have c6:=G.d6;have bR:=G.fk;refine az func74 ?_;have bS:cs[0]?=σ (Δ n.k):=by obtain⟨_,_,_,_,_,_,rfl,_⟩:=p.pJ;rfl
 rw[aL aE.p 0 p.box bS,aT,al];refine⟨λ_=>?_,λh=>Ω⟩;rw[b0];refine p.look.load λdv bT=>?_;refine(R9 bT G bQ).Y ?_;rintro _ U _ ⟨aC,rfl⟩;cases ac:dp u a.i a.pos a.v with
 |none=>
  rw[ac]at C;simp only;rw[bA,bB,bL,W6,bO];exact⟨by rw[C],by rw[C];exact ct.same p aC⟩
 |some q=>
 obtain⟨f,P,x⟩:=q;rw[ac]at C;simp only;rw[bA,bB,bL,X3,a7];obtain⟨j,pos,P,bV,bW,bZ,Q,c7,hu,M,b1,aS⟩:=yX ac;have aI:=x7 Q;simp only[bV,bW,bZ,u9]at C ⊢;have b2:=(x5.1 Q).1;have bn:=(x5.1 M).1;have b5:=(x5.1 hu).1;obtain⟨b6,c9⟩:=kH G aI;have b7:=FP G aI aS;have b9:=(e1.1 b1).1;obtain⟨v,S⟩:=V3 b9.1;have bo:=ij (v:=a.v.toNat) G M;have aJ:=p.W aC;have bp:∀{V:x6}{e6:am}{br:List x4}{bs:Nat->ah}{f2:cm},cd V ad ae aq A R bs aH n s e6 t h br->e6.d9[j]?=σ f2->∃W cap Y aW y,br[6]?=σ (.slice (σ ⟨W,0,ν⟩) e6.d9.length cap)/\j<e6.d9.length/\V.cell? ⟨W,0+j*4+0+0,ν⟩=σ Y/\V.cell? ⟨W,0+j*4+0+2,ν⟩=σ y/\aM .i64 V Y f2.sc/\aM .i64 V y f2.cs/\
   ∀{I:x6}{m:Nat}{c:Int}{K:Unit->x6->Prop},Ext V I->m<f2.cs.length->(∀bt,ct V ad ae aq A R bs aH n s t h (ed e6 j f2 (f2.cs.set m c)) bt->K () bt)->ab v8 (b8 aw y (Δ (m:Int))) I λa=>aG v8 (j0 av a (Δ c)) I K:=λca aK=>by
  obtain⟨W,cap,Y,aW,y,cc,bu,ce,cf,X⟩:=FV ca aK;exact⟨W,cap,Y,aW,y,cc,(x5.1 aK).1,by rw[X6];exact bu 0 _ rfl,by rw[X6];exact bu 2 _ rfl,ce,cf,X⟩
 obtain⟨W,da,Y,aW,db,cg,ch,ci,_,cj,_,_⟩:=bp aJ Q;rw[aL aE.p 6 aJ.box cg,eT dh.u cC.i ch λ_=>rfl,aU cC.p rfl,aU a6.p rfl,aF Ψ ci,bh an.u ai.i Ψ cj hu];generalize bw:(if a.kind=1 then x.un.getD a.v.toNat 0 else eh n.k u f pos a.v)=most at C;refine aY (λr V=>r=Δ most/\Ext w V) ?_ λax bx=>?_
 rotate_left
 .rw[bl,al];refine⟨λh1=>?_,λh1=>bx _ _ ⟨by rw[<-bw,rc Ω],aC⟩⟩;have h1:a.kind=1:=Ω
  obtain⟨aX,bz,y,aZ,a2,aN,_⟩:=sI aJ M;rw[aL aE.p 5 aJ.box aZ,eT cW.u aw.i bn λ_=>rfl,aF Ψ (by rw[X6,T0];exact a2),S,bh aw.u av.i Ψ aN (getD_some Ω)];refine bx _ _ ⟨?_,aC⟩;rw[<-bw,ms h1,S,u9]
 rintro _ V ⟨rfl,ck⟩;refine Bn.Y ?_;rintro _ dc _ ⟨rfl,cl⟩;have Z:=ck.F cl;have bD:cG a.c n.k↔0<=a.c/\a.c<=n.k:=⟨λh=>h.2,λaK=>⟨bR,aK⟩⟩;rw[bL,cb];refine⟨λag=>?_,λag=>?_⟩
 .have cn:¬cG a.c n.k:=by simpa using ag
  have E:dj n.k a.c most=3:=by unfold dj;rw[ms λh=>cn (bD.2 h)]
  rw[ms (by rw[E];decide),E]at C;exact⟨by rw[C],by rw[C];exact ct.same p Z⟩
 have bE:=bD.1 (show cG a.c n.k by simpa using ag);rw[bP,al];refine⟨λcp=>?_,λcq=>?_⟩
 .have E:dj n.k a.c most=7:=by unfold dj;rw[rc (λh=>h bE),ms cp]
  rw[ms (by rw[E];decide),E]at C;exact⟨by rw[C],by rw[C];exact ct.same p Z⟩
 have E:dj n.k a.c most=0:=by unfold dj;rw[rc (λh=>h bE),rc cq]
 rw[rc (λh=>h E)]at C;have cu:=p.W Z;rw[b0];refine cu.look.load λdd cw=>?_;refine(yU cw G Q b5 aS).Y ?_;rintro aV a8 _ ⟨cz,ba,cA⟩;have bG:=Z.F cz;rw[a1 an.u ba];have bH:(kj u f pos a.v).length=(bX u f.sc pos a.v).length:=by unfold kj;rw[r8]
 rw[bH];obtain⟨tup,bb⟩:∃tup:Int->Int,tup=λg=>if a.kind=0 then cY n.k g a.c else cr n.k g a.c:=⟨_,rfl⟩;obtain⟨un,bd⟩:∃un:Int->Int,un=λg=>if a.kind=0 then cr n.k g a.c else cY n.k g a.c:=⟨_,rfl⟩;rw[<-bb,<-bd]at C;have cB:=p.olds.W bG;have de:=p.box.lt;have df:=Z.size;have cD:∀{I:x6},af (λr=>(∃q,A9 q r/\r<w.heap.size)\/r=aq) a8 I->aM .i64 I aV (kj u f pos a.v):=λcE=>jh ba cE λr E b n c e ag=>by
  have:=cA r ⟨b,n,c,e,ag⟩;rcases E with⟨q,E⟩|E
  .have:=E.2;omega
  .omega
 refine bY.range (bX u f.sc pos a.v).length (λq I=>ct a8 ad ae aq A R (λq r=>A9 q r/\r<w.heap.size) aH n s t h (ed u j f (dX tup ((bX u f.sc pos a.v).take q) f.aj f.cs)) I) (by rw[<-bH];exact ba.le) ?_ ?_ ?_
 .rw[List.take_zero,F4 G Q];exact ct.same cB (Ext.refl _)
 .rintro q ao cF cH aP cI;obtain⟨tl,be⟩:=aD (l:=bX u f.sc pos a.v) cH;obtain⟨m,hm⟩:=qQ G aI aS (x7 be);have cJ:(kj u f pos a.v)[q]?=σ (m:Int):=by
   unfold kj;rw[u4,be];unfold nE;rw[Y3,hm];rfl
  obtain⟨bI,bJ⟩:=FQ G Q b7 be hm;have cK:=(x5.1 (ns b6 hm)).1;have dg:m<f.cs.length:=by rw[u9]at cK;omega
  obtain⟨X,cL,bK,O,bf⟩:=id aP;obtain⟨bF,bM⟩:∃bF,bF=dX tup ((bX u f.sc pos a.v).take q) f.aj f.cs:=⟨_,rfl⟩;have di:bF.length=f.cs.length:=by rw[bM,pE _ _ _ _ Ω]
  rw[<-bM]at O bI bJ;have bN:(ed u j f bF).d9[j]?=σ {f with cs:=bF}:=l9 b2;obtain⟨aQ,cM,dk,dl,cN,cO,cP,_,bi,_,cQ,cR⟩:=bp O bN;have cS:bF[m]?=σ (bq f.aj f.cs tl):=by
   rw[getD_some Ω,<-bI];unfold bq;rw[hm];simp
  have dm:=nD (t:=tl) G aI;have dn:bK[0]?=σ (Δ n.k):=by obtain⟨_,_,_,_,_,_,rfl,_⟩:=O.pJ;rfl
  have cT:=cD X;refine bC Ω ?_;refine c8 (λH=>ct a8 ad ae aq A R (λq r=>A9 q r/\r<w.heap.size) aH n s t h (ed u j f (dX tup ((bX u f.sc pos a.v).take (q+1)) f.aj f.cs)) H) (λH N=>by rw[aO];exact cI _ N) λcU cV=>?_;have ap:∀{J:x6},Ext ao J->ab v8 (b8 aw cN (Δ (m:Int))) J λa'=>aG v8 (j0 av a' (Δ (tup (bq f.aj f.cs tl)))) J λ(_:Unit)H=>cU H:=λbj=>by
   refine cR bj (by show m<bF.length;omega) λH N=>cV _ (ct.comp X bf ?_);have cX:ed (ed u j f bF) j {f with cs:=bF} (bF.set m (tup (bq f.aj f.cs tl)))=lj (ed u j f bF) j m (tup (bq f.aj f.cs tl)):=by unfold lj;rw[bN];rfl
   rw[cX,bJ]at N;exact N
  have row:∀{z:x6}{K:x4->x4->x4->x4->x4->x4->Prop},Ext ao z->K (Γ aq) (.pointer (σ ⟨aq,0+6,ν⟩)) (.slice (σ ⟨aQ,0,ν⟩) (ed u j f bF).d9.length cM) (.pointer (σ ⟨aQ,0+j*4,ν⟩)) (.pointer (σ ⟨aQ,0+j*4+0,ν⟩)) (.pointer (σ ⟨aQ,0+j*4+0+2,ν⟩))->
    ab v8 (bU (Γ aq)) z λau=>ab v8 (u7 aE au 6) z λay=>ab v8 (u6 dh ay) z λaA=>ab v8 (b8 dh aA (Δ (j:Int))) z λaB=>ab v8 (u7 cC aB 0) z λaR=>ab v8 (u7 a6 aR 2) z λcZ=>K au ay aA aB aR cZ:=λM bk=>by
   rw[aL aE.p 6 (O.box.W M) cO,eT dh.u cC.i cP λ_=>rfl,aU cC.p rfl,aU a6.p rfl];exact bk
  rw[bh an.u ai.i Ψ cT cJ];refine row (Ext.refl _) ?_;rw[aF Ψ bi,bh aw.u av.i Ψ cQ cS,bl,al];refine⟨λbm=>?_,λbm=>?_⟩
  .intro z B _ _;refine row B ?_;rw[aF Ψ (jX B bi)];refine(vn Ω Ω).Y ?_;rintro _ J _ ⟨rfl,L⟩;refine⟨.inl L,?_⟩;have:=ap (B.F L);rw[bb]at this;simp only[ms (show a.kind=0 by omega)]at this;exact this
  .intro z B _ _;refine row B ?_;rw[aF Ψ (jX B bi)];refine(nt Ω Ω).Y ?_;rintro _ J _ ⟨rfl,L⟩;refine⟨.inl L,?_⟩;have:=ap (B.F L);rw[bb]at this;simp only[rc (show¬a.kind=0 by omega)]at this;exact this
 .rintro ao cF aP;rw[o9]at aP;refine b3 Ω ?_;obtain⟨X,cL,bK,O,bf⟩:=id aP;have c0:(ed u j f (dX tup (bX u f.sc pos a.v) f.aj f.cs)).d6[P]?=σ x:=M;obtain⟨aX,bz,y,aZ,a2,aN,c1⟩:=sI O c0;refine c8 (λH=>ct w ad ae aq A R A9 aH n s t h (gd u j f pos P x a.v tup un) H) (λH N=>⟨by rw[C],by rw[C];exact N⟩) λc2 c3=>?_;have c4:P<(ed u j f (dX tup (bX u f.sc pos a.v) f.aj f.cs)).d6.length:=bn;have row:∀{z:x6}{K:x4->x4->x4->x4->x4->Prop},Ext ao z->K (Γ aq) (.pointer (σ ⟨aq,0+5,ν⟩)) (.slice (σ ⟨aX,0,ν⟩) (ed u j f (dX tup (bX u f.sc pos a.v) f.aj f.cs)).d6.length bz) (.pointer (σ ⟨aX,0+P*1,ν⟩)) y->
    ab v8 (bU (Γ aq)) z λau=>ab v8 (u7 aE au 5) z λay=>ab v8 (u6 cW ay) z λaA=>ab v8 (b8 cW aA (Δ (P:Int))) z λaB=>ab v8 (u6 aw aB) z λaR=>K au ay aA aB aR:=λM bk=>by
   rw[aL aE.p 5 (O.box.W M) aZ,eT cW.u aw.i c4 λ_=>rfl,aF Ψ (by rw[X6,T0];exact jX M a2)];exact bk
  have ap:∀{J:x6},Ext ao J->ab v8 (b8 aw y (Δ (v:Int))) J λa'=>aG v8 (j0 av a' (Δ (un (x.un.getD v 0)))) J λ(_:Unit)H=>c2 H:=λbj=>by
   refine c1 bj Ω λH N=>c3 _ ?_;have c5:=ct.comp X bf N.yV;have:=ct.comp (bG.aa _) (λq r E=>.inl ⟨q,E.1⟩) c5;unfold gd;rw[show a.v.toNat=v by omega];exact this
  rw[bl,al];refine⟨λbm=>?_,λbm=>?_⟩
  .intro z B _ _;refine row B (row B ?_);rw[S,bh aw.u av.i Ψ (aN.W B) (getD_some Ω)];rw[S,u9]at bo;refine(nt Ω Ω).Y ?_;rintro _ J _ ⟨rfl,L⟩;refine⟨.inl L,?_⟩;have:=ap (B.F L);rw[bd]at this;simp only[ms (show a.kind=0 by omega)]at this;exact this
  .intro z B _ _;refine row B (row B ?_);rw[S,bh aw.u av.i Ψ (aN.W B) (getD_some Ω)];rw[S,u9]at bo;refine(vn Ω Ω).Y ?_;rintro _ J _ ⟨rfl,L⟩;refine⟨.inl L,?_⟩;have:=ap (B.F L);rw[bd]at this;simp only[rc (show¬a.kind=0 by omega)]at this;exact this
end
section
variable{au:List aA}{w:x6}{ad ae:Nat}{A R:ah}{n:aI}{s:am}{t:aA}{a:fH}
def cS.step{U V:x6}{aN:ah}{s':am}{bt:aA}(h:bG w ad ae A R n s t)(j:Laid w)(f:¬A 0)(a:Ext w U)(p:af (eH U) U V)(e:Grow A U aN V)(q:bG V ad ae aN R n s' bt)(r:eC au bt):cS au w ad ae A R n s' V:=by
 refine⟨jo a p,iH e.1 f (j.W a),aN,bt,(Grow.W a).F e,q,r,λx=>(e.2.1 0 x).elim f λy=>?_⟩;obtain⟨z,B,C,E,⟨h1,_⟩,_⟩:=h.1;have:=h.lt (.inl h1);have:=a.size;omega
def yZ(hk:a.kind=2):bg n.k s a=match il s a.i with
  |none=>(s,1)
  |some x=>if dj n.k a.c (iW x)≠0 then(s,dj n.k a.c (iW x))else(iB s a.i.toNat x (λg=>cY n.k g a.c) λg=>cr n.k g a.c,0):=by
 unfold bg il;rw[rc Ω,rc Ω,ms hk];cases (if 0<=a.i then s.d6[a.i.toNat]? else ν)with
 |none=>rfl
 |some x=>
  simp only;by_cases e:x.gone=0
  .rw[rc Ω,ms e]
  .rw[ms e,rc e]
def y0(hk:a.kind=3):bg n.k s a=match il s a.i with
  |none=>(s,1)
  |some x=>if dj n.k a.c (if aC x=[]then-1 else s.zero)≠0 then(s,dj n.k a.c (if aC x=[]then-1 else s.zero))else(iB s a.i.toNat x (λg=>cr n.k g a.c) λg=>cY n.k g a.c,0):=by
 unfold bg il;rw[rc Ω,rc Ω,rc Ω,ms hk];cases (if 0<=a.i then s.d6[a.i.toNat]? else ν)with
 |none=>rfl
 |some x=>
  simp only;by_cases e:x.gone=0
  .rw[rc Ω,ms e]
  .rw[ms e,rc e]
def Gd(hk:a.kind=2)(h:bG w ad ae A R n s t)(M:Laid w)(Y:¬A 0)(Z:eC au t):ak v8 IB [Γ ad,Δ a.i,Δ a.c] w (pN au w ad ae A R n s a):=by
 have E:=h.2.2.2.1;have f:=yZ (n:=n) (s:=s) hk;refine jy func77 ?_;refine bn λg1 U bz az G=>?_;refine bn λaA V bC ab H=>?_;have G:=ag.W G ab;have H:=H;have ac:=az.F ab;have bD:=az.size;have bF:=ab.size;have bH:=G.lt;have bI:=H.lt;rw[aF Ψ (G.cell rfl),aF Ψ (H.cell rfl)];refine(Gb (h.W ac)).Y ?_;rintro _ bJ _ ⟨ah,rfl⟩;have a1:=ac.F ah;have z3:=ah.size;cases B:il s a.i with
 |none=>
  rw[B]at f;rw[rc Ξ,bK,al];refine⟨λ_=>?_,λh=>ro Φ h⟩;intro a2 a6 _;exact⟨by rw[f],by rw[f];exact cS.same h M Y Z (a1.F a6)⟩
 |some x=>
 rw[B]at f;simp only at f;obtain⟨aB,e,bL⟩:=yY B;obtain⟨u,hu⟩:=V3 aB;rw[hu,u9]at e;rw[hu,u9]at f;rw[ms (by rfl),bK,al];refine⟨λh=>ro rfl h,λ_=>?_⟩;refine bE av.i λaD bM bN aE aG=>?_;refine bu av.i rfl rfl aG (by simp[x4.cells]) λaH aj bO N=>?_;have N:=N;have z5:=aE.size;have bP:=aG.lt;have am:=ah.F aE;have an:ag aH g1 eF [Γ ad]:=(G.W am).aa aj Ω;have ao:ag aH aA ai [Δ a.i]:=(H.W am).aa aj Ω;have O:=(ac.F am).then aj (by rintro r aI rfl;omega);rw[aF Ψ (an.cell rfl),aF Ψ (ao.cell rfl)];refine(kG (i:=a.i) (h.W O)).Y ?_;rintro _ bQ _ ⟨⟨b,bR,rfl,aJ⟩,aK⟩;refine(n4).Y ?_;rintro _ a7 _ ⟨a8,aL,rfl,bS,aM⟩;have aO:=mJ aJ aB (show s.d6[a.i.toNat]?=σ x by rw[hu,u9];exact e);have p:=aK.F a8;have bT:=aK.size;have bU:=aM.lt;have bV:=N.lt;have aP:∀j (v:Nat),(aC x)[j]?=σ (v:Int)->(((aC x).take (j+1)).map λv=>x.un.getD v.toNat 0).foldl lq (-1)=lq ((((aC x).take j).map λv=>x.un.getD v.toNat 0).foldl lq (-1)) (x.un.getD v 0):=λj v aQ=>by
  rw[r9,aQ,j6,Z4,S2];rfl
 refine lD.old ⟨_,v6,kq,#[Γ aL],_,_,_,_,λj I=>af (λr=>r=aD) a7 I/\ag I aD av [Δ ((((aC x).take j).map λv=>x.un.getD v.toNat 0).foldl lq (-1))],λ_ _ _=>False,rfl,(n3 (g:=aL) aJ.1).s,?_,
  λ_ _ e h=>⟨h.1.W e,h.2.W e⟩,λ_ _ _ e h=>⟨h.1.F (e.aa _),h.2.W e⟩,λ_ _ _ _ _ h=>h,⟨aM,M.W (O.F p)⟩,⟨af.refl _ _,N.W p⟩,?_,?_,λ_ _ h=>h.elim,λ_ _ _ h=>h.elim⟩
 .rintro _ _ _ _ ⟨_,_,_,_,rfl⟩;rfl
 .rintro _ j _ bW ⟨aR,aS⟩ ⟨aQ,rfl,v,ba,bb⟩ ⟨y,P⟩;cases bb;intro bX aU _ _;have ap:(aC x)[j]?=σ (v:Int):=by rw[<-aO,u4,ba];rfl
  have bc:=pM E e (x7 ap);have aq:=y.F (aU.aa _);have bd:=(O.F p).then aq (by rintro r aI rfl;omega);rw[aF Ψ (((an.W p).aa aq Ω).cell rfl),aF Ψ (((ao.W p).aa aq Ω).cell rfl)];refine(pD (h.W bd)).Y ?_;rintro _ be _ ⟨rfl,bf⟩;have bh:fl s a.i.toNat (v:Int).toNat=x.un.getD v 0:=by
   unfold fl;rw[hu,u9,e];rfl
  rw[ms (by rw[hu];exact bc),bh,bA,bB];have J:=aU.F bf;have K:=P.W J;refine aY (λr bi=>(r= .bool (decide ((((aC x).take j).map λv=>x.un.getD v.toNat 0).foldl lq (-1)<0\/x.un.getD v 0<(((aC x).take j).map λv=>x.un.getD v.toNat 0).foldl lq (-1))))/\bi=be) ?_ λax L=>?_
  .rintro _ _ ⟨rfl,rfl⟩;rw[al];refine⟨λQ=>?_,λS=>?_⟩
   .refine bu av.i rfl rfl K Ξ λbY bj bZ bk=>?_;have q:=(J.aa _).F bj;refine⟨⟨aR.aa q Ω,iH q Ω aS⟩,⟨y.F q,?_⟩,λh=>by cases h⟩;rw[aP j v ap];unfold lq at Q ⊢;rw[ms Q];exact bk
   .refine⟨⟨aR.W J,aS.W J⟩,⟨y.F (J.aa _),?_⟩,λh=>by cases h⟩;rw[aP j v ap];unfold lq at S K ⊢;rw[rc S];exact K
  rw[aF Ψ (K.cell rfl),aT,al];refine⟨λQ=>L _ _ ⟨by rw[rs (Or.inl Q)],rfl⟩,λS=>?_⟩;rw[aF Ψ (K.cell rfl),aT];refine L _ _ ⟨?_,rfl⟩;congr 1;exact decide_eq_decide.2 ⟨.inr,λh=>h.resolve_left S⟩
 .rintro k aV rfl ⟨y,P⟩;rw[b9 (by rw[<-aO,r8];exact o4 _),St λv _=>(ij E e).1]at P;have aW:=(O.F p).then y (by rintro r aI rfl;omega);have aX:ag aV g1 eF [Γ ad]:=(an.W p).aa y Ω;have bm:ag aV aA ai [Δ a.i]:=(ao.W p).aa y Ω;rw[aF Ψ (aX.cell rfl),aF Ψ (P.cell rfl)];refine(vl (h.W aW)).Y ?_;rintro _ b0 _ ⟨aw,rfl⟩;have W:=aW.F aw;refine c8 (λI=>cS au w ad ae A R n (bg n.k s a).1 I) ?_ λax L=>?_
  .intro I bo b1 X _;obtain⟨bp,bq,aN,bt,br,bs,bw⟩:=bo;refine⟨?_,bp.F (X.aa _),bq.W X,aN,bt,br.F (Grow.W X),bs.W X,bw⟩;rw[f];split
   .rfl
   .rename_i C;rw[X5.1 C]
  rw[bl,al];refine⟨λC=>?_,λC=>L _ ?_⟩
  .obtain⟨q,hm⟩:=ll (λh=>h C);rw[aF Ψ ((aX.W aw).cell rfl),aF Ψ ((bm.W aw).Qz rfl),hu];refine(Gc (t:=t) (u:=u) (F1:=oQ) (F2:=oR) (g:=λg=>cY n.k g a.c) (z:=λg=>cr n.k g a.c) (h.W W) (M.W W) Y Z e (λv B=>?_) ⟨ox E.zero q.1,λ{w A s' t}ay=>sG ay E.zero q⟩).Y ?_
   .have aZ:=ij (v:=v.toNat) E e;exact⟨ow aZ ⟨q.1,yH B hm⟩,λ{w A s t}ay=>vm ay aZ q (.inr (yH B hm))⟩
   .rintro _ a2 _ bx;refine L _ ?_;rw[f,rc (λh=>h C)];exact bx.before W
  .rw[f,ms C];exact cS.same h M Y Z W
def Sw{b m:Nat}{i:Int}{x:bo}(p:u0 s n i b m)(hi:0<=i)(q:s.d6[i.toNat]?=σ x):b=0↔aC x=[]:=by
 have a:=mJ p hi q;constructor
 .rintro rfl;rw[<-a];have:gP 0 m=[]:=List.eq_nil_iff_forall_not_mem.2 λv e=>by
   have:=(w2.1 e).2;simp at this
  rw[this];rfl
 .intro he;rw[he]at a;have e:=List.map_eq_nil_iff.1 a;refine Nat.eq_of_testBit_eq λj=>?_;rw[Nat.zero_testBit];cases f:b.testBit j with
  |false=>rfl
  |true=>
   have r:j<m:=by
    rcases Nat.lt_or_ge j m with h|h
    .exact h
    .have:=Nat.testBit_lt_two_pow (S3 p.1.2 (S4 Ω h));rw[this]at f;cases f
   have:j∈gP b m:=w2.2 ⟨r,f⟩;rw[e]at this;cases this
def Sx(hk:a.kind=3)(h:bG w ad ae A R n s t)(G:Laid w)(H:¬A 0)(J:eC au t):ak v8 IC [Γ ad,Δ a.i,Δ a.c] w (pN au w ad ae A R n s a):=by
 have K:=h.2.2.2.1;have f:=y0 (n:=n) (s:=s) hk;refine az func78 ?_;refine(Gb h).Y ?_;rintro _ U _ ⟨L,rfl⟩;cases y:il s a.i with
 |none=>
  rw[y]at f;rw[rc Ξ,bK,al];exact⟨λ_=>⟨by rw[f],by rw[f];exact cS.same h G H J L⟩,λh=>ro Φ h⟩
 |some x=>
 rw[y]at f;simp only at f;obtain⟨N,B,ah⟩:=yY y;rw[ms (by rfl),bK,al];refine⟨λh=>ro rfl h,λ_=>?_⟩;refine(sk (h.W L)).Y ?_;rintro _ V _ ⟨rfl,Z⟩;have O:=L.F Z;refine aY (λr I=>r=Δ (if aC x=[]then-1 else s.zero)/\Ext w I) ?_ λax p=>?_
 .rintro _ ai ⟨rfl,P⟩;refine(vl (h.W P)).Y ?_;rintro _ aj _ ⟨aa,rfl⟩;have C:=P.F aa;refine c8 (λI=>cS au w ad ae A R n (bg n.k s a).1 I) ?_ λax p=>?_
  .intro I ab;refine⟨?_,ab⟩;rw[f];generalize (if aC x=[]then(-1:Int)else s.zero)=am;split
   .rfl
   .rename_i j;rw[X5.1 j]
  rw[bl,al];refine⟨λj=>?_,λj=>p _ ?_⟩
  .obtain⟨E,hm⟩:=ll (λh=>h j);have Q:a.c<=s.zero:=by
    split at hm
    .omega
    .exact hm
   obtain⟨u,hu⟩:=V3 N;rw[hu,u9]at B;rw[hu];refine(Gc (t:=t) (u:=u) (F1:=oR) (F2:=oQ) (g:=λg=>cr n.k g a.c) (z:=λg=>cY n.k g a.c) (h.W C) (G.W C) H J B (λv y=>?_) ⟨ow K.zero ⟨E.1,Q⟩,λ{w A s' t}M=>vm M K.zero E (.inr Q)⟩).Y ?_
   .have S:=ij (v:=v.toNat) K B;exact⟨ox S E.1,λ{w A s t}M=>sG M S E⟩
   .rintro _ an _ ac;refine p _ ?_;rw[f,rc (λh=>h j),hu,u9];exact ac.before C
  .rw[f,ms j];exact cS.same h G H J C
 refine(kG (i:=a.i) (h.W O)).Y ?_;rintro _ ao _ ⟨⟨b,ap,rfl,T⟩,af⟩;refine(je T.1).Y ?_;rintro _ aq _ ⟨⟨q,rfl,W⟩,ag⟩;have X:=(O.F af).F ag;have Y:=Sw T N B;rw[bl,al];refine⟨λh=>p _ _ ⟨by rw[ms (Y.1 (W.1 h))],X⟩,λh=>p _ _ ⟨by rw[rc λe=>h (W.2 (Y.2 e))],X⟩⟩
def Ge(hk:a.kind=4)(h:bG w ad ae A R n s t)(j:Laid w)(p:¬A 0)(f:eC au t):ak v8 ID [Γ ad,Δ a.i,Δ a.v] w (pN au w ad ae A R n s a):=by
 have q:=h.2.2.2.1;have e:bg n.k s a=match dz s a.i a.v with
  |none=>(s,1)
  |some x=>if cr n.k s.zero (x.un.getD a.v.toNat 0)<n.k then(s,7)else(dP s a.i.toNat a.v.toNat,0):=by
  unfold bg;rw[rc Ω,rc Ω,rc Ω,rc Ω,ms hk]<;>cases dz s a.i a.v<;>rfl
 refine az func79 ?_;refine(yR h).Y ?_;rintro _ U _ ⟨z,rfl⟩;cases B:dz s a.i a.v with
 |none=>
  rw[B]at e;rw[rc Ξ,bK,al];exact⟨λ_=>⟨by rw[e],by rw[e];exact cS.same h j p f z⟩,λh=>ro Φ h⟩
 |some x=>
 rw[B]at e;simp only at e;obtain⟨Z,C,aa,K⟩:=jO B;rw[ms (by rfl),bK,al];refine⟨λh=>ro rfl h,λ_=>?_⟩;have G:ew n a.i a.v:=by
  have:=pM q C K;rwa [show((a.i.toNat:Nat):Int)=a.i by omega]at this
 refine(pD (h.W z)).Y ?_;rintro _ V _ ⟨rfl,L⟩;have M:fl s a.i.toNat a.v.toNat=x.un.getD a.v.toNat 0:=by
  unfold fl;rw[C]
 rw[ms G,M,bA,bB];have H:=z.F L;refine(sk (h.W H)).Y ?_;rintro _ ab _ ⟨rfl,N⟩;have I:=H.F N;refine(sG (h.W I) q.zero (ij q C)).Y ?_;rintro _ ac _ ⟨rfl,O⟩;have J:=I.F O;refine(om (h.W J)).Y ?_;rintro _ af _ ⟨rfl,P⟩;have E:=J.F P;rw[aT,al];refine⟨λQ=>?_,λS=>?_⟩
 .rw[ms Q]at e;exact⟨by rw[e],by rw[e];exact cS.same h j p f E⟩
 .rw[rc S]at e;refine(yo (h.W E) f.room).Y ?_;rintro r ag _ ⟨_,T⟩;obtain⟨rfl,W,aN,y,X,Y⟩:=T G;refine⟨by rw[e],?_⟩;rw[e];exact cS.step h j p E W X Y f.set
def Sy(hk:5<=a.kind)(h:bG w ad ae A R n s t)(N:Laid w)(W:¬A 0)(X:eC au t):ak v8 IE [Γ ad,Δ a.i,Δ a.v] w (pN au w ad ae A R n s a):=by
 have aw:=h.2.2.2.1;have q:bg n.k s a=match dz s a.i a.v with
  |none=>(s,1)
  |some x=>(gD s a.i.toNat a.v (aC x),0):=by
  unfold bg;rw[rc Ω,rc Ω,rc Ω,rc Ω,rc Ω]<;>cases dz s a.i a.v<;>rfl
 refine jy func80 ?_;refine bn λg1 U aW Y z=>?_;refine bn λaY V aZ O B=>?_;refine bn λa1 P a2 J C=>?_;have z:ag P g1 eF [Γ ad]:=(ag.W z O).W J;have B:=ag.W B J;have C:=C;have K:=(Y.F O).F J;have a6:=Y.size;have a7:=O.size;have z3:=J.size;have ax:=z.lt;have ay:=B.lt;have az:=C.lt;rw[aF Ψ (z.cell rfl),aF Ψ (B.cell rfl),aF Ψ (C.cell rfl)];refine(yR (h.W K)).Y ?_;rintro _ a8 _ ⟨E,rfl⟩;have Z:=K.F E;have z4:=E.size;cases Q:dz s a.i a.v with
 |none=>
  rw[Q]at q;rw[rc Ξ,bK,al];refine⟨λ_=>?_,λh=>ro Φ h⟩;intro ba aA _;exact⟨by rw[q],by rw[q];exact cS.same h N W X (Z.F aA)⟩
 |some x=>
 rw[Q]at q;simp only at q;obtain⟨aB,f,bb,bc⟩:=jO Q;rw[ms (by rfl),bK,al];refine⟨λh=>ro rfl h,λ_=>?_⟩;rw[aF Ψ ((z.W E).cell rfl),aF Ψ ((B.W E).Qz rfl)];refine(kG (i:=a.i) (h.W Z)).Y ?_;rintro _ bd _ ⟨⟨b,aD,rfl,ab⟩,ac⟩;refine(n4 (b:=b) (n:=aD)).Y ?_;rintro _ S _ ⟨aE,ah,rfl,be,ai⟩;have aj:=mJ ab aB f;have L:=(E.F ac).F aE;have bf:=ac.size;have bh:=L.size;have bi:=ai.lt;refine lD.old ⟨_,v6,kq,#[Γ ah],_,_,_,_,λj I=>dR au w ad ae A R n w.heap.size (λr=>S.heap.size<=r) (gD s a.i.toNat a.v ((aC x).take j)) I/\af (λr=>r<w.heap.size\/S.heap.size<=r) S I,λ_ _ _=>False,rfl,(n3 (g:=ah) ab.1).s,?_,
  λ_ _ f h=>⟨h.1.W f,h.2.W f⟩,λ_ _ _ f h=>⟨h.1.W f,h.2.F (f.aa _)⟩,λ_ _ _ _ _ h=>h,⟨ai,N.W (K.F L)⟩,⟨dR.start h N W X (K.F L) (o4 _),af.refl _ _⟩,?_,?_,λ_ _ h=>h.elim,λ_ _ _ h=>h.elim⟩
 .rintro _ _ _ _ ⟨_,_,_,_,rfl⟩;rfl
 .rintro _ j _ bj ⟨am,aG⟩ ⟨bk,rfl,v,aH,aI⟩ ⟨G,H⟩;cases aI;intro aJ p _ _;have an:(aC x)[j]?=σ (v:Int):=by rw[<-aj,u4,aH];rfl
  have aK:ew n a.i (v:Int):=by
   have:=pM aw f (x7 an);rwa [show((a.i.toNat:Nat):Int)=a.i by omega]at this
  have aX:∀{g:Nat}{e:o5}{cs:List x4},w.heap.size<=g->g<P.heap.size->ag P g e cs->ag aJ g e cs:=λaL aM aO=>((aO.W L).aa H Ω).W p;have M:=Ss (s:=s) (i:=a.i.toNat) (v:=a.v) an;obtain⟨bl,bm,aP,ao,aQ⟩:=G.open;rw[aF Ψ ((aX Ω az C).cell rfl),bK,al];refine⟨λaR=>?_,λhe=>?_⟩
  .rw[ms aR]at M;rw[aF Ψ ((aX Ω ax z).cell rfl),aF Ψ ((aX Ω ay B).cell rfl)];refine(yo (aP.W p) ao.room).Y ?_;rintro r bo _ ⟨_,aS⟩;obtain⟨rfl,aT,aN,y,aU,ap⟩:=aS aK;rw[<-M]at ap;have bp:=H.size;obtain⟨aq,av,bq⟩:=aQ (jo p aT) ((Grow.W p).F aU) ap ao.set (λr h=>h) λr aL aM=>Ω
   exact⟨⟨am.aa av Ω,aq.2.1.1⟩,⟨aq,H.F av⟩,λh=>by cases h⟩
  .rw[rc he]at M;exact⟨⟨am.W p,aG.W p⟩,⟨by rw[M];exact G.W p,H.F (p.aa _)⟩,λh=>by cases h⟩
 .rintro k br rfl ⟨G,H⟩;rw[b9 (by rw[<-aj,r8];exact o4 _)]at G;intro bs aV _;exact⟨by rw[q],by rw[q];exact G.done aV⟩
end
end Go.Proofs.YtnhkbjhpbbobaaaGreatDoor
