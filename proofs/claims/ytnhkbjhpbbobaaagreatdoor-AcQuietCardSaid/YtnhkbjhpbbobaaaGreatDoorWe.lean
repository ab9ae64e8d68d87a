/- own texts, made small by a tool (wip/ holds them as they were written): no statement of the seat. -/
import Derived.Test.YtnhkbjhpbbobaaaGreatDoorWd
set_option linter.unusedVariables false
set_option linter.unusedSimpArgs false
set_option linter.unnecessarySimpa false
open Array renaming getElem?_eq_some_iff→j9
open Bool renaming false→rs,true→ro,not_true→X1,not_false→W7,or_eq_false_iff→U4,eq_iff_iff→U9,and_eq_true→T1,true_and→S0
open Decidable renaming not_not→X5
open Go renaming Value→x1,World→x4,TypeId→p9,IntKind→o7,Program→V5,FuncId→Q9
open Go.Addr renaming add_mid→T8
open Go.Builtin renaming append_→Y0,len_→V7
open Go.Instr renaming loadAt→u5,fieldAt→u7,storeAt→n9,indexAt→Z0,buildSlice→X2,sliceAt→U5
open Go.IntKind renaming i64→W6
open Go.Proofs.Tryz renaming prog→x8
open Int renaming toNat_natCast→u6,eq_ofNat_of_zero_le→V3,le_refl→S8
open List renaming getElem?_eq_some_iff→x5,mem_of_getElem?→x6,getElem?_eq_getElem→x7,getElem?_map→v8,getD_eq_getElem?_getD→u4,length_map→u9,take_add_one→r8,length_append→r9,replicate→o4,length_set→o5,take_length→o6,length_take→o8,getElem?_set_self→l9,mem_map→j0,mem_append→j4,take_of_length_le→j5,mem_singleton→j6,eq_nil_of_length_eq_zero→c9,length_cons→Z4,map_append→Z5,getElem?_append_right→Z7,getElem?_set_ne→Z9,getElem?_append_left→Y2,getElem?_eq_none→Y4,getElem?_set→Y6,getElem?_take_of_lt→Y7,ext_getElem?→X3,mem_iff_getElem?→X6,drop_eq_getElem_cons→X8,append_assoc→X9,range→W3,append_nil→W5,flatMap_cons→W9,mem_or_eq_of_mem_set→V0,mem_cons→V4,length_eq_one_iff→V6,foldl_cons→V8,length_singleton→U2,mem_of_mem_take→U3,pairwise_iff_getElem→U8,map_set→T2,map_cons→T3,mem_range→T6,mem_filter→S1,map_map→S5,length→R6,foldl_append→Q0,sum_cons→Q2,getElem_mem→Q4,length_nil→Q7,length_filter_le→Q8
open Nat renaming le_refl→p8,mul_le_mul_right→Y5,le_trans→Y9,zero_le→X7,zero_add→W0,sub_self→W8,add_mul→U7,mul_one→T5,lt_of_lt_of_le→S3,pow_le_pow_right→S4,add_sub_cancel_left→R2,add_assoc→R5,min_eq_left→Q6
open Option renaming toList_some→o9,isNone_some→Z3,map_some→Y3,map_eq_some_iff→X0,getD_some→V9,map→T0,isSome_some→S9,isSome_none→Q5
open Option.some renaming inj→Z6
set_option maxHeartbeats 16000000
open Option renaming some→σ,none→ν
variable{a ai l sc co t tl un:Λ}{B ad ae ga gt gtb gy j pos:Nat}{c k v:Int}{L:List (Λ)}{cs:List x1}{U e:p9}{aU z:x1}{I w:x4}{K:x1->Prop}{D:Nat->Prop}
namespace Go.Proofs.YtnhkbjhpbbobaaaGreatDoor
open Go Go.Vc Go.RowKit Go.Proofs Go.Proofs.Tryz
set_option maxRecDepth 100000
def jr(s:am)(pos:Nat)(v:Int):Λ->Nat->List (Λ)
 |[],_=>[]
 |u::sc,p=>(if p=pos then[v]else bb s u)::jr s pos v sc (p+1)
def bX(s:am)(sc:Λ)(pos:Nat)(v:Int):List (Λ):=iB (jr s pos v sc 0)
theorem yD{s:am}{sc:Λ}{pos:Nat}{v:Int}:∀(m p:Nat)(tl:Λ),sc.length=p+m->tl.length=sc.length->(p<=pos->tl[pos]?=σ v)->
  pL s sc pos m p tl=(iB (jr s pos v (sc.drop p) p)).map (tl.take p++ ·)
 |0,p,tl,h1,a,f=>by
  rw[List.drop_eq_nil_of_le Ω,j5 Ω];unfold pL jr iB;rw[List.map_singleton,W5]
 |m+1,p,tl,h1,a,f=>by
  have ac:p<sc.length:=Ω
  obtain⟨u,hu⟩:=aF (l:=sc) ac;have w:sc.drop p=u::sc.drop (p+1):=by rw[X8 ac,(x5.1 hu).2]
  have y:sc.getD p 0=u:=by rw[u4,hu];rfl
  rw[w];unfold pL jr;rw[iB];by_cases j:p=pos
  .have q:=f Ω;rw[m3 Ω,m3 j,List.flatMap_singleton,yD m (p+1) tl Ω a (λ_=>q),S5];refine List.map_congr_left λr _=>?_;rw[r8,j,q];simp
  .rw[m5 Ω,m5 j,y,List.map_flatMap];congr 1;funext x;have e:(tl.set p x).take (p+1)=tl.take p++[x]:=by rw[r8,l9 Ω,List.take_set_of_le (p8 _)];rfl
   rw[yD m (p+1) (tl.set p x) Ω (by rw[o5];exact a) (λh=>by rw[Z9 Ω];exact f Ω),S5,e];refine List.map_congr_left λr _=>?_;simp
theorem QY{s:am}(h:pos<sc.length):pL s sc pos sc.length 0 ((o4 sc.length 0).set pos v)=bX s sc pos v:=by
 rw[yD sc.length 0 _ Ω Ξ (λ_=>by rw[l9 (by simpa using h)])];unfold bX;simp
def pM(s:am)(pos:Nat)(v:Int):Λ->Nat->List (Int->Bool)
 |[],_=>[]
 |u::sc,p=>(λx=>(decide (p=pos->x=v))&&decide (x∈bb s u))::pM s pos v sc (p+1)
theorem QZ(h:0<=v/\v<k):(i9 k).filter (λx=>decide (x=v))=[v]:=by
 have f:(i9 k).Nodup:=by
  unfold i9;exact List.Pairwise.map _ (λa b s=>Ω) List.nodup_range
 have hm:v∈i9 k:=vi.2 h;generalize i9 k=l at f hm;induction l with
 |nil=>cases hm
 |cons a l p=>
  have j:=List.nodup_cons.1 f;by_cases e:a=v
  .subst e;rw[List.filter_cons_of_pos Ξ,List.filter_eq_nil_iff.2 λx q=>by simp;intro r;exact j.1 (r▸q)]
  .rw[List.filter_cons_of_neg (by simpa using e)];exact p j.2 ((V4.1 hm).resolve_left (Ne.symm e))
section
variable{k:Int}{co:Λ}{s:am}{v:Int}{pos:Nat}
theorem Ra{u:Int}(a:bd k co s)(h:0<=u/\u<co.length):(i9 (co.getD u.toNat 0)).filter (λx=>decide (x∈bb s u))=bb s u:=by
 have w:=a.d6;obtain⟨x,j⟩:=aF (l:=s.d6) (i:=u.toNat) Ω;obtain⟨z,f⟩:=aF (l:=co) (i:=u.toNat) Ω;have h1:=(a.var _ x z j f).1;have e:bb s u=aC x:=by unfold bb;rw[j]
 have p:co.getD u.toNat 0=z:=by rw[u4,f];rfl
 have A:=a.eD.2.2 z (x6 f);have q:aC x=(i9 z).filter λv=>!dropped x.mask v:=by unfold aC i9;rw[h1]
 rw[e,p,q];refine List.filter_congr λy r=>?_;simp[S1,r]
theorem Fq(j:bd k co s):∀(sc:Λ)(p:Nat),(∀u∈sc,0<=u/\u<co.length)->(∀u,p<=pos->sc[pos-p]?=σ u->v∈bb s u)->
  jr s pos v sc p=(((b1 co sc).map i9).zip (pM s pos v sc p)).map λq=>q.1.filter q.2
 |[],p,_,_=>rfl
 |u::sc,p,hu,r=>by
  have w:=Fq j sc (p+1) (λu h=>hu u (.tail _ h)) λu' ac h=>r u' Ω (by rw[show pos-p=(pos-(p+1))+1 by omega];exact h);have y:=hu u (.head _);have a:=Ra j y;show(if p=pos then[v]else bb s u)::jr s pos v sc (p+1)=(i9 (co.getD u.toNat 0)).filter (λx=>decide (p=pos->x=v)&&decide (x∈bb s u))::((((b1 co sc).map i9).zip (pM s pos v sc (p+1))).map λq=>q.1.filter q.2);rw[<-w];congr 1;by_cases ac:p=pos
  .rw[m3 ac];have f:v∈bb s u:=r u Ω (by rw[ac,W8];rfl);have z:v∈i9 (co.getD u.toNat 0):=by rw[<-a]at f;exact(S1.1 f).1
   rw[<-QZ (vi.1 z)];refine List.filter_congr λx _=>?_;by_cases e:x=v
   .subst e;simp[f]
   .simp[e,ac]
  .rw[m5 ac,<-a];refine(List.filter_congr λx A=>?_).symm;rw[a];simp[ac]
theorem Fr:∀(sc:Λ)(p:Nat),(pM s pos v sc p).length=sc.length
 |[],_=>rfl
 |u::sc,p=>by unfold pM;rw[Z4,Fr sc (p+1),Z4]
theorem yE(a:bd k co s)(e:∀u∈sc,0<=u/\u<co.length)(f:∀u,sc[pos]?=σ u->v∈bb s u):
  bX s sc pos v=(bp (b1 co sc)).filter (ov (pM s pos v sc 0)):=by
 unfold bX;rw[Fq a sc 0 e λu _ h=>f u h,Fk _ _ (by rw[Fr,u9];unfold b1;rw[u9]),yA]
end
theorem yF{k:Int}:∀(l:Λ)(z:Int),z<=k->(∀c∈l,0<=c)->l.foldl (λa c=>min (a+c) k) z=min (z+l.sum) k
 |[],z,h,_=>Θ
 |c::l,z,h,e=>by
  have J:∀(l:Λ),(∀c∈l,0<=c)->0<=l.sum:=λl=>by
   induction l with
   |nil=>intro _;simp
   |cons a l f=>intro h;have:=f λc e=>h c (.tail _ e);have:=h a (.head _);rw[Q2];omega
  have h1:=e c (.head _);have j:=J l λc h=>e c (.tail _ h);rw[V8,yF l _ Ω λc h=>e c (.tail _ h),Q2];omega
def dM(p:bz×Int):Int:=if p.1.gone≠0 then 0 else p.1.un.getD p.2.toNat 0
def fH(a:Λ)(f:ch):Int:=if f.live≠0 then br f.ai f.cs (si a f.sc)else 0
theorem foldl_map'{α β e:Type}(g:α->β)(h:e->β->e)(aW:e->α->e)(P:e->Prop)(ao:∀c a,P c->aW c a=h c (g a))(f:∀c a,P c->P (aW c a)):∀(l:List α)(c:e),P c->l.foldl aW c=(l.map g).foldl h c
 |[],_,_=>rfl
 |a::l,c,j=>by
  rw[V8,T3,V8,<-ao c a j];exact foldl_map' g h aW P ao f l _ (f c a j)
theorem yG{i:Nat}{x y:Int}(h:l[i]?=σ x):(l.set i y).sum=l.sum-x+y:=by
 induction l generalizing i with
 |nil=>simp at h
 |cons a l e=>
  cases i with
  |zero=>simp at h;subst h;rw[List.set_cons_zero,Q2,Q2];omega
  |succ i=>
   rw[List.set_cons_succ,Q2,Q2,e (by simpa using h)];omega
def cU(k a c:Int):Int:=if a=k then k else a-c
def cm(k a c:Int):Int:=min (a+c) k
theorem vj{r g u:Int}(a:0<=r)(e:c<=g/\g<=k)(hu:0<=u/\u<=k)(f:0<=c):min (r+cU k g c+cm k u c) k=min (r+g+u) k:=by
 unfold cU cm;split<;>omega
theorem sF:∀(l:Λ),(∀c∈l,0<=c)->0<=l.sum
 |[],_=>Ξ
 |a::l,h=>by have:=sF l λc e=>h c (.tail _ e);have:=h a (.head _);rw[Q2];omega
theorem sG:∀{l:Λ}{i:Nat}{x:Int},(∀c∈l,0<=c)->l[i]?=σ x->x<=l.sum
 |[],_,_,_,h=>by simp at h
 |a::l,0,x,e,h=>by
  simp at h;subst h;have:=sF l λc h=>e c (.tail _ h);rw[Q2];omega
 |a::l,i+1,x,e,h=>by
  have:=sG (λc h=>e c (.tail _ h)) (show l[i]?=σ x by simpa using h);have:=e a (.head _);rw[Q2];omega
theorem Fs{i:Nat}(hk:0<=k)(h:∀c∈l,0<=c/\c<=k):0<=l.getD i 0/\l.getD i 0<=k:=by
 rw[u4];cases a:l[i]? with
 |none=>exact⟨S8 _,hk⟩
 |some c=>exact h c (x6 a)
theorem Ft{f:Int->Int}{cs:Λ}{m:Int}(J:dG ai)(h:cs.length=(bp ai).length)(hi:cz ai t 0=σ m):br ai (dT f L ai cs) t=if t∈L then f (br ai cs t)else br ai cs t:=by
 have a:=nu J hi;have j:=(x5.1 a).1;obtain⟨c,e⟩:=aF (l:=cs) (i:=m.toNat) Ω;have h1:=qQ (f:=f) (L:=L) a e;unfold br;rw[hi];simp only;rw[u4,h1,u4,e,V9,V9]
section
variable{k:Int}{co a:Λ}{s:am}
theorem Rb{i:Nat}{p:bz×Int}(e:bd k co s)(h:(s.d6.zip a)[i]?=σ p):0<=dM p/\dM p<=k:=by
 have hk:=e.ft;obtain⟨h1,_⟩:=List.getElem?_zip_eq_some.1 h;have f:=(x5.1 h1).1;have j:=e.d6;have:=e.var i p.1 _ h1 (x7 Ω);unfold dM;split
 .omega
 .exact Fs Ω this.2.1
theorem Rc{f:ch}(e:bd k co s)(h:f∈s.d7):0<=fH a f/\fH a f<=k:=by
 have hk:=e.ft;have:=(e.d7 f h).1.jK;unfold fH;split
 .exact (uU e.ft λc j=>⟨e.ft,this c j⟩).2
 .omega
theorem vk(e:bd k co s):∀c∈(s.d6.zip a).map dM,0<=c:=λc f=>by
 obtain⟨p,ac,rfl⟩:=j0.1 f;obtain⟨i,hi⟩:=X6.1 ac;exact(Rb e hi).1
theorem sH(e:bd k co s):∀c∈s.d7.map (fH a),0<=c:=λc f=>by
 obtain⟨p,ac,rfl⟩:=j0.1 f;exact(Rc e ac).1
theorem pN(e:bd k co s):fW k s a=if(s.d6.zip a).all jO then min (s.zero+((s.d6.zip a).map dM).sum+(s.d7.map (fH a)).sum) k else k:=by
 have h1:(s.d6.zip a).foldl (sj k) s.zero=((s.d6.zip a).map dM).foldl (λx c=>min (x+c) k) s.zero:=by
  refine foldl_map' dM (λx c=>min (x+c) k) (sj k) (λc=>c<=k) (λc p f=>?_) (λc p f=>?_) _ _ e.zero.2
  .unfold sj dM;split
   .omega
   .rfl
  .unfold sj;split
   .exact f
   .omega
 have h:∀z,z<=k->s.d7.foldl (sk k a) z=(s.d7.map (fH a)).foldl (λx c=>min (x+c) k) z:=λz j=>by
  refine foldl_map' (fH a) (λx c=>min (x+c) k) (sk k a) (λc=>c<=k) (λc p f=>?_) (λc p f=>?_) _ _ j
  .unfold sk fH;split
   .rfl
   .omega
  .unfold sk;split
   .omega
   .exact f
 unfold fW;split
 .rw[h1,yF _ _ e.zero.2 (vk e),h _ Ω,yF _ _ Ω (sH e)];have:=sF _ (sH (a:=a) e);omega
 .rfl
theorem vl{α β:Type}:∀{l:List α}{m:List β}{i:Nat}{x:α}{y:β},m[i]?=σ y->(l.set i x).zip m=(l.zip m).set i (x,y)
 |[],_,_,_,_,_=>Ξ
 |_::_,[],_,_,_,h=>by simp at h
 |a::l,b::m,0,x,y,h=>by simp at h;subst h;rfl
 |a::l,b::m,i+1,x,y,h=>by
  rw[List.set_cons_succ,List.zip_cons_cons,List.zip_cons_cons,List.set_cons_succ,vl (by simpa using h)]
theorem vm{α:Type}{q:α->Bool}:∀{l:List α}{i:Nat}{x y:α},l[i]?=σ x->q y=q x->(l.set i y).all q=l.all q
 |[],_,_,_,h,_=>by simp at h
 |a::l,0,x,y,h,e=>by simp at h;subst h;rw[List.set_cons_zero,List.all_cons,List.all_cons,e]
 |a::l,i+1,x,y,h,e=>by rw[List.set_cons_succ,List.all_cons,List.all_cons,vm (by simpa using h) e]
def eY(s:am)(u:Nat)(x:bz)(un:Λ):am:={s with d6:=s.d6.set u {x with un:=un}}
def eu(s:am)(j:Nat)(f:ch)(cs:Λ):am:={s with d7:=s.d7.set j {f with cs:=cs}}
theorem yH{u:Nat}{x:bz}(a:bd k co s)(e:s.d6[u]?=σ x)(f:un.length=x.un.length)(h:∀c∈un,0<=c/\c<=k):bd k co (eY s u x un):=by
 have j:=(x5.1 e).1;have p:=a.d6;have h1:=a.var u x _ e (x7 Ω);exact a.vg e f h h1.2.2
theorem Fu{f:ch}{cs:Λ}(a:bd k co s)(e:s.d7[j]?=σ f)(h:cs.length=f.cs.length)(p:∀c∈cs,0<=c/\c<=k):bd k co (eu s j f cs):=a.Fg e rfl rfl h p
theorem Re{u:Nat}{x:bz}{f:ch}{cs:Λ}{bm:Int}(e:bd k co s)(w:s.d6[u]?=σ x)(p:s.d7[j]?=σ f)(z:un.length=x.un.length)(A:∀c∈un,0<=c/\c<=k)(B:cs.length=f.cs.length)(C:∀c∈cs,0<=c/\c<=k)(y:a[u]?=σ bm)(h:(s.d6.zip a).all jO=ro->∀r,0<=r->min (r+fH a {f with cs:=cs}+dM ({x with un:=un},bm)) k=min (r+fH a f+dM (x,bm)) k):fW k (eY (eu s j f cs) u x un) a=fW k s a:=by
 have E:=Fu e p B C;have F:=yH E w z A;rw[pN F,pN e];have q:(s.d6.zip a)[u]?=σ (x,bm):=List.getElem?_zip_eq_some.2 ⟨w,y⟩;have G:((eY (eu s j f cs) u x un).d6.zip a)=(s.d6.zip a).set u ({x with un:=un},bm):=vl y;have H:((s.d6.zip a).set u ({x with un:=un},bm)).all jO=(s.d6.zip a).all jO:=vm q rfl;rw[G,H];split
 .rename_i I;have J:(((s.d6.zip a).set u ({x with un:=un},bm)).map dM).sum=((s.d6.zip a).map dM).sum-dM (x,bm)+dM ({x with un:=un},bm):=by
   rw[T2];exact yG (by rw[v8,q];rfl)
  have K:((eY (eu s j f cs) u x un).d7.map (fH a)).sum=(s.d7.map (fH a)).sum-fH a f+fH a {f with cs:=cs}:=by
   show((s.d7.set j {f with cs:=cs}).map (fH a)).sum=_;rw[T2];exact yG (by rw[v8,p];rfl)
  have h1:=sG (vk e) (by rw[v8,q];rfl);have L:=sG (sH (a:=a) e) (by rw[v8,p];rfl);have M:=e.zero.1;have N:=h I (s.zero+(((s.d6.zip a).map dM).sum-dM (x,bm))+((s.d7.map (fH a)).sum-fH a f)) Ω;rw[J,K];show min (s.zero+_+_) k=_;omega
 .rfl
end
theorem yI{s:am}{pos:Nat}{v:Int}:∀(sc:Λ)(p q:Nat),(jr s pos v sc p)[q]?=(sc[q]?).map λu=>if p+q=pos then[v]else bb s u
 |[],_,q=>by simp[jr]
 |u::sc,p,0=>by simp[jr]
 |u::sc,p,q+1=>by
  unfold jr;rw[List.getElem?_cons_succ,List.getElem?_cons_succ,yI sc (p+1) q,show p+1+q=p+(q+1) by omega]
theorem Fv{s:am}{pos:Nat}{v:Int}:∀(sc:Λ)(p:Nat),(jr s pos v sc p).length=sc.length
 |[],_=>rfl
 |u::sc,p=>by unfold jr;rw[Z4,Fv sc (p+1),Z4]
theorem yJ{s:am}:t∈bX s sc pos v↔t.length=sc.length/\∀(p:Nat)u w,sc[p]?=σ u->t[p]?=σ w->if p=pos then w=v else w∈bb s u:=by
 unfold bX;rw[vh,Fv];refine and_congr_right λ_=>⟨λh p u w hu hw=>?_,λh p d w a hw=>?_⟩
 .have:w∈if 0+p=pos then[v]else bb s u:=h p _ w (by rw[yI,hu];rfl) hw;rw[W0]at this;split
  .rename_i e;rw[m3 e]at this;exact j6.1 this
  .rename_i e;rw[m5 e]at this;exact this
 .rw[yI]at a;cases hu:sc[p]? with
  |none=>rw[hu]at a;cases a
  |some u=>
   rw[hu]at a;have a:(if 0+p=pos then[v]else bb s u)=d:=Z6 a;subst a;have:=h p u w hu hw;rw[W0];split
   .rename_i e;rw[m3 e]at this;exact j6.2 this
   .rename_i e;rw[m5 e]at this;exact this
theorem eZ{x:bz}:v∈aC x↔(0<=v/\v<x.un.length)/\dropped x.mask v=rs:=by
 unfold aC;rw[S1];refine and_congr ?_ Ξ;have:=vi (k:=(x.un.length:Int)) (v:=v);unfold i9 at this;rw[u6]at this;exact this
theorem Fw{f:Int->Int}{cs:Λ}(J:dG ai)(q:∀c∈cs,0<=c/\c<=k)(r:∀t∈L,0<=f (br ai cs t)/\f (br ai cs t)<=k):∀c∈dT f L ai cs,0<=c/\c<=k:=λc a=>by
 unfold dT at a;obtain⟨p,ac,rfl⟩:=j0.1 a;obtain⟨i,hi⟩:=X6.1 ac;obtain⟨h1,h⟩:=List.getElem?_zip_eq_some.1 hi;split
 .rename_i s;have j:=r p.1 s;have e:br ai cs p.1=p.2:=by
   unfold br;rw[kF J h1];simp only;rw[u6,u4,h];rfl
  rw[e]at j;exact j
 .exact q _ (x6 h)
section
variable{k:Int}{co a:Λ}{s:am}
def fZ(s:am)(j:Nat)(f:ch)(pos u:Nat)(x:bz)(v:Int)(tup un:Int->Int):am:=
 eY (eu s j f (dT tup (bX s f.sc pos v) f.ai f.cs)) u x (x.un.set v.toNat (un (x.un.getD v.toNat 0)))
theorem lq{f:ch}(e:bd k co s)(q:f∈s.d7):dG f.ai/\f.cs.length=(bp f.ai).length:=by
 obtain⟨a,h,_⟩:=e.d7 f q;have j:dG f.ai:=by rw[h];exact og e.eD.2.2 λv p=>⟨(a.scope.1 v p).1,a.d6 v p⟩
 refine⟨j,?_⟩;have h1:=a.len;rw[jy j,h];exact h1
theorem Fx{u:Nat}{f:ch}{x:bz}{tup un:Int->Int}(a:bd k co s)(e:s.d7[j]?=σ f)(h:s.d6[u]?=σ x)(p:∀t∈bX s f.sc pos v,0<=tup (br f.ai f.cs t)/\tup (br f.ai f.cs t)<=k)(q:0<=un (x.un.getD v.toNat 0)/\un (x.un.getD v.toNat 0)<=k):bd k co (fZ s j f pos u x v tup un):=by
 obtain⟨r,y⟩:=lq a (x6 e);have w:=(a.d7 f (x6 e)).1;have z:=(x5.1 h).1;have A:=a.d6;have h1:=a.var u x _ h (x7 Ω);exact yH (Fu a e (pK _ _ _ _ Ω) (Fw r w.jK p)) h (by rw[o5]) (sC h1.2.1 q)
theorem Fy{u:Nat}{f:ch}{x:bz}{tup un:Int->Int}(p:bd k co s)(Q:kh s a)(G:s.d7[j]?=σ f)(R:f.live≠0)(hu:f.sc[pos]?=σ (u:Int))(B:s.d6[u]?=σ x)(Y:v∈aC x)(S:∀w∈f.sc,∀y,s.d6[w.toNat]?=σ y->y.gone=0)(Z:∀t∈bX s f.sc pos v,0<=tup (br f.ai f.cs t)/\tup (br f.ai f.cs t)<=k)(aa:0<=un (x.un.getD v.toNat 0)/\un (x.un.getD v.toNat 0)<=k)(ab:∀t∈bX s f.sc pos v,∀r,0<=r->min (r+tup (br f.ai f.cs t)+un (x.un.getD v.toNat 0)) k=min (r+br f.ai f.cs t+x.un.getD v.toNat 0) k):
  fW k (fZ s j f pos u x v tup un) a=fW k s a:=by
 obtain⟨H,ac⟩:=lq p (x6 G);obtain⟨I,T,_⟩:=p.d7 f (x6 G);have au:=(x5.1 B).1;have av:=p.d6;have h1:=p.var u x _ B (x7 Ω);have aw:=Q.1;obtain⟨bm,U⟩:=aF (l:=a) (i:=u) Ω;refine Re p B G (by rw[o5]) (sC h1.2.1 aa) (pK _ _ _ _ Ω) (Fw H I.jK Z) U λad r ae=>?_;have V:=S u (x6 hu) x (by rw[u6];exact B);obtain⟨tl,C⟩:∃tl,tl=si a f.sc:=⟨_,rfl⟩;have J:∀(q:Nat)w,f.sc[q]?=σ w->∃y,s.d6[w.toNat]?=σ y/\tl[q]?=σ (a.getD w.toNat 0)/\a.getD w.toNat 0∈aC y/\f.ai[q]?=σ (y.un.length:Int):=λq w hw=>by
  have hm:=x6 hw;have ax:=(I.scope.1 w hm).1;have ay:=I.d6 w hm;obtain⟨y,h⟩:=aF (l:=s.d6) (i:=w.toNat) Ω;obtain⟨z,K⟩:=aF (l:=co) (i:=w.toNat) Ω;obtain⟨L,M⟩:=aF (l:=a) (i:=w.toNat) Ω;have af:=S w hm y h;have az:=(p.var _ y z h K).1;have aA:=p.eD.2.2 z (x6 K);have e:a.getD w.toNat 0=L:=by rw[u4,M];rfl
  have W:=List.all_eq_true.1 ad (y,L) (x6 (List.getElem?_zip_eq_some.2 ⟨h,M⟩));have ag:=(Q.2 _ y L h M).resolve_left Ω;refine⟨y,h,by rw[C];unfold si;rw[v8,hw];rfl,?_,?_⟩
  .rw[e,eZ];refine⟨ag,?_⟩;unfold jO at W;simpa[af]using W
  .rw[T];unfold b1;rw[v8,hw,Y3,u4,K,V9];congr 1;omega
 have ah:tl.length=f.sc.length:=by rw[C];unfold si;rw[u9]
 have aB:f.ai.length=f.sc.length:=by rw[T];unfold b1;rw[u9]
 obtain⟨m,hm⟩:∃m,cz f.ai tl 0=σ m:=by
  have:tl∈bp f.ai:=by
   rw[yA,vh];refine⟨by rw[u9];omega,λq d w X hw=>?_⟩;obtain⟨b,A⟩:=aF (l:=f.sc) (i:=q) (by have:=(x5.1 hw).1;omega);obtain⟨y,_,N,O,aj⟩:=J q b A;rw[v8,aj]at X;cases X;rw[N]at hw;cases hw;exact vi.2 (eZ.1 O).1
  obtain⟨i,hi⟩:=X6.1 this;exact⟨_,kF H hi⟩
 have ak:fH a f=br f.ai f.cs tl:=by unfold fH;rw[m3 R,C]
 have al:fH a {f with cs:=dT tup (bX s f.sc pos v) f.ai f.cs}=if tl∈bX s f.sc pos v then tup (br f.ai f.cs tl)else br f.ai f.cs tl:=by
  rw[<-Ft H ac hm,C];unfold fH;rw[m3 R]
 have am:dM (x,bm)=x.un.getD bm.toNat 0:=by unfold dM;rw[m5 (by simp[V])]
 have an:dM ({x with un:=x.un.set v.toNat (un (x.un.getD v.toNat 0))},bm)=(x.un.set v.toNat (un (x.un.getD v.toNat 0))).getD bm.toNat 0:=by unfold dM;rw[m5 (by simp[V])]
 obtain⟨y,h,E,P,_⟩:=J pos _ hu;rw[u6]at h E P;rw[B]at h;cases h;have ao:a.getD u 0=bm:=by rw[u4,U];rfl
 rw[ao]at E P;have aD:=(eZ.1 Y).1;have aE:=(eZ.1 P).1;rw[ak,al,am,an];by_cases he:bm=v
 .subst he;have F:=yJ.2 ⟨ah,λq w b hw A=>by
   obtain⟨aG,ap,N,O,_⟩:=J q w hw;split
   .rename_i aq;subst aq;rw[E]at A;exact(Z6 A).symm
   .rw[N]at A;cases A;unfold bb;rw[ap];exact O⟩
  rw[m3 F,u4,l9 Ω,V9];exact ab tl F r ae
 .have F:tl∉bX s f.sc pos v:=λhm=>by
   have:=(yJ.1 hm).2 pos _ bm hu E;rw[m3 rfl]at this;exact he this
  rw[m5 F,u4,Z9 Ω,<-u4]
end
def ec(g:Int->Int)(un L:Λ):Λ:=L.foldl (λun v=>un.set v.toNat (g (un.getD v.toNat 0))) un
theorem sI{g:Int->Int}:∀(L un:Λ),(ec g un L).length=un.length
 |[],_=>rfl
 |v::L,un=>by
  unfold ec;rw[V8];have:=sI (g:=g) L (un.set v.toNat (g (un.getD v.toNat 0)));unfold ec at this;rw[this,o5]
theorem vn{g:Int->Int}:∀(L un:Λ)(w:Int),L.Nodup->(∀v∈L,0<=v/\v<un.length)->0<=w->(ec g un L).getD w.toNat 0=if w∈L then g (un.getD w.toNat 0)else un.getD w.toNat 0
 |[],un,w,_,_,_=>by simp[ec]
 |v::L,un,w,j,a,hw=>by
  obtain⟨h1,p⟩:=List.nodup_cons.1 j;have r:=a v (.head _);have q:=vn (g:=g) L (un.set v.toNat (g (un.getD v.toNat 0))) w p (λu hu=>by rw[o5];exact a u (.tail _ hu)) hw;have e:ec g un (v::L)=ec g (un.set v.toNat (g (un.getD v.toNat 0))) L:=rfl;rw[e,q];by_cases f:w=v
  .subst f;have J:(un.set w.toNat (g (un.getD w.toNat 0))).getD w.toNat 0=g (un.getD w.toNat 0):=by
    rw[u4,l9 Ω];rfl
   rw[m5 h1,m3 (.head _),J]
  .have J:(un.set v.toNat (g (un.getD v.toNat 0))).getD w.toNat 0=un.getD w.toNat 0:=by
    rw[u4,Z9 Ω,<-u4]
   rw[J];by_cases hm:w∈L
   .rw[m3 hm,m3 (.tail _ hm)]
   .rw[m5 hm,m5 λh=>(V4.1 h).elim f hm]
theorem sJ(x:bz):(aC x).Nodup:=by
 unfold aC;refine List.Nodup.sublist List.filter_sublist ?_;exact List.Pairwise.map _ (λa b e=>Ω) List.nodup_range
theorem Fz{k:Int}{g:Int->Int}:∀(L un:Λ),(∀c∈un,0<=c/\c<=k)->L.Nodup->(∀v∈L,0<=v/\v<un.length)->(∀v∈L,0<=g (un.getD v.toNat 0)/\g (un.getD v.toNat 0)<=k)->∀c∈ec g un L,0<=c/\c<=k
 |[],un,h,_,_,_,c,a=>h c a
 |v::L,un,h,p,f,j,c,a=>by
  obtain⟨h1,q⟩:=List.nodup_cons.1 p;have r:=f v (.head _);refine Fz (g:=g) L (un.set v.toNat (g (un.getD v.toNat 0))) (sC h (j v (.head _))) q (λu hu=>by rw[o5];exact f u (.tail _ hu)) (λu hu=>?_) c a;have s:u≠v:=λe=>h1 (e▸hu);have w:=f u (.tail _ hu);rw[u4,Z9 Ω,<-u4];exact j u (.tail _ hu)
section
variable{k:Int}{co a:Λ}{s:am}
def iC(s:am)(u:Nat)(x:bz)(g z:Int->Int):am:={eY s u x (ec g x.un (aC x))with zero:=z s.zero}
theorem bd.Rf(a:bd k co s)(h:0<=c/\c<=k):bd k co {s with zero:=c}:=⟨a.ft,a.eD,h,a.d6,a.var,a.d7⟩
theorem yK{u:Nat}{x:bz}{g z:Int->Int}(a:bd k co s)(e:s.d6[u]?=σ x)(f:∀v∈aC x,0<=g (x.un.getD v.toNat 0)/\g (x.un.getD v.toNat 0)<=k)(h:0<=z s.zero/\z s.zero<=k):bd k co (iC s u x g z):=by
 have p:=(x5.1 e).1;have q:=a.d6;have h1:=a.var u x _ e (x7 Ω);exact(yH a e (sI _ _) (Fz _ _ h1.2.1 (sJ x) (λv j=>(eZ.1 j).1) f)).Rf h
theorem FA{u:Nat}{x:bz}{g z:Int->Int}(e:bd k co s)(q:kh s a)(f:s.d6[u]?=σ x)(j:x.gone=0)(C:∀v∈aC x,0<=g (x.un.getD v.toNat 0)/\g (x.un.getD v.toNat 0)<=k)(E:0<=z s.zero/\z s.zero<=k)(F:∀v∈aC x,∀r,0<=r->min (r+g (x.un.getD v.toNat 0)+z s.zero) k=min (r+x.un.getD v.toNat 0+s.zero) k):fW k (iC s u x g z) a=fW k s a:=by
 have G:=yK e f C E;have O:=(x5.1 f).1;have P:=e.d6;have Q:=q.1;obtain⟨bm,p⟩:=aF (l:=a) (i:=u) Ω;rw[pN G,pN e];have h:(s.d6.zip a)[u]?=σ (x,bm):=List.getElem?_zip_eq_some.2 ⟨f,p⟩;obtain⟨un,w⟩:∃un,un=ec g x.un (aC x):=⟨_,rfl⟩;have H:((iC s u x g z).d6.zip a)=(s.d6.zip a).set u ({x with un:=un},bm):=by rw[w];exact vl p
 have I:((s.d6.zip a).set u ({x with un:=un},bm)).all jO=(s.d6.zip a).all jO:=vm h rfl;rw[H,I];split
 .rename_i J;have K:(((s.d6.zip a).set u ({x with un:=un},bm)).map dM).sum=((s.d6.zip a).map dM).sum-dM (x,bm)+dM ({x with un:=un},bm):=by
   rw[T2];exact yG (by rw[v8,h];rfl)
  have h1:=sG (vk e) (by rw[v8,h];rfl);have R:=sF _ (sH (a:=a) e);have y:=List.all_eq_true.1 J (x,bm) (x6 h);have A:=(q.2 _ x bm f p).resolve_left Ω;have B:bm∈aC x:=by
   rw[eZ];refine⟨A,?_⟩;unfold jO at y;simpa[j]using y
  have L:dM (x,bm)=x.un.getD bm.toNat 0:=by unfold dM;rw[m5 (by simp[j])]
  have M:dM ({x with un:=un},bm)=g (x.un.getD bm.toNat 0):=by
   unfold dM;rw[m5 (by simp[j])];show un.getD bm.toNat 0=_;rw[w,vn _ _ _ (sJ x) (λv N=>(eZ.1 N).1) A.1,m3 B]
  rw[K,M];rw[L]at h1 ⊢;have S:=F bm B (((s.d6.zip a).map dM).sum-x.un.getD bm.toNat 0+(s.d7.map (fH a)).sum) Ω;show min (z s.zero+_+(s.d7.map (fH a)).sum) k=_;omega
 .rfl
theorem yL{m:Nat}{w:Int}(a:0<=v)(hw:0<=w):dropped ((m ||| 2 ^ v.toNat:Nat):Int) w=(dropped (m:Int) w||decide (w=v)):=by
 unfold dropped;rw[u6,u6,Nat.testBit_or,Nat.testBit_two_pow];congr 1;exact decide_eq_decide.2 ⟨λh=>Ω,λh=>Ω⟩
theorem kK{i:Nat}{x:bz}(a:s.d6[i]?=σ x):dL s i v.toNat={s with d6:=s.d6.set i {x with mask:=((x.mask.toNat ||| 2 ^ v.toNat:Nat):Int)}}:=by
 unfold dL;rw[a]
theorem yM{i:Nat}{x:bz}(a:bd k co s)(e:s.d6[i]?=σ x)(j:0<=v/\v<x.un.length):bd k co (dL s i v.toNat):=by
 rw[kK e];have p:=(x5.1 e).1;have q:=a.d6;have h1:=a.var i x _ e (x7 Ω);have r:=a.eD.2.2 _ (Q4 (n:=i) Ω);refine a.vg e rfl h1.2.1 ⟨by simp only;omega,?_⟩;have f:x.mask.toNat<2 ^ 32:=by have:=h1.2.2;omega
 have h:2 ^ v.toNat<2 ^ 32:=Nat.pow_lt_pow_right Ω Ω;have:=Nat.or_lt_two_pow f h;simp only;omega
theorem FB{i:Nat}{bm:Int}{x:bz}(j:bd k co s)(C:kh s a)(f:s.d6[i]?=σ x)(E:x.gone=0)(z:0<=v/\v<x.un.length)(p:a[i]?=σ bm):fW k (dL s i v.toNat) a=if bm=v then k else fW k s a:=by
 have F:=yM j f z;rw[pN F,pN j];have r:(s.d6.zip a)[i]?=σ (x,bm):=List.getElem?_zip_eq_some.2 ⟨f,p⟩;have G:=(C.2 _ x bm f p).resolve_left Ω;obtain⟨y,w⟩:∃y:bz,y={x with mask:=((x.mask.toNat ||| 2 ^ v.toNat:Nat):Int)}:=⟨_,rfl⟩;have H:((dL s i v.toNat).d6.zip a)=(s.d6.zip a).set i (y,bm):=by rw[kK f,w];exact vl p
 have A:(dL s i v.toNat).zero=s.zero/\(dL s i v.toNat).d7=s.d7:=by rw[kK f];exact⟨rfl,rfl⟩
 have B:jO (y,bm)=(jO (x,bm)&&decide (bm≠v)):=by
  unfold jO;rw[w];simp only[E];rw[yL z.1 G.1];have hm:((x.mask.toNat:Nat):Int)=x.mask:=by
   have N:=(x5.1 f).1;have O:=j.d6;have h1:=j.var i x _ f (x7 Ω);omega
  rw[hm];by_cases e:bm=v
  .simp[e]
  .simp[e]
 rw[H,A.1,A.2];by_cases e:bm=v
 .rw[m3 e,m5];intro I;have:=List.all_eq_true.1 I (y,bm) (x6 (l9 (x5.1 r).1));rw[B]at this;simp[e]at this
 .have J:((s.d6.zip a).set i (y,bm)).all jO=(s.d6.zip a).all jO:=vm r (by rw[B];simp[e]);have K:((s.d6.zip a).set i (y,bm)).map dM=(s.d6.zip a).map dM:=by
   rw[T2];have L:dM (y,bm)=dM (x,bm):=by rw[w];rfl
   rw[L];refine X3 λq=>?_;rw[Y6];split
   .rename_i M;subst M;split
    .rw[v8,r];rfl
    .rename_i h;rw[Y4 Ω]
   .rfl
  rw[m5 e,J,K]
theorem Rg{i:Nat}{bm:Int}{x:bz}(h:kh s a)(e:s.d6[i]?=σ x)(j:x.gone=0)(f:a[i]?=σ bm)(p:bm∉aC x):fW k s a=k:=by
 have q:=(h.2 _ x bm e f).resolve_left Ω;unfold fW;rw[m5];intro r;have:=List.all_eq_true.1 r (x,bm) (x6 (List.getElem?_zip_eq_some.2 ⟨e,f⟩));unfold jO at this;have w:dropped x.mask bm=rs:=by simpa[j]using this
 exact p (eZ.2 ⟨q,w⟩)
end
end Go.Proofs.YtnhkbjhpbbobaaaGreatDoor
namespace Go.Vc
open Go Go.RowKit
section
variable{P:V5}{w:x4}{α:Type}[av α]{S R:ah}
theorem FC{k:Nat}{vs:List (List x1)}{i:Nat}{c:List x1}(h:∀x∈vs,x.length=k)(e:c.length=k)(hi:i<vs.length):over vs.flatten (i*k) c=(vs.set i c).flatten:=by
 have:=xv (f:=id) (k:=k) (L:=vs) (i:=i) (a:=c) h e hi;rw[List.flatMap_id,List.flatMap_id]at this;exact this
theorem Rh{v:x1}{l:List α}{i:Nat}(h:bJ S R w [v] l)(T:i<l.length):∃g cap full p,v= .slice (σ ⟨g,0,ν⟩) l.length cap/\ag w g p full/\S g/\i*av.n α+av.n α<=full.length/\
  ∀{A:ah}{cs:List x1}{a:α},bJ A R w cs a->(∀r,r<w.heap.size->S r->¬A r/\¬R r)->∀I,af (λr=>r=g) w I->ag I g p (over full (i*av.n α) cs)->bJ (λr=>S r\/A r) R I [v] (l.set i a):=by
 obtain⟨vs,g,F,ac,he,J,hm⟩:=kA h;obtain⟨U,p,W⟩:=hm rfl;obtain⟨ai,⟨rfl,aj⟩|⟨cap,full,rfl,C,G,X,H,Y⟩⟩:=id W
 .omega
 have K:=he.1;have Z:(i+1)*av.n α<=l.length*av.n α:=Y5 _ T;have aa:l.length*av.n α<=full.length:=by rw[H];exact Y5 _ G
 rw[U7,Nat.one_mul]at Z;have x:=U.resolve_left Ξ;refine⟨g,cap,full,p,rfl,C,x,Ω,λ{A cs a}L y I M ab=>?_⟩;have N:=av.len L;have O:=(y g C.lt x).1;have P:=(y g C.lt x).2;have ad:∀c∈vs.set i cs,c.length=av.n α:=λc s=>by
  rcases V0 s with e|rfl
  .exact he.len c e
  .exact N
 have Q:b0 I g p (av.n α) (.slice (σ ⟨g,0,ν⟩) l.length cap) (l.set i a).length (vs.set i cs).flatten:=by
  refine⟨by rw[kz ad,o5,o5,K],.inr ⟨cap,_,by rw[o5],ab,by rw[o5];exact G,X,by rw[nn,H],?_⟩⟩;rw[o5,uw Ω aa,Y,FC he.len N Ω]
 refine⟨_,rfl,vs.set i cs,g,λj r=>if j=i then A r/\r<w.heap.size else F j r/\r<w.heap.size,⟨λj r f=>?_,λ_ j f=>?_,λ_ j q r ae h1 e=>?_⟩,⟨by simp[K],λj c a' s z=>?_⟩,?_,λ_=>⟨.inr (.inl x),p,Q⟩⟩
 .split at f
  .exact .inr f.1
  .exact .inl (ac.sub j r f.1)
 .split at f
  .exact O f.1
  .exact ac.top rfl j f.1
 .split at h1<;>split at e
  .omega
  .exact (y r e.2 (ac.sub q r e.1)).1 h1.1
  .exact (y r h1.2 (ac.sub j r h1.1)).1 e.1
  .exact ac.gX rfl j q r ae h1.1 e.1
 .by_cases B:j=i
  .subst B;rw[l9 Ω]at s z;cases s;cases z;have E:bJ (λr=>if j=j then A r/\r<w.heap.size else F j r/\r<w.heap.size) R w cs a:=av.Y L (λr f h=>by rw[m3 rfl];exact⟨h,f⟩) λ_ _ h=>h;refine av.V E M λr f h1 e=>?_;have e:r=g:=e;subst e;rcases h1 with h1|h1
   .simp only[if_true]at h1;exact O h1.1
   .exact P h1
  .rw[Z9 (Ne.symm B)]at s z;have E:bJ (λr=>if j=i then A r/\r<w.heap.size else F j r/\r<w.heap.size) R w c a':=av.Y (he.2 j c a' s z) (λr f h=>by rw[m5 B];exact⟨h,f⟩) λ_ _ h=>h;refine av.V E M λr f h1 e=>?_;have e:r=g:=e;subst e;rcases h1 with h1|h1
   .simp only[m5 B]at h1;exact ac.top rfl j h1.1
   .exact P h1
 .have:=qj (S:=λr=>(S r\/A r)\/R r) Q (.inr (.inl (.inl x)));exact this
theorem FD{t:p9}{C:o7}{i b:Nat}{y:Int}{v x:x1}{l:List α}{a:α}{A:ah}{K:Unit->x4->Prop}(j:av.n α=1)(E:y=(i:Int))(F:P.underlying t=σ (.slice e))(hi:aP P e 1 b z)(h:bJ S R w [v] l)(q:i<l.length)(G:x.cells= #[x])(s:bJ A R w [x] a)(H:∀r,r<w.heap.size->S r->¬A r/\¬R r)(J:∀I,af S w I->bJ (λr=>S r\/A r) R I [v] (l.set i a)->K () I):ab P (Z0 t v (.int C y)) w λp=>aH P (n9 e p x) w K:=by
 subst E;obtain⟨g,cap,full,T,rfl,L,M,N,O⟩:=Rh h q;rw[j]at N;rw[fd F hi q λ_=>rfl];refine bq (o:=0+i*1) hi G (av.one s x (.head _)) L Ω λI B _ Q=>J I (B.Y λr _ f=>by have f:r=g:=f;subst f;exact M) (O s H I B ?_);rw[j,W0]at*;exact Q
end
end Go.Vc
namespace Go.Proofs.YtnhkbjhpbbobaaaGreatDoor
open Go Go.Vc Go.RowKit Go.Proofs Go.Proofs.Tryz
set_option maxRecDepth 100000
abbrev kL:Type:=(Rd (Λ)×Rd (Λ)×Λ)×Bool
abbrev pO:Type:=Int×Rd (Λ)×Rd (Λ)
def km(f:ch):kL:=((f.sc,f.ai,f.cs),decide (f.live≠0))
def FE(e:u0):pO:=(e.v,e.sc,e.qI)
def ce(m:Bool)(A:Nat->ah)(R:ah)(w:x4)(cs:List x1)(k:Int)(co:Λ)(zero:Int)(D:List (Λ))(G:List Bool)(a1:List (Λ))(H:List kL)(E:List pO):Prop:=
 ∃d9 a e f h p,cs=[Δ k,d9,Δ zero,a,e,f,h,p]/\Seen R w [d9] co/\
 av.rep m (A 0) R w [a] D/\av.rep m (A 1) R w [e] G/\av.rep m (A 2) R w [f] a1/\av.rep m (A 3) R w [h] H/\av.rep m (A 4) R w [p] E/\
 (m=ro->(∀i j r,i≠j->A i r->¬A j r)/\∀i r,A i r->¬R r)
abbrev jQ(m:Bool)(A:Nat->ah)(R:ah)(w:x4)(cs:List x1)(k:Int)(co:Λ)(s:am):Prop:=
 ce m A R w cs k co s.zero (s.d6.map aC) (s.d6.map λx=>decide (x.gone≠0)) (s.d6.map (·.un)) (s.d7.map km) (s.dc.map FE)
def ja(w:x4)(v:x1)(k:Int)(co:Λ)(s:am):Prop:=∃cs,v= .agg cs.toArray/\jQ rs (λ_ _=>False) eT w cs k co s
def jR(A:Nat->ah)(i:Nat)(B:ah):Nat->ah:=λj=>if j=i then B else A j
section
variable{m:Bool}{A:Nat->ah}{R:ah}{w I:x4}{cs:List x1}{k zero:Int}{co:Λ}{D:List (Λ)}{G:List Bool}{a1:List (Λ)}{H:List kL}{E:List pO}{s:am}
theorem ce.len(h:ce m A R w cs k co zero D G a1 H E):cs.length=8/\∀u∈cs,u.oneCell'=ro:=by
 obtain⟨d9,q,r,s,x,y,rfl,h1,a,e,f,j,p,_⟩:=h;refine⟨rfl,λu hu=>?_⟩;simp only[V4,List.not_mem_nil,or_false]at hu;rcases hu with rfl|rfl|rfl|rfl|rfl|rfl|rfl|rfl
 .rfl
 .exact gY h1
 .rfl
 .exact gY a
 .exact gY e
 .exact gY f
 .exact gY j
 .exact gY p
theorem ce.V{T:ah}(h:ce m A R w cs k co zero D G a1 H E)(a:af T w I)(f:∀r,r<w.heap.size->(∃i,A i r)\/R r->¬T r):ce m A R I cs k co zero D G a1 H E:=by
 obtain⟨d9,j,p,q,s,x,rfl,h1,y,z,B,C,F,J⟩:=h;have ao:∀i r,r<w.heap.size->A i r\/R r->¬T r:=λi r e h=>f r e (h.imp (λh=>⟨i,h⟩) id);exact⟨d9,j,p,q,s,x,rfl,av.V h1 a λr e h=>f r e (h.elim False.elim .inr),av.V y a (ao 0),av.V z a (ao 1),av.V B a (ao 2),av.V C a (ao 3),av.V F a (ao 4),J⟩
theorem ce.W(h:ce m A R w cs k co zero D G a1 H E)(a:Ext w I):ce m A R I cs k co zero D G a1 H E:=h.V (a.V λ_=>False) λ_ _ _ h=>h
theorem jQ.yN(h:jQ m A R w cs k co s):ja w (.agg cs.toArray) k co s:=by
 obtain⟨d9,a,e,f,j,p,rfl,h1,q,r,x,y,z,B⟩:=h;exact⟨_,rfl,d9,a,e,f,j,p,rfl,ky h1,ky q,ky r,ky x,ky y,ky z,λh=>by cases h⟩
theorem ce.old(h:ce ro A R w cs k co zero D G a1 H E):ce ro (λi r=>A i r/\r<w.heap.size) R w cs k co zero D G a1 H E:=by
 obtain⟨d9,f,p,q,s,x,rfl,h1,a,y,z,B,C,e⟩:=h;obtain⟨e,F⟩:=e rfl;have hm:∀i r,r<w.heap.size->A i r->A i r/\r<w.heap.size:=λi r I h=>⟨h,I⟩;exact⟨d9,f,p,q,s,x,rfl,h1,av.Y a (hm 0) λ_ _ h=>h,av.Y y (hm 1) λ_ _ h=>h,av.Y z (hm 2) λ_ _ h=>h,av.Y B (hm 3) λ_ _ h=>h,av.Y C (hm 4) λ_ _ h=>h,
  λ_=>⟨λi j r J h1 a=>e i j r J h1.1 a.1,λi r h=>F i r h.1⟩⟩
theorem vo{i:Nat}{B:ah}(h:∀i j r,i≠j->A i r->¬A j r)(e:∀j r,j≠i->B r->¬A j r):∀p q r,p≠q->jR A i B p r->¬jR A i B q r:=λp q r f h1 a=>by
 unfold jR at h1 a;split at h1<;>split at a
 .omega
 .exact e q r (by assumption) h1 a
 .exact e p r (by assumption) a h1
 .exact h p q r f h1 a
theorem vp{i:Nat}{B:ah}(h:∀i r,A i r->¬R r)(a:∀r,B r->¬R r):∀p r,jR A i B p r->¬R r:=λp r h1=>by
 unfold jR at h1;split at h1
 .exact a r h1
 .exact h p r h1
theorem ce.FF{B:ah}{x:x1}{D':List (Λ)}(h:ce ro A R w cs k co zero D G a1 H E){T:ah}(e:af T w I)(p:∀r,T r->A 0 r\/(∀j,¬A j r)/\¬R r)(y:bJ B R I [x] D')(z:∀j r,j≠0->B r->¬A j r)(C:∀r,B r->¬R r):ce ro (jR A 0 B) R I (cs.set 3 x) k co zero D' G a1 H E:=by
 obtain⟨d9,S,F,J,K,L,rfl,h1,a,M,N,O,P,f⟩:=h;obtain⟨f,q⟩:=f rfl;have s:∀r,R r->¬T r:=λr h a=>(p r a).elim (λa=>q 0 r a h) λa=>a.2 h;have ao:∀j r,j≠0->r<w.heap.size->A j r\/R r->¬T r:=λj r Q _ h a=>h.elim (λh=>(p r a).elim (λa=>f j 0 r Q h a) λa=>a.1 j h) λh=>s r h a;refine⟨d9,x,F,J,K,L,rfl,av.V h1 e λr _ h=>h.elim False.elim (s r),?_,?_,?_,?_,?_,λ_=>⟨vo f z,vp q C⟩⟩
 .exact y
 .exact av.V M e λr=>ao 1 r Ω
 .exact av.V N e λr=>ao 2 r Ω
 .exact av.V O e λr=>ao 3 r Ω
 .exact av.V P e λr=>ao 4 r Ω
theorem ce.Ri{B:ah}{x:x1}{p:List Bool}(h:ce ro A R w cs k co zero D G a1 H E){T:ah}(e:af T w I)(q:∀r,T r->A 1 r\/(∀j,¬A j r)/\¬R r)(z:bJ B R I [x] p)(C:∀j r,j≠1->B r->¬A j r)(F:∀r,B r->¬R r):ce ro (jR A 1 B) R I (cs.set 4 x) k co zero D p a1 H E:=by
 obtain⟨d9,J,S,K,L,M,rfl,h1,a,U,N,O,P,f⟩:=h;obtain⟨f,s⟩:=f rfl;have y:∀r,R r->¬T r:=λr h a=>(q r a).elim (λa=>s 1 r a h) λa=>a.2 h;have ao:∀j r,j≠1->r<w.heap.size->A j r\/R r->¬T r:=λj r Q _ h a=>h.elim (λh=>(q r a).elim (λa=>f j 1 r Q h a) λa=>a.1 j h) λh=>y r h a;refine⟨d9,J,x,K,L,M,rfl,av.V h1 e λr _ h=>h.elim False.elim (y r),?_,?_,?_,?_,?_,λ_=>⟨vo f C,vp s F⟩⟩
 .exact av.V a e λr=>ao 0 r Ω
 .exact z
 .exact av.V N e λr=>ao 2 r Ω
 .exact av.V O e λr=>ao 3 r Ω
 .exact av.V P e λr=>ao 4 r Ω
theorem ce.l2{B:ah}{x:x1}{p:List (Λ)}(h:ce ro A R w cs k co zero D G a1 H E){T:ah}(e:af T w I)(q:∀r,T r->A 2 r\/(∀j,¬A j r)/\¬R r)(z:bJ B R I [x] p)(C:∀j r,j≠2->B r->¬A j r)(F:∀r,B r->¬R r):ce ro (jR A 2 B) R I (cs.set 5 x) k co zero D G p H E:=by
 obtain⟨d9,J,K,S,L,M,rfl,h1,a,N,U,O,P,f⟩:=h;obtain⟨f,s⟩:=f rfl;have y:∀r,R r->¬T r:=λr h a=>(q r a).elim (λa=>s 2 r a h) λa=>a.2 h;have ao:∀j r,j≠2->r<w.heap.size->A j r\/R r->¬T r:=λj r Q _ h a=>h.elim (λh=>(q r a).elim (λa=>f j 2 r Q h a) λa=>a.1 j h) λh=>y r h a;refine⟨d9,J,K,x,L,M,rfl,av.V h1 e λr _ h=>h.elim False.elim (y r),?_,?_,?_,?_,?_,λ_=>⟨vo f C,vp s F⟩⟩
 .exact av.V a e λr=>ao 0 r Ω
 .exact av.V N e λr=>ao 1 r Ω
 .exact z
 .exact av.V O e λr=>ao 3 r Ω
 .exact av.V P e λr=>ao 4 r Ω
theorem ce.l3{B:ah}{x:x1}{p:List kL}(h:ce ro A R w cs k co zero D G a1 H E){T:ah}(e:af T w I)(q:∀r,T r->A 3 r\/(∀j,¬A j r)/\¬R r)(z:bJ B R I [x] p)(C:∀j r,j≠3->B r->¬A j r)(F:∀r,B r->¬R r):ce ro (jR A 3 B) R I (cs.set 6 x) k co zero D G a1 p E:=by
 obtain⟨d9,J,K,L,S,M,rfl,h1,a,N,O,U,P,f⟩:=h;obtain⟨f,s⟩:=f rfl;have y:∀r,R r->¬T r:=λr h a=>(q r a).elim (λa=>s 3 r a h) λa=>a.2 h;have ao:∀j r,j≠3->r<w.heap.size->A j r\/R r->¬T r:=λj r Q _ h a=>h.elim (λh=>(q r a).elim (λa=>f j 3 r Q h a) λa=>a.1 j h) λh=>y r h a;refine⟨d9,J,K,L,x,M,rfl,av.V h1 e λr _ h=>h.elim False.elim (y r),?_,?_,?_,?_,?_,λ_=>⟨vo f C,vp s F⟩⟩
 .exact av.V a e λr=>ao 0 r Ω
 .exact av.V N e λr=>ao 1 r Ω
 .exact av.V O e λr=>ao 2 r Ω
 .exact z
 .exact av.V P e λr=>ao 4 r Ω
theorem ce.Rj{z:Int}(h:ce m A R w cs k co zero D G a1 H E):ce m A R w (cs.set 2 (Δ z)) k co z D G a1 H E:=by
 obtain⟨d9,a,e,f,j,p,rfl,h1,q,r,s,x,y,B⟩:=h;exact⟨d9,a,e,f,j,p,rfl,h1,q,r,s,x,y,B⟩
end
theorem vq{α:Type}[av α]{st t L:p9}{pl:List (Nat×Nat)}{gs c q b M:Nat}{N y v:x1}{box:List x1}{S A R:ah}{l:List α}{a:α}{K:x4->Prop}(ac:bE x8 st pl)(O:pl[c]?=σ (c,q+1))(P:x8.underlying t=σ (.slice e))(Q:aP x8 t 1 M N)(hi:aP x8 e (av.n α) b z)(T:z.cells.size=av.n α)(C:ag w gs st box)(U:box[c]?=σ v)(h:bJ S R w [v] l)(J:cg w (av.n α) y 1 cs)(W:bJ A R w cs a)(X:∀r,r<w.heap.size->S r->¬A r/\¬R r)(p:¬S gs/\¬A gs/\¬R gs)(ai:(l.length+1)*b<=140737488355328)(aj:l.length+1<=1000000)(Y:∀j I,af (λr=>S r\/r=gs) w I->ag I gs st (box.set c j)->bJ (λr=>S r\/A r\/w.heap.size<=r) R I [j] (l++[a])->K I):
  aH x8 (Y0 #[t,t] L #[v,y]) w λj aa=>ab x8 (u7 st (Γ gs) c) aa λZ=>aH x8 (n9 t Z j) aa λ_ s=>K s:=by
 have ad:=(x5.1 U).1;refine pg P hi T h J W (λr E J f=>?_) Ω Ω λj aa x F=>?_
 .have:=X r E J;exact f.elim this.1 this.2
 have ae:=C.V F p.1;rw[aT ac O];refine bq (o:=0+c) Q (rt x) (gY x) ae (by rw[W0];exact ad) λs G ak H=>?_;refine Y j s ((F.Y λr _ h=>.inl h).F (G.Y λr _ h=>.inr h)) (by rw[W0]at H;exact H) (av.V x G λr E f B=>?_);have B:r=gs:=B;subst B;have al:=C.lt;rcases f with f|f
 .rcases f with f|f|f
  .exact p.1 f
  .exact p.2.1 f
  .omega
 .exact p.2.2 f
section
variable{A:Nat->ah}{B R:ah}{w:x4}{cs xs:List x1}{gs:Nat}{y v:x1}{k zero:Int}{co:Λ}{D:List (Λ)}{G:List Bool}{a1:List (Λ)}{H:List kL}{E:List pO}{K:x4->Prop}
theorem ce.Rk(h:ce ro A R w cs k co zero D G a1 H E)(L:ag w gs a6 cs)(x:cs[3]?=σ v)(f:∀j r,A j r->gs<r)(s:∀r,R r->r<gs)(J:cg w 1 y 1 xs)(V:bJ B R w xs a)(q:∀r,r<w.heap.size->B r->(∀j,¬A j r)/\gs<r)(ak:D.length<=1000)(W:∀aK cd I,af (λr=>gs<=r) w I->ag I gs a6 cd->ce ro aK R I cd k co zero (D++[a]) G a1 H E->(∀j r,aK j r->gs<r)->(∀j,j≠3->cd[j]?=cs[j]?)->K I):
  aH x8 (Y0 #[dn,dn] U #[v,y]) w λM aa=>ab x8 (u7 a6 (Γ gs) 3) aa λX=>aH x8 (n9 dn X M) aa λ_ z=>K z:=by
 have N:=h.old;have Y:=L.lt;obtain⟨d9,Z,al,am,an,O,ac,h1,ad,ao,ap,au,aw,C⟩:=id N;obtain⟨C,P⟩:=C rfl;have O:v=Z:=by rw[ac]at x;exact(Z6 x).symm
 subst O;have ae:bJ (λr=>B r/\r<w.heap.size) R w xs a:=av.Y V (λr e h=>⟨h,e⟩) λ_ _ h=>h;refine vq a6.p rfl dn.u dn.i aq.i rfl L x ad J ae (λr e Q=>⟨λah=>(q r e ah.1).1 0 Q.1,P 0 r Q⟩) ⟨λh=>by have:=f 0 gs h.1;omega,λh=>by have:=(q gs Y h.1).2;omega,λh=>by have:=s gs h;omega⟩ Ω Ω λM z S ai aj=>?_;refine W _ _ z (S.Y λr _ h=>h.elim (λh=>by have:=f 0 r h.1;omega) λh=>Ω) ai (N.FF S (λr e=>?_) aj (λj r F e=>?_) λr e=>?_) (λj r e=>?_) λj F=>?_
 .rcases e with e|rfl
  .exact .inl e
  .exact .inr ⟨λj h=>by have:=f j r h.1;omega,λh=>by have:=s r h;omega⟩
 .rcases e with e|e|e
  .exact C 0 j r (Ne.symm F) e
  .exact λh=>(q r e.2 e.1).1 j h.1
  .exact λh=>by have:=h.2;omega
 .rcases e with e|e|e
  .exact P 0 r e
  .exact λh=>by have:=(q r e.2 e.1).2;have:=s r h;omega
  .exact λh=>by have:=s r h;omega
 .unfold jR at e;split at e
  .rcases e with e|e|e
   .exact f 0 r e.1
   .exact (q r e.2 e.1).2
   .omega
  .exact f j r e.1
 .rw[Z9 (Ne.symm F)]
theorem ce.Rl{a:Bool}(h:ce ro A R w cs k co zero D G a1 H E)(L:ag w gs a6 cs)(x:cs[4]?=σ v)(f:∀j r,A j r->gs<r)(s:∀r,R r->r<gs)(J:cg w 1 y 1 xs)(V:bJ B R w xs a)(q:∀r,r<w.heap.size->B r->(∀j,¬A j r)/\gs<r)(ak:G.length<=1000)(W:∀aK cd I,af (λr=>gs<=r) w I->ag I gs a6 cd->ce ro aK R I cd k co zero D (G++[a]) a1 H E->(∀j r,aK j r->gs<r)->(∀j,j≠4->cd[j]?=cs[j]?)->K I):
  aH x8 (Y0 #[kY,kY] U #[v,y]) w λM aa=>ab x8 (u7 a6 (Γ gs) 4) aa λX=>aH x8 (n9 kY X M) aa λ_ z=>K z:=by
 have N:=h.old;have Y:=L.lt;obtain⟨d9,al,Z,am,an,O,ac,h1,ao,ad,ap,aq,au,C⟩:=id N;obtain⟨C,P⟩:=C rfl;have O:v=Z:=by rw[ac]at x;exact(Z6 x).symm
 subst O;have ae:bJ (λr=>B r/\r<w.heap.size) R w xs a:=av.Y V (λr e h=>⟨h,e⟩) λ_ _ h=>h;refine vq a6.p rfl kY.u kY.i ed.i rfl L x ad J ae (λr e Q=>⟨λah=>(q r e ah.1).1 1 Q.1,P 1 r Q⟩) ⟨λh=>by have:=f 1 gs h.1;omega,λh=>by have:=(q gs Y h.1).2;omega,λh=>by have:=s gs h;omega⟩ Ω Ω λM z S ai aj=>?_;refine W _ _ z (S.Y λr _ h=>h.elim (λh=>by have:=f 1 r h.1;omega) λh=>Ω) ai (N.Ri S (λr e=>?_) aj (λj r F e=>?_) λr e=>?_) (λj r e=>?_) λj F=>?_
 .rcases e with e|rfl
  .exact .inl e
  .exact .inr ⟨λj h=>by have:=f j r h.1;omega,λh=>by have:=s r h;omega⟩
 .rcases e with e|e|e
  .exact C 1 j r (Ne.symm F) e
  .exact λh=>(q r e.2 e.1).1 j h.1
  .exact λh=>by have:=h.2;omega
 .rcases e with e|e|e
  .exact P 1 r e
  .exact λh=>by have:=(q r e.2 e.1).2;have:=s r h;omega
  .exact λh=>by have:=s r h;omega
 .unfold jR at e;split at e
  .rcases e with e|e|e
   .exact f 1 r e.1
   .exact (q r e.2 e.1).2
   .omega
  .exact f j r e.1
 .rw[Z9 (Ne.symm F)]
theorem ce.Rm(h:ce ro A R w cs k co zero D G a1 H E)(L:ag w gs a6 cs)(x:cs[5]?=σ v)(f:∀j r,A j r->gs<r)(s:∀r,R r->r<gs)(J:cg w 1 y 1 xs)(V:bJ B R w xs a)(q:∀r,r<w.heap.size->B r->(∀j,¬A j r)/\gs<r)(ak:a1.length<=1000)(W:∀aK cd I,af (λr=>gs<=r) w I->ag I gs a6 cd->ce ro aK R I cd k co zero D G (a1++[a]) H E->(∀j r,aK j r->gs<r)->(∀j,j≠5->cd[j]?=cs[j]?)->K I):
  aH x8 (Y0 #[ev,ev] U #[v,y]) w λM aa=>ab x8 (u7 a6 (Γ gs) 5) aa λX=>aH x8 (n9 ev X M) aa λ_ z=>K z:=by
 have N:=h.old;have Y:=L.lt;obtain⟨d9,al,am,Z,an,O,ac,h1,ao,ap,ad,aq,au,C⟩:=id N;obtain⟨C,P⟩:=C rfl;have O:v=Z:=by rw[ac]at x;exact(Z6 x).symm
 subst O;have ae:bJ (λr=>B r/\r<w.heap.size) R w xs a:=av.Y V (λr e h=>⟨h,e⟩) λ_ _ h=>h;refine vq a6.p rfl ev.u ev.i ax.i rfl L x ad J ae (λr e Q=>⟨λah=>(q r e ah.1).1 2 Q.1,P 2 r Q⟩) ⟨λh=>by have:=f 2 gs h.1;omega,λh=>by have:=(q gs Y h.1).2;omega,λh=>by have:=s gs h;omega⟩ Ω Ω λM z S ai aj=>?_;refine W _ _ z (S.Y λr _ h=>h.elim (λh=>by have:=f 2 r h.1;omega) λh=>Ω) ai (N.l2 S (λr e=>?_) aj (λj r F e=>?_) λr e=>?_) (λj r e=>?_) λj F=>?_
 .rcases e with e|rfl
  .exact .inl e
  .exact .inr ⟨λj h=>by have:=f j r h.1;omega,λh=>by have:=s r h;omega⟩
 .rcases e with e|e|e
  .exact C 2 j r (Ne.symm F) e
  .exact λh=>(q r e.2 e.1).1 j h.1
  .exact λh=>by have:=h.2;omega
 .rcases e with e|e|e
  .exact P 2 r e
  .exact λh=>by have:=(q r e.2 e.1).2;have:=s r h;omega
  .exact λh=>by have:=s r h;omega
 .unfold jR at e;split at e
  .rcases e with e|e|e
   .exact f 2 r e.1
   .exact (q r e.2 e.1).2
   .omega
  .exact f j r e.1
 .rw[Z9 (Ne.symm F)]
theorem ce.Rn{a:kL}(h:ce ro A R w cs k co zero D G a1 H E)(L:ag w gs a6 cs)(x:cs[6]?=σ v)(f:∀j r,A j r->gs<r)(s:∀r,R r->r<gs)(J:cg w 4 y 1 xs)(V:bJ B R w xs a)(q:∀r,r<w.heap.size->B r->(∀j,¬A j r)/\gs<r)(ak:H.length<=1000)(W:∀aK cd I,af (λr=>gs<=r) w I->ag I gs a6 cd->ce ro aK R I cd k co zero D G a1 (H++[a]) E->(∀j r,aK j r->gs<r)->(∀j,j≠6->cd[j]?=cs[j]?)->K I):
  aH x8 (Y0 #[fm,fm] U #[v,y]) w λM aa=>ab x8 (u7 a6 (Γ gs) 6) aa λX=>aH x8 (n9 fm X M) aa λ_ z=>K z:=by
 have N:=h.old;have Y:=L.lt;obtain⟨d9,al,am,an,Z,O,ac,h1,ao,ap,aq,ad,au,C⟩:=id N;obtain⟨C,P⟩:=C rfl;have O:v=Z:=by rw[ac]at x;exact(Z6 x).symm
 subst O;have ae:bJ (λr=>B r/\r<w.heap.size) R w xs a:=av.Y V (λr e h=>⟨h,e⟩) λ_ _ h=>h;refine vq a6.p rfl fm.u fm.i ew.i rfl L x ad J ae (λr e Q=>⟨λah=>(q r e ah.1).1 3 Q.1,P 3 r Q⟩) ⟨λh=>by have:=f 3 gs h.1;omega,λh=>by have:=(q gs Y h.1).2;omega,λh=>by have:=s gs h;omega⟩ Ω Ω λM z S ai aj=>?_;refine W _ _ z (S.Y λr _ h=>h.elim (λh=>by have:=f 3 r h.1;omega) λh=>Ω) ai (N.l3 S (λr e=>?_) aj (λj r F e=>?_) λr e=>?_) (λj r e=>?_) λj F=>?_
 .rcases e with e|rfl
  .exact .inl e
  .exact .inr ⟨λj h=>by have:=f j r h.1;omega,λh=>by have:=s r h;omega⟩
 .rcases e with e|e|e
  .exact C 3 j r (Ne.symm F) e
  .exact λh=>(q r e.2 e.1).1 j h.1
  .exact λh=>by have:=h.2;omega
 .rcases e with e|e|e
  .exact P 3 r e
  .exact λh=>by have:=(q r e.2 e.1).2;have:=s r h;omega
  .exact λh=>by have:=s r h;omega
 .unfold jR at e;split at e
  .rcases e with e|e|e
   .exact f 3 r e.1
   .exact (q r e.2 e.1).2
   .omega
  .exact f j r e.1
 .rw[Z9 (Ne.symm F)]
end
theorem ox{R:ah}{v:x1}{g:Nat}(h:aA .i64 e w g v l):bJ (λr=>lc v r) R w [v] l:=by
 have h1:=ph (R:=R) h;by_cases f:v= .slice ν 0 0
 .subst f;have:l=[]:=by
   obtain⟨j,⟨_,a⟩|⟨_,_,a,_⟩⟩:=h
   .exact c9 a
   .cases a
  subst this;exact iM
 .obtain⟨j,⟨a,_⟩|⟨cap,cs,a,_⟩⟩:=id h
  .exact m6 a f
  .refine av.Y h1 (λr _ p=>?_) λ_ _ h=>h;rw[a];exact⟨_,_,_,rfl,p.symm⟩
theorem yO{R:ah}{v:x1}{g:Nat}(e:∀r c,B<=r->ag w r aj c->R r)(h:aA .i64 aj w g v l)(f:∀r,lc v r->B<=r):Seen R w [v] l:=rr (ox (R:=λ_=>False) h) λr p a=>by
 rcases a with a|a
 .obtain⟨c,j⟩:=sx h r a;exact e r c (f r a) j
 .exact a.elim
theorem Ro{R:ah}{zero:Int}{d9:x1}(h:Seen R w [d9] co):ce ro (λ_ _=>False) R w [Δ k,d9,Δ zero,.slice ν 0 0,.slice ν 0 0,.slice ν 0 0,.slice ν 0 0,.slice ν 0 0] k co zero [] [] [] [] []:=
 ⟨_,_,_,_,_,_,rfl,h,iM,iM,iM,iM,iM,λ_=>⟨λ_ _ _ _ h=>h.elim,λ_ _ h=>h.elim⟩⟩
theorem ce.at{m:Bool}{A:Nat->ah}{R:ah}{zero:Int}{D:List (Λ)}{G:List Bool}{a1:List (Λ)}{H:List kL}{E:List pO}(h:ce m A R w cs k co zero D G a1 H E)(c:Nat)(a:c<8):∃v,cs[c]?=σ v:=⟨_,x7 (by rw[h.len.1];exact a)⟩
def Rp(R:ah)(w:x4)(e gt gs:Nat)(n:aI)(f:List x1)(i j:Nat)(a:x4):Prop:=Ext w a/\ag a e dV f/\ag a gt a6 z12/\∃A cs,ag a gs a6 cs/\(∀q r,A q r->gs<r)/\
 ce ro A R a cs n.k n.co n.zero ((n.unary.take i).map λu=>aC (newVar u)) (o4 i rs) (n.unary.take i) ((n.d7.take j).map λg=>km (lX n.co g)) []
theorem FG{bE:x1}{n:aI}{R:ah}(aw:∀r,R r->r<w.heap.size)(a2:∀r c,B<=r->ag w r aj c->R r)(cz:yp w B bE n)(ad:lg n)(dY:n.d7.length<=256):al x8 Is [bE] w λv I=>Ext w I/\∃A cs,v= .agg cs.toArray/\jQ ro A R I cs n.k n.co (dh n)/\∀q r,A q r->w.heap.size<=r:=by
 have dZ:=ad.co.2.1;have cA:=ad.lW;refine aB func63 ?_;refine bo λg1 U ea a7 cB=>?_;obtain⟨d9,gz,cC,eb,bF,cD,ec,ba,ay,az,cE,bG,bb,cF,bH,cG,bK⟩:=QC cz cB;refine bB a6.i λgt aa ee aE aG=>?_;have aG:ag aa gt a6 z12:=aG;have bc:=ay.W aE;rw[aL dV.p 0 bc rfl,aL dV.p 1 bc rfl,aL dV.p 2 bc rfl,
  di (cs:=#[Δ n.k,d9,Δ n.zero,.slice ν 0 0,.slice ν 0 0,.slice ν 0 0,.slice ν 0 0,.slice ν 0 0]) (by obtain⟨_,_,_,e⟩:=dr az.ls;rw[e];kernel_rfl)]
 refine bB a6.i λgs ef eg aH cH=>?_;have cI:Seen R w [d9] n.co:=yO a2 az cG;have eh:=a7.size;have ei:=aE.size;have z3:=aH.size;have cJ:=(a7.F aE).F aH;have bL:=Ro (k:=n.k) (zero:=n.zero) (bS cI cJ);refine b4 (vs:=[Δ n.k,d9,Δ n.zero,.slice ν 0 0,.slice ν 0 0,.slice ν 0 0,.slice ν 0 0,.slice ν 0 0]) a6.i rfl rfl bL.len.2 cH λej bd ek cK=>?_;have em:=aG.lt;have en:=ay.lt;have cL:gt≠gs:=Ω
 have be:=(aE.F aH).put bd Ω;have bM:=a7.F be;have cM:=(aG.W aH).V bd λhe=>cL he;have eo:w.heap.size<gs:=Ω
 rw[aL dV.p 1 (ay.W be) rfl,aY aq.u (az.W bM).ls];have cN:=bL.V bd λr f h he=>by
  have he:r=gs:=he;rcases h with⟨_,h⟩|h
  .exact h
  .have:=aw r h;omega
 refine bZ.range n.co.length (λi O=>Rp R w g1 gt gs n [Δ n.k,d9,Δ n.zero,cC,cD] i 0 O) Ω ⟨bM,ay.W be,cM,_,_,cK,(λ_ _ h=>h.elim),cN⟩ ?_ ?_
 .rintro i O cO hi ⟨P,bf,bg,A,cs,ae,bh,aJ⟩ cP;obtain⟨z,bj⟩:=aF (l:=n.co) hi;obtain⟨u,hu⟩:=aF (l:=n.unary) (i:=i) Ω;have ep:=ad.co.2.2 z (x6 bj);obtain⟨er,_⟩:=ad.unary i z u bj hu;refine bI Ω ?_;rw[bi aq.u aj.i Ψ (az.W P).ls bj];obtain⟨bN,rfl⟩:∃m:Nat,z=m:=⟨z.toNat,Ω⟩;refine cb.range bN (λj ai aK=>Ext O aK/\∃g,aA .i64 aj aK g ai ((W3 j).map λv:Nat=>(v:Int))/\∀r,lc ai r->O.heap.size<=r) Ω
   ⟨Ext.refl _,0,aA.nil _ _ _ _,λr f=>by obtain⟨a,n,c,J,Q⟩:=f;cases J⟩ ?_ ?_
  .rintro j ai aK bk bl ⟨K,cQ,S,aM⟩ bm;refine bI Ω ?_;refine eB aq.u aj.i rfl λes et cR eu H cS=>?_;refine ii aq.u aj.i rfl (S.W H) cS.ls Θ Θ λey cT cU cV cW W=>?_;rw[aO];have cY:=K.size;have cZ:=H.size;refine bm _ _ ⟨(K.F H).then W λr f he=>by have:=aM r he;omega,cT,?_,λr f=>(cW r f).elim (aM r) λh=>Ω⟩;rw[List.range_succ,Z5];exact cV
  rintro ai aK bk ⟨K,cQ,S,aM⟩;refine cc Ω ?_;have c0:(W3 bN).map (λv:Nat=>(v:Int))=aC (newVar u):=by rw[QD];congr 2;omega
  rw[c0]at S;have cY:=K.size;have ez:=P.size;have eA:=ae.lt;have ak:∀r,R r->r<gs:=λr f=>by have:=aw r f;omega
  have low:∀{s C:x4}{b:Nat}{e:p9}{c:List x1},af (λr=>gs<=r) s C->b<gs->ag s b e c->ag C b e c:=λL c1 h=>h.V L λX=>by have X:=X;omega
  have am:∀{s C:x4},Ext w s->af (λr=>gs<=r) s C->Ext w C:=λbn L=>bn.then L λr f h=>by have h:=h;omega
  have bO:=aJ.old.W K;have c2:∀q r,(A q r/\r<O.heap.size)->gs<r:=λq r h=>bh q r h.1;obtain⟨eC,bP⟩:=bO.at 3 Ω;rw[aL a6.p 3 (ae.W K) bP];refine lM dn.u aq.i Φ (a:=aC (newVar u)) (cs:=[ai]) S.ls.cells.1 (ox (R:=R) S) λeD cR H _ c3=>?_;have cZ:=H.size;have aN:=K.F H;refine ce.Rk (bO.W H) (ae.W aN) bP c2 ak c3 (bS (ox S) H) (λr f h=>?_) Θ λeE eF cU W bQ bR c4 _=>?_
  .have:=aM r h;exact⟨λj h=>Ω,Ω⟩
  have eH:=W.size;obtain⟨eI,bT⟩:=bR.at 4 Ω;rw[aL a6.p 4 bQ bT];refine lM (a:=rs) (cs:=[.bool rs]) (A:=λ_=>False) (R:=R) kY.u ed.i Φ rfl rfl λeJ eK Y _ c5=>?_;refine ce.Rl (B:=λ_=>False) (bR.W Y) (bQ.W Y) bT c4 ak c5 rfl (λr f h=>h.elim) Θ λc6 eL bU aP bW c7 c8 _=>?_;have z9:=Y.size;have eM:=aP.size;have c9:Ext w bU:=am ((am (P.F aN) W).F Y) aP;have da:=low aP Ω ((low W Ω (bf.W aN)).W Y);have db:=low aP Ω ((low W Ω (bg.W aN)).W Y);intro bp Z _ _;have bX:=bW.W Z;have bY:=da.W Z;have b0:=c9.F Z;obtain⟨ab,aQ⟩:∃ab,bF[i]?=σ ab:=⟨_,x7 (by have:=congrArg R6 bG;rw[u9]at this;omega)⟩;have dc:ab.l=u:=by
   have b1:(bF.map (·.l))[i]?=σ ab.l:=by rw[v8,aQ];rfl
   rw[bG,hu]at b1;exact(Z6 b1).symm
  have bq:=cE.W b0;obtain⟨eN,b2⟩:=bq.2 ab (x6 aQ);rw[dc]at b2;have b3:=c7.old.W Z;have dd:∀q r,(c6 q r/\r<bU.heap.size)->gs<r:=λq r h=>c8 q r h.1;obtain⟨eO,b5⟩:=b3.at 5 Ω;rw[aL a6.p 5 bX b5,aL dV.p 3 bY rfl,b7 rfl ev.u ax.i bq.1 (x5.1 aQ).1,aD (v:=ab.v) (o:=i*1) Ψ (bq.1.range aQ 0 _ rfl)];refine ys (k:=.i64) ax.u au.i λde eP eQ eR aR b6=>?_;refine⟨.inl aR,?_⟩;refine ii ax.u au.i rfl b6 (b2.W aR).ls Θ Θ λb8 eS df aS dg dj=>?_;rw[List.nil_append]at aS;have eU:=Z.size;have eV:=aR.size;have b9:∀r,lc de r->bp.heap.size<=r:=λr f=>by have:=(bV b6 f).1;omega
  have dk:∀r,lc b8 r->bp.heap.size<=r:=λr f=>(dg r f).elim (b9 r) λh=>Ω
  have br:Ext bp df:=aR.then dj λr f he=>by have:=b9 r he;omega
  refine⟨.inl br,?_⟩;have eW:=br.size;refine lM ev.u ax.i Φ (a:=u) (cs:=[b8]) aS.ls.cells.1 (ox (R:=R) aS) λeX eY bs _ dl=>?_;have eZ:=bs.size;have ac:=br.F bs;refine⟨.inl ac,?_⟩;refine ce.Rm (b3.W ac) (bX.W ac) b5 dd ak dl (bS (ox (R:=R) aS) bs) (λr f h=>?_) Θ λdm dp e0 bt dq ds dt _=>?_
  .have:=dk r h;have:=bW.lt;exact⟨λj h=>Ω,Ω⟩
  rw[aO];refine cP _ ⟨am (b0.F ac) bt,low bt Ω (bY.W ac),low bt Ω ((db.W Z).W ac),dm,dp,dq,dt,?_⟩;rw[r8,hu,o9,Z5,T3,List.map_nil,List.replicate_succ'];exact ds
 rintro O cO ⟨P,bf,bg,A,cs,ae,bh,aJ⟩;refine cc Ω ?_;rw[j5 Ω]at aJ;have e1:ba.length=n.d7.length:=by rw[<-bH,u9]
 have du:=bb.W P;rw[aL dV.p 4 bf rfl,dE cX.u du];have ak:∀r,R r->r<gs:=λr f=>by have:=aw r f;omega
 have low:∀{s C:x4}{b:Nat}{e:p9}{c:List x1},af (λr=>gs<=r) s C->b<gs->ag s b e c->ag C b e c:=λL c1 h=>h.V L λX=>by have X:gs<=_:=X;omega
 have am:∀{s C:x4},Ext w s->af (λr=>gs<=r) s C->Ext w C:=λbn L=>bn.then L λr f h=>by have h:gs<=r:=h;omega
 refine bZ.range ba.length (λj G=>Ext w G/\ag G gt a6 z12/\∃A cs,ag G gs a6 cs/\(∀q r,A q r->gs<r)/\
  ce ro A R G cs n.k n.co n.zero (n.unary.map λu=>aC (newVar u)) (o4 n.co.length rs) n.unary ((n.d7.take j).map λg=>km (lX n.co g)) []) bb.le ⟨P,bg,A,cs,ae,bh,aJ⟩ ?_ ?_
 .rintro j G bk bl ⟨M,bu,bw,aT,aV,aW,an⟩ bm;obtain⟨y,ao⟩:=aF (l:=ba) bl;have ca:n.d7[j]?=σ (dK y):=by rw[<-bH,v8,ao];rfl
  have cd:=(ad.d7 (dK y) (x6 ca)).1;have e2:y.cs.length<=4096:=by
   have h1:y.cs.length=_:=cd.len;have X:=cd.small;omega
  have cf:=cF y (x6 ao);have cg:=cf.W M;have ch:=bb.W M;refine bI Ω ?_;rw[b7 rfl cX.u a8.i ch bl,bA a8.p a8.i rfl (ch.range ao)];refine bB a8.i λe3 e4 e5 dv dw=>?_;refine b4 (vs:=dS y) a8.i rfl rfl cg.one dw λdx dy e6 dz=>?_;have dA:Ext G dx:=dv.put dy Ω;intro bx ci _ _;have N:=dA.F ci;have cj:=aV.W N;have bz:=dz.W ci;have dC:=cg.W N;obtain⟨⟨e7,ck⟩,⟨e8,cl⟩,e9,dD⟩:=id dC;have cm:=an.old.W N;have dF:∀q r,(bw q r/\r<G.heap.size)->gs<r:=λq r h=>aW q r h.1;obtain⟨fa,cn⟩:=cm.at 6 Ω;rw[aL a6.p 6 cj cn,aL a8.p 0 bz rfl,aL a8.p 1 bz rfl,aL a8.p 2 bz rfl];refine ys (k:=.i64) ax.u au.i λv25 fb fc fd aX cp=>?_;refine⟨.inl aX,?_⟩;refine ii ax.u au.i rfl cp (dD.W aX).ls Θ Θ λE fe cq aZ dG dH=>?_;rw[List.nil_append]at aZ;have ff:=N.size;have z25:=aX.size;have cr:∀r,lc v25 r->bx.heap.size<=r:=λr f=>by have:=(bV cp f).1;omega
  have dI:∀r,lc E r->bx.heap.size<=r:=λr f=>(dG r f).elim (cr r) λh=>Ω
  have a1:Ext bx cq:=aX.then dH λr f he=>by have:=cr r he;omega
  refine⟨.inl a1,?_⟩;rw[di (cs:=#[y.aU,y.d9,E]) (by obtain⟨_,_,_,J⟩:=dr ck.ls;obtain⟨_,_,_,Q⟩:=dr cl.ls;obtain⟨_,_,_,ap⟩:=dr aZ.ls;rw[J,Q,ap];kernel_rfl),
   di (cs:=#[y.aU,y.d9,E,.bool ro]) (by obtain⟨_,_,_,J⟩:=dr ck.ls;obtain⟨_,_,_,Q⟩:=dr cl.ls;obtain⟨_,_,_,ap⟩:=dr aZ.ls;rw[J,Q,ap];kernel_rfl)]
  have fg:=a1.size;have ct:=(M.F N).F a1;obtain⟨⟨ga,dJ⟩,⟨fh,dL⟩,_⟩:=id cf;have own:bJ (α:=kL) (λr=>lc E r) R cq [y.aU,y.d9,E,.bool ro] (km (lX n.co (dK y))):=by
   refine⟨[y.aU,y.d9,E],[.bool ro],λr=>lc E r,λ_=>False,rfl,λ_ h=>h,λ_ h=>h.elim,λ_ _ _ h=>h,⟨[y.aU],[y.d9,E],λ_=>False,λr=>lc E r,rfl,λ_ h=>h.elim,λ_ h=>h,λ_ _ h=>h.elim,?_,[y.d9],[E],λ_=>False,λr=>lc E r,rfl,λ_ h=>h.elim,λ_ h=>h,λ_ _ h=>h.elim,?_,?_⟩,rfl⟩
   .exact bS (yO a2 dJ λr f=>bK y (x6 ao) r (.inr (.inl f))) ct
   .exact bS (yO a2 dL λr f=>bK y (x6 ao) r (.inr (.inr f))) ct
   .exact ox aZ
  refine lM fm.u ew.i Φ rfl own λfi fj bC _ dM=>?_;have fk:=bC.size;have av:=a1.F bC;refine⟨.inl av,?_⟩;refine ce.Rn (cm.W av) (cj.W av) cn dF ak dM (bS own bC) (λr f h=>?_) Θ λdN dO fo cu dP dQ dR _=>?_
  .have:=dI r h;have:=aV.lt;exact⟨λj h=>Ω,Ω⟩
  rw[aO];refine bm _ ⟨am (M.F (N.F av)) cu,low cu Ω (bu.W (N.F av)),dN,dO,dP,dR,?_⟩;rw[r8,ca,o9,Z5,T3,List.map_nil];exact dQ
 rintro G bk ⟨M,bu,bw,aT,aV,aW,an⟩;rw[j5 Ω]at an;refine cc Ω ?_;obtain⟨bD,dT⟩:=an.len;rw[bA a6.p a6.i bD (show G.rangeAt gs 0 aT from aV.range)];refine b4 (vs:=aT) a6.i bD rfl dT bu λfp cw fq dU=>?_;rw[fP a6.p a6.i bD dU.range];have dW:=an.V cw λr f h he=>by
  have he:r=gt:=he;rcases h with⟨q,h⟩|h
  .have:=aW q r h;omega
  .have:=aw r h;omega
 have fs:=M.size;refine⟨M.then cw λr f he=>by have he:r=gt:=he;omega,bw,aT,rfl,?_,λq r h=>by have:=aW q r h;omega⟩;have J:(dh n).d6.map aC=n.unary.map λu=>aC (newVar u):=by show(n.unary.map newVar).map aC=_;rw[S5];rfl
 have Q:(dh n).d6.map (λx=>decide (x.gone≠0))=o4 n.co.length rs:=by
  show(n.unary.map newVar).map _=_;rw[S5,<-cA];exact List.map_const' ..
 have ap:(dh n).d6.map (·.un)=n.unary:=by show(n.unary.map newVar).map _=_;rw[S5];exact List.map_id _
 have dX:(dh n).d7.map km=n.d7.map λg=>km (lX n.co g):=by show(n.d7.map (lX n.co)).map km=_;rw[S5];rfl
 unfold jQ;rw[J,Q,ap,dX];exact dW
def nE(w:x4)(g:Nat)(k:Int)(co:Λ)(s:am):Prop:=∃d9 a e f h j,ag w g a6 [Δ k,d9,Δ s.zero,a,e,f,h,j]/\aM .i64 w d9 co/\Seen eT w [d9] co/\
 Seen eT w [a] (s.d6.map aC)/\Seen eT w [e] (s.d6.map λx=>decide (x.gone≠0))/\Seen eT w [f] (s.d6.map (·.un))/\Seen eT w [h] (s.d7.map km)/\Seen eT w [j] (s.dc.map FE)
section
variable{w I:x4}{g:Nat}{v:x1}{k:Int}{co:Λ}{s:am}
theorem nE.W(h:nE w g k co s)(a:Ext w I):nE I g k co s:=by
 obtain⟨d9,e,f,j,p,q,r,h1,x,y,z,A,B,C⟩:=h;exact⟨d9,e,f,j,p,q,r.W a,h1.W a,bS x a,bS y a,bS z a,bS A a,bS B a,bS C a⟩
theorem ja.box(h:ja w v k co s)(f:Ext w I)(j:ag I g a6 v.cells.toList):nE I g k co s:=by
 obtain⟨cs,rfl,d9,z,B,C,E,F,rfl,h1,p,q,r,x,y,_⟩:=h;obtain⟨_,_,_,G⟩:=dr (dQ h1);have c:∀{α:Type}[av α]{v:x1}{l:List α}{A:ah},av.rep rs A eT w [v] l->∃a n c,v= .slice a n c:=λh=>by
  obtain⟨_,_,_,_,_,⟨_,b,o,base,cap,e,_⟩,_⟩:=kA h;exact⟨_,_,_,e⟩
 obtain⟨_,_,_,H⟩:=c p;obtain⟨_,_,_,J⟩:=c q;obtain⟨_,_,_,K⟩:=c r;obtain⟨_,_,_,L⟩:=c x;obtain⟨_,_,_,M⟩:=c y;refine⟨d9,z,B,C,E,F,?_,(dQ h1).W f,bS h1 f,bS p f,bS q f,bS r f,bS x f,bS y f⟩;rw[G,H,J,K,L,M]at j ⊢;exact j
theorem nE.load(h:nE w g k co s)(a:∀u,ja w u k co s->K u):ab x8 (u5 a6 (Γ g)) w K:=by
 obtain⟨d9,e,f,j,q,r,x,h1,y,z,A,B,C,E⟩:=h;rw[bA a6.p a6.i rfl x.range];exact a _ ⟨_,rfl,d9,e,f,j,q,r,rfl,y,z,A,B,C,E,λh=>by cases h⟩
theorem Rq{i:Int}(h:ja w v k co s):al x8 Jj [v,Δ i] w λr I=>r= .bool (decide (0<=i/\i<co.length))/\Ext w I:=by
 refine aB func144 ?_;refine bo λg1 U x a e=>?_;obtain⟨d9,y,z,A,B,C,e,q,_⟩:=h.box a e;refine aV (λv aa=>v= .bool (decide (0<=i/\i<co.length))/\Ext w aa) (λ_ _ h=>h) λay f=>?_;rw[cH,ak];refine⟨λj=>?_,λj=>f _ _ ⟨by rw[ms];omega,a⟩⟩;rw[aL a6.p 1 e rfl,aY aq.u q,aR];refine f _ _ ⟨?_,a⟩;congr 1;exact decide_eq_decide.2 ⟨λh=>⟨j,h⟩,λh=>h.2⟩
theorem oy{m:Bool}{S R:ah}{f:ch}(h:av.rep (α:=kL) m S R w cs (km f)):∃aU d9 a7,cs=[aU,d9,a7,.bool (decide (f.live≠0))]/\Seen eT w [aU] f.sc/\Seen eT w [d9] f.ai/\Seen eT w [a7] f.cs:=by
 obtain⟨E,p,A,B,rfl,_,_,_,⟨q,F,aK,G,rfl,_,_,_,h1,r,s,H,x,rfl,_,_,_,a,e⟩,j⟩:=h;have one:∀{α:Type}[av α]{m:Bool}{S R:ah}{c:List x1}{l:List α},av.rep m S R w c l->∃v,c=[v]:=λh=>by obtain⟨v,y,_⟩:=h;exact⟨v,y⟩
 have h1:Seen _ w q f.sc:=h1;have a:Seen _ w r f.ai:=a;have j:p=[.bool (decide (f.live≠0))]:=j;have e:av.rep m x R w s f.cs:=e;obtain⟨z,rfl⟩:=one h1;obtain⟨C,rfl⟩:=one a;obtain⟨v3,rfl⟩:=one e;subst j;exact⟨z,C,v3,rfl,ky h1,ky a,ky e⟩
theorem Rr{j:Int}(h:ja w v k co s):al x8 KD [v,Δ j] w λr I=>r= .bool (decide (0<=j)&&e7 s j.toNat)/\Ext w I:=by
 refine aB func260 ?_;refine bo λg1 U C a e=>?_;obtain⟨d9,E,G,H,J,K,e,L,_,_,_,_,y,_⟩:=h.box a e;refine aV (λv aa=>v= .bool (decide (0<=j)&&e7 s j.toNat)/\Ext w aa) (λ_ _ h=>h) λay q=>?_;rw[cH,ak];refine⟨λx=>?_,λx=>q _ _ ⟨by rw[ms x];rfl,a⟩⟩;rw[aL a6.p 6 e rfl,ka fm.u y,aR,ak,u9];refine⟨λM=>?_,λN=>q _ _ ⟨by unfold e7;rw[Y4 Ω,Bool.and_false],a⟩⟩;obtain⟨f,z⟩:=aF (l:=s.d7) (i:=j.toNat) Ω;rw[aL a6.p 6 e rfl];refine mp (i:=j.toNat) Ω fm.u ew.i y (by rw[v8,z];rfl) λb o cs A B=>?_;obtain⟨O,P,v3,rfl,_⟩:=oy B;rw[aT ew.p rfl,aD (v:=.bool (decide (f.live≠0))) Ψ (A 3 _ rfl)];exact q _ _ ⟨by unfold e7;rw[z,m7 x,S0],a⟩
end
theorem sK{S T:Nat->Prop}(h:af S w I)(k:af T w I):af (λr=>S r/\T r) w I:=
 ⟨h.size,λr o a J f=>by
  by_cases e:S r
  .exact k.aZ r o a J λj=>f ⟨e,j⟩
  .exact h.aZ r o a J e⟩
theorem sL{A R:ah}{n:aI}{s:am}{t:aw}(h:bt w ad ae A R n s t):∀r,A r\/R r->r<w.heap.size:=λr a=>by
 obtain⟨j,p,q,x,⟨_,_,e,f⟩,_⟩:=h.1;exact a.elim (f r) (e r)
structure cf(w:x4)(ad ae an:Nat)(A R:ah)(A9:Nat->ah)(aE:ah)(n:aI)(s u:am)(t:aw)(h:List aw)(cs:List x1):Prop where
 eE:bt w ad ae A R n s t
 fF:eJ t h
 box:ag w an a6 cs
 doc:jQ ro A9 aE w cs n.k n.co u
 apart:∀q r,A9 q r->¬A r/\¬R r/\r≠an
 read:∀r,aE r->¬er w r/\r<w.heap.size/\r≠an
 out:¬A an/\¬R an
section
variable{w I:x4}{ad ae an:Nat}{A R:ah}{A9:Nat->ah}{aE:ah}{n:aI}{s u:am}{t:aw}{h:List aw}{cs:List x1}
theorem cf.W(p:cf w ad ae an A R A9 aE n s u t h cs)(a:Ext w I):cf I ad ae an A R A9 aE n s u t h cs:=
 ⟨p.eE.W a,p.fF,p.box.W a,p.doc.W a,p.apart,λr e=>⟨λh=>(p.read r e).1 (ol (λo f J _=>a.aZ r o f J) h),by have:=(p.read r e).2.1;have:=a.size;omega,(p.read r e).2.2⟩,p.out⟩
theorem cf.prog{aK R':ah}{s':am}{bn:aw}{aW:List aw}(p:cf w ad ae an A R A9 aE n s u t h cs)(x:af (er w) w I)(f:Grow A w aK I)(C:bt I ad ae aK R' n s' bn)(j:eJ bn aW)(y:∀r,R' r->R r\/B<=r)(E:∀q r,A9 q r->r<w.heap.size->r<B)(K:an<B):
  cf I ad ae an aK R' (λq r=>A9 q r/\r<w.heap.size) aE n s' u bn aW cs:=by
 have L:=p.box.lt;have z:=x.size;refine⟨C,j,p.box.V f.1 p.out.1,ce.V p.doc.old (sK x f.1) λr e h j=>?_,λq r h=>⟨λa=>?_,λe=>(y r e).elim (p.apart q r h.1).2.1 λF=>by have:=E q r h.1 h.2;omega,(p.apart q r h.1).2.2⟩,λr e=>⟨λh=>?_,by have:=(p.read r e).2.1;omega,(p.read r e).2.2⟩,λa=>?_,λe=>(y an e).elim p.out.2 λF=>Ω⟩
 .rcases h with⟨q,h⟩|h
  .exact (p.apart q r h.1).1 j.2
  .exact (p.read r h).1 j.1
 .rcases f.2.1 r a with a|a
  .exact (p.apart q r h.1).1 a
  .have:=h.2;omega
 .exact (p.read r e).1 (ol (λo G J H=>x.aZ r o G J H) h)
 .rcases f.2.1 an a with a|a
  .exact p.out.1 a
  .omega
theorem cf.Rs{S:ah}{cq:Nat->ah}{u':am}{cd:List x1}(p:cf w ad ae an A R A9 aE n s u t h cs)(f:af S w I)(y:∀r,r<w.heap.size->S r->(∃q,A9 q r)\/r=an)(B:ag I an a6 cd)(C:jQ ro cq aE I cd n.k n.co u')(E:∀q r,cq q r->(∃j,A9 j r)\/(¬A r/\¬R r/\r≠an)):
  cf I ad ae an A R cq aE n s u' t h cd:=by
 have K:=p.box.lt;have z:=f.size;have F:∀q r,A9 q r->¬aE r:=by obtain⟨_,_,_,_,_,_,_,_,_,_,_,_,_,G⟩:=p.doc;exact(G rfl).2
 refine⟨⟨p.eE.1.V f λr e h J=>?_,p.eE.2⟩,p.fF,B,C,λq r h=>?_,λr e=>⟨λh=>(p.read r e).1 (ol (λo H J _=>f.aZ r o H J λa=>?_) h),by have:=(p.read r e).2.1;omega,(p.read r e).2.2⟩,p.out⟩
 .rcases y r e J with⟨q,a⟩|a
  .exact h.elim (p.apart q r a).1 (p.apart q r a).2.1
  .subst a;exact h.elim p.out.1 p.out.2
 .rcases E q r h with⟨j,a⟩|a
  .exact p.apart j r a
  .exact a
 .rcases y r (p.read r e).2.1 a with⟨q,x⟩|x
  .exact F q r x e
  .exact (p.read r e).2.2 x
theorem cf.Rt{S:ah}{cq:Nat->ah}{u':am}{cd:List x1}(p:cf w ad ae an A R A9 aE n s u t h cs)(e:∀r,A r\/R r->r<B)(E:an<B)(f:af S w I)(j:∀r,r<w.heap.size->S r->(∃q,A9 q r)\/r=an)(x:ag I an a6 cd)(y:jQ ro cq aE I cd n.k n.co u')(z:∀q r,cq q r->(∃C,A9 C r)\/B<=r):
  cf I ad ae an A R cq aE n s u' t h cd:=
 p.Rs f j x y λq r h=>(z q r h).imp id λF=>⟨λa=>by have:=e r (.inl a);omega,λa=>by have:=e r (.inr a);omega,Ω⟩
theorem cf.FH{S:ah}{cq:Nat->ah}{u':am}{cd:List x1}(p:cf w ad ae an A R A9 aE n s u t h cs)(a:af S w I)(e:∀r,r<w.heap.size->S r->(∃q,A9 q r)\/r=an)(f:ag I an a6 cd)(j:jQ ro cq aE I cd n.k n.co u')(x:∀q r,cq q r->(∃y,A9 y r)\/w.heap.size<=r):
  cf I ad ae an A R cq aE n s u' t h cd:=p.Rt (sL p.eE) p.box.lt a e f j x
theorem cf.look(p:cf w ad ae an A R A9 aE n s u t h cs):nE w an n.k n.co u:=by
 refine ja.box p.doc.yN (Ext.refl _) ?_;have:=p.box;exact this
theorem cf.pP(p:cf w ad ae an A R A9 aE n s u t h cs):∃d9 a e f j q,cs=[Δ n.k,d9,Δ u.zero,a,e,f,j,q]/\aM .i64 w d9 n.co:=by
 obtain⟨d9,a,e,f,j,q,h1,r,_⟩:=p.doc;exact⟨d9,a,e,f,j,q,h1,dQ r⟩
end
end Go.Proofs.YtnhkbjhpbbobaaaGreatDoor
namespace Go.Vc
open Go Go.RowKit
section
variable{P:V5}{w:x4}{α:Type}[av α]{S R:ah}
theorem vr{v:x1}{l:List α}{i:Nat}{a:α}(h:bJ S R w [v] l)(G:l[i]?=σ a)(Z:∀r,r<w.heap.size->S r->¬R r):∃g cap c F,v= .slice (σ ⟨g,0,ν⟩) l.length cap/\w.rangeAt g (i*av.n α) c/\bJ F R w c a/\(∀r,F r->S r)/\
  ∀{I:x4}{a':α}{T y:ah},af T w I->(∀r,r<w.heap.size->T r->F r)->bJ y R I c a'->(∀r,y r->F r\/w.heap.size<=r)->bJ (λr=>S r\/w.heap.size<=r) R I [v] (l.set i a'):=by
 have ao:=(x5.1 G).1;obtain⟨vs,g,F,ac,he,J,hm⟩:=kA h;obtain⟨aa,H,K⟩:=hm rfl;obtain⟨ap,⟨rfl,aq⟩|⟨cap,full,rfl,L,au,aw,ax,ay⟩⟩:=id K
 .omega
 have ab:vs.length=l.length:=he.1;have M:S g:=aa.resolve_left Ξ;obtain⟨c,A⟩:∃c,vs[i]?=σ c:=⟨_,x7 Ω⟩;have ad:=he.2 i c a A G;refine⟨g,cap,c,F i,rfl,?_,ad,λr p=>ac.sub i r p,λ{I a' T y}N O P B=>?_⟩
 .obtain⟨_,az,o',aA,aB,ae,_,_,ag,_,ai⟩:=J;cases ae;cases ag Ω;intro j u aj;have Q:=ai (i*av.n α+j) u (by rw[<-List.flatMap_id];exact pw (f:=id) (k:=av.n α) (λx ak=>he.len x ak) A aj);rw[W0]at Q;exact Q
 have al:¬T g:=λh=>ac.top rfl i (O g L.lt h);have aC:=av.len P;have aD:vs.set i c=vs:=by
  refine X3 λq=>?_;rw[Y6];by_cases U:i=q
  .subst U;rw[m3 rfl,m3 Ω,A]
  .rw[m5 U]
 have W:b0 I g H (av.n α) (.slice (σ ⟨g,0,ν⟩) l.length cap) (l.set i a').length vs.flatten:=by
  rw[o5];exact K.V N λ_=>al
 refine⟨_,rfl,vs,g,λj r=>if j=i then y r else F j r/\r<w.heap.size,⟨λj r p=>?_,λ_ j p=>?_,λ_ j q r am h1 s=>?_⟩,⟨by simp[ab],λj X Y E C=>?_⟩,?_,λ_=>⟨.inr (.inl M),H,W⟩⟩
 .split at p
  .exact (B r p).imp (ac.sub i r) id
  .exact .inl (ac.sub j r p.1)
 .split at p
  .rcases B g p with h|h
   .exact ac.top rfl i h
   .have:=L.lt;omega
  .exact ac.top rfl j p.1
 .split at h1<;>split at s
  .omega
  .rcases B r h1 with h|h
   .rename_i e _;exact ac.gX rfl i q r Ω h s.1
   .have:=s.2;omega
  .rcases B r s with h|h
   .exact ac.gX rfl j i r Ω h1.1 h
   .have:=h1.2;omega
  .exact ac.gX rfl j q r am h1.1 s.1
 .by_cases z:j=i
  .subst z;rw[A]at E;rw[l9 Ω]at C;cases E;cases C;exact av.Y P (λr _ h=>by simpa using h) λ_ _ h=>h
  .rw[Z9 (Ne.symm z)]at C;have an:bJ (λr=>if j=i then y r else F j r/\r<w.heap.size) R w X Y:=av.Y (he.2 j X Y E C) (λr p h=>by rw[m5 z];exact⟨h,p⟩) λ_ _ h=>h;refine av.V an N λr p h1 s=>?_;have s:=O r p s;rcases h1 with h1|h1
   .simp only[m5 z]at h1;exact ac.gX rfl j i r z h1.1 s
   .exact Z r p (ac.sub i r s) h1
 .have:=qj (S:=λr=>(S r\/w.heap.size<=r)\/R r) W (.inr (.inl (.inl M)));exact this
theorem FI{v:x1}{l:List α}{i:Nat}{a:α}(h:bJ S R w [v] l)(N:l[i]?=σ a)(O:∀r,r<w.heap.size->S r->¬R r):∃g cap full y c F,v= .slice (σ ⟨g,0,ν⟩) l.length cap/\ag w g y full/\S g/\i*av.n α+av.n α<=full.length/\(∀(q:Nat)x,c[q]?=σ x->full[i*av.n α+q]?=σ x)/\bJ F R w c a/\(∀r,F r->S r)/\¬F g/\
  ∀{I:x4}{a':α}{z:List x1}{T B:ah},af T w I->(∀r,r<w.heap.size->T r->F r\/r=g)->ag I g y (over full (i*av.n α) z)->bJ B R I z a'->(∀r,B r->F r\/w.heap.size<=r)->bJ (λr=>S r\/w.heap.size<=r) R I [v] (l.set i a'):=by
 have ae:=(x5.1 N).1;obtain⟨vs,g,F,ac,he,J,hm⟩:=kA h;obtain⟨ai,y,aj⟩:=hm rfl;obtain⟨az,⟨rfl,aA⟩|⟨cap,full,rfl,P,Q,ak,U,W⟩⟩:=id aj
 .omega
 have X:vs.length=l.length:=he.1;have E:S g:=ai.resolve_left Ξ;obtain⟨c,K⟩:∃c,vs[i]?=σ c:=⟨_,x7 Ω⟩;have al:=he.2 i c a K N;have am:(i+1)*av.n α<=l.length*av.n α:=Y5 _ ae;have an:l.length*av.n α<=full.length:=by rw[U];exact Y5 _ Q
 rw[U7,Nat.one_mul]at am;refine⟨g,cap,full,y,c,F i,rfl,P,E,Ω,λq x Y=>?_,al,λr s=>ac.sub i r s,ac.top rfl i,λ{I a' z T B}ao ap aq Z G=>?_⟩
 .have L:=pw (f:=id) (k:=av.n α) (λx au=>he.len x au) K Y;rw[List.flatMap_id,<-W]at L;have aB:=(x5.1 Y).1;have M:=he.len c (x6 K);rw[Y7 Ω]at L;exact L
 have M:=av.len Z;have aw:∀c∈vs.set i z,c.length=av.n α:=λc A=>by
  rcases V0 A with p|rfl
  .exact he.len c p
  .exact M
 have aa:b0 I g y (av.n α) (.slice (σ ⟨g,0,ν⟩) l.length cap) (l.set i a').length (vs.set i z).flatten:=by
  refine⟨by rw[kz aw,o5,o5,X],.inr ⟨cap,_,by rw[o5],aq,by rw[o5];exact Q,ak,by rw[nn,U],?_⟩⟩;rw[o5,uw Ω an,W,FC he.len M Ω]
 refine⟨_,rfl,vs.set i z,g,λj r=>if j=i then B r else F j r/\r<w.heap.size,⟨λj r s=>?_,λ_ j s=>?_,λ_ j q r ax h1 p=>?_⟩,⟨by simp[X],λj ab ad A H=>?_⟩,?_,λ_=>⟨.inr (.inl E),y,aa⟩⟩
 .split at s
  .exact (G r s).imp (ac.sub i r) id
  .exact .inl (ac.sub j r s.1)
 .split at s
  .rcases G g s with h|h
   .exact ac.top rfl i h
   .have:=P.lt;omega
  .exact ac.top rfl j s.1
 .split at h1<;>split at p
  .omega
  .rcases G r h1 with h|h
   .rename_i e _;exact ac.gX rfl i q r Ω h p.1
   .have:=p.2;omega
  .rcases G r p with h|h
   .exact ac.gX rfl j i r Ω h1.1 h
   .have:=h1.2;omega
  .exact ac.gX rfl j q r ax h1.1 p.1
 .by_cases C:j=i
  .subst C;rw[l9 Ω]at A;rw[l9 Ω]at H;cases A;cases H;exact av.Y Z (λr _ h=>by simpa using h) λ_ _ h=>h
  .rw[Z9 (Ne.symm C)]at A H;have ay:bJ (λr=>if j=i then B r else F j r/\r<w.heap.size) R w ab ad:=av.Y (he.2 j ab ad A H) (λr s h=>by rw[m5 C];exact⟨h,s⟩) λ_ _ h=>h;refine av.V ay ao λr s h1 p=>?_;have p:=ap r s p;rcases h1 with h1|h1
   .simp only[m5 C]at h1;rcases p with p|rfl
    .exact ac.gX rfl j i r C h1.1 p
    .exact ac.top rfl j h1.1
   .rcases p with p|rfl
    .exact O r s (ac.sub i r p) h1
    .exact O r s E h1
 .have:=qj (S:=λr=>(S r\/w.heap.size<=r)\/R r) aa (.inr (.inl (.inl E)));exact this
end
end Go.Vc
namespace Go.Proofs.YtnhkbjhpbbobaaaGreatDoor
open Go Go.Vc Go.RowKit Go.Proofs Go.Proofs.Tryz
set_option maxRecDepth 100000
section
variable{w0 w:x4}{ad ae an ga:Nat}{A R:ah}{A9 cq:Nat->ah}{aE:ah}{n:aI}{s u:am}{t:aw}{h:List aw}{cs cd:List x1}{aS aU mN:x1}{Q:x1->x4->Prop}
theorem cf.olds(p:cf w0 ad ae an A R A9 aE n s u t h cs):cf w0 ad ae an A R (λq r=>A9 q r/\r<w0.heap.size) aE n s u t h cs:=
 ⟨p.eE,p.fF,p.box,p.doc.old,λq r a=>p.apart q r a.1,p.read,p.out⟩
end
theorem qS{α β:Type}{l:List α}{i:Nat}{a b:α}{f:α->β}(h:l[i]?=σ a)(j:f b=f a):(l.set i b).map f=l.map f:=by
 rw[T2,j];refine X3 λq=>?_;rw[Y6];by_cases e:i=q
 .subst e;rw[m3 rfl,v8,h,m3 (by rw[u9];exact(x5.1 h).1)];rfl
 .rw[m5 e]
theorem yP{T:Nat->Prop}(h:af T w I):af (λr=>T r/\r<w.heap.size) w I:=⟨h.size,λr o a J e=>h.aZ r o a J λf=>e ⟨f,(j9.1 a).1⟩⟩
section
variable{w0 w I:x4}{ad ae an ga:Nat}{A R:ah}{A9:Nat->ah}{aE:ah}{n:aI}{s u u':am}{t:aw}{h:List aw}{cs:List x1}{aS aU mN v:x1}{Q:x1->x4->Prop}
theorem ce.rH{m:Bool}{zero:Int}{D:List (Λ)}{G:List Bool}{a1:List (Λ)}{H:List kL}{E:List pO}{i:Nat}(a:cs[i]?=σ v)(h:ce m A9 aE w (cs.set i v) k co zero D G a1 H E):ce m A9 aE w cs k co zero D G a1 H E:=by
 have:cs.set i v=cs:=by
  refine X3 λq=>?_;rw[Y6];by_cases e:i=q
  .subst e;have:=(x5.1 a).1;rw[m3 rfl,m3 this,a]
  .rw[m5 e]
 rw[this]at h;exact h
theorem cf.row{T:ah}{cq:Nat->ah}{q:Nat}(p:cf w ad ae an A R A9 aE n s u t h cs)(a:af T w I)(e:∀r,r<w.heap.size->T r->A9 q r)(f:jQ ro cq aE I cs n.k n.co u')(j:∀q r,cq q r->(∃x,A9 x r)\/w.heap.size<=r):
  cf I ad ae an A R cq aE n s u' t h cs:=
 p.FH a (λr y h=>.inl ⟨q,e r y h⟩) (p.box.V a λh=>(p.apart q an (e an p.box.lt h)).2.2 rfl) f j
theorem yQ{q:Nat}{B:ah}(a:∀r,B r->A9 q r\/w.heap.size<=r):∀j r,jR A9 q B j r->(∃e,A9 e r)\/w.heap.size<=r:=λj r h=>by
 unfold jR at h;split at h
 .exact (a r h).imp (λh=>⟨q,h⟩) id
 .exact .inl ⟨j,h⟩
end
theorem Ru{sv:x1}{l4:Nat}{cap:Array x1}{p:Int->Bool}(h:aM .i64 w sv l)(ac:∀I x,Ext w I->x∈l->al x8 l4 (Δ x::cap.toList) I λr s=>r= .bool (p x)/\Ext I s):
  al x8 wH [sv,.func (.func l4) #[] cap] w λv I=>Ext w I/\((v=Δ (-1)/\∀x∈l,p x=rs)\/∃i:Nat,v=Δ (i:Int)/\i<l.length/\(∀x∈l.take i,p x=rs)/\∀x,l[i]?=σ x->p x=ro):=by
 refine aB func139 ?_;rw[aY aq.u h];refine cb.range l.length (λi _ U=>Ext w U/\∀x∈l.take i,p x=rs) h.le ⟨Ext.refl _,Ξ⟩ ?_ ?_
 .rintro i _ U k hi ⟨e,f⟩ hk;refine bI Ω ?_;obtain⟨y,j⟩:=aF (l:=l) hi;rw[bi aq.u aj.i Ψ (h.W e) j];refine al.Y (ac U y e (x6 j)) ?_;rintro _ aa _ ⟨rfl,q⟩;rw[bY];refine⟨λz=>⟨e.F q,.inr ⟨i,rfl,hi,f,λx a=>by rw[j]at a;cases a;exact z⟩⟩,λA=>?_⟩;rw[aO];refine hk _ _ ⟨e.F q,λx a=>?_⟩;rw[r8,j]at a;rcases j4.1 a with a|a
  .exact f x a
  .simp at a;subst a;exact A
 .rintro _ U k ⟨e,f⟩;rw[o6]at f;rw[aR,ak];exact⟨λh=>Ω,λ_=>⟨e,.inl ⟨rfl,f⟩⟩⟩
theorem Rv{sv:x1}{g l4:Nat}{cap:Array x1}{p:Int->Bool}(h:aA .i64 e w g sv l)(aJ:l.length<=100000000)(ac:∀I x,af (λr=>lc sv r) w I->x∈l->al x8 l4 (Δ x::cap.toList) I λr Z=>r= .bool (p x)/\Ext I Z):
  al x8 IB [sv,.func (.func l4) #[] cap] w λv I=>af (λr=>lc sv r) w I/\aA .i64 e I g v (l.filter λx=>!p x)/\∀r,lc v r->lc sv r:=by
 refine aB func72 ?_;refine(Ru h.ls λI x B=>ac I x (B.V _)).Y ?_;rintro _ U _ ⟨C,⟨rfl,L⟩|⟨i,rfl,hi,L,aa⟩⟩
 .rw[bk,ak];refine⟨λ_=>⟨C.V _,?_⟩,λh=>m6 rfl h⟩;rw[List.filter_eq_self.2 λx B=>by rw[L x B];rfl];exact⟨h.W C,λ_ h=>h⟩
 rw[bk,ak];refine⟨λh=>Ω,λ_=>?_⟩;rw[aO,li Ω Ω];obtain⟨n,M⟩:∃n,l.length=n:=⟨_,rfl⟩;obtain⟨s,rfl⟩:∃s,sv= .slice (σ ⟨g,0,ν⟩) n s:=by
  obtain⟨_,⟨_,h1⟩|⟨s,cs,h1,_⟩⟩:=id h
  .omega
  .exact⟨s,by rw[h1,M]⟩
 obtain⟨_,_,_,_,aK,ab,_⟩:=r7 h Ω;have R:∀r,r=g->lc (.slice (σ ⟨g,0,ν⟩) n s) r:=λr N=>⟨_,_,_,rfl,N.symm⟩;have ad:(l.take (i+1)).filter (λx=>!p x)=l.take i:=by
  obtain⟨y,z⟩:=aF (l:=l) hi;rw[r8,z,List.filter_append,List.filter_eq_self.2 λx B=>by rw[L x B];rfl];simp[aa y z]
 refine⟨λO P E=>∃(q j:Nat)(f:Λ),O=Δ (q:Int)/\P=Δ (j:Int)/\q<j/\j<=n/\af (λr=>r=g) w E/\aA .i64 e E g (.slice (σ ⟨g,0,ν⟩) n s) f/\f.length=n/\f.take q=(l.take j).filter (λx=>!p x)/\∀k,j<=k->f[k]?=l[k]?,
  λ_ P _=>n-(bU P).toNat,⟨i,i+1,l,rfl,rfl,Ω,Ω,C.V _,h.W C,M,ad.symm,λ_ _=>rfl⟩,?_⟩
 rintro _ _ E ⟨q,j,f,rfl,rfl,aL,aM,G,H,S,A,Q⟩;have aN:q=((l.take j).filter λx=>!p x).length:=by rw[<-A,o8];omega
 rw[iL aq.u,aR,ak];refine⟨λae=>?_,λaP=>?_⟩
 .have ae:j<n:=Ω
  obtain⟨y,z⟩:=aF (l:=l) (i:=j) Ω;have ag:f[j]?=σ y:=by rw[Q j (p8 _),z]
  refine aV (λO J=>∃(q:Nat)(f:Λ),O=Δ (q:Int)/\q<j+1/\af (λr=>r=g) w J/\aA .i64 e J g (.slice (σ ⟨g,0,ν⟩) n s) f/\f.length=n/\f.take q=(l.take (j+1)).filter (λx=>!p x)/\∀k,j+1<=k->f[k]?=l[k]?) ?_ ?_
  .rintro _ J ⟨q,f,rfl,h1,ah,ai,am,an,ao⟩;rw[aO,li Ω Ω];exact⟨⟨q,j+1,f,rfl,rfl,h1,Ω,ah,ai,am,an,ao⟩,by simp only[bU];omega⟩
  intro ay W;rw[bi aq.u aj.i Ψ H.ls ag];refine al.Y (ac E y (G.Y λr _=>R r) (x6 z)) ?_;rintro _ J _ ⟨rfl,K⟩;have X:(l.take (j+1)).filter (λx=>!p x)=(l.take j).filter (λx=>!p x)++[y].filter (λx=>!p x):=by rw[r8,z,List.filter_append];rfl
  rw[bC,bY];refine⟨λap=>?_,λau=>?_⟩
  .have Y:=H.W K;rw[jB rfl aq.u aj.i Y Ω];refine jC aj.i Y Ω λaQ av aS aw=>?_;rw[aO,li Ω Ω];refine W _ _ ⟨q+1,_,rfl,Ω,(G.F (K.V _)).F av,aw,by simpa using S,?_,λk hk=>?_⟩
   .rw[X,r8,l9 Ω,List.take_set_of_le (p8 _),A];simp only[o9];rw[show[y].filter (λx=>!p x)=[y] by simpa using ap]
   .rw[Z9 Ω];exact Q k Ω
  .refine W _ _ ⟨q,f,rfl,Ω,G.F (K.V _),H.W K,S,?_,λk hk=>Q k Ω⟩;rw[X,show[y].filter (λx=>!p x)=[] by simpa using au,W5];exact A
 .have ax:j=n:=Ω
  subst ax;rw[<-M,o6]at A;obtain⟨_,_,cs,az,_,_,aT,aC⟩:=r7 H Ω;simp only[maxLen]at ab;rw[gH aq.u aj.i o2 j8 e2 Ω Ω Ω,m5 Ω];have aD:T0 (λx:Addr=>x.add (q*1)) (σ ⟨g,0,ν⟩)=σ ⟨g,q,ν⟩:=by simp[T8]
  rw[aD];refine BI aq.u aj.i rfl rfl az Ω Ω λaU aE aW aG=>?_;rw[gH aq.u aj.i j7 pb e2 Ω Ω Ω,m5 Ω];have aH:T0 (λx:Addr=>x.add (0*1)) (σ ⟨g,0,ν⟩)=σ ⟨g,0,ν⟩:=by simp[T8]
  rw[aH];refine⟨(G.F aE).Y λr _=>R r,?_⟩;have aX:(l.filter λx=>!p x).length=q:=by rw[<-A,o8];omega
  rw[<-A,Nat.sub_zero];refine⟨?_,λr N=>by obtain⟨a,_,_,e,aI⟩:=N;cases e;exact⟨_,_,_,rfl,aI⟩⟩;refine aA.of (n:=q) ⟨Θ,.inr ⟨s,_,Ξ,aG,Ω,by simp only[maxLen];omega,by rw[nn];omega,?_⟩⟩;rw[T5];apply X3;intro k;by_cases hk:k<q
  .rw[Y7 hk,pc _ _ _ Θ,m5 Ω,ints,v8,Y7 hk];have:(cs.take j)[k]?=(ints .i64 f)[k]?:=by rw[aC]
   rw[Y7 Ω,ints,v8]at this;exact this
  .rw[Y4 Θ,Y4 Θ]
theorem FJ{full c:List x1}{o q:Nat}{x:x1}(f:∀(k:Nat)y,c[k]?=σ y->full[o+k]?=σ y)(h:o+c.length<=full.length)(j:q<c.length):full.set (o+q) x=over full o (c.set q x):=by
 refine X3 λk=>?_;rw[pc _ _ _ (by rw[o5];exact h),Y6,o5];by_cases h1:o<=k/\k<o+c.length
 .rw[m3 h1,Y6];by_cases a:o+q=k
  .rw[m3 a,m3 Ω,m3 Ω,m3 Ω]
  .rw[m5 a,m5 Ω];have e:k-o<c.length:=Ω
   have:=f (k-o) c[k-o] (x7 e);rw[x7 e,<-this];congr 1;omega
 .rw[m5 h1,m5 Ω]
section
variable{w0 w I:x4}{ad ae an ga:Nat}{A R:ah}{A9:Nat->ah}{aE:ah}{n:aI}{s u u':am}{t:aw}{h:List aw}{cs:List x1}{aS aU mN v:x1}{Q:x1->x4->Prop}
theorem cf.gX(p:cf w ad ae an A R A9 aE n s u t h cs):(∀i j r,i≠j->A9 i r->¬A9 j r)/\∀i r,A9 i r->¬aE r:=by
 obtain⟨_,_,_,_,_,_,_,_,_,_,_,_,_,a⟩:=p.doc;exact a rfl
theorem cf.Rw{T:ah}(p:cf w ad ae an A R A9 aE n s u t h cs)(y:∀q r,A9 q r->r<w.heap.size)(z:cs[6]?=σ v)(e:af T w I)(f:∀r,r<w.heap.size->T r->A9 3 r)(C:bJ (λr=>A9 3 r\/w.heap.size<=r) aE I [v] (u'.d7.map km))(E:u'.zero=u.zero)(F:u'.d6=u.d6)(G:u'.dc=u.dc):∃cq,cf I ad ae an A R cq aE n s u' t h cs/\∀q r,cq q r->(∃H,A9 H r)\/w.heap.size<=r:=by
 have J:=ce.l3 p.doc (yP e) (λr a=>.inl (f r a.2 a.1)) C (λj r K a=>?_) (λr a=>?_)
 .have x:=yQ (w:=w) (A9:=A9) (q:=3) (B:=λr=>A9 3 r\/w.heap.size<=r) λr h=>h;refine⟨_,p.row e f ?_ x,x⟩;have:=ce.rH z J;unfold jQ;rw[E,F,G];exact this
 .rcases a with a|a
  .exact p.gX.1 3 j r (Ne.symm K) a
  .exact λh=>by have:=y j r h;omega
 .rcases a with a|a
  .exact p.gX.2 3 r a
  .exact λh=>by have:=(p.read r h).2.1;omega
end
theorem Rx{m:Int}{w:Int}(a:0<=v)(hw:0<=w):dropped (((m.toNat ||| 2 ^ v.toNat:Nat):Int)) w=(dropped m w||decide (w=v)):=by
 unfold dropped;rw[u6,Nat.testBit_or,Nat.testBit_two_pow];congr 1;exact decide_eq_decide.2 ⟨λh=>Ω,λh=>Ω⟩
theorem yR{x:bz}(a:0<=v):aC {x with mask:=((x.mask.toNat ||| 2 ^ v.toNat:Nat):Int)}=(aC x).filter λy=>!decide (y=v):=by
 unfold aC;rw[List.filter_filter];refine List.filter_congr λy e=>?_;obtain⟨q,_,rfl⟩:=j0.1 e;rw[Rx a Ω];cases dropped x.mask (q:Int)<;>simp
section
variable{w0 w I:x4}{ad ae an ga:Nat}{A R:ah}{A9:Nat->ah}{aE:ah}{n:aI}{s u u':am}{t:aw}{h:List aw}{cs:List x1}{aS aU mN v:x1}{Q:x1->x4->Prop}
theorem cf.pQ{T:ah}(p:cf w ad ae an A R A9 aE n s u t h cs)(z:∀q r,A9 q r->r<w.heap.size)(C:cs[3]?=σ v)(e:af T w I)(f:∀r,r<w.heap.size->T r->A9 0 r)(E:bJ (λr=>A9 0 r\/w.heap.size<=r) aE I [v] (u'.d6.map aC))(F:u'.zero=u.zero)(G:u'.d6.map (·.un)=u.d6.map (·.un))(H:(u'.d6.map λx=>decide (x.gone≠0))=u.d6.map λx=>decide (x.gone≠0))(J:u'.d7=u.d7)(K:u'.dc=u.dc):
  ∃cq,cf I ad ae an A R cq aE n s u' t h cs/\∀q r,cq q r->(∃L,A9 L r)\/w.heap.size<=r:=by
 have M:=ce.FF p.doc (yP e) (λr a=>.inl (f r a.2 a.1)) E (λj r N a=>?_) (λr a=>?_)
 .have y:=yQ (w:=w) (B:=λr=>A9 0 r\/w.heap.size<=r) λr h=>h;refine⟨_,p.row e f ?_ y,y⟩;have:=ce.rH C M;unfold jQ;rw[F,G,H,J,K];exact this
 .rcases a with a|a
  .exact p.gX.1 0 j r (Ne.symm N) a
  .exact λh=>by have:=z j r h;omega
 .rcases a with a|a
  .exact p.gX.2 0 r a
  .exact λh=>by have:=(p.read r h).2.1;omega
end
section
variable{w0 w I:x4}{ad ae an ga:Nat}{A R:ah}{A9:Nat->ah}{aE:ah}{n:aI}{s u u':am}{t:aw}{h:List aw}{cs:List x1}{aS aU mN v:x1}{Q:x1->x4->Prop}
theorem Ry{F:ah}{c:List x1}{f:ch}(h:bJ (α:=kL) F R w c (km f))(z:∀r,F r->¬R r):∃aU d9 a7 e,c=[aU,d9,a7,.bool (decide (f.live≠0))]/\bJ e R w [a7] f.cs/\(∀r,e r->F r)/\
  ∀{I:x4}{cd:Λ},af e w I->bJ e R I [a7] cd->bJ (α:=kL) F R I c (km {f with cs:=cd}):=by
 obtain⟨ab,ac,A,B,rfl,C,N,O,h1,p⟩:=h;obtain⟨P,ad,aK,Q,rfl,S,E,G,H,T⟩:=h1;obtain⟨U,W,X,q,rfl,Y,s,J,K,L⟩:=T;have p:=p;subst p;obtain⟨x,rfl⟩:=V6.1 (show P.length=1 from av.len H);obtain⟨j,rfl⟩:=V6.1 (show U.length=1 from av.len K);obtain⟨v3,rfl⟩:=V6.1 (show W.length=1 from av.len L);have y:∀r,q r->F r:=λr h=>C r (E r (s r h));refine⟨x,j,v3,q,rfl,L,y,λ{I cd}M Z=>?_⟩;refine⟨[x,j,v3],[.bool (decide (f.live≠0))],A,B,rfl,C,N,O,⟨[x],[j,v3],aK,Q,rfl,S,E,G,av.V H M λr aa a he=>?_,[j],[v3],X,q,rfl,Y,s,J,av.V K M λr aa a he=>?_,Z⟩,rfl⟩
 .exact a.elim (λa=>G rfl r a (s r he)) (z r (y r he))
 .exact a.elim (λa=>J rfl r a he) (z r (y r he))
end
theorem b2.d6{s:am}{i:Nat}{x y:bz}(h:b2 s)(r:s.d6[i]?=σ x)(w:y.gone=x.gone):b2 {s with d6:=s.d6.set i y}:=λf j p v q z a=>by
 have a:(s.d6.set i y)[v.toNat]?=σ z:=a;rw[Y6]at a;split at a
 .rename_i e;split at a
  .cases a;subst e;rw[w];exact h f j p v q x r
  .cases a
 .exact h f j p v q z a
theorem b2.d7{s:am}{f g:ch}(h:b2 s)(r:s.d7[j]?=σ f)(J:g.sc=f.sc)(w:g.live≠0->f.live≠0):b2 {s with d7:=s.d7.set j g}:=λx a e v p z q=>by
 rcases V0 a with a|rfl
 .exact h x a e v p z q
 .exact h f (x6 r) (w e) v (by rw[<-J];exact p) z q
structure fI where
 kind:Nat
 i:Int
 pos:Int
 v:Int
 c:Int
def dv(s:am)(i v:Int):Option bz:=if 0<=i then match s.d6[i.toNat]? with
 |some x=>if x.gone=0/\v∈aC x then σ x else ν
 |none=>ν else ν
def dl(s:am)(j pos v:Int):Option (ch×Int×bz):=if 0<=j/\0<=pos then match s.d7[j.toNat]? with
 |some f=>if f.live≠0 then match f.sc[pos.toNat]? with
  |some u=>(dv s u v).map λx=>(f,u,x)
  |none=>ν
  else ν
 |none=>ν else ν
def ef(k:Int)(s:am)(f:ch)(pos:Nat)(v:Int):Int:=((bX s f.sc pos v).map (br f.ai f.cs)).foldl min k
def dd(k c most:Int):Int:=if¬(0<=c/\c<=k)then 3 else if most<c then 7 else 0
def jb(x:bz):Int:=match(aC x).map λv=>x.un.getD v.toNat 0 with
 |[]=>-1
 |c::l=>l.foldl min c
def gw(s:am)(i:Nat)(v:Int):Λ->am
 |[]=>s
 |w::L=>gw (if w≠v then dL s i w.toNat else s) i v L
def bg(k:Int)(s:am)(a:fI):am×Int:=
 if a.kind=0 then match dl s a.i a.pos a.v with
  |none=>(s,1)
  |some (f,u,x)=>if dd k a.c (ef k s f a.pos.toNat a.v)≠0 then(s,dd k a.c (ef k s f a.pos.toNat a.v))else(fZ s a.i.toNat f a.pos.toNat u.toNat x a.v (λg=>cU k g a.c) λg=>cm k g a.c,0)
 else if a.kind=1 then match dl s a.i a.pos a.v with
  |none=>(s,1)
  |some (f,u,x)=>if dd k a.c (x.un.getD a.v.toNat 0)≠0 then(s,dd k a.c (x.un.getD a.v.toNat 0))else(fZ s a.i.toNat f a.pos.toNat u.toNat x a.v (λg=>cm k g a.c) λg=>cU k g a.c,0)
 else if a.kind=2 then match(if 0<=a.i then s.d6[a.i.toNat]? else ν)with
  |none=>(s,1)
  |some x=>if x.gone≠0 then(s,1)else if dd k a.c (jb x)≠0 then(s,dd k a.c (jb x))else(iC s a.i.toNat x (λg=>cU k g a.c) λg=>cm k g a.c,0)
 else if a.kind=3 then match(if 0<=a.i then s.d6[a.i.toNat]? else ν)with
  |none=>(s,1)
  |some x=>if x.gone≠0 then(s,1)else if dd k a.c (if aC x=[]then-1 else s.zero)≠0 then(s,dd k a.c (if aC x=[]then-1 else s.zero))else(iC s a.i.toNat x (λg=>cm k g a.c) λg=>cU k g a.c,0)
 else if a.kind=4 then match dv s a.i a.v with
  |none=>(s,1)
  |some x=>if cm k s.zero (x.un.getD a.v.toNat 0)<k then(s,7)else(dL s a.i.toNat a.v.toNat,0)
 else match dv s a.i a.v with
  |none=>(s,1)
  |some x=>(gw s a.i.toNat a.v (aC x),0)
theorem oz:∀(l:Λ)(z c:Int),c<=l.foldl min z↔c<=z/\∀x∈l,c<=x
 |[],z,c=>Ξ
 |a::l,z,c=>by
  rw[V8,oz l (min z a) c];rw[List.forall_mem_cons];exact⟨λ⟨h1,e⟩=>⟨Ω,Ω,e⟩,λ⟨h1,e,f⟩=>⟨Ω,f⟩⟩
theorem lr{most:Int}(h:¬dd k c most≠0):(0<=c/\c<=k)/\c<=most:=by
 unfold dd at h;split at h
 .exact m6 Φ h
 .rename_i h1;split at h
  .exact m6 Φ h
  .exact⟨X5.1 h1,Ω⟩
theorem jS{s:am}{i:Int}{x:bz}(h:dv s i v=σ x):0<=i/\s.d6[i.toNat]?=σ x/\x.gone=0/\v∈aC x:=by
 unfold dv at h;split at h
 .rename_i e;split at h
  .rename_i y f;split at h
   .rename_i a;cases h;exact⟨e,f,a.1,a.2⟩
   .cases h
  .cases h
 .cases h
theorem mO{s:am}{j pos u:Int}{f:ch}{x:bz}(h:dl s j pos v=σ (f,u,x)):0<=j/\0<=pos/\s.d7[j.toNat]?=σ f/\f.live≠0/\f.sc[pos.toNat]?=σ u/\dv s u v=σ x:=by
 unfold dl at h;split at h
 .rename_i e;split at h
  .rename_i g p;split at h
   .rename_i q;split at h
    .rename_i w hw;cases a:dv s w v with
     |none=>rw[a]at h;cases h
     |some y=>
      rw[a]at h;cases h;exact⟨e.1,e.2,p,q,hw,a⟩
    .cases h
   .cases h
  .cases h
 .cases h
section
variable{k:Int}{co a:Λ}{s:am}
theorem oA{g:Int}(a:0<=g/\g<=k)(e:0<=c/\c<=g):0<=cU k g c/\cU k g c<=k:=by
 unfold cU;split<;>omega
theorem oB{g:Int}(a:0<=g/\g<=k)(e:0<=c):0<=cm k g c/\cm k g c<=k:=by
 unfold cm;omega
theorem il{u:Nat}{v:Nat}{x:bz}(a:bd k co s)(e:s.d6[u]?=σ x):0<=x.un.getD v 0/\x.un.getD v 0<=k:=by
 have hk:=a.ft;have f:=(x5.1 e).1;have h:=a.d6;exact Fs Ω (a.var u x _ e (x7 Ω)).2.1
theorem nF{f:ch}(a:bd k co s)(e:f∈s.d7):0<=br f.ai f.cs t/\br f.ai f.cs t<=k:=(uU a.ft λc h=>⟨a.ft,(a.d7 f e).1.jK c h⟩).2
theorem yT{x:bz}(h:v∈aC x)(a:c<=jb x):c<=x.un.getD v.toNat 0:=by
 unfold jb at a;have hm:x.un.getD v.toNat 0∈(aC x).map λv=>x.un.getD v.toNat 0:=j0.2 ⟨v,h,rfl⟩;generalize (aC x).map (λv=>x.un.getD v.toNat 0)=l at a hm;cases l with
 |nil=>cases hm
 |cons b l=>
  have h1:=(oz l b c).1 a;rcases V4.1 hm with e|e
  .rw[e];exact h1.1
  .exact h1.2 _ e
theorem sM{i:Nat}{v:Int}{x:bz}:∀(L:Λ)(s:am),bd k co s->s.d6[i]?=σ x->(∀w∈L,0<=w/\w<x.un.length)->bd k co (gw s i v L)/\(b2 s->b2 (gw s i v L))/\
  ∀bm,kh s a->x.gone=0->a[i]?=σ bm->fW k (gw s i v L) a=if bm∈L/\bm≠v then k else fW k s a
 |[],s,z,j,_=>⟨z,id,λbm _ _ _=>by rw[m5 Ξ];rfl⟩
 |w::L,s,z,j,C=>by
  unfold gw;by_cases hw:w≠v
  .rw[m3 hw];have G:=C w (.head _);have J:=yM z j G;have H:=(x5.1 j).1;have K:(dL s i w.toNat).d6[i]?=σ {x with mask:=((x.mask.toNat ||| 2 ^ w.toNat:Nat):Int)}:=by rw[kK j];exact l9 H
   obtain⟨h1,E,F⟩:=sM L (dL s i w.toNat) J K λu hu=>C u (.tail _ hu);refine⟨h1,λM=>E ?_,λbm p A B=>?_⟩
   .rw[kK j];exact b2.d6 M j rfl
   .have N:kh (dL s i w.toNat) a:=by
     rw[kK j];refine⟨by show a.length=(s.d6.set _ _).length;rw[o5];exact p.1,λq y b r I=>?_⟩;have r:(s.d6.set i {x with mask:=((x.mask.toNat ||| 2 ^ w.toNat:Nat):Int)})[q]?=σ y:=r;by_cases e:i=q
     .subst e;rw[l9 H]at r;cases r;exact p.2 i x b j I
     .rw[Z9 e]at r;exact p.2 q y b r I
    rw[F bm N A B,FB z p j A G B];by_cases e:bm=w
    .subst e;rw[m3 rfl,m3 (show bm∈bm::L/\bm≠v from⟨.head _,hw⟩)];split<;>rfl
    .rw[m5 e];by_cases f:bm∈L/\bm≠v
     .rw[m3 f,m3 ⟨.tail _ f.1,f.2⟩]
     .rw[m5 f,m5 λh=>f ⟨(V4.1 h.1).resolve_left e,h.2⟩]
  .rw[m5 hw];obtain⟨h1,E,F⟩:=sM L s z j λu hu=>C u (.tail _ hu);refine⟨h1,E,λbm p A B=>?_⟩;rw[F bm p A B];have hw:=X5.1 hw;by_cases f:bm∈L/\bm≠v
   .rw[m3 f,m3 ⟨.tail _ f.1,f.2⟩]
   .rw[m5 f,m5 λh=>f ⟨(V4.1 h.1).resolve_left λe=>h.2 (e.F hw),h.2⟩]
theorem b2.zero(h:b2 s):b2 {s with zero:=c}:=h
theorem FK{u:Nat}{f:ch}{x:bz}{tup un:Int->Int}(h:b2 s)(a:s.d7[j]?=σ f)(e:s.d6[u]?=σ x):b2 (fZ s j f pos u x v tup un):=
 b2.d6 (b2.d7 h a rfl id) e rfl
theorem FL{u:Nat}{x:bz}{g z:Int->Int}(h:b2 s)(a:s.d6[u]?=σ x):b2 (iC s u x g z):=b2.zero (b2.d6 h a rfl)
def oC(k:Int)(s:am)(m:fI)(s':am)(e:Int)(a:Λ):Prop:=fW k s' a=if 5<=m.kind/\e=0/\a[m.i.toNat]? ≠σ m.v then k else fW k s a
theorem yU{m:fI}(p:bd k co s)(F:b2 s):bd k co (bg k s m).1/\b2 (bg k s m).1/\∀a,kh s a->oC k s m (bg k s m).1 (bg k s m).2 a:=by
 have hk:=p.ft;have B:∀e:Int,e≠0->bd k co s/\b2 s/\∀a,kh s a->oC k s m s e a:=λe he=>⟨p,F,λa _=>by unfold oC;rw[m5 λh=>he h.2.1]⟩;have low:∀{s':am}{e:Int},m.kind<5->bd k co s'->b2 s'->(∀a,kh s a->fW k s' a=fW k s a)->bd k co s'/\b2 s'/\∀a,kh s a->oC k s m s' e a:=λhm h1 K T=>⟨h1,K,λa y=>by unfold oC;rw[m5 λh=>Ω];exact T a y⟩;unfold bg;split
 .rename_i P;cases ac:dl s m.i m.pos m.v with
  |none=>exact B 1 Φ
  |some q=>
   obtain⟨f,u,x⟩:=q;simp only;split
   .rename_i he;exact B _ he
   .rename_i he;obtain⟨z,hm⟩:=lr he;simp only;obtain⟨_,_,G,L,hu,A⟩:=mO ac;obtain⟨aa,j,E,Q⟩:=jS A;have H:=x6 G;have U:∀t∈bX s f.sc m.pos.toNat m.v,m.c<=br f.ai f.cs t:=λt C=>((oz _ _ _).1 hm).2 _ (j0.2 ⟨t,C,rfl⟩);have R:f.sc[m.pos.toNat]?=σ ((u.toNat:Nat):Int):=by rw[hu];congr 1;omega
    have C:∀t∈bX s f.sc m.pos.toNat m.v,0<=cU k (br f.ai f.cs t) m.c/\cU k (br f.ai f.cs t) m.c<=k:=λt C=>oA (nF p H) ⟨z.1,U t C⟩;have M:=oB (k:=k) (il (v:=m.v.toNat) p j) z.1;refine low Ω (Fx p G j C M) (FK F G j) λa y=>Fy p y G L R j Q (F f H L) C M λt C r I=>?_;have:=nF (t:=t) p H;exact vj I ⟨U t C,this.2⟩ (il p j) z.1
 split
 .rename_i _ P;cases ac:dl s m.i m.pos m.v with
  |none=>exact B 1 Φ
  |some q=>
   obtain⟨f,u,x⟩:=q;simp only;split
   .rename_i he;exact B _ he
   .rename_i he;obtain⟨z,hm⟩:=lr he;simp only;obtain⟨_,_,G,L,hu,A⟩:=mO ac;obtain⟨aa,j,E,Q⟩:=jS A;have H:=x6 G;have R:f.sc[m.pos.toNat]?=σ ((u.toNat:Nat):Int):=by rw[hu];congr 1;omega
    have C:∀t∈bX s f.sc m.pos.toNat m.v,0<=cm k (br f.ai f.cs t) m.c/\cm k (br f.ai f.cs t) m.c<=k:=λt C=>oB (nF p H) z.1;have M:=oA (k:=k) (il (v:=m.v.toNat) p j) ⟨z.1,hm⟩;refine low Ω (Fx p G j C M) (FK F G j) λa y=>Fy p y G L R j Q (F f H L) C M λt C r I=>?_;have h1:=nF (t:=t) p H;have K:=il (v:=m.v.toNat) p j;have:=vj I ⟨hm,K.2⟩ h1 z.1;omega
 split
 .rename_i _ _ P;cases ac:(if 0<=m.i then s.d6[m.i.toNat]? else ν)with
  |none=>exact B 1 Φ
  |some x=>
   have j:s.d6[m.i.toNat]?=σ x:=by split at ac;exact ac;cases ac
   simp only;split
   .exact B 1 Φ
   split
   .rename_i he;exact B _ he
   .rename_i E he;obtain⟨z,hm⟩:=lr he;simp only;have V:∀v∈aC x,m.c<=x.un.getD v.toNat 0:=λv A=>yT A hm;have N:∀v∈aC x,0<=cU k (x.un.getD v.toNat 0) m.c/\cU k (x.un.getD v.toNat 0) m.c<=k:=λv A=>oA (il p j) ⟨z.1,V v A⟩;have O:=oB p.zero z.1;refine low Ω (yK p j N O) (FL F j) λa y=>FA p y j (X5.1 E) N O λv A r I=>?_;exact vj I ⟨V v A,(il p j).2⟩ p.zero z.1
 split
 .rename_i _ _ _ P;cases ac:(if 0<=m.i then s.d6[m.i.toNat]? else ν)with
  |none=>exact B 1 Φ
  |some x=>
   have j:s.d6[m.i.toNat]?=σ x:=by split at ac;exact ac;cases ac
   simp only;obtain⟨W,X⟩:∃W,W=(if aC x=[]then-1 else s.zero):=⟨_,rfl⟩;rw[<-X];split
   .exact B 1 Φ
   split
   .rename_i he;exact B _ he
   .rename_i E he;obtain⟨z,hm⟩:=lr he;simp only;have Y:m.c<=s.zero:=by
     rw[X]at hm;split at hm
     .omega
     .exact hm
    have N:∀v∈aC x,0<=cm k (x.un.getD v.toNat 0) m.c/\cm k (x.un.getD v.toNat 0) m.c<=k:=λv A=>oB (il p j) z.1;have O:=oA p.zero ⟨z.1,Y⟩;refine low Ω (yK p j N O) (FL F j) λa y=>FA p y j (X5.1 E) N O λv A r I=>?_;have:=vj I ⟨Y,p.zero.2⟩ (il (v:=v.toNat) p j) z.1;omega
 split
 .rename_i _ _ _ _ P;cases ac:dv s m.i m.v with
  |none=>exact B 1 Φ
  |some x=>
   obtain⟨_,j,E,A⟩:=jS ac;simp only;split
   .exact B 7 Φ
   .rename_i he;have Z:=(eZ.1 A).1;simp only;refine low Ω (yM p j Z) (by rw[kK j];exact b2.d6 F j rfl) λa y=>?_;have ab:=(x5.1 j).1;have ad:=y.1;obtain⟨bm,J⟩:=aF (l:=a) (i:=m.i.toNat) Ω;rw[FB p y j E Z J];split
    .rename_i e;subst e;rw[pN p];split
     .have ae:(s.d6.zip a)[m.i.toNat]?=σ (x,m.v):=List.getElem?_zip_eq_some.2 ⟨j,J⟩;have h1:=sG (vk p) (x:=dM (x,m.v)) (by rw[v8,ae];rfl);have K:=sF _ (sH (a:=a) p);have ag:dM (x,m.v)=x.un.getD m.v.toNat 0:=by unfold dM;rw[m5 (by simp[E])]
      unfold cm at he;omega
     .rfl
    .rfl
 .rename_i h1 K T ah aj;cases ac:dv s m.i m.v with
  |none=>exact B 1 Φ
  |some x=>
   obtain⟨_,j,E,A⟩:=jS ac;simp only;have S:∀w∈aC x,0<=w/\w<x.un.length:=λw hw=>(eZ.1 hw).1;refine⟨(sM (a:=[]) (aC x) s p j S).1,(sM (a:=[]) (aC x) s p j S).2.1 F,λa y=>?_⟩;have ab:=(x5.1 j).1;have ad:=y.1;obtain⟨bm,J⟩:=aF (l:=a) (i:=m.i.toNat) Ω;unfold oC;rw[(sM (aC x) s p j S).2.2 bm y E J,J];by_cases e:bm=m.v
   .rw[m5 λh=>h.2 e,m5 λh=>h.2.2 (by rw[e])]
   .rw[m3 (c:=5<=m.kind/\_) ⟨Ω,rfl,λh=>e (Z6 h)⟩];split
    .rfl
    .rename_i af;exact Rg y j E J λh=>af ⟨h,e⟩
end
theorem Rz{f:Int->Int}{cs:Λ}(J:dG ai)(q:cs.length<=(bp ai).length)(h:∀t∈L,f (br ai cs t)=br ai cs t):dT f L ai cs=cs:=by
 apply X3;intro i;cases a:cs[i]? with
 |none=>
  have h1:=List.getElem?_eq_none_iff.1 a;rw[Y4 (by rw[pK]<;>omega)]
 |some c=>
  obtain⟨t,j⟩:=aF (l:=bp ai) (i:=i) (by have:=(x5.1 a).1;omega);rw[qQ j a];split
  .rename_i p;have e:br ai cs t=c:=by
    unfold br;rw[kF J j];simp only;rw[u6,u4,a];rfl
   have:=h t p;rw[e]at this;rw[this]
  .rfl
section
variable{k:Int}{co:Λ}{s:am}
theorem FM{i:Int}{u:Nat}{x y:bz}{s':am}(a:s.d6[u]?=σ x)(f:s'.d6=s.d6.set u y)(h:aC y=aC x):bb s' i=bb s i:=by
 unfold bb;rw[f,Y6];by_cases e:u=i.toNat
 .subst e;rw[m3 rfl,m3 (x5.1 a).1,a];exact h
 .rw[m5 e]
theorem FN{x:bz}(h:un.length=x.un.length):aC {x with un:=un}=aC x:=by
 unfold aC;rw[h]
theorem FO{u:Nat}{f:ch}{x:bz}{tup un:Int->Int}(a:s.d6[u]?=σ x):∀i,bb (fZ s j f pos u x v tup un) i=bb s i:=λi=>
 FM a rfl (FN (by rw[o5]))
theorem RA{a:fI}{f:ch}{u:Int}{x:bz}(ac:dl s a.i a.pos a.v=σ (f,u,x)):
  (a.kind=0->(bg k s a).2=0->bg k s a=(fZ s a.i.toNat f a.pos.toNat u.toNat x a.v (λg=>cU k g a.c) λg=>cm k g a.c,0)/\(0<=a.c/\a.c<=k)/\a.c<=ef k s f a.pos.toNat a.v)/\
  (a.kind=0->(0<=a.c/\a.c<=k)->a.c<=ef k s f a.pos.toNat a.v->bg k s a=(fZ s a.i.toNat f a.pos.toNat u.toNat x a.v (λg=>cU k g a.c) λg=>cm k g a.c,0))/\
  (a.kind=1->(bg k s a).2=0->bg k s a=(fZ s a.i.toNat f a.pos.toNat u.toNat x a.v (λg=>cm k g a.c) λg=>cU k g a.c,0)/\(0<=a.c/\a.c<=k)/\a.c<=x.un.getD a.v.toNat 0)/\
  (a.kind=1->(0<=a.c/\a.c<=k)->a.c<=x.un.getD a.v.toNat 0->bg k s a=(fZ s a.i.toNat f a.pos.toNat u.toNat x a.v (λg=>cm k g a.c) λg=>cU k g a.c,0)):=by
 have q:∀{m:Int},(0<=a.c/\a.c<=k)->a.c<=m->dd k a.c m=0:=λh1 p=>by
  unfold dd;rw[m5 (λh=>h h1),m5 Ω]
 refine⟨λj he=>?_,λj h1 p=>?_,λj he=>?_,λj h1 p=>?_⟩
 .unfold bg at he ⊢;rw[m3 j,ac]at he ⊢;simp only at he ⊢;split at he
  .rename_i e;exact m6 he e
  .rename_i e;rw[m5 e];exact⟨rfl,lr e⟩
 .unfold bg;rw[m3 j,ac];simp only;rw[m5 (λh=>h (q h1 p))]
 .unfold bg at he ⊢;rw[m5 Ω,m3 j,ac]at he ⊢;simp only at he ⊢;split at he
  .rename_i e;exact m6 he e
  .rename_i e;rw[m5 e];exact⟨rfl,lr e⟩
 .unfold bg;rw[m5 Ω,m3 j,ac];simp only;rw[m5 (λh=>h (q h1 p))]
end
section
variable{k:Int}{co:Λ}{s:am}
theorem qT{f:ch}(a:bd k co s)(e:f∈s.d7)(p:∀u,f.sc[pos]?=σ u->v∈bb s u)(h:t∈bX s f.sc pos v):∃m:Nat,cz f.ai t 0=σ (m:Int):=by
 obtain⟨j,q,_⟩:=a.d7 f e;obtain⟨r,_⟩:=lq a e;rw[yE a (λu hu=>⟨(j.scope.1 u hu).1,j.d6 u hu⟩) p,<-q]at h;obtain⟨i,hi⟩:=X6.1 (S1.1 h).1;exact⟨i,kF r hi⟩
theorem room_le{f:ch}:c<=ef k s f pos v↔c<=k/\∀t∈bX s f.sc pos v,c<=br f.ai f.cs t:=by
 unfold ef;rw[oz];refine and_congr_right λ_=>⟨λh t a=>h _ (j0.2 ⟨t,a,rfl⟩),λh x e=>?_⟩;obtain⟨t,a,rfl⟩:=j0.1 e;exact h t a
end
theorem RB{x:bz}(p:aC x≠[])(h:∀v∈aC x,c<=x.un.getD v.toNat 0):c<=jb x:=by
 unfold jb;have a:∀y∈(aC x).map λv=>x.un.getD v.toNat 0,c<=y:=λy f=>by
  obtain⟨v,q,rfl⟩:=j0.1 f;exact h v q
 have j:(aC x).map (λv=>x.un.getD v.toNat 0)≠[]:=λe=>p (List.map_eq_nil_iff.1 e);generalize (aC x).map (λv=>x.un.getD v.toNat 0)=l at a j;cases l with
 |nil=>exact m6 rfl j
 |cons b l=>exact(oz l b c).2 ⟨a b (.head _),λy f=>a y (.tail _ f)⟩
section
variable{k:Int}{co:Λ}{s:am}
theorem FP{x:bz}{g:Int->Int}{L:Λ}:aC {x with un:=ec g x.un L}=aC x:=FN (sI _ _)
theorem RC{a:fI}{x:bz}(r:0<=a.i)(w:s.d6[a.i.toNat]?=σ x)(f:x.gone=0):
  (a.kind=2->(bg k s a).2=0->bg k s a=(iC s a.i.toNat x (λg=>cU k g a.c) λg=>cm k g a.c,0)/\(0<=a.c/\a.c<=k)/\a.c<=jb x)/\
  (a.kind=2->(0<=a.c/\a.c<=k)->a.c<=jb x->bg k s a=(iC s a.i.toNat x (λg=>cU k g a.c) λg=>cm k g a.c,0))/\
  (a.kind=3->(bg k s a).2=0->bg k s a=(iC s a.i.toNat x (λg=>cm k g a.c) λg=>cU k g a.c,0)/\(0<=a.c/\a.c<=k)/\a.c<=(if aC x=[]then-1 else s.zero))/\
  (a.kind=3->(0<=a.c/\a.c<=k)->a.c<=(if aC x=[]then-1 else s.zero)->bg k s a=(iC s a.i.toNat x (λg=>cm k g a.c) λg=>cU k g a.c,0)):=by
 have p:∀{m:Int},(0<=a.c/\a.c<=k)->a.c<=m->dd k a.c m=0:=λh1 j=>by
  unfold dd;rw[m5 (λh=>h h1),m5 Ω]
 generalize q:(if aC x=[]then-1 else s.zero)=y;have ac:(if 0<=a.i then s.d6[a.i.toNat]? else ν)=σ x:=by rw[m3 r,w]
 refine⟨λhk he=>?_,λhk h1 j=>?_,λhk he=>?_,λhk h1 j=>?_⟩
 .unfold bg at he ⊢;rw[m5 Ω,m5 Ω,m3 hk,ac]at he ⊢;simp only at he ⊢;rw[m5 (λh=>h f)]at he ⊢;split at he
  .rename_i e;exact m6 he e
  .rename_i e;rw[m5 e];exact⟨rfl,lr e⟩
 .unfold bg;rw[m5 Ω,m5 Ω,m3 hk,ac];simp only;rw[m5 (λh=>h f),m5 (λh=>h (p h1 j))]
 .unfold bg at he ⊢;rw[m5 Ω,m5 Ω,m5 Ω,m3 hk,ac]at he ⊢;simp only[q]at he ⊢;rw[m5 (λh=>h f)]at he ⊢;split at he
  .rename_i e;exact m6 he e
  .rename_i e;rw[m5 e];exact⟨rfl,lr e⟩
 .unfold bg;rw[m5 Ω,m5 Ω,m5 Ω,m3 hk,ac];simp only[q];rw[m5 (λh=>h f),m5 (λh=>h (p h1 j))]
end
section
variable{k:Int}{co:Λ}{s:am}
theorem RD{m:fI}(h:(bg k s m).2≠0):(bg k s m).1=s:=by
 generalize hm:bg k s m=r at h ⊢;unfold bg at hm
 repeat' split at hm
 all_goals (subst hm;first|rfl|exact m6 rfl h)
end
theorem FQ{of:Int->Int}(hk:0<=k)(h:∀v∈l,0<=of v/\of v<=k):0<=(dz k l of).1/\(dz k l of).1<=k:=by
 unfold dz;have:∀(l:Λ)(p:Int×Int),(0<=p.1/\p.1<=k)->(∀v∈l,0<=of v/\of v<=k)->0<=(l.foldl (eX of) p).1/\(l.foldl (eX of) p).1<=k:=λl=>by
  induction l with
  |nil=>exact λp ac _=>ac
  |cons v l e=>
   intro p ac a;refine e _ ?_ λu hu=>a u (.tail _ hu);unfold eX;split
   .exact a v (.head _)
   .exact ac
 exact this l (k,-1) ⟨hk,S8 _⟩ h
section
variable{w:x4}{ad ae:Nat}{A R:ah}{n:aI}{s:am}{t:aw}
end
def simpStep(of:Λ->Int)(p:Int×Option (Λ))(tl:Λ):Int×Option (Λ):=if p.2=ν\/of tl<p.1 then(of tl,σ tl)else p
def fJ(k:Int)(of:Λ->Int)(l:List (Λ)):Int×Option (Λ):=l.foldl (simpStep of) (k,ν)
section
variable{w:x4}{ad ae:Nat}{A R:ah}{n:aI}{s:am}{t:aw}
end
def dA(n:aI)(s:am)(i:Int):Int×Int:=dz n.k (bb s i) (cp n s i)
def lu(n:aI)(s:am)(j:Nat)(f:ch)(p:Nat)(v:Int):Int×Option (Λ):=fJ n.k (yC s j) (pL s f.sc p f.sc.length 0 ((o4 f.sc.length 0).set p v))
theorem RE{s:am}{i:Int}(a:bd k co s):(bb s i).length<=32:=by
 unfold bb;split
 .rename_i x e;have h:=(x5.1 e).1;have j:=a.d6;obtain⟨z,f⟩:=aF (l:=co) (i:=i.toNat) Ω;have h1:=(a.var _ x z e f).1;have p:=a.eD.2.2 z (x6 f);have q:(aC x).length<=x.un.length:=by
   unfold aC;refine Y9 (Q8 _ _) ?_;rw[u9,List.length_range];exact p8 _
  omega
 .simp
section
variable{k:Int}{n:aI}{s:am}
end
theorem yV{of:Int->Int}{c:Int}:∀(l:Λ)(b w:Int),w≠ -1->(∀v∈l,v≠ -1)->(c<=(l.foldl (eX of) (b,w)).1↔c<=b/\∀v∈l,c<=of v)
 |[],b,w,_,_=>Ξ
 |v::l,b,w,hw,e=>by
  rw[V8,List.forall_mem_cons];have j:=e v (.head _);have f:=λu hu=>e u (.tail _ hu);unfold eX;by_cases h:of v<b
  .rw[m3 (.inr h)];show c<=(l.foldl (eX of) (of v,v)).1↔_;rw[yV l _ _ j f];exact⟨λ⟨h1,a⟩=>⟨Ω,h1,a⟩,λ⟨_,h1,a⟩=>⟨h1,a⟩⟩
  .rw[m5 (by rintro (h1|h1)<;>contradiction)];show c<=(l.foldl (eX of) (b,w)).1↔_;rw[yV l _ _ hw f];exact⟨λ⟨h1,a⟩=>⟨h1,Ω,a⟩,λ⟨h1,_,a⟩=>⟨h1,a⟩⟩
theorem RF{of:Int->Int}(h:∀v∈l,v≠ -1/\of v<=k):c<=(dz k l of).1↔c<=k/\∀v∈l,c<=of v:=by
 cases l with
 |nil=>simp[dz]
 |cons v l=>
  have f:=h v (.head _);have e:dz k (v::l) of=l.foldl (eX of) (of v,v):=by
   unfold dz;rw[V8];congr 1
  rw[e,yV l _ _ f.1 λu hu=>(h u (.tail _ hu)).1,List.forall_mem_cons];exact⟨λ⟨h1,a⟩=>⟨Ω,h1,a⟩,λ⟨_,h1,a⟩=>⟨h1,a⟩⟩
section
variable{n:aI}{s:am}
theorem RG{i:Int}(e:bd n.k n.co s):∀v∈bb s i,v≠ -1/\cp n s i v<=n.k:=λv a=>by
 refine⟨?_,(qR e).2⟩;unfold bb at a;split at a
 .have:=Fo a;omega
 .cases a
theorem FR{i:Int}(a:bd n.k n.co s):0<=(dA n s i).1/\(dA n s i).1<=n.k:=by
 have hk:=a.ft;exact FQ Ω λv _=>qR a
theorem FS{w:Nat}{x:bz}{i u:Int}(f:bd n.k n.co s)(a:s.d6[w]?=σ x)(j:0<=v):u∈bb (dL s w v.toNat) i↔u∈bb s i/\(i.toNat=w->u≠v):=by
 have p:=(x5.1 a).1;have r:=f.d6;have h1:=f.var w x _ a (x7 Ω);have hm:((x.mask.toNat:Nat):Int)=x.mask:=Ω
 unfold bb;rw[kK a];simp only[Y6];by_cases e:w=i.toNat
 .subst e;rw[m3 rfl,m3 p,a];simp only;rw[eZ,eZ];by_cases hu:0<=u
  .simp only;rw[yL j hu,hm,U4];simp[and_assoc]
  .exact⟨λh=>Ω,λh=>Ω⟩
 .rw[m5 e];exact⟨λh=>⟨h,λq=>m6 q.symm e⟩,λh=>h.1⟩
theorem RH{w:Nat}{i u:Int}{x:bz}(a:s.d6[w]?=σ x):cp n (dL s w v.toNat) i u=cp n s i u:=by
 unfold cp fj;rw[kK a];simp only[Y6];by_cases e:w=i.toNat
 .subst e;rw[m3 rfl,m3 (x5.1 a).1,a]
 .rw[m5 e]
end
structure dB(s s':am):Prop where
 d6:s'.d6.length=s.d6.length
 var:∀(i:Nat)x y,s.d6[i]?=σ x->s'.d6[i]?=σ y->y.gone=x.gone/\y.un.length=x.un.length
 d7:s'.d7.length=s.d7.length
 fn:∀(j:Nat)f g,s.d7[j]?=σ f->s'.d7[j]?=σ g->g.sc=f.sc/\g.ai=f.ai/\g.live=f.live/\g.cs.length=f.cs.length
 dc:s'.dc=s.dc
theorem dB.rfl{s:am}:dB s s:=⟨Eq.refl _,λ_ _ _ h1 a=>by rw[h1]at a;cases a;exact⟨Eq.refl _,Eq.refl _⟩,Eq.refl _,λ_ _ _ h1 a=>by rw[h1]at a;cases a;exact⟨Eq.refl _,Eq.refl _,Eq.refl _,Eq.refl _⟩,Eq.refl _⟩
theorem dB.F{a b c:am}(h:dB a b)(k:dB b c):dB a c:=by
 refine⟨k.d6.F h.d6,λi x z p A=>?_,k.d7.F h.d7,λj f q r B=>?_,k.dc.F h.dc⟩
 .have C:=(x5.1 p).1;have E:=h.d6;obtain⟨y,s⟩:=aF (l:=b.d6) (i:=i) Ω;have h1:=h.var i x y p s;have e:=k.var i y z s A;exact⟨e.1.F h1.1,e.2.F h1.2⟩
 .have C:=(x5.1 r).1;have E:=h.d7;obtain⟨g,w⟩:=aF (l:=b.d7) (i:=j) Ω;have h1:=h.fn j f g r w;have e:=k.fn j g q w B;exact⟨e.1.F h1.1,e.2.1.F h1.2.1,e.2.2.1.F h1.2.2.1,e.2.2.2.F h1.2.2.2⟩
section
variable{k:Int}{co:Λ}{s:am}
theorem yW{i:Nat}{x y:bz}(r:s.d6[i]?=σ x)(w:y.gone=x.gone)(z:y.un.length=x.un.length):dB s {s with d6:=s.d6.set i y}:=by
 refine⟨o5,λj a b q h=>?_,rfl,λj f g h1 p=>?_,rfl⟩
 .have h:(s.d6.set i y)[j]?=σ b:=h;by_cases e:i=j
  .subst e;rw[l9 (x5.1 r).1]at h;rw[r]at q;cases q;cases h;exact⟨w,z⟩
  .rw[Z9 e,q]at h;cases h;exact⟨rfl,rfl⟩
 .have p:=p;rw[h1]at p;cases p;exact⟨rfl,rfl,rfl,rfl⟩
theorem RI{f g:ch}(w:s.d7[j]?=σ f)(h:g.sc=f.sc/\g.ai=f.ai/\g.live=f.live/\g.cs.length=f.cs.length):dB s {s with d7:=s.d7.set j g}:=by
 refine⟨rfl,λi a b r p=>?_,o5,λq a b r p=>?_,rfl⟩
 .have p:=p;rw[r]at p;cases p;exact⟨rfl,rfl⟩
 .have p:(s.d7.set j g)[q]?=σ b:=p;by_cases e:j=q
  .subst e;rw[l9 (x5.1 w).1]at p;rw[w]at r;cases r;cases p;exact h
  .rw[Z9 e,r]at p;cases p;exact⟨rfl,rfl,rfl,rfl⟩
theorem RJ:dB s {s with zero:=c}:=⟨rfl,λ_ _ _ h1 a=>by have a:=a;rw[h1]at a;cases a;exact⟨rfl,rfl⟩,rfl,λ_ _ _ h1 a=>by have a:=a;rw[h1]at a;cases a;exact⟨rfl,rfl,rfl,rfl⟩,rfl⟩
theorem yX{i:Nat}:dB s (dL s i v.toNat):=by
 cases a:s.d6[i]? with
 |none=>unfold dL;rw[a];exact .rfl
 |some x=>rw[kK a];exact yW a rfl rfl
theorem yY{i:Nat}{v:Int}:∀(L:Λ)(s:am),dB s (gw s i v L)
 |[],_=>.rfl
 |w::L,s=>by
  unfold gw;split
  .exact yX.F (yY L _)
  .exact yY L s
theorem FT{u:Nat}{x:bz}{g z:Int->Int}(a:s.d6[u]?=σ x):dB s (iC s u x g z):=
 (yW (y:={x with un:=ec g x.un (aC x)}) a rfl (sI _ _)).F RJ
theorem FU{u:Nat}{f:ch}{x:bz}{t un:Int->Int}(e:bd k co s)(a:s.d7[j]?=σ f)(h:s.d6[u]?=σ x):dB s (fZ s j f pos u x v t un):=by
 obtain⟨_,p⟩:=lq e (x6 a);have h1:dB s (eu s j f (dT t (bX s f.sc pos v) f.ai f.cs)):=RI a ⟨rfl,rfl,rfl,pK _ _ _ _ Ω⟩;exact h1.F (yW (y:={x with un:=x.un.set v.toNat (un (x.un.getD v.toNat 0))}) h rfl o5)
theorem yZ{m:fI}(q:bd k co s):dB s (bg k s m).1:=by
 by_cases he:(bg k s m).2=0
 .generalize a:bg k s m=r at he ⊢;unfold bg at a;split at a
  .split at a
   .subst a;exact .rfl
   .rename_i f u x ac;obtain⟨_,_,e,_,_,j⟩:=mO ac;obtain⟨_,p,_,_⟩:=jS j;split at a
    .subst a;exact .rfl
    .subst a;simp only;exact FU q e p
  split at a
  .split at a
   .subst a;exact .rfl
   .rename_i f u x ac;obtain⟨_,_,e,_,_,j⟩:=mO ac;obtain⟨_,p,_,_⟩:=jS j;split at a
    .subst a;exact .rfl
    .subst a;simp only;exact FU q e p
  have key:∀{x:bz},(if 0<=m.i then s.d6[m.i.toNat]? else ν)=σ x->s.d6[m.i.toNat]?=σ x:=λh=>by
   split at h
   .exact h
   .cases h
  split at a
  .split at a
   .subst a;exact .rfl
   .rename_i x ac;split at a
    .subst a;exact .rfl
    .split at a
     .subst a;exact .rfl
     .subst a;simp only;exact FT (key ac)
  split at a
  .split at a
   .subst a;exact .rfl
   .rename_i x ac;generalize (if aC x=[]then-1 else s.zero)=w at a;split at a
    .subst a;exact .rfl
    .split at a
     .subst a;exact .rfl
     .subst a;simp only;exact FT (key ac)
  split at a
  .split at a
   .subst a;exact .rfl
   .split at a
    .subst a;exact .rfl
    .subst a;exact yX
  .split at a
   .subst a;exact .rfl
   .subst a;exact yY _ _
 .rw[RD he];exact .rfl
def eF(i v:Int):fI:=⟨4,i,0,v,0⟩
def l5(i c:Int):fI:=⟨2,i,0,0,c⟩
def dm(k:Int)(i:Int):Λ->am×Bool->am×Bool
 |[],p=>p
 |v::L,p=>dm k i L ((bg k p.1 (eF i v)).1,decide ((bg k p.1 (eF i v)).2=0)||p.2)
def e8(n:aI)(i:Int)(p:am×Bool):am×Bool×Bool:=
 if du p.1 i.toNat=ro then(p.1,p.2,rs)else
 let q:=dm n.k i (bb p.1 i) (p.1,rs)
 if(dA n q.1 i).2<0 then(q.1,rs,ro)else
 if 0<(dA n q.1 i).1 then((bg n.k q.1 (l5 i (dA n q.1 i).1)).1,ro,rs)else(q.1,q.2||p.2,rs)
def gR(n:aI):List Nat->am×Bool->am×Bool×Bool
 |[],p=>(p.1,p.2,rs)
 |i::L,p=>if(e8 n (i:Int) p).2.2=ro then((e8 n (i:Int) p).1,rs,ro)else gR n L ((e8 n (i:Int) p).1,(e8 n (i:Int) p).2.1)
def fu(n:aI)(s:am):am×Bool×Bool:=gR n (W3 n.co.length) (s,rs)
structure gx(k:Int)(co:Λ)(s s':am):Prop where
 ok:bd k co s'
 jc:b2 s'
 same:dB s s'
 val:∀a,kh s a->fW k s' a=fW k s a
 ko:∀i u,u∈bb s' i->u∈bb s i
 zero:s.zero<=s'.zero
theorem FV{s':am}(h:dB s s')(e:kh s a):kh s' a:=by
 refine⟨e.1.F h.d6.symm,λi y v f p=>?_⟩;have q:=(x5.1 f).1;have r:=h.d6;obtain⟨x,j⟩:=aF (l:=s.d6) (i:=i) Ω;have h1:=h.var i x y j f;rw[h1.1,h1.2];exact e.2 i x v j p
theorem gx.rfl(a:bd k co s)(e:b2 s):gx k co s s:=⟨a,e,.rfl,λ_ _=>Eq.refl _,λ_ _ h=>h,S8 _⟩
theorem gx.F{a b c:am}(h:gx k co a b)(g:gx k co b c):gx k co a c:=
 ⟨g.ok,g.jc,h.same.F g.same,λx e=>(g.val x (FV h.same e)).F (h.val x e),λi u hu=>h.ko i u (g.ko i u hu),Int.le_trans h.zero g.zero⟩
theorem FW{m:fI}(e:bd k co s)(f:b2 s)(hm:m.kind<5)(h:∀i u,u∈bb (bg k s m).1 i->u∈bb s i)(j:s.zero<=(bg k s m).1.zero):gx k co s (bg k s m).1:=by
 obtain⟨h1,p,q⟩:=yU (m:=m) e f;refine⟨h1,p,yZ e,λa r=>?_,h,j⟩;have:=q a r;unfold oC at this;rw[m5 Ω]at this;exact this
end
def vt(B:Nat)(w:x4)(a:x1)(cs:List x1)(f:b5):Prop:=∃ad ae A R t N A9 aE,fp N f/\a=Γ ad/\bt w ad ae A R (cP f) (dh (cP f)) t/\Plain t/\(∀r,A r->B<=r)/\
 jQ ro A9 aE w cs (cP f).k (cP f).co (dh (cP f))/\(∀q r,A9 q r->¬A r/\¬R r/\B<=r)/\(∀r,aE r->¬er w r/\r<w.heap.size/\B<=r)/\∀r,R r->B<=r
def RK(w:x4)(q:Λ)(v:x1)(I:x4):Prop:=Ext w I/\∃a cs ok,v= .tuple #[a,.agg cs.toArray,.bool ok]/\(cs.length=8/\∀u∈cs,u.oneCell'=ro)/\((ok=rs/\a= .pointer ν)\/(ok=ro/\∃f,gZ q=σ f/\vt w.heap.size I a cs f))/\∀f,gZ q=σ f->nA f.d7<=16384->ok=ro
theorem RL(J:dG ai):(bp ai).Nodup:=by
 rw[List.nodup_iff_pairwise_ne,U8];intro i j hi a f he;have h1:=kF J (x7 hi);have e:=kF J (x7 a);rw[he,e]at h1;have:=Z6 h1;omega
section
variable{k:Int}{co:Λ}{s:am}
theorem FX{f:ch}(a:bd k co s)(e:f∈s.d7)(j:∀u,f.sc[pos]?=σ u->v∈bb s u):(bX s f.sc pos v).Nodup:=by
 obtain⟨h,p,_⟩:=a.d7 f e;obtain⟨q,_⟩:=lq a e;rw[yE a (λu hu=>⟨(h.scope.1 u hu).1,h.d6 u hu⟩) j,<-p];exact(RL q).sublist List.filter_sublist
theorem y0{α:Type}{l:List α}{q:Nat}{a:α}(e:l.Nodup)(h:l[q]?=σ a):a∉l.take q:=λhm=>by
 obtain⟨i,hi⟩:=X6.1 hm;have f:i<q:=by have:=(x5.1 hi).1;rw[o8]at this;omega
 rw[Y7 f]at hi;have h1:=(x5.1 hi).1;have j:=(x5.1 h).1;have:=(List.getElem_inj e (h₁:=j)).1 (by rw[(x5.1 hi).2,(x5.1 h).2]);omega
theorem RM{m:Nat}{f:ch}(a:s.d7[j]?=σ f)(e:f.live≠0)(hi:cz f.ai t 0=σ (m:Int)):yC s j t=br f.ai f.cs t/\∃p,gQ s j t=σ p:=by
 have h:∃p,gQ s j t=σ p:=by
  unfold gQ;rw[a];simp only;rw[m3 e,hi];exact⟨_,rfl⟩
 obtain⟨p,ac⟩:=h;refine⟨?_,p,ac⟩;unfold yC;rw[ac,S9,m3 rfl];unfold nD;rw[a]
theorem FY{m q:Nat}{f:ch}{g:Int->Int}(y:bd k co s)(p:s.d7[j]?=σ f)(z:L.Nodup)(r:L[q]?=σ t)(hi:cz f.ai t 0=σ (m:Int)):
  br f.ai (dT g (L.take q) f.ai f.cs) t=br f.ai f.cs t/\l3 (eu s j f (dT g (L.take q) f.ai f.cs)) j m (g (br f.ai f.cs t))=eu s j f (dT g (L.take (q+1)) f.ai f.cs):=by
 obtain⟨a,A⟩:=lq y (x6 p);have w:=y0 z r;refine⟨by rw[Ft a A hi,m5 w],?_⟩;have h:=nu a hi;rw[u6]at h;have E:=(x5.1 h).1;obtain⟨c,x⟩:=aF (l:=f.cs) (i:=m) Ω;have e:br f.ai f.cs t=c:=by
  unfold br;rw[hi];simp only;rw[u6,u4,x];rfl
 have B:=(QP (f:=g) a Ω h x w).2;unfold l3;have C:(eu s j f (dT g (L.take q) f.ai f.cs)).d7[j]?=σ {f with cs:=dT g (L.take q) f.ai f.cs}:=l9 (x5.1 p).1;rw[C,e];simp only;rw[B,r8,r];unfold eu;simp only[List.set_set];rfl
end
section
variable{w:x4}{ad ae:Nat}{A R:ah}{n:aI}{s:am}{t:aw}
theorem y1{i:Int}(h:bt w ad ae A R n s t):al x8 Jr [Γ ad,Δ i,Δ v] w λr I=>Ext w I/\r=Δ (if(dv s i v).isSome=ro then 0 else 1):=by
 have L:=h.2.2.2.1.d6;refine aB func154 ?_;rw[cR dx.u];simp only[Z3,aX];refine aV (λr U=>r= .bool (!(dv s i v).isSome)/\Ext w U) ?_ ?_
 .rintro _ U ⟨rfl,C⟩;rw[bY];exact⟨λp=>⟨C,by rw[m5 (by simpa using p)]⟩,λp=>⟨C,by rw[m3 (by simpa using p)]⟩⟩
 intro ay E;refine(sB h).Y ?_;rintro _ aa _ ⟨rfl,q⟩;rw[bY];refine⟨λa=>E _ _ ⟨?_,q⟩,λa=>?_⟩
 .rw[T1,ne]at a;have y:dv s i v=ν:=by
   unfold dv;rw[m3 a.1];have z:=a.2;unfold du at z;cases e:s.d6[i.toNat]? with
   |none=>rfl
   |some x=>
    rw[e]at z;simp only;rw[m5 λh=>by simp[h.1]at z]
  rw[y];rfl
 refine(jP (i:=i) (h.W q)).Y ?_;rintro _ M _ ⟨⟨b,m,rfl,B⟩,H⟩;refine(E9 B.1).Y ?_;rintro _ N _ ⟨rfl,J⟩;rw[bC];refine E _ _ ⟨?_,(q.F H).F J⟩;congr 2;by_cases f:0<=i/\i<n.co.length
 .obtain⟨x,e⟩:=aF (l:=s.d6) (i:=i.toNat) Ω;rw[QU B f.1 e];unfold dv;rw[m3 f.1,e];have K:x.gone=0:=by
   rw[m7 f.1,S0]at a;unfold du at a;rw[e]at a;simpa using a
  simp only;by_cases j:v∈aC x
  .rw[m7 j,m3 ⟨K,j⟩];rfl
  .rw[ms j,m5 λh=>j h.2];rfl
 .obtain⟨rfl,rfl⟩:=B.2.1 f;have y:dv s i v=ν:=by
   unfold dv;by_cases G:0<=i
   .rw[m3 G,Y4 Ω]
   .rw[m5 G]
  rw[y,ms Ω];rfl
def RN(s:am)(j pos v:Int)(u e:Int):Prop:=(e=0/\∃f x,dl s j pos v=σ (f,u,x))\/(e=1/\dl s j pos v=ν)
theorem y2{j pos:Int}(h:bt w ad ae A R n s t):al x8 Jl [Γ ad,Δ j,Δ pos,Δ v] w λr I=>Ext w I/\∃u e,r= .tuple #[Δ u,Δ e]/\RN s j pos v u e:=by
 refine aB func146 ?_;rw[cR dx.u];simp only[Z3,aX];have key:∀(K:x1->x4->Prop),(∀r I,Ext w I->(∀f,0<=j->s.d7[j.toNat]?=σ f->aM .i64 I r f.sc)->K r I)->al x8 tx [Γ ad,Δ j] w K:=λK V=>by
  by_cases W:0<=j/\j<s.d7.length
  .obtain⟨f,p⟩:=aF (l:=s.d7) (i:=j.toNat) Ω;have:=sE h p;rw[show((j.toNat:Nat):Int)=j by omega]at this;refine this.Y ?_;rintro r U _ ⟨C,g,_,hm⟩;exact V r U C λH _ X=>by rw[p]at X;cases X;exact hm.ls
  .refine (QO h W).Y ?_;rintro r U _ ⟨rfl,C⟩;exact V _ U C λf E p=>m6 ⟨E,by have:=(x5.1 p).1;omega⟩ W
 refine key _ λr U C Y=>?_;have L:∀{P:Prop},(¬∃f u,0<=j/\0<=pos/\s.d7[j.toNat]?=σ f/\f.live≠0/\f.sc[pos.toNat]?=σ u)->(dl s j pos v=ν->P)->P:=λz an=>an (by
  cases ac:dl s j pos v with
  |none=>rfl
  |some q=>
   obtain⟨f,u,x⟩:=q;obtain⟨M,N,a3,a4,a5,_⟩:=mO ac;exact m6 ⟨f,u,M,N,a3,a4,a5⟩ z)
 refine aV (λZ aa=>Ext U aa/\((Z= .bool ro/\dl s j pos v=ν)\/(Z= .bool rs/\∃f u,0<=j/\0<=pos/\s.d7[j.toNat]?=σ f/\f.live≠0/\f.sc[pos.toNat]?=σ u))) ?_ ?_
 .rintro _ aa ⟨O,⟨rfl,z⟩|⟨rfl,f,u,E,ab,p,ao,hu⟩⟩
  .rw[bH];exact⟨C.F O,0,1,rfl,.inr ⟨rfl,z⟩⟩
  .rw[aX];intro ap B _ _;have af:=(Y f E p).W (O.F B);refine qm Ω aq.u aj.i af hu λb o au=>?_;rw[aD Ψ au,gI (y:=pos) (i:=pos.toNat) Ω aq.u aj.i Ψ af hu];have ag:=(C.F O).F B;refine(y1 (h.W ag)).Y ?_;rintro _ aw _ ⟨ah,rfl⟩;refine⟨.inl ah,ag.F ah,u,_,rfl,?_⟩;have ac:dl s j pos v=(dv s u v).map λx=>(f,u,x):=by
    unfold dl;rw[m3 ⟨E,ab⟩,p];simp only;rw[m3 ao,hu]
   cases ai:dv s u v with
   |none=>exact .inr ⟨rfl,by rw[ac,ai];rfl⟩
   |some x=>exact .inl ⟨rfl,f,x,by rw[ac,ai];rfl⟩
 intro ay J;refine(ve (h.W C)).Y ?_;rintro _ ap _ ⟨rfl,B⟩;have same:∀{f H:ch},s.d7[j.toNat]?=σ f->s.d7[j.toNat]?=σ H->H=f:=λa b=>by rw[a]at b;exact(Z6 b).symm
 rw[bC,bY];refine⟨λQ=>L (λ⟨f,u,M,N,a3,a4,a5⟩=>?_) λz=>J _ _ ⟨B,.inl ⟨rfl,z⟩⟩,λS=>?_⟩
 .unfold e7 at Q;rw[a3]at Q;simp[M,a4]at Q
 have S:0<=j/\e7 s j.toNat=ro:=by simpa using S
 obtain⟨E,G⟩:=S;obtain⟨f,p,av⟩:∃f,s.d7[j.toNat]?=σ f/\f.live≠0:=by
  unfold e7 at G;cases p:s.d7[j.toNat]? with
  |none=>rw[p]at G;cases G
  |some f=>rw[p]at G;exact⟨f,rfl,by simpa using G⟩
 rw[aR,ak];refine⟨λax=>L (λ⟨_,_,_,N,_⟩=>Ω) λz=>J _ _ ⟨B,.inl ⟨rfl,z⟩⟩,λab=>?_⟩;rw[aY aq.u ((Y f E p).W B),cH];by_cases am:(f.sc.length:Int)<=pos
 .refine L (λ⟨H,u,_,_,a3,_,a5⟩=>?_) λz=>J _ _ ⟨B,.inl ⟨by rw[m7 am],z⟩⟩;obtain rfl:=same p a3;have:=(x5.1 a5).1;omega
 .obtain⟨u,hu⟩:=aF (l:=f.sc) (i:=pos.toNat) Ω;exact J _ _ ⟨B,.inr ⟨by rw[ms am],f,u,E,Ω,p,av,hu⟩⟩
theorem vu{most:Int}(h:bt w ad ae A R n s t):al x8 Jm [Γ ad,Δ c,Δ most] w λr I=>Ext w I/\r=Δ (dd n.k c most):=by
 refine aB func147 ?_;refine(ou h).Y ?_;rintro _ U _ ⟨rfl,a⟩;refine k4.Y ?_;rintro _ aa _ ⟨rfl,e⟩;have hi:cC c n.k↔0<=c/\c<=n.k:=⟨λh=>h.2,λj=>⟨h.2.2.2.1.ft,j⟩⟩;unfold dd;rw[bC,bY];refine⟨λf=>⟨a.F e,?_⟩,λf=>?_⟩
 .have:¬cC c n.k:=by simpa using f
  rw[m3 λh=>this (hi.2 h)]
 .have:cC c n.k:=by simpa using f
  rw[m5 λh=>h (hi.1 this),bO,ak];exact⟨λh=>⟨a.F e,by rw[m3 h]⟩,λh=>⟨a.F e,by rw[m5 h]⟩⟩
theorem RO{a b:Int}(hk:right k)(f:0<=a/\a<=k)(j:0<=b/\b<=k)(s:a=k\/b<=a):al x8 Ka [Δ a,Δ b,Δ k] w λv I=>v= .tuple #[Δ (cU k a b),Δ 0]/\Ext w I:=by
 have x:1<=k/\k<=2147483648:=hk;refine aB func214 ?_;refine aV (λr U=>r= .bool rs/\Ext w U) ?_ ?_
 .rintro _ U ⟨rfl,e⟩;unfold cU;rw[aX,bk,ak];refine⟨λh=>⟨by rw[m3 h],e⟩,λh=>?_⟩;rw[m5 h,bO,ak];refine⟨λy=>Ω,λ_=>?_⟩;rw[dp,li Ω Ω];exact⟨rfl,e⟩
 intro ay p;refine k4.Y ?_;rintro _ U _ ⟨rfl,e⟩;rw[m7 (show cC a k from⟨hk,f⟩),bC,X1,aX];refine k4.Y ?_;rintro _ aa _ ⟨rfl,q⟩;rw[m7 (show cC b k from⟨hk,j⟩),bC,X1];exact p _ _ ⟨rfl,e.F q⟩
theorem vv{a:Int}(h:bt w ad ae A R n s t)(e:0<=a/\a<=n.k)(f:0<=c/\c<=n.k)(j:a=n.k\/c<=a):al x8 oW [Γ ad,Δ a,Δ c] w λr I=>r=Δ (cU n.k a c)/\Ext w I:=by
 refine aB func149 ?_;refine(ou h).Y ?_;rintro _ U _ ⟨rfl,p⟩;refine(RO h.2.2.2.1.ft e f j).Y ?_;rintro _ aa _ ⟨rfl,q⟩;rw[bu,bw];exact⟨rfl,p.F q⟩
theorem sN{a:Int}(h:bt w ad ae A R n s t)(e:0<=a/\a<=n.k)(f:0<=c/\c<=n.k):al x8 oX [Γ ad,Δ a,Δ c] w λr I=>r=Δ (cm n.k a c)/\Ext w I:=by
 refine aB func150 ?_;refine(ou h).Y ?_;rintro _ U _ ⟨rfl,j⟩;refine(QH e f h.2.2.2.1.ft).Y ?_;rintro _ aa _ ⟨rfl,p⟩;rw[bu,bw];exact⟨rfl,j.F p⟩
end
theorem RP{g n c:Nat}{K:x1->x4->Prop}(a:ag w g cK cs)(h:∀I,af (λr=>r=g) w I->(∀o vs,w.rangeAt g o vs->I.rangeAt g o vs)->K (.slice (σ ⟨g,0,ν⟩) n c) I):
  aH x8 (convert cQ cQ (.slice (σ ⟨g,0,ν⟩) n c)) w K:=by
 have f:∀r,(w.freeze ⟨g,cs.length,ν⟩ 1).heap[r]?=if g=r then(w.heap[r]?).map (λ| .cells c p (lo,hi)=>.cells c p (if lo == hi then(cs.length,cs.length+1)else(min lo cs.length,max hi (cs.length+1)))|o=>o)else w.heap[r]?:=λr=>by
  unfold x4.freeze;rw[m5 Φ];exact Array.getElem?_modify
 have A:(w.freeze ⟨g,cs.length,ν⟩ 1).heap.size=w.heap.size:=by
  unfold x4.freeze;rw[m5 Φ];exact Array.size_modify
 have q:w.shape? g=σ (cK,cs.length):=by
  unfold x4.shape?;unfold ag at a;rw[a];simp
 have s:(convert cQ cQ (.slice (σ ⟨g,0,ν⟩) n c)).run x8 w= .ok (.slice (σ ⟨g,0,ν⟩) n c) (w.freeze ⟨g,cs.length,ν⟩ 1):=by
  simp[convert,run_underlying cQ.u,run_underlying cK.u,markStringish,q]
 unfold ag at a;refine .of s ⟨by unfold x4.freeze;rw[m5 Φ],.lC (by unfold x4.freeze;rw[m5 Φ]) (by unfold x4.freeze;rw[m5 Φ]),by unfold x4.freeze;rw[m5 Φ],Ω,λr o e J=>?_⟩ (h _ ⟨Ω,λr o e _ x=>?_⟩ λo vs y j v z=>?_)
 .rw[f];by_cases he:g=r
  .subst he;rw[a]at e;cases e;cases J
  .rw[m5 he];exact e
 .rw[f,m5 λhe=>x he.symm];exact e
 .have h1:=y j v z;unfold x4.cell? at h1 ⊢;rw[f,m3 rfl];rw[a]at h1 ⊢;exact h1
def y3(s0 s:am):Prop:=s.zero=s0.zero/\s.d7=s0.d7/\s.d6.length=s0.d6.length/\∀(i:Nat)x,s.d6[i]?=σ x->∃a,s0.d6[i]?=σ a/\x.un=a.un/\x.gone=0/\a.gone=0/\a.mask=0
theorem y3.new(n:aI):y3 (dh n) (dh n):=⟨rfl,rfl,rfl,λi x a=>by
 refine⟨x,a,rfl,?_⟩;have a:(n.unary.map newVar)[i]?=σ x:=a;rw[v8]at a;obtain⟨u,_,rfl⟩:=X0.1 a;exact⟨rfl,rfl,rfl⟩⟩
theorem FZ(n:aI):b2 (dh n):=λf _ _ v _ x a=>by
 obtain⟨_,_,_,h,_⟩:=(y3.new n).2.2.2 _ x a;exact h
theorem RQ{aa:x4}{an:Nat}{E:x1}{f:b5}(G:vt B aa E cs f)(e:Ext aa w)(H:ag w an a6 cs)(O:aa.heap.size<=an):
  ∃ad ae A R A9 aE t,E=Γ ad/\cf w ad ae an A R A9 aE (cP f) (dh (cP f)) (dh (cP f)) t [] cs/\t.marks=[]/\(∀r,A r->B<=r)/\(∀q r,A9 q r->B<=r)/\t.cells.length<=2000000/\t.olds.length=0/\(cP f).d7.length<=256/\t.ever=0/\(∀r,aE r->B<=r)/\∀r,R r->B<=r:=by
 obtain⟨ad,ae,A,R,t,N,A9,aE,x,rfl,y,j,I,K,C,p,L⟩:=G;have F:=sL y;have z:=e.size;have s:=(va (DF x).1 (yz x) (cP f).unary.length (cP f).d7.length);rw[ye,<-y.2.1]at s;unfold aw.bM at s;rw[u9]at s;refine⟨ad,ae,A,R,λq r=>A9 q r/\r<aa.heap.size,aE,t,rfl,⟨y.W e,j.2.2.1,H,K.old.W e,λq r h=>⟨(C q r h.1).1,(C q r h.1).2.1,by have:=h.2;omega⟩,λr a=>⟨λh=>(p r a).1 (ol (λo M J _=>e.aZ r o M J) h),by have:=(p r a).2;omega,by have:=(p r a).2;omega⟩,λh=>by have:=F an (.inl h);omega,λh=>by have:=F an (.inr h);omega⟩,j.1,I,λq r h=>(C q r h.1).2.2,s,by rw[j.2.1];rfl,yz x,j.2.2.2,λr a=>(p r a).2.2,L⟩
theorem RR{A:ah}{t:aw}(h:c3 w ae A t):al x8 JD [Γ ae] w λv I=>v=Δ (t.marks.length:Int)/\Ext w I:=by
 obtain⟨e,f,go,c0,a7,j,df,h1,q,r,a,s⟩:=h;refine aB func168 ?_;rw[cR ml.u];simp only[Z3,aX];rw[aG c8.p 2 h1 rfl,dE jY.u a];exact⟨rfl,Ext.refl _⟩
theorem RS{A:ah}{t:aw}(h:c3 w ae A t)(ad:mG t)(aH:t.ever<=1000000):al x8 Ij [Γ ae] w λv I=>v=Δ (t.marks.length:Int)/\∃aK,Grow A w aK I/\c3 I ae aK t.mark:=by
 obtain⟨G,ai,go,c0,a7,z,df,h1,M,N,O,B⟩:=id h;obtain⟨aI,aJ,aL⟩:=ad;obtain⟨⟨aj,ak,P⟩,am,an⟩:=qK h1 M N O;refine aB func52 ?_;rw[cR ml.u];simp only[Z3,aX];rw[aG c8.p 3 h1 rfl,aO,lm Ω Ω,bL,aT c8.p rfl];refine bq (o:=0+3) fz.i rfl rfl h1 Ξ λU s aM H=>?_;have H:ag U ae c8 [a7,z,df,.int .u64 ((t.ever:Int)+1)]:=H;have x:∀{r:Nat},r=ae->¬(hp a7 r\/hp z r\/hp df r):=λhe ao=>by
  subst he;rcases ao with h|h|h
  .exact aj h
  .exact ak h
  .exact P h
 have ap:=M.V s λr e he=>x he (.inl e);have aq:=N.V s λr e he=>x he (.inr (.inl e));have au:=O.V s λr e he=>x he (.inr (.inr e));intro aa q _ _;have y:=H.W q;have Q:=ap.W q;have R:=aq.W q;have av:=au.W q;rw[aG c8.p 2 y rfl,aG c8.p 1 y rfl,dE iH.u R,aG c8.p 0 y rfl,dE gV.u Q,
  bL,aT c8.p rfl,aD (v:=.int .u64 ((t.ever:Int)+1)) Ψ (y.cell (o:=0+3) rfl),di (cs:=#[Δ (t.olds.length:Int),Δ (t.cells.length:Int),.int .u64 ((t.ever:Int)+1)]) Ψ]
 let a:pm:=⟨t.olds.length,t.cells.length,t.ever+1⟩;have ax:∀u∈jM a,u.oneCell'=ro:=by intro v S;simp[jM]at S;rcases S with rfl|rfl|rfl<;>rfl
 refine iS (f:=jM) (a:=a) jY.u dW.i Ω rfl rfl λv3 aN W aP j ay=>?_;refine⟨.inl j,?_⟩;have az:=y.W j;have aA:=av.W j;refine jo (f:=jM) (a:=a) jY.u dW.i rfl aA (by simpa using ay.sl) ax Ω Ω λJ X aQ C aC Y=>?_;have Z:=az.V Y λhe=>P he;rw[bL,aT c8.p rfl];refine bq (o:=0+2) jY.i (dg C.sl).1 (dg C.sl).2 Z Ξ λK ab aR E=>?_;have E:ag K ae c8 [a7,z,J,.int .u64 ((t.ever:Int)+1)]:=E;have ac:bh jM 3 dW K X J (t.marks++[a]):=C.V ab λr e he=>by
  have he:r=ae:=he;subst he;exact cn C Z Φ e
 have L:af (λr=>hp df r\/r=ae) W K:=(Y.Y λr _ h=>.inl h).F (ab.Y λr _ h=>.inr h);rw[aG c8.p 2 E rfl,dE jY.u ac,r9,dp,li (by simp;try omega) (by simp;try omega)];have z3:=j.size;have aS:=q.size;have aU:=s.size;have aE:=(Q.W j).V L λr e he=>he.elim (λhe=>(am r e).2 he) λhe=>x he (.inl e);have aF:=(R.W j).V L λr e he=>he.elim (λhe=>(an r e).2 he) λhe=>x he (.inr (.inl e));refine⟨by congr 1;simp,λr=>A r\/W.heap.size<=r,⟨?_,λr e=>e.imp id λh=>Ω,λr e=>.inl e⟩,.inl G,ai,go,X,a7,z,J,E,aE,aF,ac,λr e=>?_⟩
 .exact ((s.Y λr _ he=>by have he:r=ae:=he;rw[he];exact G).F ((q.F j).V _)).F (L.Y λr _ h=>h.elim (λh=>B r (.inr (.inr h))) λh=>by rw[h];exact G)
 .rcases e with e|e|e
  .exact .inl (B r (.inl e))
  .exact .inl (B r (.inr (.inl e)))
  .rcases aC r e with h|h
   .exact .inl (B r (.inr (.inr h)))
   .exact .inr h
theorem StateM.pE{A R:ah}{n:aI}{s:am}{t:aw}(h:StateM w ad ae A R n s t):∃a,c3 w ae a t/\∀e I bn,Grow a w e I->c3 I ae e bn->af (er w) w I/\∃aK,Grow A w aK I/\StateM I ad ae aK R n s bn:=by
 obtain⟨f,j,p,q,r⟩:=h;obtain⟨a,x,y⟩:=r.pE;refine⟨a,x,λe I bn z B=>?_⟩;obtain⟨h1,aK,C,E⟩:=y e I bn z B;exact⟨h1,aK,C,f,j,p,q,E⟩
section
variable{w:x4}{ad ae:Nat}{A R:ah}{n:aI}{s:am}{t:aw}
theorem RT(h:bt w ad ae A R n s t)(hm:t.marks.length<1000)(e:t.ever<=1000000):al x8 wB [Γ ad] w λv I=>v=Δ (t.marks.length:Int)/\af (er w) w I/\∃aK,Grow A w aK I/\bt I ad ae aK R n s t.mark:=by
 obtain⟨f,j,a,q,r⟩:=id h;obtain⟨K,M,N,O,bc,P,L,_,x,_⟩:=h.1.parts;obtain⟨Q,y,z⟩:=f.pE;refine aB func20 ?_;rw[cR dx.u];simp only[Z3,aX];rw[aG b9.p 1 x rfl];refine(RS y a e).Y ?_;rintro _ U _ ⟨rfl,B,C,E⟩;obtain⟨G,aK,H,J⟩:=z B U _ C E;refine⟨rfl,G,aK,H,J,j,⟨a.1,a.2.1,?_⟩,q,r⟩;show(t.marks++_).length<=_;rw[r9];simp;omega
end
theorem bZ.down{B:x1->x4->(x1->x4->Prop)->Prop}(n:Nat)(a:Nat->x4->Prop)(s:n<=1000000000000)(j:a 0 w)(p:∀(q:Nat)(w:x4)(k:x1->x4->Prop),q<n->a q w->(∀I,a (q+1) I->k (Δ (W6.wrap (((n-1-q:Nat):Int)-1))) I)->B (Δ ((n-1-q:Nat):Int)) w k)(r:∀(w:x4)(k:x1->x4->Prop),a n w->B (Δ (-1)) w k):bZ (Δ ((n:Int)-1)) w B:=by
 refine⟨λt w=>∃q:Nat,t=Δ ((n:Int)-1-q)/\q<=n/\a q w,λt _=>(bU t+1).toNat,⟨0,Ξ,X7 _,j⟩,?_⟩;rintro _ w ⟨q,rfl,x,h⟩;by_cases f:q<n
 .have e:(n:Int)-1-q=((n-1-q:Nat):Int):=Ω
  rw[e];refine p q w _ f h λI aW=>?_;rw[li Ω Ω];exact⟨⟨q+1,by congr 1;omega,f,aW⟩,by simp only[bU];omega⟩
 .have e:q=n:=Ω
  subst e;rw[show((q:Int)-1-q)= -1 by omega];exact r w _ h
theorem RU{t:p9}{pl:List (Nat×Nat)}{b k:Nat}{v:x1}{i:Nat}{α:Type}{f:α->List x1}{L:List α}{a:α}{S:ah}(hu:bE x8 e pl)(s:x8.underlying t=σ (.slice e))(hi:aP x8 e k b z)(r:∀x∈L,(f x).length=k)(h:jw S w k v L.length (L.flatMap f))(q:L[i]?=σ a):ab x8 (Z0 t v (Δ (i:Int))) w (λp=>ab x8 (u5 e p) w K)=K (.agg (f a).toArray):=by
 obtain⟨h1,E,o,base,cap,rfl,F,G,y,_,A⟩:=h;have B:=(x5.1 q).1;rw[fd s hi B λh=>y Ω];rw[bA hu hi (r a (x6 q)) λj u C=>?_];have:=A (i*k+j) u (pw r q C);rwa [<-R5]at this
theorem RV{g go:Nat}{v:x1}{os:List lP}(H:os.length<=100000000):
  oO x8 p7 [Γ g] os.length (λk vs _=>∃o,os[os.length-1-k]?=σ o/\vs=[Δ ((os.length-1-k:Nat):Int),.agg (lj o).toArray])
   (λw=>ag w g iH [v]/\jw (λr=>r=go) w 3 v os.length (os.flatMap lj)):=by
 refine⟨p7.enters,λl ay I w L _ y ⟨e,J⟩ z=>?_⟩;refine qg func169 ?_;have A:ab x8 (V7 #[iH] aj #[v]) w=λK=>K (Δ (os.length:Int)):=by
  obtain⟨_,_,_,_,_,rfl,_⟩:=J;funext K;exact iL iH.u
 rw[aD (o:=0) Ψ (e.Qz rfl),A];simp only[dp];rw[li Ω Ω];refine bZ.down os.length (λq aa=>ay q aa/\ag aa g iH [v]/\jw (λr=>r=go) aa 3 v os.length (os.flatMap lj)) Ω ⟨z,e,J⟩ ?_ ?_
 .rintro q aa k f ⟨a,j,s⟩ hk;obtain⟨o,x⟩:=aF (l:=os) (i:=os.length-1-q) Ω;rw[cH,ak];refine⟨λ_=>?_,λh=>Ω⟩;rw[aD (o:=0) Ψ (j.Qz rfl),RU gE.p iH.u gE.i (λ_ _=>rfl) s x];refine⟨rfl,(y q _ aa f ⟨j,s⟩ ⟨o,x,rfl⟩ a).Y ?_⟩;rintro _ M (⟨rfl,⟨B,C⟩,E⟩|⟨rfl,G⟩)
  .rw[bC,X1,aX,dp];exact hk _ ⟨E.1,B,C⟩
  .rw[bC,W7,bH];exact .inr ⟨q,f,G⟩
 .rintro aa k ⟨a,_⟩;rw[cH,ak];exact⟨λh=>Ω,λ_=>.inl a⟩
section
variable{α:Type}{f:α->List x1}{k:Nat}{e:p9}{w:x4}{g:Nat}{v:x1}{L:List α}
theorem qU{t:p9}{b:Nat}{i:Nat}(A:x8.underlying t=σ (.slice e))(hi:aP x8 e k b z)(h:bh f k e w g v L)(j:i<=L.length):
  ∃q,(∀(I:x4)(K:x1->Prop),ab x8 (U5 t v ν (σ (Δ (i:Int))) ν) I K=K q)/\bh f k e w g q (L.take i)/\∀r,hp q r->hp v r:=by
 obtain⟨⟨O,⟨rfl,B⟩|⟨cap,cs,rfl,C,P,E,F,G⟩⟩,s⟩:=id h
 .have H:=c9 B;subst H;have:i=0:=by simpa using j
  subst this;exact⟨_,λI K=>gH A hi j7 pb e2 Ω Ω Ω,h,λr y=>y⟩
 .have J:(if cap=0 then(σ ⟨g,0,ν⟩:Option Addr)else T0 (λx:Addr=>x.add (0*k)) (σ ⟨g,0,ν⟩))=σ ⟨g,0,ν⟩:=by split<;>simp[T8]
  refine⟨.slice (σ ⟨g,0,ν⟩) i cap,λI K=>?_,⟨⟨?_,.inr ⟨cap,cs,by rw[o8,Q6 j],C,by rw[o8];omega,E,F,?_⟩⟩,λa p=>s a (U3 p)⟩,λr y=>by obtain⟨a,_,_,e,M⟩:=y;cases e;exact⟨_,_,_,rfl,M⟩⟩
  .rw[gH A hi j7 pb e2 Ω Ω Ω,J,Nat.sub_zero,Nat.sub_zero]
  .rw[gN λa p=>s a (U3 p)]
  .rw[o8,Q6 j];have N:L.flatMap f=(L.take i).flatMap f++(L.drop i).flatMap f:=by rw[<-List.flatMap_append,List.take_append_drop]
   have Q:((L.take i).flatMap f).length=i*k:=by rw[gN λa p=>s a (U3 p),o8,Q6 j]
   have:cs.take (i*k)=(cs.take (L.length*k)).take (i*k):=by rw[List.take_take,Q6 (Y5 _ j)]
   rw[this,G,N,List.take_append_of_le_length Ω,j5 Ω]
theorem RW{t:p9}{b:Nat}{i:Nat}(s:x8.underlying t=σ (.slice e))(hi:aP x8 e k b z)(h:bh f k e w g v L)(x:i<=L.length)(y:∀A,jw (λr=>r=g) w k A (L.drop i).length ((L.drop i).flatMap f)->K A):ab x8 (U5 t v (σ (Δ (i:Int))) ν ν) w K:=by
 obtain⟨⟨J,⟨rfl,C⟩|⟨cap,cs,rfl,E,M,N,O,F⟩⟩,p⟩:=id h
 .have G:=c9 C;subst G;have:i=0:=by simpa using x
  subst this;rw[gH s hi o2 j8 e2 Ω Ω Ω];exact y _ ⟨Ξ,0,0,ν,0,Ξ,Ξ,by simp[maxLen],λh=>by simp at h,λh=>by simp at h,λj v h=>by simp at h⟩
 .rw[gH s hi o2 j8 e2 Ω Ω Ω];have H:L.flatMap f=(L.take i).flatMap f++(L.drop i).flatMap f:=by rw[<-List.flatMap_append,List.take_append_drop]
  have I:((L.take i).flatMap f).length=i*k:=by rw[gN λa q=>p a (U3 q),o8,Q6 x]
  refine y _ ⟨gN λa q=>p a (List.mem_of_mem_drop q),g,i*k,_,cap-i,by rw[List.length_drop],by rw[List.length_drop];omega,Ω,λh=>?_,λ_=>rfl,λj u hu=>?_⟩
  .rw[List.length_drop]at h;rw[m5 Ω];simp[T8]
  .have h1:(L.flatMap f)[i*k+j]?=σ u:=by rw[H,Z7 Ω,I,R2];exact hu
   have B:=(x5.1 h1).1;rw[gN p]at B;rw[<-F,Y7 B]at h1;have:=E.cell h1;simpa using this
end
theorem RX{A:ah}{t:aw}{m:Int}(h:c3 w ae A t):al x8 I1 [Γ ae,Δ m] w λv I=>v= .bool (decide (0<=m/\m<t.marks.length))/\Ext w I:=by
 refine aB func107 ?_;refine aV (λv U=>v= .bool (decide (0<=m/\m<t.marks.length))/\Ext w U) (λ_ _ h=>h) λay a=>?_;rw[cH,ak];refine⟨λe=>?_,λe=>a _ _ ⟨by rw[ms Ω],Ext.refl _⟩⟩;refine(RR h).Y ?_;rintro _ U _ ⟨rfl,f⟩;rw[aR];refine a _ _ ⟨?_,f⟩;congr 1;exact decide_eq_decide.2 ⟨λh=>⟨e,h⟩,λh=>h.2⟩
theorem RY{A:ah}{t:aw}{m:Nat}{x:pm}(h:c3 w ae A t)(bn:mG t)(hm:t.marks[m]?=σ x)(aR:x.olds<=t.olds.length)(bp:x.cells<=t.cells.length)(aS:∀o∈t.olds.drop x.olds,o.i<t.cells.length):
  al x8 In [Γ ae,Δ (m:Int)] w λv I=>v=Δ 0/\∃aK,Grow A w aK I/\c3 I ae aK (t.iN m):=by
 have br:=(x5.1 hm).1;obtain⟨b5,b6,b8⟩:=bn;refine iK func57 ?_;refine bo λg1 U b9 aU C=>?_;have C:ag U g1 ml [Γ ae]:=C;rw[aD (o:=0) Ψ (C.Qz rfl)];refine(RX (m:=(m:Int)) (h.W aU)).Y ?_;rintro _ aa _ ⟨rfl,J⟩;have ac:=aU.F J;rw[m7 Ω,bC,X1,aX];obtain⟨aV,av,go,c0,a7,Q,df,h1,R,ad,ai,aW⟩:=id (h.W ac);obtain⟨⟨ax,bs,bt⟩,ay,ca⟩:=qK h1 R ad ai;rw[aD (o:=0) Ψ ((C.W J).Qz rfl),aG c8.p 2 h1 rfl,b7 rfl jY.u dW.i ai br,bA dW.p dW.i rfl (ai.range hm)];refine bB dW.i λan cb cc bu bw=>?_;refine b4 (vs:=jM x) dW.i rfl rfl (by intro v G;simp[jM]at G;rcases G with rfl|rfl|rfl<;>rfl) bw λbx bz cd aY=>?_;have bD:Ext aa bx:=bu.put bz Ω;intro ce az _ _;have M:=bD.F az;have cf:=ac.F M;rw[aD (o:=0) Ψ ((C.W (J.F M)).Qz rfl),aG c8.p 1 (h1.W M) rfl,aL dW.p 0 (aY.W az) rfl];refine RW iH.u gE.i (ad.W M) aR λaZ aA=>?_;refine aB func108 ?_;refine bo λaj a1 cg ak am=>?_;have am:ag a1 aj iH [aZ]:=by
  obtain⟨_,_,_,_,_,e,_⟩:=aA;rw[e]at am ⊢;exact am
 rw[lK];obtain⟨os,ao⟩:∃os,os=t.olds.drop x.olds:=⟨_,rfl⟩;rw[<-ao]at aA aS;have bE:os.length<=100000000:=by rw[ao,List.length_drop];omega
 have H:=M.F ak;have bF:=ac.F H;have bG:=RV (g:=aj) (go:=go) (v:=aZ) bE;have ch:=ac.size;have ci:=M.size;have cj:=ak.size;have a2:∀r,hp a7 r->r=av/\r<aa.heap.size:=λr y=>⟨(R.lc y).1,by have:=R.lc y;omega⟩;have a6:¬hp a7 g1:=λhe=>cn R (C.W J) Φ he;refine nR.old ⟨Nat,rs,p7,#[Γ aj],0,_,_,_,λq I=>af (λr=>hp a7 r) a1 I/\bh iY 2 ej I av a7 (back (os.drop (os.length-q)) t.cells),λ_ _ _=>False,rfl,bG.s,
  ?_,λ_ _ S h=>⟨h.1.W S,h.2.V (S.V λ_=>False) λ_ _ _ h=>h⟩,λ_ _ _ S h=>⟨h.1.F (S.V _),h.2.W S⟩,λ_ _ _ _ _ h=>h,⟨am,aA.V (ak.V λ_=>False) λ_ _ _ h=>h⟩,⟨af.refl _ _,?_⟩,?_,?_,λ_ _ h=>h.elim,λ_ _ _ h=>h.elim⟩
 .rintro _ _ _ _ ⟨_,_,_,_,rfl⟩;rfl
 .rw[Nat.sub_zero,List.drop_length];exact R.W H
 .rintro _ Q q _ a8 ⟨bH,bI⟩ ⟨ba,rfl,o,bb,bJ⟩ ⟨z,ap⟩;cases bJ;have ck:=aS o (x6 bb);have bK:=z.size;refine bB gE.i λgy L cl B bM=>?_;refine b4 (vs:=lj o) gE.i rfl rfl (by intro v G;simp[lj]at G;rcases G with rfl|rfl|rfl<;>rfl) bM λW X bN Y=>?_;have bO:Ext a8 W:=B.put X Ω;intro aC bc _ cm Z bd _ _;have N:=(bO.F bc).F bd;have O:=(Y.W bc).W bd;have E:ag Z g1 ml [Γ ae]:=((C.W (J.F H)).V z a6).W N;have P:ag Z ae c8 [a7,Q,df,.int .u64 (t.ever:Int)]:=((h1.W H).V z ax).W N;have be:=ap.W N;have cp:(back (os.drop (os.length-q)) t.cells).length=t.cells.length:=pn _ _;rw[aD (o:=0) Ψ (E.Qz rfl),aG c8.p 0 P rfl,aL gE.p 0 O rfl,aT gE.p rfl,
   bA (cs:=iY o.c) (o:=0+1) ej.p ej.i rfl (λj u bP=>by
    have:(lj o)[1+j]?=σ u:=by rw[Nat.add_comm];exact bP
    have:=O.cell this;simpa using this),b7 rfl gV.u ej.i be Ω]
  refine ux (f:=iY) (a:=o.c) ej.i be rfl (by intro v G;simp[iY]at G;rcases G with rfl|rfl<;>rfl) Ω λbQ aE cq bR=>?_;have bS:hp Q go:=by
   obtain⟨_,cr,ct,e,_⟩:=D5 ad (by rintro e;rw[ao,e]at ba;simp at ba);exact⟨_,_,_,e,rfl⟩
  have bT:∀r,r=go->¬hp a7 r:=λr e y=>by subst e;exact(ay r y).1 bS
  refine⟨⟨(bH.W N).V aE λhe=>by have:=a2 aj he;omega,(bI.V (N.V λ_=>False) λ_ _ _ h=>h).V aE λr _=>bT r⟩,⟨(z.F (N.V _)).F aE,?_⟩,λh=>by cases h⟩;have e:os.drop (os.length-(q+1))=o::os.drop (os.length-q):=by
   rw[show os.length-(q+1)=os.length-1-q by omega,X8 Ω,show os.length-1-q+1=os.length-q by omega];congr 1;exact(x5.1 bb).2
  rw[e];exact bR
 .rintro q a8 rfl ⟨z,ap⟩;rw[W8,List.drop_zero]at ap;intro L B _ _;have bK:=z.size;have z9:=B.size;have E:ag L g1 ml [Γ ae]:=((C.W (J.F H)).V z a6).W B;have P:ag L ae c8 [a7,Q,df,.int .u64 (t.ever:Int)]:=((h1.W H).V z ax).W B;have aF:ag L an dW (jM x):=((aY.W (az.F ak)).V z λhe=>by have:=a2 an he;omega).W B;have bU:bh lj 3 gE L go Q t.olds:=((ad.W H).V z λr y he=>(ay r he).1 y).W B;have bV:bh jM 3 dW L c0 df t.marks:=((ai.W H).V z λr y he=>(ay r he).2 y).W B;have bW:=ap.W B;obtain⟨aq,bX,aH,bf⟩:=qU (i:=x.olds) iH.u gE.i bU aR;obtain⟨aI,bg,aJ,bi⟩:=qU (i:=x.cells) gV.u ej.i bW (by rw[pn];exact bp);obtain⟨bj,aM,aN,bk⟩:=qU (i:=m) jY.u dW.i bV Ω;rw[aD (o:=0) Ψ (E.Qz rfl),aD (o:=0) Ψ (E.Qz rfl),aD (o:=0) Ψ (E.Qz rfl),aD (o:=0) Ψ (E.Qz rfl),aG c8.p 1 P rfl,aL dW.p 0 aF rfl,bX,
   aD (o:=0) Ψ (E.Qz rfl),aG c8.p 0 P rfl,aL dW.p 1 aF rfl,bg,
   aD (o:=0) Ψ (E.Qz rfl),aG c8.p 2 P rfl,aM,bL,aT c8.p rfl]
  have aO:∀{u u':x1}{r:Nat},(∀r,hp u' r->hp u r)->¬hp u ae->hp u' r->¬r=ae:=λbY bZ b0 he=>by subst he;exact bZ (bY _ b0)
  have b1:¬an=ae:=λhe=>by have:=h1.lt;omega
  have bl:¬g1=ae:=λhe=>by
   subst he;exact m6 (eC (C.W J) h1) Φ
  refine bq (o:=0+1) iH.i (dg aH.sl).1 (dg aH.sl).2 P Ξ λW X bN Y=>?_;have Y:ag W ae c8 [a7,aq,df,.int .u64 (t.ever:Int)]:=Y;have aP:=E.V X bl;have b2:=aF.V X b1;refine⟨.inr ⟨Go.Vc.iT λK=>aM W K,Go.Vc.iT λK=>bg W K,kD Ψ (b2.cell (o:=0+1) rfl),Go.Vc.iT λK=>aT dW.p rfl,kD Ψ (aP.Qz rfl),kD Ψ (aP.Qz rfl),trivial⟩,?_⟩;rw[bL,aT c8.p rfl];refine bq (o:=0+0) gV.i (dg aJ.sl).1 (dg aJ.sl).2 Y Ξ λaC bm cu aQ=>?_;have aQ:ag aC ae c8 [aI,aq,df,.int .u64 (t.ever:Int)]:=aQ;refine⟨.inr ⟨Go.Vc.iT λK=>aM aC K,kD Ψ ((aP.V bm bl).Qz rfl),trivial⟩,?_⟩;rw[bL,aT c8.p rfl];refine bq (o:=0+2) jY.i (dg aN.sl).1 (dg aN.sl).2 aQ Ξ λZ b3 cw O=>?_;have O:ag Z ae c8 [aI,aq,bj,.int .u64 (t.ever:Int)]:=O;intro bQ ab _;have au:af (λr=>r=ae) L Z:=(X.F bm).F b3;have hu:t.iN m={cells:=(back os t.cells).take x.cells,olds:=t.olds.take x.olds,marks:=t.marks.take m,ever:=t.ever}:=by
   unfold aw.iN;rw[hm,ao]
  refine⟨rfl,A,⟨?_,λ_ h=>.inl h,λ_ h=>h⟩,?_⟩
  .exact ((bF.V A).F (z.Y λr _ h=>aW r (.inl h))).F ((B.V A).F ((au.Y λr _ h=>by have h:r=ae:=h;rw[h];exact aV).F (ab.V A)))
  .rw[hu];exact⟨aV,av,go,c0,aI,aq,bj,O.W ab,(aJ.V au λr y=>aO bi ax y).W ab,(aH.V au λr y=>aO bf bs y).W ab,(aN.V au λr y=>aO bk bt y).W ab,λr y=>aW r (y.imp (bi r) λh=>h.imp (bf r) (bk r))⟩
structure sO(a b:am):Prop where
 off:ix b=ix a
 fn:∀(j:Nat)f,a.d7[j]?=σ f->∃f',b.d7[j]?=σ f'/\f'.sc=f.sc/\f'.ai=f.ai/\eW b j=eW a j
 el:∃l,b.dc=a.dc++l
theorem mI.y4{s s':am}(h:mI s s'):sO s s':=
 ⟨h.1,λj f e=>by
  have x:=h.2.1;obtain⟨a,p⟩:∃a,s'.d7[j]?=σ a:=⟨_,x7 (by have:=(x5.1 e).1;omega)⟩;obtain⟨f0,h1,q,r,w⟩:=h.2.2.1 j a p;rw[e]at h1;cases h1;exact⟨a,p,q,r,w⟩,[],by rw[h.2.2.2,W5]⟩
theorem sO.d7{a b:am}(h:sO a b):a.d7.length<=b.d7.length:=by
 by_cases e:a.d7.length=0
 .omega
 obtain⟨f,h1,_⟩:=h.fn (a.d7.length-1) _ (x7 Ω);have:=(x5.1 h1).1;omega
section
variable{w:x4}{ad ae:Nat}{A R:ah}{n:aI}{s sm:am}{t tm:aw}{ao:List aw}{m:Nat}
theorem RZ(h:bt w ad ae A R n s t)(hk:eJ t ao)(hm:ao.reverse[m]?=σ tm)(aq:tm.bM=sm.cells)(aP:bd n.k n.co sm)(ac:sO sm s):
  al x8 wC [Γ ad,Δ (m:Int)] w λv I=>v=Δ 0/\af (er w) w I/\∃aK,Grow A w aK I/\bt I ad ae aK R n sm {tm with ever:=t.ever}:=by
 obtain⟨⟨H,J,bB,aQ,au⟩,bC,av,bD,aR⟩:=id h;obtain⟨hu,x,aS,aU,bE,bG,⟨new,aw,bH,aV⟩,aW,bI⟩:=hk.iN hm;obtain⟨bJ,bK,bN⟩:=id av;have ax:(t.iN m).bM=sm.cells:=by rw[hu];exact aq
 obtain⟨⟨a0,_⟩,_,_,_,_,_,_,_,ay,_⟩:=id au;refine aB func23 ?_;rw[cR dx.u];simp only[Z3,aX];rw[aG b9.p 1 ay rfl];obtain⟨bO,aY,aZ⟩:=au.pE;have bP:tm.olds.length<=t.olds.length:=by rw[aw,r9];omega
 refine(RY aY av aS Ω Ω (λo K=>by rw[aw,aU,List.drop_left]at K;exact aV o K)).Y ?_;rintro _ U _ ⟨rfl,a1,a2,a6⟩;obtain⟨a7,aK,N,a8⟩:=aZ a1 U _ a2 a6;rw[bF,ak];refine⟨λh=>m6 rfl h,λ_=>?_⟩;intro aa O _ _;have ba:=a8.W O;obtain⟨⟨B,C,a3,a4⟩,bc,bb,ge,L,E,be,w0,G,⟨bf,bg,az⟩,⟨P,bh,Q,bi⟩,aA,⟨aC,aD⟩,aE,aF⟩:=id ba;rw[aG b9.p 3 G rfl,aG b9.p 1 G rfl];refine(mF (i:=1) P rfl (show(t.iN m).bM[1]?=σ (sm.d7.length:Int) by rw[ax];exact PH sm)).Y ?_;rintro _ bQ _ ⟨rfl,S⟩;refine⟨.inl S,?_⟩;have aH:sm.d7.length<=L.length:=by rw[aD.1];exact ac.d7
 obtain⟨l,aI⟩:=ac.el;have aJ:sm.dc.length<=E.length:=by rw[aF.1,aI,r9];omega
 obtain⟨M,bj,W,aL⟩:=qU (i:=sm.d7.length) fa.u dU.i aC aH;obtain⟨X,bk,Y,aM⟩:=qU (i:=sm.dc.length) nW.u gD.i aE aJ;rw[bj,bL,aT b9.p rfl];refine bq (o:=0+3) fa.i (dg W.sl).1 (dg W.sl).2 (G.W S) Ξ λbl bm bR Z=>?_;have Z:ag bl ad b9 [Γ H,Γ ae,J,M,aQ]:=Z;intro bn aN _ _;have ab:=Z.W aN;have aO:af (λr=>r=ad) aa bn:=((S.V _).F bm).F (aN.V _);have bo:=P.V aO λr a he=>Q (he▸a);rw[aG b9.p 4 ab rfl,aG b9.p 1 ab rfl];refine(mF (i:=2) bo rfl (show(t.iN m).bM[2]?=σ (sm.dc.length:Int) by rw[ax];exact PI sm)).Y ?_;rintro _ bS _ ⟨rfl,ah⟩;refine⟨.inl ah,?_⟩;rw[bk,bL,aT b9.p rfl];refine bq (o:=0+4) nW.i (dg Y.sl).1 (dg Y.sl).2 (ab.W ah) Ξ λai bp bT aj=>?_;have aj:ag ai ad b9 [Γ H,Γ ae,J,M,X]:=aj;have q:af (λr=>r=ad) aa ai:=(aO.F (ah.V _)).F bp;have bU:=q.size;have br:eP ai ad ae H J M X aK R n sm (t.iN m):=by
  refine⟨⟨B,C,λr a=>by have:=a3 r a;omega,λr a=>by have:=a4 r a;omega⟩,bc,bb,ge,L.take sm.d7.length,E.take sm.dc.length,be,w0,aj,⟨bf,sq bg q λr o a K he=>C r (he▸B) (az r o a K),az⟩,⟨P.V q λr a he=>Q (he▸a),bh,Q,λr a=>bi r (a.imp id λh=>h.imp (aL r) (aM r))⟩,?_,⟨W.V q λr a he=>?_,?_,λj y f z bu=>?_⟩,Y.V q λr a he=>?_,?_,λj y e z he=>?_⟩
  .rw[<-ac.off];exact bs aA q λr a he=>by cases he;exact b8 aA G Φ a rfl
  .cases he;exact cn aC G Φ (aL _ a)
  .rw[o8,Q6 aH]
  .rw[List.getElem?_take]at z;split at z
   .obtain⟨bw,h1,bx,bz,bA⟩:=ac.fn j f bu;obtain⟨am,an,ap⟩:=aD.2 j y bw z h1;rw[<-bx,<-bz,<-bA];exact⟨am.V q λr _ a he=>C r (he▸B) a,an.V q λr _ a he=>C r (he▸B) a,ap⟩
   .cases z
  .cases he;exact cn aE G Φ (aM _ a)
  .rw[o8,Q6 aJ]
  .rw[List.getElem?_take]at z;split at z
   .have h1:s.dc[j]?=σ e:=by rw[aI,Y2 (x5.1 he).1];exact he
    obtain⟨am,an,ap⟩:=aF.2 j y e z h1;exact⟨am,an.V q λr _ a he=>C r (he▸B) a,ap.V q λr _ a he=>C r (he▸B) a⟩
   .cases z
 refine⟨by trivial,(a7.F (O.V _)).F (q.Y λr _ he=>he▸ .inl ⟨_,_,ay,Φ⟩),aK,⟨(N.1.F (O.V _)).F (q.Y λr _ he=>he▸a0),N.2.1,N.2.2⟩,⟨H,J,M,X,hu▸br⟩,aq,⟨?_,?_,?_⟩,aP,aR⟩
 .show tm.cells.length<=_;omega
 .show tm.olds.length<=_;omega
 .show tm.marks.length<=_;rw[aW,o8];omega
end
def R1(s:am):Prop:=∀e∈s.dc,e.sc.length<=1000/\e.qI.length<=1000
section
variable{w I:x4}{ad ae an c0:Nat}{A R O M aE:ah}{A9:Nat->ah}{k:Int}{co:Λ}{J:List am}{n:aI}{s u:am}{t:aw}{h:List aw}{cs:List x1}
structure Vk(w:x4)(an:Nat)(A R:ah)(A9:Nat->ah)(aE O M:ah):Prop where
 o:∀r,O r->r<w.heap.size/\¬A r/\¬R r/\(∀q,¬A9 q r)/\¬aE r/\r≠an/\¬M r
 m:∀r,M r->r<w.heap.size/\¬A r/\(∀q,¬A9 q r)/\¬aE r/\r≠an
theorem cf.side{S:ah}(p:cf w ad ae an A R A9 aE n s u t h cs)(f:af S w I)(e:∀r,r<w.heap.size->S r->¬A r/\¬R r/\(∀q,¬A9 q r)/\¬aE r/\r≠an):cf I ad ae an A R A9 aE n s u t h cs:=by
 have z:=f.size;exact⟨⟨p.eE.1.V f λr a h J=>h.elim (e r a J).1 (e r a J).2.1,p.eE.2⟩,p.fF,p.box.V f λJ=>(e an p.box.lt J).2.2.2.2 rfl,p.doc.V f λr a h J=>h.elim (λ⟨q,h⟩=>(e r a J).2.2.1 q h) (e r a J).2.2.2.1,p.apart,
  λr a=>⟨λh=>(p.read r a).1 (ol (λo j J _=>f.aZ r o j J λx=>(e r (p.read r a).2.1 x).2.2.2.1 a) h),by have:=(p.read r a).2.1;omega,(p.read r a).2.2⟩,p.out⟩
theorem cf.F0(p:cf w ad ae an A R A9 aE n s u t h cs):∀q r,A9 q r->¬aE r:=by
 obtain⟨_,_,_,_,_,_,_,_,_,_,_,_,_,a⟩:=p.doc;exact(a rfl).2
end
theorem F3{w0:x4}{out:x1}{g:Nat}{x:Int}{K:x1->x4->Prop}(e:Ext w0 w)(hm:aA .i64 aj w g out l)(f:∀r,lc out r->w0.heap.size<=r)(F:l.length<=1000000000)(p:∀v I q,Ext w0 I->aA .i64 aj I q v (l++[x])->(∀r,lc v r->w0.heap.size<=r)->K v I):
  aH x8 (X2 aq 1 #[(0,Δ x)]) w λy U=>aH x8 (Y0 #[aq,aq] aq #[out,y]) U K:=by
 refine eB aq.u aj.i rfl λv4 G H J a s=>?_;refine ii aq.u aj.i rfl (hm.W a) s.ls Θ Θ λv5 A L B C E=>?_;have z:=(e.F a).size;exact p _ _ A ((e.F a).then E λr j he=>by have:=f r he;omega) B λr j=>(C r j).elim (f r) λh=>Ω
theorem qV(x:bz):(aC x).length<=x.un.length:=by
 unfold aC;have:=Q8 (λv:Int=>!dropped x.mask v) ((W3 x.un.length).map λv:Nat=>(v:Int));rw[u9,List.length_range]at this;exact this
section
variable{w:x4}{ad ae:Nat}{A R:ah}{n:aI}{s:am}{t:aw}
end
theorem vw{out:x1}{g:Nat}{x:Int}{K:x1->x4->Prop}(hm:aA .i64 au w g out l)(C:l.length<=1000000000000)(e:∀v I f,af (λr=>lc out r) w I->aA .i64 au I f v (l++[x])->(∀r,lc v r->lc out r\/w.heap.size<=r)->K v I):
  aH x8 (X2 ax 1 #[(0,Δ x)]) w λy U=>aH x8 (Y0 #[ax,ax] ax #[out,y]) U K:=by
 refine eB ax.u au.i rfl λv4 E F G a j=>?_;refine ii ax.u au.i rfl (hm.W a) j.ls Θ Θ λv5 p H q s A=>?_;have z:=a.size;exact e _ _ p ((a.V _).F A) q λr B=>(s r B).imp id λh=>Ω
def oD(l:Λ):Λ:=(l.length:Int)::l
def pR(w:x4)(out v:x1)(l:Λ)(I:x4):Prop:=af (λr=>lc out r) w I/\(∃g,aA .i64 au I g v l)/\∀r,lc v r->lc out r\/w.heap.size<=r
theorem pR.F{U aa:x4}{o v u:x1}{e0:Λ}(h:pR w o v l U)(k:pR U v u e0 aa):pR w o u e0 aa:=by
 obtain⟨h1,_,e⟩:=h;obtain⟨f,p,q⟩:=k;have z:=h1.size;have s:=f.size;exact⟨⟨Ω,λr x a J j=>f.aZ r x (h1.aZ r x a J j) J λh=>(e r h).elim j λh=>by have:=(j9.1 a).1;omega⟩,p,λr a=>(q r a).elim (e r) λh=>.inr Ω⟩
theorem F4{k f:o7}{a:p9}{g:Nat}{v u:x1}{e0:Λ}(h:aA k e w g v l)(aW:aA f a w j u e0)(he:e≠a)(p:af (λr=>lc u r) w I):aA k e I g v l:=bs h p λr q hu=>by
 obtain⟨y,s⟩:=sx h r q;obtain⟨z,x⟩:=sx aW r hu;exact he (eC s x)
theorem R3{k:o7}{a:p9}{g b:Nat}{u:x1}(f:ag w b a cs)(h:aA k e w g u l)(he:e≠a)(j:af (λr=>lc u r) w I):ag I b a cs:=f.V j λhu=>by
 obtain⟨q,p⟩:=sx h b hu;exact he (eC p f)
theorem vx{out cL:x1}{g f:Nat}{o:Λ}(hm:aA .i64 au w g out o)(h:aA .i64 aj w f cL l)(L:o.length+l.length<=100000000000):al x8 Ie [out,cL] w λv I=>pR w out v (o++oD l) I:=by
 refine aB func47 ?_;rw[aY aq.u h.ls];refine vw hm Ω λz U g1 j A B=>?_;have p:=F4 h hm Φ j;have C:pR w out z (o++[(l.length:Int)]) U:=⟨j,⟨g1,A⟩,B⟩;rw[aY aq.u p.ls];refine cb.range l.length (λi a aa=>pR w out a (o++(l.length:Int)::l.take i) aa/\aA .i64 aj aa f cL l) Ω ⟨by rw[List.take_zero];exact C,p⟩ ?_ ?_
 .rintro i a aa E hi ⟨e,q⟩ G;obtain⟨x,r⟩:=aF (l:=l) hi;obtain⟨_,⟨M,s⟩,_⟩:=id e;refine bI Ω ?_;rw[bi aq.u aj.i Ψ q.ls r];refine vw s (by rw[r9,Z4,o8];omega) λv3 N H y J K=>?_;rw[aO];refine G _ _ ⟨e.F ⟨y,⟨H,?_⟩,K⟩,F4 q s Φ y⟩;rw[r8,r];simpa using J
 .rintro a aa E ⟨e,_⟩;refine cc Ω ?_;rw[o6]at e;exact e
def fv(s:am)(sc t:Λ):Bool:=(sc.zip t).all λp=>match s.d6[p.1.toNat]? with
 |some x=>decide (p.2∈aC x)
 |none=>rs
section
variable{w:x4}{ad ae:Nat}{A R:ah}{n:aI}{s:am}{t:aw}
theorem R7{d9 aS:x1}{at_:Int}(h:bt w ad ae A R n s t)(f:aM .i64 w aU sc)(O:aM .i64 w d9 ai)(P:∀v∈sc,0<=v/\v<n.co.length)(Q:aM .i64 w aS tl)(ap:tl.length=sc.length):
  al x8 Ii [Γ ad,.agg #[aU,d9,Δ at_],aS] w λr I=>r= .bool (fv s sc tl)/\Ext w I:=by
 have au:=h.2.2.2.1.d6;refine aB func51 ?_;refine bo λg1 U av L j=>?_;have j:ag U g1 dU [aU,d9,Δ at_]:=by
  obtain⟨_,_,_,S⟩:=dr f;obtain⟨_,_,_,V⟩:=dr O;rw[S,V]at j ⊢;exact j
 rw[aL dU.p 0 j rfl,aY aq.u (f.W L)];refine cb.range sc.length (λi _ aa=>Ext w aa/\fv s (sc.take i) (tl.take i)=ro) f.le ⟨L,rfl⟩ ?_ ?_
 .rintro i W aa X hi ⟨z,a⟩ Y;obtain⟨v,B⟩:=aF (l:=sc) hi;obtain⟨y,G⟩:=aF (l:=tl) (i:=i) Ω;have M:=P v (x6 B);obtain⟨x,C⟩:=aF (l:=s.d6) (i:=v.toNat) Ω;refine bI Ω ?_;rw[bi aq.u aj.i Ψ (f.W z) B];intro aw Z _ _;have E:=z.F Z;refine qm rfl aq.u aj.i (Q.W E) G λb o ab=>?_;rw[aD Ψ ab];refine(jP (i:=v) (h.W E)).Y ?_;rintro _ ax _ ⟨⟨b,m,rfl,H⟩,J⟩;refine⟨.inl J,?_⟩;refine(E9 H.1).Y ?_;rintro _ ay _ ⟨rfl,N⟩;obtain⟨hm,ac⟩:=H.2.2 x M.1 C;have az:=ln H M.1 C;have af:(decide (0<=y/\y<(m:Int))&&b.testBit y.toNat)=decide (y∈aC x):=by
   rw[ac,hm];by_cases e:0<=y/\y<(x.un.length:Int)
   .rw[m7 e,S0,m7 Ω,S0,Int.toNat_of_nonneg e.1];have:=Fi e;rw[U9,ne];simpa using this.symm
   .rw[ms e,Bool.false_and];symm;refine ms λhm=>e ?_;unfold aC at hm;obtain⟨h1,_⟩:=S1.1 hm;obtain⟨q,ah,rfl⟩:=j0.1 h1;have:=T6.1 ah;omega
  have am:(sc.take (i+1)).zip (tl.take (i+1))=(sc.take i).zip (tl.take i)++[(v,y)]:=by
   rw[r8,r8,B,G,o9,o9,List.zip_append Θ];rfl
  have an:fv s (sc.take (i+1)) (tl.take (i+1))=decide (y∈aC x):=by
   unfold fv at a ⊢;rw[am,List.all_append,a,S0];simp[C]
  rw[af,bC,bY];refine⟨λK=>?_,λK=>?_⟩
  .refine⟨?_,(E.F J).F N⟩;congr 1;symm;have ao:(v,y)∈sc.zip tl:=x6 (List.getElem?_zip_eq_some.2 ⟨B,G⟩);unfold fv;rw[List.all_eq_false];exact⟨_,ao,by simp only[C];simpa using K⟩
  .rw[aO];exact Y _ _ ⟨(E.F J).F N,by rw[an];simpa using K⟩
 .rintro W aa X ⟨z,a⟩;rw[aR,ak];refine⟨λh=>Ω,λ_=>⟨?_,z⟩⟩;rw[o6,j5 Ω]at a;rw[a]
end
def kM(x:bz):Λ:=if x.gone≠0 then[]else(aC x).map λv=>x.un.getD v.toNat 0
def l6(x:bz):Λ:=[x.gone]++oD (aC x)++kM x
def kN(s:am)(f:ch):Λ:=if f.live≠0 then oD f.sc++((bp f.ai).filter (fv s f.sc)).map (br f.ai f.cs)else[]
def nG(e:u0):Λ:=[-1,e.v]++oD e.sc++oD e.qI
def qW(s:am):Λ:=[s.zero]++s.d6.flatMap l6++s.d7.flatMap (kN s)++s.dc.flatMap nG
theorem qX(l:Λ):(oD l).length=l.length+1:=rfl
def jd(w I:x4)(ad g1 go:Nat)(l:Λ):Prop:=Ext w I/\ag I g1 dx [Γ ad]/\∃v g,ag I go ax [v]/\aA .i64 au I g v l/\∀r,lc v r->w.heap.size<=r
section
variable{w U aa:x4}{ad ae g1 go:Nat}{A R:ah}{n:aI}{s:am}{t:aw}{l e0:Λ}
theorem jd.W(h:jd w U ad g1 go l)(a:Ext U aa):jd w aa ad g1 go l:=by
 obtain⟨h1,e,v,g,f,j,p⟩:=h;exact⟨h1.F a,e.W a,v,g,f.W a,j.W a,p⟩
theorem jd.put{v u:x1}{g:Nat}{K:Unit->x4->Prop}(p:Ext w U)(y:w.heap.size<=go)(f:ag U g1 dx [Γ ad])(e:ag U go ax [u])(hm:aA .i64 au U g v l)(q:∀r,lc v r->w.heap.size<=r)(s:∀aa,af (λr=>r=go) U aa->jd w aa ad g1 go l->K () aa):aH x8 (n9 ax (Γ go) v) U K:=by
 have h:=hm.ls.cells;refine bq (g:=go) (o:=0) ax.i h.1 h.2 e Ξ λaa a z x=>s aa a ⟨p.then a λr j he=>by have he:r=go:=he;omega,f.V a λhe=>?_,v,g,x,bs hm a λr j he=>?_,q⟩
 .have he:=he;subst he;exact m6 (eC f e) Φ
 .have he:r=go:=he;subst he;obtain⟨c,b⟩:=sx hm r j;exact m6 (eC b e) Φ
theorem side{v:x1}{g b:Nat}(a:ag U b e cs)(hm:aA .i64 au U g v l)(he:au≠e)(f:af (λr=>lc v r) U aa):ag aa b e cs:=R3 a hm he f
theorem sP{u:x1}{b:Nat}(a:ag U b e cs)(f:ag U go ax [u])(he:ax≠e)(j:af (λr=>r=go) U aa):ag aa b e cs:=a.V j λh=>by
 have h:=h;subst h;exact he (eC f a)
end
theorem kz{α β:Type}{f:α->List β}{L:List α}{b:Nat}(h:∀a∈L,(f a).length<=b):(L.flatMap f).length<=L.length*b:=by
 induction L with
 |nil=>simp
 |cons a L e=>
  rw[W9,r9,Z4,U7,Nat.one_mul];have:=h a Ξ;have:=e λa j=>h a (by simp[j]);omega
section
variable{w:x4}{ad ae:Nat}{A R:ah}{n:aI}{s:am}{t:aw}
theorem R8(a:bd k co s):∀x∈s.d6,(l6 x).length<=66:=λx e=>by
 obtain⟨i,hi⟩:=X6.1 e;have f:=a.d6;have h:=(x5.1 hi).1;obtain⟨j,_⟩:=a.var i x _ hi (x7 Ω);have p:=a.eD.2.2 _ (Q4 (n:=i) Ω);have:=qV x;have hu:(kM x).length<=(aC x).length:=by unfold kM;split<;>simp
 unfold l6;rw[r9,r9,qX];simp;omega
theorem R9(e:bd k co s):∀f∈s.d7,(kN s f).length<=4103:=λf q=>by
 obtain⟨a,h,_⟩:=e.d7 f q;have r:dG f.ai:=by rw[h];exact og e.eD.2.2 λv j=>⟨(a.scope.1 v j).1,a.d6 v j⟩
 have h1:=jy r;have w:aQ f.ai<=4096:=by rw[h];exact a.small
 have x:=Q8 (fv s f.sc) (bp f.ai);have p:=a.scope.2;have p:f.sc.length<=6:=p;unfold kN;split
 .rw[r9,qX,u9];omega
 .simp
theorem F5(h:bt w ad ae A R n s t)(b5:Laid w)(B:R1 s)(fK:s.d7.length<=100000)(fL:s.dc.length<=100000):al x8 wA [Γ ad] w λv I=>Ext w I/\∃g,aA .i64 au I g v (qW s)/\∀r,lc v r->w.heap.size<=r:=by
 have af:=h.2.2.2.1;have fM:=af.d6;have fN:=af.eD.2.1;have c0:=R8 af;have c1:=R9 af;obtain⟨⟨fO,fP,fQ,fR,ee⟩,_⟩:=id h;obtain⟨_,_,_,_,b6,c2,_,_,c3,_,_,_,⟨b8,c4⟩,cb,c5⟩:=id ee;have fS:b6.length=s.d7.length:=c4.1;have fU:=c5.1;refine iK func19 ?_;refine bo λg1 U fV cd a7=>?_;have a7:=a7;rw[aD Ψ (a7.cell rfl),cR dx.u];simp only[Z3,aX];rw[aD Ψ (a7.cell rfl)];refine(sz (h.W cd)).Y ?_;rintro _ fW _ ⟨rfl,c6⟩;refine eB ax.u au.i rfl λv4 fX fY fZ c7 c8=>?_;refine bB ax.i λgo gb aM c9 O=>?_;have gc:=cd.size;have z3:=c6.size;have z4:=c7.size;have bx:=(c6.F c7).F c9;have O:=O;refine jd.put (cd.F bx) Ω (a7.W bx) O (c8.W c9) (λr z=>by obtain⟨e,_⟩:=bV c8 z;omega) λgd gf ce=>?_;rw[aD Ψ (ce.2.1.cell rfl)];refine(yt (h.W ce.1)).Y ?_;rintro _ gg _ ⟨rfl,ef⟩;have aM:w.heap.size<=go:=Ω
 refine bZ.range n.co.length (λi cf=>jd w cf ad g1 go ([s.zero]++(s.d6.take i).flatMap l6)) Ω (by rw[List.take_zero,List.flatMap_nil,W5];exact ce.W ef) ?_ ?_
 .rintro i cf eg hi S eh;obtain⟨x,ap⟩:=aF (l:=s.d6) (i:=i) Ω;have a8:([s.zero]++(s.d6.take i).flatMap l6).length<=100000:=by
   have:=kz (L:=s.d6.take i) (b:=66) λa ba=>c0 a (U3 ba);rw[o8]at this;rw[r9];have P:min i s.d6.length*66<=64*66:=Y5 _ Ω;simp only[U2];omega
  generalize bb:[s.zero]++(s.d6.take i).flatMap l6=ah at S a8;have bd:[s.zero]++(s.d6.take (i+1)).flatMap l6=ah++l6 x:=by
   rw[<-bb,r8,ap,o9,List.flatMap_append,List.flatMap_singleton,X9]
  refine bI Ω ?_;refine bB aj.i λbe ei gh ej cg=>?_;have cg:ag ei be aj [Δ 0]:=cg;refine bq (g:=be) (o:=0) aj.i rfl rfl cg Ξ λgi ek gk ch=>?_;have ch:=ch;have em:=ej.put ek Ω;intro gl da _ _;have ci:=ch.W da;obtain⟨ak,bz,v,g,O,hm,av⟩:=S.W (em.F da);obtain⟨gm,gn,gp,gq,bc,gu,L,gw,db,gx,en,eo,gA,gB⟩:=(h.W ak).1.parts;have N:∀{Q:x4}{K:x1->Prop},ag Q g1 dx [Γ ad]->K (Γ ad)->ab x8 (u5 dx (Γ g1)) Q K:=λB aw=>by
   rw[aD Ψ (B.cell rfl)];exact aw
  have bf:∀{Q:x4}{K:x1->Prop},ag Q be aj [Δ (i:Int)]->K (Δ (i:Int))->ab x8 (u5 aj (Γ be)) Q K:=λB aw=>by
   rw[aD Ψ (B.cell rfl)];exact aw
  rw[aD Ψ (O.Qz rfl)];refine N bz ?_;rw[aG b9.p 1 db rfl];refine N bz ?_;rw[aG b9.p 2 db rfl];refine bf ci ?_;rw[gI (y:=(i:Int)) (i:=i) rfl aq.u aj.i Ψ eo.ls (sy Ω)];refine N bz (bf ci ?_);have bE:t.bM[gv s i+0]?=σ x.gone:=by rw[h.2.1,qL ap Ω];rfl
  refine(mF en rfl bE).Y ?_;rintro _ gC _ ⟨rfl,cj⟩;refine⟨.inl cj,?_⟩;refine eB ax.u au.i rfl λgE gF gH gJ dd ep=>?_;refine⟨.inl (cj.F dd),?_⟩;have aN:=cj.F dd;have W:=hm.W aN;refine ii ax.u au.i rfl W ep.ls Θ Θ λck er es X cl Y=>?_;have eu:=ak.size;have gK:=aN.size;have bg:∀r,lc ck r->w.heap.size<=r:=λr z=>(cl r z).elim (av r) λh=>Ω
  have am:=(ak.F aN).then Y λr z he=>by have:=av r he;omega
  have df:=side (ci.W aN) W Φ Y;have bF:=side (bz.W aN) W Φ Y;have cm:=side (O.W aN) W Φ Y;refine⟨.inr ⟨kD Ψ (df.cell rfl),kD Ψ (bF.cell rfl),trivial⟩,?_⟩;refine(jP (i:=(i:Int)) (h.W am)).Y ?_;rintro _ gL _ ⟨⟨gM,gN,rfl,dg⟩,bx⟩;refine ns.Y ?_;rintro _ dh _ ⟨ev,di,rfl,gO,cn⟩;have dj:=ln dg Ω (by rw[u6];exact ap);have dk:=bx.F ev;have gP:=qV x;have gR:=(af.var i x _ ap (x7 hi)).1;have gS:=af.eD.2.2 _ (Q4 hi);refine(DU (L:=aC x) (nr (g:=di) dg.1) (λk vs w hk=>by
    obtain⟨v,az,rfl⟩:=hk;exact⟨v,by rw[<-dj,v8,az];rfl,rfl⟩) (λa b bE ac=>⟨ac.1.V bE λh=>by have:=cn.lt;have h:dh.heap.size<=di:=h;omega,iu bE (λh=>by have h:dh.heap.size<=0:=h;have:=cn.lt;omega) ac.2⟩) ⟨cn,b5.W (am.F dk)⟩ (by rw[<-dj,u9]) Ω).Y ?_
  rintro gT gU _ ⟨ew,gV,_,ey⟩;have Z:=dk.F ew;refine(vx (X.W Z) ey Θ).Y ?_;rintro bG cp _ ⟨E,⟨dl,aB⟩,bh⟩;have ez:=am.size;have gW:=Z.size;have bH:∀r,lc bG r->w.heap.size<=r:=λr z=>(bh r z).elim (bg r) λh=>Ω
  have aE:=(am.F Z).then E λr z he=>by have:=bg r he;omega
  have eA:=side (df.W Z) (X.W Z) Φ E;have cq:=side (bF.W Z) (X.W Z) Φ E;have bJ:=side (cm.W Z) (X.W Z) Φ E;refine jd.put aE aM cq bJ aB bH λcr aH bi=>?_;have dm:=sP eA bJ Φ aH;refine N bi.2.1 (bf dm ?_);refine(jP (i:=(i:Int)) (h.W bi.1)).Y ?_;rintro _ eC _ ⟨⟨eE,eF,rfl,dn⟩,eH⟩;refine ns.Y ?_;rintro _ gX _ ⟨eI,dp,rfl,eJ,eK⟩;have dq:=eH.F eI;have dr:=ln dn Ω (by rw[u6];exact ap);have ds:=bi.W dq;let dt:=ah++[x.gone]++oD (aC x);refine kX.old ⟨Nat,rs,jX,#[Γ dp],_,_,_,_,λq I=>jd w I ad g1 go (dt++(kM x).take q)/\ag I be aj [Δ (i:Int)],λ_ _ _=>False,rfl,(nr (g:=dp) dn.1).s,?_,
   λ_ _ C h=>⟨h.1.W C,h.2.W C⟩,λ_ _ _ C h=>⟨h.1.W C,h.2.W C⟩,λ_ _ _ _ _ h=>h,⟨eK,b5.W ds.1⟩,⟨by rw[List.take_zero,W5];exact ds,dm.W dq⟩,?_,?_,λ_ _ h=>h.elim,λ_ _ _ h=>h.elim⟩
  .rintro _ _ _ _ ⟨_,_,_,_,rfl⟩;rfl
  .rintro _ q _ dv ⟨dw,eL⟩ ⟨bK,rfl,y,bL,eM⟩ ⟨bO,ct⟩;cases eM;intro gY cu _ _;have cw:=bO.W cu;have cz:=ct.W cu;have dy:(aC x)[q]?=σ (y:Int):=by rw[<-dr,v8,bL];rfl
   have dz:=x6 dy;have gZ:0<=(y:Int)/\(y:Int)<x.un.length:=by
    unfold aC at dz;obtain⟨h1,_⟩:=S1.1 dz;obtain⟨j,aI,e⟩:=j0.1 h1;have:=T6.1 aI;omega
   refine N cw.2.1 (bf cz ?_);refine(pJ (h.W cw.1)).Y ?_;rintro _ g0 _ ⟨rfl,bP⟩;have eN:et n i y:=⟨Ω,Ω,Ω,by rw[u6,u4,x7 hi,V9];omega⟩;have eO:fj s (i:Int).toNat (y:Int).toNat=x.un.getD y 0:=by
    rw[u6,u6];unfold fj;rw[ap]
   have bj:=cw.W bP;rw[m3 eN,eO,bu,bw];refine N bj.2.1 (bf (cz.W bP) ?_);refine(sB (h.W bj.1)).Y ?_;rintro _ g2 _ ⟨rfl,bQ⟩;have eP:(decide (0<=(i:Int))&&du s (i:Int).toNat)=decide (x.gone≠0):=by
    rw[m7 Ω,S0,u6];unfold du;rw[ap]
   have bR:=(cu.F bP).F bQ;rw[eP,bC,bY];refine⟨λaJ=>?_,λaJ=>?_⟩
   .have aP:¬x.gone≠0:=by simpa using aJ
    obtain⟨bk,cA,v5,eQ,an,G,bl⟩:=bj.W bQ;rw[aD Ψ (an.cell rfl)];have eR:((kM x).take q).length<=100:=by rw[o8];unfold kM;rw[m5 aP,u9];omega
    refine vw G (by simp only[dt,r9,qX,U2];omega) λeS eU eV H cB cC=>?_;have eW:=bk.size;have cD:=bk.then H λr z he=>by have:=bl r he;omega
    refine jd.put (g1:=g1) cD aM (side cA G Φ H) (side an G Φ H) cB (λr z=>(cC r z).elim (bl r) λh=>Ω) λcE bS aR=>?_;have eX:=sP (side ((cz.W bP).W bQ) G Φ H) (side an G Φ H) Φ bS;have cF:=eJ;have eY:∀{b:Nat}{e:p9}{cs:List x1},ag dv b e cs->au≠e->ax≠e->ag cE b e cs:=λB h1 P=>sP (side (B.W bR) G h1 H) (side an G Φ H) P bS;refine⟨⟨eY dw Φ Φ,b5.W aR.1⟩,⟨?_,eX⟩,λh=>by cases h⟩;rw[r8,show(kM x)[q]?=σ (x.un.getD y 0) by unfold kM;rw[m5 aP,v8,dy];rfl,o9,<-X9];exact aR
   .have aP:x.gone≠0:=by simpa using aJ
    refine⟨⟨dw.W bR,eL.W bR⟩,⟨?_,ct.W bR⟩,λh=>by cases h⟩;have e:kM x=[]:=by unfold kM;rw[m3 aP]
    rw[e,List.take_nil]at bj ⊢;exact bj.W bQ
  .rintro q dv rfl ⟨bO,ct⟩;rw[aO];refine eh _ ?_;rw[bd];have:(kM x).take (gj eE eF).length=kM x:=j5 (by
    unfold kM;split
    .simp
    .rw[u9,<-dr,u9];exact p8 _)
   rw[this]at bO;unfold l6;rw[<-X9,<-X9];exact bO
 .rintro cf eg S;refine cc Ω ?_;rw[j5 Ω]at S;have eZ:([s.zero]++s.d6.flatMap l6).length<=100000:=by
   have:=kz c0;have P:s.d6.length*66<=64*66:=Y5 _ Ω;rw[r9];simp only[U2];omega
  have N:∀{Q:x4}{K:x1->Prop},ag Q g1 dx [Γ ad]->K (Γ ad)->ab x8 (u5 dx (Γ g1)) Q K:=λB aw=>by
   rw[aD Ψ (B.Qz rfl)];exact aw
  refine N S.2.1 ?_;rw[aG b9.p 3 (c3.W S.1) rfl,dE fa.u (b8.W S.1)];unfold qW;generalize[s.zero]++s.d6.flatMap l6=cL at S eZ;refine bZ.range b6.length (λj cG=>jd w cG ad g1 go (cL++(s.d7.take j).flatMap (kN s))) Ω (by rw[List.take_zero,List.flatMap_nil,W5];exact S) ?_ ?_
  .rintro j cG e0 aI M e1;obtain⟨f,aV⟩:=aF (l:=s.d7) (i:=j) Ω;obtain⟨y,bL⟩:=aF (l:=b6) aI;obtain⟨⟨⟨bN,aW⟩,_⟩,e2,_⟩:=c4.2 j y f bL aV;have bT:=e2.ls;obtain⟨aY,cH,_⟩:=af.d7 f (x6 aV);have bU:dG f.ai:=by rw[cH];exact og af.eD.2.2 λv az=>⟨(aY.scope.1 v az).1,aY.d6 v az⟩
   have g3:f.sc.length<=6:=aY.scope.2;have e3:f.ai.length=f.sc.length:=by rw[cH];unfold b1;rw[u9]
   have e4:ca f.ai:=⟨Ω,bU⟩;have g4:=jy bU;have g5:aQ f.ai<=4096:=by rw[cH];exact aY.small
   have a8:(cL++(s.d7.take j).flatMap (kN s)).length<=1000000000:=by
    have:=kz (L:=s.d7.take j) (b:=4103) λa ba=>c1 a (U3 ba);rw[o8]at this;have P:min j s.d7.length*4103<=100000*4103:=Y5 _ Ω;rw[r9];omega
   generalize bb:cL++(s.d7.take j).flatMap (kN s)=ah at M a8;have bd:cL++(s.d7.take (j+1)).flatMap (kN s)=ah++kN s f:=by
    rw[<-bb,r8,aV,o9,List.flatMap_append,List.flatMap_singleton,X9]
   refine bI Ω ?_;refine cW (λdA=>jd w dA ad g1 go (ah++kN s f)) (λdA e5=>by rw[aO];exact e1 _ (by rw[bd];exact e5)) λay dC=>?_;rw[b7 rfl fa.u dU.i (b8.W M.1) aI,bA dU.p dU.i rfl ((b8.W M.1).range bL)];refine bB aj.i λaZ dD g6 bW a1=>?_;have a1:ag dD aZ aj [Δ 0]:=a1;refine bB dU.i λe6 e8 g7 dF dH=>?_;refine bq (g:=aZ) (o:=0) aj.i rfl rfl (a1.W dF) Ξ λe9 dI g8 cI=>?_;have cI:=cI;have g9:=bW.size;have ha:=a1.lt;have cJ:=(aW.W M.1).ls;have fb:=bT.W M.1;refine b4 (vs:=oi y) dU.i rfl rfl (by intro u hu;simp[oi]at hu;rcases hu with rfl|rfl|rfl<;>first|rfl|exact cJ.cells.2|exact fb.cells.2) (dH.V dI λhe=>by have he:=he;omega) λfc dJ hb fd=>?_;have dK:=cI.V dJ λhe=>by have he:=he;omega
   have fe:=((bW.F dF).then dI λr z he=>by have he:r=aZ:=he;omega).put dJ Ω;have cK:=M.W fe;have dL:∀{Q:x4}{K:x1->Prop},ag Q aZ aj [Δ (j:Int)]->K (Δ (j:Int))->ab x8 (u5 aj (Γ aZ)) Q K:=λB aw=>by
    rw[aD Ψ (B.cell rfl)];exact aw
   refine N cK.2.1 (dL dK ?_);refine(ve (h.W cK.1)).Y ?_;rintro _ ff _ ⟨rfl,bm⟩;have dM:=cK.W bm;have fg:(decide (0<=(j:Int))&&e7 s (j:Int).toNat)=decide (f.live≠0):=by
    rw[m7 Ω,S0,u6];unfold e7;rw[aV]
   rw[fg,bC,bY];refine⟨λaJ=>dC _ ?_,λaJ=>?_⟩
   .have aP:¬f.live≠0:=by simpa using aJ
    unfold kN;rw[m5 aP,W5];exact dM
   have cF:f.live≠0:=by simpa using aJ
   obtain⟨cM,fh,hc,ge,cN,bn,dN⟩:=id dM;have fi:=dK.W bm;have dO:=fd.W bm;rw[aD Ψ (cN.Qz rfl),aL dU.p 0 dO rfl];refine(vx bn (aW.W cM) Ω).Y ?_;rintro bG cp _ ⟨E,⟨dl,aB⟩,bh⟩;have hd:=cM.size;have aE:Ext w cp:=cM.then E λr z he=>by have:=dN r he;omega
   refine jd.put (w:=w) (g1:=g1) aE aM (side fh bn Φ E) (side cN bn Φ E) aB (λr z=>(bh r z).elim (dN r) λh=>Ω) λcr aH bi=>?_;have dP:∀{b:Nat}{e:p9}{cs:List x1},ag ff b e cs->au≠e->ax≠e->ag cr b e cs:=λB h1 P=>sP (side B bn h1 E) (side cN bn Φ E) P aH;have fk:=dP fi Φ Φ;have dQ:=dP dO Φ Φ;rw[aT dU.p rfl,bA (cs:=[y.d9]) bD.p bD.i rfl (λq u bK=>by
    cases q with
    |zero=>cases bK;exact dQ.cell (o:=0+1) rfl
    |succ q=>simp at bK)]
   refine uo.Y ?_;rintro _ hf _ ⟨cO,dR,rfl,hg,fm⟩;have cP:=bi.W cO;have fo:=um (g:=dR) (B0:=w.heap.size) (sv:=y.d9) e4;refine nR.old ⟨Nat,rs,mi,#[Γ dR],_,_,_,_,λq I=>jd w I ad g1 go (ah++oD f.sc++(((bp f.ai).take q).filter (fv s f.sc)).map (br f.ai f.cs))/\ag I aZ aj [Δ (j:Int)]/\ag I e6 dU [y.aU,y.d9,Δ (y.at_:Int)],λ_ _ _=>False,rfl,fo.s,
    ?_,λ_ _ C h=>⟨h.1.W C,h.2.1.W C,Y9 h.2.2 C.size⟩,λ_ _ _ C h=>⟨h.1.W C,h.2.1.W C,h.2.2.W C⟩,λ_ _ _ _ _ h=>h,⟨fm,bT.W cP.1,cP.1.size⟩,⟨by rw[List.take_zero,List.filter_nil,List.map_nil,W5];exact cP,fk.W cO,dQ.W cO⟩,?_,?_,λ_ _ h=>h.elim,λ_ _ _ h=>h.elim⟩
   .rintro _ _ _ _ ⟨_,_,_,_,rfl,_⟩;rfl
   .rintro _ aS q _ dS ⟨dT,fp,fq⟩ ⟨bK,rfl,hh,gt,fs,hj,dV⟩ ⟨bX,cQ,cS⟩;cases fs;have b0:(bp f.ai)[q]?=σ (de f.ai (q:Int)):=qs bU Ω;generalize de f.ai (q:Int)=tl at b0 dV;intro hl b2 _ _;have cT:=bX.W b2;have dW:=(dV.W b2).ls;refine N cT.2.1 (dL (cQ.W b2) ?_);refine(yw (h.W cT.1) dW).Y ?_;rintro _ hn _ ⟨rfl,cU⟩;have ft:=kF bU b0;have fu:(gQ s j tl).isSome=ro:=by unfold gQ;rw[aV];simp only;rw[m3 cF,ft];rfl
    have fw:nD s j tl=br f.ai f.cs tl:=by unfold nD;rw[aV]
    have bs:=cT.W cU;rw[m3 fu,fw,bu,bw];refine N bs.2.1 ?_;have dX:=b2.F cU;rw[bA dU.p dU.i rfl (cS.W dX).range];refine(R7 (h.W bs.1) ((aW.W bs.1).ls) (bT.W bs.1) (λv az=>⟨(aY.scope.1 v az).1,aY.d6 v az⟩) (dW.W cU) (by rw[tN b0,e3])).Y ?_;rintro _ ho _ ⟨rfl,dY⟩;have dZ:=bs.W dY;have a2:=dX.F dY;have ea:((bp f.ai).take (q+1)).filter (fv s f.sc)=((bp f.ai).take q).filter (fv s f.sc)++(if fv s f.sc tl=ro then[tl]else[]):=by
     rw[r8,b0,o9,List.filter_append];congr 1;cases ao:fv s f.sc tl<;>simp[ao]
    rw[bY];refine⟨λcV=>?_,λcV=>?_⟩
    .obtain⟨bk,cA,v5,eQ,an,G,bl⟩:=dZ;rw[aD Ψ (an.cell rfl)];have eR:(((bp f.ai).take q).filter (fv s f.sc)).length<=4096:=by
      have:=Q8 (fv s f.sc) ((bp f.ai).take q);rw[o8]at this;omega
     refine vw G (by simp only[r9,qX,u9];omega) λeS eU eV H cB cC=>?_;have eW:=bk.size;have cD:=bk.then H λr z he=>by have:=bl r he;omega
     refine jd.put cD aM (side cA G Φ H) (side an G Φ H) cB (λr z=>(cC r z).elim (bl r) λh=>Ω) λcE bS aR=>?_;have cX:∀{b:Nat}{e:p9}{cs:List x1},ag dS b e cs->au≠e->ax≠e->ag cE b e cs:=λB h1 P=>sP (side (B.W a2) G h1 H) (side an G Φ H) P bS;refine⟨⟨cX dT Φ Φ,bT.W aR.1,aR.1.size⟩,⟨?_,cX cQ Φ Φ,cX cS Φ Φ⟩,λh=>by cases h⟩;rw[ea,m3 cV,Z5,List.map_singleton,<-X9];exact aR
    .refine⟨⟨dT.W a2,fp.W a2,Y9 fq a2.size⟩,⟨?_,cQ.W a2,cS.W a2⟩,λh=>by cases h⟩;rw[ea,m5 (by rw[cV];decide),W5];exact dZ
   .rintro q dS rfl ⟨bX,_⟩;refine dC _ ?_;rw[j5 Ω]at bX;unfold kN;rw[m3 cF,<-X9];exact bX
  .rintro cG e0 M;refine cc Ω ?_;rw[j5 Ω]at M;have fx:(cL++s.d7.flatMap (kN s)).length<=1000000000:=by
    have:=kz (b:=4103) c1;have P:s.d7.length*4103<=100000*4103:=Y5 _ Ω;rw[r9];omega
   refine N M.2.1 ?_;rw[aG b9.p 4 (c3.W M.1) rfl,dE nW.u (cb.W M.1)];generalize cL++s.d7.flatMap (kN s)=b3 at M fx;refine bZ.range c2.length (λj cY=>jd w cY ad g1 go (b3++(s.dc.take j).flatMap nG)) Ω (by rw[List.take_zero,List.flatMap_nil,W5];exact M) ?_ ?_
   .rintro j cY fy aI aa fz;obtain⟨e,he⟩:=aF (l:=s.dc) (i:=j) Ω;obtain⟨x,C⟩:=aF (l:=c2) aI;obtain⟨bm,⟨⟨bN,aW⟩,_⟩,⟨hq,eb⟩,_⟩:=c5.2 j x e C he;obtain⟨hr,dH⟩:=B e (x6 he);have a8:(b3++(s.dc.take j).flatMap nG).length<=10000000000:=by
     have:=kz (L:=s.dc.take j) (f:=nG) (b:=2004) λa ba=>by
      obtain⟨h1,P⟩:=B a (U3 ba);unfold nG;simp only[r9,qX,Z4,Q7];omega
     rw[o8]at this;have P:min j s.dc.length*2004<=100000*2004:=Y5 _ Ω;rw[r9];omega
    generalize bb:b3++(s.dc.take j).flatMap nG=ah at aa a8;have bd:b3++(s.dc.take (j+1)).flatMap nG=ah++nG e:=by
     rw[<-bb,r8,he,o9,List.flatMap_append,List.flatMap_singleton,X9]
    refine bI Ω ?_;rw[b7 rfl nW.u gD.i (cb.W aa.1) aI,bA gD.p gD.i rfl ((cb.W aa.1).range C)];refine bB gD.i λge dD hs bW a1=>?_;have cJ:=(aW.W aa.1).ls;have fA:=(eb.W aa.1).ls;refine b4 (vs:=x9 x) gD.i rfl rfl (by intro u hu;simp[x9]at hu;rcases hu with rfl|rfl|rfl<;>first|rfl|exact cJ.cells.2|exact fA.cells.2) a1 λe8 fB ht a6=>?_;have fD:=bW.put fB Ω;intro e9 ec _ _;have a6:=a6.W ec;obtain⟨ak,J,v,g,O,hm,av⟩:=aa.W (fD.F ec);rw[aD Ψ (O.cell rfl),aL gD.p 0 a6 rfl,aL gD.p 1 a6 rfl,aL gD.p 2 a6 rfl,bm];refine w5 (l:=[-1,e.v]) ax.u au.i Ω rfl Ψ λhv hx fc hy aK fE=>?_;refine⟨.inl aK,?_⟩;have W:=hm.W aK;refine ii ax.u au.i rfl W fE.ls Θ Θ λck er es X cl Y=>?_;have eu:=ak.size;have hz:=aK.size;have bg:∀r,lc ck r->w.heap.size<=r:=λr z=>(cl r z).elim (av r) λh=>Ω
    have am:=(ak.F aK).then Y λr z he=>by have:=av r he;omega
    have cZ:=side (a6.W aK) W Φ Y;have bF:=side (J.W aK) W Φ Y;have cm:=side (O.W aK) W Φ Y;refine⟨.inr ⟨kD Ψ (cZ.cell rfl),Go.Vc.iT λK=>aT gD.p rfl,kD Ψ (cZ.cell rfl),Go.Vc.iT λK=>aT gD.p rfl,trivial⟩,?_⟩;refine(vx X (aW.W am) Θ).Y ?_;rintro bG cp _ ⟨E,⟨dl,aB⟩,bh⟩;have ez:=am.size;have bH:∀r,lc bG r->w.heap.size<=r:=λr z=>(bh r z).elim (bg r) λh=>Ω
    have aE:=am.then E λr z he=>by have:=bg r he;omega
    have fF:=side cZ X Φ E;have cq:=side bF X Φ E;have bJ:=side cm X Φ E;refine⟨.inr ⟨kD Ψ (fF.cell rfl),Go.Vc.iT λK=>aT gD.p rfl,trivial⟩,?_⟩;refine(vx aB (eb.W aE) (by simp[qX];omega)).Y ?_;rintro hA cr _ ⟨aH,⟨hB,fG⟩,fH⟩;have hC:=aE.size;have fI:=aE.then aH λr z he=>by have:=bH r he;omega
    refine jd.put fI aM (side cq aB Φ aH) (side bJ aB Φ aH) fG (λr z=>(fH r z).elim (bH r) λh=>Ω) λeC hD fJ=>?_;rw[aO];refine fz _ ?_;rw[bd];unfold nG;rw[<-X9,<-X9];exact fJ
   .rintro cY fy aa;refine cc Ω ?_;rw[j5 Ω]at aa;obtain⟨ak,J,v,g,O,hm,av⟩:=aa;rw[aD Ψ (O.cell rfl)];intro hE ed _;exact⟨ak.F ed,g,hm.W ed,av⟩
end
theorem Sa{b:Bool}{d9 a7:x1}{e f:Λ}(h1:Seen eT w [aU] a)(h:Seen eT w [d9] e)(j:Seen eT w [a7] f):∀u∈[aU,d9,a7,.bool b],u.oneCell'=ro:=by
 intro u hu;simp only[V4,List.not_mem_nil,or_false]at hu;rcases hu with rfl|rfl|rfl|rfl
 .exact gY h1
 .exact gY h
 .exact gY j
 .rfl
section
variable{w:x4}{ad ae:Nat}{A R:ah}{n:aI}{s:am}{t:aw}{dD:x1}
end
def nH(ai t:Λ):Int:=(cz ai t 0).getD 0
def kp(s:am)(f:ch)(pos:Nat)(v:Int):Λ:=(bX s f.sc pos v).map (nH f.ai)
def l7(s:am)(sc:Λ)(pos:Nat)(v:Int)(t:Λ):Bool:=decide (t.getD pos 0=v)&&fv s sc t
section
variable{k:Int}{co:Λ}{s:am}{f:ch}{pos:Nat}{v:Int}
theorem Sb:fv s sc t=ro↔ ∀(p:Nat)u w,sc[p]?=σ u->t[p]?=σ w->w∈bb s u:=by
 unfold fv;rw[List.all_eq_true];constructor
 .intro h p u w hu hw;have:=h (u,w) (x6 (List.getElem?_zip_eq_some.2 ⟨hu,hw⟩));unfold bb;cases a:s.d6[u.toNat]? with
  |none=>simp[a]at this
  |some x=>simpa[a]using this
 .rintro h ⟨u,w⟩ hm;obtain⟨p,ac⟩:=X6.1 hm;obtain⟨h1,e⟩:=List.getElem?_zip_eq_some.1 ac;have:=h p u w h1 e;unfold bb at this;simp only;cases a:s.d6[u.toNat]? with
  |none=>rw[a]at this;cases this
  |some x=>rw[a]at this;simpa using this
theorem Sc(q:bd k co s)(B:f∈s.d7)(C:pos<f.sc.length)(r:∀u,f.sc[pos]?=σ u->v∈bb s u):bX s f.sc pos v=(bp f.ai).filter (l7 s f.sc pos v):=by
 obtain⟨x,y,_⟩:=q.d7 f B;have j:=yE q (λu hu=>⟨(x.scope.1 u hu).1,x.d6 u hu⟩) r;rw[<-y]at j;have h1:∀t∈bp f.ai,(ov (pM s pos v f.sc 0) t=ro↔t∈bX s f.sc pos v):=λt a=>by rw[j,S1];exact⟨λh=>⟨a,h⟩,λh=>h.2⟩
 rw[j];refine List.filter_congr λt a=>?_;have E:t.length=f.sc.length:=by rw[tM a,y];simp[b1]
 rw[U9,h1 t a,yJ,l7,T1,ne,Sb];constructor
 .rintro⟨_,h⟩;obtain⟨u,hu⟩:=aF (l:=f.sc) C;obtain⟨w,hw⟩:=aF (l:=t) (i:=pos) Ω;have z:=h pos u w hu hw;rw[m3 rfl]at z;refine⟨by rw[u4,hw];exact z,λp u' I A F=>?_⟩;have:=h p u' I A F;split at this
  .rename_i e;subst e;rw[this];exact r u' A
  .exact this
 .rintro⟨h1,G⟩;refine⟨E,λp u w hu hw=>?_⟩;split
  .rename_i e;subst e;rw[u4,hw]at h1;exact h1
  .exact G p u w hu hw
end
section
variable{w:x4}{dD:x1}{k:Int}{co:Λ}{s:am}
theorem Sd{j pos:Int}(h:ja w dD k co s)(Z:bd k co s)(am:b2 s):al x8 J5 [dD,Δ j,Δ pos,Δ v] w λr I=>Ext w I/\∃u,r= .tuple #[Δ u,.bool (dl s j pos v).isSome]:=by
 have aI:=Z.d6;refine aB func208 ?_;refine bo λg1 U aJ H an=>?_;have ab:=h.box H an;obtain⟨d9,aK,aM,aN,aO,aP,J,aQ,_,ao,aS,aU,ad,aW⟩:=id ab;refine aV (λr aa=>Ext U aa/\((r= .bool ro/\dl s j pos v=ν)\/(r= .bool rs/\∃f u,0<=j/\0<=pos/\s.d7[j.toNat]?=σ f/\f.live≠0/\f.sc[pos.toNat]?=σ u))) ?_ λay E=>?_
 .rintro _ aa ⟨A,⟨rfl,z⟩|⟨rfl,f,u,K,ae,e,af,hu⟩⟩
  .rw[bH,z];exact⟨H.F A,0,rfl⟩
  .rw[aX];have ag:=x6 e;have L:=x6 hu;obtain⟨ah,aZ,_⟩:=Z.d7 f ag;have M:=(ah.scope.1 u L).1;have a1:=ah.d6 u L;have M:=M;obtain⟨x,N⟩:=aF (l:=s.d6) (i:=u.toNat) Ω;rw[aL a6.p 6 (J.W A) rfl];refine mp (i:=j.toNat) Ω fm.u ew.i (bS ad A) (by rw[v8,e];rfl) λb o cs O Q=>?_;obtain⟨ap,au,v3,rfl,h1,av,aw⟩:=oy Q;rw[aT ew.p rfl,aT a8.p rfl,aD Ψ (O 0 _ rfl),gI (y:=pos) (i:=pos.toNat) Ω aq.u aj.i Ψ (dQ h1) hu,aL a6.p 3 (J.W A) rfl];refine jx (i:=u.toNat) rfl Ω dn.u aq.i Ψ (bS ao A) (by rw[v8,N];rfl) λa2 ax=>?_;refine(yy (dQ ax)).Y ?_;rintro _ a7 _ ⟨rfl,az⟩;refine⟨(H.F A).F az,u,?_⟩;have aA:=am f ag af u L x N;have ac:dl s j pos v=(dv s u v).map λx=>(f,u,x):=by
    unfold dl;rw[m3 ⟨K,ae⟩,e];simp only;rw[m3 af,hu]
   have aE:dv s u v=if v∈aC x then σ x else ν:=by
    unfold dv;rw[m3 M,N];simp only[aA,true_and]
   rw[ac,aE];by_cases G:v∈aC x
   .rw[m3 G,m7 G];rfl
   .rw[m5 G,ms G];rfl
 have R:∀{P:Prop},(¬∃f u,0<=j/\0<=pos/\s.d7[j.toNat]?=σ f/\f.live≠0/\f.sc[pos.toNat]?=σ u)->(dl s j pos v=ν->P)->P:=λz aG=>aG (by
  cases ac:dl s j pos v with
  |none=>rfl
  |some q=>
   obtain⟨f,u,x⟩:=q;obtain⟨S,V,a3,a4,a5,_⟩:=mO ac;exact m6 ⟨f,u,S,V,a3,a4,a5⟩ z)
 refine ab.load λu hu=>?_;refine(Rr hu).Y ?_;rintro _ ba _ ⟨rfl,B⟩;have same:∀{f W:ch},s.d7[j.toNat]?=σ f->s.d7[j.toNat]?=σ W->W=f:=λa b=>by rw[a]at b;exact(Z6 b).symm
 rw[bC,bY];refine⟨λX=>R (λ⟨f,u,S,V,a3,a4,a5⟩=>?_) λz=>E _ _ ⟨B,.inl ⟨rfl,z⟩⟩,λY=>?_⟩
 .unfold e7 at X;rw[a3]at X;simp[S,a4]at X
 have Y:0<=j/\e7 s j.toNat=ro:=by simpa using Y
 obtain⟨K,C⟩:=Y;obtain⟨f,e,aH⟩:∃f,s.d7[j.toNat]?=σ f/\f.live≠0:=by
  unfold e7 at C;cases e:s.d7[j.toNat]? with
  |none=>rw[e]at C;cases C
  |some f=>rw[e]at C;exact⟨f,rfl,by simpa using C⟩
 rw[aR,ak];refine⟨λbb=>R (λ⟨_,_,_,V,_⟩=>Ω) λz=>E _ _ ⟨B,.inl ⟨rfl,z⟩⟩,λae=>?_⟩;rw[aL a6.p 6 (J.W B) rfl];refine mp (i:=j.toNat) Ω fm.u ew.i (bS ad B) (by rw[v8,e];rfl) λb o cs O Q=>?_;obtain⟨ap,au,v3,rfl,h1,av,aw⟩:=oy Q;rw[aT ew.p rfl,aT a8.p rfl,aD Ψ (O 0 _ rfl),aY aq.u (dQ h1),cH];by_cases ai:(f.sc.length:Int)<=pos
 .refine R (λ⟨W,u,_,_,a3,_,a5⟩=>?_) λz=>E _ _ ⟨B,.inl ⟨by rw[m7 ai],z⟩⟩;obtain rfl:=same e a3;have:=(x5.1 a5).1;omega
 .obtain⟨u,hu⟩:=aF (l:=f.sc) (i:=pos.toNat) Ω;exact E _ _ ⟨B,.inr ⟨by rw[ms ai],f,u,K,Ω,e,aH,hu⟩⟩
theorem y5{f:ch}(h:ja w dD k co s)(K:bd k co s)(af:s.d7[j]?=σ f)(aJ:pos<f.sc.length)(aK:∀u,f.sc[pos]?=σ u->v∈bb s u):
  al x8 Jh [dD,Δ (j:Int),Δ (pos:Int),Δ v] w λr I=>Ext w I/\aM .i64 I r (kp s f pos v)/\∀q,lc r q->w.heap.size<=q:=by
 have bw:=K.d6;have S:=x6 af;obtain⟨L,ag,_⟩:=K.d7 f S;have M:=(lq K S).1;have aN:f.ai.length=f.sc.length:=by rw[ag];simp[b1]
 have bx:=jy M;have bz:(bp f.ai).length<=4096:=by
  have N:=L.small;rw[<-ag]at N;omega
 refine aB func142 ?_;refine bo λg1 U bC V aP=>?_;obtain⟨d9,bD,bE,bF,bG,bH,ah,bJ,_,aQ,bK,bL,aR,bM⟩:=h.box V aP;rw[aL a6.p 6 ah rfl];refine mp (i:=j) rfl fm.u ew.i aR (by rw[v8,af];rfl) λb o cs E aU=>?_;obtain⟨W,X,v3,rfl,h1,N,aW⟩:=oy aU;rw[aT ew.p rfl,bA (cs:=[W,X,v3]) a8.p a8.i rfl (λq u a=>by
  have:q<3:=(x5.1 a).1
  match q,this,a with
  |0,_,a=>cases a;exact E 0 _ rfl
  |1,_,a=>cases a;exact E 1 _ rfl
  |2,_,a=>cases a;exact E 2 _ rfl)]
 refine bB a8.i λbN aa bO aX aZ=>?_;have a1:∀u∈[W,X,v3],u.oneCell'=ro:=λu hu=>by
  simp only[V4,List.not_mem_nil,or_false]at hu;rcases hu with rfl|rfl|rfl
  .exact gY h1
  .exact gY N
  .exact gY aW
 refine b4 (vs:=[W,X,v3]) a8.i rfl rfl a1 aZ λbP a2 bQ ak=>?_;have am:=aX.put a2 Ω;have s1:=dQ h1;have a7:=dQ N;rw[aL a8.p 1 ak rfl];refine(xb f.ai (a7.W am) ⟨by rw[aN];exact L.scope.2,M⟩).Y ?_;rintro bR O _ ⟨an,ap⟩;have Y:=am.F an;rw[ka dn.u ap];refine cb.range (bp f.ai).length (λi out C=>Ext O C/\(∃g,aA .i64 aj C g out ((((bp f.ai).take i).filter (l7 s f.sc pos v)).map (nH f.ai)))/\∀r,lc out r->O.heap.size<=r) Ω ⟨Ext.refl _,⟨0,aA.nil _ _ _ _⟩,λr E=>by obtain⟨_,_,_,e,_⟩:=E;cases e⟩ ?_ ?_
 .rintro q out C ba a ⟨z,⟨g,hm⟩,P⟩ bc;have G:(bp f.ai)[q]?=σ (de f.ai (q:Int)):=qs M Ω;generalize de f.ai (q:Int)=tl at G;have bT:=tN G;have be:=kF M G;have bf:nH f.ai tl=(q:Int):=by unfold nH;rw[be];rfl
  have Q:=Y.F z;have au:((bp f.ai).take (q+1)).filter (l7 s f.sc pos v)=((bp f.ai).take q).filter (l7 s f.sc pos v)++(if l7 s f.sc pos v tl=ro then[tl]else[]):=by
   rw[r8,G,o9,List.filter_append];congr 1;cases ao:l7 s f.sc pos v tl<;>simp[ao]
  obtain⟨Z,av⟩:=aF (l:=tl) (i:=pos) Ω;refine bI Ω ?_;refine aV (λaw ax=>Ext O ax/\(∃g,aA .i64 aj ax g aw ((((bp f.ai).take (q+1)).filter (l7 s f.sc pos v)).map (nH f.ai)))/\∀r,lc aw r->O.heap.size<=r) (λ_ _ ab=>by rw[aO];exact bc _ _ ab) λay H=>?_;refine jx rfl rfl dn.u aq.i Ψ (bS ap z) G λaS R=>?_;have R:=dQ R;rw[bi aq.u aj.i Ψ R av,bk,aL a8.p 0 (ak.W (an.F z)) rfl,aY aq.u (s1.W Q)];refine cb.range f.sc.length (λp ok ad=>Ext C ad/\ok= .bool (decide (Z=v)&&fv s (f.sc.take p) (tl.take p))) s1.le ⟨Ext.refl _,by simp[fv]⟩ ?_ ?_
  .rintro p _ ad bg ac ⟨A,rfl⟩ bh;obtain⟨u,ae⟩:=aF (l:=f.sc) ac;obtain⟨y,az⟩:=aF (l:=tl) (i:=p) Ω;have aD:=x6 ae;have aE:=(L.scope.1 u aD).1;have aG:=L.d6 u aD;have aG:=aG;have aE:=aE;obtain⟨x,aH⟩:=aF (l:=s.d6) (i:=u.toNat) Ω;have aI:fv s (f.sc.take (p+1)) (tl.take (p+1))=(fv s (f.sc.take p) (tl.take p)&&decide (y∈aC x)):=by
    unfold fv;rw[r8,r8,ae,az,o9,o9,List.zip_append Θ,List.all_append];simp[aH]
   refine bI Ω ?_;refine aV (λok bj=>Ext C bj/\ok= .bool (decide (Z=v)&&fv s (f.sc.take (p+1)) (tl.take (p+1)))) (λ_ _ ab=>by rw[aO];exact bh _ _ ab) λay H=>?_;rw[bi aq.u aj.i Ψ (s1.W (Q.F A)) ae];intro bU bl _ _;have J:=A.F bl;rw[bY];refine⟨λB=>?_,λB=>H _ _ ⟨J,by rw[aI,<-Bool.and_assoc,B];rfl⟩⟩;rw[aL a6.p 3 (ah.W (Q.F J)) rfl];refine jx (i:=u.toNat) rfl Ω dn.u aq.i Ψ (bS aQ (Q.F J)) (by rw[v8,aH];rfl) λbV bm=>?_;rw[bi aq.u aj.i Ψ (R.W J) az];refine(yy (dQ bm)).Y ?_;rintro _ bW _ ⟨rfl,bn⟩;exact H _ _ ⟨J.F bn,by rw[aI,<-Bool.and_assoc,B,S0]⟩
  .rintro _ ad bg ⟨A,rfl⟩;rw[o6,j5 Ω];refine cc Ω ?_;have bq:(decide (Z=v)&&fv s f.sc tl)=l7 s f.sc pos v tl:=by unfold l7;rw[u4,av];rfl
   rw[bq,bY];refine⟨λB=>?_,λB=>H _ _ ⟨z.F A,⟨g,by rw[au,m5 (by rw[B];decide),W5];exact hm.W A⟩,P⟩⟩;refine F3 (z.F A) (hm.W A) P ?_ λbX I br bs bt bu=>H _ _ ⟨bs,⟨br,?_⟩,bu⟩
   .rw[u9];have h1:=Q8 (l7 s f.sc pos v) ((bp f.ai).take q);rw[o8]at h1;omega
   .rw[au,m3 B,Z5,List.map_singleton,bf];exact bt
 .rintro out C ba ⟨z,⟨g,hm⟩,P⟩;rw[o6,<-Sc K S aJ aK]at hm;refine cc Ω ?_;exact⟨(V.F Y).F z,hm.ls,λq a=>by have:=P q a;have:=(V.F Y).size;omega⟩
theorem Se{j pos:Int}(h:ja w dD k co s)(e:bd k co s)(R:b2 s):
  al x8 Jf [dD,Δ j,Δ pos,Δ v] w λr I=>Ext w I/\r=(match dl s j pos v with|some (f,_,_)=>.tuple #[Δ (ef k s f pos.toNat v),.bool ro]|none=>.tuple #[Δ 0,.bool rs]):=by
 refine aB func140 ?_;refine bo λg1 U az z S=>?_;have H:=h.box z S;refine H.load λu hu=>?_;refine(Sd hu e R).Y ?_;rintro _ aa _ ⟨A,fh,rfl⟩;rw[bu,bw,bC];cases ac:dl s j pos v with
 |none=>
  rw[Q5,W7,bH];exact⟨z.F A,rfl⟩
 |some q=>
 obtain⟨f,u',x⟩:=q;rw[S9,X1,aX];obtain⟨V,W,y,aA,B,X⟩:=mO ac;obtain⟨aC,Y,aE,Z⟩:=jS X;obtain⟨j,rfl⟩:=V3 V;obtain⟨pos,rfl⟩:=V3 W;rw[u6]at y B;have J:=x6 y;have ab:=(x5.1 B).1;have K:∀u,f.sc[pos]?=σ u->v∈bb s u:=λu hu=>by
  rw[B]at hu;cases hu;unfold bb;rw[Y];exact Z
 have L:=H.W A;obtain⟨d9,aG,aH,aI,aJ,aK,M,aM,_,aN,aP,aQ,ad,aR⟩:=id L;rw[aL a6.p 0 M rfl];refine L.load λaU ae=>?_;refine(y5 ae e y ab K).Y ?_;rintro aS af _ ⟨N,C,_⟩;rw[aY aq.u C];have O:(kp s f pos v).length=(bX s f.sc pos v).length:=by unfold kp;rw[u9]
 rw[O];refine cb.range (bX s f.sc pos v).length (λi ag E=>Ext af E/\ag=Δ ((((bX s f.sc pos v).take i).map (br f.ai f.cs)).foldl min k)) (by rw[<-O];exact C.le) ⟨Ext.refl _,rfl⟩ ?_ ?_
 .rintro i _ E ah hi ⟨a,rfl⟩ ak;obtain⟨tl,G⟩:=aF (l:=bX s f.sc pos v) hi;obtain⟨m,hm⟩:=qT e J K (x6 G);have am:(kp s f pos v)[i]?=σ (m:Int):=by
   unfold kp;rw[v8,G];unfold nH;rw[Y3,hm];rfl
  obtain⟨an,aV⟩:=lq e J;have aW:=(x5.1 (nu an hm)).1;obtain⟨c,P⟩:=aF (l:=f.cs) (i:=m) Ω;have ao:br f.ai f.cs tl=c:=by
   unfold br;rw[hm];simp[u4,P]
  have Q:=N.F a;refine bI Ω ?_;rw[bi aq.u aj.i Ψ (C.W a) am,aL a6.p 6 (M.W Q) rfl];refine mp (i:=j) rfl fm.u ew.i (bS ad Q) (by rw[v8,y];rfl) λb o cs ap av=>?_;obtain⟨aZ,a1,v3,rfl,h1,a2,aw⟩:=oy av;rw[aT ew.p rfl,aT a8.p rfl,aD Ψ (ap 2 _ rfl),bi ax.u au.i Ψ (dQ aw) P];refine EV.Y ?_;rintro _ a7 _ ⟨rfl,ay⟩;rw[aO];refine ak _ _ ⟨a.F ay,?_⟩;rw[r8,G,o9,Z5,Q0,List.map_singleton,ao];rfl
 .rintro _ E ah ⟨a,rfl⟩;rw[o6];refine cc Ω ?_;exact⟨(z.F A).F (N.F a),rfl⟩
theorem vy{a b k:Int}(h1:0<=a/\a<=4294967296)(f:0<=b/\b<=4294967296):al x8 Ji [Δ a,Δ b,Δ k] w λr I=>r=Δ (cU k a b)/\Ext w I:=by
 refine aB func143 ?_;refine(show al x8 J8 [Δ a,Δ b,Δ k] w λr I=>(∃q,r= .tuple #[Δ (cU k a b),q])/\Ext w I from ?_).Y ?_
 .refine aB func211 ?_;unfold cU;rw[bk,ak];refine⟨λh=>⟨⟨_,by rw[m3 h]⟩,Ext.refl _⟩,λh=>?_⟩;rw[dp,li Ω Ω,nh,m5 h];exact⟨⟨_,rfl⟩,Ext.refl _⟩
 .rintro _ U _ ⟨⟨q,rfl⟩,e⟩;rw[bu,bw];exact⟨rfl,e⟩
end
def dw(w:x4)(ad ae an:Nat)(A R:ah)(A9:Nat->ah)(aE:ah)(n:aI)(s:am)(t:aw)(h:List aw)(u:am)(I:x4):Prop:=af (λr=>(∃q,A9 q r)\/r=an) w I/\∃cq cs,cf I ad ae an A R cq aE n s u t h cs/\∀q r,cq q r->(∃a,A9 a r)\/w.heap.size<=r
section
variable{w I U aa:x4}{ad ae an:Nat}{A R:ah}{A9:Nat->ah}{aE:ah}{n:aI}{s u e4 fh:am}{t:aw}{h:List aw}{cs:List x1}
theorem dw.same(p:cf w ad ae an A R A9 aE n s u t h cs)(a:Ext w I):dw w ad ae an A R A9 aE n s t h u I:=⟨a.V _,A9,cs,p.W a,λq r h=>.inl ⟨q,h⟩⟩
theorem dw.comp{cq:Nat->ah}(e:af (λr=>(∃q,A9 q r)\/r=an) w U)(f:∀q r,cq q r->(∃a,A9 a r)\/w.heap.size<=r)(d:dw U ad ae an A R cq aE n s t h fh aa):dw w ad ae an A R A9 aE n s t h fh aa:=by
 obtain⟨p,x,cd,y,B⟩:=d;have z:=e.size;refine⟨?_,x,cd,y,λq r j=>(B q r j).elim (λ⟨a,h⟩=>f a r h) λh=>.inr Ω⟩;refine((e.Y λr _ h=>.inl h).F (p.Y λr _ h=>?_):af (λr=>((∃q,A9 q r)\/r=an)\/w.heap.size<=r) w aa).Y λr j h=>h.elim id λh=>Ω
 rcases h with⟨q,h⟩|h
 .exact (f q r h).imp .inl id
 .exact .inl (.inr h)
def kO(w:x4)(ad ae an:Nat)(A R:ah)(A9:Nat->ah)(aE:ah)(n:aI)(s:am)(t:aw)(h:List aw)(u:am)(I:x4):Prop:=af (A9 2) w I/\∃cq cs,cf I ad ae an A R cq aE n s u t h cs/\(∀q r,cq q r->(∃a,A9 a r)\/w.heap.size<=r)/\∀r,cq 2 r->A9 2 r\/w.heap.size<=r
theorem kO.F6(d:kO w ad ae an A R A9 aE n s t h u I):dw w ad ae an A R A9 aE n s t h u I:=by
 obtain⟨h1,cq,cs,a,e,_⟩:=d;exact⟨h1.Y λr _ h=>.inl ⟨2,h⟩,cq,cs,a,e⟩
theorem kO.same(p:cf w ad ae an A R A9 aE n s u t h cs)(a:Ext w I):kO w ad ae an A R A9 aE n s t h u I:=⟨a.V _,A9,cs,p.W a,λq r h=>.inl ⟨q,h⟩,λr h=>.inl h⟩
theorem kO.comp{cq:Nat->ah}(f:af (A9 2) w U)(p:∀q r,cq q r->(∃e,A9 e r)\/w.heap.size<=r)(j:∀r,cq 2 r->A9 2 r\/w.heap.size<=r)(d:kO U ad ae an A R cq aE n s t h fh aa):kO w ad ae an A R A9 aE n s t h fh aa:=by
 obtain⟨x,y,cd,B,C,E⟩:=d;have z:=f.size;refine⟨?_,y,cd,B,λq r a=>(C q r a).elim (λ⟨e,h⟩=>p e r h) λh=>.inr Ω,λr a=>(E r a).elim (j r) λh=>.inr Ω⟩;exact((f.Y λr _ h=>.inl h).F (x.Y λr _ h=>j r h):af (λr=>A9 2 r\/w.heap.size<=r) w aa).Y λr a h=>h.elim id λh=>Ω
theorem cf.Sf{T:ah}{v:x1}{u':am}(p:cf w ad ae an A R A9 aE n s u t h cs)(z:∀q r,A9 q r->r<w.heap.size)(C:cs[5]?=σ v)(e:af T w I)(f:∀r,r<w.heap.size->T r->A9 2 r)(E:bJ (λr=>A9 2 r\/w.heap.size<=r) aE I [v] (u'.d6.map (·.un)))(F:u'.zero=u.zero)(G:u'.d6.map aC=u.d6.map aC)(H:(u'.d6.map λx=>decide (x.gone≠0))=u.d6.map λx=>decide (x.gone≠0))(J:u'.d7=u.d7)(K:u'.dc=u.dc):
  ∃cq,cf I ad ae an A R cq aE n s u' t h cs/\(∀q r,cq q r->(∃L,A9 L r)\/w.heap.size<=r)/\∀r,cq 2 r->A9 2 r\/w.heap.size<=r:=by
 have M:=ce.l2 p.doc (yP e) (λr a=>.inl (f r a.2 a.1)) E (λj r N a=>?_) (λr a=>?_)
 .have y:=yQ (w:=w) (B:=λr=>A9 2 r\/w.heap.size<=r) λr h=>h;refine⟨_,p.row e f ?_ y,y,λr a=>a⟩;have:=ce.rH C M;unfold jQ;rw[F,G,H,J,K];exact this
 .rcases a with a|a
  .exact p.gX.1 2 j r (Ne.symm N) a
  .exact λh=>by have:=z j r h;omega
 .rcases a with a|a
  .exact p.gX.2 2 r a
  .exact λh=>by have:=(p.read r h).2.1;omega
theorem y6(p:cf w ad ae an A R A9 aE n s u t h cs){i:Nat}{x:bz}(B:u.d6[i]?=σ x):∃g cap y,cs[5]?=σ (.slice (σ ⟨g,0,ν⟩) u.d6.length cap)/\w.cell? ⟨g,i,ν⟩=σ y/\aM .i64 w y x.un/\
  ∀{I:x4}{v:Nat}{c:Int}{K:Unit->x4->Prop},Ext w I->v<x.un.length->(∀H,kO w ad ae an A R A9 aE n s t h (eY u i x (x.un.set v c)) H->K () H)->
   ab x8 (Z0 ax y (Δ (v:Int))) I λa=>aH x8 (n9 au a (Δ c)) I K:=by
 have J:=p.olds;obtain⟨d9,ak,al,am,ao,ap,L,_,_,_,M,_,_,C⟩:=id J.doc;obtain⟨g,cap,c,aq,e,S,N,aw,_⟩:=vr M (by rw[v8,B];rfl) λr _ h=>(C rfl).2 2 r h;obtain⟨y,rfl⟩:=V6.1 (av.len N);have O:w.cell? ⟨g,i,ν⟩=σ y:=by
  have:=S 0 y rfl;simpa[show av.n (Λ)=1 from rfl]using this
 rw[u9]at e;refine⟨g,cap,y,by rw[L,<-e];rfl,O,dQ (ky N),λ{I v c K}j U W=>?_⟩;have X:=J.W j;have z:=j.size;obtain⟨ay,az,aA,aB,P,Y,Q,E,Z⟩:=vr (bS M j) (by rw[v8,B];rfl) λr _ h=>(C rfl).2 2 r h;obtain⟨F,rfl⟩:=V6.1 (av.len Q);rw[u9,e]at P;cases P;have aa:F=y:=by
  have h1:=Y 0 F rfl;have h1:I.cell? ⟨g,i,ν⟩=σ F:=by simpa[show av.n (Λ)=1 from rfl]using h1
  rw[j2 j O]at h1;exact(Z6 h1).symm
 subst aa;refine FD rfl rfl ax.u au.i Q U rfl rfl (λr _ f=>⟨λh=>h,(C rfl).2 2 r (E r f)⟩) λaD G ac=>?_;have af:=Z G (λr _ h=>h) ac λr f=>f.elim .inl False.elim;obtain⟨cq,ag,ah,ai⟩:=X.Sf (u':=eY u i x (x.un.set v c)) (λq r h=>by have:=h.2;omega) (by rw[L];rfl) G (λr _ h=>E r h) (by show bJ _ _ _ _ ((u.d6.set i {x with un:=x.un.set v c}).map (·.un));rw[T2];exact af) rfl (qS B (by unfold aC;simp)) (qS B rfl) rfl rfl;refine W _ ⟨(j.V _).F (G.Y λr _ h=>(E r h).1),cq,cs,ag,λq r f=>?_,λr f=>?_⟩
 .rcases ah q r f with⟨aj,h⟩|h
  .exact .inl ⟨aj,h.1⟩
  .exact .inr Ω
 .exact (ai r f).imp (λh=>h.1) λh=>Ω
theorem Sg(p:cf w ad ae an A R A9 aE n s u t h cs){f:ch}(N:u.d7[j]?=σ f):∃g cap C L y,cs[6]?=σ (.slice (σ ⟨g,0,ν⟩) u.d7.length cap)/\w.rangeAt g (j*4) [C,L,y,.bool (decide (f.live≠0))]/\aM .i64 w C f.sc/\aM .i64 w y f.cs/\
  ∀{I:x4}{m:Nat}{c:Int}{K:Unit->x4->Prop},Ext w I->m<f.cs.length->(∀O,dw w ad ae an A R A9 aE n s t h (eu u j f (f.cs.set m c)) O->K () O)->
   ab x8 (Z0 ax y (Δ (m:Int))) I λa=>aH x8 (n9 au a (Δ c)) I K:=by
 have P:=p.olds;obtain⟨d9,ay,az,aA,aB,aC,Q,_,_,_,_,S,_,E⟩:=id P.doc;obtain⟨g,cap,c,aD,e,F,X,aF,_⟩:=vr S (by rw[v8,N];rfl) λr _ h=>(E rfl).2 3 r h;have Y:=oy X;obtain⟨C,L,y,rfl,Z,aG,aa⟩:=Y;rw[u9]at e;have F:=F;refine⟨g,cap,C,L,y,by rw[Q,<-e];rfl,F,dQ Z,dQ aa,λ{I m c K}x hm ac=>?_⟩;have af:=P.W x;have z:=x.size;obtain⟨aI,aJ,aK,aL,U,M,ag,G,ah⟩:=vr (bS S x) (by rw[v8,N];rfl) λr _ h=>(E rfl).2 3 r h;rw[u9,e]at U;cases U;obtain⟨aN,aO,W,aP,rfl,ai,H,aj⟩:=Ry ag λr h=>(E rfl).2 3 r (G r h);have M:=M;have ak:W=y:=by
  have h1:=M 2 W rfl;rw[(o0 x F) 2 y rfl]at h1;exact(Z6 h1).symm
 subst ak;refine FD rfl rfl ax.u au.i ai hm rfl rfl (λr _ B=>⟨λh=>h,(E rfl).2 3 r (G r (H r B))⟩) λaQ J al=>?_;have am:=aj J (av.Y al (λr _ h=>h.elim id False.elim) λ_ _ h=>h);have ao:=ah J (λr _ h=>H r h) am λr B=>.inl B;obtain⟨cq,ap,aq⟩:=af.Rw (u':=eu u j f (f.cs.set m c)) (λq r h=>by have:=h.2;omega) (by rw[Q];rfl) J (λr _ h=>G r (H r h)) (by show bJ _ _ _ _ ((u.d7.set j {f with cs:=f.cs.set m c}).map km);rw[T2];exact ao) rfl rfl rfl;refine ac _ ⟨(x.V _).F (J.Y λr _ h=>.inl ⟨3,(G r (H r h)).1⟩),cq,cs,ap,λq r B=>?_⟩;rcases aq q r B with⟨aw,h⟩|h
 .exact .inl ⟨aw,h.1⟩
 .exact .inr Ω
theorem Sh(p:cf w ad ae an A R A9 aE n s u t h cs){K:Unit->x4->Prop}(f:∀e,dw w ad ae an A R A9 aE n s t h {u with zero:=c} e->K () e):aH x8 (n9 au (.pointer (σ ⟨an,0+2,ν⟩)) (Δ c)) w K:=by
 refine bq (o:=0+2) au.i rfl rfl p.box (by rw[p.doc.len.1];omega) λaa a x j=>?_;refine f _ ⟨a.Y λr _ h=>.inr h,A9,_,p.FH a (λr _ h=>.inr h) j ?_ λq r h=>.inl ⟨q,h⟩,λq r h=>.inl ⟨q,h⟩⟩;exact(ce.V p.doc a λr _ h he=>h.elim (λ⟨q,h⟩=>(p.apart q r h).2.2 he) λh=>(p.read r h).2.2 he).Rj
theorem Si(p:cf w ad ae an A R A9 aE n s u t h cs){i:Nat}{x:bz}(B:u.d6[i]?=σ x):∃g cap y,cs[3]?=σ (.slice (σ ⟨g,0,ν⟩) u.d6.length cap)/\w.cell? ⟨g,i,ν⟩=σ y/\aM .i64 w y (aC x)/\(∀r,lc y r->A9 0 r)/\
  ∀{I:x4}{m:Int}{z:x1}{gz:Nat}{K:Unit->x4->Prop},Ext w I->aA .i64 aj I gz z (aC {x with mask:=m})->(∀r,lc z r->w.heap.size<=r)->(∀J,dw w ad ae an A R A9 aE n s t h {u with d6:=u.d6.set i {x with mask:=m}} J->K () J)->
   ab x8 (Z0 dn (.slice (σ ⟨g,0,ν⟩) u.d6.length cap) (Δ (i:Int))) I λa=>aH x8 (n9 aq a z) I K:=by
 have L:=p.olds;have Y:=(x5.1 B).1;obtain⟨d9,Z,aF,aG,aI,aJ,M,_,aa,_,_,_,_,ac⟩:=id L.doc;obtain⟨g,cap,full,ah,c,aK,e,C,ai,E,N,F,ak,aL,al⟩:=FI aa (by rw[v8,B];rfl) λr _ h=>(ac rfl).2 0 r h;obtain⟨y,rfl⟩:=V6.1 (av.len F);rw[u9]at e;have am:full[i]?=σ y:=by have:=N 0 y rfl;simpa[show av.n (Λ)=1 from rfl]using this
 refine⟨g,cap,y,by rw[M,<-e];rfl,by have:=C.cell am;exact this,dQ (ky F),λr f=>?_,λ{I m O gz K}G P Q ao=>?_⟩
 .obtain⟨aN,aO,ap,au⟩:=Bt F;rcases au with rfl|aw
  .obtain⟨_,_,_,e,_⟩:=f;cases e
  .obtain⟨e,_⟩:=bV ap f;rw[e];exact(ak _ aw).1
 have z:=G.size;have E:i*1+1<=full.length:=E;rw[fd dn.u aq.i Y λ_=>rfl];obtain⟨_,_,_,S⟩:=dr P.ls;refine bq (o:=0+i*1) aq.i (by rw[S];rfl) (by rw[S];rfl) (C.W G) Ω λU W aP j=>?_;have j:ag U g ah (over full (i*1) [O]):=by
  have e:=FJ (o:=i*1) (q:=0) (x:=O) N E Ξ;rw[W0]at j;rw[Nat.add_zero]at e;rw[e]at j;exact j
 have aQ:g<w.heap.size:=C.lt;have H:af (λr=>r=g) w U:=(G.V _).F W;have ax:=bs P W λr f he=>by have he:r=g:=he;have:=Q r f;omega
 have ay:=al H (λr _ h=>.inr h) j (ox ax) λr f=>.inr (Q r f);have X:∀r,r<w.heap.size->r=g->A9 0 r/\r<w.heap.size:=λr f h=>by rw[h];exact ai
 obtain⟨cq,az,aB⟩:=L.pQ (u':={u with d6:=u.d6.set i {x with mask:=m}}) (λq r h=>h.2) (v:=Z) (by rw[M];rfl) H X (by show bJ _ _ _ _ ((u.d6.set i {x with mask:=m}).map aC);rw[T2];exact ay) rfl (qS B rfl) (qS B rfl) rfl rfl;refine ao _ ⟨H.Y λr f h=>.inl ⟨0,(X r f h).1⟩,cq,cs,az,λq r f=>?_⟩;rcases aB q r f with⟨aD,h⟩|h
 .exact .inl ⟨aD,h.1⟩
 .exact .inr h
end
def gb(s:am)(sc:Λ)(pos:Int)(v:Int):Nat->Nat->Λ->List (Λ)
 |0,_,tl=>[tl]
 |m+1,p,tl=>if(p:Int)=pos then gb s sc pos v m (p+1) (tl.set p v)else(bb s (sc.getD p 0)).flatMap λx=>gb s sc pos v m (p+1) (tl.set p x)
theorem vz{α:Type}{l:List α}{p:Nat}{x:α}(h:p<l.length):(l.set p x).take (p+1)=l.take p++[x]:=by
 rw[r8,l9 h,List.take_set_of_le (p8 _)];rfl
theorem sQ{s:am}{sc:Λ}{pos:Nat}{v:Int}:∀(m p:Nat)(tl:Λ),sc.length=p+m->tl.length=sc.length->gb s sc pos v m p tl=(iB (jr s pos v (sc.drop p) p)).map (tl.take p++ ·)
 |0,p,tl,h1,a=>by
  rw[List.drop_eq_nil_of_le Ω,j5 Ω];unfold gb jr iB;rw[List.map_singleton,W5]
 |m+1,p,tl,h1,a=>by
  have ac:p<sc.length:=Ω
  obtain⟨u,hu⟩:=aF (l:=sc) ac;have f:sc.drop p=u::sc.drop (p+1):=by rw[X8 ac,(x5.1 hu).2]
  have h:sc.getD p 0=u:=by rw[u4,hu];rfl
  rw[f];unfold gb jr;rw[iB];by_cases e:p=pos
  .rw[m3 Ω,m3 e,List.flatMap_singleton,sQ m (p+1) (tl.set p v) Ω (by rw[o5];exact a),S5,vz Ω];refine List.map_congr_left λr _=>?_;simp
  .rw[m5 Ω,m5 e,h,List.map_flatMap];congr 1;funext x;rw[sQ m (p+1) (tl.set p x) Ω (by rw[o5];exact a),S5,vz Ω];refine List.map_congr_left λr _=>?_;simp
theorem Sj{s:am}{m p:Nat}(h1:sc.length=p+m)(e:tl.length=sc.length)(f:a.length=sc.length)(h:a.take p=tl.take p):gb s sc pos v m p a=gb s sc pos v m p tl:=by
 rw[sQ m p tl h1 e,sQ m p a h1 f,h]
theorem Sk{s:am}(h:tl.length=sc.length):gb s sc pos v sc.length 0 tl=bX s sc pos v:=by
 rw[sQ sc.length 0 tl Ω h];unfold bX;simp
def oE(w:x4)(ad gs bN ba bc:Nat)(aU:x1)(pos v:Int):Prop:=ag w gs dx [Γ ad]/\ag w bN aq [aU]/\ag w ba aj [Δ pos]/\ag w bc aj [Δ v]
theorem oE.V{S:ah}{gs bN ba bc:Nat}{pos:Int}(h:oE w ad gs bN ba bc aU pos v)(a:af S w I)(e:¬S gs/\¬S bN/\¬S ba/\¬S bc):oE I ad gs bN ba bc aU pos v:=
 ⟨h.1.V a e.1,h.2.1.V a e.2.1,h.2.2.1.V a e.2.2.1,h.2.2.2.V a e.2.2.2⟩
theorem oE.W{gs bN ba bc:Nat}{pos:Int}(h:oE w ad gs bN ba bc aU pos v)(a:Ext w I):oE I ad gs bN ba bc aU pos v:=h.V (a.V λ_=>False) ⟨id,id,id,id⟩
def gA(ad ae:Nat)(R:ah)(n:aI)(s:am)(gs bN ba bc:Nat)(aU:x1)(sc:Λ)(pos v:Int)(B0:Nat)(D:Nat->Prop)(w:x4):Prop:=
 oE w ad gs bN ba bc aU pos v/\(gs<B0/\bN<B0/\ba<B0/\bc<B0)/\aM .i64 w aU sc/\(∀r,lc aU r->r<B0)/\(Laid w/\B0<=w.heap.size)/\∃A s' bn,bt w ad ae A R n s' bn/\(∀i,bb s' i=bb s i)/\∀r,A r\/R r->r<B0\/D r
section
variable{ad ae gs bN ba bc B0:Nat}{R:ah}{n:aI}{s:am}{aU:x1}{sc:Λ}{pos v:Int}
theorem gA.W(h:gA ad ae R n s gs bN ba bc aU sc pos v B0 D w)(a:Ext w I):gA ad ae R n s gs bN ba bc aU sc pos v B0 D I:=by
 obtain⟨h1,f,j,p,e,A,s',bn,q,r,x⟩:=h;exact⟨h1.W a,f,j.W a,p,⟨e.1.W a,Y9 e.2 a.size⟩,A,s',bn,q.W a,r,x⟩
def lv(w:x4)(l gy gt gtb ga:Nat)(iD:Array x1)(q:Nat)(tl:Λ):Prop:=ag w gy Bb [.func (.yield l) #[] #[]]/\ag w gtb aq [.slice (σ ⟨gt,0,ν⟩) q q]/\ag w ga qc [.func (.func oY) #[] iD]/\
 aA .i64 aj w gt (.slice (σ ⟨gt,0,ν⟩) q q) tl
theorem lv.V{S:ah}{l q:Nat}{iD:Array x1}(h:lv w l gy gt gtb ga iD q tl)(f:af S w I)(j:¬S gy/\¬S gtb/\¬S ga/\¬S gt):lv I l gy gt gtb ga iD q tl:=
 ⟨h.1.V f j.1,h.2.1.V f j.2.1,h.2.2.1.V f j.2.2.1,bs h.2.2.2 f λr p=>by
  obtain⟨a,_,_,e,s⟩:=p;cases e;rw[<-s];exact j.2.2.2⟩
theorem lv.W{l q:Nat}{iD:Array x1}(h:lv w l gy gt gtb ga iD q tl)(a:Ext w I):lv I l gy gt gtb ga iD q tl:=h.V (a.V λ_=>False) ⟨id,id,id,id⟩
theorem Sl(J:aM .i64 w aU sc):al x8 A1 [Γ ad,aU,Δ pos,Δ v] w λr I=>Ext w I/\∃gs bN ba bc,r= .func (.func nd) #[] #[Γ bN,Γ ba,Γ bc,Γ gs]/\oE I ad gs bN ba bc aU pos v/\w.heap.size<=gs/\w.heap.size<=bN/\w.heap.size<=ba/\w.heap.size<=bc:=by
 obtain⟨_,_,_,x⟩:=dr J;refine aB func213 ?_;refine bo λgs U z q h=>?_;refine bo λbN aa A j a=>?_;refine bo λba B C e p=>?_;refine bo λbc s E f y=>?_;have h:ag s gs dx [Γ ad]:=((ag.W h j).W e).W f;have a:ag s bN aq [aU]:=by rw[x]at a ⊢;exact(ag.W a e).W f
 have p:=ag.W p f;rw[lK];have G:=q.size;have H:=j.size;have z3:=e.size;exact⟨((q.F j).F e).F f,gs,bN,ba,bc,rfl,⟨h,a,p,y⟩,Ω,Ω,Ω,Ω⟩
theorem gA.own{S:ah}(h:gA ad ae R n s gs bN ba bc aU sc pos v B0 D w)(j:af S w I)(q:∀r,S r->B0<=r/\¬D r):gA ad ae R n s gs bN ba bc aU sc pos v B0 D I:=by
 obtain⟨h1,f,C,x,y,A,s',bn,z,E,B⟩:=h;have no:∀{r:Nat},r<B0->¬S r:=λh1 f=>by have:=(q _ f).1;omega
 refine⟨h1.V j ⟨no f.1,no f.2.1,no f.2.2.1,no f.2.2.2⟩,f,jk C j λr p a n c e F=>?_,x,⟨?_,Y9 y.2 j.size⟩,A,s',bn,⟨z.1.V j λr _ p J=>?_,z.2⟩,E,B⟩
 .exact no (x r ⟨a,n,c,e,F⟩) p
 .exact iu j (no Ω) y.1
 .exact (B r p).elim (λh=>no h J) (q r J).2
def Sm(P:(Nat->Prop)->x4->Prop)(ay:(Nat->Prop)->Nat->x4->Prop)(L:List (Λ))(l B:Nat):Prop:=∀(D:Nat->Prop)(k:Nat)tl aS I,(∀r,D r->B<=r/\r<I.heap.size)->B<=I.heap.size->P D I->L[k]?=σ tl->aM .i64 I aS tl->ay D k I->
 jf x8 l [aS] I λu a=>u= .bool ro/\(∃D',(∀r,D' r->D r\/I.heap.size<=r/\r<a.heap.size)/\(∀r,D r->D' r)/\P D' a/\ay D' (k+1) a)/\cN I a/\I.heap.size<=a.heap.size/\af (λr=>r<B\/D r) I a
def sR(D:Nat->Prop)(B gy gtb ga gt:Nat):Prop:=(B<=gy/\¬D gy)/\(B<=gtb/\¬D gtb)/\(B<=ga/\¬D ga)/\B<=gt/\¬D gt
theorem sR.go{D':Nat->Prop}{m bP:Nat}(h:sR D B gy gtb ga gt)(a:∀r,D' r->D r\/m<=r/\r<bP)(hm:gy<m/\gtb<m/\ga<m/\gt<m):sR D' B gy gtb ga gt:=
 have f:∀{g:Nat},g<m->¬D g->¬D' g:=λh1 e j=>(a _ j).elim e λh=>Ω
 ⟨⟨h.1.1,f hm.1 h.1.2⟩,⟨h.2.1.1,f hm.2.1 h.2.1.2⟩,⟨h.2.2.1.1,f hm.2.2.1 h.2.2.1.2⟩,h.2.2.2.1,f hm.2.2.2 h.2.2.2.2⟩
theorem lv.lt{l q:Nat}{iD:Array x1}(h:lv w l gy gt gtb ga iD q tl):gy<w.heap.size/\gtb<w.heap.size/\ga<w.heap.size/\gt<w.heap.size:=
 ⟨h.1.lt,h.2.1.lt,h.2.2.1.lt,(bV h.2.2.2 ⟨_,_,_,rfl,rfl⟩).2⟩
def AtR(l gy gt gtb ga:Nat)(iD:Array x1)(P:(Nat->Prop)->x4->Prop)(ay:(Nat->Prop)->Nat->x4->Prop)(S:ah)(D:Nat->Prop)(w:x4)(sl k p:Nat)(tl:Λ)(I:x4):Prop:=
 w.heap.size<=I.heap.size/\∃D' a,a.length=sl/\a.take p=tl.take p/\lv I l gy gt gtb ga iD sl a/\((∀r,D' r->D r\/w.heap.size<=r/\r<I.heap.size)/\∀r,D r->D' r)/\P D' I/\ay D' k I/\af S w I
section
variable{l gy gt gtb ga B:Nat}{iD:Array x1}{P:(Nat->Prop)->x4->Prop}{ay:(Nat->Prop)->Nat->x4->Prop}{S T:ah}{D:Nat->Prop}{w U aa:x4}{sl k p:Nat}{tl:Λ}
theorem AtR.own(s:∀D T U aa,af T U aa->(∀r,T r->B<=r/\¬D r)->P D U->P D aa)(x:∀D k U aa,af (λr=>B<=r/\¬D r) U aa->fM B U aa->ay D k U->ay D k aa)(h:AtR l gy gt gtb ga iD P ay S D w sl k p tl U)(e:af T U aa)(y:fM B U aa)(a:∀r,T r->r<w.heap.size/\¬D r/\B<=r/\S r/\r≠gy/\r≠gtb/\r≠ga/\r≠gt):AtR l gy gt gtb ga iD P ay S D w sl k p tl aa:=by
 obtain⟨z,D',A,h1,C,E,⟨j,F⟩,G,H,I⟩:=h;have q:∀r,T r->B<=r/\¬D' r:=λr f=>⟨(a r f).2.2.1,λJ=>(j r J).elim (a r f).2.1 λh=>by have:=(a r f).1;omega⟩;exact⟨Y9 z e.size,D',A,h1,C,E.V e ⟨λh=>(a _ h).2.2.2.2.1 rfl,λh=>(a _ h).2.2.2.2.2.1 rfl,λh=>(a _ h).2.2.2.2.2.2.1 rfl,λh=>(a _ h).2.2.2.2.2.2.2 rfl⟩,
  ⟨λr f=>(j r f).imp id λh=>⟨h.1,S3 h.2 e.size⟩,F⟩,s D' T U aa e q G,x D' k U aa (e.Y λr _ h=>q r h) y H,I.F (e.Y λr _ h=>(a r h).2.2.2.1)⟩
theorem AtR.base{w0:x4}(h:AtR l gy gt gtb ga iD P ay S D w sl k p tl U)(a:Ext w0 w)(e:∀r,r<w0.heap.size->S r->T r):AtR l gy gt gtb ga iD P ay T D w0 sl k p tl U:=by
 obtain⟨f,D',j,h1,q,s,⟨x,y⟩,z,A,B⟩:=h;exact⟨Y9 a.size f,D',j,h1,q,s,⟨λr C=>(x r C).imp id λh=>⟨Y9 a.size h.1,h.2⟩,y⟩,z,A,((a.V S).F B).Y e⟩
theorem AtR.comp{a:Nat->Prop}{j:Λ}{x:Int}(f:∀r,r<B\/D r\/r=gt->S r)(q:∀r,a r->D r\/w.heap.size<=r/\r<U.heap.size)(y:∀r,D r->a r)(s:af S w U)(z:j.take p=tl.take p)(h:AtR l gy gt gtb ga iD P ay (λr=>r<B\/a r\/r=gt) a U sl k (p+1) (j.set p x) aa):AtR l gy gt gtb ga iD P ay S D w sl k p tl aa:=by
 obtain⟨A,D',C,h1,E,F,⟨G,H⟩,I,K,L⟩:=h;have J:=s.size;refine⟨Y9 J A,D',C,h1,?_,F,⟨λr e=>?_,λr e=>H r (y r e)⟩,I,K,?_⟩
 .have:=congrArg (List.take p) E;rw[List.take_take,List.take_take,Q6 Ω,List.take_set_of_le (p8 _)]at this;rw[this,z]
 .rcases G r e with h|h
  .exact (q r h).imp id λh=>⟨h.1,Ω⟩
  .exact .inr ⟨Ω,h.2⟩
 .refine ((s.Y λr _ h=>.inl h).F (L.Y λr _ h=>?_):af (λr=>S r\/w.heap.size<=r) w aa).Y λr e h=>h.elim id λh=>Ω
  rcases h with h|h|h
  .exact .inl (f r (.inl h))
  .exact (q r h).elim (λh=>.inl (f r (.inr (.inl h)))) λh=>.inr h.1
  .exact .inl (f r (.inr (.inr h)))
end
theorem Sn{α β:Type}{l:List α}{a:α->List β}{i:Nat}{y:α}{z:β}(h:l[j]?=σ y)(hi:(a y)[i]?=σ z):(l.flatMap a)[((l.take j).flatMap a).length+i]?=σ z:=by
 have f:=(x5.1 h).1;have e:l=l.take j++y::l.drop (j+1):=by
  conv=>lhs;rw[<-List.take_append_drop j l,X8 f,(x5.1 h).2]
 conv=>lhs;rw[e,List.flatMap_append,W9]
 have p:=(x5.1 hi).1;have el:((l.take j++y::l.drop (j+1)).take j)=l.take j:=by rw[List.take_append_of_le_length (by rw[o8];omega),List.take_take,Nat.min_self]
 rw[el,Z7 Ω,R2,Y2 p];exact hi
theorem Sp{t:p9}{b o:Nat}{x:x1}(a:k2 x8 t=ro)(h:w.cell? ⟨b,o,ν⟩=σ x):ab x8 (do loadVar t (<-asAddr (.pointer (σ ⟨b,o,ν⟩)))) w K=K x:=ab.of λI e=>by
 have aW:=j2 e h;unfold k2 at a;cases hu:x8.underlying t with
 |none=>rw[hu]at a;cases a
 |some d=>
  rw[hu]at a;cases d<;>first|(cases a;done)|simp[asAddr,loadVar,isAgg,run_underlying hu,aW]
def mP(bN gy gtb ba bc ga gs:Nat):Array x1:=#[Γ bN,Γ gy,Γ gtb,Γ ba,Γ bc,Γ ga,Γ gs]
def vA(p:Nat)(bN gy gtb ba bc ga gs:Nat):List x1:=[Δ (p:Int),Γ bN,Γ gy,Γ gtb,Γ ba,Γ bc,Γ ga,Γ gs]
theorem Sq{l:Nat}{ay:(Nat->Prop)->Nat->x4->Prop}(bW:0<=pos)(bX:∀u∈sc,0<=u/\u<n.co.length)(c1:sc.length<=6)(bY:B0<=B)(ac:gt≠gy/\gt≠gtb/\gt≠ga)(Q:∀D k U aa,af (λr=>B<=r/\¬D r) U aa->fM B U aa->ay D k U->ay D k aa)(bZ:Sm (gA ad ae R n s gs bN ba bc aU sc pos v B0) ay L l B):
  ∀(q p:Nat)(tl:Λ)(k:Nat)(D:Nat->Prop)(w:x4),sc.length=p+q->tl.length=sc.length->(∀r,D r->B<=r/\r<w.heap.size)->B<=w.heap.size->sR D B gy gtb ga gt->lv w l gy gt gtb ga (mP bN gy gtb ba bc ga gs) sc.length tl->gA ad ae R n s gs bN ba bc aU sc pos v B0 D w->ay D k w->
   (∀i x,(gb s sc pos v q p tl)[i]?=σ x->L[k+i]?=σ x)->
   al x8 oY (vA p bN gy gtb ba bc ga gs) w λr I=>r= .bool ro/\AtR l gy gt gtb ga (mP bN gy gtb ba bc ga gs) (gA ad ae R n s gs bN ba bc aU sc pos v B0) ay (λr=>r<B\/D r\/r=gt) D w sc.length (k+(gb s sc pos v q p tl).length) p tl I:=by
 obtain⟨a,rfl⟩:=V3 bW;have ah:∀D T U aa,af T U aa->(∀r,T r->B<=r/\¬D r)->gA ad ae R n s gs bN ba bc aU sc a v B0 D U->gA ad ae R n s gs bN ba bc aU sc a v B0 D aa:=λD T U aa aS bp h=>h.own aS λr z=>⟨Y9 bY (bp r z).1,(bp r z).2⟩;have aT:∀{N:x4}{K:x1->Prop},ag N bN aq [aU]->K aU->ab x8 (u5 aq (Γ bN)) N K:=λaV aW=>by rw[aD Ψ (aV.cell rfl)];exact aW
 have a1:∀{a2 p:Nat}{tl:Λ}{D:Nat->Prop}{w aa N:x4}{f:Nat}{b:Bool},Ext w aa->w.heap.size<=f->f<aa.heap.size->(∀r,D r->B<=r/\r<w.heap.size)->B<=w.heap.size->(gy<w.heap.size/\gtb<w.heap.size/\ga<w.heap.size/\gt<w.heap.size)->
   AtR l gy gt gtb ga (mP bN gy gtb ba bc ga gs) (gA ad ae R n s gs bN ba bc aU sc a v B0) ay (λr=>r<B\/D r\/r=gt\/r=f) D aa sc.length a2 p tl N->ag N f ed [.bool b]->
   aH x8 (n9 ed (Γ f) (.bool ro)) N λ(_:Unit)a6=>ab x8 (do loadVar ed (<-asAddr (Γ f))) a6 λr=>wa w.heap.size a6 λbr=>r= .bool ro/\AtR l gy gt gtb ga (mP bN gy gtb ba bc ga gs) (gA ad ae R n s gs bN ba bc aU sc a v B0) ay (λr=>r<B\/D r\/r=gt) D w sc.length a2 p tl br:=by
  intro a2 p tl D w aa N f b H bs ai C am ap a7 a8;have b0:∀r,r=f->r<aa.heap.size/\¬D r/\B<=r/\(r<B\/D r\/r=gt\/r=f)/\r≠gy/\r≠gtb/\r≠ga/\r≠gt:=by
   rintro r rfl;exact⟨ai,λh=>by have:=(C _ h).2;omega,Ω,.inr (.inr (.inr rfl)),Ω,Ω,Ω,Ω⟩
  refine aH.cu (bq ed.i rfl rfl a8 Ξ λa6 b1 c2 bd b2=>?_);have bd:=bd;have b3:=a7.own ah Q b1 b2.o b0;rw[Sp Ψ (bd.cell rfl)];intro br b4 b5;refine⟨rfl,((b3.own ah Q (b4.V λ_=>False) (b5.2.Y am) λ_ h=>h.elim).base H λr z h=>?_)⟩;rcases h with h|h|h|h
  .exact .inl h
  .exact .inr (.inl h)
  .exact .inr (.inr h)
  .omega
 intro q;induction q with
 |zero=>
  intro p tl k D w b6 au C am E av be bf aw;refine iK func262 ?_;refine aH.cu (bo λg1 U b7 ax G bg=>?_);refine aH.cu (bB ed.i λf aa bs X O bh=>?_);have H:=ax.F X;have b8:=ax.size;have b9:=X.size;have G:=ag.W G X;have O:=O;have ai:=O.lt;have aI:=Q D k w aa (H.V _) (bg.F bh).o bf;have M:=be.W H;have J:=av.W H;rw[aD Ψ (G.cell rfl)];refine aT M.1.2.1 ?_;rw[aY aq.u M.2.2.1,bk,ak];refine⟨λ_=>?_,λh=>m6 Ω h⟩;rw[aD Ψ (J.1.cell rfl),aD Ψ (J.2.1.cell rfl)];have ca:=aw 0 tl rfl;refine(show jf x8 l [.slice (σ ⟨gt,0,ν⟩) sc.length sc.length] aa _ from jf.Y (bZ D k tl _ aa (λr z=>⟨(C r z).1,by have:=(C r z).2;omega⟩) Ω M ca J.2.2.2.ls aI) ?_);rintro _ cb ⟨rfl,⟨D',d1,d2,cc,cd⟩,ce,cf,bj⟩;refine⟨ce,?_⟩;have ap:=av.lt;have aJ:∀{g:Nat},w.heap.size<=g->¬D g:=λh1 az=>by have:=(C _ az).2;omega
  have aA:∀{g:Nat},B<=g->¬D g->¬(g<B\/D g):=λh1 az cg=>cg.elim Ω az;have a8:=O.V bj (aA Ω (aJ Ω));have a7:AtR l gy gt gtb ga (mP bN gy gtb ba bc ga gs) (gA ad ae R n s gs bN ba bc aU sc a v B0) ay (λr=>r<B\/D r\/r=gt\/r=f) D aa sc.length (k+1) p tl cb:=
   ⟨cf,D',tl,au,rfl,J.V bj ⟨aA E.1.1 E.1.2,aA E.2.1.1 E.2.1.2,aA E.2.2.1.1 E.2.2.1.2,aA E.2.2.2.1 E.2.2.2.2⟩,⟨d1,d2⟩,cc,cd,bj.Y λr _ h=>h.imp id .inl⟩
  exact a1 H Ω ai C am ap a7 a8
 |succ q bt=>
  intro p tl k D w b6 au C am E av be bf aw;refine iK func262 ?_;refine aH.cu (bo λg1 U b7 ax G bg=>?_);refine aH.cu (bB ed.i λf aa bs X O bh=>?_);have H:=ax.F X;have b8:=ax.size;have b9:=X.size;have G:=ag.W G X;have O:=O;have ai:=O.lt;have h1:=G.lt;have aI:=Q D k w aa (H.V _) (bg.F bh).o bf;have M:=be.W H;have J:=av.W H;have ap:=av.lt;have aJ:∀{g:Nat},w.heap.size<=g->¬D g:=λh1 az=>by have:=(C _ az).2;omega
  rw[aD Ψ (G.cell rfl)];refine aT M.1.2.1 ?_;rw[aY aq.u M.2.2.1,bk,ak];refine⟨λh=>m6 h Ω,λ_=>?_⟩;rw[aD Ψ (G.cell rfl),aD Ψ (M.1.2.2.1.cell rfl),bk,ak];have bu:∀{N:x4}{K:x1->Prop},ag N gtb aq [.slice (σ ⟨gt,0,ν⟩) sc.length sc.length]->K (.slice (σ ⟨gt,0,ν⟩) sc.length sc.length)->ab x8 (u5 aq (Γ gtb)) N K:=λaV aW=>by rw[aD Ψ (aV.cell rfl)];exact aW
  have aK:∀{D:Nat->Prop}(r:Nat),sR D B gy gtb ga gt->r=gt->B<=r/\¬D r:=λr h e=>e▸⟨h.2.2.2.1,h.2.2.2.2⟩;refine⟨λhe=>?_,λch=>?_⟩
  .refine bu J.2.1 ?_;rw[aD Ψ (G.cell rfl),aD Ψ (M.1.2.2.2.cell rfl),jB rfl aq.u aj.i J.2.2.2 Ω];refine aH.cu (jC aj.i J.2.2.2 Ω λaL W c3 ci cj=>?_);have bw:lv aL l gy gt gtb ga (mP bN gy gtb ba bc ga gs) sc.length (tl.set p v):=⟨J.1.V W λh=>ac.1 h.symm,J.2.1.V W λh=>ac.2.1 h.symm,J.2.2.1.V W λh=>ac.2.2 h.symm,ci⟩;have ck:=ah D _ _ _ W (λr h=>aK r E h) M;have cl:=Q D k aa aL (W.Y λr _ h=>aK r E h) cj.o aI;have cm:=G.V W Ω;have cn:=O.V W Ω;rw[aD Ψ (bw.2.2.1.cell rfl),aD Ψ (cm.cell rfl),aO,li Ω Ω];have hw:gb s sc a v (q+1) p tl=gb s sc a v q (p+1) (tl.set p v):=by rw[gb,m3 he]
   rw[hw];rw[hw]at aw;refine(show al x8 oY (vA (p+1) bN gy gtb ba bc ga gs) aL _ from al.Y (bt (p+1) (tl.set p v) k D aL Ω (by rw[o5];exact au) (λr z=>⟨(C r z).1,by have:=(C r z).2;omega⟩) Ω E bw ck cl aw) ?_);rintro _ cp c4 ⟨rfl,bx⟩;have cq:ag cp f ed [.bool rs]:=by
    obtain⟨_,_,_,_,_,_,_,_,_,cr⟩:=bx;exact cn.V cr λh=>by
     rcases h with h|h|h
     .omega
     .exact aJ Ω h
     .omega
   exact a1 H Ω ai C am ap (AtR.comp (λr h=>h.imp id λh=>h.imp id .inl) (λr h=>.inl h) (λ_ h=>h) (W.Y λr _ h=>.inr (.inr (.inl h))) rfl bx) cq
  intro c5 aM _ ct;have aN:=M.W aM;obtain⟨A,s',bn,bz,cw,c6⟩:=id aN.2.2.2.2.2;obtain⟨u,hu⟩:=aF (l:=sc) (i:=p) Ω;obtain⟨cz,c7⟩:=bX u (x6 hu);have c8:=bz.2.2.2.1.d6;obtain⟨x,bA⟩:=aF (l:=s'.d6) (i:=u.toNat) Ω;rw[aD Ψ (aN.1.1.cell rfl)];refine aT aN.1.2.1 ?_;rw[aD Ψ ((G.W aM).cell rfl),bi aq.u aj.i Ψ aN.2.2.1 hu];refine(jP (i:=u) bz).Y ?_;rintro _ c9 cA ⟨⟨b,da,rfl,bD⟩,bE⟩;refine(ns).Y ?_;rintro _ aP cB ⟨cC,bF,rfl,db,bG⟩;have bH:=ln bD cz bA;have cD:bb s (sc.getD p 0)=aC x:=by
   rw[<-cw,u4,hu,V9];unfold bb;rw[bA]
  have bI:gb s sc a v (q+1) p tl=(aC x).flatMap λy=>gb s sc a v q (p+1) (tl.set p y):=by rw[gb,m5 ch,cD]
  have Y:=(aM.F bE).F cC;have cE:=(ct.F cA).F cB;have z12:=Y.size;have dc:=(aM.F bE).size;have dd:=bG.lt;have bJ:B<=aP.heap.size:=Ω
  have cF:=Q D k aa aP (Y.V _) cE.o aI;have bK:=M.W Y;have bL:=J.W Y;refine⟨Nat,rs,rs,jX,#[Γ bF],0,_,_,λ_=>_,λ_ j I=>AtR l gy gt gtb ga (mP bN gy gtb ba bc ga gs) (gA ad ae R n s gs bN ba bc aU sc a v B0) ay (λr=>r<B\/D r\/r=gt) D aP sc.length (k+(((aC x).take j).flatMap λy=>gb s sc a v q (p+1) (tl.set p y)).length) p tl I/\ag I g1 aj [Δ (p:Int)]/\ag I f ed [.bool rs],
   λ_ _ _ _=>False,rfl,(nr (g:=bF) bD.1).s.x,?_,λ_ _ _ an h=>⟨h.1.W an,h.2.W an⟩,?_,λ_ _ _ _ _ _ _ h=>h,⟨bG,bK.2.2.2.2.1.1⟩,?_,?_,?_,λ_ _ _ h=>h.elim,λ_ _ _ _ h=>h.elim⟩
  .rintro _ _ _ _ ⟨_,_,_,_,rfl⟩;rfl
  .rintro _ j de df aS cG ⟨Z,aB,P⟩;have an:=aS.W λ_ _ h=>nomatch h.1;exact⟨Z.own ah Q (an.V λ_=>False) (cG.Y bJ) λ_ h=>h.elim,aB.W an,P.W an⟩
  .exact⟨⟨p8 _,D,tl,au,rfl,bL,⟨λ_ h=>.inl h,λ_ h=>h⟩,bK,by simpa using cF,af.refl _ _⟩,G.W Y,O.W Y⟩
  .rintro _ _ j _ dg _ _ ⟨cH,dh⟩ ⟨di,rfl,y,cI,cJ⟩ ⟨cK,bM,cL⟩;cases cJ;intro bO aE cM _;have bP:(aC x)[j]?=σ (y:Int):=by rw[<-bH,v8,cI];rfl
   have cN:=cK.own ah Q (aE.V λ_=>False) (cM.2.Y bJ) λ_ h=>h.elim;obtain⟨dj,aG,aQ,Z,aB,P,⟨aR,cO⟩,cP,cQ,cR⟩:=cN;have cS:=bL.lt;have bl:=E.go aR cS;have bQ:∀r,aG r->B<=r/\r<bO.heap.size:=λr z=>(aR r z).elim (λh=>⟨(C r h).1,by have:=(C r h).2;omega⟩) λh=>⟨Ω,h.2⟩;refine bu P.2.1 ?_;rw[aD Ψ ((bM.W aE).cell rfl),jB rfl aq.u aj.i P.2.2.2 Ω];refine aH.cu (jC aj.i P.2.2.2 Ω λao S dk cT cU=>?_);have bR:lv ao l gy gt gtb ga (mP bN gy gtb ba bc ga gs) sc.length (aQ.set p y):=⟨P.1.V S λh=>ac.1 h.symm,P.2.1.V S λh=>ac.2.1 h.symm,P.2.2.1.V S λh=>ac.2.2 h.symm,cT⟩;have cV:=ah aG _ _ _ S (λr h=>aK r bl h) cP;have cW:=Q aG _ bO ao (S.Y λr _ h=>aK r bl h) cU.o cQ;have bS:ag ao g1 aj [Δ (p:Int)]:=(bM.W aE).V S Ω;have cX:ag ao f ed [.bool rs]:=(cL.W aE).V S Ω;have cY:=(cH.W aE).V S Ω;rw[aD Ψ (bR.2.2.1.cell rfl),aD Ψ (bS.cell rfl),aO,li Ω Ω];have bT:gb s sc a v q (p+1) (aQ.set p (y:Int))=gb s sc a v q (p+1) (tl.set p (y:Int)):=Sj Ω (by rw[o5];exact au) (by rw[o5];exact Z) (by rw[vz Ω,vz Ω,aB]);refine(show al x8 oY (vA (p+1) bN gy gtb ba bc ga gs) ao _ from al.Y (bt (p+1) (aQ.set p y) _ aG ao Ω (by rw[o5];exact Z) (λr z=>⟨(bQ r z).1,by have:=(bQ r z).2;omega⟩) Ω bl bR cV cW λi dl hi=>?_) ?_)
   .rw[bT]at hi;rw[R5];refine aw _ _ ?_;rw[bI];exact Sn bP hi
   rintro _ dm dn ⟨rfl,bU⟩;rw[bC,X1,aX];have bV:=AtR.comp (λr h=>h) (λr h=>(aR r h).imp id λh=>⟨h.1,Ω⟩) cO (cR.F (S.Y λr _ h=>.inr (.inr h))) aB bU;obtain⟨_,_,_,_,_,_,_,cZ,_,bm⟩:=bU;have aZ:∀{g:Nat},w.heap.size<=g->g<aP.heap.size->¬(g<B\/aG g\/g=gt):=λc0 dp h=>by
    rcases h with h|h|h
    .omega
    .exact (aR _ h).elim (aJ c0) λh=>Ω
    .omega
   refine⟨⟨cY.V bm (aZ Ω Ω),cZ.2.2.2.2.1.1⟩,⟨?_,bS.V bm (aZ Ω Ω),cX.V bm (aZ Ω Ω)⟩,λh=>by cases h⟩;have e:k+(((aC x).take j).flatMap λy=>gb s sc a v q (p+1) (tl.set p y)).length+(gb s sc a v q (p+1) (aQ.set p (y:Int))).length=k+(((aC x).take (j+1)).flatMap λy=>gb s sc a v q (p+1) (tl.set p y)).length:=by
    rw[bT,r8,bP,o9,List.flatMap_append,List.flatMap_singleton,r9];omega
   rw[e]at bV;exact bV
  .rintro _ j dq rfl ⟨Z,aB,P⟩;rw[j5 (by rw[<-bH,u9];exact p8 _),<-bI]at Z;exact a1 H Ω ai C am ap (Z.base Y λr _ h=>h.imp id λh=>h.imp id .inl) P
end
section
variable{ad ae gs bN ba bc B0:Nat}{R:ah}{n:aI}{s:am}{aU:x1}{sc:Λ}{v:Int}
theorem F7{e:Nat}(W:∀u∈sc,0<=u/\u<n.co.length)(X:sc.length<=6):
  rg x8 ro rs nd [Γ bN,Γ ba,Γ bc,Γ gs] 0 (λk=>k=(bX s sc e v).length)
   (λk vs Y w=>Y=k+1/\∃tl aS,(bX s sc e v)[k]?=σ tl/\vs=[aS]/\aM .i64 w aS tl) (gA ad ae R n s gs bN ba bc aU sc e v B0):=by
 refine⟨nd.enters,λl ay aZ w Z _ ac hj ah=>?_⟩;have E:∀D k U aa,af (λr=>w.heap.size<=r/\¬D r) U aa->fM w.heap.size U aa->ay D k U->ay D k aa:=λD k U aa ai ak=>Z D k U aa (ai.Y λr _ h=>⟨rfl,h⟩) ak;have J:=hj.2.2.1;have al:=hj.2.2.2.2.1.2;obtain⟨_,_,_,a1⟩:=dr J;refine qg func261 ?_;refine aH.cu (bo λgy U a2 p G am=>?_);have an:∀{H:x4}{K:x1->Prop},ag H bN aq [aU]->K aU->ab x8 (u5 aq (Γ bN)) H K:=λao ap=>by rw[aD (v:=aU) Ψ (ao.Qz rfl)];exact ap
 refine an (hj.1.2.1.W p) ?_;rw[aY aq.u (J.W p)];refine aH.cu (k3 (k:=.i64) aq.u aj.i Ω Ω λgt aa a6 A M au=>?_);refine aH.cu (bB aq.i λgtb a7 a8 q N av=>?_);refine aH.cu (bq aq.i rfl rfl N (by simp[x1.cells]) λbb C bd aw ax=>?_);refine aH.cu (bB qc.i λga be bf f O az=>?_);rw[lK];refine aH.cu (bq qc.i rfl rfl O (by simp[x1.cells]) λa y bg aB aC=>?_);have bh:=p.size;have bi:=A.size;have z3:=q.size;have z5:=f.size;have bj:=G.lt;have bk:=M.lt;have bl:=N.lt;have bm:=O.lt;have aE:ag a gy Bb [.func (.yield l) #[] #[]]:=(((((ag.W G A).W q).V C Ω).W f).V y Ω);have aF:ag a gt aj (ints .i64 (o4 sc.length 0)):=((((M.W q).V C Ω).W f).V y Ω);have aG:ag a gtb aq [.slice (σ ⟨gt,0,ν⟩) sc.length sc.length]:=((ag.W aw f).V y Ω);have P:ag a ga qc [.func (.func oY) #[] (mP bN gy gtb ba bc ga gs)]:=aB;rw[aD (v:=.func (.func oY) #[] (mP bN gy gtb ba bc ga gs)) Ψ (P.Qz rfl)];have hm:aA .i64 aj a gt (.slice (σ ⟨gt,0,ν⟩) sc.length sc.length) (o4 sc.length 0):=by
  have:=b0.full (n:=sc.length) (k:=1) aF Ξ (by simp only[maxLen];omega);unfold aA;rw[List.length_replicate];exact this
 have aI:=(p.F A).F q;have Q:af (λr=>w.heap.size<=r/\¬False) w a:=(((aI.V _).F (C.Y λr _ h=>⟨by have h:r=gtb:=h;omega,id⟩)).F (f.V _)).F (y.Y λr _ h=>⟨by have h:r=ga:=h;omega,id⟩);have aJ:cN w a:=((((am.F au).F av).F ax).F az).F aC;have aK:gA ad ae R n s gs bN ba bc aU sc e v B0 (λ_=>False) a:=hj.own Q λr aL=>⟨Ω,aL.2⟩;have S:=Sk (s:=s) (sc:=sc) (pos:=e) (v:=v) (tl:=o4 sc.length 0) Ξ;refine(show gS x8 oY (vA 0 bN gy gtb ba bc ga gs) a _ from(Sq (L:=bX s sc e v) (B:=w.heap.size) (l:=l) (gy:=gy) (gt:=gt) (gtb:=gtb) (ga:=ga) (pos:=e) Ω W X al ⟨Ω,Ω,Ω⟩ E ?_ sc.length 0 (o4 sc.length 0) 0 (λ_=>False) a Ω Ξ (λ_ h=>h.elim) Ω ⟨⟨Ω,id⟩,⟨Ω,id⟩,⟨Ω,id⟩,Ω,id⟩ ⟨aE,aG,P,hm⟩ aK (E _ _ _ _ Q aJ.o ah) λi x hi=>?_).free.Y ?_)
 .intro D k tl aS I aN aO aP aQ aR z;refine jf.Y (ac D k (k+1) [aS] I aN aO aP ⟨rfl,tl,aS,aQ,rfl,aR⟩ z) ?_;rintro u bn (⟨h1,aT,aV,aW,aX⟩|⟨h,_⟩)
  .exact⟨h1,aT,aV (.inr rfl),aW,aX rfl⟩
  .cases h
 .rw[S]at hi;rw[W0];exact hi
 .rintro _ bp ⟨_,rfl,_,D',_,_,_,_,_,_,z,_⟩;rw[S,W0]at z;exact .inl ⟨D',_,rfl,z⟩
end
def F8(m gs bN ba bc:Nat)(aU:x1):Prop:=(m<=gs/\m<=bN/\m<=ba/\m<=bc)/\∀r,lc aU r->m<=r
section
variable{ad ae gs bN ba bc B0 m:Nat}{A R:ah}{n:aI}{s s':am}{t:aw}{aU:x1}{sc:Λ}{pos v:Int}{w I:x4}
theorem bt.lt(h:bt w ad ae A R n s t){r:Nat}(a:A r\/R r):r<w.heap.size:=by
 obtain⟨⟨j,p,q,x,⟨_,_,e,f⟩,_⟩,_⟩:=h;exact a.elim (f r) (e r)
theorem gA.put{D' S:Nat->Prop}(h:gA ad ae R n s gs bN ba bc aU sc pos v B0 D w)(j:af S w I)(hm:F8 m gs bN ba bc aU)(y:∀r,S r->r<m\/B0<=r)(z:Laid I)(B:bt I ad ae A R n s' t)(C:∀i,bb s' i=bb s i)(E:∀r,A r\/R r->r<B0\/D' r):gA ad ae R n s gs bN ba bc aU sc pos v B0 D' I:=by
 obtain⟨h1,f,p,q,F,_⟩:=h;have no:∀{r:Nat},m<=r->r<B0->¬S r:=λh1 f p=>by have:=y _ p;omega
 exact⟨h1.V j ⟨no hm.1.1 f.1,no hm.1.2.1 f.2.1,no hm.1.2.2.1 f.2.2.1,no hm.1.2.2.2 f.2.2.2⟩,f,jk p j λr G a n c e x=>no (hm.2 r ⟨a,n,c,e,x⟩) (q r ⟨a,n,c,e,x⟩) G,q,⟨z,Y9 F.2 j.size⟩,A,s',t,B,C,E⟩
theorem F9{f:ch}{X:x4->Prop}{K:x1->x4->Prop}(h:bt w ad ae A R n s t)(y:Laid w)(B:s.d7[j]?=σ f)(C:∀aU gs bN ba bc I,Ext w I->F8 w.heap.size gs bN ba bc aU->gA ad ae R n s gs bN ba bc aU f.sc pos v I.heap.size (λ_=>False) I->K (.func (.func nd) #[] #[Γ bN,Γ ba,Γ bc,Γ gs]) I):
  al x8 tx [Γ ad,Δ (j:Int)] w λaU U=>(Ext w U\/X U)/\al x8 A1 [Γ ad,aU,Δ pos,Δ v] U K:=by
 refine(sE h B).Y ?_;rintro aU U _ ⟨q,g,E,hm⟩;refine⟨.inl q,(Sl hm.ls).Y ?_⟩;rintro _ aa _ ⟨x,gs,bN,ba,bc,rfl,a,G,H,J,L⟩;have p:=q.F x;have M:=q.size;have z:=p.size;refine C aU gs bN ba bc aa p ⟨⟨Ω,Ω,Ω,Ω⟩,λr e=>(bV hm e).1▸E⟩ ⟨a,⟨a.1.lt,a.2.1.lt,a.2.2.1.lt,a.2.2.2.lt⟩,hm.ls.W x,λr e=>?_,⟨y.W p,p8 _⟩,A,s,t,h.W p,λ_=>rfl,λr e=>.inl ?_⟩
 .have:=bV hm e;have:=x.size;omega
 .have:=h.lt e;omega
end
section
variable{k:Int}{co:Λ}{s:am}{f:ch}{j pos:Nat}{v:Int}{tl:Λ}
theorem Ga{m:Nat}(a:s.d7[j]?=σ f)(e:f.live≠0)(hm:cz f.ai tl 0=σ (m:Int)):(gQ s j tl).isSome=ro/\nD s j tl=br f.ai f.cs tl:=by
 unfold gQ nD;rw[a];simp[e,hm]
end
section
variable{w:x4}{ad ae:Nat}{A R:ah}{n:aI}{s:am}{t:aw}
theorem Gb{f:ch}(h:bt w ad ae A R n s t)(af:Laid w)(M:s.d7[j]?=σ f)(ax:f.live≠0)(ay:∀u,f.sc[pos]?=σ u->v∈bb s u):
  al x8 Jn [Γ ad,Δ (j:Int),Δ (pos:Int),Δ v] w λr I=>r=Δ (ef n.k s f pos v)/\Ext w I:=by
 have ah:=h.2.2.2.1;have ak:=x6 M;obtain⟨N,aR,_⟩:=ah.d7 f ak;refine iK func148 ?_;refine bo λg1 U aT O y=>?_;refine bo λam aa aV J K=>?_;have y:=ag.W y J;have K:=K;rw[aD Ψ (y.cell rfl)];refine(ou (h.W (O.F J))).Y ?_;rintro _ aW _ ⟨rfl,P⟩;refine bB au.i λQ aX aY S an=>?_;have a1:=O.size;have a2:=J.size;have z3:=P.size;have z4:=S.size;have a6:=y.lt;have a7:=K.lt;have a8:=an.lt;refine bq au.i rfl rfl an (by simp[x1.cells]) λbd W be X=>?_;have X:=X;intro ao z _ _;have bf:=z.size;have ap:=P.F S;have Y:=((((O.F J).F P).F S).then W (by rintro r p rfl;omega)).F z;have Z:ag ao g1 dx [Γ ad]:=((y.W ap).V W Ω).W z;have aq:ag ao am aj [Δ (j:Int)]:=((K.W ap).V W Ω).W z;have av:=X.W z;have bg:=av.lt;rw[aD Ψ (Z.cell rfl),aD Ψ (Z.cell rfl),aD Ψ (aq.cell rfl)];refine F9 (h.W Y) (af.W Y) M λaU gs bN ba bc az B aA aB=>?_;have bh:=B.size;refine⟨Nat,ro,rs,nd,#[Γ bN,Γ ba,Γ bc,Γ gs],0,_,_,_,λD k I=>Ext w I/\ag I g1 dx [Γ ad]/\ag I am aj [Δ (j:Int)]/\ag I Q au [Δ ((((bX s f.sc pos v).take k).map (br f.ai f.cs)).foldl min n.k)],
  λ_ _ _ _=>False,rfl,F7 (λu hu=>⟨(N.scope.1 u hu).1,N.d6 u hu⟩) N.scope.2,?_,λ_ _ _ aC h=>h.W aC,?_,λ_ _ _ _ _ _ _ h=>h,aB,?_,?_,?_,λ_ _ _ h=>h.elim,λ_ _ _ _ h=>h.elim⟩
 .rintro _ _ _ _ ⟨_,_,_,_,rfl,_⟩;rfl
 .rintro D k aE aF L bi ⟨q,C,E,x⟩;have aZ:∀{g:Nat}{e:p9}{cs:List x1},g<az.heap.size->ag aE g e cs->ag aF g e cs:=λbj aG=>aG.V L λh=>by have:=h.2.1;omega
  exact⟨q.then L λr p h=>by have:=h.2.1;omega,aZ Ω C,aZ Ω E,aZ Ω x⟩
 .exact⟨Y.F B,Z.W B,aq.W B,av.W B⟩
 .rintro aS D k bk bl bm bn aI ⟨rfl,tl,bp,aw,e,aJ⟩ ⟨q,C,E,x⟩;cases e;intro bs G _ aK;obtain⟨m,hm⟩:=qT ah ak ay (x6 aw);obtain⟨aL,L⟩:=Ga M ax hm;rw[aD Ψ ((C.W G).cell rfl),aD Ψ ((E.W G).cell rfl)];refine(yw (h.W (q.F G)) (aJ.W G)).Y ?_;rintro _ bx aM ⟨rfl,aN⟩;have a:=G.F aN;rw[m3 aL,L,bu,bw,aD Ψ ((x.W a).cell rfl),nj];refine aH.cu (bq au.i rfl rfl (x.W a) Ξ λbz H bA ab aO=>?_);have bC:=a.size;have ac:=(q.F a).then H (by rintro r p rfl;omega);have aP:=h.W ac;refine⟨⟨D,λr h=>.inl h,λ_ h=>h,(aI.W a).put H aA (λr p=>.inl (by have p:r=Q:=p;omega)) (af.W ac) aP (λ_=>rfl) λr p=>.inl (by have:=h.lt p;omega),ac,(C.W a).V H Ω,(E.W a).V H Ω,?_⟩,aK.F (aM.lD.F aO.lD),(a.V _).F (H.Y λr _ h=>.inl (by have h:r=Q:=h;omega))⟩;have ab:=ab;rw[r8,aw,o9,Z5,Q0];exact ab
 .rintro D k bD rfl ⟨q,C,E,x⟩;rw[aD Ψ (x.cell rfl)];intro bE aQ _;refine⟨?_,q.F aQ⟩;rw[j5 (p8 _)];rfl
theorem Sr{j pos:Int}(h:bt w ad ae A R n s t)(y:Laid w):al x8 I0 [Γ ad,Δ j,Δ pos,Δ v] w λr I=>Ext w I/\r=(match dl s j pos v with|some (f,_,_)=>.tuple #[Δ (ef n.k s f pos.toNat v),Δ 0]|none=>.tuple #[Δ 0,Δ 1]):=by
 refine aB func106 ?_;refine(y2 h).Y ?_;rintro _ U _ ⟨a,u,e,rfl,ac⟩;rw[bu,bw];rcases ac with⟨rfl,f,x,ac⟩|⟨rfl,ac⟩
 .rw[ac,bF,ak];refine⟨λh=>m6 rfl h,λ_=>?_⟩;obtain⟨h1,z,B,C,p,E⟩:=mO ac;obtain⟨K,G,L,H⟩:=jS E;obtain⟨j,rfl⟩:=V3 h1;obtain⟨pos,rfl⟩:=V3 z;refine(Gb (j:=j) (pos:=pos) (h.W a) (y.W a) B C λu' q=>?_).Y ?_
  .have p:f.sc[pos]?=σ u:=p;rw[p]at q;cases q;unfold bb;rw[G];exact H
  .rintro _ aa _ ⟨rfl,J⟩;exact⟨a.F J,rfl⟩
 .rw[ac,bF,ak];exact⟨λ_=>⟨a,rfl⟩,λh=>m6 Φ h⟩
end
def qY(t:aw):Prop:=∀m,t.marks.getLast? =σ m->m.olds+t.cells.length<100000000/\t.olds.length<=m.olds+t.cells.countP λc=>decide (c.st=m.st)
def dN(ao:List aw)(t:aw):Prop:=eJ t ao/\qY t
theorem eJ.m{t:aw}(h:eJ t []):dN [] t:=⟨h,λm hm=>by rw[h.1]at hm;cases hm⟩
theorem dN.room{ao:List aw}{t:aw}(h:dN ao t):Room t:=by
 cases hm:t.marks.getLast? with
 |none=>exact .inl (List.getLast?_eq_none_iff.1 hm)
 |some m=>
  obtain⟨h1,a⟩:=h.2 m hm;have:=List.countP_le_length (p:=λc:Cell=>decide (c.st=m.st)) (l:=t.cells);exact .inr Ω
theorem qY.set{t:aw}{i:Nat}{x:Int}(h:qY t):qY (t.set i x):=by
 unfold aw.set;cases e:t.cells[i]? with
 |none=>exact h
 |some c=>
  obtain⟨f,j⟩:=x5.1 e;cases hm:t.marks.getLast? with
  |none=>
   intro m a;have a:=a;rw[hm]at a;cases a
  |some m=>
   obtain⟨h1,q⟩:=h m hm;simp only;split
   .rename_i r;intro bP a;have a:=a;rw[hm]at a;cases a;show m.olds+(t.cells.set i _).length<_/\(t.olds++[_]).length<=m.olds+(t.cells.set i _).countP _;rw[o5,List.countP_set f,j,r9,U2,m5 (by rw[ne];omega),m3 Ξ];exact⟨h1,Ω⟩
   .intro bP a;have a:=a;rw[hm]at a;cases a;show m.olds+(t.cells.set i _).length<_/\t.olds.length<=m.olds+(t.cells.set i _).countP _;rw[o5,List.countP_set f,j];refine⟨h1,?_⟩;by_cases J:c.st=m.st
    .have:=List.countP_pos_iff (p:=λc:Cell=>decide (c.st=m.st)).2 ⟨c,x6 e,m7 J⟩;rw[m3 (m7 J)];omega
    .rw[m5 (by rw[ne];exact J)];omega
theorem dN.set{ao:List aw}{t:aw}{i:Nat}{x:Int}(h:dN ao t):dN ao (t.set i x):=⟨h.1.set,h.2.set⟩
theorem dN.mark{ao:List aw}{t:aw}(h:dN ao t)(a:t.olds.length+t.cells.length<100000000):dN (t::ao) t.mark:=by
 refine⟨h.1.mark,λm hm=>?_⟩;have hm:(t.marks++[_]).getLast? =σ m:=hm;rw[List.getLast?_concat]at hm;cases hm;exact⟨a,Nat.le_add_right _ _⟩
def cM(ao:List aw)(w:x4)(ad ae:Nat)(A R:ah)(n:aI)(s':am)(I:x4):Prop:=af (er w) w I/\Laid I/\∃aK bn,Grow A w aK I/\bt I ad ae aK R n s' bn/\dN ao bn/\¬aK 0
def dO(ao:List aw)(w:x4)(ad ae:Nat)(A R:ah)(n:aI)(m:Nat)(D:Nat->Prop)(s':am)(I:x4):Prop:=
 af (λr=>er w r\/w.heap.size<=r) w I/\(Laid I/\w.heap.size<=m/\0<w.heap.size/\(∀r,A r\/R r->r<w.heap.size))/\∃aK bn,Grow A w aK I/\bt I ad ae aK R n s' bn/\(dN ao bn/\¬aK 0)/\∀r,aK r->r<m\/D r
section
variable{ao:List aw}{w U aa:x4}{ad ae m:Nat}{A R:ah}{n:aI}{s s' pS:am}{t:aw}{D D' S:Nat->Prop}
theorem dO.start(h:bt w ad ae A R n s t)(f:Laid w)(j:¬A 0)(p:dN ao t)(a:Ext w U)(hm:w.heap.size<=m):dO ao w ad ae A R n m D s U:=
 ⟨a.V _,⟨f.W a,hm,by
  obtain⟨x,y,z,B,⟨h1,_,_,q⟩,_⟩:=h.1;have:=q _ h1;omega,λr e=>h.lt e⟩,A,t,Grow.W a,h.W a,⟨p,j⟩,λr e=>.inl (by have:=h.lt (.inl e);omega)⟩
theorem dO.own(h:dO ao w ad ae A R n m D s' U)(e:af S U aa)(f:∀r,S r->m<=r/\¬D r):dO ao w ad ae A R n m D s' aa:=by
 obtain⟨h1,⟨s,x,y,j⟩,aK,bn,⟨g1,z,B⟩,p,C,q⟩:=h;refine⟨h1.F (e.Y λr _ h=>.inr (by have:=(f r h).1;omega)),⟨iu e (λh=>by have:=(f _ h).1;omega) s,x,y,j⟩,aK,bn,⟨?_,z,B⟩,⟨p.1.V e λr _ a J=>?_,p.2⟩,C,q⟩
 .exact ((g1.Y λr _ h=>.inl h).F (e.Y λr _ h=>.inr (f r h).1):af (λr=>A r\/m<=r) w aa).Y λr a h=>h.elim id λh=>Ω
 .obtain⟨F,E⟩:=f r J;rcases a with a|a
  .exact (q r a).elim Ω E
  .have:=j r (.inr a);omega
theorem dO.W(h:dO ao w ad ae A R n m D s' U)(a:Ext U aa):dO ao w ad ae A R n m D s' aa:=h.own (a.V λ_=>False) λ_ h=>h.elim
theorem dO.sS(h:dO ao w ad ae A R n m D s' U):∃aK bn,bt U ad ae aK R n s' bn/\dN ao bn/\¬aK 0/\∀{aa:x4}{pS:am}{D' a:Nat->Prop}{j:aw},af (er U) U aa->Grow aK U a aa->bt aa ad ae a R n pS j->dN ao j->(∀r,D r->D' r)->(∀r,U.heap.size<=r->r<aa.heap.size->D' r)->
  dO ao w ad ae A R n m D' pS aa/\af (λr=>r<m\/D r) U aa/\∀r,a r->r<m\/D' r:=by
 obtain⟨h1,⟨y,z,B,C⟩,aK,bn,E,F,p,q⟩:=h;refine⟨aK,bn,F,p.1,p.2,λ{aa pS D' a j}G e s H I K=>?_⟩;have O:=h1.size;have L:¬a 0:=λh=>(e.2.1 0 h).elim p.2 λh=>Ω
 have x:∀r,a r->r<m\/D' r:=λr f=>(e.2.1 r f).elim (λh=>(q r h).imp id (I r)) λh=>.inr (K r h (s.lt (.inl f)));refine⟨⟨h1.F (G.Y λr _ h=>?_),⟨iu e.1 p.2 y,z,B,C⟩,a,j,E.F e,s,⟨H,L⟩,x⟩,e.1.Y λr _ h=>q r h,x⟩;by_cases f:w.heap.size<=r
 .exact .inr f
 .exact .inl (ol (λo M J N=>h1.aZ r o M J λh=>h.elim N f) h)
theorem dO.open(h:dO ao w ad ae A R n m D s' U):∃aK bn,bt U ad ae aK R n s' bn/\dN ao bn/\∀{aa:x4}{pS:am}{D' e:Nat->Prop}{f:aw},af (er U) U aa->Grow aK U e aa->bt aa ad ae e R n pS f->dN ao f->(∀r,D r->D' r)->(∀r,U.heap.size<=r->r<aa.heap.size->D' r)->
  dO ao w ad ae A R n m D' pS aa/\af (λr=>r<m\/D r) U aa/\∀r,e r->r<m\/D' r:=by
 obtain⟨aK,bn,a,b,_,d⟩:=h.sS;exact⟨aK,bn,a,b,d⟩
theorem dO.done(h:dO ao w ad ae A R n m D s' U)(e:Ext U aa):cM ao w ad ae A R n s' aa:=by
 obtain⟨h1,⟨f,q,s,x⟩,aK,bn,j,p,a,y⟩:=h.W e;exact⟨h1.Y λr z h=>h.elim id λh=>Ω,f,aK,bn,j,p,a.1,a.2⟩
end
section
variable{ao:List aw}{w:x4}{ad ae:Nat}{A R:ah}{n:aI}{s:am}{t:aw}
theorem pT{u:Nat}{x:bz}(a:bd n.k n.co s)(f:s.d6[u]?=σ x)(h:v∈aC x):et n (u:Int) v:=by
 have p:=(x5.1 f).1;have q:=a.d6;obtain⟨z,e⟩:=aF (l:=n.co) (i:=u) Ω;have r:=(a.var _ x z f e).1;have w:=a.eD.2.2 z (x6 e);have j:=(eZ.1 h).1;refine⟨Ω,Ω,j.1,?_⟩;rw[u6,u4,e,V9];omega
theorem Gc{f:ch}{g:Int->Int}(p:bd k co s)(a:s.d7[j]?=σ f):eu s j f (dT g [] f.ai f.cs)=s:=by
 obtain⟨q,r⟩:=lq p (x6 a);rw[Rz q Ω (λ_ h=>m6 h List.not_mem_nil)];have:s.d7.set j f=s.d7:=by
  apply X3;intro i;by_cases e:j=i
  .subst e;rw[l9 (x5.1 a).1,a]
  .rw[Z9 e]
 unfold eu;show{s with d7:=s.d7.set j f}=s;rw[this]
theorem Gd{u:Nat}{f:ch}{x:bz}{F1 F2:Q9}{tup un:Int->Int}(h:bt w ad ae A R n s t)(aO:Laid w)(bk:¬A 0)(bl:dN ao t)(E:s.d7[j]?=σ f)(bm:f.live≠0)(hu:f.sc[pos]?=σ (u:Int))(y:s.d6[u]?=σ x)(aP:v∈aC x)(h1:∀tl∈bX s f.sc pos v,(0<=tup (br f.ai f.cs tl)/\tup (br f.ai f.cs tl)<=n.k)/\∀{w:x4}{A:ah}{s:am}{t:aw},bt w ad ae A R n s t->al x8 F1 [Γ ad,Δ (br f.ai f.cs tl),Δ c] w λr I=>r=Δ (tup (br f.ai f.cs tl))/\Ext w I)(aQ:(0<=un (x.un.getD v.toNat 0)/\un (x.un.getD v.toNat 0)<=n.k)/\∀{w:x4}{A:ah}{s:am}{t:aw},bt w ad ae A R n s t->al x8 F2 [Γ ad,Δ (x.un.getD v.toNat 0),Δ c] w λr I=>r=Δ (un (x.un.getD v.toNat 0))/\Ext w I):
  al x8 Jo [.agg #[.func (.func F1) #[] #[],.func (.func F2) #[] #[]],Γ ad,Δ (j:Int),Δ (pos:Int),Δ v,Δ c] w λ_ I=>cM ao w ad ae A R n (fZ s j f pos u x v tup un) I:=by
 have G:=h.2.2.2.1;have ak:=x6 E;obtain⟨an,b3,_⟩:=G.d7 f ak;have aR:∀u',f.sc[pos]?=σ u'->v∈bb s u':=λu' aT=>by
  rw[hu]at aT;cases aT;unfold bb;rw[u6,y];exact aP
 have bn:=FX G ak aR;refine iK func151 ?_;refine bo λbp U b4 aV P=>?_;refine bo λg1 aa b5 ap a=>?_;refine bo λb6 b7 b8 Z z=>?_;refine bo λb9 B ca ab Q=>?_;have P:ag B bp rp [.func (.func F1) #[] #[],.func (.func F2) #[] #[]]:=((ag.W P ap).W Z).W ab;have a:ag B g1 dx [Γ ad]:=(ag.W a Z).W ab;have z:=ag.W z ab;have Q:=Q;have au:=((aV.F ap).F Z).F ab;have cb:=aV.size;have cc:=ap.size;have z3:=Z.size;have cd:=au.size;have aW:=P.lt;have H:=a.lt;have aX:=z.lt;have aY:=Q.lt;rw[aD Ψ (a.cell rfl),aD Ψ (z.cell rfl)];refine(sE (h.W au) E).Y ?_;rintro ce cf _ ⟨bq,_,_,bs⟩;rw[bi aq.u aj.i Ψ bs.ls hu];intro cg bx _ _;have J:=bq.F bx;have av:=au.F J;have z46:=J.size;rw[aD Ψ ((a.W J).cell rfl),aD Ψ ((a.W J).cell rfl),aD Ψ ((z.W J).cell rfl)];refine F9 (h.W av) (aO.W av) E λaU gs bN ba bc a1 ax bA bB=>?_;have ci:=ax.size;have bC:=J.F ax;refine⟨Nat,ro,rs,nd,#[Γ bN,Γ ba,Γ bc,Γ gs],0,_,_,_,
  λD k I=>dO ao w ad ae A R n w.heap.size D (eu s j f (dT tup ((bX s f.sc pos v).take k) f.ai f.cs)) I/\(af (λr=>r<w.heap.size\/a1.heap.size<=r) B I/\a1.heap.size<=I.heap.size),
  λ_ _ _ _=>False,rfl,F7 (λu hu=>⟨(an.scope.1 u hu).1,an.d6 u hu⟩) an.scope.2,?_,λ_ _ _ y h=>h.W y,?_,λ_ _ _ _ _ _ _ h=>h,bB,?_,?_,?_,λ_ _ _ h=>h.elim,λ_ _ _ _ h=>h.elim⟩
 .rintro _ _ _ _ ⟨_,_,_,_,rfl,_⟩;rfl
 .rintro D k cj ck S cl ⟨K,L,ay⟩;exact⟨K.own S λr q=>⟨Ω,q.2.2⟩,L.F (S.Y λr _ h=>.inr h.2.1),Y9 ay S.size⟩
 .refine⟨?_,bC.V _,p8 _⟩;have e:eu s j f (dT tup ((bX s f.sc pos v).take 0) f.ai f.cs)=s:=Gc G E;rw[e];exact dO.start h aO bk bl (av.F ax) (p8 _)
 .rintro aS D k cm az a2 cn bD ⟨rfl,tl,cp,aA,e,a6⟩ ⟨K,L,ay⟩;cases e;intro cq W _ bE;obtain⟨m,hm⟩:=qT G ak aR (x6 aA);obtain⟨bF,bG⟩:=FY G E bn aA hm;obtain⟨⟨bH,bI⟩,bJ⟩:=h1 tl (x6 aA);have aZ:∀{X:x4}{g:Nat}{e:p9}{cs:List x1},Ext az X->w.heap.size<=g->g<B.heap.size->ag B g e cs->ag X g e cs:=λy M aB aE=>(aE.V L Ω).W y;have bK:=(x5.1 E).1;have a7:(eu s j f (dT tup ((bX s f.sc pos v).take k) f.ai f.cs)).d7[j]?=σ {f with cs:=dT tup ((bX s f.sc pos v).take k) f.ai f.cs}:=l9 bK;obtain⟨M,S⟩:=Ga a7 bm hm;obtain⟨A9,t9,aF,a8,aG⟩:=K.open;rw[aD Ψ ((aZ W Ω H a).cell rfl),aD Ψ ((aZ W Ω aX z).cell rfl)];refine(yw (aF.W W) (a6.W W)).Y ?_;rintro _ cr bL ⟨rfl,bM⟩;rw[m3 M,S,bu,bw];intro bO bP _ bQ;have C:=(W.F bM).F bP;rw[aD Ψ ((aZ C Ω H a).cell rfl),aD Ψ ((aZ C Ω aX z).cell rfl),
   aL rp.p 0 (aZ C Ω aW P) rfl,aD Ψ ((aZ C Ω H a).cell rfl),aD Ψ ((aZ C Ω aY Q).cell rfl)]
  show al x8 F1 [Γ ad,Δ (br f.ai (dT tup ((bX s f.sc pos v).take k) f.ai f.cs) tl),Δ c] bO _;rw[bF];refine(bJ (aF.W C)).Y ?_;rintro _ ct bR ⟨rfl,bd⟩;have Y:=C.F bd;refine⟨.inl bd,(QR (aF.W Y) a8.room (a6.W Y)).Y ?_⟩;rintro r be bS ⟨_,_,aH⟩;obtain⟨_,ac,aK,bT,bU,aI,N⟩:=aH M ⟨bH,bI⟩ _ m a7 hm;rw[bG]at N;have cu:=Y.size;have cw:=ac.size;obtain⟨bf,aJ,bV⟩:=aG (D':=λr=>D r\/az.heap.size<=r/\r<be.heap.size) (jp Y ac) ((Grow.W Y).F aI) N a8.set (λr h=>.inl h) λr M aB=>.inr ⟨M,aB⟩;refine⟨⟨λr=>D r\/az.heap.size<=r/\r<be.heap.size,λr h=>h,λr h=>.inl h,?_,bf,L.F (aJ.Y λr _ h=>h.imp id λh=>(a2 r h).1),Ω⟩,bE.F ((((bL.F bQ).F bR).F bS).lD),aJ.Y λr _ h=>h.imp (λh=>Ω) id⟩;refine bD.put aJ bA (λr q=>?_) bf.2.1.1 N (λ_=>rfl) λr q=>?_
  .rcases q with q|q
   .exact .inl Ω
   .exact .inr (a2 r q).1
  .rcases q with q|q
   .exact (bV r q).imp (λh=>Ω) id
   .exact .inl (by have:=h.lt (.inr q);omega)
 .rintro D k bW rfl ⟨K,L,ay⟩;rw[j5 (p8 _)]at K;have bg:=pT G y aP;obtain⟨cz,cA,aM,bh,aG⟩:=K.open;have aZ:∀{X:x4}{g:Nat}{e:p9}{cs:List x1},Ext bW X->w.heap.size<=g->g<B.heap.size->ag B g e cs->ag X g e cs:=λy M aB aE=>(aE.V L Ω).W y;rw[aD Ψ ((aZ (Ext.refl _) Ω H a).cell rfl)];refine(pJ aM).Y ?_;rintro _ cB _ ⟨rfl,bY⟩;have bZ:fj (eu s j f (dT tup (bX s f.sc pos v) f.ai f.cs)) (u:Int).toNat v.toNat=x.un.getD v.toNat 0:=by
   unfold fj;rw[u6,show(eu s j f (dT tup (bX s f.sc pos v) f.ai f.cs)).d6[u]?=σ x from y]
  rw[m3 bg,bZ,bu,bw];intro b0 b1 _ _;have O:=bY.F b1;rw[aD Ψ ((aZ O Ω H a).cell rfl),aL rp.p 1 (aZ O Ω aW P) rfl,aD Ψ ((aZ O Ω H a).cell rfl),aD Ψ ((aZ O Ω aY Q).cell rfl)];show al x8 F2 [Γ ad,Δ (x.un.getD v.toNat 0),Δ c] b0 _;refine(aQ.2 (aM.W O)).Y ?_;rintro _ cC _ ⟨rfl,bj⟩;have aN:=O.F bj;refine⟨.inl bj,(Fl (aM.W aN) bh.room).Y ?_⟩;rintro r cD _ ⟨_,_,aH⟩;obtain⟨_,ac,aK,bT,bU,aI,N⟩:=aH bg aQ.1;have e:l2 (eu s j f (dT tup (bX s f.sc pos v) f.ai f.cs)) (u:Int).toNat v.toNat (un (x.un.getD v.toNat 0))=fZ s j f pos u x v tup un:=by
   unfold l2 fZ eY;rw[u6,show(eu s j f (dT tup (bX s f.sc pos v) f.ai f.cs)).d6[u]?=σ x from y]
  rw[e]at N;intro cE b2 _;exact(aG (jp aN ac) ((Grow.W aN).F aI) N bh.set (λ_ _=>trivial) λ_ _ _=>trivial).1.done b2
end
theorem sT(h e:Nat){l a:Nat}(f:l<256)(hm:a<256):(256*h+l) &&& (256*e+a)=256*(h &&& e)+(l &&& a):=by
 have j:l &&& a<2 ^ 8:=Nat.and_lt_two_pow _ hm;apply Nat.eq_of_testBit_eq;intro i;rw[Nat.testBit_and,show 256=2 ^ 8 from rfl,Nat.testBit_two_pow_mul_add _ f,Nat.testBit_two_pow_mul_add _ hm,Nat.testBit_two_pow_mul_add _ j];split
 .rw[Nat.testBit_and]
 .rw[Nat.testBit_and]
def im(m x:Nat):Nat:=(x / 2 &&& m)+(x &&& m)
def je(m x:Nat):Nat:=(x / 4 &&& m)+(x &&& m)
def kP(m x:Nat):Nat:=(x / 16+x) &&& m
def c4(a:Nat):Nat:=kP 15 (je 51 (im 85 a))
theorem Ss:∀e<2,∀l<256,(128*e+l / 2) &&& 85=l / 2 &&& 85:=by decide+kernel
theorem St:∀e<4,∀l<256,(64*e+l / 4) &&& 51=l / 4 &&& 51:=by decide+kernel
theorem Su:∀e<5,∀l<69,(16*e+l / 16+l) &&& 15=(l / 16+l) &&& 15:=by decide+kernel
theorem oF:∀l<256,im 85 l<256/\je 51 (im 85 l)<69/\je 51 (im 85 l) % 16<5/\c4 l<=8/\(c4 l=0->l=0):=by decide+kernel
theorem vB(h a:Nat){l:Nat}(e:l<256):im (256*a+85) (256*h+l)=256*im a h+im 85 l:=by
 unfold im;rw[show(256*h+l) / 2=256*(h / 2)+(128*(h % 2)+l / 2) by omega,sT _ _ Ω Ω,sT _ _ e Ω,Ss _ Ω _ e];omega
theorem vC(h a:Nat){l:Nat}(e:l<256):je (256*a+51) (256*h+l)=256*je a h+je 51 l:=by
 unfold je;rw[show(256*h+l) / 4=256*(h / 4)+(64*(h % 4)+l / 4) by omega,sT _ _ Ω Ω,sT _ _ e Ω,St _ Ω _ e];omega
theorem vD(h a:Nat){l:Nat}(e:l<69)(he:h % 16<5):kP (256*a+15) (256*h+l)=256*kP a h+kP 15 l:=by
 unfold kP;rw[show(256*h+l) / 16+(256*h+l)=256*(h / 16+h)+(16*(h % 16)+l / 16+l) by omega,sT _ _ Ω Ω,Su _ he _ e]
def four(a b c d:Nat):Nat:=256*(256*(256*d+c)+b)+a
theorem Sv{a b c d:Nat}(e:a<256)(f:b<256)(h:c<256)(j:d<256):im 6148914691236517205 (four a b c d)=four (im 85 a) (im 85 b) (im 85 c) (im 85 d):=by
 unfold four;rw[show 6148914691236517205=256*(256*(256*(256*1431655765+85)+85)+85)+85 from rfl,vB _ _ e,vB _ _ f,vB _ _ h];have:=vB 0 1431655765 j;rw[show 256*0+d=d by omega,show im 1431655765 0=0 from by unfold im;simp]at this;rw[this,Nat.mul_zero,W0]
theorem Sw{a b c d:Nat}(e:a<256)(f:b<256)(h:c<256)(j:d<256):je 3689348814741910323 (four a b c d)=four (je 51 a) (je 51 b) (je 51 c) (je 51 d):=by
 unfold four;rw[show 3689348814741910323=256*(256*(256*(256*858993459+51)+51)+51)+51 from rfl,vC _ _ e,vC _ _ f,vC _ _ h];have:=vC 0 858993459 j;rw[show 256*0+d=d by omega,show je 858993459 0=0 from by unfold je;simp]at this;rw[this,Nat.mul_zero,W0]
theorem Sx{a b c d:Nat}(e:a<69)(f:b<69/\b % 16<5)(h:c<69/\c % 16<5)(j:d<69/\d % 16<5):kP 1085102592571150095 (four a b c d)=four (kP 15 a) (kP 15 b) (kP 15 c) (kP 15 d):=by
 unfold four;rw[show 1085102592571150095=256*(256*(256*(256*252645135+15)+15)+15)+15 from rfl,vD _ _ e Ω,vD _ _ f.1 Ω,vD _ _ h.1 Ω];have:=vD 0 252645135 j.1 Ω;rw[show 256*0+d=d by omega,show kP 252645135 0=0 from by unfold kP;simp]at this;rw[this,Nat.mul_zero,W0]
def qZ(x:Nat):Nat:=c4 (x % 256)+c4 (x / 256 % 256)+c4 (x / 65536 % 256)+c4 (x / 16777216)
theorem Sy{x:Nat}(h:x<4294967296):qZ x=0↔x=0:=by
 constructor
 .intro a;unfold qZ at a;have h1:=(oF (x % 256) Ω).2.2.2.2 Ω;have e:=(oF (x / 256 % 256) Ω).2.2.2.2 Ω;have f:=(oF (x / 65536 % 256) Ω).2.2.2.2 Ω;have j:=(oF (x / 16777216) Ω).2.2.2.2 Ω;omega
 .rintro rfl;decide
theorem Ge{x:Nat}(ao:x<4294967296):al x8 Iz [.int .u64 (x:Int)] w λv I=>v=Δ (qZ x:Int)/\Ext w I:=by
 obtain⟨a,b,c,d,G,H,J,L,e,R,S,U,V⟩:∃a b c d,a<256/\b<256/\c<256/\d<256/\x=four a b c d/\a=x % 256/\b=x / 256 % 256/\c=x / 65536 % 256/\d=x / 16777216:=
  ⟨x % 256,x / 256 % 256,x / 65536 % 256,x / 16777216,Ω,Ω,Ω,Ω,by unfold four;omega,rfl,rfl,rfl,rfl⟩
 obtain⟨W,X,a3,a4,_⟩:=oF a G;obtain⟨Y,Z,aa,ap,_⟩:=oF b H;obtain⟨ac,ad,ae,aq,_⟩:=oF c J;obtain⟨d1,d2,d3,d4,_⟩:=oF d L;have g1:=Sv G H J L;have M:=Sw W Y ac d1;have af:=Sx X ⟨Z,aa⟩ ⟨ad,ae⟩ ⟨d2,d3⟩;have ag:qZ x=c4 a+c4 b+c4 c+c4 d:=by unfold qZ;rw[<-R,<-S,<-U,<-V]
 rw[<-e]at g1;have ah:im 6148914691236517205 x<4294967296:=by rw[g1];unfold four;omega
 have N:je 3689348814741910323 (im 6148914691236517205 x)<4294967296:=by rw[g1,M];unfold four;omega
 have A:kP 1085102592571150095 (je 3689348814741910323 (im 6148914691236517205 x))=four (c4 a) (c4 b) (c4 c) (c4 d):=by rw[g1,M,af];rfl
 have ai:four (c4 a) (c4 b) (c4 c) (c4 d)<4294967296:=by unfold four;omega
 refine aB func70 ?_;have s:∀{t:p9}{cx cy:Bool}{K:x1->Prop}(p q:Nat),p+q<18446744073709551616->ab x8 (aN .add t cx cy (.int .u64 (p:Int)) (.int .u64 (q:Int))) w K=K (.int .u64 ((p+q:Nat):Int)):=λp q h=>by
  rw[aO,lm Ω Ω];rfl
 have small:∀(p m:Nat),p &&& m<=p:=λp m=>Nat.and_le_left;rw[show(1:Int)=((1:Nat):Int)from rfl,mu Ω,show(6148914691236517205:Int)=((6148914691236517205:Nat):Int)from rfl,u64_and Ω Ω,u64_and Ω Ω,s (x / 2 ^ 1 &&& 6148914691236517205) (x &&& 6148914691236517205) (by exact Nat.lt_of_le_of_lt (Nat.add_le_add (small _ _) (small _ _)) Ω)];obtain⟨y,B⟩:∃y,(x / 2 ^ 1 &&& 6148914691236517205)+(x &&& 6148914691236517205)=y:=⟨_,rfl⟩;rw[B];have B:im 6148914691236517205 x=y:=B;rw[B]at ah N A;rw[show(2:Int)=((2:Nat):Int)from rfl,mu Ω,show(3689348814741910323:Int)=((3689348814741910323:Nat):Int)from rfl,u64_and Ω Ω,u64_and Ω Ω,s (y / 2 ^ 2 &&& 3689348814741910323) (y &&& 3689348814741910323) (by exact Nat.lt_of_le_of_lt (Nat.add_le_add (small _ _) (small _ _)) Ω)];obtain⟨z,C⟩:∃z,(y / 2 ^ 2 &&& 3689348814741910323)+(y &&& 3689348814741910323)=z:=⟨_,rfl⟩;rw[C];have C:je 3689348814741910323 y=z:=C;rw[C]at N A;rw[show(4:Int)=((4:Nat):Int)from rfl,mu Ω,s (z / 2 ^ 4) z Ω,show(1085102592571150095:Int)=((1085102592571150095:Nat):Int)from rfl,u64_and Ω Ω];have A:z / 2 ^ 4+z &&& 1085102592571150095=four (c4 a) (c4 b) (c4 c) (c4 d):=A;rw[A];obtain⟨j,E⟩:∃j,four (c4 a) (c4 b) (c4 c) (c4 d)=j:=⟨_,rfl⟩;rw[E]at ai ⊢;unfold four at E;rw[show(8:Int)=((8:Nat):Int)from rfl,mu Ω,s j (j / 2 ^ 8) Ω];obtain⟨r,O⟩:∃r,j+j / 2 ^ 8=r:=⟨_,rfl⟩;rw[O];rw[show(16:Int)=((16:Nat):Int)from rfl,mu Ω,s r (r / 2 ^ 16) Ω];obtain⟨f,P⟩:∃f,r+r / 2 ^ 16=f:=⟨_,rfl⟩;rw[P];rw[show(32:Int)=((32:Nat):Int)from rfl,mu Ω,s f (f / 2 ^ 32) Ω,fB fz.u aj.u,li Ω Ω,show(127:Int)=((127:Nat):Int)from rfl,E7 Ω Ω];refine⟨?_,Ext.refl _⟩;rw[ag,show 127=2 ^ 7-1 from rfl,Nat.and_two_pow_sub_one_eq_mod];have ak:j / 2 ^ 8=65536*c4 d+256*c4 c+c4 b:=Ω
 have am:r / 2 ^ 16=256*c4 d+(c4 c+c4 d):=Ω
 have Q:f / 2 ^ 32=0:=Ω
 have au:f=128*(131072*c4 d+512*(c4 c+c4 d)+2*(c4 b+c4 c+c4 d))+(c4 a+c4 b+c4 c+c4 d):=Ω
 have an:(f+f / 2 ^ 32) % 2 ^ 7=c4 a+c4 b+c4 c+c4 d:=by rw[Q];clear E O P ak am Q;omega
 rw[an]
theorem jj{b n:Nat}(a:mv b n):al x8 AD [kc b n] w λr I=>(∃q:Int,r=Δ q/\(q=0↔b=0))/\Ext w I:=by
 have e:b<4294967296:=by
  have:=a.2;have:(2:Nat) ^ n<=2 ^ 32:=S4 Ω a.1;omega
 refine aB func26 ?_;refine bo λg U s f h=>?_;rw[aL b3.p 0 h rfl];refine(Ge e).Y ?_;rintro _ aa _ ⟨rfl,j⟩;refine⟨⟨_,rfl,?_⟩,f.F j⟩;rw[<-Sy e];omega
def pU(ao:List aw)(w:x4)(ad ae:Nat)(A R:ah)(n:aI)(s:am)(a:fI)(r:x1)(I:x4):Prop:=r=Δ (bg n.k s a).2/\cM ao w ad ae A R n (bg n.k s a).1 I
section
variable{ao:List aw}{w:x4}{ad ae:Nat}{A R:ah}{n:aI}{s:am}{t:aw}{a:fI}
theorem cM.same(h:bt w ad ae A R n s t)(a:Laid w)(e:¬A 0)(f:dN ao t)(j:Ext w I):cM ao w ad ae A R n s I:=(dO.start (m:=w.heap.size) (D:=λ_=>False) h a e f j (p8 _)).done (Ext.refl _)
theorem cM.before{U:x4}{s':am}(a:Ext w U)(h:cM ao U ad ae A R n s' I):cM ao w ad ae A R n s' I:=by
 obtain⟨h1,e,aK,bn,f,j⟩:=h;exact⟨jp a h1,e,aK,bn,(Grow.W a).F f,j⟩
theorem y7{j pos u:Int}{f:ch}{x:bz}(h:dl s j pos v=σ (f,u,x)):∃p e u':Nat,j=p/\pos=e/\u=u'/\s.d7[p]?=σ f/\f.live≠0/\f.sc[e]?=σ (u':Int)/\s.d6[u']?=σ x/\v∈aC x/\∀q,f.sc[e]?=σ q->v∈bb s q:=by
 obtain⟨h1,z,A,B,a,C⟩:=mO h;obtain⟨E,r,F,w⟩:=jS C;obtain⟨j,rfl⟩:=V3 h1;obtain⟨pos,rfl⟩:=V3 z;obtain⟨u,rfl⟩:=V3 E;refine⟨j,pos,u,rfl,rfl,rfl,A,B,a,r,w,λu' y=>?_⟩;have a:f.sc[pos]?=σ (u:Int):=a;rw[a]at y;cases y;unfold bb;rw[r];exact w
theorem Gf(hk:a.kind=0)(h:bt w ad ae A R n s t)(y:Laid w)(C:¬A 0)(E:dN ao t):al x8 IC [Γ ad,Δ a.i,Δ a.pos,Δ a.v,Δ a.c] w (pU ao w ad ae A R n s a):=by
 have J:=h.2.2.2.1;refine aB func75 ?_;refine(y2 h).Y ?_;rintro _ U _ ⟨r,u,e,rfl,ac⟩;rw[bu,bw];have p:bg n.k s a=match dl s a.i a.pos a.v with
  |none=>(s,1)
  |some (f,u,x)=>if dd n.k a.c (ef n.k s f a.pos.toNat a.v)≠0 then(s,dd n.k a.c (ef n.k s f a.pos.toNat a.v))else(fZ s a.i.toNat f a.pos.toNat u.toNat x a.v (λg=>cU n.k g a.c) λg=>cm n.k g a.c,0):=by unfold bg;rw[m3 hk]<;>cases dl s a.i a.pos a.v<;>rfl
 rcases ac with⟨rfl,f,x,ac⟩|⟨rfl,ac⟩
 rotate_left
 .rw[ac]at p;rw[bF,ak];exact⟨λ_=>⟨by rw[p],by rw[p];exact cM.same h y C E r⟩,λh=>m6 Φ h⟩
 rw[ac]at p;rw[bF,ak];refine⟨λh=>m6 rfl h,λ_=>?_⟩;obtain⟨j,pos,u,T,V,W,G,K,hu,L,X,Y⟩:=y7 ac;have Z:=x6 G;simp only[T,V,W,u6]at p ⊢;refine(Gb (j:=j) (pos:=pos) (h.W r) (y.W r) G K Y).Y ?_;rintro _ aa _ ⟨rfl,M⟩;refine(vu (h.W (r.F M))).Y ?_;rintro _ aj _ ⟨ab,rfl⟩;have z:=(r.F M).F ab;refine cW (λI=>cM ao w ad ae A R n (bg n.k s a).1 I) ?_ λay N=>?_
 .intro I af;refine⟨?_,af⟩;rw[p];split
  .rfl
  .rename_i q;rw[X5.1 q]
 rw[bk,ak];refine⟨λq=>?_,λq=>N _ ?_⟩
 .obtain⟨B,hm⟩:=lr (λh=>h q);rw[di (cs:=#[.func (.func oW) #[] #[],.func (.func oX) #[] #[]]) Ψ];have O:∀t∈bX s f.sc pos a.v,a.c<=br f.ai f.cs t:=λt ag=>((oz _ _ _).1 hm).2 _ (j0.2 ⟨t,ag,rfl⟩);have P:=il (v:=a.v.toNat) J L;refine(Gd (t:=t) (F1:=oW) (F2:=oX) (tup:=λg=>cU n.k g a.c) (un:=λg=>cm n.k g a.c) (h.W z) (y.W z) C E G K hu L X (λtl Q=>?_) ⟨oB P B.1,λ{w A s t}H=>sN H P B⟩).Y ?_
  .have S:=nF (t:=tl) J Z;exact⟨oA S ⟨B.1,O tl Q⟩,λ{w A s t}H=>vv H S B (.inr (O tl Q))⟩
  .rintro _ am _ ah;refine N _ ?_;rw[p,m5 (λh=>h q)];exact ah.before z
 .rw[p,m3 q];exact cM.same h y C E z
theorem Sz(hk:a.kind=1)(h:bt w ad ae A R n s t)(C:Laid w)(E:¬A 0)(G:dN ao t):al x8 ID [Γ ad,Δ a.i,Δ a.pos,Δ a.v,Δ a.c] w (pU ao w ad ae A R n s a):=by
 have H:=h.2.2.2.1;refine aB func76 ?_;refine(y2 h).Y ?_;rintro _ U _ ⟨r,u,e,rfl,ac⟩;rw[bu,bw];have p:bg n.k s a=match dl s a.i a.pos a.v with
  |none=>(s,1)
  |some (f,u,x)=>if dd n.k a.c (x.un.getD a.v.toNat 0)≠0 then(s,dd n.k a.c (x.un.getD a.v.toNat 0))else(fZ s a.i.toNat f a.pos.toNat u.toNat x a.v (λg=>cm n.k g a.c) λg=>cU n.k g a.c,0):=by unfold bg;rw[m5 Ω,m3 hk]<;>cases dl s a.i a.pos a.v<;>rfl
 rcases ac with⟨rfl,f,x,ac⟩|⟨rfl,ac⟩
 rotate_left
 .rw[ac]at p;rw[bF,ak];exact⟨λ_=>⟨by rw[p],by rw[p];exact cM.same h C E G r⟩,λh=>m6 Φ h⟩
 rw[ac]at p;rw[bF,ak];refine⟨λh=>m6 rfl h,λ_=>?_⟩;obtain⟨j,pos,u,Q,S,T,K,V,hu,y,L,af⟩:=y7 ac;have W:=x6 K;simp only[Q,S,T,u6]at p ⊢;refine(pJ (i:=(u:Int)) (v:=a.v) (h.W r)).Y ?_;rintro _ aa _ ⟨rfl,M⟩;have X:fj s (u:Int).toNat a.v.toNat=x.un.getD a.v.toNat 0:=by
  unfold fj;rw[u6,y]
 rw[m3 (pT H y L),X,bu,bw];refine(vu (h.W (r.F M))).Y ?_;rintro _ ag _ ⟨Y,rfl⟩;have z:=(r.F M).F Y;refine cW (λI=>cM ao w ad ae A R n (bg n.k s a).1 I) ?_ λay N=>?_
 .intro I Z;refine⟨?_,Z⟩;rw[p];split
  .rfl
  .rename_i q;rw[X5.1 q]
 rw[bk,ak];refine⟨λq=>?_,λq=>N _ ?_⟩
 .obtain⟨B,hm⟩:=lr (λh=>h q);rw[di (cs:=#[.func (.func oX) #[] #[],.func (.func oW) #[] #[]]) Ψ];have O:=il (v:=a.v.toNat) H y;refine(Gd (t:=t) (F1:=oX) (F2:=oW) (tup:=λg=>cm n.k g a.c) (un:=λg=>cU n.k g a.c) (h.W z) (C.W z) E G K V hu y L (λtl ah=>?_) ⟨oA O ⟨B.1,hm⟩,λ{w A s t}J=>vv J O B (.inr hm)⟩).Y ?_
  .have P:=nF (t:=tl) H W;exact⟨oB P B.1,λ{w A s t}J=>sN J P B⟩
  .rintro _ ai _ ab;refine N _ ?_;rw[p,m5 (λh=>h q)];exact ab.before z
 .rw[p,m3 q];exact cM.same h C E G z
end
def io(s:am)(i:Int):Option bz:=match(if 0<=i then s.d6[i.toNat]? else ν)with
 |some x=>if x.gone=0 then σ x else ν
 |none=>ν
theorem y8{s:am}{i:Int}{x:bz}(h:io s i=σ x):0<=i/\s.d6[i.toNat]?=σ x/\x.gone=0:=by
 unfold io at h;by_cases a:0<=i
 .rw[m3 a]at h;cases e:s.d6[i.toNat]? with
  |none=>rw[e]at h;cases h
  |some y=>
   rw[e]at h;simp only at h;split at h
   .rename_i f;cases h;exact⟨a,rfl,f⟩
   .cases h
 .rw[m5 a]at h;cases h
theorem Gg{g:Int->Int}{L:Λ}(h:L[j]?=σ v):ec g un (L.take (j+1))=(ec g un (L.take j)).set v.toNat (g ((ec g un (L.take j)).getD v.toNat 0)):=by
 unfold ec;rw[r8,h,o9,Q0];rfl
theorem Gh{i:Nat}{v:Int}:∀(L M:Λ)(s:am),gw s i v (L++M)=gw (gw s i v L) i v M
 |[],_,_=>rfl
 |w::L,M,s=>by
  rw[List.cons_append,gw,gw];exact Gh L M _
theorem SA{s:am}{i:Nat}{w:Int}{L:Λ}(h:L[j]?=σ w):gw s i v (L.take (j+1))=if w≠v then dL (gw s i v (L.take j)) i w.toNat else gw s i v (L.take j):=by
 rw[r8,h,o9,Gh];rfl
def lx(m u:Int):Int:=if m<0\/u<m then u else m
theorem Gi:∀(l:Λ)(m:Int),0<=m->(∀c∈l,0<=c)->l.foldl lx m=l.foldl min m
 |[],_,_,_=>rfl
 |c::l,m,hm,a=>by
  have f:=a c (.head _);have e:lx m c=min m c:=by unfold lx;split<;>omega
  rw[V8,V8,e];exact Gi l _ Ω λc h=>a c (.tail _ h)
theorem SB{x:bz}(h:∀v∈aC x,0<=x.un.getD v.toNat 0):((aC x).map λv=>x.un.getD v.toNat 0).foldl lx (-1)=jb x:=by
 unfold jb;have a:∀c∈(aC x).map (λv=>x.un.getD v.toNat 0),0<=c:=λc e=>by
  obtain⟨v,f,rfl⟩:=j0.1 e;exact h v f
 generalize (aC x).map (λv=>x.un.getD v.toNat 0)=l at a;cases l with
 |nil=>rfl
 |cons c l=>exact Gi l c (a c (.head _)) λc h=>a c (.tail _ h)
section
variable{ao:List aw}{w:x4}{ad ae:Nat}{A R:ah}{n:aI}{s:am}{t:aw}{a:fI}
theorem Gj{i:Int}(h:bt w ad ae A R n s t):al x8 Jp [Γ ad,Δ i] w λr I=>Ext w I/\r=Δ (if(io s i).isSome=ro then 0 else 1):=by
 have p:=h.2.2.2.1;have O:=p.d6;refine aB func152 ?_;rw[cR dx.u];simp only[Z3,aX];refine aV (λr U=>r= .bool (!(io s i).isSome)/\Ext w U) ?_ ?_
 .rintro _ U ⟨rfl,C⟩;rw[bY];exact⟨λq=>⟨C,by rw[m5 (by simpa using q)]⟩,λq=>⟨C,by rw[m3 (by simpa using q)]⟩⟩
 intro ay E;refine(sB h).Y ?_;rintro _ aa _ ⟨rfl,y⟩;rw[bY];refine⟨λa=>E _ _ ⟨?_,y⟩,λa=>?_⟩
 .rw[T1,ne]at a;have K:io s i=ν:=by
   unfold io;rw[m3 a.1];have B:=a.2;unfold du at B;cases f:s.d6[i.toNat]? with
   |none=>rfl
   |some x=>
    rw[f]at B;simp only;rw[m5 λh=>by simp[h]at B]
  rw[K];rfl
 refine(jP (i:=i) (h.W y)).Y ?_;rintro _ P _ ⟨⟨b,m,rfl,G⟩,L⟩;refine(xf).Y ?_;rintro _ Q _ ⟨rfl,M⟩;rw[bk];refine E _ _ ⟨?_,(y.F L).F M⟩;congr 1;by_cases j:0<=i/\i<n.co.length
 .obtain⟨x,f⟩:=aF (l:=s.d6) (i:=i.toNat) Ω;obtain⟨z,H⟩:=aF (l:=n.co) (i:=i.toNat) Ω;have S:=p.eD.2.2 z (x6 H);have V:=(p.var _ x z f H).1;have hm:=(G.2.2 x j.1 f).1;have N:x.gone=0:=by
   rw[m7 j.1,S0]at a;unfold du at a;rw[f]at a;simpa using a
  have e:io s i=σ x:=by
   unfold io;rw[m3 j.1,f];simp only;rw[m3 N]
  rw[e,ms Ω];rfl
 .obtain⟨rfl,rfl⟩:=G.2.1 j;have e:io s i=ν:=by
   unfold io;by_cases J:0<=i
   .rw[m3 J,Y4 Ω]
   .rw[m5 J]
  rw[e];rfl
theorem Gk{u:Nat}{x:bz}{F1 F2:Q9}{g z:Int->Int}(h:bt w ad ae A R n s t)(aB:Laid w)(a2:¬A 0)(a6:dN ao t)(a:s.d6[u]?=σ x)(h1:∀v∈aC x,(0<=g (x.un.getD v.toNat 0)/\g (x.un.getD v.toNat 0)<=n.k)/\∀{w:x4}{A:ah}{s:am}{t:aw},bt w ad ae A R n s t->al x8 F1 [Γ ad,Δ (x.un.getD v.toNat 0),Δ c] w λr I=>r=Δ (g (x.un.getD v.toNat 0))/\Ext w I)(aE:(0<=z s.zero/\z s.zero<=n.k)/\∀{w:x4}{A:ah}{s':am}{t:aw},bt w ad ae A R n s' t->al x8 F2 [Γ ad,Δ s.zero,Δ c] w λr I=>r=Δ (z s.zero)/\Ext w I):
  al x8 Jq [Γ ad,Δ (u:Int),Δ c,.func (.func F1) #[] #[],.func (.func F2) #[] #[]] w λ_ I=>cM ao w ad ae A R n (iC s u x g z) I:=by
 have a7:=h.2.2.2.1;have W:=(x5.1 a).1;refine iK func153 ?_;refine bo λg1 U bA aF f=>?_;refine bo λa8 aa bB X q=>?_;refine bo λbC bD bE J C=>?_;refine bo λbF B bG K L=>?_;have f:ag B g1 dx [Γ ad]:=((ag.W f X).W J).W K;have q:ag B a8 aj [Δ (u:Int)]:=(ag.W q J).W K;have C:=ag.W C K;have L:=L;have M:=((aF.F X).F J).F K;have bH:=aF.size;have bI:=X.size;have z3:=J.size;have bJ:=M.size;have N:=f.lt;have aG:=q.lt;have aH:=C.lt;have ba:=L.lt;rw[aD Ψ (f.cell rfl),aD Ψ (q.cell rfl)];refine(jP (i:=(u:Int)) (h.W M)).Y ?_;rintro _ bK _ ⟨⟨b,bL,rfl,aI⟩,aJ⟩;refine(ns).Y ?_;rintro _ Y _ ⟨bb,aL,rfl,bM,aM⟩;have aN:=ln aI Ω (show s.d6[(u:Int).toNat]?=σ x by rw[u6];exact a);have E:=aJ.F bb;have z5:=aJ.size;have z46:=E.size;have bN:=aM.lt;have aO:=sJ x;have bc:eY s u x (ec g x.un ((aC x).take 0))=s:=by
  unfold eY;show{s with d6:=s.d6.set u x}=s;have:s.d6.set u x=s.d6:=by
   apply X3;intro i;by_cases e:u=i
   .subst e;rw[l9 W,a]
   .rw[Z9 e]
  rw[this]
 refine kX.old ⟨_,rs,jX,#[Γ aL],_,_,_,_,λj I=>dO ao w ad ae A R n w.heap.size (λr=>Y.heap.size<=r) (eY s u x (ec g x.un ((aC x).take j))) I/\af (λr=>r<w.heap.size\/Y.heap.size<=r) Y I,λ_ _ _=>False,rfl,(nr (g:=aL) aI.1).s,?_,
  λ_ _ a h=>⟨h.1.W a,h.2.W a⟩,λ_ _ _ a h=>⟨h.1.W a,h.2.F (a.V _)⟩,λ_ _ _ _ _ h=>h,⟨aM,aB.W (M.F E)⟩,?_,?_,?_,λ_ _ h=>h.elim,λ_ _ _ h=>h.elim⟩
 .rintro _ _ _ _ ⟨_,_,_,_,rfl⟩;rfl
 .refine⟨?_,af.refl _ _⟩;rw[bc];exact dO.start h aB a2 a6 (M.F E) (p8 _)
 .rintro _ j _ bd ⟨be,bO⟩ ⟨bP,rfl,v,bf,bg⟩ ⟨O,G⟩;cases bg;intro bQ P _ _;have Z:(aC x)[j]?=σ (v:Int):=by rw[<-aN,v8,bf];rfl
  have aP:=x6 Z;have aZ:∀{H:x4}{g:Nat}{e:p9}{cs:List x1},Ext bd H->w.heap.size<=g->g<B.heap.size->ag B g e cs->ag H g e cs:=λa aQ aR ab=>((ab.W E).V G Ω).W a;obtain⟨bR,bS,ac,aS,ai⟩:=O.open;have aT:et n (u:Int) (v:Int):=pT a7 a aP;have bh:∀y∈aC x,0<=y/\y<x.un.length:=λy ak=>(eZ.1 ak).1;have an:=vn (g:=g) ((aC x).take j) x.un (v:Int) (aO.sublist (List.take_sublist _ _)) (λy ak=>bh y (U3 ak)) Ω;rw[m5 (y0 aO Z)]at an;have bi:fj (eY s u x (ec g x.un ((aC x).take j))) (u:Int).toNat (v:Int).toNat=x.un.getD (v:Int).toNat 0:=by
   unfold fj eY;rw[u6,l9 W];exact an
  rw[aD Ψ ((aZ P Ω N f).cell rfl),aD Ψ ((aZ P Ω aG q).cell rfl)];refine(pJ (ac.W P)).Y ?_;rintro _ bT _ ⟨rfl,bj⟩;rw[m3 aT,bi,bu,bw];intro bk bl _ _;have p:=(P.F bj).F bl;rw[aD Ψ ((aZ p Ω N f).cell rfl),aD Ψ ((aZ p Ω aG q).cell rfl),
   aD Ψ ((aZ p Ω ba L).cell rfl),aD Ψ ((aZ p Ω N f).cell rfl),aD Ψ ((aZ p Ω aH C).cell rfl)]
  show al x8 F1 [Γ ad,Δ (x.un.getD (v:Int).toNat 0),Δ c] bk _;obtain⟨bm,bn⟩:=h1 v aP;refine(bn (ac.W p)).Y ?_;rintro _ bU _ ⟨rfl,aU⟩;have ap:=p.F aU;refine⟨.inl aU,(Fl (ac.W ap) aS.room).Y ?_⟩;rintro r bV _ ⟨_,_,aq⟩;obtain⟨_,au,aK,bp,bq,av,Q⟩:=aq aT bm;have e:l2 (eY s u x (ec g x.un ((aC x).take j))) (u:Int).toNat (v:Int).toNat (g (x.un.getD (v:Int).toNat 0))=eY s u x (ec g x.un ((aC x).take (j+1))):=by
   rw[Gg Z,an];unfold l2 eY;rw[u6,l9 W];simp only[List.set_set]
  rw[e]at Q;have bW:=G.size;obtain⟨aV,aW,bX⟩:=ai (jp ap au) ((Grow.W ap).F av) Q aS.set (λr h=>h) λr aQ aR=>Ω
  exact⟨⟨be.V aW Ω,aV.2.1.1⟩,⟨aV,G.F aW⟩,λh=>by cases h⟩
 .rintro k br rfl ⟨O,G⟩;rw[j5 (by rw[<-aN,u9];exact p8 _)]at O;obtain⟨bY,bZ,ax,aX,ai⟩:=O.open;have aZ:∀{H:x4}{g:Nat}{e:p9}{cs:List x1},Ext br H->w.heap.size<=g->g<B.heap.size->ag B g e cs->ag H g e cs:=λa aQ aR ab=>((ab.W E).V G Ω).W a;intro b0 S _ _;have ay:=aZ S Ω N f;rw[aD Ψ (ay.cell rfl),aD Ψ (ay.cell rfl),aD Ψ (ay.cell rfl),aD Ψ ((aZ S Ω aH C).cell rfl)];refine(sz (ax.W S)).Y ?_;rintro _ bs _ ⟨rfl,az⟩;have aY:=S.F az;refine⟨.inl az,?_⟩;show al x8 F2 [Γ ad,Δ s.zero,Δ c] bs _;refine(aE.2 (ax.W aY)).Y ?_;rintro _ b1 _ ⟨rfl,a1⟩;have aA:=aY.F a1;refine⟨.inl (az.F a1),(QQ (ax.W aA) aX.room).Y ?_⟩;rintro r b2 _ ⟨_,aq⟩;obtain⟨_,au,aK,bp,bq,av,Q⟩:=aq aE.1;intro b3 bx _;exact(ai (jp aA au) ((Grow.W aA).F av) Q aX.set (λ_ _=>trivial) λ_ _ _=>trivial).1.done bx
end
section
variable{w:x4}{ad ae an:Nat}{A R:ah}{A9:Nat->ah}{aE:ah}{n:aI}{s u:am}{t:aw}{h:List aw}{cs:List x1}{a:fI}
theorem SC(hk:a.kind<2):bg n.k u a=match dl u a.i a.pos a.v with
  |none=>(u,1)
  |some (f,v,x)=>if dd n.k a.c (if a.kind=1 then x.un.getD a.v.toNat 0 else ef n.k u f a.pos.toNat a.v)≠0 then(u,dd n.k a.c (if a.kind=1 then x.un.getD a.v.toNat 0 else ef n.k u f a.pos.toNat a.v))
   else(fZ u a.i.toNat f a.pos.toNat v.toNat x a.v (λg=>if a.kind=0 then cU n.k g a.c else cm n.k g a.c) λg=>if a.kind=0 then cm n.k g a.c else cU n.k g a.c,0):=by
 unfold bg;by_cases e:a.kind=0
 .rw[m3 e];simp only[e];cases dl u a.i a.pos a.v<;>rfl
 .have h1:a.kind=1:=Ω
  rw[m5 e,m3 h1];simp only[h1];cases dl u a.i a.pos a.v<;>rfl
theorem getD_some{i:Nat}(h:i<l.length):l[i]?=σ (l.getD i 0):=by
 rw[u4,x7 h];rfl
theorem SD(p:cf w ad ae an A R A9 aE n s u t h cs)(G:bd n.k n.co u)(bQ:b2 u)(hk:a.kind<2):al x8 wE [Γ an,Δ (a.kind:Int),Δ a.i,Δ a.pos,Δ a.v,Δ a.c] w λr I=>r=Δ (bg n.k u a).2/\dw w ad ae an A R A9 aE n s t h (bg n.k u a).1 I:=by
 have C:=SC (n:=n) (u:=u) hk;have c3:=G.d6;have bS:=G.ft;refine aB func74 ?_;have bT:cs[0]?=σ (Δ n.k):=by obtain⟨_,_,_,_,_,_,rfl,_⟩:=p.pP;rfl
 rw[aG a6.p 0 p.box bT,aR,ak];refine⟨λ_=>?_,λh=>Ω⟩;rw[bL];refine p.look.load λdD bU=>?_;refine(Se bU G bQ).Y ?_;rintro _ U _ ⟨aC,rfl⟩;cases ac:dl u a.i a.pos a.v with
 |none=>
  rw[ac]at C;simp only;rw[bu,bw,bC,W7,bH];exact⟨by rw[C],by rw[C];exact dw.same p aC⟩
 |some q=>
 obtain⟨f,P,x⟩:=q;rw[ac]at C;simp only;rw[bu,bw,bC,X1,aX];obtain⟨j,pos,P,bV,bW,b0,Q,c4,hu,M,b1,aU⟩:=y7 ac;have aI:=x6 Q;simp only[bV,bW,b0,u6]at C ⊢;have b3:=(x5.1 Q).1;have bn:=(x5.1 M).1;have b4:=(x5.1 hu).1;obtain⟨b5,c5⟩:=lq G aI;have b6:=FX G aI aU;have b7:=(eZ.1 b1).1;obtain⟨v,S⟩:=V3 b7.1;have bo:=il (v:=a.v.toNat) G M;have aJ:=p.W aC;have bp:∀{aa:x4}{fh:am}{bq:List x1}{bs:Nat->ah}{f2:ch},cf aa ad ae an A R bs aE n s fh t h bq->fh.d7[j]?=σ f2->∃W cap Y aW y,bq[6]?=σ (.slice (σ ⟨W,0,ν⟩) fh.d7.length cap)/\j<fh.d7.length/\aa.cell? ⟨W,0+j*4+0+0,ν⟩=σ Y/\aa.cell? ⟨W,0+j*4+0+2,ν⟩=σ y/\aM .i64 aa Y f2.sc/\aM .i64 aa y f2.cs/\
   ∀{I:x4}{m:Nat}{c:Int}{K:Unit->x4->Prop},Ext aa I->m<f2.cs.length->(∀bt,dw aa ad ae an A R bs aE n s t h (eu fh j f2 (f2.cs.set m c)) bt->K () bt)->ab x8 (Z0 ax y (Δ (m:Int))) I λa=>aH x8 (n9 au a (Δ c)) I K:=λb8 aK=>by
  obtain⟨W,cap,Y,aW,y,b9,bx,ca,cb,X⟩:=Sg b8 aK;exact⟨W,cap,Y,aW,y,b9,(x5.1 aK).1,by rw[W0];exact bx 0 _ rfl,by rw[W0];exact bx 2 _ rfl,ca,cb,X⟩
 obtain⟨W,c6,Y,aW,c7,ce,cg,ci,_,cj,_,_⟩:=bp aJ Q;rw[aG a6.p 6 aJ.box ce,fd fm.u ew.i cg λ_=>rfl,aT ew.p rfl,aT a8.p rfl,aD Ψ ci,bi aq.u aj.i Ψ cj hu];generalize bz:(if a.kind=1 then x.un.getD a.v.toNat 0 else ef n.k u f pos a.v)=most at C;refine aV (λr aa=>r=Δ most/\Ext w aa) ?_ λay bA=>?_
 rotate_left
 .rw[bk,ak];refine⟨λh1=>?_,λh1=>bA _ _ ⟨by rw[<-bz,m5 Ω],aC⟩⟩;have h1:a.kind=1:=Ω
  obtain⟨aZ,bB,y,a1,a2,aL,_⟩:=y6 aJ M;rw[aG a6.p 5 aJ.box a1,fd ev.u ax.i bn λ_=>rfl,aD Ψ (by rw[W0,T5];exact a2),S,bi ax.u au.i Ψ aL (getD_some Ω)];refine bA _ _ ⟨?_,aC⟩;rw[<-bz,m3 h1,S,u6]
 rintro _ aa ⟨rfl,ck⟩;refine Bv.Y ?_;rintro _ c8 _ ⟨rfl,cl⟩;have Z:=ck.F cl;have bD:cC a.c n.k↔0<=a.c/\a.c<=n.k:=⟨λh=>h.2,λaK=>⟨bS,aK⟩⟩;rw[bC,bY];refine⟨λag=>?_,λag=>?_⟩
 .have cn:¬cC a.c n.k:=by simpa using ag
  have E:dd n.k a.c most=3:=by unfold dd;rw[m3 λh=>cn (bD.2 h)]
  rw[m3 (by rw[E];decide),E]at C;exact⟨by rw[C],by rw[C];exact dw.same p Z⟩
 have bE:=bD.1 (show cC a.c n.k by simpa using ag);rw[bO,ak];refine⟨λcp=>?_,λcq=>?_⟩
 .have E:dd n.k a.c most=7:=by unfold dd;rw[m5 (λh=>h bE),m3 cp]
  rw[m3 (by rw[E];decide),E]at C;exact⟨by rw[C],by rw[C];exact dw.same p Z⟩
 have E:dd n.k a.c most=0:=by unfold dd;rw[m5 (λh=>h bE),m5 cq]
 rw[m5 (λh=>h E)]at C;have cr:=p.W Z;rw[bL];refine cr.look.load λc9 ct=>?_;refine(y5 ct G Q b4 aU).Y ?_;rintro aS a7 _ ⟨cu,ba,cw⟩;have bF:=Z.F cu;rw[aY aq.u ba];have bG:(kp u f pos a.v).length=(bX u f.sc pos a.v).length:=by unfold kp;rw[u9]
 rw[bG];obtain⟨tup,bb⟩:∃tup:Int->Int,tup=λg=>if a.kind=0 then cU n.k g a.c else cm n.k g a.c:=⟨_,rfl⟩;obtain⟨un,bc⟩:∃un:Int->Int,un=λg=>if a.kind=0 then cm n.k g a.c else cU n.k g a.c:=⟨_,rfl⟩;rw[<-bb,<-bc]at C;have cz:=p.olds.W bF;have da:=p.box.lt;have db:=Z.size;have cA:∀{I:x4},af (λr=>(∃q,A9 q r/\r<w.heap.size)\/r=an) a7 I->aM .i64 I aS (kp u f pos a.v):=λcB=>jk ba cB λr E b n c e ag=>by
  have:=cw r ⟨b,n,c,e,ag⟩;rcases E with⟨q,E⟩|E
  .have:=E.2;omega
  .omega
 refine bZ.range (bX u f.sc pos a.v).length (λq I=>dw a7 ad ae an A R (λq r=>A9 q r/\r<w.heap.size) aE n s t h (eu u j f (dT tup ((bX u f.sc pos a.v).take q) f.ai f.cs)) I) (by rw[<-bG];exact ba.le) ?_ ?_ ?_
 .rw[List.take_zero,Gc G Q];exact dw.same cz (Ext.refl _)
 .rintro q ao cD cE aN cF;obtain⟨tl,be⟩:=aF (l:=bX u f.sc pos a.v) cE;obtain⟨m,hm⟩:=qT G aI aU (x6 be);have cG:(kp u f pos a.v)[q]?=σ (m:Int):=by
   unfold kp;rw[v8,be];unfold nH;rw[Y3,hm];rfl
  obtain⟨bJ,bK⟩:=FY G Q b6 be hm;have cH:=(x5.1 (nu b5 hm)).1;have dc:m<f.cs.length:=by rw[u6]at cH;omega
  obtain⟨X,cI,bM,O,bf⟩:=id aN;obtain⟨cd,bN⟩:∃cd,cd=dT tup ((bX u f.sc pos a.v).take q) f.ai f.cs:=⟨_,rfl⟩;have de:cd.length=f.cs.length:=by rw[bN,pK _ _ _ _ Ω]
  rw[<-bN]at O bJ bK;have bP:(eu u j f cd).d7[j]?=σ {f with cs:=cd}:=l9 b3;obtain⟨aP,cJ,df,dg,cK,cL,cM,_,bh,_,cN,cO⟩:=bp O bP;have cP:cd[m]?=σ (br f.ai f.cs tl):=by
   rw[getD_some Ω,<-bJ];unfold br;rw[hm];simp
  have dh:=nF (t:=tl) G aI;have di:bM[0]?=σ (Δ n.k):=by obtain⟨_,_,_,_,_,_,rfl,_⟩:=O.pP;rfl
  have cQ:=cA X;refine bI Ω ?_;refine cW (λH=>dw a7 ad ae an A R (λq r=>A9 q r/\r<w.heap.size) aE n s t h (eu u j f (dT tup ((bX u f.sc pos a.v).take (q+1)) f.ai f.cs)) H) (λH N=>by rw[aO];exact cF _ N) λcR cS=>?_;have ap:∀{J:x4},Ext ao J->ab x8 (Z0 ax cK (Δ (m:Int))) J λa'=>aH x8 (n9 au a' (Δ (tup (br f.ai f.cs tl)))) J λ(_:Unit)H=>cR H:=λbj=>by
   refine cO bj (by show m<cd.length;omega) λH N=>cS _ (dw.comp X bf ?_);have cT:eu (eu u j f cd) j {f with cs:=cd} (cd.set m (tup (br f.ai f.cs tl)))=l3 (eu u j f cd) j m (tup (br f.ai f.cs tl)):=by unfold l3;rw[bP];rfl
   rw[cT,bK]at N;exact N
  have row:∀{z:x4}{K:x1->x1->x1->x1->x1->x1->Prop},Ext ao z->K (Γ an) (.pointer (σ ⟨an,0+6,ν⟩)) (.slice (σ ⟨aP,0,ν⟩) (eu u j f cd).d7.length cJ) (.pointer (σ ⟨aP,0+j*4,ν⟩)) (.pointer (σ ⟨aP,0+j*4+0,ν⟩)) (.pointer (σ ⟨aP,0+j*4+0+2,ν⟩))->
    ab x8 (bR (Γ an)) z λav=>ab x8 (u7 a6 av 6) z λaw=>ab x8 (u5 fm aw) z λaz=>ab x8 (Z0 fm az (Δ (j:Int))) z λaA=>ab x8 (u7 ew aA 0) z λaQ=>ab x8 (u7 a8 aQ 2) z λcV=>K av aw az aA aQ cV:=λM bl=>by
   rw[aG a6.p 6 (O.box.W M) cL,fd fm.u ew.i cM λ_=>rfl,aT ew.p rfl,aT a8.p rfl];exact bl
  rw[bi aq.u aj.i Ψ cQ cG];refine row (Ext.refl _) ?_;rw[aD Ψ bh,bi ax.u au.i Ψ cN cP,bk,ak];refine⟨λbm=>?_,λbm=>?_⟩
  .intro z B _ _;refine row B ?_;rw[aD Ψ (j2 B bh)];refine(vy Ω Ω).Y ?_;rintro _ J _ ⟨rfl,L⟩;refine⟨.inl L,?_⟩;have:=ap (B.F L);rw[bb]at this;simp only[m3 (show a.kind=0 by omega)]at this;exact this
  .intro z B _ _;refine row B ?_;rw[aD Ψ (j2 B bh)];refine(pu Ω Ω).Y ?_;rintro _ J _ ⟨rfl,L⟩;refine⟨.inl L,?_⟩;have:=ap (B.F L);rw[bb]at this;simp only[m5 (show¬a.kind=0 by omega)]at this;exact this
 .rintro ao cD aN;rw[o6]at aN;refine cc Ω ?_;obtain⟨X,cI,bM,O,bf⟩:=id aN;have cX:(eu u j f (dT tup (bX u f.sc pos a.v) f.ai f.cs)).d6[P]?=σ x:=M;obtain⟨aZ,bB,y,a1,a2,aL,cY⟩:=y6 O cX;refine cW (λH=>dw w ad ae an A R A9 aE n s t h (fZ u j f pos P x a.v tup un) H) (λH N=>⟨by rw[C],by rw[C];exact N⟩) λcZ c0=>?_;have c1:P<(eu u j f (dT tup (bX u f.sc pos a.v) f.ai f.cs)).d6.length:=bn;have row:∀{z:x4}{K:x1->x1->x1->x1->x1->Prop},Ext ao z->K (Γ an) (.pointer (σ ⟨an,0+5,ν⟩)) (.slice (σ ⟨aZ,0,ν⟩) (eu u j f (dT tup (bX u f.sc pos a.v) f.ai f.cs)).d6.length bB) (.pointer (σ ⟨aZ,0+P*1,ν⟩)) y->
    ab x8 (bR (Γ an)) z λav=>ab x8 (u7 a6 av 5) z λaw=>ab x8 (u5 ev aw) z λaz=>ab x8 (Z0 ev az (Δ (P:Int))) z λaA=>ab x8 (u5 ax aA) z λaQ=>K av aw az aA aQ:=λM bl=>by
   rw[aG a6.p 5 (O.box.W M) a1,fd ev.u ax.i c1 λ_=>rfl,aD Ψ (by rw[W0,T5];exact j2 M a2)];exact bl
  have ap:∀{J:x4},Ext ao J->ab x8 (Z0 ax y (Δ (v:Int))) J λa'=>aH x8 (n9 au a' (Δ (un (x.un.getD v 0)))) J λ(_:Unit)H=>cZ H:=λbj=>by
   refine cY bj Ω λH N=>c0 _ ?_;have c2:=dw.comp X bf N.F6;have:=dw.comp (bF.V _) (λq r E=>.inl ⟨q,E.1⟩) c2;unfold fZ;rw[show a.v.toNat=v by omega];exact this
  rw[bk,ak];refine⟨λbm=>?_,λbm=>?_⟩
  .intro z B _ _;refine row B (row B ?_);rw[S,bi ax.u au.i Ψ (aL.W B) (getD_some Ω)];rw[S,u6]at bo;refine(pu Ω Ω).Y ?_;rintro _ J _ ⟨rfl,L⟩;refine⟨.inl L,?_⟩;have:=ap (B.F L);rw[bc]at this;simp only[m3 (show a.kind=0 by omega)]at this;exact this
  .intro z B _ _;refine row B (row B ?_);rw[S,bi ax.u au.i Ψ (aL.W B) (getD_some Ω)];rw[S,u6]at bo;refine(vy Ω Ω).Y ?_;rintro _ J _ ⟨rfl,L⟩;refine⟨.inl L,?_⟩;have:=ap (B.F L);rw[bc]at this;simp only[m5 (show¬a.kind=0 by omega)]at this;exact this
end
end Go.Proofs.YtnhkbjhpbbobaaaGreatDoor
