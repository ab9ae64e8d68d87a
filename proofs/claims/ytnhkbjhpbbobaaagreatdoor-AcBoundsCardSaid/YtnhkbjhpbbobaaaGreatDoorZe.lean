/- own texts, made small by a tool (wip/ holds them as they were written): no statement of the seat. -/
import Derived.Test.YtnhkbjhpbbobaaaGreatDoorZd
set_option linter.unusedVariables false
set_option linter.unusedSimpArgs false
set_option linter.unnecessarySimpa false
open Array renaming getElem?_eq_some_iff→b8
open Bool renaming false→v6,true→v2,not_true→X3,not_false→W6,or_eq_false_iff→U1,eq_iff_iff→U8,and_eq_true→U9,true_and→Q4
open Decidable renaming not_not→X5
open Go renaming Value→x4,World→x5,TypeId→o5,IntKind→j0,Program→V3,FuncId→Q6
open Go.Addr renaming add_mid→T9
open Go.Builtin renaming append_→Z9
open Go.Instr renaming loadAt→u6,fieldAt→u7,storeAt→l9,indexAt→c9,buildSlice→X2,sliceAt→U4
open Go.Proofs.Tryz renaming prog→v8
open Int renaming toNat_natCast→u9,eq_ofNat_of_zero_le→V9,le_refl→S0
open List renaming getElem?_eq_some_iff→x6,mem_of_getElem?→x7,getElem?_eq_getElem→x8,getElem?_map→u4,getD_eq_getElem?_getD→u5,length_map→r8,take_add_one→r9,replicate→o6,length_set→o7,length_take→o8,length_append→o9,getElem?_set_self→n9,take_length→j4,mem_map→j5,mem_append→j9,mem_singleton→b9,take_of_length_le→Z0,map_append→Z3,eq_nil_of_length_eq_zero→Z5,getElem?_set_ne→Z6,getElem?_append_right→Z7,length_cons→Y0,getElem?_append_left→Y4,getElem?_eq_none→Y5,getElem?_take_of_lt→Y6,getElem?_set→Y7,ext_getElem?→X0,mem_iff_getElem?→X8,range→X9,drop_eq_getElem_cons→W3,mem_or_eq_of_mem_set→W8,length_eq_one_iff→V4,foldl_cons→V5,flatMap_cons→V6,mem_cons→V7,append_nil→U2,pairwise_iff_getElem→U5,mem_of_mem_take→T1,map_set→T2,map_cons→T3,length_singleton→T5,foldl_append→S3,map_map→S6,mem_filter→S9,getElem?_drop→R3,sum_cons→R6,length→Q2,getElem_mem→Q9
open Nat renaming le_refl→o4,le_trans→X1,mul_le_mul_right→X4,zero_add→X6,sub_self→V2,add_mul→U6,mul_one→T0,lt_of_lt_of_le→S4,pow_le_pow_right→S5,add_assoc→Q3,add_sub_cancel_left→Q5
open Ne renaming symm→R7
open Option renaming toList_some→j6,isNone_some→Y2,map_some→Y3,map_eq_some_iff→Y9,getD_some→W7,map→U7,isSome_some→R2,isSome_none→Q1
open Option.some renaming inj→Z4
set_option maxHeartbeats 16000000
open Option renaming some→σ,none→ν
variable{a aj cs l sc co t tl un:Λ}{B ga gt gtb gy j pos:Nat}{c k v:Int}{L:List (Λ)}{U e:o5}{z:x4}{I w:x5}{K:x4->x5->Prop}{D:Nat->Prop}
namespace Go.Proofs.YtnhkbjhpbbobaaaGreatDoor
open Go Go.Vc Go.RowKit Go.Proofs Go.Proofs.Tryz
set_option maxRecDepth 100000
def ji(s:ak)(pos:Nat)(v:Int):Λ->Nat->List (Λ)
 |[],_=>[]
 |u::sc,p=>(if p=pos then[v]else bb s u)::ji s pos v sc (p+1)
def ck(s:ak)(sc:Λ)(pos:Nat)(v:Int):List (Λ):=ip (ji s pos v sc 0)
theorem yl{s:ak}{sc:Λ}{pos:Nat}{v:Int}:∀(m p:Nat)(tl:Λ),sc.length=p+m->tl.length=sc.length->(p<=pos->tl[pos]?=σ v)->
  pA s sc pos m p tl=(ip (ji s pos v (sc.drop p) p)).map (tl.take p++ ·)
 |0,p,tl,h1,a,f=>by
  rw[List.drop_eq_nil_of_le Ω,Z0 Ω];unfold pA ji ip;rw[List.map_singleton,U2]
 |m+1,p,tl,h1,a,f=>by
  have ac:p<sc.length:=Ω
  obtain⟨u,hu⟩:=aD (l:=sc) ac;have w:sc.drop p=u::sc.drop (p+1):=by rw[W3 ac,(x6.1 hu).2]
  have y:sc.getD p 0=u:=by rw[u5,hu];rfl
  rw[w];unfold pA ji;rw[ip];by_cases j:p=pos
  .have q:=f Ω;rw[ms Ω,ms j,List.flatMap_singleton,yl m (p+1) tl Ω a (λ_=>q),S6];refine List.map_congr_left λr _=>?_;rw[r9,j,q];simp
  .rw[rc Ω,rc j,y,List.map_flatMap];congr 1;funext x;have e:(tl.set p x).take (p+1)=tl.take p++[x]:=by rw[r9,n9 Ω,List.take_set_of_le (o4 _)];rfl
   rw[yl m (p+1) (tl.set p x) Ω (by rw[o7];exact a) (λh=>by rw[Z6 Ω];exact f Ω),S6,e];refine List.map_congr_left λr _=>?_;simp
theorem QB{s:ak}(h:pos<sc.length):pA s sc pos sc.length 0 ((o6 sc.length 0).set pos v)=ck s sc pos v:=by
 rw[yl sc.length 0 _ Ω Ξ (λ_=>by rw[n9 (by simpa using h)])];unfold ck;simp
def pB(s:ak)(pos:Nat)(v:Int):Λ->Nat->List (Int->Bool)
 |[],_=>[]
 |u::sc,p=>(λx=>(decide (p=pos->x=v))&&decide (x∈bb s u))::pB s pos v sc (p+1)
theorem QC(h:0<=v/\v<k):(iq k).filter (λx=>decide (x=v))=[v]:=by
 have f:(iq k).Nodup:=by
  unfold iq;exact List.Pairwise.map _ (λa b s=>Ω) List.nodup_range
 have hm:v∈iq k:=sd.2 h;generalize iq k=l at f hm;induction l with
 |nil=>cases hm
 |cons a l p=>
  have j:=List.nodup_cons.1 f;by_cases e:a=v
  .subst e;rw[List.filter_cons_of_pos Ξ,List.filter_eq_nil_iff.2 λx q=>by simp;intro r;exact j.1 (r▸q)]
  .rw[List.filter_cons_of_neg (by simpa using e)];exact p j.2 ((V7.1 hm).resolve_left (R7 e))
section
variable{k:Int}{co:Λ}{s:ak}{v:Int}{pos:Nat}
theorem QD{u:Int}(a:bd k co s)(h:0<=u/\u<co.length):(iq (co.getD u.toNat 0)).filter (λx=>decide (x∈bb s u))=bb s u:=by
 have w:=a.d6;obtain⟨x,j⟩:=aD (l:=s.d6) (i:=u.toNat) Ω;obtain⟨z,f⟩:=aD (l:=co) (i:=u.toNat) Ω;have h1:=(a.var _ x z j f).1;have e:bb s u=aC x:=by unfold bb;rw[j]
 have p:co.getD u.toNat 0=z:=by rw[u5,f];rfl
 have A:=a.ed.2.2 z (x7 f);have q:aC x=(iq z).filter λv=>!dropped x.mask v:=by unfold aC iq;rw[h1]
 rw[e,p,q];refine List.filter_congr λy r=>?_;simp[S9,r]
theorem Fb(j:bd k co s):∀(sc:Λ)(p:Nat),(∀u∈sc,0<=u/\u<co.length)->(∀u,p<=pos->sc[pos-p]?=σ u->v∈bb s u)->
  ji s pos v sc p=(((bN co sc).map iq).zip (pB s pos v sc p)).map λq=>q.1.filter q.2
 |[],p,_,_=>rfl
 |u::sc,p,hu,r=>by
  have w:=Fb j sc (p+1) (λu h=>hu u (.tail _ h)) λu' ac h=>r u' Ω (by rw[show pos-p=(pos-(p+1))+1 by omega];exact h);have y:=hu u (.head _);have a:=QD j y;show(if p=pos then[v]else bb s u)::ji s pos v sc (p+1)=(iq (co.getD u.toNat 0)).filter (λx=>decide (p=pos->x=v)&&decide (x∈bb s u))::((((bN co sc).map iq).zip (pB s pos v sc (p+1))).map λq=>q.1.filter q.2);rw[<-w];congr 1;by_cases ac:p=pos
  .rw[ms ac];have f:v∈bb s u:=r u Ω (by rw[ac,V2];rfl);have z:v∈iq (co.getD u.toNat 0):=by rw[<-a]at f;exact(S9.1 f).1
   rw[<-QC (sd.1 z)];refine List.filter_congr λx _=>?_;by_cases e:x=v
   .subst e;simp[f]
   .simp[e,ac]
  .rw[rc ac,<-a];refine(List.filter_congr λx A=>?_).symm;rw[a];simp[ac]
theorem Fc:∀(sc:Λ)(p:Nat),(pB s pos v sc p).length=sc.length
 |[],_=>rfl
 |u::sc,p=>by unfold pB;rw[Y0,Fc sc (p+1),Y0]
theorem ym(a:bd k co s)(e:∀u∈sc,0<=u/\u<co.length)(f:∀u,sc[pos]?=σ u->v∈bb s u):
  ck s sc pos v=(bo (bN co sc)).filter (oh (pB s pos v sc 0)):=by
 unfold ck;rw[Fb a sc 0 e λu _ h=>f u h,E6 _ _ (by rw[Fc,r8];unfold bN;rw[r8]),uT]
end
theorem yn{k:Int}:∀(l:Λ)(z:Int),z<=k->(∀c∈l,0<=c)->l.foldl (λa c=>min (a+c) k) z=min (z+l.sum) k
 |[],z,h,_=>Θ
 |c::l,z,h,e=>by
  have J:∀(l:Λ),(∀c∈l,0<=c)->0<=l.sum:=λl=>by
   induction l with
   |nil=>intro _;simp
   |cons a l f=>intro h;have:=f λc e=>h c (.tail _ e);have:=h a (.head _);rw[R6];omega
  have h1:=e c (.head _);have j:=J l λc h=>e c (.tail _ h);rw[V5,yn l _ Ω λc h=>e c (.tail _ h),R6];omega
def dL(p:bn×Int):Int:=if p.1.gone≠0 then 0 else p.1.un.getD p.2.toNat 0
def fE(a:Λ)(f:cr):Int:=if f.live≠0 then br f.aj f.cs (ka a f.sc)else 0
theorem foldl_map'{α β e:Type}(g:α->β)(h:e->β->e)(aW:e->α->e)(P:e->Prop)(au:∀c a,P c->aW c a=h c (g a))(f:∀c a,P c->P (aW c a)):∀(l:List α)(c:e),P c->l.foldl aW c=(l.map g).foldl h c
 |[],_,_=>rfl
 |a::l,c,j=>by
  rw[V5,T3,V5,<-au c a j];exact foldl_map' g h aW P au f l _ (f c a j)
theorem yo{i:Nat}{x y:Int}(h:l[i]?=σ x):(l.set i y).sum=l.sum-x+y:=by
 induction l generalizing i with
 |nil=>simp at h
 |cons a l e=>
  cases i with
  |zero=>simp at h;subst h;rw[List.set_cons_zero,R6,R6];omega
  |succ i=>
   rw[List.set_cons_succ,R6,R6,e (by simpa using h)];omega
def cX(k a c:Int):Int:=if a=k then k else a-c
def ct(k a c:Int):Int:=min (a+c) k
theorem uU{r g u:Int}(a:0<=r)(e:c<=g/\g<=k)(hu:0<=u/\u<=k)(f:0<=c):min (r+cX k g c+ct k u c) k=min (r+g+u) k:=by
 unfold cX ct;split<;>omega
theorem pC:∀(l:Λ),(∀c∈l,0<=c)->0<=l.sum
 |[],_=>Ξ
 |a::l,h=>by have:=pC l λc e=>h c (.tail _ e);have:=h a (.head _);rw[R6];omega
theorem sh:∀{l:Λ}{i:Nat}{x:Int},(∀c∈l,0<=c)->l[i]?=σ x->x<=l.sum
 |[],_,_,_,h=>by simp at h
 |a::l,0,x,e,h=>by
  simp at h;subst h;have:=pC l λc h=>e c (.tail _ h);rw[R6];omega
 |a::l,i+1,x,e,h=>by
  have:=sh (λc h=>e c (.tail _ h)) (show l[i]?=σ x by simpa using h);have:=e a (.head _);rw[R6];omega
theorem Fe{i:Nat}(hk:0<=k)(h:∀c∈l,0<=c/\c<=k):0<=l.getD i 0/\l.getD i 0<=k:=by
 rw[u5];cases a:l[i]? with
 |none=>exact⟨S0 _,hk⟩
 |some c=>exact h c (x7 a)
theorem Ff{f:Int->Int}{m:Int}(J:dP aj)(h:cs.length=(bo aj).length)(hi:cp aj t 0=σ m):br aj (dS f L aj cs) t=if t∈L then f (br aj cs t)else br aj cs t:=by
 have a:=nX J hi;have j:=(x6.1 a).1;obtain⟨c,e⟩:=aD (l:=cs) (i:=m.toNat) Ω;have h1:=qF (f:=f) (L:=L) a e;unfold br;rw[hi];simp only;rw[u5,h1,u5,e,W7,W7]
section
variable{k:Int}{co a:Λ}{s:ak}
theorem QE{i:Nat}{p:bn×Int}(e:bd k co s)(h:(s.d6.zip a)[i]?=σ p):0<=dL p/\dL p<=k:=by
 have hk:=e.fs;obtain⟨h1,_⟩:=List.getElem?_zip_eq_some.1 h;have f:=(x6.1 h1).1;have j:=e.d6;have:=e.var i p.1 _ h1 (x8 Ω);unfold dL;split
 .omega
 .exact Fe Ω this.2.1
theorem QF{f:cr}(e:bd k co s)(h:f∈s.d9):0<=fE a f/\fE a f<=k:=by
 have hk:=e.fs;have:=(e.d9 f h).1.jd;unfold fE;split
 .exact (ux e.fs λc j=>⟨e.fs,this c j⟩).2
 .omega
theorem si(e:bd k co s):∀c∈(s.d6.zip a).map dL,0<=c:=λc f=>by
 obtain⟨p,ac,rfl⟩:=j5.1 f;obtain⟨i,hi⟩:=X8.1 ac;exact(QE e hi).1
theorem qG(e:bd k co s):∀c∈s.d9.map (fE a),0<=c:=λc f=>by
 obtain⟨p,ac,rfl⟩:=j5.1 f;exact(QF e ac).1
theorem oj(e:bd k co s):eA k s a=if(s.d6.zip a).all fT then min (s.zero+((s.d6.zip a).map dL).sum+(s.d9.map (fE a)).sum) k else k:=by
 have h1:(s.d6.zip a).foldl (lM k) s.zero=((s.d6.zip a).map dL).foldl (λx c=>min (x+c) k) s.zero:=by
  refine foldl_map' dL (λx c=>min (x+c) k) (lM k) (λc=>c<=k) (λc p f=>?_) (λc p f=>?_) _ _ e.zero.2
  .unfold lM dL;split
   .omega
   .rfl
  .unfold lM;split
   .exact f
   .omega
 have h:∀z,z<=k->s.d9.foldl (k6 k a) z=(s.d9.map (fE a)).foldl (λx c=>min (x+c) k) z:=λz j=>by
  refine foldl_map' (fE a) (λx c=>min (x+c) k) (k6 k a) (λc=>c<=k) (λc p f=>?_) (λc p f=>?_) _ _ j
  .unfold k6 fE;split
   .rfl
   .omega
  .unfold k6;split
   .omega
   .exact f
 unfold eA;split
 .rw[h1,yn _ _ e.zero.2 (si e),h _ Ω,yn _ _ Ω (qG e)];have:=pC _ (qG (a:=a) e);omega
 .rfl
theorem uV{α β:Type}:∀{l:List α}{m:List β}{i:Nat}{x:α}{y:β},m[i]?=σ y->(l.set i x).zip m=(l.zip m).set i (x,y)
 |[],_,_,_,_,_=>Ξ
 |_::_,[],_,_,_,h=>by simp at h
 |a::l,b::m,0,x,y,h=>by simp at h;subst h;rfl
 |a::l,b::m,i+1,x,y,h=>by
  rw[List.set_cons_succ,List.zip_cons_cons,List.zip_cons_cons,List.set_cons_succ,uV (by simpa using h)]
theorem uW{α:Type}{q:α->Bool}:∀{l:List α}{i:Nat}{x y:α},l[i]?=σ x->q y=q x->(l.set i y).all q=l.all q
 |[],_,_,_,h,_=>by simp at h
 |a::l,0,x,y,h,e=>by simp at h;subst h;rw[List.set_cons_zero,List.all_cons,List.all_cons,e]
 |a::l,i+1,x,y,h,e=>by rw[List.set_cons_succ,List.all_cons,List.all_cons,uW (by simpa using h) e]
def eH(s:ak)(u:Nat)(x:bn)(un:Λ):ak:={s with d6:=s.d6.set u {x with un:=un}}
def ea(s:ak)(j:Nat)(f:cr)(cs:Λ):ak:={s with d9:=s.d9.set j {f with cs:=cs}}
theorem yp{u:Nat}{x:bn}(a:bd k co s)(e:s.d6[u]?=σ x)(f:un.length=x.un.length)(h:∀c∈un,0<=c/\c<=k):bd k co (eH s u x un):=by
 have j:=(x6.1 e).1;have p:=a.d6;have h1:=a.var u x _ e (x8 Ω);exact a.uR e f h h1.2.2
theorem Fg{f:cr}(a:bd k co s)(e:s.d9[j]?=σ f)(h:cs.length=f.cs.length)(p:∀c∈cs,0<=c/\c<=k):bd k co (ea s j f cs):=a.E1 e rfl rfl h p
theorem QG{u:Nat}{x:bn}{f:cr}{bh:Int}(e:bd k co s)(w:s.d6[u]?=σ x)(p:s.d9[j]?=σ f)(z:un.length=x.un.length)(A:∀c∈un,0<=c/\c<=k)(B:cs.length=f.cs.length)(C:∀c∈cs,0<=c/\c<=k)(y:a[u]?=σ bh)(h:(s.d6.zip a).all fT=v2->∀r,0<=r->min (r+fE a {f with cs:=cs}+dL ({x with un:=un},bh)) k=min (r+fE a f+dL (x,bh)) k):eA k (eH (ea s j f cs) u x un) a=eA k s a:=by
 have E:=Fg e p B C;have F:=yp E w z A;rw[oj F,oj e];have q:(s.d6.zip a)[u]?=σ (x,bh):=List.getElem?_zip_eq_some.2 ⟨w,y⟩;have G:((eH (ea s j f cs) u x un).d6.zip a)=(s.d6.zip a).set u ({x with un:=un},bh):=uV y;have H:((s.d6.zip a).set u ({x with un:=un},bh)).all fT=(s.d6.zip a).all fT:=uW q rfl;rw[G,H];split
 .rename_i I;have J:(((s.d6.zip a).set u ({x with un:=un},bh)).map dL).sum=((s.d6.zip a).map dL).sum-dL (x,bh)+dL ({x with un:=un},bh):=by
   rw[T2];exact yo (by rw[u4,q];rfl)
  have K:((eH (ea s j f cs) u x un).d9.map (fE a)).sum=(s.d9.map (fE a)).sum-fE a f+fE a {f with cs:=cs}:=by
   show((s.d9.set j {f with cs:=cs}).map (fE a)).sum=_;rw[T2];exact yo (by rw[u4,p];rfl)
  have h1:=sh (si e) (by rw[u4,q];rfl);have L:=sh (qG (a:=a) e) (by rw[u4,p];rfl);have M:=e.zero.1;have N:=h I (s.zero+(((s.d6.zip a).map dL).sum-dL (x,bh))+((s.d9.map (fE a)).sum-fE a f)) Ω;rw[J,K];show min (s.zero+_+_) k=_;omega
 .rfl
end
theorem yq{s:ak}{pos:Nat}{v:Int}:∀(sc:Λ)(p q:Nat),(ji s pos v sc p)[q]?=(sc[q]?).map λu=>if p+q=pos then[v]else bb s u
 |[],_,q=>by simp[ji]
 |u::sc,p,0=>by simp[ji]
 |u::sc,p,q+1=>by
  unfold ji;rw[List.getElem?_cons_succ,List.getElem?_cons_succ,yq sc (p+1) q,show p+1+q=p+(q+1) by omega]
theorem Fh{s:ak}{pos:Nat}{v:Int}:∀(sc:Λ)(p:Nat),(ji s pos v sc p).length=sc.length
 |[],_=>rfl
 |u::sc,p=>by unfold ji;rw[Y0,Fh sc (p+1),Y0]
theorem yr{s:ak}:t∈ck s sc pos v↔t.length=sc.length/\∀(p:Nat)u w,sc[p]?=σ u->t[p]?=σ w->if p=pos then w=v else w∈bb s u:=by
 unfold ck;rw[sb,Fh];refine and_congr_right λ_=>⟨λh p u w hu hw=>?_,λh p d w a hw=>?_⟩
 .have:w∈if 0+p=pos then[v]else bb s u:=h p _ w (by rw[yq,hu];rfl) hw;rw[X6]at this;split
  .rename_i e;rw[ms e]at this;exact b9.1 this
  .rename_i e;rw[rc e]at this;exact this
 .rw[yq]at a;cases hu:sc[p]? with
  |none=>rw[hu]at a;cases a
  |some u=>
   rw[hu]at a;have a:(if 0+p=pos then[v]else bb s u)=d:=Z4 a;subst a;have:=h p u w hu hw;rw[X6];split
   .rename_i e;rw[ms e]at this;exact b9.2 this
   .rename_i e;rw[rc e]at this;exact this
theorem e6{x:bn}:v∈aC x↔(0<=v/\v<x.un.length)/\dropped x.mask v=v6:=by
 unfold aC;rw[S9];refine and_congr ?_ Ξ;have:=sd (k:=(x.un.length:Int)) (v:=v);unfold iq at this;rw[u9]at this;exact this
theorem Fi{f:Int->Int}(J:dP aj)(q:∀c∈cs,0<=c/\c<=k)(r:∀t∈L,0<=f (br aj cs t)/\f (br aj cs t)<=k):∀c∈dS f L aj cs,0<=c/\c<=k:=λc a=>by
 unfold dS at a;obtain⟨p,ac,rfl⟩:=j5.1 a;obtain⟨i,hi⟩:=X8.1 ac;obtain⟨h1,h⟩:=List.getElem?_zip_eq_some.1 hi;split
 .rename_i s;have j:=r p.1 s;have e:br aj cs p.1=p.2:=by
   unfold br;rw[kw J h1];simp only;rw[u9,u5,h];rfl
  rw[e]at j;exact j
 .exact q _ (x7 h)
section
variable{k:Int}{co a:Λ}{s:ak}
def fW(s:ak)(j:Nat)(f:cr)(pos u:Nat)(x:bn)(v:Int)(tup un:Int->Int):ak:=
 eH (ea s j f (dS tup (ck s f.sc pos v) f.aj f.cs)) u x (x.un.set v.toNat (un (x.un.getD v.toNat 0)))
theorem ld{f:cr}(e:bd k co s)(q:f∈s.d9):dP f.aj/\f.cs.length=(bo f.aj).length:=by
 obtain⟨a,h,_⟩:=e.d9 f q;have j:dP f.aj:=by rw[h];exact pm e.ed.2.2 λv p=>⟨(a.scope.1 v p).1,a.d6 v p⟩
 refine⟨j,?_⟩;have h1:=a.len;rw[ks j,h];exact h1
theorem Fj{u:Nat}{f:cr}{x:bn}{tup un:Int->Int}(a:bd k co s)(e:s.d9[j]?=σ f)(h:s.d6[u]?=σ x)(p:∀t∈ck s f.sc pos v,0<=tup (br f.aj f.cs t)/\tup (br f.aj f.cs t)<=k)(q:0<=un (x.un.getD v.toNat 0)/\un (x.un.getD v.toNat 0)<=k):bd k co (fW s j f pos u x v tup un):=by
 obtain⟨r,y⟩:=ld a (x7 e);have w:=(a.d9 f (x7 e)).1;have z:=(x6.1 h).1;have A:=a.d6;have h1:=a.var u x _ h (x8 Ω);exact yp (Fg a e (py _ _ _ _ Ω) (Fi r w.jd p)) h (by rw[o7]) (se h1.2.1 q)
theorem Fk{u:Nat}{f:cr}{x:bn}{tup un:Int->Int}(p:bd k co s)(Q:iL s a)(G:s.d9[j]?=σ f)(R:f.live≠0)(hu:f.sc[pos]?=σ (u:Int))(B:s.d6[u]?=σ x)(Y:v∈aC x)(S:∀w∈f.sc,∀y,s.d6[w.toNat]?=σ y->y.gone=0)(Z:∀t∈ck s f.sc pos v,0<=tup (br f.aj f.cs t)/\tup (br f.aj f.cs t)<=k)(aa:0<=un (x.un.getD v.toNat 0)/\un (x.un.getD v.toNat 0)<=k)(ab:∀t∈ck s f.sc pos v,∀r,0<=r->min (r+tup (br f.aj f.cs t)+un (x.un.getD v.toNat 0)) k=min (r+br f.aj f.cs t+x.un.getD v.toNat 0) k):
  eA k (fW s j f pos u x v tup un) a=eA k s a:=by
 obtain⟨H,ac⟩:=ld p (x7 G);obtain⟨I,T,_⟩:=p.d9 f (x7 G);have au:=(x6.1 B).1;have av:=p.d6;have h1:=p.var u x _ B (x8 Ω);have aw:=Q.1;obtain⟨bh,U⟩:=aD (l:=a) (i:=u) Ω;refine QG p B G (by rw[o7]) (se h1.2.1 aa) (py _ _ _ _ Ω) (Fi H I.jd Z) U λad r ae=>?_;have V:=S u (x7 hu) x (by rw[u9];exact B);obtain⟨tl,C⟩:∃tl,tl=ka a f.sc:=⟨_,rfl⟩;have J:∀(q:Nat)w,f.sc[q]?=σ w->∃y,s.d6[w.toNat]?=σ y/\tl[q]?=σ (a.getD w.toNat 0)/\a.getD w.toNat 0∈aC y/\f.aj[q]?=σ (y.un.length:Int):=λq w hw=>by
  have hm:=x7 hw;have ax:=(I.scope.1 w hm).1;have ay:=I.d6 w hm;obtain⟨y,h⟩:=aD (l:=s.d6) (i:=w.toNat) Ω;obtain⟨z,K⟩:=aD (l:=co) (i:=w.toNat) Ω;obtain⟨L,M⟩:=aD (l:=a) (i:=w.toNat) Ω;have af:=S w hm y h;have az:=(p.var _ y z h K).1;have aA:=p.ed.2.2 z (x7 K);have e:a.getD w.toNat 0=L:=by rw[u5,M];rfl
  have W:=List.all_eq_true.1 ad (y,L) (x7 (List.getElem?_zip_eq_some.2 ⟨h,M⟩));have ag:=(Q.2 _ y L h M).resolve_left Ω;refine⟨y,h,by rw[C];unfold ka;rw[u4,hw];rfl,?_,?_⟩
  .rw[e,e6];refine⟨ag,?_⟩;unfold fT at W;simpa[af]using W
  .rw[T];unfold bN;rw[u4,hw,Y3,u5,K,W7];congr 1;omega
 have ah:tl.length=f.sc.length:=by rw[C];unfold ka;rw[r8]
 have aB:f.aj.length=f.sc.length:=by rw[T];unfold bN;rw[r8]
 obtain⟨m,hm⟩:∃m,cp f.aj tl 0=σ m:=by
  have:tl∈bo f.aj:=by
   rw[uT,sb];refine⟨by rw[r8];omega,λq d w X hw=>?_⟩;obtain⟨b,A⟩:=aD (l:=f.sc) (i:=q) (by have:=(x6.1 hw).1;omega);obtain⟨y,_,N,O,ai⟩:=J q b A;rw[u4,ai]at X;cases X;rw[N]at hw;cases hw;exact sd.2 (e6.1 O).1
  obtain⟨i,hi⟩:=X8.1 this;exact⟨_,kw H hi⟩
 have ak:fE a f=br f.aj f.cs tl:=by unfold fE;rw[ms R,C]
 have al:fE a {f with cs:=dS tup (ck s f.sc pos v) f.aj f.cs}=if tl∈ck s f.sc pos v then tup (br f.aj f.cs tl)else br f.aj f.cs tl:=by
  rw[<-Ff H ac hm,C];unfold fE;rw[ms R]
 have am:dL (x,bh)=x.un.getD bh.toNat 0:=by unfold dL;rw[rc (by simp[V])]
 have an:dL ({x with un:=x.un.set v.toNat (un (x.un.getD v.toNat 0))},bh)=(x.un.set v.toNat (un (x.un.getD v.toNat 0))).getD bh.toNat 0:=by unfold dL;rw[rc (by simp[V])]
 obtain⟨y,h,E,P,_⟩:=J pos _ hu;rw[u9]at h E P;rw[B]at h;cases h;have ao:a.getD u 0=bh:=by rw[u5,U];rfl
 rw[ao]at E P;have aE:=(e6.1 Y).1;have aF:=(e6.1 P).1;rw[ak,al,am,an];by_cases he:bh=v
 .subst he;have F:=yr.2 ⟨ah,λq w b hw A=>by
   obtain⟨aG,ap,N,O,_⟩:=J q w hw;split
   .rename_i aq;subst aq;rw[E]at A;exact(Z4 A).symm
   .rw[N]at A;cases A;unfold bb;rw[ap];exact O⟩
  rw[ms F,u5,n9 Ω,W7];exact ab tl F r ae
 .have F:tl∉ck s f.sc pos v:=λhm=>by
   have:=(yr.1 hm).2 pos _ bh hu E;rw[ms rfl]at this;exact he this
  rw[rc F,u5,Z6 Ω,<-u5]
end
def eb(g:Int->Int)(un L:Λ):Λ:=L.foldl (λun v=>un.set v.toNat (g (un.getD v.toNat 0))) un
theorem sj{g:Int->Int}:∀(L un:Λ),(eb g un L).length=un.length
 |[],_=>rfl
 |v::L,un=>by
  unfold eb;rw[V5];have:=sj (g:=g) L (un.set v.toNat (g (un.getD v.toNat 0)));unfold eb at this;rw[this,o7]
theorem uX{g:Int->Int}:∀(L un:Λ)(w:Int),L.Nodup->(∀v∈L,0<=v/\v<un.length)->0<=w->(eb g un L).getD w.toNat 0=if w∈L then g (un.getD w.toNat 0)else un.getD w.toNat 0
 |[],un,w,_,_,_=>by simp[eb]
 |v::L,un,w,j,a,hw=>by
  obtain⟨h1,p⟩:=List.nodup_cons.1 j;have r:=a v (.head _);have q:=uX (g:=g) L (un.set v.toNat (g (un.getD v.toNat 0))) w p (λu hu=>by rw[o7];exact a u (.tail _ hu)) hw;have e:eb g un (v::L)=eb g (un.set v.toNat (g (un.getD v.toNat 0))) L:=rfl;rw[e,q];by_cases f:w=v
  .subst f;have J:(un.set w.toNat (g (un.getD w.toNat 0))).getD w.toNat 0=g (un.getD w.toNat 0):=by
    rw[u5,n9 Ω];rfl
   rw[rc h1,ms (.head _),J]
  .have J:(un.set v.toNat (g (un.getD v.toNat 0))).getD w.toNat 0=un.getD w.toNat 0:=by
    rw[u5,Z6 Ω,<-u5]
   rw[J];by_cases hm:w∈L
   .rw[ms hm,ms (.tail _ hm)]
   .rw[rc hm,rc λh=>(V7.1 h).elim f hm]
theorem sk(x:bn):(aC x).Nodup:=by
 unfold aC;refine List.Nodup.sublist List.filter_sublist ?_;exact List.Pairwise.map _ (λa b e=>Ω) List.nodup_range
theorem Fl{k:Int}{g:Int->Int}:∀(L un:Λ),(∀c∈un,0<=c/\c<=k)->L.Nodup->(∀v∈L,0<=v/\v<un.length)->(∀v∈L,0<=g (un.getD v.toNat 0)/\g (un.getD v.toNat 0)<=k)->∀c∈eb g un L,0<=c/\c<=k
 |[],un,h,_,_,_,c,a=>h c a
 |v::L,un,h,p,f,j,c,a=>by
  obtain⟨h1,q⟩:=List.nodup_cons.1 p;have r:=f v (.head _);refine Fl (g:=g) L (un.set v.toNat (g (un.getD v.toNat 0))) (se h (j v (.head _))) q (λu hu=>by rw[o7];exact f u (.tail _ hu)) (λu hu=>?_) c a;have s:u≠v:=λe=>h1 (e▸hu);have w:=f u (.tail _ hu);rw[u5,Z6 Ω,<-u5];exact j u (.tail _ hu)
section
variable{k:Int}{co a:Λ}{s:ak}
def ir(s:ak)(u:Nat)(x:bn)(g z:Int->Int):ak:={eH s u x (eb g x.un (aC x))with zero:=z s.zero}
theorem bd.QH(a:bd k co s)(h:0<=c/\c<=k):bd k co {s with zero:=c}:=⟨a.fs,a.ed,h,a.d6,a.var,a.d9⟩
theorem ys{u:Nat}{x:bn}{g z:Int->Int}(a:bd k co s)(e:s.d6[u]?=σ x)(f:∀v∈aC x,0<=g (x.un.getD v.toNat 0)/\g (x.un.getD v.toNat 0)<=k)(h:0<=z s.zero/\z s.zero<=k):bd k co (ir s u x g z):=by
 have p:=(x6.1 e).1;have q:=a.d6;have h1:=a.var u x _ e (x8 Ω);exact(yp a e (sj _ _) (Fl _ _ h1.2.1 (sk x) (λv j=>(e6.1 j).1) f)).QH h
theorem Fm{u:Nat}{x:bn}{g z:Int->Int}(e:bd k co s)(q:iL s a)(f:s.d6[u]?=σ x)(j:x.gone=0)(C:∀v∈aC x,0<=g (x.un.getD v.toNat 0)/\g (x.un.getD v.toNat 0)<=k)(E:0<=z s.zero/\z s.zero<=k)(F:∀v∈aC x,∀r,0<=r->min (r+g (x.un.getD v.toNat 0)+z s.zero) k=min (r+x.un.getD v.toNat 0+s.zero) k):eA k (ir s u x g z) a=eA k s a:=by
 have G:=ys e f C E;have O:=(x6.1 f).1;have P:=e.d6;have Q:=q.1;obtain⟨bh,p⟩:=aD (l:=a) (i:=u) Ω;rw[oj G,oj e];have h:(s.d6.zip a)[u]?=σ (x,bh):=List.getElem?_zip_eq_some.2 ⟨f,p⟩;obtain⟨un,w⟩:∃un,un=eb g x.un (aC x):=⟨_,rfl⟩;have H:((ir s u x g z).d6.zip a)=(s.d6.zip a).set u ({x with un:=un},bh):=by rw[w];exact uV p
 have I:((s.d6.zip a).set u ({x with un:=un},bh)).all fT=(s.d6.zip a).all fT:=uW h rfl;rw[H,I];split
 .rename_i J;have K:(((s.d6.zip a).set u ({x with un:=un},bh)).map dL).sum=((s.d6.zip a).map dL).sum-dL (x,bh)+dL ({x with un:=un},bh):=by
   rw[T2];exact yo (by rw[u4,h];rfl)
  have h1:=sh (si e) (by rw[u4,h];rfl);have R:=pC _ (qG (a:=a) e);have y:=List.all_eq_true.1 J (x,bh) (x7 h);have A:=(q.2 _ x bh f p).resolve_left Ω;have B:bh∈aC x:=by
   rw[e6];refine⟨A,?_⟩;unfold fT at y;simpa[j]using y
  have L:dL (x,bh)=x.un.getD bh.toNat 0:=by unfold dL;rw[rc (by simp[j])]
  have M:dL ({x with un:=un},bh)=g (x.un.getD bh.toNat 0):=by
   unfold dL;rw[rc (by simp[j])];show un.getD bh.toNat 0=_;rw[w,uX _ _ _ (sk x) (λv N=>(e6.1 N).1) A.1,ms B]
  rw[K,M];rw[L]at h1 ⊢;have S:=F bh B (((s.d6.zip a).map dL).sum-x.un.getD bh.toNat 0+(s.d9.map (fE a)).sum) Ω;show min (z s.zero+_+(s.d9.map (fE a)).sum) k=_;omega
 .rfl
theorem yt{m:Nat}{w:Int}(a:0<=v)(hw:0<=w):dropped ((m ||| 2 ^ v.toNat:Nat):Int) w=(dropped (m:Int) w||decide (w=v)):=by
 unfold dropped;rw[u9,u9,Nat.testBit_or,Nat.testBit_two_pow];congr 1;exact decide_eq_decide.2 ⟨λh=>Ω,λh=>Ω⟩
theorem kD{i:Nat}{x:bn}(a:s.d6[i]?=σ x):dK s i v.toNat={s with d6:=s.d6.set i {x with mask:=((x.mask.toNat ||| 2 ^ v.toNat:Nat):Int)}}:=by
 unfold dK;rw[a]
theorem yu{i:Nat}{x:bn}(a:bd k co s)(e:s.d6[i]?=σ x)(j:0<=v/\v<x.un.length):bd k co (dK s i v.toNat):=by
 rw[kD e];have p:=(x6.1 e).1;have q:=a.d6;have h1:=a.var i x _ e (x8 Ω);have r:=a.ed.2.2 _ (Q9 (n:=i) Ω);refine a.uR e rfl h1.2.1 ⟨by simp only;omega,?_⟩;have f:x.mask.toNat<2 ^ 32:=by have:=h1.2.2;omega
 have h:2 ^ v.toNat<2 ^ 32:=Nat.pow_lt_pow_right Ω Ω;have:=Nat.or_lt_two_pow f h;simp only;omega
theorem Fo{i:Nat}{bh:Int}{x:bn}(j:bd k co s)(C:iL s a)(f:s.d6[i]?=σ x)(E:x.gone=0)(z:0<=v/\v<x.un.length)(p:a[i]?=σ bh):eA k (dK s i v.toNat) a=if bh=v then k else eA k s a:=by
 have F:=yu j f z;rw[oj F,oj j];have r:(s.d6.zip a)[i]?=σ (x,bh):=List.getElem?_zip_eq_some.2 ⟨f,p⟩;have G:=(C.2 _ x bh f p).resolve_left Ω;obtain⟨y,w⟩:∃y:bn,y={x with mask:=((x.mask.toNat ||| 2 ^ v.toNat:Nat):Int)}:=⟨_,rfl⟩;have H:((dK s i v.toNat).d6.zip a)=(s.d6.zip a).set i (y,bh):=by rw[kD f,w];exact uV p
 have A:(dK s i v.toNat).zero=s.zero/\(dK s i v.toNat).d9=s.d9:=by rw[kD f];exact⟨rfl,rfl⟩
 have B:fT (y,bh)=(fT (x,bh)&&decide (bh≠v)):=by
  unfold fT;rw[w];simp only[E];rw[yt z.1 G.1];have hm:((x.mask.toNat:Nat):Int)=x.mask:=by
   have N:=(x6.1 f).1;have O:=j.d6;have h1:=j.var i x _ f (x8 Ω);omega
  rw[hm];by_cases e:bh=v
  .simp[e]
  .simp[e]
 rw[H,A.1,A.2];by_cases e:bh=v
 .rw[ms e,rc];intro I;have:=List.all_eq_true.1 I (y,bh) (x7 (n9 (x6.1 r).1));rw[B]at this;simp[e]at this
 .have J:((s.d6.zip a).set i (y,bh)).all fT=(s.d6.zip a).all fT:=uW r (by rw[B];simp[e]);have K:((s.d6.zip a).set i (y,bh)).map dL=(s.d6.zip a).map dL:=by
   rw[T2];have L:dL (y,bh)=dL (x,bh):=by rw[w];rfl
   rw[L];refine X0 λq=>?_;rw[Y7];split
   .rename_i M;subst M;split
    .rw[u4,r];rfl
    .rename_i h;rw[Y5 Ω]
   .rfl
  rw[rc e,J,K]
theorem Fp{i:Nat}{bh:Int}{x:bn}(h:iL s a)(e:s.d6[i]?=σ x)(j:x.gone=0)(f:a[i]?=σ bh)(p:bh∉aC x):eA k s a=k:=by
 have q:=(h.2 _ x bh e f).resolve_left Ω;unfold eA;rw[rc];intro r;have:=List.all_eq_true.1 r (x,bh) (x7 (List.getElem?_zip_eq_some.2 ⟨e,f⟩));unfold fT at this;have w:dropped x.mask bh=v6:=by simpa[j]using this
 exact p (e6.2 ⟨q,w⟩)
end
end Go.Proofs.YtnhkbjhpbbobaaaGreatDoor
namespace Go.Vc
open Go Go.RowKit
section
variable{P:V3}{w:x5}{α:Type}[an α]{S R:ah}
theorem Fq{k:Nat}{vs:List (List x4)}{i:Nat}{c:List x4}(h:∀x∈vs,x.length=k)(e:c.length=k)(hi:i<vs.length):over vs.flatten (i*k) c=(vs.set i c).flatten:=by
 have:=xd (f:=id) (k:=k) (L:=vs) (i:=i) (a:=c) h e hi;rw[List.flatMap_id,List.flatMap_id]at this;exact this
theorem QI{v:x4}{l:List α}{i:Nat}(h:bq S R w [v] l)(T:i<l.length):∃g cap full p,v= .slice (σ ⟨g,0,ν⟩) l.length cap/\ag w g p full/\S g/\i*an.n α+an.n α<=full.length/\
  ∀{A:ah}{cs:List x4}{a:α},bq A R w cs a->(∀r,r<w.heap.size->S r->¬A r/\¬R r)->∀I,af (λr=>r=g) w I->ag I g p (over full (i*an.n α) cs)->bq (λr=>S r\/A r) R I [v] (l.set i a):=by
 obtain⟨vs,g,F,ac,he,J,hm⟩:=jt h;obtain⟨U,p,W⟩:=hm rfl;obtain⟨ai,⟨rfl,aj⟩|⟨cap,full,rfl,C,G,X,H,Y⟩⟩:=id W
 .omega
 have K:=he.1;have Z:(i+1)*an.n α<=l.length*an.n α:=X4 _ T;have aa:l.length*an.n α<=full.length:=by rw[H];exact X4 _ G
 rw[U6,Nat.one_mul]at Z;have x:=U.resolve_left Ξ;refine⟨g,cap,full,p,rfl,C,x,Ω,λ{A cs a}L y I M ab=>?_⟩;have N:=an.len L;have O:=(y g C.lt x).1;have P:=(y g C.lt x).2;have ad:∀c∈vs.set i cs,c.length=an.n α:=λc s=>by
  rcases W8 s with e|rfl
  .exact he.len c e
  .exact N
 have Q:b0 I g p (an.n α) (.slice (σ ⟨g,0,ν⟩) l.length cap) (l.set i a).length (vs.set i cs).flatten:=by
  refine⟨by rw[re ad,o7,o7,K],.inr ⟨cap,_,by rw[o7],ab,by rw[o7];exact G,X,by rw[nf,H],?_⟩⟩;rw[o7,tX Ω aa,Y,Fq he.len N Ω]
 refine⟨_,rfl,vs.set i cs,g,λj r=>if j=i then A r/\r<w.heap.size else F j r/\r<w.heap.size,⟨λj r f=>?_,λ_ j f=>?_,λ_ j q r ae h1 e=>?_⟩,⟨by simp[K],λj c a' s z=>?_⟩,?_,λ_=>⟨.inr (.inl x),p,Q⟩⟩
 .split at f
  .exact .inr f.1
  .exact .inl (ac.sub j r f.1)
 .split at f
  .exact O f.1
  .exact ac.top rfl j f.1
 .split at h1<;>split at e
  .omega
  .exact (y r e.2 (ac.sub q r e.1)).1 h1.1
  .exact (y r h1.2 (ac.sub j r h1.1)).1 e.1
  .exact ac.gQ rfl j q r ae h1.1 e.1
 .by_cases B:j=i
  .subst B;rw[n9 Ω]at s z;cases s;cases z;have E:bq (λr=>if j=j then A r/\r<w.heap.size else F j r/\r<w.heap.size) R w cs a:=an.Y L (λr f h=>by rw[ms rfl];exact⟨h,f⟩) λ_ _ h=>h;refine an.V E M λr f h1 e=>?_;have e:r=g:=e;subst e;rcases h1 with h1|h1
   .simp only[if_true]at h1;exact O h1.1
   .exact P h1
  .rw[Z6 (R7 B)]at s z;have E:bq (λr=>if j=i then A r/\r<w.heap.size else F j r/\r<w.heap.size) R w c a':=an.Y (he.2 j c a' s z) (λr f h=>by rw[rc B];exact⟨h,f⟩) λ_ _ h=>h;refine an.V E M λr f h1 e=>?_;have e:r=g:=e;subst e;rcases h1 with h1|h1
   .simp only[rc B]at h1;exact ac.top rfl j h1.1
   .exact P h1
 .have:=o0 (S:=λr=>(S r\/A r)\/R r) Q (.inr (.inl (.inl x)));exact this
theorem Fr{t:o5}{C:j0}{i b:Nat}{y:Int}{v x:x4}{l:List α}{a:α}{A:ah}{K:Unit->x5->Prop}(j:an.n α=1)(E:y=(i:Int))(F:P.underlying t=σ (.slice e))(hi:aR P e 1 b z)(h:bq S R w [v] l)(q:i<l.length)(G:x.cells= #[x])(s:bq A R w [x] a)(H:∀r,r<w.heap.size->S r->¬A r/\¬R r)(J:∀I,af S w I->bq (λr=>S r\/A r) R I [v] (l.set i a)->K () I):ab P (c9 t v (.int C y)) w λp=>aF P (l9 e p x) w K:=by
 subst E;obtain⟨g,cap,full,T,rfl,L,M,N,O⟩:=QI h q;rw[j]at N;rw[eS F hi q λ_=>rfl];refine bt (o:=0+i*1) hi G (an.one s x (.head _)) L Ω λI B _ Q=>J I (B.Y λr _ f=>by have f:r=g:=f;subst f;exact M) (O s H I B ?_);rw[j,X6]at*;exact Q
end
end Go.Vc
namespace Go.Proofs.YtnhkbjhpbbobaaaGreatDoor
open Go Go.Vc Go.RowKit Go.Proofs Go.Proofs.Tryz
set_option maxRecDepth 100000
abbrev jH:Type:=(Rd (Λ)×Rd (Λ)×Λ)×Bool
abbrev mE:Type:=Int×Rd (Λ)×Rd (Λ)
def jI(f:cr):jH:=((f.sc,f.aj,f.cs),decide (f.live≠0))
def qH(e:xK):mE:=(e.v,e.sc,e.uA)
def bB(m:Bool)(A:Nat->ah)(R:ah)(w:x5)(cs:List x4)(k:Int)(co:Λ)(zero:Int)(D:List (Λ))(G:List Bool)(aX:List (Λ))(H:List jH)(E:List mE):Prop:=
 ∃lc a e f h p,cs=[Δ k,lc,Δ zero,a,e,f,h,p]/\Seen R w [lc] co/\
 an.rep m (A 0) R w [a] D/\an.rep m (A 1) R w [e] G/\an.rep m (A 2) R w [f] aX/\an.rep m (A 3) R w [h] H/\an.rep m (A 4) R w [p] E/\
 (m=v2->(∀i j r,i≠j->A i r->¬A j r)/\∀i r,A i r->¬R r)
abbrev ia(m:Bool)(A:Nat->ah)(R:ah)(w:x5)(cs:List x4)(k:Int)(co:Λ)(s:ak):Prop:=
 bB m A R w cs k co s.zero (s.d6.map aC) (s.d6.map λx=>decide (x.gone≠0)) (s.d6.map (·.un)) (s.d9.map jI) (s.eC.map qH)
def jJ(w:x5)(v:x4)(k:Int)(co:Λ)(s:ak):Prop:=∃cs,v= .agg cs.toArray/\ia v6 (λ_ _=>False) fj w cs k co s
def fu(A:Nat->ah)(i:Nat)(B:ah):Nat->ah:=λj=>if j=i then B else A j
section
variable{m:Bool}{A:Nat->ah}{R:ah}{w I:x5}{cs:List x4}{k zero:Int}{co:Λ}{D:List (Λ)}{G:List Bool}{aX:List (Λ)}{H:List jH}{E:List mE}{s:ak}
theorem bB.len(h:bB m A R w cs k co zero D G aX H E):cs.length=8/\∀u∈cs,u.oneCell'=v2:=by
 obtain⟨lc,q,r,s,x,y,rfl,h1,a,e,f,j,p,_⟩:=h;refine⟨rfl,λu hu=>?_⟩;simp only[V7,List.not_mem_nil,or_false]at hu;rcases hu with rfl|rfl|rfl|rfl|rfl|rfl|rfl|rfl
 .rfl
 .exact iX h1
 .rfl
 .exact iX a
 .exact iX e
 .exact iX f
 .exact iX j
 .exact iX p
theorem bB.V{T:ah}(h:bB m A R w cs k co zero D G aX H E)(a:af T w I)(f:∀r,r<w.heap.size->(∃i,A i r)\/R r->¬T r):bB m A R I cs k co zero D G aX H E:=by
 obtain⟨lc,j,p,q,s,x,rfl,h1,y,z,B,C,F,J⟩:=h;have au:∀i r,r<w.heap.size->A i r\/R r->¬T r:=λi r e h=>f r e (h.imp (λh=>⟨i,h⟩) id);exact⟨lc,j,p,q,s,x,rfl,an.V h1 a λr e h=>f r e (h.elim False.elim .inr),an.V y a (au 0),an.V z a (au 1),an.V B a (au 2),an.V C a (au 3),an.V F a (au 4),J⟩
theorem bB.W(h:bB m A R w cs k co zero D G aX H E)(a:Ext w I):bB m A R I cs k co zero D G aX H E:=h.V (a.V λ_=>False) λ_ _ _ h=>h
theorem ia.yv(h:ia m A R w cs k co s):jJ w (.agg cs.toArray) k co s:=by
 obtain⟨lc,a,e,f,j,p,rfl,h1,q,r,x,y,z,B⟩:=h;exact⟨_,rfl,lc,a,e,f,j,p,rfl,js h1,js q,js r,js x,js y,js z,λh=>by cases h⟩
theorem bB.old(h:bB v2 A R w cs k co zero D G aX H E):bB v2 (λi r=>A i r/\r<w.heap.size) R w cs k co zero D G aX H E:=by
 obtain⟨lc,f,p,q,s,x,rfl,h1,a,y,z,B,C,e⟩:=h;obtain⟨e,F⟩:=e rfl;have hm:∀i r,r<w.heap.size->A i r->A i r/\r<w.heap.size:=λi r I h=>⟨h,I⟩;exact⟨lc,f,p,q,s,x,rfl,h1,an.Y a (hm 0) λ_ _ h=>h,an.Y y (hm 1) λ_ _ h=>h,an.Y z (hm 2) λ_ _ h=>h,an.Y B (hm 3) λ_ _ h=>h,an.Y C (hm 4) λ_ _ h=>h,
  λ_=>⟨λi j r J h1 a=>e i j r J h1.1 a.1,λi r h=>F i r h.1⟩⟩
theorem sm{i:Nat}{B:ah}(h:∀i j r,i≠j->A i r->¬A j r)(e:∀j r,j≠i->B r->¬A j r):∀p q r,p≠q->fu A i B p r->¬fu A i B q r:=λp q r f h1 a=>by
 unfold fu at h1 a;split at h1<;>split at a
 .omega
 .exact e q r (by assumption) h1 a
 .exact e p r (by assumption) a h1
 .exact h p q r f h1 a
theorem sn{i:Nat}{B:ah}(h:∀i r,A i r->¬R r)(a:∀r,B r->¬R r):∀p r,fu A i B p r->¬R r:=λp r h1=>by
 unfold fu at h1;split at h1
 .exact a r h1
 .exact h p r h1
theorem bB.yw{B:ah}{x:x4}{D':List (Λ)}(h:bB v2 A R w cs k co zero D G aX H E){T:ah}(e:af T w I)(p:∀r,T r->A 0 r\/(∀j,¬A j r)/\¬R r)(y:bq B R I [x] D')(z:∀j r,j≠0->B r->¬A j r)(C:∀r,B r->¬R r):bB v2 (fu A 0 B) R I (cs.set 3 x) k co zero D' G aX H E:=by
 obtain⟨lc,S,F,J,K,L,rfl,h1,a,M,N,O,P,f⟩:=h;obtain⟨f,q⟩:=f rfl;have s:∀r,R r->¬T r:=λr h a=>(p r a).elim (λa=>q 0 r a h) λa=>a.2 h;have au:∀j r,j≠0->r<w.heap.size->A j r\/R r->¬T r:=λj r Q _ h a=>h.elim (λh=>(p r a).elim (λa=>f j 0 r Q h a) λa=>a.1 j h) λh=>s r h a;refine⟨lc,x,F,J,K,L,rfl,an.V h1 e λr _ h=>h.elim False.elim (s r),?_,?_,?_,?_,?_,λ_=>⟨sm f z,sn q C⟩⟩
 .exact y
 .exact an.V M e λr=>au 1 r Ω
 .exact an.V N e λr=>au 2 r Ω
 .exact an.V O e λr=>au 3 r Ω
 .exact an.V P e λr=>au 4 r Ω
theorem bB.QJ{B:ah}{x:x4}{p:List Bool}(h:bB v2 A R w cs k co zero D G aX H E){T:ah}(e:af T w I)(q:∀r,T r->A 1 r\/(∀j,¬A j r)/\¬R r)(z:bq B R I [x] p)(C:∀j r,j≠1->B r->¬A j r)(F:∀r,B r->¬R r):bB v2 (fu A 1 B) R I (cs.set 4 x) k co zero D p aX H E:=by
 obtain⟨lc,J,S,K,L,M,rfl,h1,a,U,N,O,P,f⟩:=h;obtain⟨f,s⟩:=f rfl;have y:∀r,R r->¬T r:=λr h a=>(q r a).elim (λa=>s 1 r a h) λa=>a.2 h;have au:∀j r,j≠1->r<w.heap.size->A j r\/R r->¬T r:=λj r Q _ h a=>h.elim (λh=>(q r a).elim (λa=>f j 1 r Q h a) λa=>a.1 j h) λh=>y r h a;refine⟨lc,J,x,K,L,M,rfl,an.V h1 e λr _ h=>h.elim False.elim (y r),?_,?_,?_,?_,?_,λ_=>⟨sm f C,sn s F⟩⟩
 .exact an.V a e λr=>au 0 r Ω
 .exact z
 .exact an.V N e λr=>au 2 r Ω
 .exact an.V O e λr=>au 3 r Ω
 .exact an.V P e λr=>au 4 r Ω
theorem bB.k9{B:ah}{x:x4}{p:List (Λ)}(h:bB v2 A R w cs k co zero D G aX H E){T:ah}(e:af T w I)(q:∀r,T r->A 2 r\/(∀j,¬A j r)/\¬R r)(z:bq B R I [x] p)(C:∀j r,j≠2->B r->¬A j r)(F:∀r,B r->¬R r):bB v2 (fu A 2 B) R I (cs.set 5 x) k co zero D G p H E:=by
 obtain⟨lc,J,K,S,L,M,rfl,h1,a,N,U,O,P,f⟩:=h;obtain⟨f,s⟩:=f rfl;have y:∀r,R r->¬T r:=λr h a=>(q r a).elim (λa=>s 2 r a h) λa=>a.2 h;have au:∀j r,j≠2->r<w.heap.size->A j r\/R r->¬T r:=λj r Q _ h a=>h.elim (λh=>(q r a).elim (λa=>f j 2 r Q h a) λa=>a.1 j h) λh=>y r h a;refine⟨lc,J,K,x,L,M,rfl,an.V h1 e λr _ h=>h.elim False.elim (y r),?_,?_,?_,?_,?_,λ_=>⟨sm f C,sn s F⟩⟩
 .exact an.V a e λr=>au 0 r Ω
 .exact an.V N e λr=>au 1 r Ω
 .exact z
 .exact an.V O e λr=>au 3 r Ω
 .exact an.V P e λr=>au 4 r Ω
theorem bB.la{B:ah}{x:x4}{p:List jH}(h:bB v2 A R w cs k co zero D G aX H E){T:ah}(e:af T w I)(q:∀r,T r->A 3 r\/(∀j,¬A j r)/\¬R r)(z:bq B R I [x] p)(C:∀j r,j≠3->B r->¬A j r)(F:∀r,B r->¬R r):bB v2 (fu A 3 B) R I (cs.set 6 x) k co zero D G aX p E:=by
 obtain⟨lc,J,K,L,S,M,rfl,h1,a,N,O,U,P,f⟩:=h;obtain⟨f,s⟩:=f rfl;have y:∀r,R r->¬T r:=λr h a=>(q r a).elim (λa=>s 3 r a h) λa=>a.2 h;have au:∀j r,j≠3->r<w.heap.size->A j r\/R r->¬T r:=λj r Q _ h a=>h.elim (λh=>(q r a).elim (λa=>f j 3 r Q h a) λa=>a.1 j h) λh=>y r h a;refine⟨lc,J,K,L,x,M,rfl,an.V h1 e λr _ h=>h.elim False.elim (y r),?_,?_,?_,?_,?_,λ_=>⟨sm f C,sn s F⟩⟩
 .exact an.V a e λr=>au 0 r Ω
 .exact an.V N e λr=>au 1 r Ω
 .exact an.V O e λr=>au 2 r Ω
 .exact z
 .exact an.V P e λr=>au 4 r Ω
theorem bB.QK{B:ah}{x:x4}{p:List mE}(h:bB v2 A R w cs k co zero D G aX H E){T:ah}(e:af T w I)(q:∀r,T r->A 4 r\/(∀j,¬A j r)/\¬R r)(z:bq B R I [x] p)(C:∀j r,j≠4->B r->¬A j r)(F:∀r,B r->¬R r):bB v2 (fu A 4 B) R I (cs.set 7 x) k co zero D G aX H p:=by
 obtain⟨lc,J,K,L,M,S,rfl,h1,a,N,O,P,U,f⟩:=h;obtain⟨f,s⟩:=f rfl;have y:∀r,R r->¬T r:=λr h a=>(q r a).elim (λa=>s 4 r a h) λa=>a.2 h;have au:∀j r,j≠4->r<w.heap.size->A j r\/R r->¬T r:=λj r Q _ h a=>h.elim (λh=>(q r a).elim (λa=>f j 4 r Q h a) λa=>a.1 j h) λh=>y r h a;refine⟨lc,J,K,L,M,x,rfl,an.V h1 e λr _ h=>h.elim False.elim (y r),?_,?_,?_,?_,?_,λ_=>⟨sm f C,sn s F⟩⟩
 .exact an.V a e λr=>au 0 r Ω
 .exact an.V N e λr=>au 1 r Ω
 .exact an.V O e λr=>au 2 r Ω
 .exact an.V P e λr=>au 3 r Ω
 .exact z
theorem bB.QL{z:Int}(h:bB m A R w cs k co zero D G aX H E):bB m A R w (cs.set 2 (Δ z)) k co z D G aX H E:=by
 obtain⟨lc,a,e,f,j,p,rfl,h1,q,r,s,x,y,B⟩:=h;exact⟨lc,a,e,f,j,p,rfl,h1,q,r,s,x,y,B⟩
end
theorem pD{α:Type}[an α]{st t L:o5}{pl:List (Nat×Nat)}{gs c q b M:Nat}{N y v:x4}{box cs:List x4}{S A R:ah}{l:List α}{a:α}{K:x5->Prop}(ac:bK v8 st pl)(O:pl[c]?=σ (c,q+1))(P:v8.underlying t=σ (.slice e))(Q:aR v8 t 1 M N)(hi:aR v8 e (an.n α) b z)(T:z.cells.size=an.n α)(C:ag w gs st box)(U:box[c]?=σ v)(h:bq S R w [v] l)(J:cc w (an.n α) y 1 cs)(W:bq A R w cs a)(X:∀r,r<w.heap.size->S r->¬A r/\¬R r)(p:¬S gs/\¬A gs/\¬R gs)(ai:(l.length+1)*b<=140737488355328)(aj:l.length+1<=1000000)(Y:∀j I,af (λr=>S r\/r=gs) w I->ag I gs st (box.set c j)->bq (λr=>S r\/A r\/w.heap.size<=r) R I [j] (l++[a])->K I):
  aF v8 (Z9 #[t,t] L #[v,y]) w λj aa=>ab v8 (u7 st (Γ gs) c) aa λZ=>aF v8 (l9 t Z j) aa λ_ s=>K s:=by
 have ad:=(x6.1 U).1;refine nQ P hi T h J W (λr E J f=>?_) Ω Ω λj aa x F=>?_
 .have:=X r E J;exact f.elim this.1 this.2
 have ae:=C.V F p.1;rw[aU ac O];refine bt (o:=0+c) Q (lC x) (iX x) ae (by rw[X6];exact ad) λs G ak H=>?_;refine Y j s ((F.Y λr _ h=>.inl h).F (G.Y λr _ h=>.inr h)) (by rw[X6]at H;exact H) (an.V x G λr E f B=>?_);have B:r=gs:=B;subst B;have al:=C.lt;rcases f with f|f
 .rcases f with f|f|f
  .exact p.1 f
  .exact p.2.1 f
  .omega
 .exact p.2.2 f
section
variable{A:Nat->ah}{B R:ah}{w:x5}{cs xs:List x4}{gs:Nat}{y v:x4}{k zero:Int}{co:Λ}{D:List (Λ)}{G:List Bool}{aX:List (Λ)}{H:List jH}{E:List mE}{K:x5->Prop}
theorem bB.QM(h:bB v2 A R w cs k co zero D G aX H E)(L:ag w gs aI cs)(x:cs[3]?=σ v)(f:∀j r,A j r->gs<r)(s:∀r,R r->r<gs)(J:cc w 1 y 1 xs)(V:bq B R w xs a)(q:∀r,r<w.heap.size->B r->(∀j,¬A j r)/\gs<r)(ak:D.length<=1000)(W:∀aM bD I,af (λr=>gs<=r) w I->ag I gs aI bD->bB v2 aM R I bD k co zero (D++[a]) G aX H E->(∀j r,aM j r->gs<r)->(∀j,j≠3->bD[j]?=cs[j]?)->K I):
  aF v8 (Z9 #[ci,ci] U #[v,y]) w λM aa=>ab v8 (u7 aI (Γ gs) 3) aa λX=>aF v8 (l9 ci X M) aa λ_ z=>K z:=by
 have N:=h.old;have Y:=L.lt;obtain⟨lc,Z,al,am,ao,O,ac,h1,ad,ap,au,av,aw,C⟩:=id N;obtain⟨C,P⟩:=C rfl;have O:v=Z:=by rw[ac]at x;exact(Z4 x).symm
 subst O;have ae:bq (λr=>B r/\r<w.heap.size) R w xs a:=an.Y V (λr e h=>⟨h,e⟩) λ_ _ h=>h;refine pD aI.p rfl ci.u ci.i aq.i rfl L x ad J ae (λr e Q=>⟨λah=>(q r e ah.1).1 0 Q.1,P 0 r Q⟩) ⟨λh=>by have:=f 0 gs h.1;omega,λh=>by have:=(q gs Y h.1).2;omega,λh=>by have:=s gs h;omega⟩ Ω Ω λM z S ai aj=>?_;refine W _ _ z (S.Y λr _ h=>h.elim (λh=>by have:=f 0 r h.1;omega) λh=>Ω) ai (N.yw S (λr e=>?_) aj (λj r F e=>?_) λr e=>?_) (λj r e=>?_) λj F=>?_
 .rcases e with e|rfl
  .exact .inl e
  .exact .inr ⟨λj h=>by have:=f j r h.1;omega,λh=>by have:=s r h;omega⟩
 .rcases e with e|e|e
  .exact C 0 j r (R7 F) e
  .exact λh=>(q r e.2 e.1).1 j h.1
  .exact λh=>by have:=h.2;omega
 .rcases e with e|e|e
  .exact P 0 r e
  .exact λh=>by have:=(q r e.2 e.1).2;have:=s r h;omega
  .exact λh=>by have:=s r h;omega
 .unfold fu at e;split at e
  .rcases e with e|e|e
   .exact f 0 r e.1
   .exact (q r e.2 e.1).2
   .omega
  .exact f j r e.1
 .rw[Z6 (R7 F)]
theorem bB.QN{a:Bool}(h:bB v2 A R w cs k co zero D G aX H E)(L:ag w gs aI cs)(x:cs[4]?=σ v)(f:∀j r,A j r->gs<r)(s:∀r,R r->r<gs)(J:cc w 1 y 1 xs)(V:bq B R w xs a)(q:∀r,r<w.heap.size->B r->(∀j,¬A j r)/\gs<r)(ak:G.length<=1000)(W:∀aM bD I,af (λr=>gs<=r) w I->ag I gs aI bD->bB v2 aM R I bD k co zero D (G++[a]) aX H E->(∀j r,aM j r->gs<r)->(∀j,j≠4->bD[j]?=cs[j]?)->K I):
  aF v8 (Z9 #[jp,jp] U #[v,y]) w λM aa=>ab v8 (u7 aI (Γ gs) 4) aa λX=>aF v8 (l9 jp X M) aa λ_ z=>K z:=by
 have N:=h.old;have Y:=L.lt;obtain⟨lc,al,Z,am,ao,O,ac,h1,ap,ad,aq,au,av,C⟩:=id N;obtain⟨C,P⟩:=C rfl;have O:v=Z:=by rw[ac]at x;exact(Z4 x).symm
 subst O;have ae:bq (λr=>B r/\r<w.heap.size) R w xs a:=an.Y V (λr e h=>⟨h,e⟩) λ_ _ h=>h;refine pD aI.p rfl jp.u jp.i dN.i rfl L x ad J ae (λr e Q=>⟨λah=>(q r e ah.1).1 1 Q.1,P 1 r Q⟩) ⟨λh=>by have:=f 1 gs h.1;omega,λh=>by have:=(q gs Y h.1).2;omega,λh=>by have:=s gs h;omega⟩ Ω Ω λM z S ai aj=>?_;refine W _ _ z (S.Y λr _ h=>h.elim (λh=>by have:=f 1 r h.1;omega) λh=>Ω) ai (N.QJ S (λr e=>?_) aj (λj r F e=>?_) λr e=>?_) (λj r e=>?_) λj F=>?_
 .rcases e with e|rfl
  .exact .inl e
  .exact .inr ⟨λj h=>by have:=f j r h.1;omega,λh=>by have:=s r h;omega⟩
 .rcases e with e|e|e
  .exact C 1 j r (R7 F) e
  .exact λh=>(q r e.2 e.1).1 j h.1
  .exact λh=>by have:=h.2;omega
 .rcases e with e|e|e
  .exact P 1 r e
  .exact λh=>by have:=(q r e.2 e.1).2;have:=s r h;omega
  .exact λh=>by have:=s r h;omega
 .unfold fu at e;split at e
  .rcases e with e|e|e
   .exact f 1 r e.1
   .exact (q r e.2 e.1).2
   .omega
  .exact f j r e.1
 .rw[Z6 (R7 F)]
theorem bB.QO(h:bB v2 A R w cs k co zero D G aX H E)(L:ag w gs aI cs)(x:cs[5]?=σ v)(f:∀j r,A j r->gs<r)(s:∀r,R r->r<gs)(J:cc w 1 y 1 xs)(V:bq B R w xs a)(q:∀r,r<w.heap.size->B r->(∀j,¬A j r)/\gs<r)(ak:aX.length<=1000)(W:∀aM bD I,af (λr=>gs<=r) w I->ag I gs aI bD->bB v2 aM R I bD k co zero D G (aX++[a]) H E->(∀j r,aM j r->gs<r)->(∀j,j≠5->bD[j]?=cs[j]?)->K I):
  aF v8 (Z9 #[cZ,cZ] U #[v,y]) w λM aa=>ab v8 (u7 aI (Γ gs) 5) aa λX=>aF v8 (l9 cZ X M) aa λ_ z=>K z:=by
 have N:=h.old;have Y:=L.lt;obtain⟨lc,al,am,Z,ao,O,ac,h1,ap,aq,ad,au,av,C⟩:=id N;obtain⟨C,P⟩:=C rfl;have O:v=Z:=by rw[ac]at x;exact(Z4 x).symm
 subst O;have ae:bq (λr=>B r/\r<w.heap.size) R w xs a:=an.Y V (λr e h=>⟨h,e⟩) λ_ _ h=>h;refine pD aI.p rfl cZ.u cZ.i aw.i rfl L x ad J ae (λr e Q=>⟨λah=>(q r e ah.1).1 2 Q.1,P 2 r Q⟩) ⟨λh=>by have:=f 2 gs h.1;omega,λh=>by have:=(q gs Y h.1).2;omega,λh=>by have:=s gs h;omega⟩ Ω Ω λM z S ai aj=>?_;refine W _ _ z (S.Y λr _ h=>h.elim (λh=>by have:=f 2 r h.1;omega) λh=>Ω) ai (N.k9 S (λr e=>?_) aj (λj r F e=>?_) λr e=>?_) (λj r e=>?_) λj F=>?_
 .rcases e with e|rfl
  .exact .inl e
  .exact .inr ⟨λj h=>by have:=f j r h.1;omega,λh=>by have:=s r h;omega⟩
 .rcases e with e|e|e
  .exact C 2 j r (R7 F) e
  .exact λh=>(q r e.2 e.1).1 j h.1
  .exact λh=>by have:=h.2;omega
 .rcases e with e|e|e
  .exact P 2 r e
  .exact λh=>by have:=(q r e.2 e.1).2;have:=s r h;omega
  .exact λh=>by have:=s r h;omega
 .unfold fu at e;split at e
  .rcases e with e|e|e
   .exact f 2 r e.1
   .exact (q r e.2 e.1).2
   .omega
  .exact f j r e.1
 .rw[Z6 (R7 F)]
theorem bB.QP{a:jH}(h:bB v2 A R w cs k co zero D G aX H E)(L:ag w gs aI cs)(x:cs[6]?=σ v)(f:∀j r,A j r->gs<r)(s:∀r,R r->r<gs)(J:cc w 4 y 1 xs)(V:bq B R w xs a)(q:∀r,r<w.heap.size->B r->(∀j,¬A j r)/\gs<r)(ak:H.length<=1000)(W:∀aM bD I,af (λr=>gs<=r) w I->ag I gs aI bD->bB v2 aM R I bD k co zero D G aX (H++[a]) E->(∀j r,aM j r->gs<r)->(∀j,j≠6->bD[j]?=cs[j]?)->K I):
  aF v8 (Z9 #[du,du] U #[v,y]) w λM aa=>ab v8 (u7 aI (Γ gs) 6) aa λX=>aF v8 (l9 du X M) aa λ_ z=>K z:=by
 have N:=h.old;have Y:=L.lt;obtain⟨lc,al,am,ao,Z,O,ac,h1,ap,aq,au,ad,av,C⟩:=id N;obtain⟨C,P⟩:=C rfl;have O:v=Z:=by rw[ac]at x;exact(Z4 x).symm
 subst O;have ae:bq (λr=>B r/\r<w.heap.size) R w xs a:=an.Y V (λr e h=>⟨h,e⟩) λ_ _ h=>h;refine pD aI.p rfl du.u du.i c0.i rfl L x ad J ae (λr e Q=>⟨λah=>(q r e ah.1).1 3 Q.1,P 3 r Q⟩) ⟨λh=>by have:=f 3 gs h.1;omega,λh=>by have:=(q gs Y h.1).2;omega,λh=>by have:=s gs h;omega⟩ Ω Ω λM z S ai aj=>?_;refine W _ _ z (S.Y λr _ h=>h.elim (λh=>by have:=f 3 r h.1;omega) λh=>Ω) ai (N.la S (λr e=>?_) aj (λj r F e=>?_) λr e=>?_) (λj r e=>?_) λj F=>?_
 .rcases e with e|rfl
  .exact .inl e
  .exact .inr ⟨λj h=>by have:=f j r h.1;omega,λh=>by have:=s r h;omega⟩
 .rcases e with e|e|e
  .exact C 3 j r (R7 F) e
  .exact λh=>(q r e.2 e.1).1 j h.1
  .exact λh=>by have:=h.2;omega
 .rcases e with e|e|e
  .exact P 3 r e
  .exact λh=>by have:=(q r e.2 e.1).2;have:=s r h;omega
  .exact λh=>by have:=s r h;omega
 .unfold fu at e;split at e
  .rcases e with e|e|e
   .exact f 3 r e.1
   .exact (q r e.2 e.1).2
   .omega
  .exact f j r e.1
 .rw[Z6 (R7 F)]
end
theorem ol{R:ah}{v:x4}{g:Nat}(h:aA .i64 e w g v l):bq (λr=>lw v r) R w [v] l:=by
 have h1:=md (R:=R) h;by_cases f:v= .slice ν 0 0
 .subst f;have:l=[]:=by
   obtain⟨j,⟨_,a⟩|⟨_,_,a,_⟩⟩:=h
   .exact Z5 a
   .cases a
  subst this;exact gh
 .obtain⟨j,⟨a,_⟩|⟨cap,cs,a,_⟩⟩:=id h
  .exact ro a f
  .refine an.Y h1 (λr _ p=>?_) λ_ _ h=>h;rw[a];exact⟨_,_,_,rfl,p.symm⟩
theorem yx{R:ah}{v:x4}{g:Nat}(e:∀r c,B<=r->ag w r ai c->R r)(h:aA .i64 ai w g v l)(f:∀r,lw v r->B<=r):Seen R w [v] l:=p6 (ol (R:=λ_=>False) h) λr p a=>by
 rcases a with a|a
 .obtain⟨c,j⟩:=Qd h r a;exact e r c (f r a) j
 .exact a.elim
theorem QQ{R:ah}{zero:Int}{lc:x4}(h:Seen R w [lc] co):bB v2 (λ_ _=>False) R w [Δ k,lc,Δ zero,.slice ν 0 0,.slice ν 0 0,.slice ν 0 0,.slice ν 0 0,.slice ν 0 0] k co zero [] [] [] [] []:=
 ⟨_,_,_,_,_,_,rfl,h,gh,gh,gh,gh,gh,λ_=>⟨λ_ _ _ _ h=>h.elim,λ_ _ h=>h.elim⟩⟩
theorem bB.at{m:Bool}{A:Nat->ah}{R:ah}{cs:List x4}{zero:Int}{D:List (Λ)}{G:List Bool}{aX:List (Λ)}{H:List jH}{E:List mE}(h:bB m A R w cs k co zero D G aX H E)(c:Nat)(a:c<8):∃v,cs[c]?=σ v:=⟨_,x8 (by rw[h.len.1];exact a)⟩
def QR(R:ah)(w:x5)(e gt gs:Nat)(n:aH)(f:List x4)(i j:Nat)(a:x5):Prop:=Ext w a/\ag a e dT f/\ag a gt aI z12/\∃A cs,ag a gs aI cs/\(∀q r,A q r->gs<r)/\
 bB v2 A R a cs n.k n.co n.zero ((n.unary.take i).map λu=>aC (newVar u)) (o6 i v6) (n.unary.take i) ((n.d9.take j).map λg=>jI (lN n.co g)) []
theorem Fs{bI:x4}{n:aH}{R:ah}(ax:∀r,R r->r<w.heap.size)(a6:∀r c,B<=r->ag w r ai c->R r)(cA:x9 w B bI n)(ad:k4 n)(eb:n.d9.length<=256):al v8 H9 [bI] w λv I=>Ext w I/\∃A cs,v= .agg cs.toArray/\ia v2 A R I cs n.k n.co (cR n)/\∀q r,A q r->w.heap.size<=r:=by
 have ec:=ad.co.2.1;have cB:=ad.lL;refine aB func63 ?_;refine bp λg1 U ed a8 cC=>?_;obtain⟨lc,gz,cD,ee,bJ,cE,ef,ba,ay,az,cF,bK,bb,cG,bL,cH,bM⟩:=Qe cA cC;refine bF aI.i λgt aa eg aF aG=>?_;have aG:ag aa gt aI z12:=aG;have bc:=ay.W aF;rw[aL dT.p 0 bc rfl,aL dT.p 1 bc rfl,aL dT.p 2 bc rfl,
  dm (cs:=#[Δ n.k,lc,Δ n.zero,.slice ν 0 0,.slice ν 0 0,.slice ν 0 0,.slice ν 0 0,.slice ν 0 0]) (by obtain⟨_,_,_,e⟩:=dj az.ls;rw[e];kernel_rfl)]
 refine bF aI.i λgs eh ei aJ cI=>?_;have cJ:Seen R w [lc] n.co:=yx a6 az cH;have ej:=a8.size;have ek:=aF.size;have z3:=aJ.size;have cK:=(a8.F aF).F aJ;have bN:=QQ (k:=n.k) (zero:=n.zero) (bu cJ cK);refine b6 (vs:=[Δ n.k,lc,Δ n.zero,.slice ν 0 0,.slice ν 0 0,.slice ν 0 0,.slice ν 0 0,.slice ν 0 0]) aI.i rfl rfl bN.len.2 cI λem bd en cL=>?_;have eo:=aG.lt;have ep:=ay.lt;have cM:gt≠gs:=Ω
 have be:=(aF.F aJ).put bd Ω;have bO:=a8.F be;have cN:=(aG.W aJ).V bd λhe=>cM he;have er:w.heap.size<gs:=Ω
 rw[aL dT.p 1 (ay.W be) rfl,a1 aq.u (az.W bO).ls];have cO:=bN.V bd λr f h he=>by
  have he:r=gs:=he;rcases h with⟨_,h⟩|h
  .exact h
  .have:=ax r h;omega
 refine bW.range n.co.length (λi O=>QR R w g1 gt gs n [Δ n.k,lc,Δ n.zero,cD,cE] i 0 O) Ω ⟨bO,ay.W be,cN,_,_,cL,(λ_ _ h=>h.elim),cO⟩ ?_ ?_
 .rintro i O cP hi ⟨P,bf,bg,A,cs,ae,bh,aK⟩ cQ;obtain⟨z,bi⟩:=aD (l:=n.co) hi;obtain⟨u,hu⟩:=aD (l:=n.unary) (i:=i) Ω;have es:=ad.co.2.2 z (x7 bi);obtain⟨et,_⟩:=ad.unary i z u bi hu;refine bG Ω ?_;rw[bk aq.u ai.i Ψ (az.W P).ls bi];obtain⟨bP,rfl⟩:∃m:Nat,z=m:=⟨z.toNat,Ω⟩;refine ch.range bP (λj aj aM=>Ext O aM/\∃g,aA .i64 ai aM g aj ((X9 j).map λv:Nat=>(v:Int))/\∀r,lw aj r->O.heap.size<=r) Ω
   ⟨Ext.refl _,0,aA.nil _ _ _ _,λr f=>by obtain⟨a,n,c,J,Q⟩:=f;cases J⟩ ?_ ?_
  .rintro j aj aM bj bl ⟨K,cS,S,aN⟩ bm;refine bG Ω ?_;refine eT aq.u ai.i rfl λeu ev cT ey H cU=>?_;refine jg aq.u ai.i rfl (S.W H) cU.ls Θ Θ λez cV cW cX cY W=>?_;rw[aP];have c1:=K.size;have c2:=H.size;refine bm _ _ ⟨(K.F H).then W λr f he=>by have:=aN r he;omega,cV,?_,λr f=>(cY r f).elim (aN r) λh=>Ω⟩;rw[List.range_succ,Z3];exact cX
  rintro aj aM bj ⟨K,cS,S,aN⟩;refine cd Ω ?_;have c4:(X9 bP).map (λv:Nat=>(v:Int))=aC (newVar u):=by rw[Qf];congr 2;omega
  rw[c4]at S;have c1:=K.size;have eA:=P.size;have eB:=ae.lt;have ak:∀r,R r->r<gs:=λr f=>by have:=ax r f;omega
  have low:∀{s C:x5}{b:Nat}{e:o5}{c:List x4},af (λr=>gs<=r) s C->b<gs->ag s b e c->ag C b e c:=λL c5 h=>h.V L λX=>by have X:=X;omega
  have am:∀{s C:x5},Ext w s->af (λr=>gs<=r) s C->Ext w C:=λbn L=>bn.then L λr f h=>by have h:=h;omega
  have bQ:=aK.old.W K;have c6:∀q r,(A q r/\r<O.heap.size)->gs<r:=λq r h=>bh q r h.1;obtain⟨eC,bR⟩:=bQ.at 3 Ω;rw[aL aI.p 3 (ae.W K) bR];refine ju ci.u aq.i Φ (a:=aC (newVar u)) (cs:=[aj]) S.ls.cells.1 (ol (R:=R) S) λeD cT H _ c7=>?_;have c2:=H.size;have aO:=K.F H;refine bB.QM (bQ.W H) (ae.W aO) bR c6 ak c7 (bu (ol S) H) (λr f h=>?_) Θ λeE eF cW W bS bT c8 _=>?_
  .have:=aN r h;exact⟨λj h=>Ω,Ω⟩
  have eH:=W.size;obtain⟨eI,bU⟩:=bT.at 4 Ω;rw[aL aI.p 4 bS bU];refine ju (a:=v6) (cs:=[.bool v6]) (A:=λ_=>False) (R:=R) jp.u dN.i Φ rfl rfl λeJ eK Y _ c9=>?_;refine bB.QN (B:=λ_=>False) (bT.W Y) (bS.W Y) bU c8 ak c9 rfl (λr f h=>h.elim) Θ λda eL bV aQ bX db dc _=>?_;have z9:=Y.size;have eM:=aQ.size;have dd:Ext w bV:=am ((am (P.F aO) W).F Y) aQ;have de:=low aQ Ω ((low W Ω (bf.W aO)).W Y);have df:=low aQ Ω ((low W Ω (bg.W aO)).W Y);intro bo Z _ _;have bY:=bX.W Z;have b0:=de.W Z;have b1:=dd.F Z;obtain⟨ab,aR⟩:∃ab,bJ[i]?=σ ab:=⟨_,x8 (by have:=congrArg Q2 bK;rw[r8]at this;omega)⟩;have dg:ab.l=u:=by
   have b2:(bJ.map (·.l))[i]?=σ ab.l:=by rw[u4,aR];rfl
   rw[bK,hu]at b2;exact(Z4 b2).symm
  have br:=cF.W b1;obtain⟨eN,b3⟩:=br.2 ab (x7 aR);rw[dg]at b3;have b4:=db.old.W Z;have dh:∀q r,(da q r/\r<bV.heap.size)->gs<r:=λq r h=>dc q r h.1;obtain⟨eO,b5⟩:=b4.at 5 Ω;rw[aL aI.p 5 bY b5,aL dT.p 3 b0 rfl,cj rfl cZ.u aw.i br.1 (x6.1 aR).1,aE (v:=ab.v) (o:=i*1) Ψ (br.1.range aR 0 _ rfl)];refine yc (k:=.i64) aw.u av.i λdi eP eQ eR aS b7=>?_;refine⟨.inl aS,?_⟩;refine jg aw.u av.i rfl b7 (b3.W aS).ls Θ Θ λb8 eS dk aT dl dn=>?_;rw[List.nil_append]at aT;have eU:=Z.size;have eV:=aS.size;have b9:∀r,lw di r->bo.heap.size<=r:=λr f=>by have:=(bZ b7 f).1;omega
  have dp:∀r,lw b8 r->bo.heap.size<=r:=λr f=>(dl r f).elim (b9 r) λh=>Ω
  have bs:Ext bo dk:=aS.then dn λr f he=>by have:=b9 r he;omega
  refine⟨.inl bs,?_⟩;have eW:=bs.size;refine ju cZ.u aw.i Φ (a:=u) (cs:=[b8]) aT.ls.cells.1 (ol (R:=R) aT) λeX eY bt _ dq=>?_;have eZ:=bt.size;have ac:=bs.F bt;refine⟨.inl ac,?_⟩;refine bB.QO (b4.W ac) (bY.W ac) b5 dh ak dq (bu (ol (R:=R) aT) bt) (λr f h=>?_) Θ λdr ds e0 bw dt dv dw _=>?_
  .have:=dp r h;have:=bX.lt;exact⟨λj h=>Ω,Ω⟩
  rw[aP];refine cQ _ ⟨am (b1.F ac) bw,low bw Ω (b0.W ac),low bw Ω ((df.W Z).W ac),dr,ds,dt,dw,?_⟩;rw[r9,hu,j6,Z3,T3,List.map_nil,List.replicate_succ'];exact dv
 rintro O cP ⟨P,bf,bg,A,cs,ae,bh,aK⟩;refine cd Ω ?_;rw[Z0 Ω]at aK;have e1:ba.length=n.d9.length:=by rw[<-bL,r8]
 have dx:=bb.W P;rw[aL dT.p 4 bf rfl,ew c3.u dx];have ak:∀r,R r->r<gs:=λr f=>by have:=ax r f;omega
 have low:∀{s C:x5}{b:Nat}{e:o5}{c:List x4},af (λr=>gs<=r) s C->b<gs->ag s b e c->ag C b e c:=λL c5 h=>h.V L λX=>by have X:gs<=_:=X;omega
 have am:∀{s C:x5},Ext w s->af (λr=>gs<=r) s C->Ext w C:=λbn L=>bn.then L λr f h=>by have h:gs<=r:=h;omega
 refine bW.range ba.length (λj G=>Ext w G/\ag G gt aI z12/\∃A cs,ag G gs aI cs/\(∀q r,A q r->gs<r)/\
  bB v2 A R G cs n.k n.co n.zero (n.unary.map λu=>aC (newVar u)) (o6 n.co.length v6) n.unary ((n.d9.take j).map λg=>jI (lN n.co g)) []) bb.le ⟨P,bg,A,cs,ae,bh,aK⟩ ?_ ?_
 .rintro j G bj bl ⟨M,bx,bz,aU,aW,aX,an⟩ bm;obtain⟨y,ao⟩:=aD (l:=ba) bl;have ca:n.d9[j]?=σ (dJ y):=by rw[<-bL,u4,ao];rfl
  have cb:=(ad.d9 (dJ y) (x7 ca)).1;have e2:y.cs.length<=4096:=by
   have h1:y.cs.length=_:=cb.len;have X:=cb.small;omega
  have cc:=cG y (x7 ao);have ce:=cc.W M;have cf:=bb.W M;refine bG Ω ?_;rw[cj rfl c3.u a7.i cf bl,bC a7.p a7.i rfl (cf.range ao)];refine bF a7.i λe3 e4 e5 dy dz=>?_;refine b6 (vs:=dR y) a7.i rfl rfl ce.one dz λdA dC e6 dD=>?_;have dE:Ext G dA:=dy.put dC Ω;intro bA cg _ _;have N:=dE.F cg;have ck:=aW.W N;have bD:=dD.W cg;have dF:=ce.W N;obtain⟨⟨e7,cl⟩,⟨e8,cm⟩,e9,dG⟩:=id dF;have cn:=an.old.W N;have dH:∀q r,(bz q r/\r<G.heap.size)->gs<r:=λq r h=>aX q r h.1;obtain⟨fa,cp⟩:=cn.at 6 Ω;rw[aL aI.p 6 ck cp,aL a7.p 0 bD rfl,aL a7.p 1 bD rfl,aL a7.p 2 bD rfl];refine yc (k:=.i64) aw.u av.i λv25 fb fc fd aY cq=>?_;refine⟨.inl aY,?_⟩;refine jg aw.u av.i rfl cq (dG.W aY).ls Θ Θ λE fe cr aZ dI dK=>?_;rw[List.nil_append]at aZ;have ff:=N.size;have z25:=aY.size;have ct:∀r,lw v25 r->bA.heap.size<=r:=λr f=>by have:=(bZ cq f).1;omega
  have dL:∀r,lw E r->bA.heap.size<=r:=λr f=>(dI r f).elim (ct r) λh=>Ω
  have a2:Ext bA cr:=aY.then dK λr f he=>by have:=ct r he;omega
  refine⟨.inl a2,?_⟩;rw[dm (cs:=#[y.aV,y.lc,E]) (by obtain⟨_,_,_,J⟩:=dj cl.ls;obtain⟨_,_,_,Q⟩:=dj cm.ls;obtain⟨_,_,_,ap⟩:=dj aZ.ls;rw[J,Q,ap];kernel_rfl),
   dm (cs:=#[y.aV,y.lc,E,.bool v2]) (by obtain⟨_,_,_,J⟩:=dj cl.ls;obtain⟨_,_,_,Q⟩:=dj cm.ls;obtain⟨_,_,_,ap⟩:=dj aZ.ls;rw[J,Q,ap];kernel_rfl)]
  have fg:=a2.size;have cu:=(M.F N).F a2;obtain⟨⟨ga,dM⟩,⟨fh,dO⟩,_⟩:=id cc;have own:bq (α:=jH) (λr=>lw E r) R cr [y.aV,y.lc,E,.bool v2] (jI (lN n.co (dJ y))):=by
   refine⟨[y.aV,y.lc,E],[.bool v2],λr=>lw E r,λ_=>False,rfl,λ_ h=>h,λ_ h=>h.elim,λ_ _ _ h=>h,⟨[y.aV],[y.lc,E],λ_=>False,λr=>lw E r,rfl,λ_ h=>h.elim,λ_ h=>h,λ_ _ h=>h.elim,?_,[y.lc],[E],λ_=>False,λr=>lw E r,rfl,λ_ h=>h.elim,λ_ h=>h,λ_ _ h=>h.elim,?_,?_⟩,rfl⟩
   .exact bu (yx a6 dM λr f=>bM y (x7 ao) r (.inr (.inl f))) cu
   .exact bu (yx a6 dO λr f=>bM y (x7 ao) r (.inr (.inr f))) cu
   .exact ol aZ
  refine ju du.u c0.i Φ rfl own λfj fk bE _ dP=>?_;have fm:=bE.size;have au:=a2.F bE;refine⟨.inl au,?_⟩;refine bB.QP (cn.W au) (ck.W au) cp dH ak dP (bu own bE) (λr f h=>?_) Θ λdQ dS fo cw dU dV dW _=>?_
  .have:=dL r h;have:=aW.lt;exact⟨λj h=>Ω,Ω⟩
  rw[aP];refine bm _ ⟨am (M.F (N.F au)) cw,low cw Ω (bx.W (N.F au)),dQ,dS,dU,dW,?_⟩;rw[r9,ca,j6,Z3,T3,List.map_nil];exact dV
 rintro G bj ⟨M,bx,bz,aU,aW,aX,an⟩;rw[Z0 Ω]at an;refine cd Ω ?_;obtain⟨bH,dX⟩:=an.len;rw[bC aI.p aI.i bH (show G.rangeAt gs 0 aU from aW.range)];refine b6 (vs:=aU) aI.i bH rfl dX bx λfp cz fq dY=>?_;rw[fi aI.p aI.i bH dY.range];have dZ:=an.V cz λr f h he=>by
  have he:r=gt:=he;rcases h with⟨q,h⟩|h
  .have:=aX q r h;omega
  .have:=ax r h;omega
 have fs:=M.size;refine⟨M.then cz λr f he=>by have he:r=gt:=he;omega,bz,aU,rfl,?_,λq r h=>by have:=aX q r h;omega⟩;have J:(cR n).d6.map aC=n.unary.map λu=>aC (newVar u):=by show(n.unary.map newVar).map aC=_;rw[S6];rfl
 have Q:(cR n).d6.map (λx=>decide (x.gone≠0))=o6 n.co.length v6:=by
  show(n.unary.map newVar).map _=_;rw[S6,<-cB];exact List.map_const' ..
 have ap:(cR n).d6.map (·.un)=n.unary:=by show(n.unary.map newVar).map _=_;rw[S6];exact List.map_id _
 have ea:(cR n).d9.map jI=n.d9.map λg=>jI (lN n.co g):=by show(n.d9.map (lN n.co)).map jI=_;rw[S6];rfl
 unfold ia;rw[J,Q,ap,ea];exact dZ
section
variable{A:Nat->ah}{B R:ah}{w:x5}{cs xs:List x4}{gs:Nat}{y v:x4}{k zero:Int}{co:Λ}{D:List (Λ)}{G:List Bool}{aX:List (Λ)}{H:List jH}{E:List mE}{K:x5->Prop}{Z:ah}
theorem bB.QS{ac:o5}(h:bB v2 A R w cs k co zero D G aX H E)(O:ag w gs aI cs)(x:cs[3]?=σ v)(z:∀j r,A j r->gs<r\/Z r)(f:∀r,Z r->r<gs/\A 4 r)(s:∀r,R r->r<gs)(J:cc w 1 y 1 xs)(ad:bq B R w xs a)(q:∀r,r<w.heap.size->B r->(∀j,¬A j r)/\gs<r)(aw:D.length<=1000)(ae:∀aM bD I,af (λr=>gs<=r) w I->ag I gs aI bD->bB v2 aM R I bD k co zero (D++[a]) G aX H E->(∀j r,aM j r->gs<r\/Z r)->(∀r,Z r->r<gs/\aM 4 r)->(∀j,j≠3->bD[j]?=cs[j]?)->K I):
  aF v8 (Z9 #[ci,ci] ac #[v,y]) w λP aa=>ab v8 (u7 aI (Γ gs) 3) aa λah=>aF v8 (l9 ci ah P) aa λ_ C=>K C:=by
 have Q:=h.old;have ai:∀i j r,i≠j->A i r->¬A j r:=by obtain⟨_,_,_,_,_,_,_,_,_,_,_,_,_,aj⟩:=id h;exact(aj rfl).1
 have S:∀r,A 0 r->gs<r:=λr h=>(z 0 r h).resolve_right λF=>ai 0 4 r Ω h (f r F).2;have U:∀j,¬A j gs:=λj h=>(z j gs h).elim (λh=>Ω) λh=>by have:=(f gs h).1;omega
 have ak:=O.lt;obtain⟨lc,al,ax,ay,az,V,am,h1,F,aA,aB,aC,aD,L⟩:=id Q;obtain⟨L,W⟩:=L rfl;have V:v=al:=by rw[am]at x;exact(Z4 x).symm
 subst V;have ao:bq (λr=>B r/\r<w.heap.size) R w xs a:=an.Y ad (λr e h=>⟨h,e⟩) λ_ _ h=>h;refine pD aI.p rfl ci.u ci.i aq.i rfl O x F J ao (λr e X=>⟨λap=>(q r e ap.1).1 0 X.1,W 0 r X⟩) ⟨λh=>U 0 h.1,λh=>by have:=(q gs ak h.1).2;omega,λh=>by have:=s gs h;omega⟩ Ω Ω λP C Y au av=>?_;refine ae _ _ C (Y.Y λr _ h=>h.elim (λh=>by have:=S r h.1;omega) λh=>Ω) au (Q.yw Y (λr e=>?_) av (λj r M e=>?_) λr e=>?_) (λj r e=>?_) (λr N=>⟨(f r N).1,?_⟩) λj M=>?_
 .rcases e with e|rfl
  .exact .inl e
  .exact .inr ⟨λj h=>U j h.1,λh=>by have:=s r h;omega⟩
 .rcases e with e|e|e
  .exact L 0 j r (R7 M) e
  .exact λh=>(q r e.2 e.1).1 j h.1
  .exact λh=>by have:=h.2;omega
 .rcases e with e|e|e
  .exact W 0 r e
  .exact λh=>by have:=(q r e.2 e.1).2;have:=s r h;omega
  .exact λh=>by have:=s r h;omega
 .unfold fu at e;split at e
  .rcases e with e|e|e
   .exact .inl (S r e.1)
   .exact .inl (q r e.2 e.1).2
   .exact .inl Ω
  .exact z j r e.1
 .unfold fu;rw[rc Ω];exact⟨(f r N).2,by have:=(f r N).1;omega⟩
 .rw[Z6 (R7 M)]
theorem bB.QT{ac:o5}(h:bB v2 A R w cs k co zero D G aX H E)(N:ag w gs aI cs)(x:cs[5]?=σ v)(z:∀j r,A j r->gs<r\/Z r)(f:∀r,Z r->r<gs/\A 4 r)(s:∀r,R r->r<gs)(J:cc w 1 y 1 xs)(ad:bq B R w xs a)(q:∀r,r<w.heap.size->B r->(∀j,¬A j r)/\gs<r)(ax:aX.length<=1000)(ae:∀aM bD I,af (λr=>gs<=r) w I->ag I gs aI bD->bB v2 aM R I bD k co zero D G (aX++[a]) H E->(∀j r,aM j r->gs<r\/Z r)->(∀r,Z r->r<gs/\aM 4 r)->(∀j,j≠5->bD[j]?=cs[j]?)->K I):
  aF v8 (Z9 #[cZ,cZ] ac #[v,y]) w λO aa=>ab v8 (u7 aI (Γ gs) 5) aa λah=>aF v8 (l9 cZ ah O) aa λ_ C=>K C:=by
 have P:=h.old;have ai:∀i j r,i≠j->A i r->¬A j r:=by obtain⟨_,_,_,_,_,_,_,_,_,_,_,_,_,aj⟩:=id h;exact(aj rfl).1
 have Q:∀r,A 2 r->gs<r:=λr h=>(z 2 r h).resolve_right λS=>ai 2 4 r Ω h (f r S).2;have U:∀j,¬A j gs:=λj h=>(z j gs h).elim (λh=>Ω) λh=>by have:=(f gs h).1;omega
 have ak:=N.lt;obtain⟨lc,ay,az,al,aA,V,am,h1,S,aB,ao,aC,aD,F⟩:=id P;obtain⟨F,W⟩:=F rfl;have V:v=al:=by rw[am]at x;exact(Z4 x).symm
 subst V;have ap:bq (λr=>B r/\r<w.heap.size) R w xs a:=an.Y ad (λr e h=>⟨h,e⟩) λ_ _ h=>h;refine pD aI.p rfl cZ.u cZ.i aw.i rfl N x ao J ap (λr e X=>⟨λaq=>(q r e aq.1).1 2 X.1,W 2 r X⟩) ⟨λh=>U 2 h.1,λh=>by have:=(q gs ak h.1).2;omega,λh=>by have:=s gs h;omega⟩ Ω Ω λO C Y au av=>?_;refine ae _ _ C (Y.Y λr _ h=>h.elim (λh=>by have:=Q r h.1;omega) λh=>Ω) au (P.k9 Y (λr e=>?_) av (λj r L e=>?_) λr e=>?_) (λj r e=>?_) (λr M=>⟨(f r M).1,?_⟩) λj L=>?_
 .rcases e with e|rfl
  .exact .inl e
  .exact .inr ⟨λj h=>U j h.1,λh=>by have:=s r h;omega⟩
 .rcases e with e|e|e
  .exact F 2 j r (R7 L) e
  .exact λh=>(q r e.2 e.1).1 j h.1
  .exact λh=>by have:=h.2;omega
 .rcases e with e|e|e
  .exact W 2 r e
  .exact λh=>by have:=(q r e.2 e.1).2;have:=s r h;omega
  .exact λh=>by have:=s r h;omega
 .unfold fu at e;split at e
  .rcases e with e|e|e
   .exact .inl (Q r e.1)
   .exact .inl (q r e.2 e.1).2
   .exact .inl Ω
  .exact z j r e.1
 .unfold fu;rw[rc Ω];exact⟨(f r M).2,by have:=(f r M).1;omega⟩
 .rw[Z6 (R7 L)]
theorem bB.QU{a:jH}{ac:o5}(h:bB v2 A R w cs k co zero D G aX H E)(N:ag w gs aI cs)(x:cs[6]?=σ v)(z:∀j r,A j r->gs<r\/Z r)(f:∀r,Z r->r<gs/\A 4 r)(s:∀r,R r->r<gs)(J:cc w 4 y 1 xs)(ad:bq B R w xs a)(q:∀r,r<w.heap.size->B r->(∀j,¬A j r)/\gs<r)(aw:H.length<=1000)(ae:∀aM bD I,af (λr=>gs<=r) w I->ag I gs aI bD->bB v2 aM R I bD k co zero D G aX (H++[a]) E->(∀j r,aM j r->gs<r\/Z r)->(∀r,Z r->r<gs/\aM 4 r)->(∀j,j≠6->bD[j]?=cs[j]?)->K I):
  aF v8 (Z9 #[du,du] ac #[v,y]) w λO aa=>ab v8 (u7 aI (Γ gs) 6) aa λah=>aF v8 (l9 du ah O) aa λ_ C=>K C:=by
 have P:=h.old;have ai:∀i j r,i≠j->A i r->¬A j r:=by obtain⟨_,_,_,_,_,_,_,_,_,_,_,_,_,aj⟩:=id h;exact(aj rfl).1
 have Q:∀r,A 3 r->gs<r:=λr h=>(z 3 r h).resolve_right λS=>ai 3 4 r Ω h (f r S).2;have U:∀j,¬A j gs:=λj h=>(z j gs h).elim (λh=>Ω) λh=>by have:=(f gs h).1;omega
 have ak:=N.lt;obtain⟨lc,ax,ay,az,al,V,am,h1,S,aA,aB,ao,aC,F⟩:=id P;obtain⟨F,W⟩:=F rfl;have V:v=al:=by rw[am]at x;exact(Z4 x).symm
 subst V;have ap:bq (λr=>B r/\r<w.heap.size) R w xs a:=an.Y ad (λr e h=>⟨h,e⟩) λ_ _ h=>h;refine pD aI.p rfl du.u du.i c0.i rfl N x ao J ap (λr e X=>⟨λaq=>(q r e aq.1).1 3 X.1,W 3 r X⟩) ⟨λh=>U 3 h.1,λh=>by have:=(q gs ak h.1).2;omega,λh=>by have:=s gs h;omega⟩ Ω Ω λO C Y au av=>?_;refine ae _ _ C (Y.Y λr _ h=>h.elim (λh=>by have:=Q r h.1;omega) λh=>Ω) au (P.la Y (λr e=>?_) av (λj r L e=>?_) λr e=>?_) (λj r e=>?_) (λr M=>⟨(f r M).1,?_⟩) λj L=>?_
 .rcases e with e|rfl
  .exact .inl e
  .exact .inr ⟨λj h=>U j h.1,λh=>by have:=s r h;omega⟩
 .rcases e with e|e|e
  .exact F 3 j r (R7 L) e
  .exact λh=>(q r e.2 e.1).1 j h.1
  .exact λh=>by have:=h.2;omega
 .rcases e with e|e|e
  .exact W 3 r e
  .exact λh=>by have:=(q r e.2 e.1).2;have:=s r h;omega
  .exact λh=>by have:=s r h;omega
 .unfold fu at e;split at e
  .rcases e with e|e|e
   .exact .inl (Q r e.1)
   .exact .inl (q r e.2 e.1).2
   .exact .inl Ω
  .exact z j r e.1
 .unfold fu;rw[rc Ω];exact⟨(f r M).2,by have:=(f r M).1;omega⟩
 .rw[Z6 (R7 L)]
end
def mF(w:x5)(g:Nat)(k:Int)(co:Λ)(s:ak):Prop:=∃lc a e f h j,ag w g aI [Δ k,lc,Δ s.zero,a,e,f,h,j]/\aN .i64 w lc co/\Seen fj w [lc] co/\
 Seen fj w [a] (s.d6.map aC)/\Seen fj w [e] (s.d6.map λx=>decide (x.gone≠0))/\Seen fj w [f] (s.d6.map (·.un))/\Seen fj w [h] (s.d9.map jI)/\Seen fj w [j] (s.eC.map qH)
section
variable{w I:x5}{g:Nat}{v:x4}{k:Int}{co:Λ}{s:ak}
theorem mF.W(h:mF w g k co s)(a:Ext w I):mF I g k co s:=by
 obtain⟨lc,e,f,j,p,q,r,h1,x,y,z,A,B,C⟩:=h;exact⟨lc,e,f,j,p,q,r.W a,h1.W a,bu x a,bu y a,bu z a,bu A a,bu B a,bu C a⟩
theorem jJ.box(h:jJ w v k co s)(f:Ext w I)(j:ag I g aI v.cells.toList):mF I g k co s:=by
 obtain⟨cs,rfl,lc,z,B,C,E,F,rfl,h1,p,q,r,x,y,_⟩:=h;obtain⟨_,_,_,G⟩:=dj (en h1);have c:∀{α:Type}[an α]{v:x4}{l:List α}{A:ah},an.rep v6 A fj w [v] l->∃a n c,v= .slice a n c:=λh=>by
  obtain⟨_,_,_,_,_,⟨_,b,o,base,cap,e,_⟩,_⟩:=jt h;exact⟨_,_,_,e⟩
 obtain⟨_,_,_,H⟩:=c p;obtain⟨_,_,_,J⟩:=c q;obtain⟨_,_,_,K⟩:=c r;obtain⟨_,_,_,L⟩:=c x;obtain⟨_,_,_,M⟩:=c y;refine⟨lc,z,B,C,E,F,?_,(en h1).W f,bu h1 f,bu p f,bu q f,bu r f,bu x f,bu y f⟩;rw[G,H,J,K,L,M]at j ⊢;exact j
theorem mF.load{K:x4->Prop}(h:mF w g k co s)(a:∀u,jJ w u k co s->K u):ab v8 (u6 aI (Γ g)) w K:=by
 obtain⟨lc,e,f,j,q,r,x,h1,y,z,A,B,C,E⟩:=h;rw[bC aI.p aI.i rfl x.range];exact a _ ⟨_,rfl,lc,e,f,j,q,r,rfl,y,z,A,B,C,E,λh=>by cases h⟩
theorem QV{i:Int}(h:jJ w v k co s):al v8 IZ [v,Δ i] w λr I=>r= .bool (decide (0<=i/\i<co.length))/\Ext w I:=by
 refine aB func144 ?_;refine bp λg1 U x a e=>?_;obtain⟨lc,y,z,A,B,C,e,q,_⟩:=h.box a e;refine aZ (λv aa=>v= .bool (decide (0<=i/\i<co.length))/\Ext w aa) (λ_ _ h=>h) λax f=>?_;rw[cP,am];refine⟨λj=>?_,λj=>f _ _ ⟨by rw[s2];omega,a⟩⟩;rw[aL aI.p 1 e rfl,a1 aq.u q,aS];refine f _ _ ⟨?_,a⟩;congr 1;exact decide_eq_decide.2 ⟨λh=>⟨j,h⟩,λh=>h.2⟩
theorem om{m:Bool}{S R:ah}{cs:List x4}{f:cr}(h:an.rep (α:=jH) m S R w cs (jI f)):∃aV lc ba,cs=[aV,lc,ba,.bool (decide (f.live≠0))]/\Seen fj w [aV] f.sc/\Seen fj w [lc] f.aj/\Seen fj w [ba] f.cs:=by
 obtain⟨E,p,A,B,rfl,_,_,_,⟨q,F,aM,G,rfl,_,_,_,h1,r,s,H,x,rfl,_,_,_,a,e⟩,j⟩:=h;have one:∀{α:Type}[an α]{m:Bool}{S R:ah}{c:List x4}{l:List α},an.rep m S R w c l->∃v,c=[v]:=λh=>by obtain⟨v,y,_⟩:=h;exact⟨v,y⟩
 have h1:Seen _ w q f.sc:=h1;have a:Seen _ w r f.aj:=a;have j:p=[.bool (decide (f.live≠0))]:=j;have e:an.rep m x R w s f.cs:=e;obtain⟨z,rfl⟩:=one h1;obtain⟨C,rfl⟩:=one a;obtain⟨v3,rfl⟩:=one e;subst j;exact⟨z,C,v3,rfl,js h1,js a,js e⟩
theorem QW{j:Int}(h:jJ w v k co s):al v8 Ki [v,Δ j] w λr I=>r= .bool (decide (0<=j)&&ft s j.toNat)/\Ext w I:=by
 refine aB func260 ?_;refine bp λg1 U C a e=>?_;obtain⟨lc,E,G,H,J,K,e,L,_,_,_,_,y,_⟩:=h.box a e;refine aZ (λv aa=>v= .bool (decide (0<=j)&&ft s j.toNat)/\Ext w aa) (λ_ _ h=>h) λax q=>?_;rw[cP,am];refine⟨λx=>?_,λx=>q _ _ ⟨by rw[s2 x];rfl,a⟩⟩;rw[aL aI.p 6 e rfl,gR du.u y,aS,am,r8];refine⟨λM=>?_,λN=>q _ _ ⟨by unfold ft;rw[Y5 Ω,Bool.and_false],a⟩⟩;obtain⟨f,z⟩:=aD (l:=s.d9) (i:=j.toNat) Ω;rw[aL aI.p 6 e rfl];refine kT (i:=j.toNat) Ω du.u c0.i y (by rw[u4,z];rfl) λb o cs A B=>?_;obtain⟨O,P,v3,rfl,_⟩:=om B;rw[aU c0.p rfl,aE (v:=.bool (decide (f.live≠0))) Ψ (A 3 _ rfl)];exact q _ _ ⟨by unfold ft;rw[z,rs x,Q4],a⟩
end
end Go.Proofs.YtnhkbjhpbbobaaaGreatDoor
namespace Go.Vc
open Go Go.RowKit
section
variable{P:V3}{w:x5}{α:Type}[an α]{S R:ah}
theorem sq{t:o5}{b:Nat}(f:P.underlying t=σ (.slice e))(hi:aR P e (an.n α) b z)(j:∀v I,Ext w I->bq (λr=>w.heap.size<=r) R I [v] ([]:List α)->K v I):aF P (X2 t 0 #[]) w K:=
 kS f hi Ω (cs:=#[]) (by simp[Instr.fill]) λg I x p q=>j _ I p (by
  have hm:b0 I g e (an.n α) (.slice (σ ⟨g,0,ν⟩) 0 0) 0 []:=b0.full (by simpa using q) Ξ (by simp[maxLen]);exact⟨_,rfl,[],g,λ_ _=>False,⟨λ_ _ h=>h.elim,λ_ _ h=>h,λ_ _ _ _ _ h=>h.elim⟩,⟨rfl,λi c a s=>by simp at s⟩,o0 hm (.inr (.inl Ω)),λ_=>⟨.inr Ω,e,hm⟩⟩)
theorem sr{t p:o5}{b:Nat}{v x:x4}{m:Bool}{S':ah}{l':List α}(j:P.underlying t=σ (.slice e))(hi:aR P e (an.n α) b z)(q:z.cells.size=an.n α)(h:bq S R w [v] ([]:List α))(s:an.rep m S' R w [x] l')(y:∀{F:ah}{c:List x4}{a:α},an.rep m F R w c a->bq (λ_=>False) R w c a)(A:∀r,r<w.heap.size->S r->¬R r)(B:l'.length*b<=140737488355328)(C:l'.length<=9223372036854775807)(E:∀f I,bq (λr=>S r\/w.heap.size<=r) R I [f] l'->af S w I->K f I):aF P (Z9 #[t,t] p #[v,x]) w K:=by
 obtain⟨vs,g,F,ac,he,J,_⟩:=jt s;refine Bc (l:=[]) (l':=l') (us:=vs) (G:=λ_ _=>False) j j hi q h J.sl ⟨he.1,λi c a H L=>y (he.2 i c a H L)⟩ (λ_ _ _ _ h=>h.elim) (λr M h=>⟨λ_ h=>h,A r M h⟩) (by simpa using B) (by simpa using C) λf I h1 N=>E f I (an.Y h1 (λr _ h=>?_) λ_ _ h=>h) N;rcases h with h|⟨_,h⟩|h
 .exact .inl h
 .exact h.elim
 .exact .inr h
end
end Go.Vc
namespace Go.Proofs.YtnhkbjhpbbobaaaGreatDoor
open Go Go.Vc Go.RowKit Go.Proofs Go.Proofs.Tryz
set_option maxRecDepth 100000
theorem qI{α:Type}[an α]{m:Bool}{S R:ah}{v:x4}{l:List α}(h:an.rep m S R w [v] l):∃a n c,v= .slice a n c:=by
 obtain⟨_,_,_,_,_,⟨_,b,o,base,cap,e,_⟩,_⟩:=jt h;exact⟨_,_,_,e⟩
theorem QX{ca:Nat->ah}{R:ah}{cs:List x4}{s:ak}(h:ia v2 ca R w cs k co s)(E:∀r,R r->r<w.heap.size)(aM:bd k co s)(eR:s.d9.length<=1000)(he:s.eC.length<=1000):
  al v8 HV [.agg cs.toArray] w λv I=>Ext w I/\∃A bD,v= .agg bD.toArray/\ia v2 A R I bD k co s/\∀q r,A q r->w.heap.size<=r:=by
 have eS:=aM.ed.2.1;have eU:=aM.d6;obtain⟨lc,ab,ac,ad,ae,J,rfl,cb,bm,cc,ce,bo,br,c6⟩:=bB.old h;refine aB func33 ?_;refine bp λg1 U eV cf N=>?_;have N:ag U g1 aI [Δ k,lc,Δ s.zero,ab,ac,ad,ae,J]:=by
  obtain⟨_,_,_,c7⟩:=qI cb;obtain⟨_,_,_,c8⟩:=qI bm;obtain⟨_,_,_,c9⟩:=qI cc;obtain⟨_,_,_,da⟩:=qI ce;obtain⟨_,_,_,db⟩:=qI bo;obtain⟨_,_,_,dc⟩:=qI br;rw[c7,c8,c9,da,db,dc]at N ⊢;exact N
 have dd:∀u∈([Δ k,lc,Δ s.zero,ab,ac,ad,ae,J]:List x4),u.oneCell'=v2:=(bB.len h).2;refine bF aI.i λgt aa eW bs cg=>?_;rw[bC aI.p aI.i rfl (N.W bs).range];refine bF aI.i λgs eX eY bw de=>?_;refine b6 (vs:=[Δ k,lc,Δ s.zero,ab,ac,ad,ae,J]) aI.i rfl rfl dd de λO ch eZ cj=>?_;have e0:=cf.size;have e1:=bs.size;have z3:=bw.size;have e2:=N.lt;have e3:=cg.lt;have bx:Ext U O:=(bs.F bw).put ch Ω;have df:=(cg.W bw).V ch λhe=>by have he:gt=gs:=he;omega
 have ck:=cf.F bx;have bz:∀r,R r->r<gs:=λr B=>by have:=E r B;omega
 refine sq (α:=Bool) (R:=R) jp.u dN.i λv5 P am dg=>?_;have aN:=bx.F am;have z4:=bx.size;have z5:=am.size;rw[aL aI.p 4 (N.W aN) rfl];refine sr (α:=Bool) jp.u dN.i rfl dg (bu (bu cc ck) am) (λh=>h) (λr B y H=>by have:=E r H;omega) Θ Θ λbA aX bE cl=>?_;have aY:∀{K L:x5}{b:Nat}{e:o5}{c:List x4},af (λr=>gs<=r) K L->b<gs->ag K b e c->ag L b e c:=λbH e4 h=>h.V bH λy=>by have y:gs<=_:=y;omega
 have aO:∀{K L:x5},Ext w K->af (λr=>gs<=r) K L->Ext w L:=λdh bH=>dh.then bH λr B h=>by have h:gs<=r:=h;omega
 have e5:=cj.lt;have bI:af (λr=>gs<=r) P aX:=cl.Y λr _ h=>by have h:O.heap.size<=r:=h;omega
 have di:ag aX gs aI [Δ k,lc,Δ s.zero,ab,ac,ad,ae,J]:=(cj.W am).V cl λh=>by have h:O.heap.size<=gs:=h;omega
 rw[aU aI.p rfl];refine bt (g:=gs) (o:=3) ci.i Ψ rfl di Ξ λe6 dj e7 dk=>?_;rw[aU aI.p rfl];refine bt (g:=gs) (o:=4) jp.i (lC bE) (iX bE) dk Ξ λe8 dl e9 dm=>?_;rw[aU aI.p rfl];refine bt (g:=gs) (o:=5) cZ.i Ψ rfl dm Ξ λfa dn fb dp=>?_;rw[aU aI.p rfl];refine bt (g:=gs) (o:=6) du.i Ψ rfl dp Ξ λaZ dq fc bJ=>?_;have bJ:ag aZ gs aI [Δ k,lc,Δ s.zero,.slice ν 0 0,bA,.slice ν 0 0,.slice ν 0 0,J]:=bJ;have bK:∀{K L:x5},af (λr=>r=gs) K L->af (λr=>gs<=r) K L:=λh=>h.Y λr _ h=>by have h:r=gs:=h;omega
 have a1:af (λr=>r=gs) aX aZ:=((dj.F dl).F dn).F dq;have a2:Ext w aZ:=aO (aO (ck.F am) bI) (bK a1);have cm:=aY (bK a1) Ω (aY bI Ω (N.W aN));have dr:=aY (bK a1) Ω (aY bI Ω (df.W am));obtain⟨fd,ds⟩:=c6 rfl;let Z:ah:=λr=>ca 4 r/\r<w.heap.size;have cn:∀r,Z r->r<gs:=λr h=>by have:=h.2;omega
 let Q:Nat->ah:=λj r=>if j=1 then O.heap.size<=r else if j=4 then Z r else False;have dt:bB v2 Q R aZ [Δ k,lc,Δ s.zero,.slice ν 0 0,bA,.slice ν 0 0,.slice ν 0 0,J] k co s.zero [] (s.d6.map λx=>decide (x.gone≠0)) [] [] (s.eC.map qH):=by
  refine⟨_,_,_,_,_,_,rfl,bu cb a2,gh,?_,gh,gh,bu br a2,λ_=>⟨λi j r fe h1 y=>?_,λi r h1 y=>?_⟩⟩
  .have dv:bq (λr=>O.heap.size<=r) R aX [bA] (s.d6.map λx=>decide (x.gone≠0)):=an.Y bE (λr _ h=>by
    rcases h with h|h
    .exact h
    .show O.heap.size<=r;omega) λ_ _ h=>h
   refine an.V dv a1 λr B h1 y=>?_;have y:r=gs:=y;subst y;rcases h1 with h1|h1
   .have h1:O.heap.size<=r:=h1;omega
   .have:=E r h1;omega
  .simp only[Q]at h1 y;split at h1<;>split at y
   .omega
   .split at y
    .have:=y.2;omega
    .exact y
   .split at h1
    .have:=h1.2;omega
    .exact h1
   .split at h1<;>split at y
    .omega
    .exact y
    .exact h1
    .exact h1
  .simp only[Q]at h1;have:=E r y;split at h1
   .omega
   .split at h1
    .exact ds 4 r h1 y
    .exact h1
 have dw:∀j r,Q j r->gs<r\/Z r:=λj r h=>by
  simp only[Q]at h;split at h
  .exact .inl Ω
  .split at h
   .exact .inr h
   .exact h.elim
 have dx:∀r,Z r->r<gs/\Q 4 r:=λr h=>⟨cn r h,h⟩;have dy:=bu bm a2;rw[aL aI.p 3 cm rfl,gR ci.u dy,r8];refine bW.range s.d6.length (λi P=>Ext w P/\ag P g1 aI [Δ k,lc,Δ s.zero,ab,ac,ad,ae,J]/\ag P gt aI z12/\∃A cs,ag P gs aI cs/\(∀q r,A q r->gs<r\/Z r)/\(∀r,Z r->r<gs/\A 4 r)/\
  bB v2 A R P cs k co s.zero ((s.d6.take i).map aC) (s.d6.map λx:bn=>decide (x.gone≠0)) ((s.d6.take i).map λx:bn=>x.un) [] (s.eC.map qH)) Ω ⟨a2,cm,dr,Q,_,bJ,dw,dx,dt⟩ ?_ ?_
 .rintro i dz dA hi ⟨a6,a8,bL,A,cs,ao,bM,aQ,aR⟩ dC;obtain⟨x,ba⟩:=aD (l:=s.d6) hi;obtain⟨z,cp⟩:=aD (l:=co) (i:=i) Ω;have ff:=(aM.var i x z ba cp).1;have fg:=aM.ed.2.2 z (x7 cp);have fh:(aC x).length<=32:=by
   unfold aC;refine X1 (List.length_filter_le _ _) ?_;rw[r8,List.length_range];omega
  have dD:=ao.lt;refine bG Ω ?_;intro ap S _ _;have bN:=a6.F S;have fj:=S.size;have cq:=a8.W S;obtain⟨d0,cr⟩:=aR.at 3 Ω;rw[aL aI.p 3 (ao.W S) cr,aL aI.p 3 cq rfl];refine kT (α:=Λ) (a:=aC x) rfl ci.u aq.i (bu bm bN) (by rw[u4,ba];rfl) λfk fm dE dF ct=>?_;obtain⟨cu,rfl⟩:∃u,dE=[u]:=by obtain⟨u,hu,_⟩:=ct;exact⟨u,hu⟩
  rw[aE (v:=cu) Ψ (by have:=dF 0 cu rfl;simpa using this)];refine sq (α:=Int) (R:=R) aq.u ai.i λfo fp bb dG=>?_;refine⟨.inl bb,?_⟩;refine sr (α:=Int) aq.u ai.i rfl dG (bu ct bb) (λh=>h) (λr B y H=>by have:=E r H;have:=bN.size;omega) Ω Ω λcw cz cA cB=>?_;have fq:=bb.size;have fs:=cB.size;have cC:Ext ap cz:=bb.then cB λr B h=>by have h:ap.heap.size<=r:=h;omega
  refine⟨.inl cC,?_⟩;have cD:bq (λr=>ap.heap.size<=r) R cz [cw] (aC x):=an.Y cA (λr _ h=>by
   rcases h with h|h
   .exact h
   .show ap.heap.size<=r;omega) λ_ _ h=>h
  refine ju ci.u aq.i Φ (a:=aC x) (cs:=[cw]) (lC cA) cD λft fv aN _ dH=>?_;have au:=cC.F aN;refine⟨.inl au,?_⟩;have dI:=aR.old.W (S.F au);refine bB.QS dI (ao.W (S.F au)) cr (λq r h=>bM q r h.1) (λr h=>⟨(aQ r h).1,(aQ r h).2,by have:=(aQ r h).1;omega⟩) bz dH (bu cD aN) (λr B h=>⟨λj y=>by have h:ap.heap.size<=r:=h;omega,by have h:ap.heap.size<=r:=h;omega⟩) Θ λfw fx dJ bO bP cE dK bQ _=>?_;have dL:Ext w dJ:=aO (bN.F au) bO;have dM:=aY bO Ω (cq.W au);have dO:=aY bO Ω ((bL.W S).W au);have fy:=bP.lt;intro ax W _ _;have bR:=dL.F W;have fz:=W.size;have cF:=dM.W W;obtain⟨fA,cG⟩:=cE.at 5 Ω;rw[aL aI.p 5 (bP.W W) cG,aL aI.p 5 cF rfl];refine kT (α:=Λ) (a:=x.un) rfl cZ.u aw.i (bu ce bR) (by rw[u4,ba];rfl) λfB fD bc dP cH=>?_;obtain⟨cI,rfl⟩:∃u,bc=[u]:=by obtain⟨u,hu,_⟩:=cH;exact⟨u,hu⟩
  rw[aE (v:=cI) Ψ (by have:=dP 0 cI rfl;simpa using this)];refine sq (α:=Int) (R:=R) aw.u av.i λfE fF be dQ=>?_;refine⟨.inl be,?_⟩;refine sr (α:=Int) aw.u av.i rfl dQ (bu cH be) (λh=>h) (λr B y H=>by have:=E r H;have:=bR.size;omega) Ω Ω λcJ cK cL cM=>?_;have fG:=be.size;have fH:=cM.size;have cN:Ext ax cK:=be.then cM λr B h=>by have h:ax.heap.size<=r:=h;omega
  refine⟨.inl cN,?_⟩;have cO:bq (λr=>ax.heap.size<=r) R cK [cJ] x.un:=an.Y cL (λr _ h=>by
   rcases h with h|h
   .exact h
   .show ax.heap.size<=r;omega) λ_ _ h=>h
  refine ju cZ.u aw.i Φ (a:=x.un) (cs:=[cJ]) (lC cL) cO λfI fJ cP _ dR=>?_;have ay:=cN.F cP;refine⟨.inl ay,?_⟩;have dS:=cE.old.W (W.F ay);refine bB.QT dS (bP.W (W.F ay)) cG (λq r h=>dK q r h.1) (λr h=>⟨(bQ r h).1,(bQ r h).2,by have:=(bQ r h).1;omega⟩) bz dR (bu cO cP) (λr B h=>⟨λj y=>by have h:ax.heap.size<=r:=h;omega,by have h:ax.heap.size<=r:=h;omega⟩) Θ λdT dU fK bS dV dW dX dY _=>?_;rw[aP];refine dC _ ⟨aO (bR.F ay) bS,aY bS Ω (cF.W ay),aY bS Ω ((dO.W W).W ay),dT,dU,dV,dX,dY,?_⟩;rw[r9,ba,j6,Z3,Z3];exact dW
 rintro dz dA ⟨a6,a8,bL,A,cs,ao,bM,aQ,aR⟩;rw[j4]at aR;refine cd Ω ?_;have dZ:=bu bo a6;have dD:=ao.lt;rw[aL aI.p 6 a8 rfl,gR du.u dZ,r8];refine bW.range s.d9.length (λj C=>Ext w C/\ag C g1 aI [Δ k,lc,Δ s.zero,ab,ac,ad,ae,J]/\ag C gt aI z12/\∃A cs,ag C gs aI cs/\(∀q r,A q r->gs<r\/Z r)/\(∀r,Z r->r<gs/\A 4 r)/\
  bB v2 A R C cs k co s.zero (s.d6.map aC) (s.d6.map λx:bn=>decide (x.gone≠0)) (s.d6.map λx:bn=>x.un) ((s.d9.take j).map jI) (s.eC.map qH)) Ω ⟨a6,a8,bL,A,cs,ao,bM,aQ,aR⟩ ?_ ?_
 .rintro j C ea cQ ⟨M,bT,bf,aS,bc,az,bg,aT,X⟩ eb;obtain⟨f,bU⟩:∃f,s.d9[j]?=σ f:=⟨_,x8 cQ⟩;obtain⟨_,fL,fM⟩:=uQ aM (x7 bU);have ec:=az.lt;refine bG Ω ?_;refine ni c0.p rfl du.u c0.i (bu bo M) (by rw[u4,bU];rfl) λfN bV=>?_;have ee:=an.one bV;have fO:=bV;obtain⟨cR,cS,ef,eg,rfl,_,_,_,⟨bh,cT,eh,ei,rfl,_,_,_,aA,cU,cV,fP,ej,rfl,_,_,_,aF,aG⟩,bX⟩:=bV;have aA:Seen R C bh f.sc:=aA;have aF:Seen R C cU f.aj:=aF;have aG:an.rep v2 ej R C cV f.cs:=aG;have bX:cS=[.bool (decide (f.live≠0))]:=bX;obtain⟨aV,rfl⟩:∃u,bh=[u]:=by obtain⟨u,hu,_⟩:=aA;exact⟨u,hu⟩
  obtain⟨aH,rfl⟩:∃u,cU=[u]:=by obtain⟨u,hu,_⟩:=aF;exact⟨u,hu⟩
  obtain⟨v3,rfl⟩:∃u,cV=[u]:=by obtain⟨u,hu,_⟩:=aG;exact⟨u,hu⟩
  subst bX;refine bF c0.i λaJ fQ fR ek em=>?_;refine b6 (vs:=[aV,aH,v3,.bool (decide (f.live≠0))]) c0.i rfl rfl ee em λG en fS bi=>?_;have bY:Ext C G:=ek.put en Ω;refine sq (α:=Int) (R:=R) aw.u av.i λfU fV bj eo=>?_;have cW:=bY.F bj;rw[aU c0.p rfl,aU a7.p rfl,aE (v:=v3) Ψ ((bi.W bj).cell (o:=0+0+2) rfl)];refine sr (α:=Int) aw.u av.i rfl eo (bu aG cW) (λh=>h) (λr B y H=>by have:=E r H;have:=(M.F bY).size;omega) Ω Ω λaK fW bZ b0=>?_;have fX:=bY.size;have fY:=bj.size;have fZ:=b0.size;have ep:=(bi.W bj).V b0 λh=>by have h:G.heap.size<=aJ:=h;have:=bi.lt;omega
  rw[aU c0.p rfl,aU a7.p rfl];refine bt (g:=aJ) (o:=2) aw.i (lC bZ) (iX bZ) ep Ξ λbk cX gb b1=>?_;have b1:ag bk aJ c0 [aV,aH,aK,.bool (decide (f.live≠0))]:=b1;have gc:C.heap.size<=aJ:=Ω
  have gd:=bi.lt;have bl:Ext C bk:=(cW.then b0 λr B h=>by have h:G.heap.size<=r:=h;omega).then cX λr B h=>by have h:r=aJ:=h;omega
  have er:bq (λr=>G.heap.size<=r) R bk [aK] f.cs:=an.Y (an.V bZ cX λr B h y=>by
   have y:r=aJ:=y;rcases h with h|h
   .rcases h with h|h
    .have h:G.heap.size<=r:=h;omega
    .omega
   .have:=E r h;have:=M.size;omega) (λr _ h=>by
    rcases h with h|h
    .exact h
    .show G.heap.size<=r;omega) λ_ _ h=>h
  have own:bq (α:=jH) (λr=>G.heap.size<=r) R bk [aV,aH,aK,.bool (decide (f.live≠0))] (jI f):=
   ⟨[aV,aH,aK],[.bool (decide (f.live≠0))],λr=>G.heap.size<=r,λ_=>False,rfl,λ_ h=>h,λ_ h=>h.elim,λ_ _ _ h=>h,⟨[aV],[aH,aK],λ_=>False,λr=>G.heap.size<=r,rfl,λ_ h=>h.elim,λ_ h=>h,λ_ _ h=>h.elim,bu aA bl,[aH],[aK],λ_=>False,λr=>G.heap.size<=r,rfl,λ_ h=>h.elim,λ_ h=>h,λ_ _ h=>h.elim,bu aF bl,er⟩,rfl⟩
  obtain⟨f0,cY⟩:=X.at 6 Ω;rw[aL aI.p 6 (az.W bl) cY,bC c0.p c0.i rfl b1.range];refine ju du.u c0.i Φ rfl own λgf gg c1 _ es=>?_;have aW:=bl.F c1;have et:=X.old.W aW;refine bB.QU et (az.W aW) cY (λq r h=>bg q r h.1) (λr h=>⟨(aT r h).1,(aT r h).2,by have:=(aT r h).1;omega⟩) bz es (bu own c1) (λr B h=>⟨λj y=>by have h:G.heap.size<=r:=h;omega,by have h:G.heap.size<=r:=h;omega⟩) Θ λeu ev gi b2 ew ey ez eA _=>?_;rw[aP];refine eb _ ⟨aO (M.F aW) b2,aY b2 Ω (bT.W aW),aY b2 Ω (bf.W aW),eu,ev,ew,ez,eA,?_⟩;rw[r9,bU,j6,Z3];exact ey
 rintro C ea ⟨M,bT,bf,aS,bc,az,bg,aT,X⟩;rw[j4]at X;refine cd Ω ?_;have ec:=az.lt;have gj:=M.size;refine sq (α:=mE) (R:=R) oP.u q7.i λgk eB Y eD=>?_;have gl:=Y.size;rw[aL aI.p 7 (bT.W Y) rfl];refine sr (α:=mE) oP.u q7.i rfl eD (bu br (M.F Y)) (λh=>?_) (λr B y H=>by have:=E r H;omega) Θ Θ λb3 gm b4 b5=>?_
 .obtain⟨cR,cS,ef,eg,rfl,_,_,_,aA,bh,cT,eh,ei,rfl,_,_,_,aF,aG⟩:=h;exact⟨cR,_,λ_=>False,λ_=>False,rfl,λ_ h=>h,λ_ h=>h,λ_ _ h=>h.elim,aA,bh,cT,λ_=>False,λ_=>False,rfl,λ_ h=>h,λ_ h=>h,λ_ _ h=>h.elim,aF,aG⟩
 have gn:=b5.size;have eE:=(az.W Y).V b5 λh=>by have h:C.heap.size<=gs:=h;omega
 rw[aU aI.p rfl];refine bt (g:=gs) (o:=7) oP.i (lC b4) (iX b4) eE (by rw[(bB.len X).1];omega) λb7 c2 gp eF=>?_;have b8:af (λr=>C.heap.size<=r\/r=gs) eB b7:=(b5.Y λr _ h=>.inl h).F (c2.Y λr _ h=>.inr h);have eH:bq (λr=>C.heap.size<=r) R b7 [b3] (s.eC.map qH):=an.Y (an.V b4 c2 λr B h y=>by
  have y:r=gs:=y;rcases h with h|h
  .rcases h with h|h
   .have h:C.heap.size<=r:=h;omega
   .omega
  .have:=E r h;omega) (λr _ h=>by
   rcases h with h|h
   .exact h
   .show C.heap.size<=r;omega) λ_ _ h=>h
 have eI:=(X.old).W Y;have eJ:∀j,¬aS j gs:=λj h=>(bg j gs h).elim (λh=>Ω) λh=>by have:=cn gs h;omega
 have eK:∀i j r,i≠j->aS i r->¬aS j r:=by obtain⟨_,_,_,_,_,_,_,_,_,_,_,_,_,eL⟩:=id X;exact(eL rfl).1
 have c3:=eI.QK (x:=b3) b8 (λr B=>?_) eH (λj r cQ B y=>by have B:C.heap.size<=r:=B;have:=y.2;omega) (λr B y=>by have B:C.heap.size<=r:=B;have:=E r y;omega)
 rotate_left
 .refine .inr ⟨λj y=>?_,λy=>?_⟩
  .rcases B with B|rfl
   .have:=y.2;omega
   .exact eJ j y.1
  .have:=E r y;rcases B with B|B<;>omega
 obtain⟨b9,eM⟩:=c3.len;have eN:ag b7 gt aI z12:=(bf.W Y).V b8 λh=>by
  rcases h with h|h
  .have:=bf.lt;omega
  .omega
 rw[bC aI.p aI.i b9 eF.range];refine b6 (vs:=bc.set 7 b3) aI.i b9 rfl eM eN λgq c4 gu eO=>?_;rw[fi aI.p aI.i b9 eO.range];have c5:∀q r,fu (λi r=>aS i r/\r<C.heap.size) 4 (λr=>C.heap.size<=r) q r->gs<r:=λq r h=>by
  unfold fu at h;split at h
  .have h:C.heap.size<=r:=h;omega
  .rename_i eP;exact(bg q r h.1).resolve_right λy=>eK q 4 r eP h.1 (aT r y).2
 have eQ:=c3.V c4 λr B h he=>by
  have he:r=gt:=he;rcases h with⟨q,h⟩|h
  .have:=c5 q r h;omega
  .have:=E r h;omega
 refine⟨((M.F Y).then b8 λr B h=>?_).then c4 λr B h=>by have h:r=gt:=h;omega,_,_,rfl,eQ,λq r h=>by have:=c5 q r h;omega⟩;rcases h with h|h<;>omega
theorem uY{S T:Nat->Prop}(h:af S w I)(k:af T w I):af (λr=>S r/\T r) w I:=
 ⟨h.size,λr o a J f=>by
  by_cases e:S r
  .exact k.aY r o a J λj=>f ⟨e,j⟩
  .exact h.aY r o a J e⟩
theorem nv{ad ae:Nat}{A R:ah}{n:aH}{s:ak}{t:az}(h:bE w ad ae A R n s t):∀r,A r\/R r->r<w.heap.size:=λr a=>by
 obtain⟨j,p,q,x,⟨_,_,e,f⟩,_⟩:=h.1;exact a.elim (f r) (e r)
structure cb(w:x5)(ad ae ao:Nat)(A R:ah)(A9:Nat->ah)(aG:ah)(n:aH)(s u:ak)(t:az)(h:List az)(cs:List x4):Prop where
 dA:bE w ad ae A R n s t
 im:iA t h
 box:ag w ao aI cs
 doc:ia v2 A9 aG w cs n.k n.co u
 apart:∀q r,A9 q r->¬A r/\¬R r/\r≠ao
 read:∀r,aG r->¬eG w r/\r<w.heap.size/\r≠ao
 out:¬A ao/\¬R ao
section
variable{w I:x5}{ad ae ao:Nat}{A R:ah}{A9:Nat->ah}{aG:ah}{n:aH}{s u:ak}{t:az}{h:List az}{cs:List x4}
theorem cb.W(p:cb w ad ae ao A R A9 aG n s u t h cs)(a:Ext w I):cb I ad ae ao A R A9 aG n s u t h cs:=
 ⟨p.dA.W a,p.im,p.box.W a,p.doc.W a,p.apart,λr e=>⟨λh=>(p.read r e).1 (n8 (λo f J _=>a.aY r o f J) h),by have:=(p.read r e).2.1;have:=a.size;omega,(p.read r e).2.2⟩,p.out⟩
theorem cb.prog{aM R':ah}{s':ak}{bs:az}{aW:List az}(p:cb w ad ae ao A R A9 aG n s u t h cs)(x:af (eG w) w I)(f:Grow A w aM I)(C:bE I ad ae aM R' n s' bs)(j:iA bs aW)(y:∀r,R' r->R r\/B<=r)(E:∀q r,A9 q r->r<w.heap.size->r<B)(K:ao<B):
  cb I ad ae ao aM R' (λq r=>A9 q r/\r<w.heap.size) aG n s' u bs aW cs:=by
 have L:=p.box.lt;have z:=x.size;refine⟨C,j,p.box.V f.1 p.out.1,bB.V p.doc.old (uY x f.1) λr e h j=>?_,λq r h=>⟨λa=>?_,λe=>(y r e).elim (p.apart q r h.1).2.1 λF=>by have:=E q r h.1 h.2;omega,(p.apart q r h.1).2.2⟩,λr e=>⟨λh=>?_,by have:=(p.read r e).2.1;omega,(p.read r e).2.2⟩,λa=>?_,λe=>(y ao e).elim p.out.2 λF=>Ω⟩
 .rcases h with⟨q,h⟩|h
  .exact (p.apart q r h.1).1 j.2
  .exact (p.read r h).1 j.1
 .rcases f.2.1 r a with a|a
  .exact (p.apart q r h.1).1 a
  .have:=h.2;omega
 .exact (p.read r e).1 (n8 (λo G J H=>x.aY r o G J H) h)
 .rcases f.2.1 ao a with a|a
  .exact p.out.1 a
  .omega
theorem cb.QY{S:ah}{cw:Nat->ah}{u':ak}{bD:List x4}(p:cb w ad ae ao A R A9 aG n s u t h cs)(f:af S w I)(y:∀r,r<w.heap.size->S r->(∃q,A9 q r)\/r=ao)(B:ag I ao aI bD)(C:ia v2 cw aG I bD n.k n.co u')(E:∀q r,cw q r->(∃j,A9 j r)\/(¬A r/\¬R r/\r≠ao)):
  cb I ad ae ao A R cw aG n s u' t h bD:=by
 have K:=p.box.lt;have z:=f.size;have F:∀q r,A9 q r->¬aG r:=by obtain⟨_,_,_,_,_,_,_,_,_,_,_,_,_,G⟩:=p.doc;exact(G rfl).2
 refine⟨⟨p.dA.1.V f λr e h J=>?_,p.dA.2⟩,p.im,B,C,λq r h=>?_,λr e=>⟨λh=>(p.read r e).1 (n8 (λo H J _=>f.aY r o H J λa=>?_) h),by have:=(p.read r e).2.1;omega,(p.read r e).2.2⟩,p.out⟩
 .rcases y r e J with⟨q,a⟩|a
  .exact h.elim (p.apart q r a).1 (p.apart q r a).2.1
  .subst a;exact h.elim p.out.1 p.out.2
 .rcases E q r h with⟨j,a⟩|a
  .exact p.apart j r a
  .exact a
 .rcases y r (p.read r e).2.1 a with⟨q,x⟩|x
  .exact F q r x e
  .exact (p.read r e).2.2 x
theorem cb.QZ{S:ah}{cw:Nat->ah}{u':ak}{bD:List x4}(p:cb w ad ae ao A R A9 aG n s u t h cs)(e:∀r,A r\/R r->r<B)(E:ao<B)(f:af S w I)(j:∀r,r<w.heap.size->S r->(∃q,A9 q r)\/r=ao)(x:ag I ao aI bD)(y:ia v2 cw aG I bD n.k n.co u')(z:∀q r,cw q r->(∃C,A9 C r)\/B<=r):
  cb I ad ae ao A R cw aG n s u' t h bD:=
 p.QY f j x y λq r h=>(z q r h).imp id λF=>⟨λa=>by have:=e r (.inl a);omega,λa=>by have:=e r (.inr a);omega,Ω⟩
theorem cb.Ft{S:ah}{cw:Nat->ah}{u':ak}{bD:List x4}(p:cb w ad ae ao A R A9 aG n s u t h cs)(a:af S w I)(e:∀r,r<w.heap.size->S r->(∃q,A9 q r)\/r=ao)(f:ag I ao aI bD)(j:ia v2 cw aG I bD n.k n.co u')(x:∀q r,cw q r->(∃y,A9 y r)\/w.heap.size<=r):
  cb I ad ae ao A R cw aG n s u' t h bD:=p.QZ (nv p.dA) p.box.lt a e f j x
theorem cb.look(p:cb w ad ae ao A R A9 aG n s u t h cs):mF w ao n.k n.co u:=by
 refine jJ.box p.doc.yv (Ext.refl _) ?_;have:=p.box;exact this
theorem cb.pE(p:cb w ad ae ao A R A9 aG n s u t h cs):∃lc a e f j q,cs=[Δ n.k,lc,Δ u.zero,a,e,f,j,q]/\aN .i64 w lc n.co:=by
 obtain⟨lc,a,e,f,j,q,h1,r,_⟩:=p.doc;exact⟨lc,a,e,f,j,q,h1,en r⟩
end
end Go.Proofs.YtnhkbjhpbbobaaaGreatDoor
namespace Go.Vc
open Go Go.RowKit
section
variable{P:V3}{w:x5}{α:Type}[an α]{S R:ah}
theorem uZ{v:x4}{l:List α}{i:Nat}{a:α}(h:bq S R w [v] l)(G:l[i]?=σ a)(Z:∀r,r<w.heap.size->S r->¬R r):∃g cap c F,v= .slice (σ ⟨g,0,ν⟩) l.length cap/\w.rangeAt g (i*an.n α) c/\bq F R w c a/\(∀r,F r->S r)/\
  ∀{I:x5}{a':α}{T y:ah},af T w I->(∀r,r<w.heap.size->T r->F r)->bq y R I c a'->(∀r,y r->F r\/w.heap.size<=r)->bq (λr=>S r\/w.heap.size<=r) R I [v] (l.set i a'):=by
 have ap:=(x6.1 G).1;obtain⟨vs,g,F,ac,he,J,hm⟩:=jt h;obtain⟨aa,H,K⟩:=hm rfl;obtain⟨aq,⟨rfl,au⟩|⟨cap,full,rfl,L,av,aw,ax,ay⟩⟩:=id K
 .omega
 have ab:vs.length=l.length:=he.1;have M:S g:=aa.resolve_left Ξ;obtain⟨c,A⟩:∃c,vs[i]?=σ c:=⟨_,x8 Ω⟩;have ad:=he.2 i c a A G;refine⟨g,cap,c,F i,rfl,?_,ad,λr p=>ac.sub i r p,λ{I a' T y}N O P B=>?_⟩
 .obtain⟨_,az,o',aA,aB,ae,_,_,ag,_,ai⟩:=J;cases ae;cases ag Ω;intro j u aj;have Q:=ai (i*an.n α+j) u (by rw[<-List.flatMap_id];exact qp (f:=id) (k:=an.n α) (λx ak=>he.len x ak) A aj);rw[X6]at Q;exact Q
 have al:¬T g:=λh=>ac.top rfl i (O g L.lt h);have aC:=an.len P;have aD:vs.set i c=vs:=by
  refine X0 λq=>?_;rw[Y7];by_cases U:i=q
  .subst U;rw[ms rfl,ms Ω,A]
  .rw[rc U]
 have W:b0 I g H (an.n α) (.slice (σ ⟨g,0,ν⟩) l.length cap) (l.set i a').length vs.flatten:=by
  rw[o7];exact K.V N λ_=>al
 refine⟨_,rfl,vs,g,λj r=>if j=i then y r else F j r/\r<w.heap.size,⟨λj r p=>?_,λ_ j p=>?_,λ_ j q r am h1 s=>?_⟩,⟨by simp[ab],λj X Y E C=>?_⟩,?_,λ_=>⟨.inr (.inl M),H,W⟩⟩
 .split at p
  .exact (B r p).imp (ac.sub i r) id
  .exact .inl (ac.sub j r p.1)
 .split at p
  .rcases B g p with h|h
   .exact ac.top rfl i h
   .have:=L.lt;omega
  .exact ac.top rfl j p.1
 .split at h1<;>split at s
  .omega
  .rcases B r h1 with h|h
   .rename_i e _;exact ac.gQ rfl i q r Ω h s.1
   .have:=s.2;omega
  .rcases B r s with h|h
   .exact ac.gQ rfl j i r Ω h1.1 h
   .have:=h1.2;omega
  .exact ac.gQ rfl j q r am h1.1 s.1
 .by_cases z:j=i
  .subst z;rw[A]at E;rw[n9 Ω]at C;cases E;cases C;exact an.Y P (λr _ h=>by simpa using h) λ_ _ h=>h
  .rw[Z6 (R7 z)]at C;have ao:bq (λr=>if j=i then y r else F j r/\r<w.heap.size) R w X Y:=an.Y (he.2 j X Y E C) (λr p h=>by rw[rc z];exact⟨h,p⟩) λ_ _ h=>h;refine an.V ao N λr p h1 s=>?_;have s:=O r p s;rcases h1 with h1|h1
   .simp only[rc z]at h1;exact ac.gQ rfl j i r z h1.1 s
   .exact Z r p (ac.sub i r s) h1
 .have:=o0 (S:=λr=>(S r\/w.heap.size<=r)\/R r) W (.inr (.inl (.inl M)));exact this
theorem Fu{v:x4}{l:List α}{i:Nat}{a:α}(h:bq S R w [v] l)(N:l[i]?=σ a)(O:∀r,r<w.heap.size->S r->¬R r):∃g cap full y c F,v= .slice (σ ⟨g,0,ν⟩) l.length cap/\ag w g y full/\S g/\i*an.n α+an.n α<=full.length/\(∀(q:Nat)x,c[q]?=σ x->full[i*an.n α+q]?=σ x)/\bq F R w c a/\(∀r,F r->S r)/\¬F g/\
  ∀{I:x5}{a':α}{z:List x4}{T B:ah},af T w I->(∀r,r<w.heap.size->T r->F r\/r=g)->ag I g y (over full (i*an.n α) z)->bq B R I z a'->(∀r,B r->F r\/w.heap.size<=r)->bq (λr=>S r\/w.heap.size<=r) R I [v] (l.set i a'):=by
 have ae:=(x6.1 N).1;obtain⟨vs,g,F,ac,he,J,hm⟩:=jt h;obtain⟨ai,y,aj⟩:=hm rfl;obtain⟨az,⟨rfl,aA⟩|⟨cap,full,rfl,P,Q,ak,U,W⟩⟩:=id aj
 .omega
 have X:vs.length=l.length:=he.1;have E:S g:=ai.resolve_left Ξ;obtain⟨c,K⟩:∃c,vs[i]?=σ c:=⟨_,x8 Ω⟩;have al:=he.2 i c a K N;have am:(i+1)*an.n α<=l.length*an.n α:=X4 _ ae;have ao:l.length*an.n α<=full.length:=by rw[U];exact X4 _ Q
 rw[U6,Nat.one_mul]at am;refine⟨g,cap,full,y,c,F i,rfl,P,E,Ω,λq x Y=>?_,al,λr s=>ac.sub i r s,ac.top rfl i,λ{I a' z T B}ap aq au Z G=>?_⟩
 .have L:=qp (f:=id) (k:=an.n α) (λx av=>he.len x av) K Y;rw[List.flatMap_id,<-W]at L;have aB:=(x6.1 Y).1;have M:=he.len c (x7 K);rw[Y6 Ω]at L;exact L
 have M:=an.len Z;have aw:∀c∈vs.set i z,c.length=an.n α:=λc A=>by
  rcases W8 A with p|rfl
  .exact he.len c p
  .exact M
 have aa:b0 I g y (an.n α) (.slice (σ ⟨g,0,ν⟩) l.length cap) (l.set i a').length (vs.set i z).flatten:=by
  refine⟨by rw[re aw,o7,o7,X],.inr ⟨cap,_,by rw[o7],au,by rw[o7];exact Q,ak,by rw[nf,U],?_⟩⟩;rw[o7,tX Ω ao,W,Fq he.len M Ω]
 refine⟨_,rfl,vs.set i z,g,λj r=>if j=i then B r else F j r/\r<w.heap.size,⟨λj r s=>?_,λ_ j s=>?_,λ_ j q r ax h1 p=>?_⟩,⟨by simp[X],λj ab ad A H=>?_⟩,?_,λ_=>⟨.inr (.inl E),y,aa⟩⟩
 .split at s
  .exact (G r s).imp (ac.sub i r) id
  .exact .inl (ac.sub j r s.1)
 .split at s
  .rcases G g s with h|h
   .exact ac.top rfl i h
   .have:=P.lt;omega
  .exact ac.top rfl j s.1
 .split at h1<;>split at p
  .omega
  .rcases G r h1 with h|h
   .rename_i e _;exact ac.gQ rfl i q r Ω h p.1
   .have:=p.2;omega
  .rcases G r p with h|h
   .exact ac.gQ rfl j i r Ω h1.1 h
   .have:=h1.2;omega
  .exact ac.gQ rfl j q r ax h1.1 p.1
 .by_cases C:j=i
  .subst C;rw[n9 Ω]at A;rw[n9 Ω]at H;cases A;cases H;exact an.Y Z (λr _ h=>by simpa using h) λ_ _ h=>h
  .rw[Z6 (R7 C)]at A H;have ay:bq (λr=>if j=i then B r else F j r/\r<w.heap.size) R w ab ad:=an.Y (he.2 j ab ad A H) (λr s h=>by rw[rc C];exact⟨h,s⟩) λ_ _ h=>h;refine an.V ay ap λr s h1 p=>?_;have p:=aq r s p;rcases h1 with h1|h1
   .simp only[rc C]at h1;rcases p with p|rfl
    .exact ac.gQ rfl j i r C h1.1 p
    .exact ac.top rfl j h1.1
   .rcases p with p|rfl
    .exact O r s (ac.sub i r p) h1
    .exact O r s E h1
 .have:=o0 (S:=λr=>(S r\/w.heap.size<=r)\/R r) aa (.inr (.inl (.inl E)));exact this
end
end Go.Vc
namespace Go.Proofs.YtnhkbjhpbbobaaaGreatDoor
open Go Go.Vc Go.RowKit Go.Proofs Go.Proofs.Tryz
set_option maxRecDepth 100000
section
variable{w0 w:x5}{ad ae ao ga:Nat}{A R:ah}{A9 cw:Nat->ah}{aG:ah}{n:aH}{s u:ak}{t:az}{h:List az}{cs bD:List x4}{aT aV mG:x4}{Q:x4->x5->Prop}
theorem cb.olds(p:cb w0 ad ae ao A R A9 aG n s u t h cs):cb w0 ad ae ao A R (λq r=>A9 q r/\r<w0.heap.size) aG n s u t h cs:=
 ⟨p.dA,p.im,p.box,p.doc.old,λq r a=>p.apart q r a.1,p.read,p.out⟩
end
theorem qJ{α β:Type}{l:List α}{i:Nat}{a b:α}{f:α->β}(h:l[i]?=σ a)(j:f b=f a):(l.set i b).map f=l.map f:=by
 rw[T2,j];refine X0 λq=>?_;rw[Y7];by_cases e:i=q
 .subst e;rw[ms rfl,u4,h,ms (by rw[r8];exact(x6.1 h).1)];rfl
 .rw[rc e]
theorem yy{T:Nat->Prop}(h:af T w I):af (λr=>T r/\r<w.heap.size) w I:=⟨h.size,λr o a J e=>h.aY r o a J λf=>e ⟨f,(b8.1 a).1⟩⟩
section
variable{w0 w I:x5}{ad ae ao ga:Nat}{A R:ah}{A9:Nat->ah}{aG:ah}{n:aH}{s u u':ak}{t:az}{h:List az}{cs:List x4}{aT aV mG v:x4}{Q:x4->x5->Prop}
theorem bB.rr{m:Bool}{zero:Int}{D:List (Λ)}{G:List Bool}{aX:List (Λ)}{H:List jH}{E:List mE}{i:Nat}(a:cs[i]?=σ v)(h:bB m A9 aG w (cs.set i v) k co zero D G aX H E):bB m A9 aG w cs k co zero D G aX H E:=by
 have:cs.set i v=cs:=by
  refine X0 λq=>?_;rw[Y7];by_cases e:i=q
  .subst e;have:=(x6.1 a).1;rw[ms rfl,ms this,a]
  .rw[rc e]
 rw[this]at h;exact h
theorem cb.row{T:ah}{cw:Nat->ah}{q:Nat}(p:cb w ad ae ao A R A9 aG n s u t h cs)(a:af T w I)(e:∀r,r<w.heap.size->T r->A9 q r)(f:ia v2 cw aG I cs n.k n.co u')(j:∀q r,cw q r->(∃x,A9 x r)\/w.heap.size<=r):
  cb I ad ae ao A R cw aG n s u' t h cs:=
 p.Ft a (λr y h=>.inl ⟨q,e r y h⟩) (p.box.V a λh=>(p.apart q ao (e ao p.box.lt h)).2.2 rfl) f j
theorem yz{q:Nat}{B:ah}(a:∀r,B r->A9 q r\/w.heap.size<=r):∀j r,fu A9 q B j r->(∃e,A9 e r)\/w.heap.size<=r:=λj r h=>by
 unfold fu at h;split at h
 .exact (a r h).imp (λh=>⟨q,h⟩) id
 .exact .inl ⟨j,h⟩
end
theorem Ra{sv:x4}{lS:Nat}{cap:Array x4}{p:Int->Bool}(h:aN .i64 w sv l)(ac:∀I x,Ext w I->x∈l->al v8 lS (Δ x::cap.toList) I λr s=>r= .bool (p x)/\Ext I s):
  al v8 wm [sv,.func (.func lS) #[] cap] w λv I=>Ext w I/\((v=Δ (-1)/\∀x∈l,p x=v6)\/∃i:Nat,v=Δ (i:Int)/\i<l.length/\(∀x∈l.take i,p x=v6)/\∀x,l[i]?=σ x->p x=v2):=by
 refine aB func139 ?_;rw[a1 aq.u h];refine ch.range l.length (λi _ U=>Ext w U/\∀x∈l.take i,p x=v6) h.le ⟨Ext.refl _,Ξ⟩ ?_ ?_
 .rintro i _ U k hi ⟨e,f⟩ hk;refine bG Ω ?_;obtain⟨y,j⟩:=aD (l:=l) hi;rw[bk aq.u ai.i Ψ (h.W e) j];refine al.Y (ac U y e (x7 j)) ?_;rintro _ aa _ ⟨rfl,q⟩;rw[b4];refine⟨λz=>⟨e.F q,.inr ⟨i,rfl,hi,f,λx a=>by rw[j]at a;cases a;exact z⟩⟩,λA=>?_⟩;rw[aP];refine hk _ _ ⟨e.F q,λx a=>?_⟩;rw[r9,j]at a;rcases j9.1 a with a|a
  .exact f x a
  .simp at a;subst a;exact A
 .rintro _ U k ⟨e,f⟩;rw[j4]at f;rw[aS,am];exact⟨λh=>Ω,λ_=>⟨e,.inl ⟨rfl,f⟩⟩⟩
theorem Rb{sv:x4}{g lS:Nat}{cap:Array x4}{p:Int->Bool}(h:aA .i64 e w g sv l)(aJ:l.length<=100000000)(ac:∀I x,af (λr=>lw sv r) w I->x∈l->al v8 lS (Δ x::cap.toList) I λr Z=>r= .bool (p x)/\Ext I Z):
  al v8 Ij [sv,.func (.func lS) #[] cap] w λv I=>af (λr=>lw sv r) w I/\aA .i64 e I g v (l.filter λx=>!p x)/\∀r,lw v r->lw sv r:=by
 refine aB func72 ?_;refine(Ra h.ls λI x B=>ac I x (B.V _)).Y ?_;rintro _ U _ ⟨C,⟨rfl,L⟩|⟨i,rfl,hi,L,aa⟩⟩
 .rw[bm,am];refine⟨λ_=>⟨C.V _,?_⟩,λh=>ro rfl h⟩;rw[List.filter_eq_self.2 λx B=>by rw[L x B];rfl];exact⟨h.W C,λ_ h=>h⟩
 rw[bm,am];refine⟨λh=>Ω,λ_=>?_⟩;rw[aP,m1 Ω Ω];obtain⟨n,M⟩:∃n,l.length=n:=⟨_,rfl⟩;obtain⟨s,rfl⟩:∃s,sv= .slice (σ ⟨g,0,ν⟩) n s:=by
  obtain⟨_,⟨_,h1⟩|⟨s,cs,h1,_⟩⟩:=id h
  .omega
  .exact⟨s,by rw[h1,M]⟩
 obtain⟨_,_,_,_,aK,ab,_⟩:=rT h Ω;have R:∀r,r=g->lw (.slice (σ ⟨g,0,ν⟩) n s) r:=λr N=>⟨_,_,_,rfl,N.symm⟩;have ad:(l.take (i+1)).filter (λx=>!p x)=l.take i:=by
  obtain⟨y,z⟩:=aD (l:=l) hi;rw[r9,z,List.filter_append,List.filter_eq_self.2 λx B=>by rw[L x B];rfl];simp[aa y z]
 refine⟨λO P E=>∃(q j:Nat)(f:Λ),O=Δ (q:Int)/\P=Δ (j:Int)/\q<j/\j<=n/\af (λr=>r=g) w E/\aA .i64 e E g (.slice (σ ⟨g,0,ν⟩) n s) f/\f.length=n/\f.take q=(l.take j).filter (λx=>!p x)/\∀k,j<=k->f[k]?=l[k]?,
  λ_ P _=>n-(bX P).toNat,⟨i,i+1,l,rfl,rfl,Ω,Ω,C.V _,h.W C,M,ad.symm,λ_ _=>rfl⟩,?_⟩
 rintro _ _ E ⟨q,j,f,rfl,rfl,aL,aM,G,H,S,A,Q⟩;have aN:q=((l.take j).filter λx=>!p x).length:=by rw[<-A,o8];omega
 rw[iV aq.u,aS,am];refine⟨λae=>?_,λaO=>?_⟩
 .have ae:j<n:=Ω
  obtain⟨y,z⟩:=aD (l:=l) (i:=j) Ω;have ag:f[j]?=σ y:=by rw[Q j (o4 _),z]
  refine aZ (λO J=>∃(q:Nat)(f:Λ),O=Δ (q:Int)/\q<j+1/\af (λr=>r=g) w J/\aA .i64 e J g (.slice (σ ⟨g,0,ν⟩) n s) f/\f.length=n/\f.take q=(l.take (j+1)).filter (λx=>!p x)/\∀k,j+1<=k->f[k]?=l[k]?) ?_ ?_
  .rintro _ J ⟨q,f,rfl,h1,ah,aj,ak,an,ao⟩;rw[aP,m1 Ω Ω];exact⟨⟨q,j+1,f,rfl,rfl,h1,Ω,ah,aj,ak,an,ao⟩,by simp only[bX];omega⟩
  intro ax W;rw[bk aq.u ai.i Ψ H.ls ag];refine al.Y (ac E y (G.Y λr _=>R r) (x7 z)) ?_;rintro _ J _ ⟨rfl,K⟩;have X:(l.take (j+1)).filter (λx=>!p x)=(l.take j).filter (λx=>!p x)++[y].filter (λx=>!p x):=by rw[r9,z,List.filter_append];rfl
  rw[bM,b4];refine⟨λap=>?_,λau=>?_⟩
  .have Y:=H.W K;rw[iY rfl aq.u ai.i Y Ω];refine iZ ai.i Y Ω λaQ av aR aw=>?_;rw[aP,m1 Ω Ω];refine W _ _ ⟨q+1,_,rfl,Ω,(G.F (K.V _)).F av,aw,by simpa using S,?_,λk hk=>?_⟩
   .rw[X,r9,n9 Ω,List.take_set_of_le (o4 _),A];simp only[j6];rw[show[y].filter (λx=>!p x)=[y] by simpa using ap]
   .rw[Z6 Ω];exact Q k Ω
  .refine W _ _ ⟨q,f,rfl,Ω,G.F (K.V _),H.W K,S,?_,λk hk=>Q k Ω⟩;rw[X,show[y].filter (λx=>!p x)=[] by simpa using au,U2];exact A
 .have ay:j=n:=Ω
  subst ay;rw[<-M,j4]at A;obtain⟨_,_,cs,az,_,_,aT,aC⟩:=rT H Ω;simp only[maxLen]at ab;rw[ig aq.u ai.i ra kR fh Ω Ω Ω,rc Ω];have aE:U7 (λx:Addr=>x.add (q*1)) (σ ⟨g,0,ν⟩)=σ ⟨g,q,ν⟩:=by simp[T9]
  rw[aE];refine Bx aq.u ai.i rfl rfl az Ω Ω λaU aF aV aG=>?_;rw[ig aq.u ai.i jW oU fh Ω Ω Ω,rc Ω];have aH:U7 (λx:Addr=>x.add (0*1)) (σ ⟨g,0,ν⟩)=σ ⟨g,0,ν⟩:=by simp[T9]
  rw[aH];refine⟨(G.F aF).Y λr _=>R r,?_⟩;have aW:(l.filter λx=>!p x).length=q:=by rw[<-A,o8];omega
  rw[<-A,Nat.sub_zero];refine⟨?_,λr N=>by obtain⟨a,_,_,e,aI⟩:=N;cases e;exact⟨_,_,_,rfl,aI⟩⟩;refine aA.of (n:=q) ⟨Θ,.inr ⟨s,_,Ξ,aG,Ω,by simp only[maxLen];omega,by rw[nf];omega,?_⟩⟩;rw[T0];apply X0;intro k;by_cases hk:k<q
  .rw[Y6 hk,oV _ _ _ Θ,rc Ω,ints,u4,Y6 hk];have:(cs.take j)[k]?=(ints .i64 f)[k]?:=by rw[aC]
   rw[Y6 Ω,ints,u4]at this;exact this
  .rw[Y5 Θ,Y5 Θ]
theorem Fv{full c:List x4}{o q:Nat}{x:x4}(f:∀(k:Nat)y,c[k]?=σ y->full[o+k]?=σ y)(h:o+c.length<=full.length)(j:q<c.length):full.set (o+q) x=over full o (c.set q x):=by
 refine X0 λk=>?_;rw[oV _ _ _ (by rw[o7];exact h),Y7,o7];by_cases h1:o<=k/\k<o+c.length
 .rw[ms h1,Y7];by_cases a:o+q=k
  .rw[ms a,ms Ω,ms Ω,ms Ω]
  .rw[rc a,rc Ω];have e:k-o<c.length:=Ω
   have:=f (k-o) c[k-o] (x8 e);rw[x8 e,<-this];congr 1;omega
 .rw[rc h1,rc Ω]
section
variable{w0 w I:x5}{ad ae ao ga:Nat}{A R:ah}{A9:Nat->ah}{aG:ah}{n:aH}{s u u':ak}{t:az}{h:List az}{cs:List x4}{aT aV mG v:x4}{Q:x4->x5->Prop}
theorem cb.gQ(p:cb w ad ae ao A R A9 aG n s u t h cs):(∀i j r,i≠j->A9 i r->¬A9 j r)/\∀i r,A9 i r->¬aG r:=by
 obtain⟨_,_,_,_,_,_,_,_,_,_,_,_,_,a⟩:=p.doc;exact a rfl
theorem cb.Rc{T:ah}(p:cb w ad ae ao A R A9 aG n s u t h cs)(y:∀q r,A9 q r->r<w.heap.size)(z:cs[6]?=σ v)(e:af T w I)(f:∀r,r<w.heap.size->T r->A9 3 r)(C:bq (λr=>A9 3 r\/w.heap.size<=r) aG I [v] (u'.d9.map jI))(E:u'.zero=u.zero)(F:u'.d6=u.d6)(G:u'.eC=u.eC):∃cw,cb I ad ae ao A R cw aG n s u' t h cs/\∀q r,cw q r->(∃H,A9 H r)\/w.heap.size<=r:=by
 have J:=bB.la p.doc (yy e) (λr a=>.inl (f r a.2 a.1)) C (λj r K a=>?_) (λr a=>?_)
 .have x:=yz (w:=w) (A9:=A9) (q:=3) (B:=λr=>A9 3 r\/w.heap.size<=r) λr h=>h;refine⟨_,p.row e f ?_ x,x⟩;have:=bB.rr z J;unfold ia;rw[E,F,G];exact this
 .rcases a with a|a
  .exact p.gQ.1 3 j r (R7 K) a
  .exact λh=>by have:=y j r h;omega
 .rcases a with a|a
  .exact p.gQ.2 3 r a
  .exact λh=>by have:=(p.read r h).2.1;omega
end
theorem Re{m:Int}{w:Int}(a:0<=v)(hw:0<=w):dropped (((m.toNat ||| 2 ^ v.toNat:Nat):Int)) w=(dropped m w||decide (w=v)):=by
 unfold dropped;rw[u9,Nat.testBit_or,Nat.testBit_two_pow];congr 1;exact decide_eq_decide.2 ⟨λh=>Ω,λh=>Ω⟩
theorem yA{x:bn}(a:0<=v):aC {x with mask:=((x.mask.toNat ||| 2 ^ v.toNat:Nat):Int)}=(aC x).filter λy=>!decide (y=v):=by
 unfold aC;rw[List.filter_filter];refine List.filter_congr λy e=>?_;obtain⟨q,_,rfl⟩:=j5.1 e;rw[Re a Ω];cases dropped x.mask (q:Int)<;>simp
section
variable{w0 w I:x5}{ad ae ao ga:Nat}{A R:ah}{A9:Nat->ah}{aG:ah}{n:aH}{s u u':ak}{t:az}{h:List az}{cs:List x4}{aT aV mG v:x4}{Q:x4->x5->Prop}
theorem cb.pF{T:ah}(p:cb w ad ae ao A R A9 aG n s u t h cs)(z:∀q r,A9 q r->r<w.heap.size)(C:cs[3]?=σ v)(e:af T w I)(f:∀r,r<w.heap.size->T r->A9 0 r)(E:bq (λr=>A9 0 r\/w.heap.size<=r) aG I [v] (u'.d6.map aC))(F:u'.zero=u.zero)(G:u'.d6.map (·.un)=u.d6.map (·.un))(H:(u'.d6.map λx=>decide (x.gone≠0))=u.d6.map λx=>decide (x.gone≠0))(J:u'.d9=u.d9)(K:u'.eC=u.eC):
  ∃cw,cb I ad ae ao A R cw aG n s u' t h cs/\∀q r,cw q r->(∃L,A9 L r)\/w.heap.size<=r:=by
 have M:=bB.yw p.doc (yy e) (λr a=>.inl (f r a.2 a.1)) E (λj r N a=>?_) (λr a=>?_)
 .have y:=yz (w:=w) (B:=λr=>A9 0 r\/w.heap.size<=r) λr h=>h;refine⟨_,p.row e f ?_ y,y⟩;have:=bB.rr C M;unfold ia;rw[F,G,H,J,K];exact this
 .rcases a with a|a
  .exact p.gQ.1 0 j r (R7 N) a
  .exact λh=>by have:=z j r h;omega
 .rcases a with a|a
  .exact p.gQ.2 0 r a
  .exact λh=>by have:=(p.read r h).2.1;omega
end
section
variable{w0 w I:x5}{ad ae ao ga:Nat}{A R:ah}{A9:Nat->ah}{aG:ah}{n:aH}{s u u':ak}{t:az}{h:List az}{cs:List x4}{aT aV mG v:x4}{Q:x4->x5->Prop}
theorem Rf{F:ah}{c:List x4}{f:cr}(h:bq (α:=jH) F R w c (jI f))(z:∀r,F r->¬R r):∃aV lc ba e,c=[aV,lc,ba,.bool (decide (f.live≠0))]/\bq e R w [ba] f.cs/\(∀r,e r->F r)/\
  ∀{I:x5}{bD:Λ},af e w I->bq e R I [ba] bD->bq (α:=jH) F R I c (jI {f with cs:=bD}):=by
 obtain⟨ab,ac,A,B,rfl,C,N,O,h1,p⟩:=h;obtain⟨P,ad,aM,Q,rfl,S,E,G,H,T⟩:=h1;obtain⟨U,W,X,q,rfl,Y,s,J,K,L⟩:=T;have p:=p;subst p;obtain⟨x,rfl⟩:=V4.1 (show P.length=1 from an.len H);obtain⟨j,rfl⟩:=V4.1 (show U.length=1 from an.len K);obtain⟨v3,rfl⟩:=V4.1 (show W.length=1 from an.len L);have y:∀r,q r->F r:=λr h=>C r (E r (s r h));refine⟨x,j,v3,q,rfl,L,y,λ{I bD}M Z=>?_⟩;refine⟨[x,j,v3],[.bool (decide (f.live≠0))],A,B,rfl,C,N,O,⟨[x],[j,v3],aM,Q,rfl,S,E,G,an.V H M λr aa a he=>?_,[j],[v3],X,q,rfl,Y,s,J,an.V K M λr aa a he=>?_,Z⟩,rfl⟩
 .exact a.elim (λa=>G rfl r a (s r he)) (z r (y r he))
 .exact a.elim (λa=>J rfl r a he) (z r (y r he))
end
theorem Rg{aV lc ba bh:x4}(h1:aN .i64 w aV sc)(E:aN .i64 w lc (bN co sc))(G:aN .i64 w ba cs)(h:gK co k (sc,cs))(s:∀z∈co,1<=z/\z<=32)(L:aN .i64 w bh a)(r:∀v∈sc,∃x,a[v.toNat]?=σ x/\0<=x/\x<co.getD v.toNat 0):
  al v8 HU [.agg #[aV,lc,ba],bh] w λv I=>v=Δ (br (bN co sc) cs (ka a sc))/\Ext w I:=by
 have A:dP (bN co sc):=pm s λv r=>⟨(h.scope.1 v r).1,h.d6 v r⟩;have ab:sc.length<=6:=h.scope.2;refine aB func32 ?_;refine bp λM U ac j f=>?_;have f:ag U M a7 [aV,lc,ba]:=by
  obtain⟨_,_,_,N⟩:=dj h1;obtain⟨_,_,_,O⟩:=dj E;obtain⟨_,_,_,P⟩:=dj G;rw[N,O,P]at f ⊢;exact f
 rw[aL a7.p 0 f rfl,a1 aq.u (h1.W j)];have ad:(ka a sc).length=sc.length:=by unfold ka;rw[r8]
 have ae:(bN co sc).length=sc.length:=by unfold bN;rw[r8]
 refine ch.range sc.length (λi Q aa=>Ext U aa/\∃m:Int,Q=Δ m/\cp ((bN co sc).take i) ((ka a sc).take i) 0=σ m) h1.le ⟨Ext.refl _,0,rfl,rfl⟩ ?_ ?_
 .rintro i _ aa R hi ⟨e,m,rfl,hm⟩ S;obtain⟨v,q⟩:=aD (l:=sc) hi;obtain⟨x,H,V,W⟩:=r v (x7 q);have af:=h.scope.1 v (x7 q);have B:(bN co sc)[i]?=σ (co.getD v.toNat 0):=by unfold bN;rw[u4,q];rfl
  have X:(ka a sc)[i]?=σ x:=by unfold ka;rw[u4,q,Y3,u5,H];rfl
  have ah:=A _ (x7 B);have J:∀z∈(bN co sc).take i,1<=z/\z<=32:=λz s=>A z (T1 s);have Y:=mf J hm;have aj:=prod_bound (l:=(bN co sc).take i) ⟨by rw[o8];omega,J⟩;refine bG Ω ?_;rw[bk aq.u ai.i Ψ (h1.W (j.F e)) q];intro ak C _ _;have K:=(j.F e).F C;have am:0<=m*co.getD v.toNat 0/\m*co.getD v.toNat 0<=1073741824*32:=⟨Int.mul_nonneg Ω Ω,Int.mul_le_mul Ω Ω Ω Ω⟩;rw[aL a7.p 1 (f.W (e.F C)) rfl,bk aq.u ai.i Ψ (E.W K) B,fz,m1 Ω Ω,fM (y:=v) (i:=v.toNat) Ω aq.u ai.i Ψ (L.W K) H,aP,m1 Ω Ω,aP];refine S _ _ ⟨e.F C,_,rfl,?_⟩;rw[r9,r9,B,X,j6,j6,E3 (by rw[o8,o8];omega),hm];simp only[Option.bind_some];rw[ms ⟨V,W⟩]
 .rintro _ aa R ⟨e,m,rfl,hm⟩;rw[Z0 Ω,Z0 Ω]at hm;have Y:=mf A hm;have an:cs.length=(aQ (bN co sc)).toNat:=h.len;refine cd Ω ?_;have Z:cs[m.toNat]?=σ (cs.getD m.toNat 0):=by rw[u5,x8 Ω];rfl
  rw[aL a7.p 2 (f.W e) rfl,fM (y:=m) (i:=m.toNat) Ω aw.u av.i Ψ (G.W (j.F e)) Z];refine⟨?_,j.F e⟩;unfold br;rw[hm]
theorem Rh{sv bh:x4}{s:ak}(h:jJ w sv k co s)(G:bd k co s)(bi:b3 s)(Y:iL s a)(aA:aN .i64 w bh a):al v8 HK [sv,bh] w λv I=>v=Δ (eA k s a)/\Ext w I:=by
 have b5:=G.d6;have hk:=G.fs;refine aB func9 ?_;refine bp λg1 U b7 Q J=>?_;obtain⟨lc,b8,b9,ca,cb,cc,J,ce,_,bj,bl,bm,Z,_⟩:=h.box Q J;have ab:=aA.W Q;have cf:=Y.1;rw[aL aI.p 2 J rfl,a1 aq.u ab];obtain⟨B,R⟩:∃B,B=s.d6.zip a:=⟨_,rfl⟩;have cg:B.length=a.length:=by rw[R,List.length_zip];omega
 refine lu.range a.length (λi _ H aa=>Ext U aa/\∃e:Int,H=Δ e/\e=(B.take i).foldl (lM k) s.zero/\(0<=e/\e<=k)/\(B.take i).all fT=v2) aA.le
  ⟨Ext.refl _,s.zero,rfl,rfl,G.zero,rfl⟩ ?_ ?_
 .rintro i t4 _ aa bn hi ⟨C,e,rfl,S,ac,V⟩ bo;obtain⟨x,E⟩:=aD (l:=s.d6) (i:=i) Ω;obtain⟨v,r⟩:=aD (l:=a) hi;obtain⟨z,K⟩:=aD (l:=co) (i:=i) Ω;obtain⟨cj,bq,_⟩:=G.var i x z E K;have aF:B[i]?=σ (x,v):=by rw[R,List.getElem?_zip_eq_some];exact⟨E,r⟩
  have aG:B.take (i+1)=B.take i++[(x,v)]:=by rw[r9,aF];rfl
  have L:(B.take (i+1)).foldl (lM k) s.zero=lM k e (x,v):=by rw[aG,S3,<-S];rfl
  have aH:(B.take (i+1)).all fT=fT (x,v):=by rw[aG,List.all_append,V];simp
  have bs:(s.d6.map λx=>decide (x.gone≠0))[i]?=σ (decide (x.gone≠0)):=by rw[u4,E];rfl
  refine bG Ω ?_;refine jo (λ_ H aJ=>Ext U aJ/\∃e:Int,H=Δ e/\e=(B.take (i+1)).foldl (lM k) s.zero/\(0<=e/\e<=k)/\(B.take (i+1)).all fT=v2) ?_ ?_
  .rintro t4 H aJ ad;rw[aP];exact bo _ _ _ ad
  intro ax M;have ae:=J.W C;rw[bk aq.u ai.i Ψ (ab.W C) r,aL aI.p 4 ae rfl];refine jX (α:=Bool) rfl rfl jp.u dN.i Ψ (bu bl C) bs λbt bw=>?_;obtain rfl:bt= .bool (decide (x.gone≠0)):=(List.cons.inj bw).1;rw[am];refine⟨λaK=>M _ _ _ ⟨C,e,rfl,?_,ac,?_⟩,λaf=>?_⟩
  .rw[L];unfold lM;rw[ms aK]
  .rw[aH];unfold fT;rw[rs aK,Bool.true_or]
  have bx:0<=v/\v<x.un.length:=(Y.2 i x v E r).resolve_left af;rw[aL aI.p 3 ae rfl];refine jX (α:=Λ) (a:=aC x) rfl rfl ci.u aq.i Ψ (bu bj C) (by rw[u4,E];rfl) λck bz=>?_;refine(uS (v:=v) (en bz)).Y ?_;rintro _ cl _ ⟨rfl,aM⟩;have aO:=C.F aM;have aQ:=E4 bx;rw[bM,b4];refine⟨λag=>?_,λag=>?_⟩
  .have bA:v∉aC x:=by simpa using ag
   rw[aL aI.p 0 (ae.W aM) rfl];refine⟨?_,Q.F aO⟩;unfold eA;rw[<-R,rc];intro bB;have:=List.all_eq_true.1 bB (x,v) (x7 aF);unfold fT at this;rw[s2 af,Bool.false_or]at this;exact bA (aQ.2 (by simpa using this))
  have bD:dropped x.mask v=v6:=aQ.1 (by simpa using ag);intro cm bE _ _;have ah:=aO.F bE;have aR:=J.W ah;have aT:x.un[v.toNat]?=σ (x.un.getD v.toNat 0):=by rw[u5,x8 (show v.toNat<x.un.length by omega)];rfl
  have cn:=bq _ (x7 aT);rw[aL aI.p 5 aR rfl];refine jX (α:=Λ) (a:=x.un) rfl rfl cZ.u aw.i Ψ (bu bm ah) (by rw[u4,E];rfl) λcq bH=>?_;rw[fM (y:=v) (i:=v.toNat) Ω aw.u av.i Ψ (en bH) aT,aL aI.p 0 aR rfl];refine(n0 Ω Ω).Y ?_;rintro _ cr _ ⟨rfl,bI⟩;refine M _ _ _ ⟨ah.F bI,_,rfl,?_,⟨Ω,Ω⟩,?_⟩
  .rw[L];unfold lM;rw[rc af]
  .rw[aH];unfold fT;rw[bD];simp
 rintro t4 _ aa bn ⟨C,e,rfl,S,ac,V⟩;rw[Z0 Ω]at S V;have bJ:eA k s a=s.d9.foldl (k6 k a) e:=by
  unfold eA;rw[<-R,V,ms rfl,<-S]
 refine cd Ω ?_;rw[aL aI.p 6 (J.W C) rfl,gR du.u (bu Z C),r8];have aW:=oZ Z;rw[r8]at aW;refine ch.range s.d9.length (λj H N=>Ext U N/\∃A:Int,H=Δ A/\A=(s.d9.take j).foldl (k6 k a) e/\0<=A/\A<=k) aW
  ⟨C,e,rfl,rfl,ac⟩ ?_ ?_
 rotate_left
 .rintro _ N bK ⟨O,A,rfl,W,_⟩;rw[Z0 Ω]at W;rw[aS,am];exact⟨λh=>Ω,λ_=>⟨by rw[bJ,W],Q.F O⟩⟩
 rintro j _ N bK ct ⟨O,A,rfl,W,bL⟩ bN;obtain⟨f,P⟩:=aD (l:=s.d9) (i:=j) Ω;obtain⟨X,aX,cu⟩:=G.d9 f (x7 P);have L:(s.d9.take (j+1)).foldl (k6 k a) e=k6 k a A f:=by
  rw[r9,P,j6,S3,<-W];rfl
 refine bG Ω ?_;refine aZ (λH aY=>Ext U aY/\∃A:Int,H=Δ A/\A=(s.d9.take (j+1)).foldl (k6 k a) e/\0<=A/\A<=k) ?_ ?_
 .rintro H aY ad;rw[aP];exact bN _ _ ad
 intro ax M;refine ni c0.p rfl du.u c0.i (bu Z O) (by rw[u4,P];rfl) λcw a2=>?_;have bO:=an.one a2;obtain⟨aV,ao,ba,rfl,bP,bQ,bR⟩:=om a2;refine bF c0.i λa6 cz cA bS bT=>?_;refine b6 (vs:=[aV,ao,ba,.bool (decide (f.live≠0))]) c0.i rfl rfl bO bT λbU bV cB a8=>?_;have bb:Ext N bU:=bS.put bV Ω;rw[aU c0.p rfl,aE (v:=.bool (decide (f.live≠0))) Ψ (a8.cell (o:=0+3) rfl),am];refine⟨λbc=>?_,λbW=>M _ _ ⟨O.F bb,A,rfl,by rw[L];unfold k6;rw[rc bW],bL⟩⟩;intro ap be _ _;have bf:=bb.F be;have au:=O.F bf;have bX:=J.W au;have ay:=a8.W be;have bY:ap.rangeAt a6 0 [aV,ao,ba]:=λq v r=>by
  match q,r with
  |0,r=>cases r;exact ay.cell rfl
  |1,r=>cases r;exact ay.cell rfl
  |2,r=>cases r;exact ay.cell rfl
 rw[aU c0.p rfl,bC a7.p a7.i rfl (show ap.rangeAt a6 (0+0) [aV,ao,ba]from bY),aL aI.p 0 bX rfl];have az:∀{v:x4}{l:Λ},Seen fj N [v] l->aN .i64 ap v l:=λh=>(en h).W bf;refine(Rg (a:=a) (az bP) (aX▸az bQ) (az bR) X G.ed.2.2 (ab.W au) λv r=>?_).Y ?_
 .have cC:=X.scope.1 v r;have cD:=X.d6 v r;obtain⟨x,E⟩:=aD (l:=s.d6) (i:=v.toNat) Ω;obtain⟨u,hu⟩:=aD (l:=a) (i:=v.toNat) Ω;obtain⟨z,K⟩:=aD (l:=co) (i:=v.toNat) Ω;have cE:=(G.var _ x z E K).1;have cF:=G.ed.2.2 z (x7 K);have bZ:=bi f (x7 P) bc v r x E;have b0:=(Y.2 _ x u E hu).resolve_left λh=>h bZ;refine⟨u,hu,b0.1,?_⟩;rw[u5,K,W7];omega
 rintro _ cG _ ⟨rfl,bg⟩;refine⟨.inl bg,?_⟩;rw[<-aX];have cH:0<=br f.aj f.cs (ka a f.sc)/\br f.aj f.cs (ka a f.sc)<=k:=by
  unfold br;cases hi:cp f.aj (ka a f.sc) 0 with
  |none=>simp only;omega
  |some m=>
   simp only;obtain⟨b1,cI,_⟩:=uQ G (x7 P);have cJ:=mf b1.2 hi;rw[u5,x8 Ω,W7];exact X.jd _ (Q9 _)
 refine(n0 Ω Ω).Y ?_;rintro _ cK _ ⟨rfl,b2⟩;refine M _ _ ⟨(au.F bg).F b2,_,rfl,?_,Ω,Ω⟩;rw[L];unfold k6;rw[ms bc]
theorem b3.d6{s:ak}{i:Nat}{x y:bn}(h:b3 s)(r:s.d6[i]?=σ x)(w:y.gone=x.gone):b3 {s with d6:=s.d6.set i y}:=λf j p v q z a=>by
 have a:(s.d6.set i y)[v.toNat]?=σ z:=a;rw[Y7]at a;split at a
 .rename_i e;split at a
  .cases a;subst e;rw[w];exact h f j p v q x r
  .cases a
 .exact h f j p v q z a
theorem b3.d9{s:ak}{f g:cr}(h:b3 s)(r:s.d9[j]?=σ f)(J:g.sc=f.sc)(w:g.live≠0->f.live≠0):b3 {s with d9:=s.d9.set j g}:=λx a e v p z q=>by
 rcases W8 a with a|rfl
 .exact h x a e v p z q
 .exact h f (x7 r) (w e) v (by rw[<-J];exact p) z q
structure fF where
 kind:Nat
 i:Int
 pos:Int
 v:Int
 c:Int
def dw(s:ak)(i v:Int):Option bn:=if 0<=i then match s.d6[i.toNat]? with
 |some x=>if x.gone=0/\v∈aC x then σ x else ν
 |none=>ν else ν
def dk(s:ak)(j pos v:Int):Option (cr×Int×bn):=if 0<=j/\0<=pos then match s.d9[j.toNat]? with
 |some f=>if f.live≠0 then match f.sc[pos.toNat]? with
  |some u=>(dw s u v).map λx=>(f,u,x)
  |none=>ν
  else ν
 |none=>ν else ν
def ee(k:Int)(s:ak)(f:cr)(pos:Nat)(v:Int):Int:=((ck s f.sc pos v).map (br f.aj f.cs)).foldl min k
def df(k c most:Int):Int:=if¬(0<=c/\c<=k)then 3 else if most<c then 7 else 0
def iO(x:bn):Int:=match(aC x).map λv=>x.un.getD v.toNat 0 with
 |[]=>-1
 |c::l=>l.foldl min c
def gu(s:ak)(i:Nat)(v:Int):Λ->ak
 |[]=>s
 |w::L=>gu (if w≠v then dK s i w.toNat else s) i v L
def bg(k:Int)(s:ak)(a:fF):ak×Int:=
 if a.kind=0 then match dk s a.i a.pos a.v with
  |none=>(s,1)
  |some (f,u,x)=>if df k a.c (ee k s f a.pos.toNat a.v)≠0 then(s,df k a.c (ee k s f a.pos.toNat a.v))else(fW s a.i.toNat f a.pos.toNat u.toNat x a.v (λg=>cX k g a.c) λg=>ct k g a.c,0)
 else if a.kind=1 then match dk s a.i a.pos a.v with
  |none=>(s,1)
  |some (f,u,x)=>if df k a.c (x.un.getD a.v.toNat 0)≠0 then(s,df k a.c (x.un.getD a.v.toNat 0))else(fW s a.i.toNat f a.pos.toNat u.toNat x a.v (λg=>ct k g a.c) λg=>cX k g a.c,0)
 else if a.kind=2 then match(if 0<=a.i then s.d6[a.i.toNat]? else ν)with
  |none=>(s,1)
  |some x=>if x.gone≠0 then(s,1)else if df k a.c (iO x)≠0 then(s,df k a.c (iO x))else(ir s a.i.toNat x (λg=>cX k g a.c) λg=>ct k g a.c,0)
 else if a.kind=3 then match(if 0<=a.i then s.d6[a.i.toNat]? else ν)with
  |none=>(s,1)
  |some x=>if x.gone≠0 then(s,1)else if df k a.c (if aC x=[]then-1 else s.zero)≠0 then(s,df k a.c (if aC x=[]then-1 else s.zero))else(ir s a.i.toNat x (λg=>ct k g a.c) λg=>cX k g a.c,0)
 else if a.kind=4 then match dw s a.i a.v with
  |none=>(s,1)
  |some x=>if ct k s.zero (x.un.getD a.v.toNat 0)<k then(s,7)else(dK s a.i.toNat a.v.toNat,0)
 else match dw s a.i a.v with
  |none=>(s,1)
  |some x=>(gu s a.i.toNat a.v (aC x),0)
theorem nw:∀(l:Λ)(z c:Int),c<=l.foldl min z↔c<=z/\∀x∈l,c<=x
 |[],z,c=>Ξ
 |a::l,z,c=>by
  rw[V5,nw l (min z a) c];rw[List.forall_mem_cons];exact⟨λ⟨h1,e⟩=>⟨Ω,Ω,e⟩,λ⟨h1,e,f⟩=>⟨Ω,f⟩⟩
theorem lf{most:Int}(h:¬df k c most≠0):(0<=c/\c<=k)/\c<=most:=by
 unfold df at h;split at h
 .exact ro Φ h
 .rename_i h1;split at h
  .exact ro Φ h
  .exact⟨X5.1 h1,Ω⟩
theorem jK{s:ak}{i:Int}{x:bn}(h:dw s i v=σ x):0<=i/\s.d6[i.toNat]?=σ x/\x.gone=0/\v∈aC x:=by
 unfold dw at h;split at h
 .rename_i e;split at h
  .rename_i y f;split at h
   .rename_i a;cases h;exact⟨e,f,a.1,a.2⟩
   .cases h
  .cases h
 .cases h
theorem mH{s:ak}{j pos u:Int}{f:cr}{x:bn}(h:dk s j pos v=σ (f,u,x)):0<=j/\0<=pos/\s.d9[j.toNat]?=σ f/\f.live≠0/\f.sc[pos.toNat]?=σ u/\dw s u v=σ x:=by
 unfold dk at h;split at h
 .rename_i e;split at h
  .rename_i g p;split at h
   .rename_i q;split at h
    .rename_i w hw;cases a:dw s w v with
     |none=>rw[a]at h;cases h
     |some y=>
      rw[a]at h;cases h;exact⟨e.1,e.2,p,q,hw,a⟩
    .cases h
   .cases h
  .cases h
 .cases h
section
variable{k:Int}{co a:Λ}{s:ak}
theorem oo{g:Int}(a:0<=g/\g<=k)(e:0<=c/\c<=g):0<=cX k g c/\cX k g c<=k:=by
 unfold cX;split<;>omega
theorem oq{g:Int}(a:0<=g/\g<=k)(e:0<=c):0<=ct k g c/\ct k g c<=k:=by
 unfold ct;omega
theorem iP{u:Nat}{v:Nat}{x:bn}(a:bd k co s)(e:s.d6[u]?=σ x):0<=x.un.getD v 0/\x.un.getD v 0<=k:=by
 have hk:=a.fs;have f:=(x6.1 e).1;have h:=a.d6;exact Fe Ω (a.var u x _ e (x8 Ω)).2.1
theorem nx{f:cr}(a:bd k co s)(e:f∈s.d9):0<=br f.aj f.cs t/\br f.aj f.cs t<=k:=(ux a.fs λc h=>⟨a.fs,(a.d9 f e).1.jd c h⟩).2
theorem yB{x:bn}(h:v∈aC x)(a:c<=iO x):c<=x.un.getD v.toNat 0:=by
 unfold iO at a;have hm:x.un.getD v.toNat 0∈(aC x).map λv=>x.un.getD v.toNat 0:=j5.2 ⟨v,h,rfl⟩;generalize (aC x).map (λv=>x.un.getD v.toNat 0)=l at a hm;cases l with
 |nil=>cases hm
 |cons b l=>
  have h1:=(nw l b c).1 a;rcases V7.1 hm with e|e
  .rw[e];exact h1.1
  .exact h1.2 _ e
theorem ss{i:Nat}{v:Int}{x:bn}:∀(L:Λ)(s:ak),bd k co s->s.d6[i]?=σ x->(∀w∈L,0<=w/\w<x.un.length)->bd k co (gu s i v L)/\(b3 s->b3 (gu s i v L))/\
  ∀bh,iL s a->x.gone=0->a[i]?=σ bh->eA k (gu s i v L) a=if bh∈L/\bh≠v then k else eA k s a
 |[],s,z,j,_=>⟨z,id,λbh _ _ _=>by rw[rc Ξ];rfl⟩
 |w::L,s,z,j,C=>by
  unfold gu;by_cases hw:w≠v
  .rw[ms hw];have G:=C w (.head _);have J:=yu z j G;have H:=(x6.1 j).1;have K:(dK s i w.toNat).d6[i]?=σ {x with mask:=((x.mask.toNat ||| 2 ^ w.toNat:Nat):Int)}:=by rw[kD j];exact n9 H
   obtain⟨h1,E,F⟩:=ss L (dK s i w.toNat) J K λu hu=>C u (.tail _ hu);refine⟨h1,λM=>E ?_,λbh p A B=>?_⟩
   .rw[kD j];exact b3.d6 M j rfl
   .have N:iL (dK s i w.toNat) a:=by
     rw[kD j];refine⟨by show a.length=(s.d6.set _ _).length;rw[o7];exact p.1,λq y b r I=>?_⟩;have r:(s.d6.set i {x with mask:=((x.mask.toNat ||| 2 ^ w.toNat:Nat):Int)})[q]?=σ y:=r;by_cases e:i=q
     .subst e;rw[n9 H]at r;cases r;exact p.2 i x b j I
     .rw[Z6 e]at r;exact p.2 q y b r I
    rw[F bh N A B,Fo z p j A G B];by_cases e:bh=w
    .subst e;rw[ms rfl,ms (show bh∈bh::L/\bh≠v from⟨.head _,hw⟩)];split<;>rfl
    .rw[rc e];by_cases f:bh∈L/\bh≠v
     .rw[ms f,ms ⟨.tail _ f.1,f.2⟩]
     .rw[rc f,rc λh=>f ⟨(V7.1 h.1).resolve_left e,h.2⟩]
  .rw[rc hw];obtain⟨h1,E,F⟩:=ss L s z j λu hu=>C u (.tail _ hu);refine⟨h1,E,λbh p A B=>?_⟩;rw[F bh p A B];have hw:=X5.1 hw;by_cases f:bh∈L/\bh≠v
   .rw[ms f,ms ⟨.tail _ f.1,f.2⟩]
   .rw[rc f,rc λh=>f ⟨(V7.1 h.1).resolve_left λe=>h.2 (e.F hw),h.2⟩]
theorem b3.zero(h:b3 s):b3 {s with zero:=c}:=h
theorem Fx{u:Nat}{f:cr}{x:bn}{tup un:Int->Int}(h:b3 s)(a:s.d9[j]?=σ f)(e:s.d6[u]?=σ x):b3 (fW s j f pos u x v tup un):=
 b3.d6 (b3.d9 h a rfl id) e rfl
theorem Fy{u:Nat}{x:bn}{g z:Int->Int}(h:b3 s)(a:s.d6[u]?=σ x):b3 (ir s u x g z):=b3.zero (b3.d6 h a rfl)
def ot(k:Int)(s:ak)(m:fF)(s':ak)(e:Int)(a:Λ):Prop:=eA k s' a=if 5<=m.kind/\e=0/\a[m.i.toNat]? ≠σ m.v then k else eA k s a
theorem yC{m:fF}(p:bd k co s)(F:b3 s):bd k co (bg k s m).1/\b3 (bg k s m).1/\∀a,iL s a->ot k s m (bg k s m).1 (bg k s m).2 a:=by
 have hk:=p.fs;have B:∀e:Int,e≠0->bd k co s/\b3 s/\∀a,iL s a->ot k s m s e a:=λe he=>⟨p,F,λa _=>by unfold ot;rw[rc λh=>he h.2.1]⟩;have low:∀{s':ak}{e:Int},m.kind<5->bd k co s'->b3 s'->(∀a,iL s a->eA k s' a=eA k s a)->bd k co s'/\b3 s'/\∀a,iL s a->ot k s m s' e a:=λhm h1 K T=>⟨h1,K,λa y=>by unfold ot;rw[rc λh=>Ω];exact T a y⟩;unfold bg;split
 .rename_i P;cases ac:dk s m.i m.pos m.v with
  |none=>exact B 1 Φ
  |some q=>
   obtain⟨f,u,x⟩:=q;simp only;split
   .rename_i he;exact B _ he
   .rename_i he;obtain⟨z,hm⟩:=lf he;simp only;obtain⟨_,_,G,L,hu,A⟩:=mH ac;obtain⟨aa,j,E,Q⟩:=jK A;have H:=x7 G;have U:∀t∈ck s f.sc m.pos.toNat m.v,m.c<=br f.aj f.cs t:=λt C=>((nw _ _ _).1 hm).2 _ (j5.2 ⟨t,C,rfl⟩);have R:f.sc[m.pos.toNat]?=σ ((u.toNat:Nat):Int):=by rw[hu];congr 1;omega
    have C:∀t∈ck s f.sc m.pos.toNat m.v,0<=cX k (br f.aj f.cs t) m.c/\cX k (br f.aj f.cs t) m.c<=k:=λt C=>oo (nx p H) ⟨z.1,U t C⟩;have M:=oq (k:=k) (iP (v:=m.v.toNat) p j) z.1;refine low Ω (Fj p G j C M) (Fx F G j) λa y=>Fk p y G L R j Q (F f H L) C M λt C r I=>?_;have:=nx (t:=t) p H;exact uU I ⟨U t C,this.2⟩ (iP p j) z.1
 split
 .rename_i _ P;cases ac:dk s m.i m.pos m.v with
  |none=>exact B 1 Φ
  |some q=>
   obtain⟨f,u,x⟩:=q;simp only;split
   .rename_i he;exact B _ he
   .rename_i he;obtain⟨z,hm⟩:=lf he;simp only;obtain⟨_,_,G,L,hu,A⟩:=mH ac;obtain⟨aa,j,E,Q⟩:=jK A;have H:=x7 G;have R:f.sc[m.pos.toNat]?=σ ((u.toNat:Nat):Int):=by rw[hu];congr 1;omega
    have C:∀t∈ck s f.sc m.pos.toNat m.v,0<=ct k (br f.aj f.cs t) m.c/\ct k (br f.aj f.cs t) m.c<=k:=λt C=>oq (nx p H) z.1;have M:=oo (k:=k) (iP (v:=m.v.toNat) p j) ⟨z.1,hm⟩;refine low Ω (Fj p G j C M) (Fx F G j) λa y=>Fk p y G L R j Q (F f H L) C M λt C r I=>?_;have h1:=nx (t:=t) p H;have K:=iP (v:=m.v.toNat) p j;have:=uU I ⟨hm,K.2⟩ h1 z.1;omega
 split
 .rename_i _ _ P;cases ac:(if 0<=m.i then s.d6[m.i.toNat]? else ν)with
  |none=>exact B 1 Φ
  |some x=>
   have j:s.d6[m.i.toNat]?=σ x:=by split at ac;exact ac;cases ac
   simp only;split
   .exact B 1 Φ
   split
   .rename_i he;exact B _ he
   .rename_i E he;obtain⟨z,hm⟩:=lf he;simp only;have V:∀v∈aC x,m.c<=x.un.getD v.toNat 0:=λv A=>yB A hm;have N:∀v∈aC x,0<=cX k (x.un.getD v.toNat 0) m.c/\cX k (x.un.getD v.toNat 0) m.c<=k:=λv A=>oo (iP p j) ⟨z.1,V v A⟩;have O:=oq p.zero z.1;refine low Ω (ys p j N O) (Fy F j) λa y=>Fm p y j (X5.1 E) N O λv A r I=>?_;exact uU I ⟨V v A,(iP p j).2⟩ p.zero z.1
 split
 .rename_i _ _ _ P;cases ac:(if 0<=m.i then s.d6[m.i.toNat]? else ν)with
  |none=>exact B 1 Φ
  |some x=>
   have j:s.d6[m.i.toNat]?=σ x:=by split at ac;exact ac;cases ac
   simp only;obtain⟨W,X⟩:∃W,W=(if aC x=[]then-1 else s.zero):=⟨_,rfl⟩;rw[<-X];split
   .exact B 1 Φ
   split
   .rename_i he;exact B _ he
   .rename_i E he;obtain⟨z,hm⟩:=lf he;simp only;have Y:m.c<=s.zero:=by
     rw[X]at hm;split at hm
     .omega
     .exact hm
    have N:∀v∈aC x,0<=ct k (x.un.getD v.toNat 0) m.c/\ct k (x.un.getD v.toNat 0) m.c<=k:=λv A=>oq (iP p j) z.1;have O:=oo p.zero ⟨z.1,Y⟩;refine low Ω (ys p j N O) (Fy F j) λa y=>Fm p y j (X5.1 E) N O λv A r I=>?_;have:=uU I ⟨Y,p.zero.2⟩ (iP (v:=v.toNat) p j) z.1;omega
 split
 .rename_i _ _ _ _ P;cases ac:dw s m.i m.v with
  |none=>exact B 1 Φ
  |some x=>
   obtain⟨_,j,E,A⟩:=jK ac;simp only;split
   .exact B 7 Φ
   .rename_i he;have Z:=(e6.1 A).1;simp only;refine low Ω (yu p j Z) (by rw[kD j];exact b3.d6 F j rfl) λa y=>?_;have ab:=(x6.1 j).1;have ad:=y.1;obtain⟨bh,J⟩:=aD (l:=a) (i:=m.i.toNat) Ω;rw[Fo p y j E Z J];split
    .rename_i e;subst e;rw[oj p];split
     .have ae:(s.d6.zip a)[m.i.toNat]?=σ (x,m.v):=List.getElem?_zip_eq_some.2 ⟨j,J⟩;have h1:=sh (si p) (x:=dL (x,m.v)) (by rw[u4,ae];rfl);have K:=pC _ (qG (a:=a) p);have ag:dL (x,m.v)=x.un.getD m.v.toNat 0:=by unfold dL;rw[rc (by simp[E])]
      unfold ct at he;omega
     .rfl
    .rfl
 .rename_i h1 K T ah ai;cases ac:dw s m.i m.v with
  |none=>exact B 1 Φ
  |some x=>
   obtain⟨_,j,E,A⟩:=jK ac;simp only;have S:∀w∈aC x,0<=w/\w<x.un.length:=λw hw=>(e6.1 hw).1;refine⟨(ss (a:=[]) (aC x) s p j S).1,(ss (a:=[]) (aC x) s p j S).2.1 F,λa y=>?_⟩;have ab:=(x6.1 j).1;have ad:=y.1;obtain⟨bh,J⟩:=aD (l:=a) (i:=m.i.toNat) Ω;unfold ot;rw[(ss (aC x) s p j S).2.2 bh y E J,J];by_cases e:bh=m.v
   .rw[rc λh=>h.2 e,rc λh=>h.2.2 (by rw[e])]
   .rw[ms (c:=5<=m.kind/\_) ⟨Ω,rfl,λh=>e (Z4 h)⟩];split
    .rfl
    .rename_i af;exact Fp y j E J λh=>af ⟨h,e⟩
end
theorem Ri{f:Int->Int}(J:dP aj)(q:cs.length<=(bo aj).length)(h:∀t∈L,f (br aj cs t)=br aj cs t):dS f L aj cs=cs:=by
 apply X0;intro i;cases a:cs[i]? with
 |none=>
  have h1:=List.getElem?_eq_none_iff.1 a;rw[Y5 (by rw[py]<;>omega)]
 |some c=>
  obtain⟨t,j⟩:=aD (l:=bo aj) (i:=i) (by have:=(x6.1 a).1;omega);rw[qF j a];split
  .rename_i p;have e:br aj cs t=c:=by
    unfold br;rw[kw J j];simp only;rw[u9,u5,a];rfl
   have:=h t p;rw[e]at this;rw[this]
  .rfl
section
variable{k:Int}{co:Λ}{s:ak}
theorem Fz{i:Int}{u:Nat}{x y:bn}{s':ak}(a:s.d6[u]?=σ x)(f:s'.d6=s.d6.set u y)(h:aC y=aC x):bb s' i=bb s i:=by
 unfold bb;rw[f,Y7];by_cases e:u=i.toNat
 .subst e;rw[ms rfl,ms (x6.1 a).1,a];exact h
 .rw[rc e]
theorem FA{x:bn}(h:un.length=x.un.length):aC {x with un:=un}=aC x:=by
 unfold aC;rw[h]
theorem FB{u:Nat}{f:cr}{x:bn}{tup un:Int->Int}(a:s.d6[u]?=σ x):∀i,bb (fW s j f pos u x v tup un) i=bb s i:=λi=>
 Fz a rfl (FA (by rw[o7]))
theorem Rj{a:fF}{f:cr}{u:Int}{x:bn}(ac:dk s a.i a.pos a.v=σ (f,u,x)):
  (a.kind=0->(bg k s a).2=0->bg k s a=(fW s a.i.toNat f a.pos.toNat u.toNat x a.v (λg=>cX k g a.c) λg=>ct k g a.c,0)/\(0<=a.c/\a.c<=k)/\a.c<=ee k s f a.pos.toNat a.v)/\
  (a.kind=0->(0<=a.c/\a.c<=k)->a.c<=ee k s f a.pos.toNat a.v->bg k s a=(fW s a.i.toNat f a.pos.toNat u.toNat x a.v (λg=>cX k g a.c) λg=>ct k g a.c,0))/\
  (a.kind=1->(bg k s a).2=0->bg k s a=(fW s a.i.toNat f a.pos.toNat u.toNat x a.v (λg=>ct k g a.c) λg=>cX k g a.c,0)/\(0<=a.c/\a.c<=k)/\a.c<=x.un.getD a.v.toNat 0)/\
  (a.kind=1->(0<=a.c/\a.c<=k)->a.c<=x.un.getD a.v.toNat 0->bg k s a=(fW s a.i.toNat f a.pos.toNat u.toNat x a.v (λg=>ct k g a.c) λg=>cX k g a.c,0)):=by
 have q:∀{m:Int},(0<=a.c/\a.c<=k)->a.c<=m->df k a.c m=0:=λh1 p=>by
  unfold df;rw[rc (λh=>h h1),rc Ω]
 refine⟨λj he=>?_,λj h1 p=>?_,λj he=>?_,λj h1 p=>?_⟩
 .unfold bg at he ⊢;rw[ms j,ac]at he ⊢;simp only at he ⊢;split at he
  .rename_i e;exact ro he e
  .rename_i e;rw[rc e];exact⟨rfl,lf e⟩
 .unfold bg;rw[ms j,ac];simp only;rw[rc (λh=>h (q h1 p))]
 .unfold bg at he ⊢;rw[rc Ω,ms j,ac]at he ⊢;simp only at he ⊢;split at he
  .rename_i e;exact ro he e
  .rename_i e;rw[rc e];exact⟨rfl,lf e⟩
 .unfold bg;rw[rc Ω,ms j,ac];simp only;rw[rc (λh=>h (q h1 p))]
end
section
variable{k:Int}{co:Λ}{s:ak}
theorem su{f:cr}(a:bd k co s)(e:f∈s.d9)(p:∀u,f.sc[pos]?=σ u->v∈bb s u)(h:t∈ck s f.sc pos v):∃m:Nat,cp f.aj t 0=σ (m:Int):=by
 obtain⟨j,q,_⟩:=a.d9 f e;obtain⟨r,_⟩:=ld a e;rw[ym a (λu hu=>⟨(j.scope.1 u hu).1,j.d6 u hu⟩) p,<-q]at h;obtain⟨i,hi⟩:=X8.1 (S9.1 h).1;exact⟨i,kw r hi⟩
theorem room_le{f:cr}:c<=ee k s f pos v↔c<=k/\∀t∈ck s f.sc pos v,c<=br f.aj f.cs t:=by
 unfold ee;rw[nw];refine and_congr_right λ_=>⟨λh t a=>h _ (j5.2 ⟨t,a,rfl⟩),λh x e=>?_⟩;obtain⟨t,a,rfl⟩:=j5.1 e;exact h t a
end
theorem Rk{x:bn}(p:aC x≠[])(h:∀v∈aC x,c<=x.un.getD v.toNat 0):c<=iO x:=by
 unfold iO;have a:∀y∈(aC x).map λv=>x.un.getD v.toNat 0,c<=y:=λy f=>by
  obtain⟨v,q,rfl⟩:=j5.1 f;exact h v q
 have j:(aC x).map (λv=>x.un.getD v.toNat 0)≠[]:=λe=>p (List.map_eq_nil_iff.1 e);generalize (aC x).map (λv=>x.un.getD v.toNat 0)=l at a j;cases l with
 |nil=>exact ro rfl j
 |cons b l=>exact(nw l b c).2 ⟨a b (.head _),λy f=>a y (.tail _ f)⟩
section
variable{k:Int}{co:Λ}{s:ak}
theorem FC{x:bn}{g:Int->Int}{L:Λ}:aC {x with un:=eb g x.un L}=aC x:=FA (sj _ _)
theorem Rl{a:fF}{x:bn}(r:0<=a.i)(w:s.d6[a.i.toNat]?=σ x)(f:x.gone=0):
  (a.kind=2->(bg k s a).2=0->bg k s a=(ir s a.i.toNat x (λg=>cX k g a.c) λg=>ct k g a.c,0)/\(0<=a.c/\a.c<=k)/\a.c<=iO x)/\
  (a.kind=2->(0<=a.c/\a.c<=k)->a.c<=iO x->bg k s a=(ir s a.i.toNat x (λg=>cX k g a.c) λg=>ct k g a.c,0))/\
  (a.kind=3->(bg k s a).2=0->bg k s a=(ir s a.i.toNat x (λg=>ct k g a.c) λg=>cX k g a.c,0)/\(0<=a.c/\a.c<=k)/\a.c<=(if aC x=[]then-1 else s.zero))/\
  (a.kind=3->(0<=a.c/\a.c<=k)->a.c<=(if aC x=[]then-1 else s.zero)->bg k s a=(ir s a.i.toNat x (λg=>ct k g a.c) λg=>cX k g a.c,0)):=by
 have p:∀{m:Int},(0<=a.c/\a.c<=k)->a.c<=m->df k a.c m=0:=λh1 j=>by
  unfold df;rw[rc (λh=>h h1),rc Ω]
 generalize q:(if aC x=[]then-1 else s.zero)=y;have ac:(if 0<=a.i then s.d6[a.i.toNat]? else ν)=σ x:=by rw[ms r,w]
 refine⟨λhk he=>?_,λhk h1 j=>?_,λhk he=>?_,λhk h1 j=>?_⟩
 .unfold bg at he ⊢;rw[rc Ω,rc Ω,ms hk,ac]at he ⊢;simp only at he ⊢;rw[rc (λh=>h f)]at he ⊢;split at he
  .rename_i e;exact ro he e
  .rename_i e;rw[rc e];exact⟨rfl,lf e⟩
 .unfold bg;rw[rc Ω,rc Ω,ms hk,ac];simp only;rw[rc (λh=>h f),rc (λh=>h (p h1 j))]
 .unfold bg at he ⊢;rw[rc Ω,rc Ω,rc Ω,ms hk,ac]at he ⊢;simp only[q]at he ⊢;rw[rc (λh=>h f)]at he ⊢;split at he
  .rename_i e;exact ro he e
  .rename_i e;rw[rc e];exact⟨rfl,lf e⟩
 .unfold bg;rw[rc Ω,rc Ω,rc Ω,ms hk,ac];simp only[q];rw[rc (λh=>h f),rc (λh=>h (p h1 j))]
end
section
variable{k:Int}{co:Λ}{s:ak}
theorem Rm{m:fF}(h:(bg k s m).2≠0):(bg k s m).1=s:=by
 generalize hm:bg k s m=r at h ⊢;unfold bg at hm
 repeat' split at hm
 all_goals (subst hm;first|rfl|exact ro rfl h)
end
theorem Rn{of:Int->Int}(hk:0<=k)(h:∀v∈l,0<=of v/\of v<=k):0<=(dZ k l of).1/\(dZ k l of).1<=k:=by
 unfold dZ;have:∀(l:Λ)(p:Int×Int),(0<=p.1/\p.1<=k)->(∀v∈l,0<=of v/\of v<=k)->0<=(l.foldl (eZ of) p).1/\(l.foldl (eZ of) p).1<=k:=λl=>by
  induction l with
  |nil=>exact λp ac _=>ac
  |cons v l e=>
   intro p ac a;refine e _ ?_ λu hu=>a u (.tail _ hu);unfold eZ;split
   .exact a v (.head _)
   .exact ac
 exact this l (k,-1) ⟨hk,S0 _⟩ h
section
variable{w:x5}{ad ae:Nat}{A R:ah}{n:aH}{s:ak}{t:az}
end
def simpStep(of:Λ->Int)(p:Int×Option (Λ))(tl:Λ):Int×Option (Λ):=if p.2=ν\/of tl<p.1 then(of tl,σ tl)else p
def lg(k:Int)(of:Λ->Int)(l:List (Λ)):Int×Option (Λ):=l.foldl (simpStep of) (k,ν)
section
variable{w:x5}{ad ae:Nat}{A R:ah}{n:aH}{s:ak}{t:az}
end
def dB(n:aH)(s:ak)(i:Int):Int×Int:=dZ n.k (bb s i) (cv n s i)
def u0(n:aH)(s:ak)(j:Nat)(f:cr)(p:Nat)(v:Int):Int×Option (Λ):=lg n.k (yk s j) (pA s f.sc p f.sc.length 0 ((o6 f.sc.length 0).set p v))
theorem Ro{s:ak}{i:Int}(a:bd k co s):(bb s i).length<=32:=by
 unfold bb;split
 .rename_i x e;have h:=(x6.1 e).1;have j:=a.d6;obtain⟨z,f⟩:=aD (l:=co) (i:=i.toNat) Ω;have h1:=(a.var _ x z e f).1;have p:=a.ed.2.2 z (x7 f);have q:(aC x).length<=x.un.length:=by
   unfold aC;refine X1 (List.length_filter_le _ _) ?_;rw[r8,List.length_range];exact o4 _
  omega
 .simp
section
variable{k:Int}{n:aH}{s:ak}
end
theorem yD{of:Int->Int}{c:Int}:∀(l:Λ)(b w:Int),w≠ -1->(∀v∈l,v≠ -1)->(c<=(l.foldl (eZ of) (b,w)).1↔c<=b/\∀v∈l,c<=of v)
 |[],b,w,_,_=>Ξ
 |v::l,b,w,hw,e=>by
  rw[V5,List.forall_mem_cons];have j:=e v (.head _);have f:=λu hu=>e u (.tail _ hu);unfold eZ;by_cases h:of v<b
  .rw[ms (.inr h)];show c<=(l.foldl (eZ of) (of v,v)).1↔_;rw[yD l _ _ j f];exact⟨λ⟨h1,a⟩=>⟨Ω,h1,a⟩,λ⟨_,h1,a⟩=>⟨h1,a⟩⟩
  .rw[rc (by rintro (h1|h1)<;>contradiction)];show c<=(l.foldl (eZ of) (b,w)).1↔_;rw[yD l _ _ hw f];exact⟨λ⟨h1,a⟩=>⟨h1,Ω,a⟩,λ⟨h1,_,a⟩=>⟨h1,a⟩⟩
theorem Rp{of:Int->Int}(h:∀v∈l,v≠ -1/\of v<=k):c<=(dZ k l of).1↔c<=k/\∀v∈l,c<=of v:=by
 cases l with
 |nil=>simp[dZ]
 |cons v l=>
  have f:=h v (.head _);have e:dZ k (v::l) of=l.foldl (eZ of) (of v,v):=by
   unfold dZ;rw[V5];congr 1
  rw[e,yD l _ _ f.1 λu hu=>(h u (.tail _ hu)).1,List.forall_mem_cons];exact⟨λ⟨h1,a⟩=>⟨Ω,h1,a⟩,λ⟨_,h1,a⟩=>⟨h1,a⟩⟩
section
variable{n:aH}{s:ak}
theorem Rq{i:Int}(e:bd n.k n.co s):∀v∈bb s i,v≠ -1/\cv n s i v<=n.k:=λv a=>by
 refine⟨?_,(pz e).2⟩;unfold bb at a;split at a
 .have:=E9 a;omega
 .cases a
theorem FD{i:Int}(a:bd n.k n.co s):0<=(dB n s i).1/\(dB n s i).1<=n.k:=by
 have hk:=a.fs;exact Rn Ω λv _=>pz a
theorem FE{w:Nat}{x:bn}{i u:Int}(f:bd n.k n.co s)(a:s.d6[w]?=σ x)(j:0<=v):u∈bb (dK s w v.toNat) i↔u∈bb s i/\(i.toNat=w->u≠v):=by
 have p:=(x6.1 a).1;have r:=f.d6;have h1:=f.var w x _ a (x8 Ω);have hm:((x.mask.toNat:Nat):Int)=x.mask:=Ω
 unfold bb;rw[kD a];simp only[Y7];by_cases e:w=i.toNat
 .subst e;rw[ms rfl,ms p,a];simp only;rw[e6,e6];by_cases hu:0<=u
  .simp only;rw[yt j hu,hm,U1];simp[and_assoc]
  .exact⟨λh=>Ω,λh=>Ω⟩
 .rw[rc e];exact⟨λh=>⟨h,λq=>ro q.symm e⟩,λh=>h.1⟩
theorem Rr{w:Nat}{i u:Int}{x:bn}(a:s.d6[w]?=σ x):cv n (dK s w v.toNat) i u=cv n s i u:=by
 unfold cv ff;rw[kD a];simp only[Y7];by_cases e:w=i.toNat
 .subst e;rw[ms rfl,ms (x6.1 a).1,a]
 .rw[rc e]
end
structure dE(s s':ak):Prop where
 d6:s'.d6.length=s.d6.length
 var:∀(i:Nat)x y,s.d6[i]?=σ x->s'.d6[i]?=σ y->y.gone=x.gone/\y.un.length=x.un.length
 d9:s'.d9.length=s.d9.length
 fn:∀(j:Nat)f g,s.d9[j]?=σ f->s'.d9[j]?=σ g->g.sc=f.sc/\g.aj=f.aj/\g.live=f.live/\g.cs.length=f.cs.length
 eC:s'.eC=s.eC
theorem dE.rfl{s:ak}:dE s s:=⟨Eq.refl _,λ_ _ _ h1 a=>by rw[h1]at a;cases a;exact⟨Eq.refl _,Eq.refl _⟩,Eq.refl _,λ_ _ _ h1 a=>by rw[h1]at a;cases a;exact⟨Eq.refl _,Eq.refl _,Eq.refl _,Eq.refl _⟩,Eq.refl _⟩
theorem dE.F{a b c:ak}(h:dE a b)(k:dE b c):dE a c:=by
 refine⟨k.d6.F h.d6,λi x z p A=>?_,k.d9.F h.d9,λj f q r B=>?_,k.eC.F h.eC⟩
 .have C:=(x6.1 p).1;have E:=h.d6;obtain⟨y,s⟩:=aD (l:=b.d6) (i:=i) Ω;have h1:=h.var i x y p s;have e:=k.var i y z s A;exact⟨e.1.F h1.1,e.2.F h1.2⟩
 .have C:=(x6.1 r).1;have E:=h.d9;obtain⟨g,w⟩:=aD (l:=b.d9) (i:=j) Ω;have h1:=h.fn j f g r w;have e:=k.fn j g q w B;exact⟨e.1.F h1.1,e.2.1.F h1.2.1,e.2.2.1.F h1.2.2.1,e.2.2.2.F h1.2.2.2⟩
section
variable{k:Int}{co:Λ}{s:ak}
theorem yE{i:Nat}{x y:bn}(r:s.d6[i]?=σ x)(w:y.gone=x.gone)(z:y.un.length=x.un.length):dE s {s with d6:=s.d6.set i y}:=by
 refine⟨o7,λj a b q h=>?_,rfl,λj f g h1 p=>?_,rfl⟩
 .have h:(s.d6.set i y)[j]?=σ b:=h;by_cases e:i=j
  .subst e;rw[n9 (x6.1 r).1]at h;rw[r]at q;cases q;cases h;exact⟨w,z⟩
  .rw[Z6 e,q]at h;cases h;exact⟨rfl,rfl⟩
 .have p:=p;rw[h1]at p;cases p;exact⟨rfl,rfl,rfl,rfl⟩
theorem Rs{f g:cr}(w:s.d9[j]?=σ f)(h:g.sc=f.sc/\g.aj=f.aj/\g.live=f.live/\g.cs.length=f.cs.length):dE s {s with d9:=s.d9.set j g}:=by
 refine⟨rfl,λi a b r p=>?_,o7,λq a b r p=>?_,rfl⟩
 .have p:=p;rw[r]at p;cases p;exact⟨rfl,rfl⟩
 .have p:(s.d9.set j g)[q]?=σ b:=p;by_cases e:j=q
  .subst e;rw[n9 (x6.1 w).1]at p;rw[w]at r;cases r;cases p;exact h
  .rw[Z6 e,r]at p;cases p;exact⟨rfl,rfl,rfl,rfl⟩
theorem Rt:dE s {s with zero:=c}:=⟨rfl,λ_ _ _ h1 a=>by have a:=a;rw[h1]at a;cases a;exact⟨rfl,rfl⟩,rfl,λ_ _ _ h1 a=>by have a:=a;rw[h1]at a;cases a;exact⟨rfl,rfl,rfl,rfl⟩,rfl⟩
theorem yF{i:Nat}:dE s (dK s i v.toNat):=by
 cases a:s.d6[i]? with
 |none=>unfold dK;rw[a];exact .rfl
 |some x=>rw[kD a];exact yE a rfl rfl
theorem yG{i:Nat}{v:Int}:∀(L:Λ)(s:ak),dE s (gu s i v L)
 |[],_=>.rfl
 |w::L,s=>by
  unfold gu;split
  .exact yF.F (yG L _)
  .exact yG L s
theorem FF{u:Nat}{x:bn}{g z:Int->Int}(a:s.d6[u]?=σ x):dE s (ir s u x g z):=
 (yE (y:={x with un:=eb g x.un (aC x)}) a rfl (sj _ _)).F Rt
theorem FG{u:Nat}{f:cr}{x:bn}{t un:Int->Int}(e:bd k co s)(a:s.d9[j]?=σ f)(h:s.d6[u]?=σ x):dE s (fW s j f pos u x v t un):=by
 obtain⟨_,p⟩:=ld e (x7 a);have h1:dE s (ea s j f (dS t (ck s f.sc pos v) f.aj f.cs)):=Rs a ⟨rfl,rfl,rfl,py _ _ _ _ Ω⟩;exact h1.F (yE (y:={x with un:=x.un.set v.toNat (un (x.un.getD v.toNat 0))}) h rfl o7)
theorem yH{m:fF}(q:bd k co s):dE s (bg k s m).1:=by
 by_cases he:(bg k s m).2=0
 .generalize a:bg k s m=r at he ⊢;unfold bg at a;split at a
  .split at a
   .subst a;exact .rfl
   .rename_i f u x ac;obtain⟨_,_,e,_,_,j⟩:=mH ac;obtain⟨_,p,_,_⟩:=jK j;split at a
    .subst a;exact .rfl
    .subst a;simp only;exact FG q e p
  split at a
  .split at a
   .subst a;exact .rfl
   .rename_i f u x ac;obtain⟨_,_,e,_,_,j⟩:=mH ac;obtain⟨_,p,_,_⟩:=jK j;split at a
    .subst a;exact .rfl
    .subst a;simp only;exact FG q e p
  have key:∀{x:bn},(if 0<=m.i then s.d6[m.i.toNat]? else ν)=σ x->s.d6[m.i.toNat]?=σ x:=λh=>by
   split at h
   .exact h
   .cases h
  split at a
  .split at a
   .subst a;exact .rfl
   .rename_i x ac;split at a
    .subst a;exact .rfl
    .split at a
     .subst a;exact .rfl
     .subst a;simp only;exact FF (key ac)
  split at a
  .split at a
   .subst a;exact .rfl
   .rename_i x ac;generalize (if aC x=[]then-1 else s.zero)=w at a;split at a
    .subst a;exact .rfl
    .split at a
     .subst a;exact .rfl
     .subst a;simp only;exact FF (key ac)
  split at a
  .split at a
   .subst a;exact .rfl
   .split at a
    .subst a;exact .rfl
    .subst a;exact yF
  .split at a
   .subst a;exact .rfl
   .subst a;exact yG _ _
 .rw[Rm he];exact .rfl
def eD(i v:Int):fF:=⟨4,i,0,v,0⟩
def lT(i c:Int):fF:=⟨2,i,0,0,c⟩
def dl(k:Int)(i:Int):Λ->ak×Bool->ak×Bool
 |[],p=>p
 |v::L,p=>dl k i L ((bg k p.1 (eD i v)).1,decide ((bg k p.1 (eD i v)).2=0)||p.2)
def e7(n:aH)(i:Int)(p:ak×Bool):ak×Bool×Bool:=
 if dr p.1 i.toNat=v2 then(p.1,p.2,v6)else
 let q:=dl n.k i (bb p.1 i) (p.1,v6)
 if(dB n q.1 i).2<0 then(q.1,v6,v2)else
 if 0<(dB n q.1 i).1 then((bg n.k q.1 (lT i (dB n q.1 i).1)).1,v2,v6)else(q.1,q.2||p.2,v6)
def gL(n:aH):List Nat->ak×Bool->ak×Bool×Bool
 |[],p=>(p.1,p.2,v6)
 |i::L,p=>if(e7 n (i:Int) p).2.2=v2 then((e7 n (i:Int) p).1,v6,v2)else gL n L ((e7 n (i:Int) p).1,(e7 n (i:Int) p).2.1)
def fv(n:aH)(s:ak):ak×Bool×Bool:=gL n (X9 n.co.length) (s,v6)
structure gv(k:Int)(co:Λ)(s s':ak):Prop where
 ok:bd k co s'
 jj:b3 s'
 same:dE s s'
 val:∀a,iL s a->eA k s' a=eA k s a
 kf:∀i u,u∈bb s' i->u∈bb s i
 zero:s.zero<=s'.zero
theorem yI{s':ak}(h:dE s s')(e:iL s a):iL s' a:=by
 refine⟨e.1.F h.d6.symm,λi y v f p=>?_⟩;have q:=(x6.1 f).1;have r:=h.d6;obtain⟨x,j⟩:=aD (l:=s.d6) (i:=i) Ω;have h1:=h.var i x y j f;rw[h1.1,h1.2];exact e.2 i x v j p
theorem gv.rfl(a:bd k co s)(e:b3 s):gv k co s s:=⟨a,e,.rfl,λ_ _=>Eq.refl _,λ_ _ h=>h,S0 _⟩
theorem gv.F{a b c:ak}(h:gv k co a b)(g:gv k co b c):gv k co a c:=
 ⟨g.ok,g.jj,h.same.F g.same,λx e=>(g.val x (yI h.same e)).F (h.val x e),λi u hu=>h.kf i u (g.kf i u hu),Int.le_trans h.zero g.zero⟩
theorem FH{m:fF}(e:bd k co s)(f:b3 s)(hm:m.kind<5)(h:∀i u,u∈bb (bg k s m).1 i->u∈bb s i)(j:s.zero<=(bg k s m).1.zero):gv k co s (bg k s m).1:=by
 obtain⟨h1,p,q⟩:=yC (m:=m) e f;refine⟨h1,p,yH e,λa r=>?_,h,j⟩;have:=q a r;unfold ot at this;rw[rc Ω]at this;exact this
end
def dC{α:Type}(a b:List α)(i:Nat):List α:=a.take i++b.drop i
theorem u1{α:Type}{a b:List α}(h:a.length=b.length):dC a b b.length=a:=by
 unfold dC;rw[List.drop_length,U2,<-h,j4]
theorem yJ{α:Type}{a b:List α}{i:Nat}(h:a.length=b.length):(dC a b i).length=b.length:=by
 unfold dC;rw[o9,o8,List.length_drop];omega
theorem FI{α:Type}{a b:List α}{i:Nat}(h:a.length=b.length)(hi:i<b.length):(dC a b i)[i]?=b[i]?:=by
 unfold dC;rw[Z7 (by rw[o8];omega),o8,R3];congr 1;omega
theorem u2{α:Type}{a b:List α}{i:Nat}{x:α}(h:a.length=b.length)(f:a[i]?=σ x):(dC a b i).set i x=dC a b (i+1):=by
 have q:=(x6.1 f).1;refine X0 λj=>?_;unfold dC;rw[Y7,o9,o8,List.length_drop];by_cases e:i=j
 .subst e;rw[ms rfl,ms Ω,Y4 (by rw[o8];omega),Y6 Ω,f]
 .rw[rc e];by_cases p:j<i
  .rw[Y4 (by rw[o8];omega),Y4 (by rw[o8];omega),Y6 p,Y6 Ω]
  .rw[Z7 (by rw[o8];omega),Z7 (by rw[o8];omega),o8,o8,R3,R3];congr 1;omega
def de(a b:ak)(m q:Nat):ak:=⟨a.zero,dC a.d6 b.d6 m,dC a.d9 b.d9 q,b.eC⟩
theorem Ru{a b:ak}(h:dE b a):de a b b.d6.length b.d9.length=a:=by
 unfold de;rw[u1 h.d6,u1 h.d9,<-h.eC]
theorem Rv{x y:bn}(h1:y.gone=x.gone):({({x with mask:=y.mask}:bn)with un:=y.un}:bn)=y:=by
 cases x;cases y;simp only at h1;subst h1;rfl
theorem Rw{x y:bn}(h:y.un.length=x.un.length):aC {x with mask:=y.mask}=aC y:=by
 unfold aC;simp only;rw[h]
theorem Rx{f g:cr}(h:g.sc=f.sc/\g.aj=f.aj/\g.live=f.live):({f with cs:=g.cs}:cr)=g:=by
 obtain⟨h1,a,e⟩:=h;cases f;cases g;simp only at h1 a e;subst h1;subst a;subst e;rfl
def u3(B:Nat)(w:x5)(a:x4)(cs:List x4)(f:b7):Prop:=∃ad ae A R t N A9 aG,fl N f/\a=Γ ad/\bE w ad ae A R (cf f) (cR (cf f)) t/\Plain t/\(∀r,A r->B<=r)/\
 ia v2 A9 aG w cs (cf f).k (cf f).co (cR (cf f))/\(∀q r,A9 q r->¬A r/\¬R r/\B<=r)/\(∀r,aG r->¬eG w r/\r<w.heap.size/\B<=r)/\∀r,R r->B<=r
def Ry(w:x5)(q:Λ)(v:x4)(I:x5):Prop:=Ext w I/\∃a cs ok,v= .tuple #[a,.agg cs.toArray,.bool ok]/\(cs.length=8/\∀u∈cs,u.oneCell'=v2)/\((ok=v6/\a= .pointer ν)\/(ok=v2/\∃f,gS q=σ f/\u3 w.heap.size I a cs f))/\∀f,gS q=σ f->ns f.d9<=16384->ok=v2
theorem Rz(J:dP aj):(bo aj).Nodup:=by
 rw[List.nodup_iff_pairwise_ne,U5];intro i j hi a f he;have h1:=kw J (x8 hi);have e:=kw J (x8 a);rw[he,e]at h1;have:=Z4 h1;omega
section
variable{k:Int}{co:Λ}{s:ak}
theorem FJ{f:cr}(a:bd k co s)(e:f∈s.d9)(j:∀u,f.sc[pos]?=σ u->v∈bb s u):(ck s f.sc pos v).Nodup:=by
 obtain⟨h,p,_⟩:=a.d9 f e;obtain⟨q,_⟩:=ld a e;rw[ym a (λu hu=>⟨(h.scope.1 u hu).1,h.d6 u hu⟩) j,<-p];exact(Rz q).sublist List.filter_sublist
theorem yK{α:Type}{l:List α}{q:Nat}{a:α}(e:l.Nodup)(h:l[q]?=σ a):a∉l.take q:=λhm=>by
 obtain⟨i,hi⟩:=X8.1 hm;have f:i<q:=by have:=(x6.1 hi).1;rw[o8]at this;omega
 rw[Y6 f]at hi;have h1:=(x6.1 hi).1;have j:=(x6.1 h).1;have:=(List.getElem_inj e (h₁:=j)).1 (by rw[(x6.1 hi).2,(x6.1 h).2]);omega
theorem RA{m:Nat}{f:cr}(a:s.d9[j]?=σ f)(e:f.live≠0)(hi:cp f.aj t 0=σ (m:Int)):yk s j t=br f.aj f.cs t/\∃p,io s j t=σ p:=by
 have h:∃p,io s j t=σ p:=by
  unfold io;rw[a];simp only;rw[ms e,hi];exact⟨_,rfl⟩
 obtain⟨p,ac⟩:=h;refine⟨?_,p,ac⟩;unfold yk;rw[ac,R2,ms rfl];unfold og;rw[a]
theorem FK{m q:Nat}{f:cr}{g:Int->Int}(y:bd k co s)(p:s.d9[j]?=σ f)(z:L.Nodup)(r:L[q]?=σ t)(hi:cp f.aj t 0=σ (m:Int)):
  br f.aj (dS g (L.take q) f.aj f.cs) t=br f.aj f.cs t/\la (ea s j f (dS g (L.take q) f.aj f.cs)) j m (g (br f.aj f.cs t))=ea s j f (dS g (L.take (q+1)) f.aj f.cs):=by
 obtain⟨a,A⟩:=ld y (x7 p);have w:=yK z r;refine⟨by rw[Ff a A hi,rc w],?_⟩;have h:=nX a hi;rw[u9]at h;have E:=(x6.1 h).1;obtain⟨c,x⟩:=aD (l:=f.cs) (i:=m) Ω;have e:br f.aj f.cs t=c:=by
  unfold br;rw[hi];simp only;rw[u9,u5,x];rfl
 have B:=(Qs (f:=g) a Ω h x w).2;unfold la;have C:(ea s j f (dS g (L.take q) f.aj f.cs)).d9[j]?=σ {f with cs:=dS g (L.take q) f.aj f.cs}:=n9 (x6.1 p).1;rw[C,e];simp only;rw[B,r9,r];unfold ea;simp only[List.set_set];rfl
end
section
variable{w:x5}{ad ae:Nat}{A R:ah}{n:aH}{s:ak}{t:az}
theorem yL{i:Int}(h:bE w ad ae A R n s t):al v8 I7 [Γ ad,Δ i,Δ v] w λr I=>Ext w I/\r=Δ (if(dw s i v).isSome=v2 then 0 else 1):=by
 have L:=h.2.2.2.1.d6;refine aB func154 ?_;rw[dg eL.u];simp only[Y2,a6];refine aZ (λr U=>r= .bool (!(dw s i v).isSome)/\Ext w U) ?_ ?_
 .rintro _ U ⟨rfl,C⟩;rw[b4];exact⟨λp=>⟨C,by rw[rc (by simpa using p)]⟩,λp=>⟨C,by rw[ms (by simpa using p)]⟩⟩
 intro ax E;refine(uO h).Y ?_;rintro _ aa _ ⟨rfl,q⟩;rw[b4];refine⟨λa=>E _ _ ⟨?_,q⟩,λa=>?_⟩
 .rw[U9,sp]at a;have y:dw s i v=ν:=by
   unfold dw;rw[ms a.1];have z:=a.2;unfold dr at z;cases e:s.d6[i.toNat]? with
   |none=>rfl
   |some x=>
    rw[e]at z;simp only;rw[rc λh=>by simp[h.1]at z]
  rw[y];rfl
 refine(kC (i:=i) (h.W q)).Y ?_;rintro _ M _ ⟨⟨b,m,rfl,B⟩,H⟩;refine(Qi B.1).Y ?_;rintro _ N _ ⟨rfl,J⟩;rw[bM];refine E _ _ ⟨?_,(q.F H).F J⟩;congr 2;by_cases f:0<=i/\i<n.co.length
 .obtain⟨x,e⟩:=aD (l:=s.d6) (i:=i.toNat) Ω;rw[Qx B f.1 e];unfold dw;rw[ms f.1,e];have K:x.gone=0:=by
   rw[rs f.1,Q4]at a;unfold dr at a;rw[e]at a;simpa using a
  simp only;by_cases j:v∈aC x
  .rw[rs j,ms ⟨K,j⟩];rfl
  .rw[s2 j,rc λh=>j h.2];rfl
 .obtain⟨rfl,rfl⟩:=B.2.1 f;have y:dw s i v=ν:=by
   unfold dw;by_cases G:0<=i
   .rw[ms G,Y5 Ω]
   .rw[rc G]
  rw[y,s2 Ω];rfl
def RB(s:ak)(j pos v:Int)(u e:Int):Prop:=(e=0/\∃f x,dk s j pos v=σ (f,u,x))\/(e=1/\dk s j pos v=ν)
theorem yM{j pos:Int}(h:bE w ad ae A R n s t):al v8 I1 [Γ ad,Δ j,Δ pos,Δ v] w λr I=>Ext w I/\∃u e,r= .tuple #[Δ u,Δ e]/\RB s j pos v u e:=by
 refine aB func146 ?_;rw[dg eL.u];simp only[Y2,a6];have key:∀(K:x4->x5->Prop),(∀r I,Ext w I->(∀f,0<=j->s.d9[j.toNat]?=σ f->aN .i64 I r f.sc)->K r I)->al v8 tc [Γ ad,Δ j] w K:=λK V=>by
  by_cases W:0<=j/\j<s.d9.length
  .obtain⟨f,p⟩:=aD (l:=s.d9) (i:=j.toNat) Ω;have:=sg h p;rw[show((j.toNat:Nat):Int)=j by omega]at this;refine this.Y ?_;rintro r U _ ⟨C,g,_,hm⟩;exact V r U C λH _ X=>by rw[p]at X;cases X;exact hm.ls
  .refine (Qr h W).Y ?_;rintro r U _ ⟨rfl,C⟩;exact V _ U C λf E p=>ro ⟨E,by have:=(x6.1 p).1;omega⟩ W
 refine key _ λr U C Y=>?_;have L:∀{P:Prop},(¬∃f u,0<=j/\0<=pos/\s.d9[j.toNat]?=σ f/\f.live≠0/\f.sc[pos.toNat]?=σ u)->(dk s j pos v=ν->P)->P:=λz an=>an (by
  cases ac:dk s j pos v with
  |none=>rfl
  |some q=>
   obtain⟨f,u,x⟩:=q;obtain⟨M,N,a3,a4,a5,_⟩:=mH ac;exact ro ⟨f,u,M,N,a3,a4,a5⟩ z)
 refine aZ (λZ aa=>Ext U aa/\((Z= .bool v2/\dk s j pos v=ν)\/(Z= .bool v6/\∃f u,0<=j/\0<=pos/\s.d9[j.toNat]?=σ f/\f.live≠0/\f.sc[pos.toNat]?=σ u))) ?_ ?_
 .rintro _ aa ⟨O,⟨rfl,z⟩|⟨rfl,f,u,E,ab,p,ao,hu⟩⟩
  .rw[bQ];exact⟨C.F O,0,1,rfl,.inr ⟨rfl,z⟩⟩
  .rw[a6];intro ap B _ _;have af:=(Y f E p).W (O.F B);refine rj Ω aq.u ai.i af hu λb o au=>?_;rw[aE Ψ au,fM (y:=pos) (i:=pos.toNat) Ω aq.u ai.i Ψ af hu];have ag:=(C.F O).F B;refine(yL (h.W ag)).Y ?_;rintro _ aw _ ⟨ah,rfl⟩;refine⟨.inl ah,ag.F ah,u,_,rfl,?_⟩;have ac:dk s j pos v=(dw s u v).map λx=>(f,u,x):=by
    unfold dk;rw[ms ⟨E,ab⟩,p];simp only;rw[ms ao,hu]
   cases aj:dw s u v with
   |none=>exact .inr ⟨rfl,by rw[ac,aj];rfl⟩
   |some x=>exact .inl ⟨rfl,f,x,by rw[ac,aj];rfl⟩
 intro ax J;refine(yf (h.W C)).Y ?_;rintro _ ap _ ⟨rfl,B⟩;have same:∀{f H:cr},s.d9[j.toNat]?=σ f->s.d9[j.toNat]?=σ H->H=f:=λa b=>by rw[a]at b;exact(Z4 b).symm
 rw[bM,b4];refine⟨λQ=>L (λ⟨f,u,M,N,a3,a4,a5⟩=>?_) λz=>J _ _ ⟨B,.inl ⟨rfl,z⟩⟩,λS=>?_⟩
 .unfold ft at Q;rw[a3]at Q;simp[M,a4]at Q
 have S:0<=j/\ft s j.toNat=v2:=by simpa using S
 obtain⟨E,G⟩:=S;obtain⟨f,p,av⟩:∃f,s.d9[j.toNat]?=σ f/\f.live≠0:=by
  unfold ft at G;cases p:s.d9[j.toNat]? with
  |none=>rw[p]at G;cases G
  |some f=>rw[p]at G;exact⟨f,rfl,by simpa using G⟩
 rw[aS,am];refine⟨λay=>L (λ⟨_,_,_,N,_⟩=>Ω) λz=>J _ _ ⟨B,.inl ⟨rfl,z⟩⟩,λab=>?_⟩;rw[a1 aq.u ((Y f E p).W B),cP];by_cases ak:(f.sc.length:Int)<=pos
 .refine L (λ⟨H,u,_,_,a3,_,a5⟩=>?_) λz=>J _ _ ⟨B,.inl ⟨by rw[rs ak],z⟩⟩;obtain rfl:=same p a3;have:=(x6.1 a5).1;omega
 .obtain⟨u,hu⟩:=aD (l:=f.sc) (i:=pos.toNat) Ω;exact J _ _ ⟨B,.inr ⟨by rw[s2 ak],f,u,E,Ω,p,av,hu⟩⟩
theorem va{most:Int}(h:bE w ad ae A R n s t):al v8 I2 [Γ ad,Δ c,Δ most] w λr I=>Ext w I/\r=Δ (df n.k c most):=by
 refine aB func147 ?_;refine(oe h).Y ?_;rintro _ U _ ⟨rfl,a⟩;refine kU.Y ?_;rintro _ aa _ ⟨rfl,e⟩;have hi:cG c n.k↔0<=c/\c<=n.k:=⟨λh=>h.2,λj=>⟨h.2.2.2.1.fs,j⟩⟩;unfold df;rw[bM,b4];refine⟨λf=>⟨a.F e,?_⟩,λf=>?_⟩
 .have:¬cG c n.k:=by simpa using f
  rw[ms λh=>this (hi.2 h)]
 .have:cG c n.k:=by simpa using f
  rw[rc λh=>h (hi.1 this),bU,am];exact⟨λh=>⟨a.F e,by rw[ms h]⟩,λh=>⟨a.F e,by rw[rc h]⟩⟩
theorem RC{a b:Int}(hk:right k)(f:0<=a/\a<=k)(j:0<=b/\b<=k)(s:a=k\/b<=a):al v8 JP [Δ a,Δ b,Δ k] w λv I=>v= .tuple #[Δ (cX k a b),Δ 0]/\Ext w I:=by
 have x:1<=k/\k<=2147483648:=hk;refine aB func214 ?_;refine aZ (λr U=>r= .bool v6/\Ext w U) ?_ ?_
 .rintro _ U ⟨rfl,e⟩;unfold cX;rw[a6,bm,am];refine⟨λh=>⟨by rw[ms h],e⟩,λh=>?_⟩;rw[rc h,bU,am];refine⟨λy=>Ω,λ_=>?_⟩;rw[dx,m1 Ω Ω];exact⟨rfl,e⟩
 intro ax p;refine kU.Y ?_;rintro _ U _ ⟨rfl,e⟩;rw[rs (show cG a k from⟨hk,f⟩),bM,X3,a6];refine kU.Y ?_;rintro _ aa _ ⟨rfl,q⟩;rw[rs (show cG b k from⟨hk,j⟩),bM,X3];exact p _ _ ⟨rfl,e.F q⟩
theorem vb{a:Int}(h:bE w ad ae A R n s t)(e:0<=a/\a<=n.k)(f:0<=c/\c<=n.k)(j:a=n.k\/c<=a):al v8 oL [Γ ad,Δ a,Δ c] w λr I=>r=Δ (cX n.k a c)/\Ext w I:=by
 refine aB func149 ?_;refine(oe h).Y ?_;rintro _ U _ ⟨rfl,p⟩;refine(RC h.2.2.2.1.fs e f j).Y ?_;rintro _ aa _ ⟨rfl,q⟩;rw[bx,bz];exact⟨rfl,p.F q⟩
theorem sw{a:Int}(h:bE w ad ae A R n s t)(e:0<=a/\a<=n.k)(f:0<=c/\c<=n.k):al v8 oM [Γ ad,Δ a,Δ c] w λr I=>r=Δ (ct n.k a c)/\Ext w I:=by
 refine aB func150 ?_;refine(oe h).Y ?_;rintro _ U _ ⟨rfl,j⟩;refine(Qk e f h.2.2.2.1.fs).Y ?_;rintro _ aa _ ⟨rfl,p⟩;rw[bx,bz];exact⟨rfl,j.F p⟩
end
theorem RD{g n c:Nat}{cs:List x4}(a:ag w g cN cs)(h:∀I,af (λr=>r=g) w I->(∀o vs,w.rangeAt g o vs->I.rangeAt g o vs)->K (.slice (σ ⟨g,0,ν⟩) n c) I):
  aF v8 (convert cT cT (.slice (σ ⟨g,0,ν⟩) n c)) w K:=by
 have f:∀r,(w.freeze ⟨g,cs.length,ν⟩ 1).heap[r]?=if g=r then(w.heap[r]?).map (λ| .cells c p (lo,hi)=>.cells c p (if lo == hi then(cs.length,cs.length+1)else(min lo cs.length,max hi (cs.length+1)))|o=>o)else w.heap[r]?:=λr=>by
  unfold x5.freeze;rw[rc Φ];exact Array.getElem?_modify
 have A:(w.freeze ⟨g,cs.length,ν⟩ 1).heap.size=w.heap.size:=by
  unfold x5.freeze;rw[rc Φ];exact Array.size_modify
 have q:w.shape? g=σ (cN,cs.length):=by
  unfold x5.shape?;unfold ag at a;rw[a];simp
 have s:(convert cT cT (.slice (σ ⟨g,0,ν⟩) n c)).run v8 w= .ok (.slice (σ ⟨g,0,ν⟩) n c) (w.freeze ⟨g,cs.length,ν⟩ 1):=by
  simp[convert,run_underlying cT.u,run_underlying cN.u,markStringish,q]
 unfold ag at a;refine .of s ⟨by unfold x5.freeze;rw[rc Φ],.ln (by unfold x5.freeze;rw[rc Φ]) (by unfold x5.freeze;rw[rc Φ]),by unfold x5.freeze;rw[rc Φ],Ω,λr o e J=>?_⟩ (h _ ⟨Ω,λr o e _ x=>?_⟩ λo vs y j v z=>?_)
 .rw[f];by_cases he:g=r
  .subst he;rw[a]at e;cases e;cases J
  .rw[rc he];exact e
 .rw[f,rc λhe=>x he.symm];exact e
 .have h1:=y j v z;unfold x5.cell? at h1 ⊢;rw[f,ms rfl];rw[a]at h1 ⊢;exact h1
def yN(s0 s:ak):Prop:=s.zero=s0.zero/\s.d9=s0.d9/\s.d6.length=s0.d6.length/\∀(i:Nat)x,s.d6[i]?=σ x->∃a,s0.d6[i]?=σ a/\x.un=a.un/\x.gone=0/\a.gone=0/\a.mask=0
theorem yN.new(n:aH):yN (cR n) (cR n):=⟨rfl,rfl,rfl,λi x a=>by
 refine⟨x,a,rfl,?_⟩;have a:(n.unary.map newVar)[i]?=σ x:=a;rw[u4]at a;obtain⟨u,_,rfl⟩:=Y9.1 a;exact⟨rfl,rfl,rfl⟩⟩
theorem FL(n:aH):b3 (cR n):=λf _ _ v _ x a=>by
 obtain⟨_,_,_,h,_⟩:=(yN.new n).2.2.2 _ x a;exact h
theorem RE{aa:x5}{ao:Nat}{E:x4}{cs:List x4}{f:b7}(G:u3 B aa E cs f)(e:Ext aa w)(H:ag w ao aI cs)(O:aa.heap.size<=ao):
  ∃ad ae A R A9 aG t,E=Γ ad/\cb w ad ae ao A R A9 aG (cf f) (cR (cf f)) (cR (cf f)) t [] cs/\t.marks=[]/\(∀r,A r->B<=r)/\(∀q r,A9 q r->B<=r)/\t.cells.length<=2000000/\t.olds.length=0/\(cf f).d9.length<=256/\t.ku=0/\(∀r,aG r->B<=r)/\∀r,R r->B<=r:=by
 obtain⟨ad,ae,A,R,t,N,A9,aG,x,rfl,y,j,I,K,C,p,L⟩:=G;have F:=nv y;have z:=e.size;have s:=(uJ (Dt x).1 (yi x) (cf f).unary.length (cf f).d9.length);rw[xT,<-y.2.1]at s;unfold az.b1 at s;rw[r8]at s;refine⟨ad,ae,A,R,λq r=>A9 q r/\r<aa.heap.size,aG,t,rfl,⟨y.W e,j.2.2.1,H,K.old.W e,λq r h=>⟨(C q r h.1).1,(C q r h.1).2.1,by have:=h.2;omega⟩,λr a=>⟨λh=>(p r a).1 (n8 (λo M J _=>e.aY r o M J) h),by have:=(p r a).2;omega,by have:=(p r a).2;omega⟩,λh=>by have:=F ao (.inl h);omega,λh=>by have:=F ao (.inr h);omega⟩,j.1,I,λq r h=>(C q r h.1).2.2,s,by rw[j.2.1];rfl,yi x,j.2.2.2,λr a=>(p r a).2.2,L⟩
section
variable{α:Type}{f:α->List x4}{k:Nat}{e:o5}{w:x5}{g:Nat}{v:x4}{L:List α}
theorem RF{t:o5}{b:Nat}{i:Nat}(A:v8.underlying t=σ (.slice e))(hi:aR v8 e k b z)(h:bj f k e w g v L)(j:i<=L.length):
  ∃q,(∀(I:x5)(K:x4->Prop),ab v8 (U4 t v ν (σ (Δ (i:Int))) ν) I K=K q)/\bj f k e w g q (L.take i)/\∀r,lm q r->lm v r:=by
 obtain⟨⟨O,⟨rfl,B⟩|⟨cap,cs,rfl,C,P,E,F,G⟩⟩,s⟩:=id h
 .have H:=Z5 B;subst H;have:i=0:=by simpa using j
  subst this;exact⟨_,λI K=>ig A hi jW oU fh Ω Ω Ω,h,λr y=>y⟩
 .have J:(if cap=0 then(σ ⟨g,0,ν⟩:Option Addr)else U7 (λx:Addr=>x.add (0*k)) (σ ⟨g,0,ν⟩))=σ ⟨g,0,ν⟩:=by split<;>simp[T9]
  refine⟨.slice (σ ⟨g,0,ν⟩) i cap,λI K=>?_,⟨⟨?_,.inr ⟨cap,cs,by rw[o8,Nat.min_eq_left j],C,by rw[o8];omega,E,F,?_⟩⟩,λa p=>s a (T1 p)⟩,λr y=>by obtain⟨a,_,_,e,M⟩:=y;cases e;exact⟨_,_,_,rfl,M⟩⟩
  .rw[ig A hi jW oU fh Ω Ω Ω,J,Nat.sub_zero,Nat.sub_zero]
  .rw[iF λa p=>s a (T1 p)]
  .rw[o8,Nat.min_eq_left j];have N:L.flatMap f=(L.take i).flatMap f++(L.drop i).flatMap f:=by rw[<-List.flatMap_append,List.take_append_drop]
   have Q:((L.take i).flatMap f).length=i*k:=by rw[iF λa p=>s a (T1 p),o8,Nat.min_eq_left j]
   have:cs.take (i*k)=(cs.take (L.length*k)).take (i*k):=by rw[List.take_take,Nat.min_eq_left (X4 _ j)]
   rw[this,G,N,List.take_append_of_le_length Ω,Z0 Ω]
end
section
variable{w I:x5}{ad ae ao dq:Nat}{A R O M aG:ah}{A9:Nat->ah}{k:Int}{co:Λ}{J:List ak}{n:aH}{s u:ak}{t:az}{h:List az}{cs:List x4}
structure UH(w:x5)(ao:Nat)(A R:ah)(A9:Nat->ah)(aG O M:ah):Prop where
 o:∀r,O r->r<w.heap.size/\¬A r/\¬R r/\(∀q,¬A9 q r)/\¬aG r/\r≠ao/\¬M r
 m:∀r,M r->r<w.heap.size/\¬A r/\(∀q,¬A9 q r)/\¬aG r/\r≠ao
theorem cb.side{S:ah}(p:cb w ad ae ao A R A9 aG n s u t h cs)(f:af S w I)(e:∀r,r<w.heap.size->S r->¬A r/\¬R r/\(∀q,¬A9 q r)/\¬aG r/\r≠ao):cb I ad ae ao A R A9 aG n s u t h cs:=by
 have z:=f.size;exact⟨⟨p.dA.1.V f λr a h J=>h.elim (e r a J).1 (e r a J).2.1,p.dA.2⟩,p.im,p.box.V f λJ=>(e ao p.box.lt J).2.2.2.2 rfl,p.doc.V f λr a h J=>h.elim (λ⟨q,h⟩=>(e r a J).2.2.1 q h) (e r a J).2.2.2.1,p.apart,
  λr a=>⟨λh=>(p.read r a).1 (n8 (λo j J _=>f.aY r o j J λx=>(e r (p.read r a).2.1 x).2.2.2.1 a) h),by have:=(p.read r a).2.1;omega,(p.read r a).2.2⟩,p.out⟩
theorem cb.FM(p:cb w ad ae ao A R A9 aG n s u t h cs):∀q r,A9 q r->¬aG r:=by
 obtain⟨_,_,_,_,_,_,_,_,_,_,_,_,_,a⟩:=p.doc;exact(a rfl).2
end
theorem FN{w0:x5}{out:x4}{g:Nat}{x:Int}(e:Ext w0 w)(hm:aA .i64 ai w g out l)(f:∀r,lw out r->w0.heap.size<=r)(F:l.length<=1000000000)(p:∀v I q,Ext w0 I->aA .i64 ai I q v (l++[x])->(∀r,lw v r->w0.heap.size<=r)->K v I):
  aF v8 (X2 aq 1 #[(0,Δ x)]) w λy U=>aF v8 (Z9 #[aq,aq] aq #[out,y]) U K:=by
 refine eT aq.u ai.i rfl λv4 G H J a s=>?_;refine jg aq.u ai.i rfl (hm.W a) s.ls Θ Θ λv5 A L B C E=>?_;have z:=(e.F a).size;exact p _ _ A ((e.F a).then E λr j he=>by have:=f r he;omega) B λr j=>(C r j).elim (f r) λh=>Ω
theorem vc(x:bn):(aC x).length<=x.un.length:=by
 unfold aC;have:=List.length_filter_le (λv:Int=>!dropped x.mask v) ((X9 x.un.length).map λv:Nat=>(v:Int));rw[r8,List.length_range]at this;exact this
section
variable{w:x5}{ad ae:Nat}{A R:ah}{n:aH}{s:ak}{t:az}
end
def mI(s:ak)(sc t:Λ):Bool:=(sc.zip t).all λp=>match s.d6[p.1.toNat]? with
 |some x=>decide (p.2∈aC x)
 |none=>v6
section
variable{w:x5}{ad ae:Nat}{A R:ah}{n:aH}{s:ak}{t:az}
end
def pG(aj t:Λ):Int:=(cp aj t 0).getD 0
def mJ(s:ak)(f:cr)(pos:Nat)(v:Int):Λ:=(ck s f.sc pos v).map (pG f.aj)
def lU(s:ak)(sc:Λ)(pos:Nat)(v:Int)(t:Λ):Bool:=decide (t.getD pos 0=v)&&mI s sc t
section
variable{k:Int}{co:Λ}{s:ak}{f:cr}{pos:Nat}{v:Int}
theorem RG:mI s sc t=v2↔ ∀(p:Nat)u w,sc[p]?=σ u->t[p]?=σ w->w∈bb s u:=by
 unfold mI;rw[List.all_eq_true];constructor
 .intro h p u w hu hw;have:=h (u,w) (x7 (List.getElem?_zip_eq_some.2 ⟨hu,hw⟩));unfold bb;cases a:s.d6[u.toNat]? with
  |none=>simp[a]at this
  |some x=>simpa[a]using this
 .rintro h ⟨u,w⟩ hm;obtain⟨p,ac⟩:=X8.1 hm;obtain⟨h1,e⟩:=List.getElem?_zip_eq_some.1 ac;have:=h p u w h1 e;unfold bb at this;simp only;cases a:s.d6[u.toNat]? with
  |none=>rw[a]at this;cases this
  |some x=>rw[a]at this;simpa using this
theorem RH(q:bd k co s)(B:f∈s.d9)(C:pos<f.sc.length)(r:∀u,f.sc[pos]?=σ u->v∈bb s u):ck s f.sc pos v=(bo f.aj).filter (lU s f.sc pos v):=by
 obtain⟨x,y,_⟩:=q.d9 f B;have j:=ym q (λu hu=>⟨(x.scope.1 u hu).1,x.d6 u hu⟩) r;rw[<-y]at j;have h1:∀t∈bo f.aj,(oh (pB s pos v f.sc 0) t=v2↔t∈ck s f.sc pos v):=λt a=>by rw[j,S9];exact⟨λh=>⟨a,h⟩,λh=>h.2⟩
 rw[j];refine List.filter_congr λt a=>?_;have E:t.length=f.sc.length:=by rw[tr a,y];simp[bN]
 rw[U8,h1 t a,yr,lU,U9,sp,RG];constructor
 .rintro⟨_,h⟩;obtain⟨u,hu⟩:=aD (l:=f.sc) C;obtain⟨w,hw⟩:=aD (l:=t) (i:=pos) Ω;have z:=h pos u w hu hw;rw[ms rfl]at z;refine⟨by rw[u5,hw];exact z,λp u' I A F=>?_⟩;have:=h p u' I A F;split at this
  .rename_i e;subst e;rw[this];exact r u' A
  .exact this
 .rintro⟨h1,G⟩;refine⟨E,λp u w hu hw=>?_⟩;split
  .rename_i e;subst e;rw[u5,hw]at h1;exact h1
  .exact G p u w hu hw
end
section
variable{w:x5}{eM:x4}{k:Int}{co:Λ}{s:ak}
theorem RI{j pos:Int}(h:jJ w eM k co s)(Z:bd k co s)(ak:b3 s):al v8 JK [eM,Δ j,Δ pos,Δ v] w λr I=>Ext w I/\∃u,r= .tuple #[Δ u,.bool (dk s j pos v).isSome]:=by
 have aJ:=Z.d6;refine aB func208 ?_;refine bp λg1 U aK H an=>?_;have ab:=h.box H an;obtain⟨lc,aM,aN,aO,aP,aQ,J,aR,_,ao,aT,aV,ad,aW⟩:=id ab;refine aZ (λr aa=>Ext U aa/\((r= .bool v2/\dk s j pos v=ν)\/(r= .bool v6/\∃f u,0<=j/\0<=pos/\s.d9[j.toNat]?=σ f/\f.live≠0/\f.sc[pos.toNat]?=σ u))) ?_ λax E=>?_
 .rintro _ aa ⟨A,⟨rfl,z⟩|⟨rfl,f,u,K,ae,e,af,hu⟩⟩
  .rw[bQ,z];exact⟨H.F A,0,rfl⟩
  .rw[a6];have ag:=x7 e;have L:=x7 hu;obtain⟨ah,aX,_⟩:=Z.d9 f ag;have M:=(ah.scope.1 u L).1;have aY:=ah.d6 u L;have M:=M;obtain⟨x,N⟩:=aD (l:=s.d6) (i:=u.toNat) Ω;rw[aL aI.p 6 (J.W A) rfl];refine kT (i:=j.toNat) Ω du.u c0.i (bu ad A) (by rw[u4,e];rfl) λb o cs O Q=>?_;obtain⟨ap,au,v3,rfl,h1,av,aw⟩:=om Q;rw[aU c0.p rfl,aU a7.p rfl,aE Ψ (O 0 _ rfl),fM (y:=pos) (i:=pos.toNat) Ω aq.u ai.i Ψ (en h1) hu,aL aI.p 3 (J.W A) rfl];refine jX (i:=u.toNat) rfl Ω ci.u aq.i Ψ (bu ao A) (by rw[u4,N];rfl) λa2 ay=>?_;refine(uS (en ay)).Y ?_;rintro _ a8 _ ⟨rfl,az⟩;refine⟨(H.F A).F az,u,?_⟩;have aA:=ak f ag af u L x N;have ac:dk s j pos v=(dw s u v).map λx=>(f,u,x):=by
    unfold dk;rw[ms ⟨K,ae⟩,e];simp only;rw[ms af,hu]
   have aF:dw s u v=if v∈aC x then σ x else ν:=by
    unfold dw;rw[ms M,N];simp only[aA,true_and]
   rw[ac,aF];by_cases G:v∈aC x
   .rw[ms G,rs G];rfl
   .rw[rc G,s2 G];rfl
 have R:∀{P:Prop},(¬∃f u,0<=j/\0<=pos/\s.d9[j.toNat]?=σ f/\f.live≠0/\f.sc[pos.toNat]?=σ u)->(dk s j pos v=ν->P)->P:=λz aG=>aG (by
  cases ac:dk s j pos v with
  |none=>rfl
  |some q=>
   obtain⟨f,u,x⟩:=q;obtain⟨S,V,a3,a4,a5,_⟩:=mH ac;exact ro ⟨f,u,S,V,a3,a4,a5⟩ z)
 refine ab.load λu hu=>?_;refine(QW hu).Y ?_;rintro _ ba _ ⟨rfl,B⟩;have same:∀{f W:cr},s.d9[j.toNat]?=σ f->s.d9[j.toNat]?=σ W->W=f:=λa b=>by rw[a]at b;exact(Z4 b).symm
 rw[bM,b4];refine⟨λX=>R (λ⟨f,u,S,V,a3,a4,a5⟩=>?_) λz=>E _ _ ⟨B,.inl ⟨rfl,z⟩⟩,λY=>?_⟩
 .unfold ft at X;rw[a3]at X;simp[S,a4]at X
 have Y:0<=j/\ft s j.toNat=v2:=by simpa using Y
 obtain⟨K,C⟩:=Y;obtain⟨f,e,aH⟩:∃f,s.d9[j.toNat]?=σ f/\f.live≠0:=by
  unfold ft at C;cases e:s.d9[j.toNat]? with
  |none=>rw[e]at C;cases C
  |some f=>rw[e]at C;exact⟨f,rfl,by simpa using C⟩
 rw[aS,am];refine⟨λbb=>R (λ⟨_,_,_,V,_⟩=>Ω) λz=>E _ _ ⟨B,.inl ⟨rfl,z⟩⟩,λae=>?_⟩;rw[aL aI.p 6 (J.W B) rfl];refine kT (i:=j.toNat) Ω du.u c0.i (bu ad B) (by rw[u4,e];rfl) λb o cs O Q=>?_;obtain⟨ap,au,v3,rfl,h1,av,aw⟩:=om Q;rw[aU c0.p rfl,aU a7.p rfl,aE Ψ (O 0 _ rfl),a1 aq.u (en h1),cP];by_cases aj:(f.sc.length:Int)<=pos
 .refine R (λ⟨W,u,_,_,a3,_,a5⟩=>?_) λz=>E _ _ ⟨B,.inl ⟨by rw[rs aj],z⟩⟩;obtain rfl:=same e a3;have:=(x6.1 a5).1;omega
 .obtain⟨u,hu⟩:=aD (l:=f.sc) (i:=pos.toNat) Ω;exact E _ _ ⟨B,.inr ⟨by rw[s2 aj],f,u,K,Ω,e,aH,hu⟩⟩
theorem FO{f:cr}(h:jJ w eM k co s)(K:bd k co s)(af:s.d9[j]?=σ f)(aK:pos<f.sc.length)(aM:∀u,f.sc[pos]?=σ u->v∈bb s u):
  al v8 IX [eM,Δ (j:Int),Δ (pos:Int),Δ v] w λr I=>Ext w I/\aN .i64 I r (mJ s f pos v)/\∀q,lw r q->w.heap.size<=q:=by
 have bx:=K.d6;have S:=x7 af;obtain⟨L,ag,_⟩:=K.d9 f S;have M:=(ld K S).1;have aO:f.aj.length=f.sc.length:=by rw[ag];simp[bN]
 have bz:=ks M;have bA:(bo f.aj).length<=4096:=by
  have N:=L.small;rw[<-ag]at N;omega
 refine aB func142 ?_;refine bp λg1 U bB V aQ=>?_;obtain⟨lc,bD,bE,bH,bI,bJ,ah,bK,_,aR,bL,bM,aS,bO⟩:=h.box V aQ;rw[aL aI.p 6 ah rfl];refine kT (i:=j) rfl du.u c0.i aS (by rw[u4,af];rfl) λb o cs E aV=>?_;obtain⟨W,X,v3,rfl,h1,N,aW⟩:=om aV;rw[aU c0.p rfl,bC (cs:=[W,X,v3]) a7.p a7.i rfl (λq u a=>by
  have:q<3:=(x6.1 a).1
  match q,this,a with
  |0,_,a=>cases a;exact E 0 _ rfl
  |1,_,a=>cases a;exact E 1 _ rfl
  |2,_,a=>cases a;exact E 2 _ rfl)]
 refine bF a7.i λbP aa bQ aX aY=>?_;have a2:∀u∈[W,X,v3],u.oneCell'=v2:=λu hu=>by
  simp only[V7,List.not_mem_nil,or_false]at hu;rcases hu with rfl|rfl|rfl
  .exact iX h1
  .exact iX N
  .exact iX aW
 refine b6 (vs:=[W,X,v3]) a7.i rfl rfl a2 aY λbR a6 bS ak=>?_;have am:=aX.put a6 Ω;have s1:=en h1;have a8:=en N;rw[aL a7.p 1 ak rfl];refine(wR f.aj (a8.W am) ⟨by rw[aO];exact L.scope.2,M⟩).Y ?_;rintro bT O _ ⟨an,ao⟩;have Y:=am.F an;rw[gR ci.u ao];refine ch.range (bo f.aj).length (λi out C=>Ext O C/\(∃g,aA .i64 ai C g out ((((bo f.aj).take i).filter (lU s f.sc pos v)).map (pG f.aj)))/\∀r,lw out r->O.heap.size<=r) Ω ⟨Ext.refl _,⟨0,aA.nil _ _ _ _⟩,λr E=>by obtain⟨_,_,_,e,_⟩:=E;cases e⟩ ?_ ?_
 .rintro q out C ba a ⟨z,⟨g,hm⟩,P⟩ bc;have G:(bo f.aj)[q]?=σ (dn f.aj (q:Int)):=rq M Ω;generalize dn f.aj (q:Int)=tl at G;have bU:=Bk G;have be:=kw M G;have bf:pG f.aj tl=(q:Int):=by unfold pG;rw[be];rfl
  have Q:=Y.F z;have ap:((bo f.aj).take (q+1)).filter (lU s f.sc pos v)=((bo f.aj).take q).filter (lU s f.sc pos v)++(if lU s f.sc pos v tl=v2 then[tl]else[]):=by
   rw[r9,G,j6,List.filter_append];congr 1;cases au:lU s f.sc pos v tl<;>simp[au]
  obtain⟨Z,av⟩:=aD (l:=tl) (i:=pos) Ω;refine bG Ω ?_;refine aZ (λaw ay=>Ext O ay/\(∃g,aA .i64 ai ay g aw ((((bo f.aj).take (q+1)).filter (lU s f.sc pos v)).map (pG f.aj)))/\∀r,lw aw r->O.heap.size<=r) (λ_ _ ab=>by rw[aP];exact bc _ _ ab) λax H=>?_;refine jX rfl rfl ci.u aq.i Ψ (bu ao z) G λaT R=>?_;have R:=en R;rw[bk aq.u ai.i Ψ R av,bm,aL a7.p 0 (ak.W (an.F z)) rfl,a1 aq.u (s1.W Q)];refine ch.range f.sc.length (λp ok ad=>Ext C ad/\ok= .bool (decide (Z=v)&&mI s (f.sc.take p) (tl.take p))) s1.le ⟨Ext.refl _,by simp[mI]⟩ ?_ ?_
  .rintro p _ ad bg ac ⟨A,rfl⟩ bh;obtain⟨u,ae⟩:=aD (l:=f.sc) ac;obtain⟨y,az⟩:=aD (l:=tl) (i:=p) Ω;have aE:=x7 ae;have aF:=(L.scope.1 u aE).1;have aG:=L.d6 u aE;have aG:=aG;have aF:=aF;obtain⟨x,aH⟩:=aD (l:=s.d6) (i:=u.toNat) Ω;have aJ:mI s (f.sc.take (p+1)) (tl.take (p+1))=(mI s (f.sc.take p) (tl.take p)&&decide (y∈aC x)):=by
    unfold mI;rw[r9,r9,ae,az,j6,j6,List.zip_append Θ,List.all_append];simp[aH]
   refine bG Ω ?_;refine aZ (λok bi=>Ext C bi/\ok= .bool (decide (Z=v)&&mI s (f.sc.take (p+1)) (tl.take (p+1)))) (λ_ _ ab=>by rw[aP];exact bh _ _ ab) λax H=>?_;rw[bk aq.u ai.i Ψ (s1.W (Q.F A)) ae];intro bV bj _ _;have J:=A.F bj;rw[b4];refine⟨λB=>?_,λB=>H _ _ ⟨J,by rw[aJ,<-Bool.and_assoc,B];rfl⟩⟩;rw[aL aI.p 3 (ah.W (Q.F J)) rfl];refine jX (i:=u.toNat) rfl Ω ci.u aq.i Ψ (bu aR (Q.F J)) (by rw[u4,aH];rfl) λbW bl=>?_;rw[bk aq.u ai.i Ψ (R.W J) az];refine(uS (en bl)).Y ?_;rintro _ bX _ ⟨rfl,bn⟩;exact H _ _ ⟨J.F bn,by rw[aJ,<-Bool.and_assoc,B,Q4]⟩
  .rintro _ ad bg ⟨A,rfl⟩;rw[j4,Z0 Ω];refine cd Ω ?_;have bq:(decide (Z=v)&&mI s f.sc tl)=lU s f.sc pos v tl:=by unfold lU;rw[u5,av];rfl
   rw[bq,b4];refine⟨λB=>?_,λB=>H _ _ ⟨z.F A,⟨g,by rw[ap,rc (by rw[B];decide),U2];exact hm.W A⟩,P⟩⟩;refine FN (z.F A) (hm.W A) P ?_ λbY I br bs bt bw=>H _ _ ⟨bs,⟨br,?_⟩,bw⟩
   .rw[r8];have h1:=List.length_filter_le (lU s f.sc pos v) ((bo f.aj).take q);rw[o8]at h1;omega
   .rw[ap,ms B,Z3,List.map_singleton,bf];exact bt
 .rintro out C ba ⟨z,⟨g,hm⟩,P⟩;rw[j4,<-RH K S aK aM]at hm;refine cd Ω ?_;exact⟨(V.F Y).F z,hm.ls,λq a=>by have:=P q a;have:=(V.F Y).size;omega⟩
theorem RJ{j pos:Int}(h:jJ w eM k co s)(e:bd k co s)(R:b3 s):
  al v8 IV [eM,Δ j,Δ pos,Δ v] w λr I=>Ext w I/\r=(match dk s j pos v with|some (f,_,_)=>.tuple #[Δ (ee k s f pos.toNat v),.bool v2]|none=>.tuple #[Δ 0,.bool v6]):=by
 refine aB func140 ?_;refine bp λg1 U az z S=>?_;have H:=h.box z S;refine H.load λu hu=>?_;refine(RI hu e R).Y ?_;rintro _ aa _ ⟨A,e3,rfl⟩;rw[bx,bz,bM];cases ac:dk s j pos v with
 |none=>
  rw[Q1,W6,bQ];exact⟨z.F A,rfl⟩
 |some q=>
 obtain⟨f,u',x⟩:=q;rw[R2,X3,a6];obtain⟨V,W,y,aA,B,X⟩:=mH ac;obtain⟨aC,Y,aF,Z⟩:=jK X;obtain⟨j,rfl⟩:=V9 V;obtain⟨pos,rfl⟩:=V9 W;rw[u9]at y B;have J:=x7 y;have ab:=(x6.1 B).1;have K:∀u,f.sc[pos]?=σ u->v∈bb s u:=λu hu=>by
  rw[B]at hu;cases hu;unfold bb;rw[Y];exact Z
 have L:=H.W A;obtain⟨lc,aG,aH,aJ,aK,aM,M,aN,_,aO,aQ,aR,ad,aS⟩:=id L;rw[aL aI.p 0 M rfl];refine L.load λaV ae=>?_;refine(FO ae e y ab K).Y ?_;rintro aT af _ ⟨N,C,_⟩;rw[a1 aq.u C];have O:(mJ s f pos v).length=(ck s f.sc pos v).length:=by unfold mJ;rw[r8]
 rw[O];refine ch.range (ck s f.sc pos v).length (λi ag E=>Ext af E/\ag=Δ ((((ck s f.sc pos v).take i).map (br f.aj f.cs)).foldl min k)) (by rw[<-O];exact C.le) ⟨Ext.refl _,rfl⟩ ?_ ?_
 .rintro i _ E ah hi ⟨a,rfl⟩ ak;obtain⟨tl,G⟩:=aD (l:=ck s f.sc pos v) hi;obtain⟨m,hm⟩:=su e J K (x7 G);have am:(mJ s f pos v)[i]?=σ (m:Int):=by
   unfold mJ;rw[u4,G];unfold pG;rw[Y3,hm];rfl
  obtain⟨an,aW⟩:=ld e J;have aX:=(x6.1 (nX an hm)).1;obtain⟨c,P⟩:=aD (l:=f.cs) (i:=m) Ω;have ao:br f.aj f.cs tl=c:=by
   unfold br;rw[hm];simp[u5,P]
  have Q:=N.F a;refine bG Ω ?_;rw[bk aq.u ai.i Ψ (C.W a) am,aL aI.p 6 (M.W Q) rfl];refine kT (i:=j) rfl du.u c0.i (bu ad Q) (by rw[u4,y];rfl) λb o cs ap au=>?_;obtain⟨aY,aZ,v3,rfl,h1,a2,ax⟩:=om au;rw[aU c0.p rfl,aU a7.p rfl,aE Ψ (ap 2 _ rfl),bk aw.u av.i Ψ (en ax) P];refine EI.Y ?_;rintro _ a8 _ ⟨rfl,ay⟩;rw[aP];refine ak _ _ ⟨a.F ay,?_⟩;rw[r9,G,j6,Z3,S3,List.map_singleton,ao];rfl
 .rintro _ E ah ⟨a,rfl⟩;rw[j4];refine cd Ω ?_;exact⟨(z.F A).F (N.F a),rfl⟩
theorem vd{a b k:Int}(h1:0<=a/\a<=4294967296)(f:0<=b/\b<=4294967296):al v8 IY [Δ a,Δ b,Δ k] w λr I=>r=Δ (cX k a b)/\Ext w I:=by
 refine aB func143 ?_;refine(show al v8 JN [Δ a,Δ b,Δ k] w λr I=>(∃q,r= .tuple #[Δ (cX k a b),q])/\Ext w I from ?_).Y ?_
 .refine aB func211 ?_;unfold cX;rw[bm,am];refine⟨λh=>⟨⟨_,by rw[ms h]⟩,Ext.refl _⟩,λh=>?_⟩;rw[dx,m1 Ω Ω,lA,rc h];exact⟨⟨_,rfl⟩,Ext.refl _⟩
 .rintro _ U _ ⟨⟨q,rfl⟩,e⟩;rw[bx,bz];exact⟨rfl,e⟩
end
def cu(w:x5)(ad ae ao:Nat)(A R:ah)(A9:Nat->ah)(aG:ah)(n:aH)(s:ak)(t:az)(h:List az)(u:ak)(I:x5):Prop:=af (λr=>(∃q,A9 q r)\/r=ao) w I/\∃cw cs,cb I ad ae ao A R cw aG n s u t h cs/\∀q r,cw q r->(∃a,A9 a r)\/w.heap.size<=r
section
variable{w I U aa:x5}{ad ae ao:Nat}{A R:ah}{A9:Nat->ah}{aG:ah}{n:aH}{s u eW e3:ak}{t:az}{h:List az}{cs:List x4}
theorem cu.same(p:cb w ad ae ao A R A9 aG n s u t h cs)(a:Ext w I):cu w ad ae ao A R A9 aG n s t h u I:=⟨a.V _,A9,cs,p.W a,λq r h=>.inl ⟨q,h⟩⟩
theorem cu.comp{cw:Nat->ah}(e:af (λr=>(∃q,A9 q r)\/r=ao) w U)(f:∀q r,cw q r->(∃a,A9 a r)\/w.heap.size<=r)(d:cu U ad ae ao A R cw aG n s t h e3 aa):cu w ad ae ao A R A9 aG n s t h e3 aa:=by
 obtain⟨p,x,bD,y,B⟩:=d;have z:=e.size;refine⟨?_,x,bD,y,λq r j=>(B q r j).elim (λ⟨a,h⟩=>f a r h) λh=>.inr Ω⟩;refine((e.Y λr _ h=>.inl h).F (p.Y λr _ h=>?_):af (λr=>((∃q,A9 q r)\/r=ao)\/w.heap.size<=r) w aa).Y λr j h=>h.elim id λh=>Ω
 rcases h with⟨q,h⟩|h
 .exact (f q r h).imp .inl id
 .exact .inl (.inr h)
def kE(w:x5)(ad ae ao:Nat)(A R:ah)(A9:Nat->ah)(aG:ah)(n:aH)(s:ak)(t:az)(h:List az)(u:ak)(I:x5):Prop:=af (A9 2) w I/\∃cw cs,cb I ad ae ao A R cw aG n s u t h cs/\(∀q r,cw q r->(∃a,A9 a r)\/w.heap.size<=r)/\∀r,cw 2 r->A9 2 r\/w.heap.size<=r
theorem kE.yO(d:kE w ad ae ao A R A9 aG n s t h u I):cu w ad ae ao A R A9 aG n s t h u I:=by
 obtain⟨h1,cw,cs,a,e,_⟩:=d;exact⟨h1.Y λr _ h=>.inl ⟨2,h⟩,cw,cs,a,e⟩
theorem kE.same(p:cb w ad ae ao A R A9 aG n s u t h cs)(a:Ext w I):kE w ad ae ao A R A9 aG n s t h u I:=⟨a.V _,A9,cs,p.W a,λq r h=>.inl ⟨q,h⟩,λr h=>.inl h⟩
theorem kE.comp{cw:Nat->ah}(f:af (A9 2) w U)(p:∀q r,cw q r->(∃e,A9 e r)\/w.heap.size<=r)(j:∀r,cw 2 r->A9 2 r\/w.heap.size<=r)(d:kE U ad ae ao A R cw aG n s t h e3 aa):kE w ad ae ao A R A9 aG n s t h e3 aa:=by
 obtain⟨x,y,bD,B,C,E⟩:=d;have z:=f.size;refine⟨?_,y,bD,B,λq r a=>(C q r a).elim (λ⟨e,h⟩=>p e r h) λh=>.inr Ω,λr a=>(E r a).elim (j r) λh=>.inr Ω⟩;exact((f.Y λr _ h=>.inl h).F (x.Y λr _ h=>j r h):af (λr=>A9 2 r\/w.heap.size<=r) w aa).Y λr a h=>h.elim id λh=>Ω
theorem cb.RK{T:ah}{v:x4}{u':ak}(p:cb w ad ae ao A R A9 aG n s u t h cs)(z:∀q r,A9 q r->r<w.heap.size)(C:cs[5]?=σ v)(e:af T w I)(f:∀r,r<w.heap.size->T r->A9 2 r)(E:bq (λr=>A9 2 r\/w.heap.size<=r) aG I [v] (u'.d6.map (·.un)))(F:u'.zero=u.zero)(G:u'.d6.map aC=u.d6.map aC)(H:(u'.d6.map λx=>decide (x.gone≠0))=u.d6.map λx=>decide (x.gone≠0))(J:u'.d9=u.d9)(K:u'.eC=u.eC):
  ∃cw,cb I ad ae ao A R cw aG n s u' t h cs/\(∀q r,cw q r->(∃L,A9 L r)\/w.heap.size<=r)/\∀r,cw 2 r->A9 2 r\/w.heap.size<=r:=by
 have M:=bB.k9 p.doc (yy e) (λr a=>.inl (f r a.2 a.1)) E (λj r N a=>?_) (λr a=>?_)
 .have y:=yz (w:=w) (B:=λr=>A9 2 r\/w.heap.size<=r) λr h=>h;refine⟨_,p.row e f ?_ y,y,λr a=>a⟩;have:=bB.rr C M;unfold ia;rw[F,G,H,J,K];exact this
 .rcases a with a|a
  .exact p.gQ.1 2 j r (R7 N) a
  .exact λh=>by have:=z j r h;omega
 .rcases a with a|a
  .exact p.gQ.2 2 r a
  .exact λh=>by have:=(p.read r h).2.1;omega
theorem sx(p:cb w ad ae ao A R A9 aG n s u t h cs){i:Nat}{x:bn}(B:u.d6[i]?=σ x):∃g cap y,cs[5]?=σ (.slice (σ ⟨g,0,ν⟩) u.d6.length cap)/\w.cell? ⟨g,i,ν⟩=σ y/\aN .i64 w y x.un/\
  ∀{I:x5}{v:Nat}{c:Int}{K:Unit->x5->Prop},Ext w I->v<x.un.length->(∀H,kE w ad ae ao A R A9 aG n s t h (eH u i x (x.un.set v c)) H->K () H)->
   ab v8 (c9 aw y (Δ (v:Int))) I λa=>aF v8 (l9 av a (Δ c)) I K:=by
 have J:=p.olds;obtain⟨lc,ak,al,am,ap,aq,L,_,_,_,M,_,_,C⟩:=id J.doc;obtain⟨g,cap,c,au,e,S,N,ax,_⟩:=uZ M (by rw[u4,B];rfl) λr _ h=>(C rfl).2 2 r h;obtain⟨y,rfl⟩:=V4.1 (an.len N);have O:w.cell? ⟨g,i,ν⟩=σ y:=by
  have:=S 0 y rfl;simpa[show an.n (Λ)=1 from rfl]using this
 rw[r8]at e;refine⟨g,cap,y,by rw[L,<-e];rfl,O,en (js N),λ{I v c K}j U W=>?_⟩;have X:=J.W j;have z:=j.size;obtain⟨ay,az,aA,aB,P,Y,Q,E,Z⟩:=uZ (bu M j) (by rw[u4,B];rfl) λr _ h=>(C rfl).2 2 r h;obtain⟨F,rfl⟩:=V4.1 (an.len Q);rw[r8,e]at P;cases P;have aa:F=y:=by
  have h1:=Y 0 F rfl;have h1:I.cell? ⟨g,i,ν⟩=σ F:=by simpa[show an.n (Λ)=1 from rfl]using h1
  rw[jU j O]at h1;exact(Z4 h1).symm
 subst aa;refine Fr rfl rfl aw.u av.i Q U rfl rfl (λr _ f=>⟨λh=>h,(C rfl).2 2 r (E r f)⟩) λaD G ac=>?_;have af:=Z G (λr _ h=>h) ac λr f=>f.elim .inl False.elim;obtain⟨cw,ag,ah,ai⟩:=X.RK (u':=eH u i x (x.un.set v c)) (λq r h=>by have:=h.2;omega) (by rw[L];rfl) G (λr _ h=>E r h) (by show bq _ _ _ _ ((u.d6.set i {x with un:=x.un.set v c}).map (·.un));rw[T2];exact af) rfl (qJ B (by unfold aC;simp)) (qJ B rfl) rfl rfl;refine W _ ⟨(j.V _).F (G.Y λr _ h=>(E r h).1),cw,cs,ag,λq r f=>?_,λr f=>?_⟩
 .rcases ah q r f with⟨aj,h⟩|h
  .exact .inl ⟨aj,h.1⟩
  .exact .inr Ω
 .exact (ai r f).imp (λh=>h.1) λh=>Ω
theorem FP(p:cb w ad ae ao A R A9 aG n s u t h cs){f:cr}(N:u.d9[j]?=σ f):∃g cap C L y,cs[6]?=σ (.slice (σ ⟨g,0,ν⟩) u.d9.length cap)/\w.rangeAt g (j*4) [C,L,y,.bool (decide (f.live≠0))]/\aN .i64 w C f.sc/\aN .i64 w y f.cs/\
  ∀{I:x5}{m:Nat}{c:Int}{K:Unit->x5->Prop},Ext w I->m<f.cs.length->(∀O,cu w ad ae ao A R A9 aG n s t h (ea u j f (f.cs.set m c)) O->K () O)->
   ab v8 (c9 aw y (Δ (m:Int))) I λa=>aF v8 (l9 av a (Δ c)) I K:=by
 have P:=p.olds;obtain⟨lc,ay,az,aA,aB,aC,Q,_,_,_,_,S,_,E⟩:=id P.doc;obtain⟨g,cap,c,aD,e,F,X,aE,_⟩:=uZ S (by rw[u4,N];rfl) λr _ h=>(E rfl).2 3 r h;have Y:=om X;obtain⟨C,L,y,rfl,Z,aH,aa⟩:=Y;rw[r8]at e;have F:=F;refine⟨g,cap,C,L,y,by rw[Q,<-e];rfl,F,en Z,en aa,λ{I m c K}x hm ac=>?_⟩;have af:=P.W x;have z:=x.size;obtain⟨aI,aJ,aK,aL,U,M,ag,G,ah⟩:=uZ (bu S x) (by rw[u4,N];rfl) λr _ h=>(E rfl).2 3 r h;rw[r8,e]at U;cases U;obtain⟨aM,aO,W,aP,rfl,ai,H,aj⟩:=Rf ag λr h=>(E rfl).2 3 r (G r h);have M:=M;have ak:W=y:=by
  have h1:=M 2 W rfl;rw[(oR x F) 2 y rfl]at h1;exact(Z4 h1).symm
 subst ak;refine Fr rfl rfl aw.u av.i ai hm rfl rfl (λr _ B=>⟨λh=>h,(E rfl).2 3 r (G r (H r B))⟩) λaQ J al=>?_;have am:=aj J (an.Y al (λr _ h=>h.elim id False.elim) λ_ _ h=>h);have ap:=ah J (λr _ h=>H r h) am λr B=>.inl B;obtain⟨cw,aq,au⟩:=af.Rc (u':=ea u j f (f.cs.set m c)) (λq r h=>by have:=h.2;omega) (by rw[Q];rfl) J (λr _ h=>G r (H r h)) (by show bq _ _ _ _ ((u.d9.set j {f with cs:=f.cs.set m c}).map jI);rw[T2];exact ap) rfl rfl rfl;refine ac _ ⟨(x.V _).F (J.Y λr _ h=>.inl ⟨3,(G r (H r h)).1⟩),cw,cs,aq,λq r B=>?_⟩;rcases au q r B with⟨ax,h⟩|h
 .exact .inl ⟨ax,h.1⟩
 .exact .inr Ω
theorem FQ(p:cb w ad ae ao A R A9 aG n s u t h cs){K:Unit->x5->Prop}(f:∀e,cu w ad ae ao A R A9 aG n s t h {u with zero:=c} e->K () e):aF v8 (l9 av (.pointer (σ ⟨ao,0+2,ν⟩)) (Δ c)) w K:=by
 refine bt (o:=0+2) av.i rfl rfl p.box (by rw[p.doc.len.1];omega) λaa a x j=>?_;refine f _ ⟨a.Y λr _ h=>.inr h,A9,_,p.Ft a (λr _ h=>.inr h) j ?_ λq r h=>.inl ⟨q,h⟩,λq r h=>.inl ⟨q,h⟩⟩;exact(bB.V p.doc a λr _ h he=>h.elim (λ⟨q,h⟩=>(p.apart q r h).2.2 he) λh=>(p.read r h).2.2 he).QL
theorem FR(p:cb w ad ae ao A R A9 aG n s u t h cs){i:Nat}{x:bn}(B:u.d6[i]?=σ x):∃g cap y,cs[3]?=σ (.slice (σ ⟨g,0,ν⟩) u.d6.length cap)/\w.cell? ⟨g,i,ν⟩=σ y/\aN .i64 w y (aC x)/\(∀r,lw y r->A9 0 r)/\
  ∀{I:x5}{m:Int}{z:x4}{gz:Nat}{K:Unit->x5->Prop},Ext w I->aA .i64 ai I gz z (aC {x with mask:=m})->(∀r,lw z r->w.heap.size<=r)->(∀J,cu w ad ae ao A R A9 aG n s t h {u with d6:=u.d6.set i {x with mask:=m}} J->K () J)->
   ab v8 (c9 ci (.slice (σ ⟨g,0,ν⟩) u.d6.length cap) (Δ (i:Int))) I λa=>aF v8 (l9 aq a z) I K:=by
 have L:=p.olds;have Y:=(x6.1 B).1;obtain⟨lc,Z,aE,aH,aI,aJ,M,_,aa,_,_,_,_,ac⟩:=id L.doc;obtain⟨g,cap,full,ah,c,aK,e,C,aj,E,N,F,ak,aL,al⟩:=Fu aa (by rw[u4,B];rfl) λr _ h=>(ac rfl).2 0 r h;obtain⟨y,rfl⟩:=V4.1 (an.len F);rw[r8]at e;have am:full[i]?=σ y:=by have:=N 0 y rfl;simpa[show an.n (Λ)=1 from rfl]using this
 refine⟨g,cap,y,by rw[M,<-e];rfl,by have:=C.cell am;exact this,en (js F),λr f=>?_,λ{I m O gz K}G P Q ap=>?_⟩
 .obtain⟨aM,aO,au,av⟩:=Bf F;rcases av with rfl|aw
  .obtain⟨_,_,_,e,_⟩:=f;cases e
  .obtain⟨e,_⟩:=bZ au f;rw[e];exact(ak _ aw).1
 have z:=G.size;have E:i*1+1<=full.length:=E;rw[eS ci.u aq.i Y λ_=>rfl];obtain⟨_,_,_,S⟩:=dj P.ls;refine bt (o:=0+i*1) aq.i (by rw[S];rfl) (by rw[S];rfl) (C.W G) Ω λU W aP j=>?_;have j:ag U g ah (over full (i*1) [O]):=by
  have e:=Fv (o:=i*1) (q:=0) (x:=O) N E Ξ;rw[X6]at j;rw[Nat.add_zero]at e;rw[e]at j;exact j
 have aQ:g<w.heap.size:=C.lt;have H:af (λr=>r=g) w U:=(G.V _).F W;have ax:=bA P W λr f he=>by have he:r=g:=he;have:=Q r f;omega
 have ay:=al H (λr _ h=>.inr h) j (ol ax) λr f=>.inr (Q r f);have X:∀r,r<w.heap.size->r=g->A9 0 r/\r<w.heap.size:=λr f h=>by rw[h];exact aj
 obtain⟨cw,az,aB⟩:=L.pF (u':={u with d6:=u.d6.set i {x with mask:=m}}) (λq r h=>h.2) (v:=Z) (by rw[M];rfl) H X (by show bq _ _ _ _ ((u.d6.set i {x with mask:=m}).map aC);rw[T2];exact ay) rfl (qJ B rfl) (qJ B rfl) rfl rfl;refine ap _ ⟨H.Y λr f h=>.inl ⟨0,(X r f h).1⟩,cw,cs,az,λq r f=>?_⟩;rcases aB q r f with⟨aD,h⟩|h
 .exact .inl ⟨aD,h.1⟩
 .exact .inr h
end
def fX(s:ak)(sc:Λ)(pos:Int)(v:Int):Nat->Nat->Λ->List (Λ)
 |0,_,tl=>[tl]
 |m+1,p,tl=>if(p:Int)=pos then fX s sc pos v m (p+1) (tl.set p v)else(bb s (sc.getD p 0)).flatMap λx=>fX s sc pos v m (p+1) (tl.set p x)
theorem ve{α:Type}{l:List α}{p:Nat}{x:α}(h:p<l.length):(l.set p x).take (p+1)=l.take p++[x]:=by
 rw[r9,n9 h,List.take_set_of_le (o4 _)];rfl
theorem sy{s:ak}{sc:Λ}{pos:Nat}{v:Int}:∀(m p:Nat)(tl:Λ),sc.length=p+m->tl.length=sc.length->fX s sc pos v m p tl=(ip (ji s pos v (sc.drop p) p)).map (tl.take p++ ·)
 |0,p,tl,h1,a=>by
  rw[List.drop_eq_nil_of_le Ω,Z0 Ω];unfold fX ji ip;rw[List.map_singleton,U2]
 |m+1,p,tl,h1,a=>by
  have ac:p<sc.length:=Ω
  obtain⟨u,hu⟩:=aD (l:=sc) ac;have f:sc.drop p=u::sc.drop (p+1):=by rw[W3 ac,(x6.1 hu).2]
  have h:sc.getD p 0=u:=by rw[u5,hu];rfl
  rw[f];unfold fX ji;rw[ip];by_cases e:p=pos
  .rw[ms Ω,ms e,List.flatMap_singleton,sy m (p+1) (tl.set p v) Ω (by rw[o7];exact a),S6,ve Ω];refine List.map_congr_left λr _=>?_;simp
  .rw[rc Ω,rc e,h,List.map_flatMap];congr 1;funext x;rw[sy m (p+1) (tl.set p x) Ω (by rw[o7];exact a),S6,ve Ω];refine List.map_congr_left λr _=>?_;simp
theorem RL{s:ak}{m p:Nat}(h1:sc.length=p+m)(e:tl.length=sc.length)(f:a.length=sc.length)(h:a.take p=tl.take p):fX s sc pos v m p a=fX s sc pos v m p tl:=by
 rw[sy m p tl h1 e,sy m p a h1 f,h]
theorem RM{s:ak}(h:tl.length=sc.length):fX s sc pos v sc.length 0 tl=ck s sc pos v:=by
 rw[sy sc.length 0 tl Ω h];unfold ck;simp
def ou(w:x5)(ad gs bS a8 bc:Nat)(aV:x4)(pos v:Int):Prop:=ag w gs eL [Γ ad]/\ag w bS aq [aV]/\ag w a8 ai [Δ pos]/\ag w bc ai [Δ v]
theorem ou.V{S:ah}{ad gs bS a8 bc:Nat}{aV:x4}{pos:Int}(h:ou w ad gs bS a8 bc aV pos v)(a:af S w I)(e:¬S gs/\¬S bS/\¬S a8/\¬S bc):ou I ad gs bS a8 bc aV pos v:=
 ⟨h.1.V a e.1,h.2.1.V a e.2.1,h.2.2.1.V a e.2.2.1,h.2.2.2.V a e.2.2.2⟩
theorem ou.W{ad gs bS a8 bc:Nat}{aV:x4}{pos:Int}(h:ou w ad gs bS a8 bc aV pos v)(a:Ext w I):ou I ad gs bS a8 bc aV pos v:=h.V (a.V λ_=>False) ⟨id,id,id,id⟩
def gw(ad ae:Nat)(R:ah)(n:aH)(s:ak)(gs bS a8 bc:Nat)(aV:x4)(sc:Λ)(pos v:Int)(B0:Nat)(D:Nat->Prop)(w:x5):Prop:=
 ou w ad gs bS a8 bc aV pos v/\(gs<B0/\bS<B0/\a8<B0/\bc<B0)/\aN .i64 w aV sc/\(∀r,lw aV r->r<B0)/\(Laid w/\B0<=w.heap.size)/\∃A s' bs,bE w ad ae A R n s' bs/\(∀i,bb s' i=bb s i)/\∀r,A r\/R r->r<B0\/D r
section
variable{ad ae gs bS a8 bc B0:Nat}{R:ah}{n:aH}{s:ak}{aV:x4}{sc:Λ}{pos v:Int}
theorem gw.W(h:gw ad ae R n s gs bS a8 bc aV sc pos v B0 D w)(a:Ext w I):gw ad ae R n s gs bS a8 bc aV sc pos v B0 D I:=by
 obtain⟨h1,f,j,p,e,A,s',bs,q,r,x⟩:=h;exact⟨h1.W a,f,j.W a,p,⟨e.1.W a,X1 e.2 a.size⟩,A,s',bs,q.W a,r,x⟩
def lh(w:x5)(l gy gt gtb ga:Nat)(iu:Array x4)(q:Nat)(tl:Λ):Prop:=ag w gy AV [.func (.yield l) #[] #[]]/\ag w gtb aq [.slice (σ ⟨gt,0,ν⟩) q q]/\ag w ga p1 [.func (.func oN) #[] iu]/\
 aA .i64 ai w gt (.slice (σ ⟨gt,0,ν⟩) q q) tl
theorem lh.V{S:ah}{l q:Nat}{iu:Array x4}(h:lh w l gy gt gtb ga iu q tl)(f:af S w I)(j:¬S gy/\¬S gtb/\¬S ga/\¬S gt):lh I l gy gt gtb ga iu q tl:=
 ⟨h.1.V f j.1,h.2.1.V f j.2.1,h.2.2.1.V f j.2.2.1,bA h.2.2.2 f λr p=>by
  obtain⟨a,_,_,e,s⟩:=p;cases e;rw[<-s];exact j.2.2.2⟩
theorem lh.W{l q:Nat}{iu:Array x4}(h:lh w l gy gt gtb ga iu q tl)(a:Ext w I):lh I l gy gt gtb ga iu q tl:=h.V (a.V λ_=>False) ⟨id,id,id,id⟩
theorem RN(J:aN .i64 w aV sc):al v8 AM [Γ ad,aV,Δ pos,Δ v] w λr I=>Ext w I/\∃gs bS a8 bc,r= .func (.func m8) #[] #[Γ bS,Γ a8,Γ bc,Γ gs]/\ou I ad gs bS a8 bc aV pos v/\w.heap.size<=gs/\w.heap.size<=bS/\w.heap.size<=a8/\w.heap.size<=bc:=by
 obtain⟨_,_,_,x⟩:=dj J;refine aB func213 ?_;refine bp λgs U z q h=>?_;refine bp λbS aa A j a=>?_;refine bp λa8 B C e p=>?_;refine bp λbc s E f y=>?_;have h:ag s gs eL [Γ ad]:=((ag.W h j).W e).W f;have a:ag s bS aq [aV]:=by rw[x]at a ⊢;exact(ag.W a e).W f
 have p:=ag.W p f;rw[mb];have G:=q.size;have H:=j.size;have z3:=e.size;exact⟨((q.F j).F e).F f,gs,bS,a8,bc,rfl,⟨h,a,p,y⟩,Ω,Ω,Ω,Ω⟩
theorem gw.own{S:ah}(h:gw ad ae R n s gs bS a8 bc aV sc pos v B0 D w)(j:af S w I)(q:∀r,S r->B0<=r/\¬D r):gw ad ae R n s gs bS a8 bc aV sc pos v B0 D I:=by
 obtain⟨h1,f,C,x,y,A,s',bs,z,E,B⟩:=h;have no:∀{r:Nat},r<B0->¬S r:=λh1 f=>by have:=(q _ f).1;omega
 refine⟨h1.V j ⟨no f.1,no f.2.1,no f.2.2.1,no f.2.2.2⟩,f,i7 C j λr p a n c e F=>?_,x,⟨?_,X1 y.2 j.size⟩,A,s',bs,⟨z.1.V j λr _ p J=>?_,z.2⟩,E,B⟩
 .exact no (x r ⟨a,n,c,e,F⟩) p
 .exact iz j (no Ω) y.1
 .exact (B r p).elim (λh=>no h J) (q r J).2
def RO(P:(Nat->Prop)->x5->Prop)(ax:(Nat->Prop)->Nat->x5->Prop)(L:List (Λ))(l B:Nat):Prop:=∀(D:Nat->Prop)(k:Nat)tl aT I,(∀r,D r->B<=r/\r<I.heap.size)->B<=I.heap.size->P D I->L[k]?=σ tl->aN .i64 I aT tl->ax D k I->
 iR v8 l [aT] I λu a=>u= .bool v2/\(∃D',(∀r,D' r->D r\/I.heap.size<=r/\r<a.heap.size)/\(∀r,D r->D' r)/\P D' a/\ax D' (k+1) a)/\cO I a/\I.heap.size<=a.heap.size/\af (λr=>r<B\/D r) I a
def sz(D:Nat->Prop)(B gy gtb ga gt:Nat):Prop:=(B<=gy/\¬D gy)/\(B<=gtb/\¬D gtb)/\(B<=ga/\¬D ga)/\B<=gt/\¬D gt
theorem sz.go{D':Nat->Prop}{m bP:Nat}(h:sz D B gy gtb ga gt)(a:∀r,D' r->D r\/m<=r/\r<bP)(hm:gy<m/\gtb<m/\ga<m/\gt<m):sz D' B gy gtb ga gt:=
 have f:∀{g:Nat},g<m->¬D g->¬D' g:=λh1 e j=>(a _ j).elim e λh=>Ω
 ⟨⟨h.1.1,f hm.1 h.1.2⟩,⟨h.2.1.1,f hm.2.1 h.2.1.2⟩,⟨h.2.2.1.1,f hm.2.2.1 h.2.2.1.2⟩,h.2.2.2.1,f hm.2.2.2 h.2.2.2.2⟩
theorem lh.lt{l q:Nat}{iu:Array x4}(h:lh w l gy gt gtb ga iu q tl):gy<w.heap.size/\gtb<w.heap.size/\ga<w.heap.size/\gt<w.heap.size:=
 ⟨h.1.lt,h.2.1.lt,h.2.2.1.lt,(bZ h.2.2.2 ⟨_,_,_,rfl,rfl⟩).2⟩
def AtR(l gy gt gtb ga:Nat)(iu:Array x4)(P:(Nat->Prop)->x5->Prop)(ax:(Nat->Prop)->Nat->x5->Prop)(S:ah)(D:Nat->Prop)(w:x5)(sl k p:Nat)(tl:Λ)(I:x5):Prop:=
 w.heap.size<=I.heap.size/\∃D' a,a.length=sl/\a.take p=tl.take p/\lh I l gy gt gtb ga iu sl a/\((∀r,D' r->D r\/w.heap.size<=r/\r<I.heap.size)/\∀r,D r->D' r)/\P D' I/\ax D' k I/\af S w I
section
variable{l gy gt gtb ga B:Nat}{iu:Array x4}{P:(Nat->Prop)->x5->Prop}{ax:(Nat->Prop)->Nat->x5->Prop}{S T:ah}{D:Nat->Prop}{w U aa:x5}{sl k p:Nat}{tl:Λ}
theorem AtR.own(s:∀D T U aa,af T U aa->(∀r,T r->B<=r/\¬D r)->P D U->P D aa)(x:∀D k U aa,af (λr=>B<=r/\¬D r) U aa->fI B U aa->ax D k U->ax D k aa)(h:AtR l gy gt gtb ga iu P ax S D w sl k p tl U)(e:af T U aa)(y:fI B U aa)(a:∀r,T r->r<w.heap.size/\¬D r/\B<=r/\S r/\r≠gy/\r≠gtb/\r≠ga/\r≠gt):AtR l gy gt gtb ga iu P ax S D w sl k p tl aa:=by
 obtain⟨z,D',A,h1,C,E,⟨j,F⟩,G,H,I⟩:=h;have q:∀r,T r->B<=r/\¬D' r:=λr f=>⟨(a r f).2.2.1,λJ=>(j r J).elim (a r f).2.1 λh=>by have:=(a r f).1;omega⟩;exact⟨X1 z e.size,D',A,h1,C,E.V e ⟨λh=>(a _ h).2.2.2.2.1 rfl,λh=>(a _ h).2.2.2.2.2.1 rfl,λh=>(a _ h).2.2.2.2.2.2.1 rfl,λh=>(a _ h).2.2.2.2.2.2.2 rfl⟩,
  ⟨λr f=>(j r f).imp id λh=>⟨h.1,S4 h.2 e.size⟩,F⟩,s D' T U aa e q G,x D' k U aa (e.Y λr _ h=>q r h) y H,I.F (e.Y λr _ h=>(a r h).2.2.2.1)⟩
theorem AtR.base{w0:x5}(h:AtR l gy gt gtb ga iu P ax S D w sl k p tl U)(a:Ext w0 w)(e:∀r,r<w0.heap.size->S r->T r):AtR l gy gt gtb ga iu P ax T D w0 sl k p tl U:=by
 obtain⟨f,D',j,h1,q,s,⟨x,y⟩,z,A,B⟩:=h;exact⟨X1 a.size f,D',j,h1,q,s,⟨λr C=>(x r C).imp id λh=>⟨X1 a.size h.1,h.2⟩,y⟩,z,A,((a.V S).F B).Y e⟩
theorem AtR.comp{a:Nat->Prop}{j:Λ}{x:Int}(f:∀r,r<B\/D r\/r=gt->S r)(q:∀r,a r->D r\/w.heap.size<=r/\r<U.heap.size)(y:∀r,D r->a r)(s:af S w U)(z:j.take p=tl.take p)(h:AtR l gy gt gtb ga iu P ax (λr=>r<B\/a r\/r=gt) a U sl k (p+1) (j.set p x) aa):AtR l gy gt gtb ga iu P ax S D w sl k p tl aa:=by
 obtain⟨A,D',C,h1,E,F,⟨G,H⟩,I,K,L⟩:=h;have J:=s.size;refine⟨X1 J A,D',C,h1,?_,F,⟨λr e=>?_,λr e=>H r (y r e)⟩,I,K,?_⟩
 .have:=congrArg (List.take p) E;rw[List.take_take,List.take_take,Nat.min_eq_left Ω,List.take_set_of_le (o4 _)]at this;rw[this,z]
 .rcases G r e with h|h
  .exact (q r h).imp id λh=>⟨h.1,Ω⟩
  .exact .inr ⟨Ω,h.2⟩
 .refine ((s.Y λr _ h=>.inl h).F (L.Y λr _ h=>?_):af (λr=>S r\/w.heap.size<=r) w aa).Y λr e h=>h.elim id λh=>Ω
  rcases h with h|h|h
  .exact .inl (f r (.inl h))
  .exact (q r h).elim (λh=>.inl (f r (.inr (.inl h)))) λh=>.inr h.1
  .exact .inl (f r (.inr (.inr h)))
end
theorem RP{α β:Type}{l:List α}{a:α->List β}{i:Nat}{y:α}{z:β}(h:l[j]?=σ y)(hi:(a y)[i]?=σ z):(l.flatMap a)[((l.take j).flatMap a).length+i]?=σ z:=by
 have f:=(x6.1 h).1;have e:l=l.take j++y::l.drop (j+1):=by
  conv=>lhs;rw[<-List.take_append_drop j l,W3 f,(x6.1 h).2]
 conv=>lhs;rw[e,List.flatMap_append,V6]
 have p:=(x6.1 hi).1;have el:((l.take j++y::l.drop (j+1)).take j)=l.take j:=by rw[List.take_append_of_le_length (by rw[o8];omega),List.take_take,Nat.min_self]
 rw[el,Z7 Ω,Q5,Y4 p];exact hi
theorem RQ{t:o5}{b o:Nat}{x:x4}{K:x4->Prop}(a:kQ v8 t=v2)(h:w.cell? ⟨b,o,ν⟩=σ x):ab v8 (do loadVar t (<-asAddr (.pointer (σ ⟨b,o,ν⟩)))) w K=K x:=ab.of λI e=>by
 have aW:=jU e h;unfold kQ at a;cases hu:v8.underlying t with
 |none=>rw[hu]at a;cases a
 |some d=>
  rw[hu]at a;cases d<;>first|(cases a;done)|simp[asAddr,loadVar,isAgg,run_underlying hu,aW]
def mK(bS gy gtb a8 bc ga gs:Nat):Array x4:=#[Γ bS,Γ gy,Γ gtb,Γ a8,Γ bc,Γ ga,Γ gs]
def vf(p:Nat)(bS gy gtb a8 bc ga gs:Nat):List x4:=[Δ (p:Int),Γ bS,Γ gy,Γ gtb,Γ a8,Γ bc,Γ ga,Γ gs]
theorem RR{l:Nat}{ax:(Nat->Prop)->Nat->x5->Prop}(bW:0<=pos)(bX:∀u∈sc,0<=u/\u<n.co.length)(c1:sc.length<=6)(bY:B0<=B)(ac:gt≠gy/\gt≠gtb/\gt≠ga)(Q:∀D k U aa,af (λr=>B<=r/\¬D r) U aa->fI B U aa->ax D k U->ax D k aa)(bZ:RO (gw ad ae R n s gs bS a8 bc aV sc pos v B0) ax L l B):
  ∀(q p:Nat)(tl:Λ)(k:Nat)(D:Nat->Prop)(w:x5),sc.length=p+q->tl.length=sc.length->(∀r,D r->B<=r/\r<w.heap.size)->B<=w.heap.size->sz D B gy gtb ga gt->lh w l gy gt gtb ga (mK bS gy gtb a8 bc ga gs) sc.length tl->gw ad ae R n s gs bS a8 bc aV sc pos v B0 D w->ax D k w->
   (∀i x,(fX s sc pos v q p tl)[i]?=σ x->L[k+i]?=σ x)->
   al v8 oN (vf p bS gy gtb a8 bc ga gs) w λr I=>r= .bool v2/\AtR l gy gt gtb ga (mK bS gy gtb a8 bc ga gs) (gw ad ae R n s gs bS a8 bc aV sc pos v B0) ax (λr=>r<B\/D r\/r=gt) D w sc.length (k+(fX s sc pos v q p tl).length) p tl I:=by
 obtain⟨a,rfl⟩:=V9 bW;have ah:∀D T U aa,af T U aa->(∀r,T r->B<=r/\¬D r)->gw ad ae R n s gs bS a8 bc aV sc a v B0 D U->gw ad ae R n s gs bS a8 bc aV sc a v B0 D aa:=λD T U aa aS bn h=>h.own aS λr z=>⟨X1 bY (bn r z).1,(bn r z).2⟩;have aT:∀{N:x5}{K:x4->Prop},ag N bS aq [aV]->K aV->ab v8 (u6 aq (Γ bS)) N K:=λaU aW=>by rw[aE Ψ (aU.cell rfl)];exact aW
 have aX:∀{aZ p:Nat}{tl:Λ}{D:Nat->Prop}{w aa N:x5}{f:Nat}{b:Bool},Ext w aa->w.heap.size<=f->f<aa.heap.size->(∀r,D r->B<=r/\r<w.heap.size)->B<=w.heap.size->(gy<w.heap.size/\gtb<w.heap.size/\ga<w.heap.size/\gt<w.heap.size)->
   AtR l gy gt gtb ga (mK bS gy gtb a8 bc ga gs) (gw ad ae R n s gs bS a8 bc aV sc a v B0) ax (λr=>r<B\/D r\/r=gt\/r=f) D aa sc.length aZ p tl N->ag N f dN [.bool b]->
   aF v8 (l9 dN (Γ f) (.bool v2)) N λ(_:Unit)a2=>ab v8 (do loadVar dN (<-asAddr (Γ f))) a2 λr=>vK w.heap.size a2 λbo=>r= .bool v2/\AtR l gy gt gtb ga (mK bS gy gtb a8 bc ga gs) (gw ad ae R n s gs bS a8 bc aV sc a v B0) ax (λr=>r<B\/D r\/r=gt) D w sc.length aZ p tl bo:=by
  intro aZ p tl D w aa N f b H bq aj C ak ap a7 ba;have b0:∀r,r=f->r<aa.heap.size/\¬D r/\B<=r/\(r<B\/D r\/r=gt\/r=f)/\r≠gy/\r≠gtb/\r≠ga/\r≠gt:=by
   rintro r rfl;exact⟨aj,λh=>by have:=(C _ h).2;omega,Ω,.inr (.inr (.inr rfl)),Ω,Ω,Ω,Ω⟩
  refine aF.cB (bt dN.i rfl rfl ba Ξ λa2 b1 c2 bd b2=>?_);have bd:=bd;have b3:=a7.own ah Q b1 b2.o b0;rw[RQ Ψ (bd.cell rfl)];intro bo b4 b5;refine⟨rfl,((b3.own ah Q (b4.V λ_=>False) (b5.2.Y ak) λ_ h=>h.elim).base H λr z h=>?_)⟩;rcases h with h|h|h|h
  .exact .inl h
  .exact .inr (.inl h)
  .exact .inr (.inr h)
  .omega
 intro q;induction q with
 |zero=>
  intro p tl k D w b6 au C ak E av be bf aw;refine jr func262 ?_;refine aF.cB (bp λg1 U b7 ay G bg=>?_);refine aF.cB (bF dN.i λf aa bq X O bh=>?_);have H:=ay.F X;have b8:=ay.size;have b9:=X.size;have G:=ag.W G X;have O:=O;have aj:=O.lt;have aI:=Q D k w aa (H.V _) (bg.F bh).o bf;have M:=be.W H;have J:=av.W H;rw[aE Ψ (G.cell rfl)];refine aT M.1.2.1 ?_;rw[a1 aq.u M.2.2.1,bm,am];refine⟨λ_=>?_,λh=>ro Ω h⟩;rw[aE Ψ (J.1.cell rfl),aE Ψ (J.2.1.cell rfl)];have ca:=aw 0 tl rfl;refine(show iR v8 l [.slice (σ ⟨gt,0,ν⟩) sc.length sc.length] aa _ from iR.Y (bZ D k tl _ aa (λr z=>⟨(C r z).1,by have:=(C r z).2;omega⟩) Ω M ca J.2.2.2.ls aI) ?_);rintro _ cb ⟨rfl,⟨D',d1,d2,cc,cd⟩,ce,cf,bi⟩;refine⟨ce,?_⟩;have ap:=av.lt;have aJ:∀{g:Nat},w.heap.size<=g->¬D g:=λh1 az=>by have:=(C _ az).2;omega
  have aA:∀{g:Nat},B<=g->¬D g->¬(g<B\/D g):=λh1 az cg=>cg.elim Ω az;have ba:=O.V bi (aA Ω (aJ Ω));have a7:AtR l gy gt gtb ga (mK bS gy gtb a8 bc ga gs) (gw ad ae R n s gs bS a8 bc aV sc a v B0) ax (λr=>r<B\/D r\/r=gt\/r=f) D aa sc.length (k+1) p tl cb:=
   ⟨cf,D',tl,au,rfl,J.V bi ⟨aA E.1.1 E.1.2,aA E.2.1.1 E.2.1.2,aA E.2.2.1.1 E.2.2.1.2,aA E.2.2.2.1 E.2.2.2.2⟩,⟨d1,d2⟩,cc,cd,bi.Y λr _ h=>h.imp id .inl⟩
  exact aX H Ω aj C ak ap a7 ba
 |succ q br=>
  intro p tl k D w b6 au C ak E av be bf aw;refine jr func262 ?_;refine aF.cB (bp λg1 U b7 ay G bg=>?_);refine aF.cB (bF dN.i λf aa bq X O bh=>?_);have H:=ay.F X;have b8:=ay.size;have b9:=X.size;have G:=ag.W G X;have O:=O;have aj:=O.lt;have h1:=G.lt;have aI:=Q D k w aa (H.V _) (bg.F bh).o bf;have M:=be.W H;have J:=av.W H;have ap:=av.lt;have aJ:∀{g:Nat},w.heap.size<=g->¬D g:=λh1 az=>by have:=(C _ az).2;omega
  rw[aE Ψ (G.cell rfl)];refine aT M.1.2.1 ?_;rw[a1 aq.u M.2.2.1,bm,am];refine⟨λh=>ro h Ω,λ_=>?_⟩;rw[aE Ψ (G.cell rfl),aE Ψ (M.1.2.2.1.cell rfl),bm,am];have bu:∀{N:x5}{K:x4->Prop},ag N gtb aq [.slice (σ ⟨gt,0,ν⟩) sc.length sc.length]->K (.slice (σ ⟨gt,0,ν⟩) sc.length sc.length)->ab v8 (u6 aq (Γ gtb)) N K:=λaU aW=>by rw[aE Ψ (aU.cell rfl)];exact aW
  have aK:∀{D:Nat->Prop}(r:Nat),sz D B gy gtb ga gt->r=gt->B<=r/\¬D r:=λr h e=>e▸⟨h.2.2.2.1,h.2.2.2.2⟩;refine⟨λhe=>?_,λch=>?_⟩
  .refine bu J.2.1 ?_;rw[aE Ψ (G.cell rfl),aE Ψ (M.1.2.2.2.cell rfl),iY rfl aq.u ai.i J.2.2.2 Ω];refine aF.cB (iZ ai.i J.2.2.2 Ω λaL W c3 ci cj=>?_);have bw:lh aL l gy gt gtb ga (mK bS gy gtb a8 bc ga gs) sc.length (tl.set p v):=⟨J.1.V W λh=>ac.1 h.symm,J.2.1.V W λh=>ac.2.1 h.symm,J.2.2.1.V W λh=>ac.2.2 h.symm,ci⟩;have ck:=ah D _ _ _ W (λr h=>aK r E h) M;have cl:=Q D k aa aL (W.Y λr _ h=>aK r E h) cj.o aI;have cm:=G.V W Ω;have cn:=O.V W Ω;rw[aE Ψ (bw.2.2.1.cell rfl),aE Ψ (cm.cell rfl),aP,m1 Ω Ω];have hw:fX s sc a v (q+1) p tl=fX s sc a v q (p+1) (tl.set p v):=by rw[fX,ms he]
   rw[hw];rw[hw]at aw;refine(show al v8 oN (vf (p+1) bS gy gtb a8 bc ga gs) aL _ from al.Y (br (p+1) (tl.set p v) k D aL Ω (by rw[o7];exact au) (λr z=>⟨(C r z).1,by have:=(C r z).2;omega⟩) Ω E bw ck cl aw) ?_);rintro _ cp c4 ⟨rfl,bx⟩;have cq:ag cp f dN [.bool v6]:=by
    obtain⟨_,_,_,_,_,_,_,_,_,cr⟩:=bx;exact cn.V cr λh=>by
     rcases h with h|h|h
     .omega
     .exact aJ Ω h
     .omega
   exact aX H Ω aj C ak ap (AtR.comp (λr h=>h.imp id λh=>h.imp id .inl) (λr h=>.inl h) (λ_ h=>h) (W.Y λr _ h=>.inr (.inr (.inl h))) rfl bx) cq
  intro c5 aM _ ct;have aN:=M.W aM;obtain⟨A,s',bs,bz,cu,c6⟩:=id aN.2.2.2.2.2;obtain⟨u,hu⟩:=aD (l:=sc) (i:=p) Ω;obtain⟨cw,c7⟩:=bX u (x7 hu);have c8:=bz.2.2.2.1.d6;obtain⟨x,bA⟩:=aD (l:=s'.d6) (i:=u.toNat) Ω;rw[aE Ψ (aN.1.1.cell rfl)];refine aT aN.1.2.1 ?_;rw[aE Ψ ((G.W aM).cell rfl),bk aq.u ai.i Ψ aN.2.2.1 hu];refine(kC (i:=u) bz).Y ?_;rintro _ c9 cz ⟨⟨b,da,rfl,bB⟩,bC⟩;refine(nW).Y ?_;rintro _ aO cA ⟨cC,bD,rfl,db,bE⟩;have bG:=mD bB cw bA;have cD:bb s (sc.getD p 0)=aC x:=by
   rw[<-cu,u5,hu,W7];unfold bb;rw[bA]
  have bH:fX s sc a v (q+1) p tl=(aC x).flatMap λy=>fX s sc a v q (p+1) (tl.set p y):=by rw[fX,rc ch,cD]
  have Y:=(aM.F bC).F cC;have cE:=(ct.F cz).F cA;have z12:=Y.size;have dc:=(aM.F bC).size;have dd:=bE.lt;have bI:B<=aO.heap.size:=Ω
  have cF:=Q D k aa aO (Y.V _) cE.o aI;have bJ:=M.W Y;have bK:=J.W Y;refine⟨Nat,v6,v6,kl,#[Γ bD],0,_,_,λ_=>_,λ_ j I=>AtR l gy gt gtb ga (mK bS gy gtb a8 bc ga gs) (gw ad ae R n s gs bS a8 bc aV sc a v B0) ax (λr=>r<B\/D r\/r=gt) D aO sc.length (k+(((aC x).take j).flatMap λy=>fX s sc a v q (p+1) (tl.set p y)).length) p tl I/\ag I g1 ai [Δ (p:Int)]/\ag I f dN [.bool v6],
   λ_ _ _ _=>False,rfl,(nV (g:=bD) bB.1).s.x,?_,λ_ _ _ an h=>⟨h.1.W an,h.2.W an⟩,?_,λ_ _ _ _ _ _ _ h=>h,⟨bE,bJ.2.2.2.2.1.1⟩,?_,?_,?_,λ_ _ _ h=>h.elim,λ_ _ _ _ h=>h.elim⟩
  .rintro _ _ _ _ ⟨_,_,_,_,rfl⟩;rfl
  .rintro _ j de df aS cG ⟨Z,aB,P⟩;have an:=aS.W λ_ _ h=>nomatch h.1;exact⟨Z.own ah Q (an.V λ_=>False) (cG.Y bI) λ_ h=>h.elim,aB.W an,P.W an⟩
  .exact⟨⟨o4 _,D,tl,au,rfl,bK,⟨λ_ h=>.inl h,λ_ h=>h⟩,bJ,by simpa using cF,af.refl _ _⟩,G.W Y,O.W Y⟩
  .rintro _ _ j _ dg _ _ ⟨cH,dh⟩ ⟨di,rfl,y,cI,cJ⟩ ⟨cK,bL,cL⟩;cases cJ;intro bN aG cM _;have bO:(aC x)[j]?=σ (y:Int):=by rw[<-bG,u4,cI];rfl
   have cN:=cK.own ah Q (aG.V λ_=>False) (cM.2.Y bI) λ_ h=>h.elim;obtain⟨dj,aH,aQ,Z,aB,P,⟨aR,cO⟩,cP,cQ,cR⟩:=cN;have cS:=bK.lt;have bj:=E.go aR cS;have bP:∀r,aH r->B<=r/\r<bN.heap.size:=λr z=>(aR r z).elim (λh=>⟨(C r h).1,by have:=(C r h).2;omega⟩) λh=>⟨Ω,h.2⟩;refine bu P.2.1 ?_;rw[aE Ψ ((bL.W aG).cell rfl),iY rfl aq.u ai.i P.2.2.2 Ω];refine aF.cB (iZ ai.i P.2.2.2 Ω λao S dk cT cU=>?_);have bQ:lh ao l gy gt gtb ga (mK bS gy gtb a8 bc ga gs) sc.length (aQ.set p y):=⟨P.1.V S λh=>ac.1 h.symm,P.2.1.V S λh=>ac.2.1 h.symm,P.2.2.1.V S λh=>ac.2.2 h.symm,cT⟩;have cV:=ah aH _ _ _ S (λr h=>aK r bj h) cP;have cW:=Q aH _ bN ao (S.Y λr _ h=>aK r bj h) cU.o cQ;have bR:ag ao g1 ai [Δ (p:Int)]:=(bL.W aG).V S Ω;have cX:ag ao f dN [.bool v6]:=(cL.W aG).V S Ω;have cY:=(cH.W aG).V S Ω;rw[aE Ψ (bQ.2.2.1.cell rfl),aE Ψ (bR.cell rfl),aP,m1 Ω Ω];have bT:fX s sc a v q (p+1) (aQ.set p (y:Int))=fX s sc a v q (p+1) (tl.set p (y:Int)):=RL Ω (by rw[o7];exact au) (by rw[o7];exact Z) (by rw[ve Ω,ve Ω,aB]);refine(show al v8 oN (vf (p+1) bS gy gtb a8 bc ga gs) ao _ from al.Y (br (p+1) (aQ.set p y) _ aH ao Ω (by rw[o7];exact Z) (λr z=>⟨(bP r z).1,by have:=(bP r z).2;omega⟩) Ω bj bQ cV cW λi dl hi=>?_) ?_)
   .rw[bT]at hi;rw[Q3];refine aw _ _ ?_;rw[bH];exact RP bO hi
   rintro _ dm dn ⟨rfl,bU⟩;rw[bM,X3,a6];have bV:=AtR.comp (λr h=>h) (λr h=>(aR r h).imp id λh=>⟨h.1,Ω⟩) cO (cR.F (S.Y λr _ h=>.inr (.inr h))) aB bU;obtain⟨_,_,_,_,_,_,_,cZ,_,bl⟩:=bU;have aY:∀{g:Nat},w.heap.size<=g->g<aO.heap.size->¬(g<B\/aH g\/g=gt):=λc0 dp h=>by
    rcases h with h|h|h
    .omega
    .exact (aR _ h).elim (aJ c0) λh=>Ω
    .omega
   refine⟨⟨cY.V bl (aY Ω Ω),cZ.2.2.2.2.1.1⟩,⟨?_,bR.V bl (aY Ω Ω),cX.V bl (aY Ω Ω)⟩,λh=>by cases h⟩;have e:k+(((aC x).take j).flatMap λy=>fX s sc a v q (p+1) (tl.set p y)).length+(fX s sc a v q (p+1) (aQ.set p (y:Int))).length=k+(((aC x).take (j+1)).flatMap λy=>fX s sc a v q (p+1) (tl.set p y)).length:=by
    rw[bT,r9,bO,j6,List.flatMap_append,List.flatMap_singleton,o9];omega
   rw[e]at bV;exact bV
  .rintro _ j dq rfl ⟨Z,aB,P⟩;rw[Z0 (by rw[<-bG,r8];exact o4 _),<-bH]at Z;exact aX H Ω aj C ak ap (Z.base Y λr _ h=>h.imp id λh=>h.imp id .inl) P
end
section
variable{ad ae gs bS a8 bc B0:Nat}{R:ah}{n:aH}{s:ak}{aV:x4}{sc:Λ}{v:Int}
theorem FS{e:Nat}(W:∀u∈sc,0<=u/\u<n.co.length)(X:sc.length<=6):
  qX v8 v2 v6 m8 [Γ bS,Γ a8,Γ bc,Γ gs] 0 (λk=>k=(ck s sc e v).length)
   (λk vs Y w=>Y=k+1/\∃tl aT,(ck s sc e v)[k]?=σ tl/\vs=[aT]/\aN .i64 w aT tl) (gw ad ae R n s gs bS a8 bc aV sc e v B0):=by
 refine⟨m8.enters,λl ax aY w Z _ ac hj ah=>?_⟩;have E:∀D k U aa,af (λr=>w.heap.size<=r/\¬D r) U aa->fI w.heap.size U aa->ax D k U->ax D k aa:=λD k U aa aj ak=>Z D k U aa (aj.Y λr _ h=>⟨rfl,h⟩) ak;have J:=hj.2.2.1;have al:=hj.2.2.2.2.1.2;obtain⟨_,_,_,aZ⟩:=dj J;refine q8 func261 ?_;refine aF.cB (bp λgy U a2 p G am=>?_);have an:∀{H:x5}{K:x4->Prop},ag H bS aq [aV]->K aV->ab v8 (u6 aq (Γ bS)) H K:=λao ap=>by rw[aE (v:=aV) Ψ (ao.Qz rfl)];exact ap
 refine an (hj.1.2.1.W p) ?_;rw[a1 aq.u (J.W p)];refine aF.cB (kq (k:=.i64) aq.u ai.i Ω Ω λgt aa a6 A M au=>?_);refine aF.cB (bF aq.i λgtb a7 ba q N av=>?_);refine aF.cB (bt aq.i rfl rfl N (by simp[x4.cells]) λbb C bd aw ay=>?_);refine aF.cB (bF p1.i λga be bf f O az=>?_);rw[mb];refine aF.cB (bt p1.i rfl rfl O (by simp[x4.cells]) λa y bg aB aC=>?_);have bh:=p.size;have bi:=A.size;have z3:=q.size;have z5:=f.size;have bj:=G.lt;have bk:=M.lt;have bl:=N.lt;have bm:=O.lt;have aD:ag a gy AV [.func (.yield l) #[] #[]]:=(((((ag.W G A).W q).V C Ω).W f).V y Ω);have aG:ag a gt ai (ints .i64 (o6 sc.length 0)):=((((M.W q).V C Ω).W f).V y Ω);have aH:ag a gtb aq [.slice (σ ⟨gt,0,ν⟩) sc.length sc.length]:=((ag.W aw f).V y Ω);have P:ag a ga p1 [.func (.func oN) #[] (mK bS gy gtb a8 bc ga gs)]:=aB;rw[aE (v:=.func (.func oN) #[] (mK bS gy gtb a8 bc ga gs)) Ψ (P.Qz rfl)];have hm:aA .i64 ai a gt (.slice (σ ⟨gt,0,ν⟩) sc.length sc.length) (o6 sc.length 0):=by
  have:=b0.full (n:=sc.length) (k:=1) aG Ξ (by simp only[maxLen];omega);unfold aA;rw[List.length_replicate];exact this
 have aI:=(p.F A).F q;have Q:af (λr=>w.heap.size<=r/\¬False) w a:=(((aI.V _).F (C.Y λr _ h=>⟨by have h:r=gtb:=h;omega,id⟩)).F (f.V _)).F (y.Y λr _ h=>⟨by have h:r=ga:=h;omega,id⟩);have aJ:cO w a:=((((am.F au).F av).F ay).F az).F aC;have aK:gw ad ae R n s gs bS a8 bc aV sc e v B0 (λ_=>False) a:=hj.own Q λr aL=>⟨Ω,aL.2⟩;have S:=RM (s:=s) (sc:=sc) (pos:=e) (v:=v) (tl:=o6 sc.length 0) Ξ;refine(show gM v8 oN (vf 0 bS gy gtb a8 bc ga gs) a _ from(RR (L:=ck s sc e v) (B:=w.heap.size) (l:=l) (gy:=gy) (gt:=gt) (gtb:=gtb) (ga:=ga) (pos:=e) Ω W X al ⟨Ω,Ω,Ω⟩ E ?_ sc.length 0 (o6 sc.length 0) 0 (λ_=>False) a Ω Ξ (λ_ h=>h.elim) Ω ⟨⟨Ω,id⟩,⟨Ω,id⟩,⟨Ω,id⟩,Ω,id⟩ ⟨aD,aH,P,hm⟩ aK (E _ _ _ _ Q aJ.o ah) λi x hi=>?_).free.Y ?_)
 .intro D k tl aT I aM aO aP aQ aR z;refine iR.Y (ac D k (k+1) [aT] I aM aO aP ⟨rfl,tl,aT,aQ,rfl,aR⟩ z) ?_;rintro u bn (⟨h1,aS,aU,aW,aX⟩|⟨h,_⟩)
  .exact⟨h1,aS,aU (.inr rfl),aW,aX rfl⟩
  .cases h
 .rw[S]at hi;rw[X6];exact hi
 .rintro _ bo ⟨_,rfl,_,D',_,_,_,_,_,_,z,_⟩;rw[S,X6]at z;exact .inl ⟨D',_,rfl,z⟩
end
def FT(m gs bS a8 bc:Nat)(aV:x4):Prop:=(m<=gs/\m<=bS/\m<=a8/\m<=bc)/\∀r,lw aV r->m<=r
section
variable{ad ae gs bS a8 bc B0 m:Nat}{A R:ah}{n:aH}{s s':ak}{t:az}{aV:x4}{sc:Λ}{pos v:Int}{w I:x5}
theorem bE.lt(h:bE w ad ae A R n s t){r:Nat}(a:A r\/R r):r<w.heap.size:=by
 obtain⟨⟨j,p,q,x,⟨_,_,e,f⟩,_⟩,_⟩:=h;exact a.elim (f r) (e r)
theorem gw.put{D' S:Nat->Prop}(h:gw ad ae R n s gs bS a8 bc aV sc pos v B0 D w)(j:af S w I)(hm:FT m gs bS a8 bc aV)(y:∀r,S r->r<m\/B0<=r)(z:Laid I)(B:bE I ad ae A R n s' t)(C:∀i,bb s' i=bb s i)(E:∀r,A r\/R r->r<B0\/D' r):gw ad ae R n s gs bS a8 bc aV sc pos v B0 D' I:=by
 obtain⟨h1,f,p,q,F,_⟩:=h;have no:∀{r:Nat},m<=r->r<B0->¬S r:=λh1 f p=>by have:=y _ p;omega
 exact⟨h1.V j ⟨no hm.1.1 f.1,no hm.1.2.1 f.2.1,no hm.1.2.2.1 f.2.2.1,no hm.1.2.2.2 f.2.2.2⟩,f,i7 p j λr G a n c e x=>no (hm.2 r ⟨a,n,c,e,x⟩) (q r ⟨a,n,c,e,x⟩) G,q,⟨z,X1 F.2 j.size⟩,A,s',t,B,C,E⟩
theorem FU{f:cr}{X:x5->Prop}(h:bE w ad ae A R n s t)(y:Laid w)(B:s.d9[j]?=σ f)(C:∀aV gs bS a8 bc I,Ext w I->FT w.heap.size gs bS a8 bc aV->gw ad ae R n s gs bS a8 bc aV f.sc pos v I.heap.size (λ_=>False) I->K (.func (.func m8) #[] #[Γ bS,Γ a8,Γ bc,Γ gs]) I):
  al v8 tc [Γ ad,Δ (j:Int)] w λaV U=>(Ext w U\/X U)/\al v8 AM [Γ ad,aV,Δ pos,Δ v] U K:=by
 refine(sg h B).Y ?_;rintro aV U _ ⟨q,g,E,hm⟩;refine⟨.inl q,(RN hm.ls).Y ?_⟩;rintro _ aa _ ⟨x,gs,bS,a8,bc,rfl,a,G,H,J,L⟩;have p:=q.F x;have M:=q.size;have z:=p.size;refine C aV gs bS a8 bc aa p ⟨⟨Ω,Ω,Ω,Ω⟩,λr e=>(bZ hm e).1▸E⟩ ⟨a,⟨a.1.lt,a.2.1.lt,a.2.2.1.lt,a.2.2.2.lt⟩,hm.ls.W x,λr e=>?_,⟨y.W p,o4 _⟩,A,s,t,h.W p,λ_=>rfl,λr e=>.inl ?_⟩
 .have:=bZ hm e;have:=x.size;omega
 .have:=h.lt e;omega
end
section
variable{k:Int}{co:Λ}{s:ak}{f:cr}{j pos:Nat}{v:Int}{tl:Λ}
theorem yP{m:Nat}(a:s.d9[j]?=σ f)(e:f.live≠0)(hm:cp f.aj tl 0=σ (m:Int)):(io s j tl).isSome=v2/\og s j tl=br f.aj f.cs tl:=by
 unfold io og;rw[a];simp[e,hm]
end
section
variable{w:x5}{ad ae:Nat}{A R:ah}{n:aH}{s:ak}{t:az}
theorem FV{f:cr}(h:bE w ad ae A R n s t)(af:Laid w)(M:s.d9[j]?=σ f)(ax:f.live≠0)(ay:∀u,f.sc[pos]?=σ u->v∈bb s u):
  al v8 I3 [Γ ad,Δ (j:Int),Δ (pos:Int),Δ v] w λr I=>r=Δ (ee n.k s f pos v)/\Ext w I:=by
 have ah:=h.2.2.2.1;have ak:=x7 M;obtain⟨N,aR,_⟩:=ah.d9 f ak;refine jr func148 ?_;refine bp λg1 U aS O y=>?_;refine bp λam aa aU J K=>?_;have y:=ag.W y J;have K:=K;rw[aE Ψ (y.cell rfl)];refine(oe (h.W (O.F J))).Y ?_;rintro _ aW _ ⟨rfl,P⟩;refine bF av.i λQ aX aZ S an=>?_;have a1:=O.size;have a2:=J.size;have z3:=P.size;have z4:=S.size;have a6:=y.lt;have a7:=K.lt;have ba:=an.lt;refine bt av.i rfl rfl an (by simp[x4.cells]) λbd W be X=>?_;have X:=X;intro ao z _ _;have bf:=z.size;have ap:=P.F S;have Y:=((((O.F J).F P).F S).then W (by rintro r p rfl;omega)).F z;have Z:ag ao g1 eL [Γ ad]:=((y.W ap).V W Ω).W z;have aq:ag ao am ai [Δ (j:Int)]:=((K.W ap).V W Ω).W z;have au:=X.W z;have bg:=au.lt;rw[aE Ψ (Z.cell rfl),aE Ψ (Z.cell rfl),aE Ψ (aq.cell rfl)];refine FU (h.W Y) (af.W Y) M λaV gs bS a8 bc az B aA aB=>?_;have bh:=B.size;refine⟨Nat,v2,v6,m8,#[Γ bS,Γ a8,Γ bc,Γ gs],0,_,_,_,λD k I=>Ext w I/\ag I g1 eL [Γ ad]/\ag I am ai [Δ (j:Int)]/\ag I Q av [Δ ((((ck s f.sc pos v).take k).map (br f.aj f.cs)).foldl min n.k)],
  λ_ _ _ _=>False,rfl,FS (λu hu=>⟨(N.scope.1 u hu).1,N.d6 u hu⟩) N.scope.2,?_,λ_ _ _ aC h=>h.W aC,?_,λ_ _ _ _ _ _ _ h=>h,aB,?_,?_,?_,λ_ _ _ h=>h.elim,λ_ _ _ _ h=>h.elim⟩
 .rintro _ _ _ _ ⟨_,_,_,_,rfl,_⟩;rfl
 .rintro D k aD aG L bi ⟨q,C,E,x⟩;have aY:∀{g:Nat}{e:o5}{cs:List x4},g<az.heap.size->ag aD g e cs->ag aG g e cs:=λbj aH=>aH.V L λh=>by have:=h.2.1;omega
  exact⟨q.then L λr p h=>by have:=h.2.1;omega,aY Ω C,aY Ω E,aY Ω x⟩
 .exact⟨Y.F B,Z.W B,aq.W B,au.W B⟩
 .rintro aT D k bk bl bm bn aI ⟨rfl,tl,bo,aw,e,aJ⟩ ⟨q,C,E,x⟩;cases e;intro bq G _ aK;obtain⟨m,hm⟩:=su ah ak ay (x7 aw);obtain⟨aL,L⟩:=yP M ax hm;rw[aE Ψ ((C.W G).cell rfl),aE Ψ ((E.W G).cell rfl)];refine(yg (h.W (q.F G)) (aJ.W G)).Y ?_;rintro _ bs aM ⟨rfl,aN⟩;have a:=G.F aN;rw[ms aL,L,bx,bz,aE Ψ ((x.W a).cell rfl),ma];refine aF.cB (bt av.i rfl rfl (x.W a) Ξ λbu H bw ab aO=>?_);have bA:=a.size;have ac:=(q.F a).then H (by rintro r p rfl;omega);have aP:=h.W ac;refine⟨⟨D,λr h=>.inl h,λ_ h=>h,(aI.W a).put H aA (λr p=>.inl (by have p:r=Q:=p;omega)) (af.W ac) aP (λ_=>rfl) λr p=>.inl (by have:=h.lt p;omega),ac,(C.W a).V H Ω,(E.W a).V H Ω,?_⟩,aK.F (aM.lp.F aO.lp),(a.V _).F (H.Y λr _ h=>.inl (by have h:r=Q:=h;omega))⟩;have ab:=ab;rw[r9,aw,j6,Z3,S3];exact ab
 .rintro D k bB rfl ⟨q,C,E,x⟩;rw[aE Ψ (x.cell rfl)];intro bC aQ _;refine⟨?_,q.F aQ⟩;rw[Z0 (o4 _)];rfl
theorem RS{j pos:Int}(h:bE w ad ae A R n s t)(y:Laid w):al v8 IG [Γ ad,Δ j,Δ pos,Δ v] w λr I=>Ext w I/\r=(match dk s j pos v with|some (f,_,_)=>.tuple #[Δ (ee n.k s f pos.toNat v),Δ 0]|none=>.tuple #[Δ 0,Δ 1]):=by
 refine aB func106 ?_;refine(yM h).Y ?_;rintro _ U _ ⟨a,u,e,rfl,ac⟩;rw[bx,bz];rcases ac with⟨rfl,f,x,ac⟩|⟨rfl,ac⟩
 .rw[ac,bL,am];refine⟨λh=>ro rfl h,λ_=>?_⟩;obtain⟨h1,z,B,C,p,E⟩:=mH ac;obtain⟨K,G,L,H⟩:=jK E;obtain⟨j,rfl⟩:=V9 h1;obtain⟨pos,rfl⟩:=V9 z;refine(FV (j:=j) (pos:=pos) (h.W a) (y.W a) B C λu' q=>?_).Y ?_
  .have p:f.sc[pos]?=σ u:=p;rw[p]at q;cases q;unfold bb;rw[G];exact H
  .rintro _ aa _ ⟨rfl,J⟩;exact⟨a.F J,rfl⟩
 .rw[ac,bL,am];exact⟨λ_=>⟨a,rfl⟩,λh=>ro Φ h⟩
end
def sA(t:az):Prop:=∀m,t.marks.getLast? =σ m->m.olds+t.cells.length<100000000/\t.olds.length<=m.olds+t.cells.countP λc=>decide (c.st=m.st)
def eB(au:List az)(t:az):Prop:=iA t au/\sA t
theorem iA.m{t:az}(h:iA t []):eB [] t:=⟨h,λm hm=>by rw[h.1]at hm;cases hm⟩
theorem eB.room{au:List az}{t:az}(h:eB au t):Room t:=by
 cases hm:t.marks.getLast? with
 |none=>exact .inl (List.getLast?_eq_none_iff.1 hm)
 |some m=>
  obtain⟨h1,a⟩:=h.2 m hm;have:=List.countP_le_length (p:=λc:Cell=>decide (c.st=m.st)) (l:=t.cells);exact .inr Ω
theorem sA.set{t:az}{i:Nat}{x:Int}(h:sA t):sA (t.set i x):=by
 unfold az.set;cases e:t.cells[i]? with
 |none=>exact h
 |some c=>
  obtain⟨f,j⟩:=x6.1 e;cases hm:t.marks.getLast? with
  |none=>
   intro m a;have a:=a;rw[hm]at a;cases a
  |some m=>
   obtain⟨h1,q⟩:=h m hm;simp only;split
   .rename_i r;intro bP a;have a:=a;rw[hm]at a;cases a;show m.olds+(t.cells.set i _).length<_/\(t.olds++[_]).length<=m.olds+(t.cells.set i _).countP _;rw[o7,List.countP_set f,j,o9,T5,rc (by rw[sp];omega),ms Ξ];exact⟨h1,Ω⟩
   .intro bP a;have a:=a;rw[hm]at a;cases a;show m.olds+(t.cells.set i _).length<_/\t.olds.length<=m.olds+(t.cells.set i _).countP _;rw[o7,List.countP_set f,j];refine⟨h1,?_⟩;by_cases J:c.st=m.st
    .have:=List.countP_pos_iff (p:=λc:Cell=>decide (c.st=m.st)).2 ⟨c,x7 e,rs J⟩;rw[ms (rs J)];omega
    .rw[rc (by rw[sp];exact J)];omega
theorem eB.set{au:List az}{t:az}{i:Nat}{x:Int}(h:eB au t):eB au (t.set i x):=⟨h.1.set,h.2.set⟩
def cS(au:List az)(w:x5)(ad ae:Nat)(A R:ah)(n:aH)(s':ak)(I:x5):Prop:=af (eG w) w I/\Laid I/\∃aM bs,Grow A w aM I/\bE I ad ae aM R n s' bs/\eB au bs/\¬aM 0
def dM(au:List az)(w:x5)(ad ae:Nat)(A R:ah)(n:aH)(m:Nat)(D:Nat->Prop)(s':ak)(I:x5):Prop:=
 af (λr=>eG w r\/w.heap.size<=r) w I/\(Laid I/\w.heap.size<=m/\0<w.heap.size/\(∀r,A r\/R r->r<w.heap.size))/\∃aM bs,Grow A w aM I/\bE I ad ae aM R n s' bs/\(eB au bs/\¬aM 0)/\∀r,aM r->r<m\/D r
section
variable{au:List az}{w U aa:x5}{ad ae m:Nat}{A R:ah}{n:aH}{s s' pH:ak}{t:az}{D D' S:Nat->Prop}
theorem dM.start(h:bE w ad ae A R n s t)(f:Laid w)(j:¬A 0)(p:eB au t)(a:Ext w U)(hm:w.heap.size<=m):dM au w ad ae A R n m D s U:=
 ⟨a.V _,⟨f.W a,hm,by
  obtain⟨x,y,z,B,⟨h1,_,_,q⟩,_⟩:=h.1;have:=q _ h1;omega,λr e=>h.lt e⟩,A,t,Grow.W a,h.W a,⟨p,j⟩,λr e=>.inl (by have:=h.lt (.inl e);omega)⟩
theorem dM.own(h:dM au w ad ae A R n m D s' U)(e:af S U aa)(f:∀r,S r->m<=r/\¬D r):dM au w ad ae A R n m D s' aa:=by
 obtain⟨h1,⟨s,x,y,j⟩,aM,bs,⟨g1,z,B⟩,p,C,q⟩:=h;refine⟨h1.F (e.Y λr _ h=>.inr (by have:=(f r h).1;omega)),⟨iz e (λh=>by have:=(f _ h).1;omega) s,x,y,j⟩,aM,bs,⟨?_,z,B⟩,⟨p.1.V e λr _ a J=>?_,p.2⟩,C,q⟩
 .exact ((g1.Y λr _ h=>.inl h).F (e.Y λr _ h=>.inr (f r h).1):af (λr=>A r\/m<=r) w aa).Y λr a h=>h.elim id λh=>Ω
 .obtain⟨F,E⟩:=f r J;rcases a with a|a
  .exact (q r a).elim Ω E
  .have:=j r (.inr a);omega
theorem dM.W(h:dM au w ad ae A R n m D s' U)(a:Ext U aa):dM au w ad ae A R n m D s' aa:=h.own (a.V λ_=>False) λ_ h=>h.elim
theorem dM.sB(h:dM au w ad ae A R n m D s' U):∃aM bs,bE U ad ae aM R n s' bs/\eB au bs/\¬aM 0/\∀{aa:x5}{pH:ak}{D' a:Nat->Prop}{j:az},af (eG U) U aa->Grow aM U a aa->bE aa ad ae a R n pH j->eB au j->(∀r,D r->D' r)->(∀r,U.heap.size<=r->r<aa.heap.size->D' r)->
  dM au w ad ae A R n m D' pH aa/\af (λr=>r<m\/D r) U aa/\∀r,a r->r<m\/D' r:=by
 obtain⟨h1,⟨y,z,B,C⟩,aM,bs,E,F,p,q⟩:=h;refine⟨aM,bs,F,p.1,p.2,λ{aa pH D' a j}G e s H I K=>?_⟩;have O:=h1.size;have L:¬a 0:=λh=>(e.2.1 0 h).elim p.2 λh=>Ω
 have x:∀r,a r->r<m\/D' r:=λr f=>(e.2.1 r f).elim (λh=>(q r h).imp id (I r)) λh=>.inr (K r h (s.lt (.inl f)));refine⟨⟨h1.F (G.Y λr _ h=>?_),⟨iz e.1 p.2 y,z,B,C⟩,a,j,E.F e,s,⟨H,L⟩,x⟩,e.1.Y λr _ h=>q r h,x⟩;by_cases f:w.heap.size<=r
 .exact .inr f
 .exact .inl (n8 (λo M J N=>h1.aY r o M J λh=>h.elim N f) h)
theorem dM.open(h:dM au w ad ae A R n m D s' U):∃aM bs,bE U ad ae aM R n s' bs/\eB au bs/\∀{aa:x5}{pH:ak}{D' e:Nat->Prop}{f:az},af (eG U) U aa->Grow aM U e aa->bE aa ad ae e R n pH f->eB au f->(∀r,D r->D' r)->(∀r,U.heap.size<=r->r<aa.heap.size->D' r)->
  dM au w ad ae A R n m D' pH aa/\af (λr=>r<m\/D r) U aa/\∀r,e r->r<m\/D' r:=by
 obtain⟨aM,bs,a,b,_,d⟩:=h.sB;exact⟨aM,bs,a,b,d⟩
theorem dM.done(h:dM au w ad ae A R n m D s' U)(e:Ext U aa):cS au w ad ae A R n s' aa:=by
 obtain⟨h1,⟨f,q,s,x⟩,aM,bs,j,p,a,y⟩:=h.W e;exact⟨h1.Y λr z h=>h.elim id λh=>Ω,f,aM,bs,j,p,a.1,a.2⟩
end
section
variable{au:List az}{w:x5}{ad ae:Nat}{A R:ah}{n:aH}{s:ak}{t:az}
theorem pI{u:Nat}{x:bn}(a:bd n.k n.co s)(f:s.d6[u]?=σ x)(h:v∈aC x):et n (u:Int) v:=by
 have p:=(x6.1 f).1;have q:=a.d6;obtain⟨z,e⟩:=aD (l:=n.co) (i:=u) Ω;have r:=(a.var _ x z f e).1;have w:=a.ed.2.2 z (x7 e);have j:=(e6.1 h).1;refine⟨Ω,Ω,j.1,?_⟩;rw[u9,u5,e,W7];omega
theorem FW{f:cr}{g:Int->Int}(p:bd k co s)(a:s.d9[j]?=σ f):ea s j f (dS g [] f.aj f.cs)=s:=by
 obtain⟨q,r⟩:=ld p (x7 a);rw[Ri q Ω (λ_ h=>ro h List.not_mem_nil)];have:s.d9.set j f=s.d9:=by
  apply X0;intro i;by_cases e:j=i
  .subst e;rw[n9 (x6.1 a).1,a]
  .rw[Z6 e]
 unfold ea;show{s with d9:=s.d9.set j f}=s;rw[this]
theorem FX{u:Nat}{f:cr}{x:bn}{F1 F2:Q6}{tup un:Int->Int}(h:bE w ad ae A R n s t)(aO:Laid w)(bj:¬A 0)(bl:eB au t)(E:s.d9[j]?=σ f)(bm:f.live≠0)(hu:f.sc[pos]?=σ (u:Int))(y:s.d6[u]?=σ x)(aP:v∈aC x)(h1:∀tl∈ck s f.sc pos v,(0<=tup (br f.aj f.cs tl)/\tup (br f.aj f.cs tl)<=n.k)/\∀{w:x5}{A:ah}{s:ak}{t:az},bE w ad ae A R n s t->al v8 F1 [Γ ad,Δ (br f.aj f.cs tl),Δ c] w λr I=>r=Δ (tup (br f.aj f.cs tl))/\Ext w I)(aQ:(0<=un (x.un.getD v.toNat 0)/\un (x.un.getD v.toNat 0)<=n.k)/\∀{w:x5}{A:ah}{s:ak}{t:az},bE w ad ae A R n s t->al v8 F2 [Γ ad,Δ (x.un.getD v.toNat 0),Δ c] w λr I=>r=Δ (un (x.un.getD v.toNat 0))/\Ext w I):
  al v8 I4 [.agg #[.func (.func F1) #[] #[],.func (.func F2) #[] #[]],Γ ad,Δ (j:Int),Δ (pos:Int),Δ v,Δ c] w λ_ I=>cS au w ad ae A R n (fW s j f pos u x v tup un) I:=by
 have G:=h.2.2.2.1;have am:=x7 E;obtain⟨an,b2,_⟩:=G.d9 f am;have aR:∀u',f.sc[pos]?=σ u'->v∈bb s u':=λu' aS=>by
  rw[hu]at aS;cases aS;unfold bb;rw[u9,y];exact aP
 have bo:=FJ G am aR;refine jr func151 ?_;refine bp λbq U b3 aU P=>?_;refine bp λg1 aa b4 ao a=>?_;refine bp λb5 b6 b7 Z z=>?_;refine bp λb8 B b9 ab Q=>?_;have P:ag B bq q6 [.func (.func F1) #[] #[],.func (.func F2) #[] #[]]:=((ag.W P ao).W Z).W ab;have a:ag B g1 eL [Γ ad]:=(ag.W a Z).W ab;have z:=ag.W z ab;have Q:=Q;have ap:=((aU.F ao).F Z).F ab;have ca:=aU.size;have cb:=ao.size;have z3:=Z.size;have cc:=ap.size;have aW:=P.lt;have H:=a.lt;have aX:=z.lt;have aZ:=Q.lt;rw[aE Ψ (a.cell rfl),aE Ψ (z.cell rfl)];refine(sg (h.W ap) E).Y ?_;rintro cd ce _ ⟨bs,_,_,bt⟩;rw[bk aq.u ai.i Ψ bt.ls hu];intro cf bu _ _;have J:=bs.F bu;have av:=ap.F J;have z46:=J.size;rw[aE Ψ ((a.W J).cell rfl),aE Ψ ((a.W J).cell rfl),aE Ψ ((z.W J).cell rfl)];refine FU (h.W av) (aO.W av) E λaV gs bS a8 bc a1 aw bw bA=>?_;have cg:=aw.size;have bB:=J.F aw;refine⟨Nat,v2,v6,m8,#[Γ bS,Γ a8,Γ bc,Γ gs],0,_,_,_,
  λD k I=>dM au w ad ae A R n w.heap.size D (ea s j f (dS tup ((ck s f.sc pos v).take k) f.aj f.cs)) I/\(af (λr=>r<w.heap.size\/a1.heap.size<=r) B I/\a1.heap.size<=I.heap.size),
  λ_ _ _ _=>False,rfl,FS (λu hu=>⟨(an.scope.1 u hu).1,an.d6 u hu⟩) an.scope.2,?_,λ_ _ _ y h=>h.W y,?_,λ_ _ _ _ _ _ _ h=>h,bA,?_,?_,?_,λ_ _ _ h=>h.elim,λ_ _ _ _ h=>h.elim⟩
 .rintro _ _ _ _ ⟨_,_,_,_,rfl,_⟩;rfl
 .rintro D k ch ci S cj ⟨K,L,ax⟩;exact⟨K.own S λr q=>⟨Ω,q.2.2⟩,L.F (S.Y λr _ h=>.inr h.2.1),X1 ax S.size⟩
 .refine⟨?_,bB.V _,o4 _⟩;have e:ea s j f (dS tup ((ck s f.sc pos v).take 0) f.aj f.cs)=s:=FW G E;rw[e];exact dM.start h aO bj bl (av.F aw) (o4 _)
 .rintro aT D k cl ay a2 cm bC ⟨rfl,tl,cn,aA,e,a6⟩ ⟨K,L,ax⟩;cases e;intro cp W _ bD;obtain⟨m,hm⟩:=su G am aR (x7 aA);obtain⟨bF,bG⟩:=FK G E bo aA hm;obtain⟨⟨bH,bI⟩,bJ⟩:=h1 tl (x7 aA);have aY:∀{X:x5}{g:Nat}{e:o5}{cs:List x4},Ext ay X->w.heap.size<=g->g<B.heap.size->ag B g e cs->ag X g e cs:=λy M aB aD=>(aD.V L Ω).W y;have bK:=(x6.1 E).1;have a7:(ea s j f (dS tup ((ck s f.sc pos v).take k) f.aj f.cs)).d9[j]?=σ {f with cs:=dS tup ((ck s f.sc pos v).take k) f.aj f.cs}:=n9 bK;obtain⟨M,S⟩:=yP a7 bm hm;obtain⟨A9,t9,aF,ba,aG⟩:=K.open;rw[aE Ψ ((aY W Ω H a).cell rfl),aE Ψ ((aY W Ω aX z).cell rfl)];refine(yg (aF.W W) (a6.W W)).Y ?_;rintro _ cq bL ⟨rfl,bM⟩;rw[ms M,S,bx,bz];intro bN bO _ bP;have C:=(W.F bM).F bO;rw[aE Ψ ((aY C Ω H a).cell rfl),aE Ψ ((aY C Ω aX z).cell rfl),
   aL q6.p 0 (aY C Ω aW P) rfl,aE Ψ ((aY C Ω H a).cell rfl),aE Ψ ((aY C Ω aZ Q).cell rfl)]
  show al v8 F1 [Γ ad,Δ (br f.aj (dS tup ((ck s f.sc pos v).take k) f.aj f.cs) tl),Δ c] bN _;rw[bF];refine(bJ (aF.W C)).Y ?_;rintro _ ct bQ ⟨rfl,bd⟩;have Y:=C.F bd;refine⟨.inl bd,(Qu (aF.W Y) ba.room (a6.W Y)).Y ?_⟩;rintro r be bR ⟨_,_,aH⟩;obtain⟨_,ac,aM,bT,bU,aI,N⟩:=aH M ⟨bH,bI⟩ _ m a7 hm;rw[bG]at N;have cu:=Y.size;have cw:=ac.size;obtain⟨bf,aJ,bV⟩:=aG (D':=λr=>D r\/ay.heap.size<=r/\r<be.heap.size) (jf Y ac) ((Grow.W Y).F aI) N ba.set (λr h=>.inl h) λr M aB=>.inr ⟨M,aB⟩;refine⟨⟨λr=>D r\/ay.heap.size<=r/\r<be.heap.size,λr h=>h,λr h=>.inl h,?_,bf,L.F (aJ.Y λr _ h=>h.imp id λh=>(a2 r h).1),Ω⟩,bD.F ((((bL.F bP).F bQ).F bR).lp),aJ.Y λr _ h=>h.imp (λh=>Ω) id⟩;refine bC.put aJ bw (λr q=>?_) bf.2.1.1 N (λ_=>rfl) λr q=>?_
  .rcases q with q|q
   .exact .inl Ω
   .exact .inr (a2 r q).1
  .rcases q with q|q
   .exact (bV r q).imp (λh=>Ω) id
   .exact .inl (by have:=h.lt (.inr q);omega)
 .rintro D k bW rfl ⟨K,L,ax⟩;rw[Z0 (o4 _)]at K;have bg:=pI G y aP;obtain⟨cz,cA,aK,bh,aG⟩:=K.open;have aY:∀{X:x5}{g:Nat}{e:o5}{cs:List x4},Ext bW X->w.heap.size<=g->g<B.heap.size->ag B g e cs->ag X g e cs:=λy M aB aD=>(aD.V L Ω).W y;rw[aE Ψ ((aY (Ext.refl _) Ω H a).cell rfl)];refine(px aK).Y ?_;rintro _ cB _ ⟨rfl,bX⟩;have bY:ff (ea s j f (dS tup (ck s f.sc pos v) f.aj f.cs)) (u:Int).toNat v.toNat=x.un.getD v.toNat 0:=by
   unfold ff;rw[u9,show(ea s j f (dS tup (ck s f.sc pos v) f.aj f.cs)).d6[u]?=σ x from y]
  rw[ms bg,bY,bx,bz];intro bZ b0 _ _;have O:=bX.F b0;rw[aE Ψ ((aY O Ω H a).cell rfl),aL q6.p 1 (aY O Ω aW P) rfl,aE Ψ ((aY O Ω H a).cell rfl),aE Ψ ((aY O Ω aZ Q).cell rfl)];show al v8 F2 [Γ ad,Δ (x.un.getD v.toNat 0),Δ c] bZ _;refine(aQ.2 (aK.W O)).Y ?_;rintro _ cC _ ⟨rfl,bi⟩;have aN:=O.F bi;refine⟨.inl bi,(E7 (aK.W aN) bh.room).Y ?_⟩;rintro r cD _ ⟨_,_,aH⟩;obtain⟨_,ac,aM,bT,bU,aI,N⟩:=aH bg aQ.1;have e:k9 (ea s j f (dS tup (ck s f.sc pos v) f.aj f.cs)) (u:Int).toNat v.toNat (un (x.un.getD v.toNat 0))=fW s j f pos u x v tup un:=by
   unfold k9 fW eH;rw[u9,show(ea s j f (dS tup (ck s f.sc pos v) f.aj f.cs)).d6[u]?=σ x from y]
  rw[e]at N;intro cE b1 _;exact(aG (jf aN ac) ((Grow.W aN).F aI) N bh.set (λ_ _=>trivial) λ_ _ _=>trivial).1.done b1
end
theorem sC(h e:Nat){l a:Nat}(f:l<256)(hm:a<256):(256*h+l) &&& (256*e+a)=256*(h &&& e)+(l &&& a):=by
 have j:l &&& a<2 ^ 8:=Nat.and_lt_two_pow _ hm;apply Nat.eq_of_testBit_eq;intro i;rw[Nat.testBit_and,show 256=2 ^ 8 from rfl,Nat.testBit_two_pow_mul_add _ f,Nat.testBit_two_pow_mul_add _ hm,Nat.testBit_two_pow_mul_add _ j];split
 .rw[Nat.testBit_and]
 .rw[Nat.testBit_and]
def ib(m x:Nat):Nat:=(x / 2 &&& m)+(x &&& m)
def iQ(m x:Nat):Nat:=(x / 4 &&& m)+(x &&& m)
def kF(m x:Nat):Nat:=(x / 16+x) &&& m
def c6(a:Nat):Nat:=kF 15 (iQ 51 (ib 85 a))
theorem RT:∀e<2,∀l<256,(128*e+l / 2) &&& 85=l / 2 &&& 85:=by decide+kernel
theorem RU:∀e<4,∀l<256,(64*e+l / 4) &&& 51=l / 4 &&& 51:=by decide+kernel
theorem RV:∀e<5,∀l<69,(16*e+l / 16+l) &&& 15=(l / 16+l) &&& 15:=by decide+kernel
theorem ov:∀l<256,ib 85 l<256/\iQ 51 (ib 85 l)<69/\iQ 51 (ib 85 l) % 16<5/\c6 l<=8/\(c6 l=0->l=0):=by decide+kernel
theorem vg(h a:Nat){l:Nat}(e:l<256):ib (256*a+85) (256*h+l)=256*ib a h+ib 85 l:=by
 unfold ib;rw[show(256*h+l) / 2=256*(h / 2)+(128*(h % 2)+l / 2) by omega,sC _ _ Ω Ω,sC _ _ e Ω,RT _ Ω _ e];omega
theorem vh(h a:Nat){l:Nat}(e:l<256):iQ (256*a+51) (256*h+l)=256*iQ a h+iQ 51 l:=by
 unfold iQ;rw[show(256*h+l) / 4=256*(h / 4)+(64*(h % 4)+l / 4) by omega,sC _ _ Ω Ω,sC _ _ e Ω,RU _ Ω _ e];omega
theorem vi(h a:Nat){l:Nat}(e:l<69)(he:h % 16<5):kF (256*a+15) (256*h+l)=256*kF a h+kF 15 l:=by
 unfold kF;rw[show(256*h+l) / 16+(256*h+l)=256*(h / 16+h)+(16*(h % 16)+l / 16+l) by omega,sC _ _ Ω Ω,RV _ he _ e]
def four(a b c d:Nat):Nat:=256*(256*(256*d+c)+b)+a
theorem RW{a b c d:Nat}(e:a<256)(f:b<256)(h:c<256)(j:d<256):ib 6148914691236517205 (four a b c d)=four (ib 85 a) (ib 85 b) (ib 85 c) (ib 85 d):=by
 unfold four;rw[show 6148914691236517205=256*(256*(256*(256*1431655765+85)+85)+85)+85 from rfl,vg _ _ e,vg _ _ f,vg _ _ h];have:=vg 0 1431655765 j;rw[show 256*0+d=d by omega,show ib 1431655765 0=0 from by unfold ib;simp]at this;rw[this,Nat.mul_zero,X6]
theorem RX{a b c d:Nat}(e:a<256)(f:b<256)(h:c<256)(j:d<256):iQ 3689348814741910323 (four a b c d)=four (iQ 51 a) (iQ 51 b) (iQ 51 c) (iQ 51 d):=by
 unfold four;rw[show 3689348814741910323=256*(256*(256*(256*858993459+51)+51)+51)+51 from rfl,vh _ _ e,vh _ _ f,vh _ _ h];have:=vh 0 858993459 j;rw[show 256*0+d=d by omega,show iQ 858993459 0=0 from by unfold iQ;simp]at this;rw[this,Nat.mul_zero,X6]
theorem RY{a b c d:Nat}(e:a<69)(f:b<69/\b % 16<5)(h:c<69/\c % 16<5)(j:d<69/\d % 16<5):kF 1085102592571150095 (four a b c d)=four (kF 15 a) (kF 15 b) (kF 15 c) (kF 15 d):=by
 unfold four;rw[show 1085102592571150095=256*(256*(256*(256*252645135+15)+15)+15)+15 from rfl,vi _ _ e Ω,vi _ _ f.1 Ω,vi _ _ h.1 Ω];have:=vi 0 252645135 j.1 Ω;rw[show 256*0+d=d by omega,show kF 252645135 0=0 from by unfold kF;simp]at this;rw[this,Nat.mul_zero,X6]
def qK(x:Nat):Nat:=c6 (x % 256)+c6 (x / 256 % 256)+c6 (x / 65536 % 256)+c6 (x / 16777216)
theorem RZ{x:Nat}(h:x<4294967296):qK x=0↔x=0:=by
 constructor
 .intro a;unfold qK at a;have h1:=(ov (x % 256) Ω).2.2.2.2 Ω;have e:=(ov (x / 256 % 256) Ω).2.2.2.2 Ω;have f:=(ov (x / 65536 % 256) Ω).2.2.2.2 Ω;have j:=(ov (x / 16777216) Ω).2.2.2.2 Ω;omega
 .rintro rfl;decide
theorem FY{x:Nat}(ao:x<4294967296):al v8 Ih [.int .u64 (x:Int)] w λv I=>v=Δ (qK x:Int)/\Ext w I:=by
 obtain⟨a,b,c,d,G,H,J,L,e,R,S,U,V⟩:∃a b c d,a<256/\b<256/\c<256/\d<256/\x=four a b c d/\a=x % 256/\b=x / 256 % 256/\c=x / 65536 % 256/\d=x / 16777216:=
  ⟨x % 256,x / 256 % 256,x / 65536 % 256,x / 16777216,Ω,Ω,Ω,Ω,by unfold four;omega,rfl,rfl,rfl,rfl⟩
 obtain⟨W,X,a3,a4,_⟩:=ov a G;obtain⟨Y,Z,aa,ap,_⟩:=ov b H;obtain⟨ac,ad,ae,aq,_⟩:=ov c J;obtain⟨d1,d2,d3,d4,_⟩:=ov d L;have g1:=RW G H J L;have M:=RX W Y ac d1;have af:=RY X ⟨Z,aa⟩ ⟨ad,ae⟩ ⟨d2,d3⟩;have ag:qK x=c6 a+c6 b+c6 c+c6 d:=by unfold qK;rw[<-R,<-S,<-U,<-V]
 rw[<-e]at g1;have ah:ib 6148914691236517205 x<4294967296:=by rw[g1];unfold four;omega
 have N:iQ 3689348814741910323 (ib 6148914691236517205 x)<4294967296:=by rw[g1,M];unfold four;omega
 have A:kF 1085102592571150095 (iQ 3689348814741910323 (ib 6148914691236517205 x))=four (c6 a) (c6 b) (c6 c) (c6 d):=by rw[g1,M,af];rfl
 have aj:four (c6 a) (c6 b) (c6 c) (c6 d)<4294967296:=by unfold four;omega
 refine aB func70 ?_;have s:∀{t:o5}{cx cy:Bool}{K:x4->Prop}(p q:Nat),p+q<18446744073709551616->ab v8 (aO .add t cx cy (.int .u64 (p:Int)) (.int .u64 (q:Int))) w K=K (.int .u64 ((p+q:Nat):Int)):=λp q h=>by
  rw[aP,m2 Ω Ω];rfl
 have small:∀(p m:Nat),p &&& m<=p:=λp m=>Nat.and_le_left;rw[show(1:Int)=((1:Nat):Int)from rfl,mj Ω,show(6148914691236517205:Int)=((6148914691236517205:Nat):Int)from rfl,u64_and Ω Ω,u64_and Ω Ω,s (x / 2 ^ 1 &&& 6148914691236517205) (x &&& 6148914691236517205) (by exact Nat.lt_of_le_of_lt (Nat.add_le_add (small _ _) (small _ _)) Ω)];obtain⟨y,B⟩:∃y,(x / 2 ^ 1 &&& 6148914691236517205)+(x &&& 6148914691236517205)=y:=⟨_,rfl⟩;rw[B];have B:ib 6148914691236517205 x=y:=B;rw[B]at ah N A;rw[show(2:Int)=((2:Nat):Int)from rfl,mj Ω,show(3689348814741910323:Int)=((3689348814741910323:Nat):Int)from rfl,u64_and Ω Ω,u64_and Ω Ω,s (y / 2 ^ 2 &&& 3689348814741910323) (y &&& 3689348814741910323) (by exact Nat.lt_of_le_of_lt (Nat.add_le_add (small _ _) (small _ _)) Ω)];obtain⟨z,C⟩:∃z,(y / 2 ^ 2 &&& 3689348814741910323)+(y &&& 3689348814741910323)=z:=⟨_,rfl⟩;rw[C];have C:iQ 3689348814741910323 y=z:=C;rw[C]at N A;rw[show(4:Int)=((4:Nat):Int)from rfl,mj Ω,s (z / 2 ^ 4) z Ω,show(1085102592571150095:Int)=((1085102592571150095:Nat):Int)from rfl,u64_and Ω Ω];have A:z / 2 ^ 4+z &&& 1085102592571150095=four (c6 a) (c6 b) (c6 c) (c6 d):=A;rw[A];obtain⟨j,E⟩:∃j,four (c6 a) (c6 b) (c6 c) (c6 d)=j:=⟨_,rfl⟩;rw[E]at aj ⊢;unfold four at E;rw[show(8:Int)=((8:Nat):Int)from rfl,mj Ω,s j (j / 2 ^ 8) Ω];obtain⟨r,O⟩:∃r,j+j / 2 ^ 8=r:=⟨_,rfl⟩;rw[O];rw[show(16:Int)=((16:Nat):Int)from rfl,mj Ω,s r (r / 2 ^ 16) Ω];obtain⟨f,P⟩:∃f,r+r / 2 ^ 16=f:=⟨_,rfl⟩;rw[P];rw[show(32:Int)=((32:Nat):Int)from rfl,mj Ω,s f (f / 2 ^ 32) Ω,fA fK.u ai.u,m1 Ω Ω,show(127:Int)=((127:Nat):Int)from rfl,EU Ω Ω];refine⟨?_,Ext.refl _⟩;rw[ag,show 127=2 ^ 7-1 from rfl,Nat.and_two_pow_sub_one_eq_mod];have ak:j / 2 ^ 8=65536*c6 d+256*c6 c+c6 b:=Ω
 have am:r / 2 ^ 16=256*c6 d+(c6 c+c6 d):=Ω
 have Q:f / 2 ^ 32=0:=Ω
 have au:f=128*(131072*c6 d+512*(c6 c+c6 d)+2*(c6 b+c6 c+c6 d))+(c6 a+c6 b+c6 c+c6 d):=Ω
 have an:(f+f / 2 ^ 32) % 2 ^ 7=c6 a+c6 b+c6 c+c6 d:=by rw[Q];clear E O P ak am Q;omega
 rw[an]
theorem iW{b n:Nat}(a:ml b n):al v8 An [jZ b n] w λr I=>(∃q:Int,r=Δ q/\(q=0↔b=0))/\Ext w I:=by
 have e:b<4294967296:=by
  have:=a.2;have:(2:Nat) ^ n<=2 ^ 32:=S5 Ω a.1;omega
 refine aB func26 ?_;refine bp λg U s f h=>?_;rw[aL b5.p 0 h rfl];refine(FY e).Y ?_;rintro _ aa _ ⟨rfl,j⟩;refine⟨⟨_,rfl,?_⟩,f.F j⟩;rw[<-RZ e];omega
def pJ(au:List az)(w:x5)(ad ae:Nat)(A R:ah)(n:aH)(s:ak)(a:fF)(r:x4)(I:x5):Prop:=r=Δ (bg n.k s a).2/\cS au w ad ae A R n (bg n.k s a).1 I
section
variable{au:List az}{w:x5}{ad ae:Nat}{A R:ah}{n:aH}{s:ak}{t:az}{a:fF}
theorem cS.same(h:bE w ad ae A R n s t)(a:Laid w)(e:¬A 0)(f:eB au t)(j:Ext w I):cS au w ad ae A R n s I:=(dM.start (m:=w.heap.size) (D:=λ_=>False) h a e f j (o4 _)).done (Ext.refl _)
theorem cS.before{U:x5}{s':ak}(a:Ext w U)(h:cS au U ad ae A R n s' I):cS au w ad ae A R n s' I:=by
 obtain⟨h1,e,aM,bs,f,j⟩:=h;exact⟨jf a h1,e,aM,bs,(Grow.W a).F f,j⟩
theorem yQ{j pos u:Int}{f:cr}{x:bn}(h:dk s j pos v=σ (f,u,x)):∃p e u':Nat,j=p/\pos=e/\u=u'/\s.d9[p]?=σ f/\f.live≠0/\f.sc[e]?=σ (u':Int)/\s.d6[u']?=σ x/\v∈aC x/\∀q,f.sc[e]?=σ q->v∈bb s q:=by
 obtain⟨h1,z,A,B,a,C⟩:=mH h;obtain⟨E,r,F,w⟩:=jK C;obtain⟨j,rfl⟩:=V9 h1;obtain⟨pos,rfl⟩:=V9 z;obtain⟨u,rfl⟩:=V9 E;refine⟨j,pos,u,rfl,rfl,rfl,A,B,a,r,w,λu' y=>?_⟩;have a:f.sc[pos]?=σ (u:Int):=a;rw[a]at y;cases y;unfold bb;rw[r];exact w
theorem FZ(hk:a.kind=0)(h:bE w ad ae A R n s t)(y:Laid w)(C:¬A 0)(E:eB au t):al v8 Ik [Γ ad,Δ a.i,Δ a.pos,Δ a.v,Δ a.c] w (pJ au w ad ae A R n s a):=by
 have J:=h.2.2.2.1;refine aB func75 ?_;refine(yM h).Y ?_;rintro _ U _ ⟨r,u,e,rfl,ac⟩;rw[bx,bz];have p:bg n.k s a=match dk s a.i a.pos a.v with
  |none=>(s,1)
  |some (f,u,x)=>if df n.k a.c (ee n.k s f a.pos.toNat a.v)≠0 then(s,df n.k a.c (ee n.k s f a.pos.toNat a.v))else(fW s a.i.toNat f a.pos.toNat u.toNat x a.v (λg=>cX n.k g a.c) λg=>ct n.k g a.c,0):=by unfold bg;rw[ms hk]<;>cases dk s a.i a.pos a.v<;>rfl
 rcases ac with⟨rfl,f,x,ac⟩|⟨rfl,ac⟩
 rotate_left
 .rw[ac]at p;rw[bL,am];exact⟨λ_=>⟨by rw[p],by rw[p];exact cS.same h y C E r⟩,λh=>ro Φ h⟩
 rw[ac]at p;rw[bL,am];refine⟨λh=>ro rfl h,λ_=>?_⟩;obtain⟨j,pos,u,T,V,W,G,K,hu,L,X,Y⟩:=yQ ac;have Z:=x7 G;simp only[T,V,W,u9]at p ⊢;refine(FV (j:=j) (pos:=pos) (h.W r) (y.W r) G K Y).Y ?_;rintro _ aa _ ⟨rfl,M⟩;refine(va (h.W (r.F M))).Y ?_;rintro _ ai _ ⟨ab,rfl⟩;have z:=(r.F M).F ab;refine c7 (λI=>cS au w ad ae A R n (bg n.k s a).1 I) ?_ λax N=>?_
 .intro I af;refine⟨?_,af⟩;rw[p];split
  .rfl
  .rename_i q;rw[X5.1 q]
 rw[bm,am];refine⟨λq=>?_,λq=>N _ ?_⟩
 .obtain⟨B,hm⟩:=lf (λh=>h q);rw[dm (cs:=#[.func (.func oL) #[] #[],.func (.func oM) #[] #[]]) Ψ];have O:∀t∈ck s f.sc pos a.v,a.c<=br f.aj f.cs t:=λt ag=>((nw _ _ _).1 hm).2 _ (j5.2 ⟨t,ag,rfl⟩);have P:=iP (v:=a.v.toNat) J L;refine(FX (t:=t) (F1:=oL) (F2:=oM) (tup:=λg=>cX n.k g a.c) (un:=λg=>ct n.k g a.c) (h.W z) (y.W z) C E G K hu L X (λtl Q=>?_) ⟨oq P B.1,λ{w A s t}H=>sw H P B⟩).Y ?_
  .have S:=nx (t:=tl) J Z;exact⟨oo S ⟨B.1,O tl Q⟩,λ{w A s t}H=>vb H S B (.inr (O tl Q))⟩
  .rintro _ ak _ ah;refine N _ ?_;rw[p,rc (λh=>h q)];exact ah.before z
 .rw[p,ms q];exact cS.same h y C E z
theorem R1(hk:a.kind=1)(h:bE w ad ae A R n s t)(C:Laid w)(E:¬A 0)(G:eB au t):al v8 Il [Γ ad,Δ a.i,Δ a.pos,Δ a.v,Δ a.c] w (pJ au w ad ae A R n s a):=by
 have H:=h.2.2.2.1;refine aB func76 ?_;refine(yM h).Y ?_;rintro _ U _ ⟨r,u,e,rfl,ac⟩;rw[bx,bz];have p:bg n.k s a=match dk s a.i a.pos a.v with
  |none=>(s,1)
  |some (f,u,x)=>if df n.k a.c (x.un.getD a.v.toNat 0)≠0 then(s,df n.k a.c (x.un.getD a.v.toNat 0))else(fW s a.i.toNat f a.pos.toNat u.toNat x a.v (λg=>ct n.k g a.c) λg=>cX n.k g a.c,0):=by unfold bg;rw[rc Ω,ms hk]<;>cases dk s a.i a.pos a.v<;>rfl
 rcases ac with⟨rfl,f,x,ac⟩|⟨rfl,ac⟩
 rotate_left
 .rw[ac]at p;rw[bL,am];exact⟨λ_=>⟨by rw[p],by rw[p];exact cS.same h C E G r⟩,λh=>ro Φ h⟩
 rw[ac]at p;rw[bL,am];refine⟨λh=>ro rfl h,λ_=>?_⟩;obtain⟨j,pos,u,Q,S,T,K,V,hu,y,L,af⟩:=yQ ac;have W:=x7 K;simp only[Q,S,T,u9]at p ⊢;refine(px (i:=(u:Int)) (v:=a.v) (h.W r)).Y ?_;rintro _ aa _ ⟨rfl,M⟩;have X:ff s (u:Int).toNat a.v.toNat=x.un.getD a.v.toNat 0:=by
  unfold ff;rw[u9,y]
 rw[ms (pI H y L),X,bx,bz];refine(va (h.W (r.F M))).Y ?_;rintro _ ag _ ⟨Y,rfl⟩;have z:=(r.F M).F Y;refine c7 (λI=>cS au w ad ae A R n (bg n.k s a).1 I) ?_ λax N=>?_
 .intro I Z;refine⟨?_,Z⟩;rw[p];split
  .rfl
  .rename_i q;rw[X5.1 q]
 rw[bm,am];refine⟨λq=>?_,λq=>N _ ?_⟩
 .obtain⟨B,hm⟩:=lf (λh=>h q);rw[dm (cs:=#[.func (.func oM) #[] #[],.func (.func oL) #[] #[]]) Ψ];have O:=iP (v:=a.v.toNat) H y;refine(FX (t:=t) (F1:=oM) (F2:=oL) (tup:=λg=>ct n.k g a.c) (un:=λg=>cX n.k g a.c) (h.W z) (C.W z) E G K V hu y L (λtl ah=>?_) ⟨oo O ⟨B.1,hm⟩,λ{w A s t}J=>vb J O B (.inr hm)⟩).Y ?_
  .have P:=nx (t:=tl) H W;exact⟨oq P B.1,λ{w A s t}J=>sw J P B⟩
  .rintro _ ai _ ab;refine N _ ?_;rw[p,rc (λh=>h q)];exact ab.before z
 .rw[p,ms q];exact cS.same h C E G z
end
def ic(s:ak)(i:Int):Option bn:=match(if 0<=i then s.d6[i.toNat]? else ν)with
 |some x=>if x.gone=0 then σ x else ν
 |none=>ν
theorem yR{s:ak}{i:Int}{x:bn}(h:ic s i=σ x):0<=i/\s.d6[i.toNat]?=σ x/\x.gone=0:=by
 unfold ic at h;by_cases a:0<=i
 .rw[ms a]at h;cases e:s.d6[i.toNat]? with
  |none=>rw[e]at h;cases h
  |some y=>
   rw[e]at h;simp only at h;split at h
   .rename_i f;cases h;exact⟨a,rfl,f⟩
   .cases h
 .rw[rc a]at h;cases h
theorem F0{g:Int->Int}{L:Λ}(h:L[j]?=σ v):eb g un (L.take (j+1))=(eb g un (L.take j)).set v.toNat (g ((eb g un (L.take j)).getD v.toNat 0)):=by
 unfold eb;rw[r9,h,j6,S3];rfl
theorem F3{i:Nat}{v:Int}:∀(L M:Λ)(s:ak),gu s i v (L++M)=gu (gu s i v L) i v M
 |[],_,_=>rfl
 |w::L,M,s=>by
  rw[List.cons_append,gu,gu];exact F3 L M _
theorem R8{s:ak}{i:Nat}{w:Int}{L:Λ}(h:L[j]?=σ w):gu s i v (L.take (j+1))=if w≠v then dK (gu s i v (L.take j)) i w.toNat else gu s i v (L.take j):=by
 rw[r9,h,j6,F3];rfl
def li(m u:Int):Int:=if m<0\/u<m then u else m
theorem F4:∀(l:Λ)(m:Int),0<=m->(∀c∈l,0<=c)->l.foldl li m=l.foldl min m
 |[],_,_,_=>rfl
 |c::l,m,hm,a=>by
  have f:=a c (.head _);have e:li m c=min m c:=by unfold li;split<;>omega
  rw[V5,V5,e];exact F4 l _ Ω λc h=>a c (.tail _ h)
theorem R9{x:bn}(h:∀v∈aC x,0<=x.un.getD v.toNat 0):((aC x).map λv=>x.un.getD v.toNat 0).foldl li (-1)=iO x:=by
 unfold iO;have a:∀c∈(aC x).map (λv=>x.un.getD v.toNat 0),0<=c:=λc e=>by
  obtain⟨v,f,rfl⟩:=j5.1 e;exact h v f
 generalize (aC x).map (λv=>x.un.getD v.toNat 0)=l at a;cases l with
 |nil=>rfl
 |cons c l=>exact F4 l c (a c (.head _)) λc h=>a c (.tail _ h)
section
variable{au:List az}{w:x5}{ad ae:Nat}{A R:ah}{n:aH}{s:ak}{t:az}{a:fF}
theorem F5{i:Int}(h:bE w ad ae A R n s t):al v8 I5 [Γ ad,Δ i] w λr I=>Ext w I/\r=Δ (if(ic s i).isSome=v2 then 0 else 1):=by
 have p:=h.2.2.2.1;have O:=p.d6;refine aB func152 ?_;rw[dg eL.u];simp only[Y2,a6];refine aZ (λr U=>r= .bool (!(ic s i).isSome)/\Ext w U) ?_ ?_
 .rintro _ U ⟨rfl,C⟩;rw[b4];exact⟨λq=>⟨C,by rw[rc (by simpa using q)]⟩,λq=>⟨C,by rw[ms (by simpa using q)]⟩⟩
 intro ax E;refine(uO h).Y ?_;rintro _ aa _ ⟨rfl,y⟩;rw[b4];refine⟨λa=>E _ _ ⟨?_,y⟩,λa=>?_⟩
 .rw[U9,sp]at a;have K:ic s i=ν:=by
   unfold ic;rw[ms a.1];have B:=a.2;unfold dr at B;cases f:s.d6[i.toNat]? with
   |none=>rfl
   |some x=>
    rw[f]at B;simp only;rw[rc λh=>by simp[h]at B]
  rw[K];rfl
 refine(kC (i:=i) (h.W y)).Y ?_;rintro _ P _ ⟨⟨b,m,rfl,G⟩,L⟩;refine(wV).Y ?_;rintro _ Q _ ⟨rfl,M⟩;rw[bm];refine E _ _ ⟨?_,(y.F L).F M⟩;congr 1;by_cases j:0<=i/\i<n.co.length
 .obtain⟨x,f⟩:=aD (l:=s.d6) (i:=i.toNat) Ω;obtain⟨z,H⟩:=aD (l:=n.co) (i:=i.toNat) Ω;have S:=p.ed.2.2 z (x7 H);have V:=(p.var _ x z f H).1;have hm:=(G.2.2 x j.1 f).1;have N:x.gone=0:=by
   rw[rs j.1,Q4]at a;unfold dr at a;rw[f]at a;simpa using a
  have e:ic s i=σ x:=by
   unfold ic;rw[ms j.1,f];simp only;rw[ms N]
  rw[e,s2 Ω];rfl
 .obtain⟨rfl,rfl⟩:=G.2.1 j;have e:ic s i=ν:=by
   unfold ic;by_cases J:0<=i
   .rw[ms J,Y5 Ω]
   .rw[rc J]
  rw[e];rfl
theorem F6{u:Nat}{x:bn}{F1 F2:Q6}{g z:Int->Int}(h:bE w ad ae A R n s t)(aB:Laid w)(a2:¬A 0)(a6:eB au t)(a:s.d6[u]?=σ x)(h1:∀v∈aC x,(0<=g (x.un.getD v.toNat 0)/\g (x.un.getD v.toNat 0)<=n.k)/\∀{w:x5}{A:ah}{s:ak}{t:az},bE w ad ae A R n s t->al v8 F1 [Γ ad,Δ (x.un.getD v.toNat 0),Δ c] w λr I=>r=Δ (g (x.un.getD v.toNat 0))/\Ext w I)(aD:(0<=z s.zero/\z s.zero<=n.k)/\∀{w:x5}{A:ah}{s':ak}{t:az},bE w ad ae A R n s' t->al v8 F2 [Γ ad,Δ s.zero,Δ c] w λr I=>r=Δ (z s.zero)/\Ext w I):
  al v8 I6 [Γ ad,Δ (u:Int),Δ c,.func (.func F1) #[] #[],.func (.func F2) #[] #[]] w λ_ I=>cS au w ad ae A R n (ir s u x g z) I:=by
 have a7:=h.2.2.2.1;have W:=(x6.1 a).1;refine jr func153 ?_;refine bp λg1 U bw aF f=>?_;refine bp λa8 aa bA X q=>?_;refine bp λbB bC bD J C=>?_;refine bp λbF B bG K L=>?_;have f:ag B g1 eL [Γ ad]:=((ag.W f X).W J).W K;have q:ag B a8 ai [Δ (u:Int)]:=(ag.W q J).W K;have C:=ag.W C K;have L:=L;have M:=((aF.F X).F J).F K;have bH:=aF.size;have bI:=X.size;have z3:=J.size;have bJ:=M.size;have N:=f.lt;have aG:=q.lt;have aH:=C.lt;have ba:=L.lt;rw[aE Ψ (f.cell rfl),aE Ψ (q.cell rfl)];refine(kC (i:=(u:Int)) (h.W M)).Y ?_;rintro _ bK _ ⟨⟨b,bL,rfl,aI⟩,aJ⟩;refine(nW).Y ?_;rintro _ Y _ ⟨bb,aK,rfl,bM,aL⟩;have aN:=mD aI Ω (show s.d6[(u:Int).toNat]?=σ x by rw[u9];exact a);have E:=aJ.F bb;have z5:=aJ.size;have z46:=E.size;have bN:=aL.lt;have aO:=sk x;have bc:eH s u x (eb g x.un ((aC x).take 0))=s:=by
  unfold eH;show{s with d6:=s.d6.set u x}=s;have:s.d6.set u x=s.d6:=by
   apply X0;intro i;by_cases e:u=i
   .subst e;rw[n9 W,a]
   .rw[Z6 e]
  rw[this]
 refine lx.old ⟨_,v6,kl,#[Γ aK],_,_,_,_,λj I=>dM au w ad ae A R n w.heap.size (λr=>Y.heap.size<=r) (eH s u x (eb g x.un ((aC x).take j))) I/\af (λr=>r<w.heap.size\/Y.heap.size<=r) Y I,λ_ _ _=>False,rfl,(nV (g:=aK) aI.1).s,?_,
  λ_ _ a h=>⟨h.1.W a,h.2.W a⟩,λ_ _ _ a h=>⟨h.1.W a,h.2.F (a.V _)⟩,λ_ _ _ _ _ h=>h,⟨aL,aB.W (M.F E)⟩,?_,?_,?_,λ_ _ h=>h.elim,λ_ _ _ h=>h.elim⟩
 .rintro _ _ _ _ ⟨_,_,_,_,rfl⟩;rfl
 .refine⟨?_,af.refl _ _⟩;rw[bc];exact dM.start h aB a2 a6 (M.F E) (o4 _)
 .rintro _ j _ bd ⟨be,bO⟩ ⟨bP,rfl,v,bf,bg⟩ ⟨O,G⟩;cases bg;intro bQ P _ _;have Z:(aC x)[j]?=σ (v:Int):=by rw[<-aN,u4,bf];rfl
  have aP:=x7 Z;have aY:∀{H:x5}{g:Nat}{e:o5}{cs:List x4},Ext bd H->w.heap.size<=g->g<B.heap.size->ag B g e cs->ag H g e cs:=λa aQ aR ab=>((ab.W E).V G Ω).W a;obtain⟨bR,bS,ac,aS,aj⟩:=O.open;have aT:et n (u:Int) (v:Int):=pI a7 a aP;have bh:∀y∈aC x,0<=y/\y<x.un.length:=λy am=>(e6.1 am).1;have an:=uX (g:=g) ((aC x).take j) x.un (v:Int) (aO.sublist (List.take_sublist _ _)) (λy am=>bh y (T1 am)) Ω;rw[rc (yK aO Z)]at an;have bi:ff (eH s u x (eb g x.un ((aC x).take j))) (u:Int).toNat (v:Int).toNat=x.un.getD (v:Int).toNat 0:=by
   unfold ff eH;rw[u9,n9 W];exact an
  rw[aE Ψ ((aY P Ω N f).cell rfl),aE Ψ ((aY P Ω aG q).cell rfl)];refine(px (ac.W P)).Y ?_;rintro _ bT _ ⟨rfl,bj⟩;rw[ms aT,bi,bx,bz];intro bk bl _ _;have p:=(P.F bj).F bl;rw[aE Ψ ((aY p Ω N f).cell rfl),aE Ψ ((aY p Ω aG q).cell rfl),
   aE Ψ ((aY p Ω ba L).cell rfl),aE Ψ ((aY p Ω N f).cell rfl),aE Ψ ((aY p Ω aH C).cell rfl)]
  show al v8 F1 [Γ ad,Δ (x.un.getD (v:Int).toNat 0),Δ c] bk _;obtain⟨bm,bo⟩:=h1 v aP;refine(bo (ac.W p)).Y ?_;rintro _ bU _ ⟨rfl,aU⟩;have ao:=p.F aU;refine⟨.inl aU,(E7 (ac.W ao) aS.room).Y ?_⟩;rintro r bV _ ⟨_,_,ap⟩;obtain⟨_,aq,aM,bq,br,av,Q⟩:=ap aT bm;have e:k9 (eH s u x (eb g x.un ((aC x).take j))) (u:Int).toNat (v:Int).toNat (g (x.un.getD (v:Int).toNat 0))=eH s u x (eb g x.un ((aC x).take (j+1))):=by
   rw[F0 Z,an];unfold k9 eH;rw[u9,n9 W];simp only[List.set_set]
  rw[e]at Q;have bW:=G.size;obtain⟨aV,aW,bX⟩:=aj (jf ao aq) ((Grow.W ao).F av) Q aS.set (λr h=>h) λr aQ aR=>Ω
  exact⟨⟨be.V aW Ω,aV.2.1.1⟩,⟨aV,G.F aW⟩,λh=>by cases h⟩
 .rintro k bs rfl ⟨O,G⟩;rw[Z0 (by rw[<-aN,r8];exact o4 _)]at O;obtain⟨bY,bZ,aw,aX,aj⟩:=O.open;have aY:∀{H:x5}{g:Nat}{e:o5}{cs:List x4},Ext bs H->w.heap.size<=g->g<B.heap.size->ag B g e cs->ag H g e cs:=λa aQ aR ab=>((ab.W E).V G Ω).W a;intro b0 S _ _;have ax:=aY S Ω N f;rw[aE Ψ (ax.cell rfl),aE Ψ (ax.cell rfl),aE Ψ (ax.cell rfl),aE Ψ ((aY S Ω aH C).cell rfl)];refine(pw (aw.W S)).Y ?_;rintro _ bt _ ⟨rfl,ay⟩;have aZ:=S.F ay;refine⟨.inl ay,?_⟩;show al v8 F2 [Γ ad,Δ s.zero,Δ c] bt _;refine(aD.2 (aw.W aZ)).Y ?_;rintro _ b1 _ ⟨rfl,a1⟩;have aA:=aZ.F a1;refine⟨.inl (ay.F a1),(Qt (aw.W aA) aX.room).Y ?_⟩;rintro r b2 _ ⟨_,ap⟩;obtain⟨_,aq,aM,bq,br,av,Q⟩:=ap aD.1;intro b3 bu _;exact(aj (jf aA aq) ((Grow.W aA).F av) Q aX.set (λ_ _=>trivial) λ_ _ _=>trivial).1.done bu
end
section
variable{w:x5}{ad ae ao:Nat}{A R:ah}{A9:Nat->ah}{aG:ah}{n:aH}{s u:ak}{t:az}{h:List az}{cs:List x4}{a:fF}
theorem Sa(hk:a.kind<2):bg n.k u a=match dk u a.i a.pos a.v with
  |none=>(u,1)
  |some (f,v,x)=>if df n.k a.c (if a.kind=1 then x.un.getD a.v.toNat 0 else ee n.k u f a.pos.toNat a.v)≠0 then(u,df n.k a.c (if a.kind=1 then x.un.getD a.v.toNat 0 else ee n.k u f a.pos.toNat a.v))
   else(fW u a.i.toNat f a.pos.toNat v.toNat x a.v (λg=>if a.kind=0 then cX n.k g a.c else ct n.k g a.c) λg=>if a.kind=0 then ct n.k g a.c else cX n.k g a.c,0):=by
 unfold bg;by_cases e:a.kind=0
 .rw[ms e];simp only[e];cases dk u a.i a.pos a.v<;>rfl
 .have h1:a.kind=1:=Ω
  rw[rc e,ms h1];simp only[h1];cases dk u a.i a.pos a.v<;>rfl
theorem getD_some{i:Nat}(h:i<l.length):l[i]?=σ (l.getD i 0):=by
 rw[u5,x8 h];rfl
theorem Sb(p:cb w ad ae ao A R A9 aG n s u t h cs)(G:bd n.k n.co u)(bO:b3 u)(hk:a.kind<2):al v8 wi [Γ ao,Δ (a.kind:Int),Δ a.i,Δ a.pos,Δ a.v,Δ a.c] w λr I=>r=Δ (bg n.k u a).2/\cu w ad ae ao A R A9 aG n s t h (bg n.k u a).1 I:=by
 have C:=Sa (n:=n) (u:=u) hk;have c5:=G.d6;have bP:=G.fs;refine aB func74 ?_;have bR:cs[0]?=σ (Δ n.k):=by obtain⟨_,_,_,_,_,_,rfl,_⟩:=p.pE;rfl
 rw[aK aI.p 0 p.box bR,aS,am];refine⟨λ_=>?_,λh=>Ω⟩;rw[bY];refine p.look.load λeM bS=>?_;refine(RJ bS G bO).Y ?_;rintro _ U _ ⟨aC,rfl⟩;cases ac:dk u a.i a.pos a.v with
 |none=>
  rw[ac]at C;simp only;rw[bx,bz,bM,W6,bQ];exact⟨by rw[C],by rw[C];exact cu.same p aC⟩
 |some q=>
 obtain⟨f,P,x⟩:=q;rw[ac]at C;simp only;rw[bx,bz,bM,X3,a6];obtain⟨j,pos,P,bV,bX,bZ,Q,c6,hu,M,b0,aV⟩:=yQ ac;have aH:=x7 Q;simp only[bV,bX,bZ,u9]at C ⊢;have b1:=(x6.1 Q).1;have bn:=(x6.1 M).1;have b2:=(x6.1 hu).1;obtain⟨b5,c8⟩:=ld G aH;have b6:=FJ G aH aV;have b7:=(e6.1 b0).1;obtain⟨v,S⟩:=V9 b7.1;have bo:=iP (v:=a.v.toNat) G M;have aJ:=p.W aC;have bp:∀{aa:x5}{e3:ak}{bq:List x4}{bs:Nat->ah}{f2:cr},cb aa ad ae ao A R bs aG n s e3 t h bq->e3.d9[j]?=σ f2->∃W cap Y aW y,bq[6]?=σ (.slice (σ ⟨W,0,ν⟩) e3.d9.length cap)/\j<e3.d9.length/\aa.cell? ⟨W,0+j*4+0+0,ν⟩=σ Y/\aa.cell? ⟨W,0+j*4+0+2,ν⟩=σ y/\aN .i64 aa Y f2.sc/\aN .i64 aa y f2.cs/\
   ∀{I:x5}{m:Nat}{c:Int}{K:Unit->x5->Prop},Ext aa I->m<f2.cs.length->(∀bt,cu aa ad ae ao A R bs aG n s t h (ea e3 j f2 (f2.cs.set m c)) bt->K () bt)->ab v8 (c9 aw y (Δ (m:Int))) I λa=>aF v8 (l9 av a (Δ c)) I K:=λb8 aL=>by
  obtain⟨W,cap,Y,aW,y,b9,bu,ca,cc,X⟩:=FP b8 aL;exact⟨W,cap,Y,aW,y,b9,(x6.1 aL).1,by rw[X6];exact bu 0 _ rfl,by rw[X6];exact bu 2 _ rfl,ca,cc,X⟩
 obtain⟨W,da,Y,aW,db,ce,cf,cg,_,ch,_,_⟩:=bp aJ Q;rw[aK aI.p 6 aJ.box ce,eS du.u c0.i cf λ_=>rfl,aU c0.p rfl,aU a7.p rfl,aE Ψ cg,bk aq.u ai.i Ψ ch hu];generalize bw:(if a.kind=1 then x.un.getD a.v.toNat 0 else ee n.k u f pos a.v)=most at C;refine aZ (λr aa=>r=Δ most/\Ext w aa) ?_ λax bA=>?_
 rotate_left
 .rw[bm,am];refine⟨λh1=>?_,λh1=>bA _ _ ⟨by rw[<-bw,rc Ω],aC⟩⟩;have h1:a.kind=1:=Ω
  obtain⟨aX,bB,y,aY,a2,aM,_⟩:=sx aJ M;rw[aK aI.p 5 aJ.box aY,eS cZ.u aw.i bn λ_=>rfl,aE Ψ (by rw[X6,T0];exact a2),S,bk aw.u av.i Ψ aM (getD_some Ω)];refine bA _ _ ⟨?_,aC⟩;rw[<-bw,ms h1,S,u9]
 rintro _ aa ⟨rfl,ci⟩;refine Bh.Y ?_;rintro _ dc _ ⟨rfl,cj⟩;have Z:=ci.F cj;have bC:cG a.c n.k↔0<=a.c/\a.c<=n.k:=⟨λh=>h.2,λaL=>⟨bP,aL⟩⟩;rw[bM,b4];refine⟨λag=>?_,λag=>?_⟩
 .have cl:¬cG a.c n.k:=by simpa using ag
  have E:df n.k a.c most=3:=by unfold df;rw[ms λh=>cl (bC.2 h)]
  rw[ms (by rw[E];decide),E]at C;exact⟨by rw[C],by rw[C];exact cu.same p Z⟩
 have bE:=bC.1 (show cG a.c n.k by simpa using ag);rw[bU,am];refine⟨λcm=>?_,λcn=>?_⟩
 .have E:df n.k a.c most=7:=by unfold df;rw[rc (λh=>h bE),ms cm]
  rw[ms (by rw[E];decide),E]at C;exact⟨by rw[C],by rw[C];exact cu.same p Z⟩
 have E:df n.k a.c most=0:=by unfold df;rw[rc (λh=>h bE),rc cn]
 rw[rc (λh=>h E)]at C;have cp:=p.W Z;rw[bY];refine cp.look.load λdd cq=>?_;refine(FO cq G Q b2 aV).Y ?_;rintro aT a8 _ ⟨cw,ba,cz⟩;have bF:=Z.F cw;rw[a1 aq.u ba];have bH:(mJ u f pos a.v).length=(ck u f.sc pos a.v).length:=by unfold mJ;rw[r8]
 rw[bH];obtain⟨tup,bb⟩:∃tup:Int->Int,tup=λg=>if a.kind=0 then cX n.k g a.c else ct n.k g a.c:=⟨_,rfl⟩;obtain⟨un,bc⟩:∃un:Int->Int,un=λg=>if a.kind=0 then ct n.k g a.c else cX n.k g a.c:=⟨_,rfl⟩;rw[<-bb,<-bc]at C;have cA:=p.olds.W bF;have de:=p.box.lt;have dg:=Z.size;have cB:∀{I:x5},af (λr=>(∃q,A9 q r/\r<w.heap.size)\/r=ao) a8 I->aN .i64 I aT (mJ u f pos a.v):=λcC=>i7 ba cC λr E b n c e ag=>by
  have:=cz r ⟨b,n,c,e,ag⟩;rcases E with⟨q,E⟩|E
  .have:=E.2;omega
  .omega
 refine bW.range (ck u f.sc pos a.v).length (λq I=>cu a8 ad ae ao A R (λq r=>A9 q r/\r<w.heap.size) aG n s t h (ea u j f (dS tup ((ck u f.sc pos a.v).take q) f.aj f.cs)) I) (by rw[<-bH];exact ba.le) ?_ ?_ ?_
 .rw[List.take_zero,FW G Q];exact cu.same cA (Ext.refl _)
 .rintro q an cD cE aO cF;obtain⟨tl,be⟩:=aD (l:=ck u f.sc pos a.v) cE;obtain⟨m,hm⟩:=su G aH aV (x7 be);have cH:(mJ u f pos a.v)[q]?=σ (m:Int):=by
   unfold mJ;rw[u4,be];unfold pG;rw[Y3,hm];rfl
  obtain⟨bI,bJ⟩:=FK G Q b6 be hm;have cI:=(x6.1 (nX b5 hm)).1;have dh:m<f.cs.length:=by rw[u9]at cI;omega
  obtain⟨X,cJ,bK,O,bf⟩:=id aO;obtain⟨bD,bL⟩:∃bD,bD=dS tup ((ck u f.sc pos a.v).take q) f.aj f.cs:=⟨_,rfl⟩;have di:bD.length=f.cs.length:=by rw[bL,py _ _ _ _ Ω]
  rw[<-bL]at O bI bJ;have bN:(ea u j f bD).d9[j]?=σ {f with cs:=bD}:=n9 b1;obtain⟨aQ,cK,dj,dl,cL,cM,cN,_,bh,_,cO,cP⟩:=bp O bN;have cQ:bD[m]?=σ (br f.aj f.cs tl):=by
   rw[getD_some Ω,<-bI];unfold br;rw[hm];simp
  have dm:=nx (t:=tl) G aH;have dn:bK[0]?=σ (Δ n.k):=by obtain⟨_,_,_,_,_,_,rfl,_⟩:=O.pE;rfl
  have cR:=cB X;refine bG Ω ?_;refine c7 (λH=>cu a8 ad ae ao A R (λq r=>A9 q r/\r<w.heap.size) aG n s t h (ea u j f (dS tup ((ck u f.sc pos a.v).take (q+1)) f.aj f.cs)) H) (λH N=>by rw[aP];exact cF _ N) λcS cT=>?_;have ap:∀{J:x5},Ext an J->ab v8 (c9 aw cL (Δ (m:Int))) J λa'=>aF v8 (l9 av a' (Δ (tup (br f.aj f.cs tl)))) J λ(_:Unit)H=>cS H:=λbi=>by
   refine cP bi (by show m<bD.length;omega) λH N=>cT _ (cu.comp X bf ?_);have cU:ea (ea u j f bD) j {f with cs:=bD} (bD.set m (tup (br f.aj f.cs tl)))=la (ea u j f bD) j m (tup (br f.aj f.cs tl)):=by unfold la;rw[bN];rfl
   rw[cU,bJ]at N;exact N
  have row:∀{z:x5}{K:x4->x4->x4->x4->x4->x4->Prop},Ext an z->K (Γ ao) (.pointer (σ ⟨ao,0+6,ν⟩)) (.slice (σ ⟨aQ,0,ν⟩) (ea u j f bD).d9.length cK) (.pointer (σ ⟨aQ,0+j*4,ν⟩)) (.pointer (σ ⟨aQ,0+j*4+0,ν⟩)) (.pointer (σ ⟨aQ,0+j*4+0+2,ν⟩))->
    ab v8 (bT (Γ ao)) z λau=>ab v8 (u7 aI au 6) z λay=>ab v8 (u6 du ay) z λaz=>ab v8 (c9 du az (Δ (j:Int))) z λaA=>ab v8 (u7 c0 aA 0) z λaR=>ab v8 (u7 a7 aR 2) z λcV=>K au ay az aA aR cV:=λM bj=>by
   rw[aK aI.p 6 (O.box.W M) cM,eS du.u c0.i cN λ_=>rfl,aU c0.p rfl,aU a7.p rfl];exact bj
  rw[bk aq.u ai.i Ψ cR cH];refine row (Ext.refl _) ?_;rw[aE Ψ bh,bk aw.u av.i Ψ cO cQ,bm,am];refine⟨λbl=>?_,λbl=>?_⟩
  .intro z B _ _;refine row B ?_;rw[aE Ψ (jU B bh)];refine(vd Ω Ω).Y ?_;rintro _ J _ ⟨rfl,L⟩;refine⟨.inl L,?_⟩;have:=ap (B.F L);rw[bb]at this;simp only[ms (show a.kind=0 by omega)]at this;exact this
  .intro z B _ _;refine row B ?_;rw[aE Ψ (jU B bh)];refine(n0 Ω Ω).Y ?_;rintro _ J _ ⟨rfl,L⟩;refine⟨.inl L,?_⟩;have:=ap (B.F L);rw[bb]at this;simp only[rc (show¬a.kind=0 by omega)]at this;exact this
 .rintro an cD aO;rw[j4]at aO;refine cd Ω ?_;obtain⟨X,cJ,bK,O,bf⟩:=id aO;have cW:(ea u j f (dS tup (ck u f.sc pos a.v) f.aj f.cs)).d6[P]?=σ x:=M;obtain⟨aX,bB,y,aY,a2,aM,cY⟩:=sx O cW;refine c7 (λH=>cu w ad ae ao A R A9 aG n s t h (fW u j f pos P x a.v tup un) H) (λH N=>⟨by rw[C],by rw[C];exact N⟩) λc1 c2=>?_;have c3:P<(ea u j f (dS tup (ck u f.sc pos a.v) f.aj f.cs)).d6.length:=bn;have row:∀{z:x5}{K:x4->x4->x4->x4->x4->Prop},Ext an z->K (Γ ao) (.pointer (σ ⟨ao,0+5,ν⟩)) (.slice (σ ⟨aX,0,ν⟩) (ea u j f (dS tup (ck u f.sc pos a.v) f.aj f.cs)).d6.length bB) (.pointer (σ ⟨aX,0+P*1,ν⟩)) y->
    ab v8 (bT (Γ ao)) z λau=>ab v8 (u7 aI au 5) z λay=>ab v8 (u6 cZ ay) z λaz=>ab v8 (c9 cZ az (Δ (P:Int))) z λaA=>ab v8 (u6 aw aA) z λaR=>K au ay az aA aR:=λM bj=>by
   rw[aK aI.p 5 (O.box.W M) aY,eS cZ.u aw.i c3 λ_=>rfl,aE Ψ (by rw[X6,T0];exact jU M a2)];exact bj
  have ap:∀{J:x5},Ext an J->ab v8 (c9 aw y (Δ (v:Int))) J λa'=>aF v8 (l9 av a' (Δ (un (x.un.getD v 0)))) J λ(_:Unit)H=>c1 H:=λbi=>by
   refine cY bi Ω λH N=>c2 _ ?_;have c4:=cu.comp X bf N.yO;have:=cu.comp (bF.V _) (λq r E=>.inl ⟨q,E.1⟩) c4;unfold fW;rw[show a.v.toNat=v by omega];exact this
  rw[bm,am];refine⟨λbl=>?_,λbl=>?_⟩
  .intro z B _ _;refine row B (row B ?_);rw[S,bk aw.u av.i Ψ (aM.W B) (getD_some Ω)];rw[S,u9]at bo;refine(n0 Ω Ω).Y ?_;rintro _ J _ ⟨rfl,L⟩;refine⟨.inl L,?_⟩;have:=ap (B.F L);rw[bc]at this;simp only[ms (show a.kind=0 by omega)]at this;exact this
  .intro z B _ _;refine row B (row B ?_);rw[S,bk aw.u av.i Ψ (aM.W B) (getD_some Ω)];rw[S,u9]at bo;refine(vd Ω Ω).Y ?_;rintro _ J _ ⟨rfl,L⟩;refine⟨.inl L,?_⟩;have:=ap (B.F L);rw[bc]at this;simp only[rc (show¬a.kind=0 by omega)]at this;exact this
end
section
variable{au:List az}{w:x5}{ad ae:Nat}{A R:ah}{n:aH}{s:ak}{t:az}{a:fF}
theorem cS.step{U aa:x5}{aM:ah}{s':ak}{bs:az}(h:bE w ad ae A R n s t)(j:Laid w)(f:¬A 0)(a:Ext w U)(p:af (eG U) U aa)(e:Grow A U aM aa)(q:bE aa ad ae aM R n s' bs)(r:eB au bs):cS au w ad ae A R n s' aa:=by
 refine⟨jf a p,iz e.1 f (j.W a),aM,bs,(Grow.W a).F e,q,r,λx=>(e.2.1 0 x).elim f λy=>?_⟩;obtain⟨z,B,C,E,⟨h1,_⟩,_⟩:=h.1;have:=h.lt (.inl h1);have:=a.size;omega
theorem yS(hk:a.kind=2):bg n.k s a=match ic s a.i with
  |none=>(s,1)
  |some x=>if df n.k a.c (iO x)≠0 then(s,df n.k a.c (iO x))else(ir s a.i.toNat x (λg=>cX n.k g a.c) λg=>ct n.k g a.c,0):=by
 unfold bg ic;rw[rc Ω,rc Ω,ms hk];cases (if 0<=a.i then s.d6[a.i.toNat]? else ν)with
 |none=>rfl
 |some x=>
  simp only;by_cases e:x.gone=0
  .rw[rc Ω,ms e]
  .rw[ms e,rc e]
theorem yT(hk:a.kind=3):bg n.k s a=match ic s a.i with
  |none=>(s,1)
  |some x=>if df n.k a.c (if aC x=[]then-1 else s.zero)≠0 then(s,df n.k a.c (if aC x=[]then-1 else s.zero))else(ir s a.i.toNat x (λg=>ct n.k g a.c) λg=>cX n.k g a.c,0):=by
 unfold bg ic;rw[rc Ω,rc Ω,rc Ω,ms hk];cases (if 0<=a.i then s.d6[a.i.toNat]? else ν)with
 |none=>rfl
 |some x=>
  simp only;by_cases e:x.gone=0
  .rw[rc Ω,ms e]
  .rw[ms e,rc e]
theorem F7(hk:a.kind=2)(h:bE w ad ae A R n s t)(M:Laid w)(Y:¬A 0)(Z:eB au t):al v8 Im [Γ ad,Δ a.i,Δ a.c] w (pJ au w ad ae A R n s a):=by
 have E:=h.2.2.2.1;have f:=yS (n:=n) (s:=s) hk;refine jr func77 ?_;refine bp λg1 U bB az G=>?_;refine bp λaA aa bC ab H=>?_;have G:=ag.W G ab;have H:=H;have ac:=az.F ab;have bD:=az.size;have bG:=ab.size;have bH:=G.lt;have bI:=H.lt;rw[aE Ψ (G.cell rfl),aE Ψ (H.cell rfl)];refine(F5 (h.W ac)).Y ?_;rintro _ bJ _ ⟨ah,rfl⟩;have a1:=ac.F ah;have z3:=ah.size;cases B:ic s a.i with
 |none=>
  rw[B]at f;rw[rc Ξ,bL,am];refine⟨λ_=>?_,λh=>ro Φ h⟩;intro a2 a6 _;exact⟨by rw[f],by rw[f];exact cS.same h M Y Z (a1.F a6)⟩
 |some x=>
 rw[B]at f;simp only at f;obtain⟨aB,e,bK⟩:=yR B;obtain⟨u,hu⟩:=V9 aB;rw[hu,u9]at e;rw[hu,u9]at f;rw[ms (by rfl),bL,am];refine⟨λh=>ro rfl h,λ_=>?_⟩;refine bF av.i λaD bM bN aF aG=>?_;refine bt av.i rfl rfl aG (by simp[x4.cells]) λaH aj bO N=>?_;have N:=N;have z5:=aF.size;have bP:=aG.lt;have ak:=ah.F aF;have an:ag aH g1 eL [Γ ad]:=(G.W ak).V aj Ω;have ao:ag aH aA ai [Δ a.i]:=(H.W ak).V aj Ω;have O:=(ac.F ak).then aj (by rintro r aI rfl;omega);rw[aE Ψ (an.cell rfl),aE Ψ (ao.cell rfl)];refine(kC (i:=a.i) (h.W O)).Y ?_;rintro _ bQ _ ⟨⟨b,bR,rfl,aJ⟩,aK⟩;refine(nW).Y ?_;rintro _ a7 _ ⟨a8,aL,rfl,bS,aN⟩;have aO:=mD aJ aB (show s.d6[a.i.toNat]?=σ x by rw[hu,u9];exact e);have p:=aK.F a8;have bT:=aK.size;have bU:=aN.lt;have bV:=N.lt;have aP:∀j (v:Nat),(aC x)[j]?=σ (v:Int)->(((aC x).take (j+1)).map λv=>x.un.getD v.toNat 0).foldl li (-1)=li ((((aC x).take j).map λv=>x.un.getD v.toNat 0).foldl li (-1)) (x.un.getD v 0):=λj v aQ=>by
  rw[r9,aQ,j6,Z3,S3];rfl
 refine lx.old ⟨_,v6,kl,#[Γ aL],_,_,_,_,λj I=>af (λr=>r=aD) a7 I/\ag I aD av [Δ ((((aC x).take j).map λv=>x.un.getD v.toNat 0).foldl li (-1))],λ_ _ _=>False,rfl,(nV (g:=aL) aJ.1).s,?_,
  λ_ _ e h=>⟨h.1.W e,h.2.W e⟩,λ_ _ _ e h=>⟨h.1.F (e.V _),h.2.W e⟩,λ_ _ _ _ _ h=>h,⟨aN,M.W (O.F p)⟩,⟨af.refl _ _,N.W p⟩,?_,?_,λ_ _ h=>h.elim,λ_ _ _ h=>h.elim⟩
 .rintro _ _ _ _ ⟨_,_,_,_,rfl⟩;rfl
 .rintro _ j _ bW ⟨aR,aT⟩ ⟨aQ,rfl,v,ba,bb⟩ ⟨y,P⟩;cases bb;intro bX aU _ _;have ap:(aC x)[j]?=σ (v:Int):=by rw[<-aO,u4,ba];rfl
  have bc:=pI E e (x7 ap);have aq:=y.F (aU.V _);have bd:=(O.F p).then aq (by rintro r aI rfl;omega);rw[aE Ψ (((an.W p).V aq Ω).cell rfl),aE Ψ (((ao.W p).V aq Ω).cell rfl)];refine(px (h.W bd)).Y ?_;rintro _ be _ ⟨rfl,bf⟩;have bh:ff s a.i.toNat (v:Int).toNat=x.un.getD v 0:=by
   unfold ff;rw[hu,u9,e];rfl
  rw[ms (by rw[hu];exact bc),bh,bx,bz];have J:=aU.F bf;have K:=P.W J;refine aZ (λr bi=>(r= .bool (decide ((((aC x).take j).map λv=>x.un.getD v.toNat 0).foldl li (-1)<0\/x.un.getD v 0<(((aC x).take j).map λv=>x.un.getD v.toNat 0).foldl li (-1))))/\bi=be) ?_ λax L=>?_
  .rintro _ _ ⟨rfl,rfl⟩;rw[am];refine⟨λQ=>?_,λS=>?_⟩
   .refine bt av.i rfl rfl K Ξ λbY bj bZ bk=>?_;have q:=(J.V _).F bj;refine⟨⟨aR.V q Ω,iz q Ω aT⟩,⟨y.F q,?_⟩,λh=>by cases h⟩;rw[aP j v ap];unfold li at Q ⊢;rw[ms Q];exact bk
   .refine⟨⟨aR.W J,aT.W J⟩,⟨y.F (J.V _),?_⟩,λh=>by cases h⟩;rw[aP j v ap];unfold li at S K ⊢;rw[rc S];exact K
  rw[aE Ψ (K.cell rfl),aS,am];refine⟨λQ=>L _ _ ⟨by rw[rs (Or.inl Q)],rfl⟩,λS=>?_⟩;rw[aE Ψ (K.cell rfl),aS];refine L _ _ ⟨?_,rfl⟩;congr 1;exact decide_eq_decide.2 ⟨.inr,λh=>h.resolve_left S⟩
 .rintro k aV rfl ⟨y,P⟩;rw[Z0 (by rw[<-aO,r8];exact o4 _),R9 λv _=>(iP E e).1]at P;have aW:=(O.F p).then y (by rintro r aI rfl;omega);have aX:ag aV g1 eL [Γ ad]:=(an.W p).V y Ω;have bl:ag aV aA ai [Δ a.i]:=(ao.W p).V y Ω;rw[aE Ψ (aX.cell rfl),aE Ψ (P.cell rfl)];refine(va (h.W aW)).Y ?_;rintro _ b0 _ ⟨aw,rfl⟩;have W:=aW.F aw;refine c7 (λI=>cS au w ad ae A R n (bg n.k s a).1 I) ?_ λax L=>?_
  .intro I bn b1 X _;obtain⟨bo,bq,aM,bs,br,bu,bw⟩:=bn;refine⟨?_,bo.F (X.V _),bq.W X,aM,bs,br.F (Grow.W X),bu.W X,bw⟩;rw[f];split
   .rfl
   .rename_i C;rw[X5.1 C]
  rw[bm,am];refine⟨λC=>?_,λC=>L _ ?_⟩
  .obtain⟨q,hm⟩:=lf (λh=>h C);rw[aE Ψ ((aX.W aw).cell rfl),aE Ψ ((bl.W aw).Qz rfl),hu];refine(F6 (t:=t) (u:=u) (F1:=oL) (F2:=oM) (g:=λg=>cX n.k g a.c) (z:=λg=>ct n.k g a.c) (h.W W) (M.W W) Y Z e (λv B=>?_) ⟨oq E.zero q.1,λ{w A s' t}ay=>sw ay E.zero q⟩).Y ?_
   .have aY:=iP (v:=v.toNat) E e;exact⟨oo aY ⟨q.1,yB B hm⟩,λ{w A s t}ay=>vb ay aY q (.inr (yB B hm))⟩
   .rintro _ a2 _ bA;refine L _ ?_;rw[f,rc (λh=>h C)];exact bA.before W
  .rw[f,ms C];exact cS.same h M Y Z W
theorem Sc{b m:Nat}{i:Int}{x:bn}(p:uP s n i b m)(hi:0<=i)(q:s.d6[i.toNat]?=σ x):b=0↔aC x=[]:=by
 have a:=mD p hi q;constructor
 .rintro rfl;rw[<-a];have:gI 0 m=[]:=List.eq_nil_iff_forall_not_mem.2 λv e=>by
   have:=(wT.1 e).2;simp at this
  rw[this];rfl
 .intro he;rw[he]at a;have e:=List.map_eq_nil_iff.1 a;refine Nat.eq_of_testBit_eq λj=>?_;rw[Nat.zero_testBit];cases f:b.testBit j with
  |false=>rfl
  |true=>
   have r:j<m:=by
    rcases Nat.lt_or_ge j m with h|h
    .exact h
    .have:=Nat.testBit_lt_two_pow (S4 p.1.2 (S5 Ω h));rw[this]at f;cases f
   have:j∈gI b m:=wT.2 ⟨r,f⟩;rw[e]at this;cases this
theorem Sd(hk:a.kind=3)(h:bE w ad ae A R n s t)(G:Laid w)(H:¬A 0)(J:eB au t):al v8 In [Γ ad,Δ a.i,Δ a.c] w (pJ au w ad ae A R n s a):=by
 have K:=h.2.2.2.1;have f:=yT (n:=n) (s:=s) hk;refine aB func78 ?_;refine(F5 h).Y ?_;rintro _ U _ ⟨L,rfl⟩;cases y:ic s a.i with
 |none=>
  rw[y]at f;rw[rc Ξ,bL,am];exact⟨λ_=>⟨by rw[f],by rw[f];exact cS.same h G H J L⟩,λh=>ro Φ h⟩
 |some x=>
 rw[y]at f;simp only at f;obtain⟨N,B,ah⟩:=yR y;rw[ms (by rfl),bL,am];refine⟨λh=>ro rfl h,λ_=>?_⟩;refine(pw (h.W L)).Y ?_;rintro _ aa _ ⟨rfl,Y⟩;have O:=L.F Y;refine aZ (λr I=>r=Δ (if aC x=[]then-1 else s.zero)/\Ext w I) ?_ λax p=>?_
 .rintro _ ai ⟨rfl,P⟩;refine(va (h.W P)).Y ?_;rintro _ aj _ ⟨Z,rfl⟩;have C:=P.F Z;refine c7 (λI=>cS au w ad ae A R n (bg n.k s a).1 I) ?_ λax p=>?_
  .intro I ab;refine⟨?_,ab⟩;rw[f];generalize (if aC x=[]then(-1:Int)else s.zero)=ak;split
   .rfl
   .rename_i j;rw[X5.1 j]
  rw[bm,am];refine⟨λj=>?_,λj=>p _ ?_⟩
  .obtain⟨E,hm⟩:=lf (λh=>h j);have Q:a.c<=s.zero:=by
    split at hm
    .omega
    .exact hm
   obtain⟨u,hu⟩:=V9 N;rw[hu,u9]at B;rw[hu];refine(F6 (t:=t) (u:=u) (F1:=oM) (F2:=oL) (g:=λg=>ct n.k g a.c) (z:=λg=>cX n.k g a.c) (h.W C) (G.W C) H J B (λv y=>?_) ⟨oo K.zero ⟨E.1,Q⟩,λ{w A s' t}M=>vb M K.zero E (.inr Q)⟩).Y ?_
   .have S:=iP (v:=v.toNat) K B;exact⟨oq S E.1,λ{w A s t}M=>sw M S E⟩
   .rintro _ an _ ac;refine p _ ?_;rw[f,rc (λh=>h j),hu,u9];exact ac.before C
  .rw[f,ms j];exact cS.same h G H J C
 refine(kC (i:=a.i) (h.W O)).Y ?_;rintro _ ao _ ⟨⟨b,ap,rfl,T⟩,af⟩;refine(iW T.1).Y ?_;rintro _ aq _ ⟨⟨q,rfl,V⟩,ag⟩;have W:=(O.F af).F ag;have X:=Sc T N B;rw[bm,am];refine⟨λh=>p _ _ ⟨by rw[ms (X.1 (V.1 h))],W⟩,λh=>p _ _ ⟨by rw[rc λe=>h (V.2 (X.2 e))],W⟩⟩
theorem F8(hk:a.kind=4)(h:bE w ad ae A R n s t)(j:Laid w)(p:¬A 0)(f:eB au t):al v8 Io [Γ ad,Δ a.i,Δ a.v] w (pJ au w ad ae A R n s a):=by
 have q:=h.2.2.2.1;have e:bg n.k s a=match dw s a.i a.v with
  |none=>(s,1)
  |some x=>if ct n.k s.zero (x.un.getD a.v.toNat 0)<n.k then(s,7)else(dK s a.i.toNat a.v.toNat,0):=by
  unfold bg;rw[rc Ω,rc Ω,rc Ω,rc Ω,ms hk]<;>cases dw s a.i a.v<;>rfl
 refine aB func79 ?_;refine(yL h).Y ?_;rintro _ U _ ⟨z,rfl⟩;cases B:dw s a.i a.v with
 |none=>
  rw[B]at e;rw[rc Ξ,bL,am];exact⟨λ_=>⟨by rw[e],by rw[e];exact cS.same h j p f z⟩,λh=>ro Φ h⟩
 |some x=>
 rw[B]at e;simp only at e;obtain⟨Y,C,Z,K⟩:=jK B;rw[ms (by rfl),bL,am];refine⟨λh=>ro rfl h,λ_=>?_⟩;have G:et n a.i a.v:=by
  have:=pI q C K;rwa [show((a.i.toNat:Nat):Int)=a.i by omega]at this
 refine(px (h.W z)).Y ?_;rintro _ aa _ ⟨rfl,L⟩;have M:ff s a.i.toNat a.v.toNat=x.un.getD a.v.toNat 0:=by
  unfold ff;rw[C]
 rw[ms G,M,bx,bz];have H:=z.F L;refine(pw (h.W H)).Y ?_;rintro _ ab _ ⟨rfl,N⟩;have I:=H.F N;refine(sw (h.W I) q.zero (iP q C)).Y ?_;rintro _ ac _ ⟨rfl,O⟩;have J:=I.F O;refine(oe (h.W J)).Y ?_;rintro _ af _ ⟨rfl,P⟩;have E:=J.F P;rw[aS,am];refine⟨λQ=>?_,λS=>?_⟩
 .rw[ms Q]at e;exact⟨by rw[e],by rw[e];exact cS.same h j p f E⟩
 .rw[rc S]at e;refine(yh (h.W E) f.room).Y ?_;rintro r ag _ ⟨_,T⟩;obtain⟨rfl,V,aM,y,W,X⟩:=T G;refine⟨by rw[e],?_⟩;rw[e];exact cS.step h j p E V W X f.set
theorem Se(hk:5<=a.kind)(h:bE w ad ae A R n s t)(N:Laid w)(W:¬A 0)(X:eB au t):al v8 Ip [Γ ad,Δ a.i,Δ a.v] w (pJ au w ad ae A R n s a):=by
 have aw:=h.2.2.2.1;have q:bg n.k s a=match dw s a.i a.v with
  |none=>(s,1)
  |some x=>(gu s a.i.toNat a.v (aC x),0):=by
  unfold bg;rw[rc Ω,rc Ω,rc Ω,rc Ω,rc Ω]<;>cases dw s a.i a.v<;>rfl
 refine jr func80 ?_;refine bp λg1 U aW Y z=>?_;refine bp λaX aa aZ O B=>?_;refine bp λa1 P a2 J C=>?_;have z:ag P g1 eL [Γ ad]:=(ag.W z O).W J;have B:=ag.W B J;have C:=C;have K:=(Y.F O).F J;have a6:=Y.size;have a7:=O.size;have z3:=J.size;have ax:=z.lt;have ay:=B.lt;have az:=C.lt;rw[aE Ψ (z.cell rfl),aE Ψ (B.cell rfl),aE Ψ (C.cell rfl)];refine(yL (h.W K)).Y ?_;rintro _ a8 _ ⟨E,rfl⟩;have Z:=K.F E;have z4:=E.size;cases Q:dw s a.i a.v with
 |none=>
  rw[Q]at q;rw[rc Ξ,bL,am];refine⟨λ_=>?_,λh=>ro Φ h⟩;intro ba aA _;exact⟨by rw[q],by rw[q];exact cS.same h N W X (Z.F aA)⟩
 |some x=>
 rw[Q]at q;simp only at q;obtain⟨aB,f,bb,bc⟩:=jK Q;rw[ms (by rfl),bL,am];refine⟨λh=>ro rfl h,λ_=>?_⟩;rw[aE Ψ ((z.W E).cell rfl),aE Ψ ((B.W E).Qz rfl)];refine(kC (i:=a.i) (h.W Z)).Y ?_;rintro _ bd _ ⟨⟨b,aD,rfl,ab⟩,ac⟩;refine(nW (b:=b) (n:=aD)).Y ?_;rintro _ S _ ⟨aF,ah,rfl,be,ai⟩;have aj:=mD ab aB f;have L:=(E.F ac).F aF;have bf:=ac.size;have bh:=L.size;have bi:=ai.lt;refine lx.old ⟨_,v6,kl,#[Γ ah],_,_,_,_,λj I=>dM au w ad ae A R n w.heap.size (λr=>S.heap.size<=r) (gu s a.i.toNat a.v ((aC x).take j)) I/\af (λr=>r<w.heap.size\/S.heap.size<=r) S I,λ_ _ _=>False,rfl,(nV (g:=ah) ab.1).s,?_,
  λ_ _ f h=>⟨h.1.W f,h.2.W f⟩,λ_ _ _ f h=>⟨h.1.W f,h.2.F (f.V _)⟩,λ_ _ _ _ _ h=>h,⟨ai,N.W (K.F L)⟩,⟨dM.start h N W X (K.F L) (o4 _),af.refl _ _⟩,?_,?_,λ_ _ h=>h.elim,λ_ _ _ h=>h.elim⟩
 .rintro _ _ _ _ ⟨_,_,_,_,rfl⟩;rfl
 .rintro _ j _ bj ⟨ak,aG⟩ ⟨bk,rfl,v,aH,aI⟩ ⟨G,H⟩;cases aI;intro aJ p _ _;have an:(aC x)[j]?=σ (v:Int):=by rw[<-aj,u4,aH];rfl
  have aK:et n a.i (v:Int):=by
   have:=pI aw f (x7 an);rwa [show((a.i.toNat:Nat):Int)=a.i by omega]at this
  have aY:∀{g:Nat}{e:o5}{cs:List x4},w.heap.size<=g->g<P.heap.size->ag P g e cs->ag aJ g e cs:=λaL aN aO=>((aO.W L).V H Ω).W p;have M:=R8 (s:=s) (i:=a.i.toNat) (v:=a.v) an;obtain⟨bl,bm,aP,ao,aQ⟩:=G.open;rw[aE Ψ ((aY Ω az C).cell rfl),bL,am];refine⟨λaR=>?_,λhe=>?_⟩
  .rw[ms aR]at M;rw[aE Ψ ((aY Ω ax z).cell rfl),aE Ψ ((aY Ω ay B).cell rfl)];refine(yh (aP.W p) ao.room).Y ?_;rintro r bn _ ⟨_,aS⟩;obtain⟨rfl,aT,aM,y,aU,ap⟩:=aS aK;rw[<-M]at ap;have bo:=H.size;obtain⟨aq,av,bq⟩:=aQ (jf p aT) ((Grow.W p).F aU) ap ao.set (λr h=>h) λr aL aN=>Ω
   exact⟨⟨ak.V av Ω,aq.2.1.1⟩,⟨aq,H.F av⟩,λh=>by cases h⟩
  .rw[rc he]at M;exact⟨⟨ak.W p,aG.W p⟩,⟨by rw[M];exact G.W p,H.F (p.V _)⟩,λh=>by cases h⟩
 .rintro k br rfl ⟨G,H⟩;rw[Z0 (by rw[<-aj,r8];exact o4 _)]at G;intro bs aV _;exact⟨by rw[q],by rw[q];exact G.done aV⟩
end
theorem Sf{ds:x4}(h:aN .i64 w ds l)(O:l.length<=1000000):al v8 I0 [ds,Δ v] w λr I=>Ext w I/\(∃g,aA .i64 ai I g r (l.filter λy=>!decide (y=v)))/\∀q,lw r q->w.heap.size<=q:=by
 refine aB func145 ?_;rw[a1 aq.u h];refine ch.range l.length (λi out f=>Ext w f/\(∃g,aA .i64 ai f g out ((l.take i).filter λy=>!decide (y=v)))/\∀r,lw out r->w.heap.size<=r) h.le ⟨Ext.refl _,⟨0,aA.nil _ _ _ _⟩,λr B=>by obtain⟨_,_,_,e,_⟩:=B;cases e⟩ ?_ ?_
 .rintro q out f C E ⟨a,⟨g,hm⟩,j⟩ G;obtain⟨y,p⟩:=aD (l:=l) E;have s:(l.take (q+1)).filter (λy=>!decide (y=v))=(l.take q).filter (λy=>!decide (y=v))++(if y≠v then[y]else[]):=by
   rw[r9,p,j6,List.filter_append];congr 1;by_cases au:y=v<;>simp[au]
  refine bG Ω ?_;refine aZ (λx z=>Ext w z/\(∃g,aA .i64 ai z g x ((l.take (q+1)).filter λy=>!decide (y=v)))/\∀r,lw x r->w.heap.size<=r) (λ_ _ H=>by rw[aP];exact G _ _ H) λax A=>?_;rw[bk aq.u ai.i Ψ (h.W a) p,bL,am];refine⟨λJ=>?_,λhe=>A _ _ ⟨a,⟨g,by rw[s,rc he,U2];exact hm⟩,j⟩⟩;refine FN a hm j ?_ λP I K L M N=>A _ _ ⟨L,⟨K,by rw[s,ms J];exact M⟩,N⟩;have h1:=List.length_filter_le (λy=>!decide (y=v)) (l.take q);rw[o8]at h1;omega
 .rintro out f C ⟨a,hm,j⟩;rw[j4]at hm;refine cd Ω ?_;exact⟨a,hm,j⟩
theorem yU{i:Nat}{v:Int}:∀(L:Λ)(s:ak)(x:bn),s.d6[i]?=σ x->(∀y∈L,0<=y)->∃m,gu s i v L={s with d6:=s.d6.set i {x with mask:=m}}/\aC {x with mask:=m}=(aC x).filter λy=>!(decide (y∈L)&& !decide (y=v))
 |[],s,x,f,_=>by
  refine⟨x.mask,?_,(List.filter_eq_self.2 λy _=>Ξ).symm⟩;have:s.d6.set i x=s.d6:=by
   apply X0;intro q;by_cases e:i=q
   .subst e;rw[n9 (x6.1 f).1,f]
   .rw[Z6 e]
  show s={s with d6:=s.d6.set i x};rw[this]
 |w::L,s,x,f,j=>by
  have hw:=j w (.head _);have z:=(x6.1 f).1;rw[gu];by_cases e:w≠v
  .rw[ms e];have r:dK s i w.toNat={s with d6:=s.d6.set i {x with mask:=((x.mask.toNat ||| 2 ^ w.toNat:Nat):Int)}}:=by unfold dK;rw[f]
   obtain⟨m,h1,p⟩:=yU L (dK s i w.toNat) {x with mask:=((x.mask.toNat ||| 2 ^ w.toNat:Nat):Int)} (by rw[r];exact n9 z) λy a=>j y (.tail _ a);refine⟨m,?_,?_⟩
   .rw[h1,r];simp only[List.set_set]
   .rw[p,yA hw,List.filter_filter];refine List.filter_congr λy _=>?_;by_cases a:y=w
    .subst a;simp[e]
    .simp[a]
  .rw[rc e];obtain⟨m,h1,p⟩:=yU L s x f λy a=>j y (.tail _ a);refine⟨m,h1,?_⟩;rw[p];have e:=X5.1 e;refine List.filter_congr λy _=>?_;by_cases a:y=v
   .simp[a]
   .have:y≠w:=λh=>a (h.F e);simp[a,this]
theorem filter_one(j:l.Nodup)(f:v∈l):l.filter (λy=>decide (y=v))=[v]:=by
 induction l with
 |nil=>cases f
 |cons a l p=>
  have h:=List.nodup_cons.1 j;by_cases e:a=v
  .subst e;rw[List.filter_cons_of_pos Ξ,List.filter_eq_nil_iff.2 λx q=>by simp;intro r;exact h.1 (r▸q)]
  .rw[List.filter_cons_of_neg (by simpa using e)];exact p h.2 ((V7.1 f).resolve_left (R7 e))
def kG(u:ak)(a:fF):Option bn:=if 3<a.kind then dw u a.i a.v else ic u a.i
section
variable{w:x5}{ad ae ao:Nat}{A R:ah}{A9:Nat->ah}{aG:ah}{n:aH}{s u:ak}{t:az}{h:List az}{cs:List x4}{a:fF}
theorem F9{x:bn}(h:kG u a=σ x):0<=a.i/\u.d6[a.i.toNat]?=σ x/\x.gone=0/\(3<a.kind->a.v∈aC x):=by
 unfold kG at h;split at h
 .obtain⟨h1,e,f,j⟩:=jK h;exact⟨h1,e,f,λ_=>j⟩
 .rename_i hk;obtain⟨h1,e,f⟩:=yR h;exact⟨h1,e,f,λh=>ro h hk⟩
theorem Sg(h:¬(0<=a.i/\a.i<u.d6.length)):kG u a=ν:=by
 cases he:kG u a with
 |none=>rfl
 |some x=>
  obtain⟨h1,e,_⟩:=F9 he;exact ro ⟨h1,by have:=(x6.1 e).1;omega⟩ h
theorem Sh{x:bn}(e:0<=a.i)(f:u.d6[a.i.toNat]?=σ x):kG u a=if x.gone=0/\(3<a.kind->a.v∈aC x)then σ x else ν:=by
 unfold kG;by_cases hk:3<a.kind
 .rw[ms hk];unfold dw;rw[ms e,f];simp only[hk,true_implies]
 .rw[rc hk];unfold ic;rw[ms e,f];simp only[hk,false_implies,and_true]
theorem Si(hk:2<=a.kind/\a.kind<=5)(h:kG u a=ν):bg n.k u a=(u,1):=by
 unfold kG at h;by_cases e:3<a.kind
 .rw[ms e]at h;unfold bg;rw[rc Ω,rc Ω,rc Ω,rc Ω,h];split<;>rfl
 .rw[rc e]at h;by_cases f:a.kind=2
  .rw[yS f,h]
  .rw[yT Ω,h]
theorem Ga{x:bn}(q:0<=c):iO x<c↔aC x=[]\/∃v∈aC x,x.un.getD v.toNat 0<c:=by
 unfold iO;constructor
 .intro h;cases e:aC x with
  |nil=>exact .inl rfl
  |cons b l=>
   refine .inr ?_;rw[e]at h;simp only[T3]at h;by_cases f:∀v∈b::l,c<=x.un.getD v.toNat 0
   .have:=(nw (l.map λv=>x.un.getD v.toNat 0) (x.un.getD b.toNat 0) c).2 ⟨f b (.head _),λy j=>by obtain⟨v,a,rfl⟩:=j5.1 j;exact f v (.tail _ a)⟩;omega
   .simp only[Classical.not_forall]at f;obtain⟨v,a,r⟩:=f;exact⟨v,a,Ω⟩
 .rintro (h|⟨v,a,s⟩)
  .rw[h];show(-1:Int)<c;omega
  .cases e:aC x with
   |nil=>rw[e]at a;cases a
   |cons b l=>
    rw[e]at a;simp only[T3];rcases Int.lt_or_le ((l.map λv=>x.un.getD v.toNat 0).foldl min (x.un.getD b.toNat 0)) c with au|au
    .exact au
    .obtain⟨w,p⟩:=(nw _ _ _).1 au;rcases V7.1 a with rfl|a
     .omega
     .have:=p _ (j5.2 ⟨v,a,rfl⟩);omega
def yV(n:aH)(u:ak)(x:bn)(a:fF):Prop:=aC x=[]\/(a.kind=3/\u.zero<a.c)\/(a.kind=2/\∃v∈aC x,x.un.getD v.toNat 0<a.c)
theorem Sj{x:bn}(hk:a.kind=2\/a.kind=3)(h:kG u a=σ x):(¬(0<=a.c/\a.c<=n.k)->bg n.k u a=(u,3))/\((0<=a.c/\a.c<=n.k)->yV n u x a->bg n.k u a=(u,7))/\
  ((0<=a.c/\a.c<=n.k)->¬yV n u x a->bg n.k u a=(ir u a.i.toNat x (λg=>if a.kind=2 then cX n.k g a.c else ct n.k g a.c) (λg=>if a.kind=2 then ct n.k g a.c else cX n.k g a.c),0)/\(a.kind=2->∀v∈aC x,a.c<=x.un.getD v.toNat 0)/\(a.kind=3->a.c<=u.zero)):=by
 have r:ic u a.i=σ x:=by unfold kG at h;rwa [rc Ω]at h
 rcases hk with hk|hk
 .have e:=yS (n:=n) (s:=u) hk;rw[r]at e;simp only at e;simp only[hk];refine⟨λf=>?_,λf hi=>?_,λf hi=>?_⟩
  .have j:∀m,df n.k a.c m=3:=λm=>by unfold df;rw[ms f]
   rw[j,ms Φ]at e;exact e
  .have p:=(Ga f.1).2 (hi.elim .inl λh=>h.elim (λh=>Ω) λh=>.inr h.2);have j:∀m,m<a.c->df n.k a.c m=7:=λm hm=>by unfold df;rw[rc (λh=>h f),ms hm]
   rw[j _ p,ms Φ]at e;exact e
  .have p:¬iO x<a.c:=λh=>hi (((Ga f.1).1 h).elim .inl λh=>.inr (.inr ⟨hk,h⟩));have j:df n.k a.c (iO x)=0:=by unfold df;rw[rc (λh=>h f),rc p]
   rw[j,rc Φ]at e;refine⟨by rw[e];simp,λ_ v r=>?_,λh=>ro h Φ⟩;rcases Int.lt_or_le (x.un.getD v.toNat 0) a.c with au|au
   .exact ro (.inr (.inr ⟨hk,v,r,au⟩)) hi
   .exact au
 .have e:=yT (n:=n) (s:=u) hk;rw[r]at e;simp only at e;simp only[hk];refine⟨λf=>?_,λf hi=>?_,λf hi=>?_⟩
  .have j:∀m,df n.k a.c m=3:=λm=>by unfold df;rw[ms f]
   rw[j,ms Φ]at e;exact e
  .have p:(if aC x=[]then-1 else u.zero)<a.c:=by
    by_cases q:aC x=[]
    .rw[ms q];omega
    .rw[rc q];rcases hi with hi|hi|hi
     .exact ro hi q
     .exact hi.2
     .omega
   have j:∀m,m<a.c->df n.k a.c m=7:=λm hm=>by unfold df;rw[rc (λh=>h f),ms hm]
   rw[j _ p,ms Φ]at e;exact e
  .have q:¬aC x=[]:=λh=>hi (.inl h);have w:¬u.zero<a.c:=λh=>hi (.inr (.inl ⟨hk,h⟩));have j:df n.k a.c u.zero=0:=by unfold df;rw[rc (λh=>h f),rc w]
   rw[rc q,j,rc Φ]at e;exact⟨by rw[e];simp,λh=>ro h Φ,λ_=>Ω⟩
end
end Go.Proofs.YtnhkbjhpbbobaaaGreatDoor
