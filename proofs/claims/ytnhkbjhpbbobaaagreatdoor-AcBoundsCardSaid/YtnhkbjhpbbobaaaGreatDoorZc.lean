/- own texts, made small by a tool (wip/ holds them as they were written): no statement of the seat. -/
import Derived.Test.YtnhkbjhpbbobaaaGreatDoorZb
set_option linter.unusedVariables false
set_option linter.unusedSimpArgs false
set_option linter.unnecessarySimpa false
open Array renaming getElem?_eq_some_iff→b8,getElem?_toList→Q0
open Bool renaming false→v6,true→v2,not_true→X3,not_false→W6,or_eq_false_iff→U1,eq_iff_iff→U8
open Decidable renaming not_not→X5
open Go renaming Value→x4,World→x5,TypeId→o5,IntKind→j0,Builtin→Y1,Program→V3,FuncId→Q6
open Go.Addr renaming add_mid→T9
open Go.Builtin renaming append_→Z9,len_→V0
open Go.Instr renaming loadAt→u6,fieldAt→u7,storeAt→l9,indexAt→c9,extract→Y8,buildSlice→X2,sliceAt→U4
open Go.IntKind renaming i64→W5
open Go.Proofs.Tryz renaming prog→v8
open Go.Value renaming int→U3
open Int renaming toNat_natCast→u9,le_refl→S0
open List renaming getElem?_eq_some_iff→x6,mem_of_getElem?→x7,getElem?_eq_getElem→x8,getElem?_map→u4,getD_eq_getElem?_getD→u5,length_map→r8,take_add_one→r9,replicate→o6,length_set→o7,length_take→o8,length_append→o9,getElem?_set_self→n9,take_length→j4,mem_map→j5,mem_append→j9,mem_singleton→b9,take_of_length_le→Z0,map_append→Z3,eq_nil_of_length_eq_zero→Z5,getElem?_set_ne→Z6,getElem?_append_right→Z7,length_cons→Y0,getElem?_append_left→Y4,getElem?_eq_none→Y5,getElem?_take_of_lt→Y6,getElem?_set→Y7,ext_getElem?→X0,mem_iff_getElem?→X8,range→X9,drop_eq_getElem_cons→W3,mem_or_eq_of_mem_set→W8,length_eq_one_iff→V4,foldl_cons→V5,flatMap_cons→V6,mem_cons→V7,append_nil→U2,pairwise_iff_getElem→U5,mem_of_mem_take→T1,map_set→T2,map_cons→T3,set_append_right→T4,length_singleton→T5,append_assoc→T6,foldl_append→S3,map_map→S6,mem_filter→S9,getElem?_drop→R3,sum_cons→R6,length→Q2,getElem_mem→Q9
open Nat renaming le_refl→o4,le_trans→X1,mul_le_mul_right→X4,zero_add→X6,zero_le→W0,sub_self→V2,add_mul→U6,mul_one→T0,lt_of_lt_of_le→S4,add_assoc→Q3,add_sub_cancel_left→Q5,eq_zero_or_pos→Q8
open Option renaming toList_some→j6,isNone_some→Y2,map_some→Y3,map_eq_some_iff→Y9,getD_some→W7,map→U7
open Option.some renaming inj→Z4,injEq→X7
open Prod.mk renaming injEq→S8
set_option maxHeartbeats 16000000
open Option renaming some→σ,none→ν
variable{aj l scope co t:Λ}{c k y:Int}{B N a ad ae gs j n r:Nat}{cs:List x4}{I w w0:x5}{e:o5}{bh bv sv v:x4}{S:Nat->Prop}{K:x4->x5->Prop}
namespace Go.Proofs.YtnhkbjhpbbobaaaGreatDoor
open Go Go.Vc Go.RowKit Go.Proofs Go.Proofs.Tryz
set_option maxRecDepth 100000
theorem Dr{α:Type}[DecidableEq α]:∀{a b:List α},a.Nodup->b.Nodup->(∀x,x∈a↔x∈b)->a.Perm b
 |[],b,_,_,h=>by
  cases b with
  |nil=>exact .refl _
  |cons y b=>exact ro ((h y).2 (.head _)) Ξ
 |x::a,b,p,f,h=>by
  have q:=(h x).1 (.head _);have j:=List.nodup_cons.1 p;refine .F ?_ (List.perm_cons_erase q).symm;refine .cons x (Dr j.2 (f.erase x) λy=>?_);rw[f.mem_erase_iff];refine⟨λe=>⟨λhe=>j.1 (he▸e),(h y).1 (.tail _ e)⟩,λ⟨r,e⟩=>?_⟩;rcases V7.1 ((h y).2 e)with he|hm
  .exact ro he r
  .exact hm
theorem uf(h:nr l)(a:l.Nodup):(bw l).Perm l:=Dr (Dl l) a λ_=>rN h
theorem xt:∀{l:Λ},(∀z∈l,1<=z/\z<=32)->l.map (λz=>min z 4097)=l
 |[],_=>rfl
 |z::l,h=>by
  have e:=h z (.head _);rw[T3,xt λx a=>h x (.tail _ a)];congr 1;omega
theorem NA{x:cE}(hk:0<=k)(f:0<=x.other)(a:∀p∈x.lines,0<=p.2):0<=kX x k t/\kX x k t<=k:=by
 unfold kX;cases e:x.lines.find? (λp=>decide (p.1=t))with
 |none=>simp only;omega
 |some p=>have:=a p (List.mem_of_find?_eq_some e);simp only;omega
theorem ug{all:Λ}{x:cE}(h:tL all N x)(e:all.length<=64):nr x.scope:=λv a=>by
 have:=h.scope.2 v a;omega
theorem qv{f:b7}{x:cE}(a:fl N f)(r:x∈f.d9):gK f.co f.k (jz f.co f.k x):=by
 obtain⟨h1,s,e⟩:=a.d9 x r;have w:=a.co.2.1;have h:=ug h1 w;have ac:=uf h h1.scope.1;have j:∀v∈bw x.scope,0<=v/\v<f.co.length:=λv hm=>h1.scope.2 v ((rN h).1 hm);have y:=pm a.co.2.2 j;have A:aQ (bN f.co (bw x.scope))=aQ x.co:=by rw[h1.co];exact Nw (ac.map _)
 refine⟨⟨Nv _,?_⟩,xo _,λv hm=>(j v hm).2,?_,?_,λc B=>?_⟩
 .show (bw x.scope).length<=6;rw[ac.length_eq];exact s
 .show ((bo _).map _).length=_;rw[r8,ks y];rfl
 .show aQ (bN f.co (bw x.scope))<=4096;have C:∀z∈x.co,1<=z/\z<=32:=λz q=>by
   rw[h1.co]at q;exact pm a.co.2.2 (λv hm=>h1.scope.2 v hm) z q
  unfold dy at e;rw[xt C,decide_eq_false_iff_not]at e;rw[A];omega
 .obtain⟨t,_,rfl⟩:=j5.1 B;exact NA (by have:=a.k.1;omega) h1.other λp ac=>(h1.lines.2 p ac).2
theorem mr{f:b7}(a:fl N f):(∀g∈fR f,gK f.co f.k g)/\kz (fR f)/\(fR f).length<=f.d9.length:=by
 have:=xr (k:=f.k) (by have:=a.k.1;omega) (acc:=[]) (λh au=>by cases au) List.nodup_nil λg j=>by
  obtain⟨x,p,rfl⟩:=j5.1 j;exact qv a p
 refine⟨this.1,this.2.1,?_⟩;have e:=this.2.2;rw[List.length_nil,r8,X6]at e;exact e
theorem Ds{l:List cQ}(e:∀g∈l,gK co k g)(f:kz l):l.Pairwise λa b=>di a.1≠di b.1:=by
 have h1:l.Pairwise λa b=>a.1≠b.1:=by
  unfold kz List.Nodup at f;rwa [List.pairwise_map]at f
 exact h1.imp_of_mem λ{a b}h j p he=>p ((xp (e a h).scope (e b j).scope).2 he)
theorem rO{f:b7}(h:fl N f):(fS f).Pairwise (λa b=>di a.1<di b.1)/\(fS f).Perm ((fR f).filter fQ):=by
 obtain⟨h1,j,_⟩:=mr h;have p:∀g∈(fR f).filter fQ,gK f.co f.k g:=λg q=>h1 g (S9.1 q).1;have r:kz ((fR f).filter fQ):=(List.Sublist.map _ List.filter_sublist).nodup j;have:=Dq ((fR f).filter fQ) [] List.Pairwise.nil (Ds p r) λa s=>by cases s
 refine⟨this.1,?_⟩;have e:=this.2;rw[List.nil_append]at e;exact e
theorem uh{f:b7}(a:fl N f):∀g∈fS f,gK f.co f.k g:=λg e=>(mr a).1 g (S9.1 ((rO a).2.mem_iff.1 e)).1
theorem NB{f:b7}(e:fl N f){M:List cQ}(ac:M.Perm ((fR f).filter fQ))(J:M.Pairwise λa b=>di a.1<=di b.1):M=fS f:=by
 obtain⟨h1,h⟩:=rO e;have j:kz ((fR f).filter fQ):=(List.Sublist.map _ List.filter_sublist).nodup (mr e).2.1;have p:=(ac.map (λg:cQ=>g.1)).nodup_iff.2 j;have q:∀g∈M,gK f.co f.k g:=λg r=>(mr e).1 g (S9.1 (ac.mem_iff.1 r)).1;have s:=Ds q p;refine xq ?_ h1 λx=>by rw[ac.mem_iff,h.mem_iff]
 exact J.imp₂ (λa b h1 h=>Int.lt_iff_le_and_ne.2 ⟨h1,h⟩) s
structure k4(n:aH):Prop where
 k:1<=n.k/\n.k<=2147483648
 co:1<=n.co.length/\n.co.length<=64/\∀z∈n.co,1<=z/\z<=32
 zero:0<=n.zero/\n.zero<=n.k
 lL:n.unary.length=n.co.length
 unary:∀(i:Nat)(z:Int)(u:Λ),n.co[i]?=σ z->n.unary[i]?=σ u->u.length=z.toNat/\∀c∈u,0<=c/\c<=n.k
 d9:∀g∈n.d9,gK n.co n.k g/\2<=g.1.length
theorem NC(z:Int):aQ [z]=z:=by simp[aQ]
theorem ui:∀{l:List cQ}{n:aH},k4 n->(∀g∈l,gK n.co n.k g)->k4 (l.foldl (λn g=>match g.1 with
 |[]=>{n with zero:=g.2.getD 0 0}
 |[v]=>{n with unary:=n.unary.set v.toNat g.2}
 |_=>{n with d9:=n.d9++[g]}) n)/\(l.foldl (λn g=>match g.1 with
 |[]=>{n with zero:=g.2.getD 0 0}
 |[v]=>{n with unary:=n.unary.set v.toNat g.2}
 |_=>{n with d9:=n.d9++[g]}) n).co=n.co
 |[],n,h,_=>⟨h,rfl⟩
 |g::l,n,h,p=>by
  have e:=p g (.head _);have j:∀x∈l,gK n.co n.k x:=λx f=>p x (.tail _ f);rw[V5];obtain⟨sc,cs⟩:=g
  match sc,e with
  |[],e=>
   have s:=e.len;refine ui ⟨h.k,h.co,?_,h.lL,h.unary,h.d9⟩ j;have h1:cs.length=1:=by simpa[bN,aQ]using s
   have w:cs[0]?=σ (cs.getD 0 0):=by rw[u5,x8 Ω];rfl
   exact e.jd _ (x7 w)
  |[v],e=>
   have A:=e.scope.1 v (.head _);have B:=e.d6 v (.head _);refine ui ⟨h.k,h.co,h.zero,by show(n.unary.set _ _).length=_;rw[o7];exact h.lL,λi z u q hu=>?_,h.d9⟩ j;by_cases hi:v.toNat=i
   .subst hi;have C:=h.lL;rw[n9 Ω]at hu;cases hu;have y:bN n.co [v]=[z]:=by
     simp only[bN,T3,List.map_nil];rw[u5,q];rfl
    refine⟨?_,e.jd⟩;have:=e.len;rw[y,NC]at this;exact this
   .rw[Z6 hi]at hu;exact h.unary i z u q hu
  |a::b::r,e=>
   refine ui ⟨h.k,h.co,h.zero,h.lL,h.unary,λx f=>?_⟩ j;rcases j9.1 f with f|f
   .exact h.d9 x f
   .rw[b9.1 f];exact⟨e,Ξ⟩
theorem Dt{f:b7}(a:fl N f):k4 (cf f)/\(cf f).co=f.co:=by
 unfold cf;have h:=a.co;refine ui ⟨a.k,h,⟨by show(0:Int)<=0;omega,by show(0:Int)<=f.k;have:=a.k.1;omega⟩,Ξ,λi z u h1 e=>?_,λg j=>by cases j⟩ (uh a);have e:(f.co.map λz=>o6 z.toNat (0:Int))[i]?=σ u:=e;have h1:=h1;rw[u4,h1]at e;cases e;refine⟨Ξ,λc p=>?_⟩;rw[(List.mem_replicate.1 p).2];have:=a.k.1;exact⟨S0 _,by show(0:Int)<=f.k;omega⟩
def mu(x:cE)(k:Int)(i:Nat)(t:Λ):Int:=match(x.lines.take i).find? (λp=>decide (p.1=t))with
 |some p=>min p.2 k
 |none=>min x.other k
theorem Du(x:cE)(k:Int)(t:Λ):mu x k 0 t=min x.other k:=by simp[mu]
theorem Dv(x:cE)(k:Int)(t:Λ):mu x k x.lines.length t=kX x k t:=by
 unfold mu kX;rw[j4];cases x.lines.find? (λp=>decide (p.1=t))<;>rfl
theorem Dw{x:cE}{i:Nat}{p:Λ×Int}(w:(x.lines.map (·.1)).Nodup)(hi:x.lines[i]?=σ p)(t:Λ):mu x k (i+1) t=if t=p.1 then min p.2 k else mu x k i t:=by
 unfold mu;rw[r9,hi,j6,List.find?_append];by_cases a:t=p.1
 .subst a;have y:(x.lines.take i).find? (λq=>decide (q.1=p.1))=ν:=by
   rw[List.find?_eq_none];intro q e he;have he:q.1=p.1:=by simpa using he
   obtain⟨j,f⟩:=X8.1 e;have h:j<i:=by have:=(x6.1 f).1;rw[o8]at this;omega
   rw[Y6 h]at f;have r:=x6.1 f;have s:=x6.1 hi;have ac:=U5.1 w j i (by rw[r8];exact r.1) (by rw[r8];exact s.1) h;rw[List.getElem_map,List.getElem_map,r.2,s.2]at ac;exact ac he
  rw[y,ms rfl];simp
 .rw[rc a];have:[p].find? (λq=>decide (q.1=t))=ν:=by
   rw[List.find?_eq_none];intro q e he;rw[b9.1 e]at he;exact a (ty he).symm
  rw[this,Option.or_none]
theorem qw{v:Int}(h:v∈l):l[l.idxOf v]?=σ v:=by
 have:=List.idxOf_lt_length_iff.2 h;rw[x8 this,List.getElem_idxOf this]
theorem rP{i:Nat}{v:Int}(j:l.Nodup)(h:l[i]?=σ v):l.idxOf v=i:=by
 have hm:=x7 h;have h1:=qw hm;have a:=x6.1 h1;have e:=x6.1 h;rcases Nat.lt_trichotomy (l.idxOf v) i with f|he|f
 .exact ro (a.2.F e.2.symm) (U5.1 j _ _ a.1 e.1 f)
 .exact he
 .exact ro (e.2.F a.2.symm) (U5.1 j _ _ e.1 a.1 f)
def gl(scope a:Λ):Λ:=a.map λv=>((scope.idxOf v:Nat):Int)
theorem uj{h:Λ}(s:scope.Nodup)(a:h.Perm scope):Good (gl scope h) scope.length:=by
 have q:=a.nodup_iff.2 s;refine⟨by simp[gl,a.length_eq],λi p ac=>?_⟩;unfold gl at ac;rw[u4]at ac;obtain⟨v,r,rfl⟩:=Y9.1 ac;have hm:v∈scope:=a.mem_iff.1 (x7 r);have y:=List.idxOf_lt_length_iff.2 hm;refine⟨⟨Ω,Ω⟩,λj z f=>?_⟩;unfold gl at f;rw[u4]at f;obtain⟨u,hu,he⟩:=Y9.1 f;have w:=a.mem_iff.1 (x7 hu);have e:scope.idxOf u=scope.idxOf v:=Ω
 have h1:=qw w;rw[e,qw hm]at h1;have x:v=u:=Z4 h1;subst x;have A:=rP q hu;have B:=rP q r;omega
theorem Dx{a:Λ}{v:Int}(e:a[j]?=σ v):(gl scope a)[j]?=σ ((scope.idxOf v:Nat):Int):=by
 unfold gl;rw[u4,e];rfl
theorem ND{a:Λ}(p:scope.Nodup)(f:a.Perm scope):e2 (bN co scope) (gl scope a)=bN co a:=by
 refine X0 λj=>?_;cases e:a[j]? with
 |none=>
  have h:=List.getElem?_eq_none_iff.1 e;rw[Y5 (by rw[tI];simp[gl];exact h),Y5 (by simp[bN];exact h)]
 |some v=>
  have hm:v∈scope:=f.mem_iff.1 (x7 e);have q:=uj p f;rw[Cg q (by simp[bN]) (Dx e),u9];unfold bN;rw[u4,u4,qw hm,e]
theorem Dy{e:Λ}(q:scope.Nodup)(a:e.Perm scope)(r:t.length=scope.length):nY (gl scope e) t=qk scope e t:=by
 have s:=uj q a;refine(Cf s r (by simp[qk]) λj p f=>?_).symm;unfold gl at f;rw[u4]at f;obtain⟨v,h,rfl⟩:=Y9.1 f;have hm:v∈scope:=a.mem_iff.1 (x7 h);have w:=a.nodup_iff.2 q;have x:=(x6.1 h).1;have y:=a.length_eq;unfold qk;rw[u9,u4,qw hm,Y3,rP w h,u5,x8 (show j<t.length by omega)];rfl
theorem NE{f:b7}{x:cE}{cs:Λ}(e:fl N f)(w:x∈f.d9)(F:cs.length=(aQ x.co).toNat)(y:∀t,dv x.co t->br x.co cs t=kX x f.k t):
  e2 x.co (gl x.scope (bw x.scope))=bN f.co (bw x.scope)/\pe x.co cs (gl x.scope (bw x.scope))=(jz f.co f.k x).2:=by
 obtain⟨h1,G,H⟩:=e.d9 x w;have j:=ug h1 e.co.2.1;have ac:=uf j h1.scope.1;have p:=h1.co;have h:e2 x.co (gl x.scope (bw x.scope))=bN f.co (bw x.scope):=by rw[p];exact ND h1.scope.1 ac
 have z:=uj h1.scope.1 ac;have A:∀v∈bw x.scope,0<=v/\v<f.co.length:=λv hm=>h1.scope.2 v ((rN j).1 hm);have a:dP (bN f.co (bw x.scope)):=pm e.co.2.2 A;refine⟨h,?_⟩;have B:x.co.length=x.scope.length:=by rw[p];simp[bN]
 unfold pe;rw[h];show _=(bo (bN f.co (bw x.scope))).map λt=>kX x f.k (qk x.scope (bw x.scope) t);refine X0 λq=>?_;rw[u4,u4];have I:=nk a;by_cases r:q<(aQ (bN f.co (bw x.scope))).toNat
 .have C:=rq a (i:=q) Ω;rw[C,List.getElem?_range r];simp only[Y3];have E:=wZ a r;have s:(dn (bN f.co (bw x.scope)) q).length=x.scope.length:=by rw[kr];simp[bN,ac.length_eq]
  rw[Dy h1.scope.1 ac s,y];have:=L4 z B (by rw[h];exact E);rw[Dy h1.scope.1 ac s]at this;exact this
 .rw[Y5 Θ,Y5 (by rw[ks a];omega)];rfl
theorem NF{a e:Λ}(J:dP aj)(h1:a.length=(aQ aj).toNat)(f:e.length=(aQ aj).toNat):
  ev k a e=(X9 (aQ aj).toNat).map λ(q:Nat)=>min (br aj a (dn aj q)+br aj e (dn aj q)) k:=by
 conv=>lhs;rw[tH J h1,tH J f]
 unfold ev;rw[List.zipWith_map,List.zipWith_self]
theorem NG{dq m:Nat}{d:List (x4×x4)}{a:List (Λ)}(f:ag w dq jT [.map (σ m)])(hm:dd w m d)(j:d.map (·.1)=a.map ep)(e:qs a)(A:a.length<65536):
  al v8 Kd [.func (.func m9) #[] #[Γ dq],CY] w λv I=>Ext w I/\∃g M,M.Perm a/\ua gU M 0 M.length/\ph I g v M:=by
 refine aB func255 ?_;refine(MK f hm j (λp h=>(e p h).1) Ω).Y ?_;rintro v U _ ⟨q,g,L,ds,ac,s⟩;refine(MX s (e.perm ac) (by rw[ac.length_eq];omega)).Y ?_;rintro _ aa _ ⟨x,M,y,hu,z⟩;exact⟨q.then x (λr B h=>by have:=ds r h;omega),g,M,y.F ac,hu,z⟩
theorem Dz{α β:Type}{f:α->β}:∀{M:List β}{D:List α},M.Perm (D.map f)->∃L:List α,L.Perm D/\L.map f=M
 |[],D,h=>by
  have h1:=h.length_eq;simp at h1;have:D=[]:=Z5 h1.symm;exact⟨[],by rw[this],rfl⟩
 |x::M,D,h=>by
  have a:x∈D.map f:=h.mem_iff.1 (.head _);obtain⟨p,ac,rfl⟩:=j5.1 a;obtain⟨A,B,rfl⟩:=List.append_of_mem ac;have e:(f p::M).Perm (f p::(A++B).map f):=h.F (by
   rw[Z3,T3,Z3];exact List.perm_middle)
  obtain⟨L,j,q⟩:=Dz (List.Perm.cons_inv e);exact⟨p::L,(j.cons p).F List.perm_middle.symm,by rw[T3,q]⟩
theorem DA{g:Nat}{a:Λ}(r:a.length=6)(s:n<=6)(f:cs=ints .i8 a)(h:ag w g cJ cs):aN .i8 w (.slice (σ (if 6=0 then⟨g,0,ν⟩else⟨g,0+0*1,ν⟩)) (n-0) (6-0)) (a.take n):=by
 subst f;rw[rc Ω];unfold aN;have p:(a.take n).length=n:=by rw[o8];omega
 rw[p];refine⟨Θ,g,0,_,6,rfl,Ω,by simp[maxLen],λ_=>rfl,λj v e=>?_⟩;have q:=(x6.1 e).1;refine h.range j v ?_;rw[ints,List.map_take,Y6 (by simp[ints]at q;omega)]at e;exact e
def NH(D L:Told):Prop:=L.Perm D/\ua (λp=>gU (pad p.1)) L 0 L.length
theorem NI{g m:Nat}{o:Int}{D:Told}(h:eV w g m aj k o D)(bb:D.length<65536):al v8 JD [Γ g] w λv I=>Ext w I/\∃L:Told,NH D L/\bq (eU w.heap.size) bO I [v] L:=by
 obtain⟨⟨sv,gs,Y,hm⟩,bc,J,bS,ay⟩:=id h;have bd:qs (D.map λp=>pad p.1):=λbT hk=>by
  obtain⟨p,ac,rfl⟩:=j5.1 hk;exact rD J (ay p ac).1
 refine aB func199 ?_;rw[dg e1.u];simp only[Y2,a6];rw[aK fL.p 3 Y rfl];refine MI.Y ?_;rintro _ U _ ⟨Z,dq,rfl,bU,be⟩;refine(NG be (bc.W Z) (by rw[S6,S6];rfl) bd (by simpa using bb)).Y ?_;rintro bV aa _ ⟨az,bX,M,bf,bg,aC⟩;obtain⟨L,ab,K⟩:=Dz bf;have aE:M.length=L.length:=by rw[<-K];simp
 have bY:=ab.length_eq;have s1:=Z.size;have bZ:=az.size;have aF:=Z.F az;rw[ew kP.u aC];refine ch.range L.length (λi out e=>Ext aa e/\bq (eU aa.heap.size) bO e [out] (L.take i)) Ω ⟨Ext.refl _,by rw[List.take_zero];exact gh⟩ ?_ ?_
 rotate_left
 .rintro out e bh ⟨B,N⟩;rw[aE];simp only[aS,am];refine⟨λh=>Ω,λ_=>⟨aF.F B,L,⟨ab,λp q x y h1 bi b0 bj bl=>?_⟩,?_⟩⟩
  .exact bg p q (pad x.1) (pad y.1) h1 bi Ω (by rw[<-K,u4,bj];rfl) (by rw[<-K,u4,bl];rfl)
  .rw[j4]at N;exact an.Y N (λr _ h=>by have h:=h;show w.heap.size<=r;omega) λ_ _ h=>h
 rintro i out e bh hi ⟨B,N⟩ bm;obtain⟨⟨t,c⟩,ad⟩:∃p,L[i]?=σ p:=⟨_,x8 hi⟩;have ae:(t,c)∈D:=ab.mem_iff.1 (x7 ad);have ah:=(ay _ ae).1;have aG:=xb J ah;have ak:t.length=aj.length:=aG.1;have aH:=J.1;have bn:nl (pad t):=rD J ah;have O:=bn.1;have bo:M[i]?=σ (pad t):=by rw[<-K,u4,ad];rfl
 rw[aE];simp only[aS,am];refine⟨λ_=>?_,λh=>Ω⟩;rw[MW rfl (aC.W B) bo];refine bF cJ.i λao b1 b2 aI aJ=>?_;refine rC O rfl aJ λbp br b3 P=>?_;have b4:=aI.size;have b5:=aJ.lt;have bs:Ext e bp:=aI.put br Ω;intro aM E _ _;have ap:=bs.F E;have au:=(aF.F B).F ap;have aN:=h.W au;obtain⟨⟨b7,b8,b9,ca⟩,cb,_⟩:=id aN;have cc:=ap.size;rw[aK fL.p 3 (Y.W au) rfl,pg O (P.W E).range];refine MC aN ah (λf bw=>?_) (λbx=>ro rfl (bx _ ae));have bz:f=c:=by
  have:=CM h.nodup bw ae rfl;exact congrArg Prod.snd this
 subst bz;simp only[Bool.false_eq_true,if_false];rw[dm (cs:=#[.slice ν 0 0,Δ f]) Ψ];refine bF gD.i λQ cd ce av aO=>?_;refine⟨.inl av,?_⟩;refine b6 (vs:=[.slice ν 0 0,Δ f]) gD.i rfl rfl (by intro v aQ;simp at aQ;rcases aQ with rfl|rfl<;>rfl) aO λC bA cf aR=>?_;have cg:=av.size;have ci:=aO.lt;have S:Ext aM C:=av.put bA Ω;have aV:=ap.F S;have aX:=au.F S;rw[aK fL.p 0 (Y.W aX) rfl,a1 aq.u (hm.ls.W aX)];rw[tp cJ.u gg.i (l:=0) (h:=aj.length) (m:=6) jW (oT _ _ rfl) fh Ω Ω Ω];have aY:=DA O aH rfl ((P.W E).W S);rw[<-ak,CH]at aY;rw[<-ak,a1 l8.u aY];have bB:=(P.W E).W S;have cj:ao<aM.heap.size:=(P.W E).lt;have ck:Q<C.heap.size:=aR.lt;refine bW.range t.length (λj s=>af (λr=>r=Q\/C.heap.size<=r) C s/\∃aT gt,C.heap.size<=gt/\ag s Q gD [aT,Δ f]/\aA .i64 ai s gt aT (t.take j)) Ω ⟨af.refl _ _,_,C.heap.size,o4 _,aR,aA.nil _ _ _ _⟩ ?_ ?_
 .rintro j s bD bE ⟨z,aT,gt,bG,W,X⟩ bH;obtain⟨x,aw⟩:=aD (l:=t) bE;have cl:=aG.2 x (x7 aw);have cm:Ext e s:=aV.then z (λr aZ he=>by rcases he with rfl|he<;>omega);have a2:=DA O aH rfl (bB.V z (λhe=>by rcases he with he|he<;>omega));rw[<-ak,CH]at a2;simp only[aS,am];refine⟨λ_=>?_,λh=>Ω⟩;rw[bk l8.u gg.i Ψ a2 aw,aL gD.p 0 W rfl,fA gg.u ai.u,m1 Ω Ω];refine eT aq.u ai.i rfl λa ga bI cn A bJ=>?_;refine kp aq.u ai.i rfl (X.W A) bJ.ls Θ Θ λa7 bK bL cp G H=>?_;have bM:=z.size;have bN:=A.size;have cq:=H.size;rw[aU gD.p rfl];refine bt (g:=Q) (o:=0) aq.i G.ls.cells.1 G.ls.cells.2 ((W.W A).V H (λhe=>by have he:=he;omega)) Ξ λcr a8 ct bP=>?_;simp only[aP];refine bH _ ⟨((z.F (A.V _)).F (H.Y λr _ he=>.inr (by have he:r=gt:=he;omega))).F (a8.Y λr _ he=>.inl he),a7,bK,Ω,bP,?_⟩;rw[r9,aw];exact G.V a8 (λ_ he=>by have he:=he;omega)
 .rintro s bD ⟨z,aT,gt,bG,W,X⟩;simp only[aS,am];refine⟨λh=>Ω,λ_=>?_⟩;rw[j4]at X;rw[bC gD.p gD.i rfl W.range];have bM:=z.size;have bQ:=aV.then z (λr aZ he=>by rcases he with rfl|he<;>omega);have ba:bq (eU e.heap.size) bO s [aT,Δ f] (t,f):=⟨[aT],[Δ f],eU e.heap.size,bO,rfl,λ_ h=>h,λ_ h=>h.elim,λ_ _ _ h=>h,an.Y (md X) (λr _ h=>by subst h;show e.heap.size<=r;omega) (λ_ _ h=>h),rfl⟩;refine ju (α:=Λ×Int) (R:=bO) p3.u gD.i Φ rfl ba λu bI A _ bR=>?_;have ax:=bQ.F A;have bN:=ax.size;refine nQ p3.u gD.i rfl (bu (ng N) ax) bR (bu ba A) (λr _ h aW=>?_) Θ Θ λa7 bL G H=>?_
  .rcases aW with aW|aW
   .have:=h.2;have:e.heap.size<=r:=aW;omega
   .exact aW
  simp only[aP];have cu:=B.size;refine bm _ _ ⟨(B.F ax).then H (λr aZ h=>by have h:=h.1;have h:=h;omega),?_⟩;rw[r9,ad];refine an.Y G (λr _ h=>?_) λ_ _ h=>h;show aa.heap.size<=r;rcases h with h|h|h
  .exact h.1
  .have h:=h;omega
  .omega
theorem DB{s:Λ}(J:dP s):t∈bo s↔dv s t:=by
 refine⟨λh=>?_,λ⟨n,h⟩=>x7 (nX J h)⟩;obtain⟨i,hi⟩:=X8.1 h;exact⟨_,kw J hi⟩
theorem DC:∀{s:Λ},dP s->(bo s).Pairwise λa b=>gU a<gU b
 |[],_=>by simp[bo]
 |k::s,J=>by
  have z:=DC J.tail;have f:∀t∈bo s,0<=gU t/\gU t<32 ^ s.length:=λt p=>by
   have A:=(DB J.tail).1 p;have h1:=pd.1 A;have r:=tZ t λx q=>by
    obtain⟨i,hi,rfl⟩:=List.getElem_of_mem q;obtain⟨a,e⟩:=aD (l:=s) (i:=i) Ω;have C:=h1.2 i a _ e (x8 hi);have E:=(J.tail a (x7 e)).2;omega
   rw[h1.1];exact r
  have j:∀t∈bo s,t.length=s.length:=λt p=>tr p;show((X9 k.toNat).flatMap λ(v:Nat)=>(bo s).map λt=>(v:Int)::t).Pairwise _;rw[List.pairwise_flatMap];refine⟨λv _=>?_,?_⟩
  .rw[List.pairwise_map];refine z.imp_of_mem λ{a b}e f h=>?_;simp only[gU,j a e,j b f];omega
  .refine List.pairwise_lt_range.imp λ{u v}F x q y B=>?_;obtain⟨a,e,rfl⟩:=j5.1 q;obtain⟨b,w,rfl⟩:=j5.1 B;simp only[gU,j a e,j b w];have h1:=f a e;have r:=f b w;have:=Int.mul_le_mul_of_nonneg_right (show(u:Int)+1<=v by omega) (show(0:Int)<=32 ^ s.length by have:=xg s.length;omega);rw[Int.add_mul,Int.one_mul]at this;omega
theorem NJ{D L:Told}{o:Int}(e:(D.map (·.1)).Nodup)(ac:L.Perm D)(t:Λ):jB L o t=jB D o t:=by
 have h:=(ac.map (·.1)).nodup_iff.2 e;by_cases he:∃p∈D,p.1=t
 .obtain⟨p,f,rfl⟩:=he;rw[rE e f,rE h (ac.mem_iff.2 f)]
 .rw[rF λp h1 a=>he ⟨p,h1,a⟩,rF λp h1 a=>he ⟨p,ac.mem_iff.1 h1,a⟩]
def jF(aj:Λ)(f:Λ->Int)(cs:Λ):Prop:=cs.length=(aQ aj).toNat/\∀t,dv aj t->br aj cs t=f t
theorem jF.eq{f:Λ->Int}{cs a:Λ}(J:dP aj)(h1:jF aj f cs)(e:jF aj f a):cs=a:=LU J h1.1 e.1 λt h=>by rw[h1.2 t h,e.2 t h]
theorem jF.congr{f a:Λ->Int}{cs:Λ}(h:jF aj f cs)(he:∀t,dv aj t->f t=a t):jF aj a cs:=⟨h.1,λt e=>by rw[h.2 t e,he t e]⟩
theorem xu(J:dP aj)(h:dv aj t):∃n:Nat,cp aj t 0=σ (n:Int)/\n<(aQ aj).toNat:=by
 obtain⟨n,a⟩:=h;have:=mf J a;simp only[Int.zero_mul,Int.zero_add,Int.one_mul]at this;exact⟨n.toNat,by rw[a];congr 1;omega,Ω⟩
theorem NK(J:dP aj)(c:Int):jF aj (λ_=>c) (o6 (aQ aj).toNat c):=⟨Ξ,λt a=>by
 obtain⟨n,e,f⟩:=xu J a;unfold br;rw[e];simp only[u9,u5,List.getElem?_replicate,f,if_true,W7]⟩
theorem jF.put{f:Λ->Int}{cs:Λ}(J:dP aj)(h:jF aj f cs)(q:dv aj t)(r:cG c k):jF aj (λs=>if s=t then c else f s) (tt aj t k c cs):=by
 obtain⟨n,e,w⟩:=xu J q;unfold tt;rw[e];simp only[r,if_true,u9];refine⟨by simp[h.1],λs p=>?_⟩;obtain⟨m,hm,x⟩:=xu J p;have a:=h.2 s p;unfold br at a ⊢;rw[hm]at a ⊢;simp only[u9]at a ⊢;by_cases he:s=t
 .subst he;rw[e]at hm;have j:n=m:=by have:=Z4 hm;omega
  subst j;rw[ms rfl,u5,n9 (by rw[h.1];exact w)];rfl
 .rw[rc he,u5,Z6 (λj=>he ?_),<-u5,a];subst j;rw[<-B9 J hm,<-B9 J e]
def NL(w:x5)(aj:Λ)(k o:Int)(D:Told)(v:x4)(I:x5):Prop:=Ext w I/\(4096<aQ aj->v= .tuple #[.pointer ν,Δ 5])/\
 (aQ aj<=4096->∃g a sv cs,v= .tuple #[Γ g,Δ 0]/\w.heap.size<=g/\(w.heap.size<=a/\∀r,lw sv r->w.heap.size<=r)/\dh I g a sv aj k cs/\jF aj (jB D o) cs)
theorem DD{g m:Nat}{o:Int}{D:Told}(h:eV w g m aj k o D)(Y:D.length<65536):al v8 IK [Γ g] w (NL w aj k o D):=by
 obtain⟨⟨sv,gs,Z,hm⟩,aW,J,ab,ad⟩:=id h;have O:=h.nodup;refine aB func126 ?_;rw[dg e1.u];simp only[Y2,a6];intro U a _ _;have G:=Z.W a;rw[aK fL.p 0 G rfl,aK fL.p 1 G rfl,aK fL.p 2 G rfl];refine(wI (hm.ls.W a)).Y ?_;rintro _ aa _ ⟨x,_,ae,_,ag⟩;by_cases ac:aQ aj<=4096
 rotate_left
 .have:=ae J Ω;subst this;rw[bx,bz];simp only[bL,am];exact⟨λ_=>⟨a.F x,λ_=>rfl,λh=>ro h ac⟩,λh=>by simp at h⟩
 obtain⟨gt,f,aT,rfl,aX,aY,ah,P⟩:=ag J ac ab;rw[bx,bz];simp only[bL,am];refine⟨λh=>ro rfl h,λ_=>?_⟩;have s1:=a.size;have aZ:=x.size;refine(NI ((h.W a).W x) Y).Y ?_;rintro ds ai _ ⟨H,L,y,Q⟩;have a1:=H.size;have a2:f<aa.heap.size:=by
  obtain⟨⟨ba,a7,_,_,ak⟩,⟨_,_,a8⟩,ao,ap⟩:=id P;have bb:=nk ao.2;obtain⟨_,⟨_,aq⟩|⟨cap,cs,_,au,_⟩⟩:=ak
  .rw[ap]at aq;omega
  .exact au.lt
 have bc:=y.1.length_eq;rw[gR p3.u Q];refine bW.range L.length (λi z=>af (λr=>r=f) ai z/\∃cs,dh z gt f aT aj k cs/\jF aj (jB (L.take i) o) cs) Ω ⟨af.refl _ _,_,P.W H,by rw[List.take_zero];exact NK J.2 o⟩ ?_ ?_
 .rintro i z av hi ⟨C,cs,I,E⟩ aw;simp only[aS,am];refine⟨λ_=>?_,λh=>Ω⟩;obtain⟨⟨t,c⟩,q⟩:∃p,L[i]?=σ p:=⟨_,x8 hi⟩;have ax:(t,c)∈D:=y.1.mem_iff.1 (x7 q);obtain⟨ay,az,aA⟩:=ad _ ax;have aC:=an.V Q C λr R aD he=>by
   have he:r=f:=he;rcases aD with h|h
   .have h:=h;omega
   .exact h
  refine ni gD.p rfl p3.u gD.i aC q λus aE=>?_;obtain⟨bd,be,A,B,rfl,bf,bg,_,h1,aF⟩:=aE;have aG:=aF;subst aG;obtain⟨aH,rfl,_⟩:=id h1;have hu:=en h1;refine bF gD.i λbh bi bj aI S=>?_;refine b6 (vs:=[aH,Δ c]) gD.i rfl rfl (by intro v W;simp at W;rcases W with rfl|rfl;exact hu.cells.2;rfl) S λbk aJ bl X=>?_;have bm:=S.lt;have K:=aI.put aJ Ω;rw[aL gD.p 0 X rfl,aL gD.p 1 X rfl];refine(K4 (I.W K) (hu.W K)).Y ?_;rintro _ bn _ ⟨rfl,aM,aN⟩;simp only[aP];refine aw _ ⟨(C.F (K.V _)).F aM,_,aN,(E.put J.2 ay az).congr λs bo=>?_⟩;rw[r9,q];have M:=(y.1.map (·.1)).nodup_iff.2 O;have aO:∀p∈L.take i,p.1≠t:=λp ac he=>by
   obtain⟨j,N⟩:=X8.1 ac;have aR:j<i:=by have:=(x6.1 N).1;rw[o8]at this;omega
   rw[Y6 aR]at N;have:=lJ M (by rw[u4,N,Y3,he]) (by rw[u4,q];rfl);omega
  have aU:((L.take i).map (·.1)).Nodup:=by rw[List.map_take];exact(List.take_sublist _ _).nodup M
  have aV:((L.take i++[(t,c)]).map (·.1)).Nodup:=by
   have e:L.take i++[(t,c)]=L.take (i+1):=by rw[r9,q];rfl
   rw[e,List.map_take];exact(List.take_sublist _ _).nodup M
  exact((CN aO aA).cost aU aV s).symm
 .rintro z av ⟨C,cs,I,E⟩;simp only[aS,am];refine⟨λh=>Ω,λ_=>?_⟩;rw[j4]at E;exact⟨((a.F x).F H).put C Ω,λh=>Ω,λ_=>⟨gt,f,aT,cs,rfl,Ω,⟨Ω,λr R=>by have:=ah r R;omega⟩,I,E.congr λs _=>NJ O y.1 s⟩⟩
theorem NM{s cs:Λ}(J:dP s)(a:cs.length=(aQ s).toNat){i:Nat}(h:(bo s)[i]?=σ t):cs[i]?=σ (br s cs t):=by
 have hi:=(x6.1 h).1;rw[ks J,<-a]at hi;unfold br;rw[kw J h];simp only[u9,u5,x8 hi,W7]
theorem uk{k:j0}{g:Nat}(h:aA k e w g v l)(f:0<l.length):g<w.heap.size:=by
 obtain⟨_,⟨_,h1⟩|⟨_,_,_,a,_⟩⟩:=h
 .omega
 .exact a.lt
def gm(w:x5)(g m:Nat)(sv:x4)(gs:Nat)(aj:Λ)(k o:Int)(D:Told):Prop:=
 ag w g fL [sv,Δ k,Δ o,.map (σ m)]/\aA .i64 ai w gs sv aj/\dd w m (D.map kY)/\cg aj/\cG o k/\∀p∈D,dv aj p.1/\cG p.2 k/\p.2≠o
theorem gm.is{g m:Nat}{o:Int}{D:Told}(h:gm w g m sv gs aj k o D):eV w g m aj k o D:=⟨⟨sv,gs,h.1,h.2.1⟩,h.2.2⟩
theorem eV.at{g m:Nat}{o:Int}{D:Told}(h:eV w g m aj k o D):∃sv gs,gm w g m sv gs aj k o D:=by
 obtain⟨⟨sv,gs,h1,a⟩,e⟩:=h;exact⟨sv,gs,h1,a,e⟩
theorem gm.W{g m:Nat}{o:Int}{D:Told}(h:gm w g m sv gs aj k o D)(a:Ext w I):gm I g m sv gs aj k o D:=by
 obtain⟨h1,e,f,j⟩:=h;exact⟨h1.W a,e.W a,f.W a,j⟩
theorem gm.V{g m:Nat}{o:Int}{D:Told}(h:gm w g m sv gs aj k o D)(a:af S w I)(e:¬S g)(hm:¬S m)(J:∀r,lw sv r->¬S r):gm I g m sv gs aj k o D:=by
 obtain⟨h1,f,j,p⟩:=h;exact⟨h1.V a e,bA f a J,j.V a hm,p⟩
theorem ul{g m:Nat}{d:List (x4×x4)}(h:ag w g e cs)(hm:dd w m d):g≠m:=by
 rintro rfl;obtain⟨a,c,h1,_⟩:=hm;unfold ag at h;rw[h1]at h;cases h
theorem DE{g m:Nat}{k:j0}{d:List (x4×x4)}(h:aA k e w g v l)(hm:dd w m d)(f:lw v r):r≠m:=by
 obtain⟨rfl,_⟩:=bZ h f;obtain⟨_,⟨rfl,_⟩|⟨_,_,_,j,_⟩⟩:=h
 .obtain⟨a,n,c,h,_⟩:=f;cases h
 .exact ul j hm
theorem gm.put{g m:Nat}{o:Int}{D D':Told}(h:gm w g m sv gs aj k o D)(a:af (λr=>r=m) w I)(aW:eV I g m aj k o D'):gm I g m sv gs aj k o D':=
 ⟨h.1.V a (λhe=>ul h.1 h.2.2.1 he),bA h.2.1 a (λr e he=>DE h.2.1 h.2.2.1 e he),aW.2⟩
theorem gm.rx{g m:Nat}{o:Int}{D:Told}(h:gm w g m sv gs aj k o D):g<w.heap.size/\m<w.heap.size/\∀r,lw sv r->r<w.heap.size:=
 ⟨h.1.lt,h.2.2.1.lt,λr a=>by obtain⟨rfl,e⟩:=bZ h.2.1 a;exact e⟩
instance (s t:Λ):Decidable (dv s t):=decidable_of_iff ((cp s t 0).isSome=v2) ⟨λh=>by
 cases a:cp s t 0 with
 |none=>rw[a]at h;cases h
 |some n=>exact⟨n,a⟩,λ⟨n,h⟩=>by rw[h];rfl⟩
theorem um(h:aN .i64 w sv l)(G:l.length<=1000000):al v8 Az [sv] w λv I=>Ext w I/\∃g,w.heap.size<=g/\aA .i64 ai I g v l:=by
 refine aB func117 ?_;rw[a1 aw.u h];refine kq (k:=.i64) aq.u ai.i Ω Ω λg U H j p=>?_;have y:aA .i64 ai U g (.slice (σ ⟨g,0,ν⟩) l.length l.length) (o6 l.length 0):=by
  have:=b0.full (k:=1) (n:=l.length) p Ξ (by simp[maxLen];omega);exact aA.of this
 rw[a1 aw.u (h.W j)];have J:=p.lt;refine bW.range l.length (λi aa=>af (λr=>r=g) U aa/\aA .i64 ai aa g (.slice (σ ⟨g,0,ν⟩) l.length l.length) (l.take i++o6 (l.length-i) 0)) h.le ⟨af.refl _ _,by simpa using y⟩ ?_ ?_
 rotate_left
 .rintro aa z ⟨f,a⟩;rw[aS,am];rw[j4,V2,List.replicate_zero,U2]at a;exact⟨λh=>Ω,λ_=>⟨j.put f Ω,g,Ω,a⟩⟩
 rintro i aa z hi ⟨f,a⟩ A;obtain⟨x,q⟩:=aD (l:=l) hi;have B:Ext w aa:=j.put f Ω;refine bG Ω ?_;rw[bk aw.u av.i Ψ (h.W B) q];rw[iY rfl aq.u ai.i a Θ];refine iZ ai.i a Θ λK C L s=>?_;rw[aP];refine A _ ⟨f.F C,?_⟩;have e:(l.take i++o6 (l.length-i) 0).set i x=l.take (i+1)++o6 (l.length-(i+1)) 0:=by
  have E:(l.take i).length=i:=by rw[o8];omega
  rw[T4 _ _ Ω,E,V2,show l.length-i=(l.length-(i+1))+1 by omega,List.replicate_succ,List.set_cons_zero,r9,q,j6,T6];rfl
 rw[e]at s;exact s
def NN(w:x5)(l:Λ)(k o:Int)(v:x4)(I:x5):Prop:=
 Ext w I/\(¬cg l->v= .tuple #[.pointer ν,Δ 1])/\(cg l->¬cG o k->v= .tuple #[.pointer ν,Δ 3])/\
  (cg l->cG o k->∃g m sv gs,v= .tuple #[Γ g,Δ 0]/\w.heap.size<=g/\w.heap.size<=m/\(∀r,lw sv r->w.heap.size<=r)/\gm I g m sv gs l k o [])
theorem NO{o:Int}(h:aN .i64 w sv l):al v8 pZ [sv,Δ k,Δ o] w (NN w l k o):=by
 refine aB func178 ?_;refine aZ (λv U=>Ext w U/\∃c,v= .bool c/\(c=v2↔¬cg l)) ?_ ?_
 .rintro _ U ⟨e,c,rfl,f⟩;rw[b4];refine⟨λx=>⟨e,λ_=>rfl,λh=>ro h (f.1 x),λh=>ro h (f.1 x)⟩,λA=>?_⟩;have J:cg l:=Classical.byContradiction λh=>by have:=f.2 h;rw[A]at this;cases this
  have H:=J.1;refine kU.Y ?_;rintro _ aa _ ⟨rfl,a⟩;by_cases hi:cG o k
  rotate_left
  .simp only[hi,decide_false,bM,W6,bQ];exact⟨e.F a,λh=>ro J h,λ_ _=>rfl,λ_ h=>ro h hi⟩
  simp only[hi,decide_true,bM,X3,a6];refine(mh ((h.W e).W a) Ω).Y ?_;rintro aT I _ ⟨y,B,K,hm⟩;have L:=hm.ls.cells;refine tT λm M N j C=>?_;rw[dm (cs:=#[aT,Δ k,Δ o,.map (σ m)]) (by obtain⟨_,_,_,_,_,rfl,_⟩:=hm.ls;kernel_rfl)];refine bp λg O P q E=>?_;have s1:=e.size;have Q:=a.size;have R:=y.size;have S:=j.size;exact⟨((((e.F a).F y).F j).F q),λh=>ro J h,λ_ h=>ro hi h,λ_ _=>⟨g,m,aT,B,rfl,Ω,Ω,λr G=>by have:=(bZ hm G).1;omega,E,(hm.W j).W q,C.W q,J,hi,λp ac=>by cases ac⟩⟩
 .intro ax z;rw[a1 aq.u h];simp only[bU,am];refine⟨λV=>z _ _ ⟨Ext.refl _,v2,rfl,λ_ J=>by have:=J.1;omega,λ_=>rfl⟩,λW=>?_⟩;refine(CI h).Y ?_;rintro _ aa _ ⟨rfl,a⟩;refine z _ _ ⟨a,_,rfl,?_⟩;rw[sp];exact⟨λs J=>s J.2,λs J=>s ⟨Ω,J⟩⟩
structure DF where
 aj:Λ
 k:Int
 o:Int
 D:Told
instance UF:an DF where
 n:=1
 rep _ _ R w cs a:=∃g m sv gs,cs=[Γ g]/\gm w g m sv gs a.aj a.k a.o a.D/\R g/\R m/\∀r,lw sv r->R r
 len:=by rintro _ _ _ _ _ _ ⟨_,_,_,_,rfl,_⟩;rfl
 one:=by rintro _ _ _ _ _ _ ⟨_,_,_,_,rfl,_⟩ u hu;simp at hu;subst hu;rfl
 V:=by
  rintro _ _ R T w I _ a ⟨g,m,sv,gs,rfl,h1,f,h,j⟩ z p;obtain⟨q,s,x⟩:=h1.rx;exact⟨g,m,sv,gs,rfl,h1.V z (p g q (.inr f)) (p m s (.inr h)) λr e=>p r (x r e) (.inr (j r e)),f,h,j⟩
 Y:=by
  rintro _ _ _ R R' w _ a ⟨g,m,sv,gs,rfl,h1,f,h,j⟩ _ y;obtain⟨q,s,x⟩:=h1.rx;exact⟨g,m,sv,gs,rfl,h1,y g q f,y m s h,λr e=>y r (x r e) (j r e)⟩
 iS:=by
  rintro _ _ R w _ a ⟨g,m,sv,gs,rfl,h1,f,h,j⟩;exact⟨g,m,sv,gs,rfl,h1,.inr f,.inr h,λr e=>.inr (j r e)⟩
abbrev ih:Type:=Rd (Λ)×DF
def rQ(k:Int)(x:cE)(f:ih):Prop:=f.1=x.scope/\f.2.aj=x.co/\f.2.k=k/\f.2.o=min x.other k/\f.2.D.length<=x.lines.length/\∀t,jB f.2.D f.2.o t=kX x k t
theorem NP{m:Bool}{S R:ah}{x:cE}(h:an.rep m S R w cs (iH x)):∃aV lc cq,cs=[aV,lc,Δ x.other,cq]/\an.rep (α:=Λ) v6 bO R w [aV] x.scope/\an.rep (α:=Λ) v6 bO R w [lc] x.co/\an.rep (α:=List (Λ×Int)) v6 bO R w [cq] x.lines:=by
 obtain⟨j,d1,q,r,rfl,_,_,_,h1,p,d2,s,z,rfl,_,_,_,a,A,d3,B,C,rfl,_,_,_,f,e⟩:=h;have h1:=h1;have a:=a;have f:=f;have e:=e;obtain⟨u,rfl⟩:=V4.1 (show j.length=1 from an.len h1);obtain⟨v,rfl⟩:=V4.1 (show p.length=1 from an.len a);obtain⟨y,rfl⟩:=V4.1 (show d3.length=1 from an.len e);subst f;exact⟨u,v,y,rfl,h1,a,e⟩
theorem NQ{m:Bool}{S R:ah}{p:Λ×Int}(h:an.rep m S R w cs p):∃aT,cs=[aT,Δ p.2]/\aN .i64 w aT p.1:=by
 obtain⟨e,d1,f,j,rfl,_,_,_,h1,a⟩:=h;obtain⟨u,rfl⟩:=V4.1 (show e.length=1 from an.len h1);have a:=a;subst a;exact⟨u,rfl,en h1⟩
structure uo(k:Int)(x:cE):Prop where
 k:right k
 co:cg x.co
 other:0<=x.other
 lines:nZ x.co x.lines
 len:x.lines.length<=60000
 scope:x.scope.length<=100001
theorem dj{k:j0}(h:aN k w v l):∃a n c,v= .slice a n c:=by
 obtain⟨_,b,o,base,cap,rfl,_⟩:=h;exact⟨_,_,_,rfl⟩
theorem NR{ai:Nat}{aH aI aJ:x4}{K:Int}{R:ah}{x:cE}(aj:ag w ai cI [aH,Δ K,aI,aJ])(aM:Seen R w cs (iH x))(aN:uo K x):
  al v8 wk [Γ ai,.agg cs.toArray] w λv I=>Ext w I/\∃bD,∃f:ih,v= .agg bD.toArray/\bD.length=2/\Seen (eU w.heap.size) I bD f/\rQ K x f:=by
 obtain⟨aV,lc,cq,rfl,h1,ak,O⟩:=NP aM;obtain⟨E,P,bh,am,bi,bj⟩:=aN;have bk:=P.1;refine aB func118 ?_;refine bp λao U bl an j=>?_;have j:ag U ao cm [aV,lc,Δ x.other,cq]:=by
  obtain⟨_,_,_,rfl⟩:=np h1;obtain⟨_,_,_,rfl⟩:=np ak;obtain⟨_,_,_,rfl⟩:=np O;exact j
 refine bF cM.i λap aa bm Q G=>?_;have G:=G;intro bn H _ _;have S:=(an.F Q).F H;have W:=Q.F H;have bo:=an.size;have bq:=Q.size;have z3:=H.size;have br:=G.lt;have aq:=aj.W S;rw[aL cm.p 1 (j.W W) rfl,aK cI.p 1 aq rfl,
  aL cm.p 2 (j.W W) rfl,aK cI.p 1 aq rfl,ma]
 refine(um ((en ak).W S) Ω).Y ?_;rintro bs bt _ ⟨s,bw,bB,aO⟩;refine⟨.inl s,?_⟩;have z4:=s.size;have aQ:cG (min x.other K) K:=⟨E,by have:=E.1;omega,Ω⟩;refine(NO aO.ls).Y ?_;rintro _ aR _ ⟨J,_,_,aS⟩;obtain⟨ae,m,sv,gs,rfl,bC,bE,au,aU⟩:=aS P aQ;rw[bx,bz];have z5:=J.size;have X:=(S.F s).F J;have av:=(W.F s).F J;rw[aL cm.p 3 (j.W av) rfl];have aw:=bu O X;rw[gR jS.u aw];refine bW.range x.lines.length (λi L=>af (λr=>r=m) aR L/\∃D,D.length<=i/\gm L ae m sv gs x.co K (min x.other K) D/\∀t,jB D (min x.other K) t=mu x K i t) (oZ aw) ⟨af.refl _ _,[],o4 _,aU,λt=>by rw[Du];rfl⟩ ?_ ?_
 .rintro i L aW hi ⟨a,D,ax,y,Y⟩ aX;obtain⟨p,ac⟩:=aD (l:=x.lines) hi;have ay:=am.2 p (x7 ac);have z:=X.put a Ω;have aY:=a.size;have aZ:=bu O z;refine bG Ω ?_;refine ni eu.p rfl jS.u eu.i aZ ac λbH a1=>?_;obtain⟨aT,rfl,az⟩:=NQ a1;refine bF eu.i λbI bJ bK aA a2=>?_;have bL:=aA.size;refine b6 (vs:=[aT,Δ p.2]) eu.i rfl rfl (by intro v A;simp at A;rcases A with rfl|rfl<;>first|exact az.cells.2|rfl) a2 λbM a6 bN aC=>?_;have a7:=aA.put a6 Ω;intro bP Z _ _;have q:=a7.F Z;have z9:=q.size;rw[aL eu.p 0 (aC.W Z) rfl,aL eu.p 1 (aC.W Z) rfl,aK cI.p 1 ((aj.W z).W q) rfl,ma];have bQ:=xb P ay.1;refine(um (az.W q) Ω).Y ?_;rintro bR bS _ ⟨B,bT,bU,a8⟩;refine⟨.inl B,?_⟩;have bV:=B.size;refine(CQ ((y.W q).W B).is a8.ls).Y ?_;rintro _ bX _ ⟨_,ba⟩;have bb:cG (min p.2 K) K:=⟨E,by have:=E.1;omega,Ω⟩;obtain⟨rfl,aE,D',aF,aG⟩:=ba ⟨ay.1,bb⟩;rw[aP];refine aX _ ⟨(a.F ((q.F B).V _)).F aE,D',by have:=aF.2;omega,gm.put ((y.W q).W B) aE aG,λt=>?_⟩;rw[Dw am.1 ac,aF.cost y.is.nodup aG.nodup];by_cases M:t=p.1
  .rw[ms M,ms M]
  .rw[rc M,rc M,Y]
 .rintro L aW ⟨a,D,ax,y,Y⟩;have z:=X.put a Ω;have bc:=av.put a Ω;have aY:=a.size;refine cd Ω ?_;rw[aL cm.p 0 (j.W bc) rfl];refine(um ((en h1).W z) Ω).Y ?_;rintro ab bY _ ⟨N,b0,b1,C⟩;have z12:=N.size;rw[dm (cs:=#[ab,Γ ae]) (by obtain⟨_,_,_,rfl⟩:=dj C.ls;kernel_rfl)];have bd:=((H.F s).F J).put a Ω;refine b6 (vs:=[ab,Γ ae]) cM.i rfl rfl (by intro v A;simp at A;rcases A with rfl|rfl<;>first|exact C.ls.cells.2|rfl) ((G.W bd).W N) λb2 ad b3 be=>?_;rw[fi cM.p cM.i rfl be.range];have bf:=(y.W N).V ad (λhe=>by have he:=he;omega) (λhe=>by have he:=he;omega) (λr e he=>by have he:r=ap:=he;have:=au r e;omega);have bg:=bA C ad λr e he=>by have he:r=ap:=he;have:=(bZ C e).1;omega
  refine⟨(z.F N).put ad Ω,_,(x.scope,⟨x.co,K,min x.other K,D⟩),rfl,rfl,?_,rfl,rfl,rfl,rfl,ax,λt=>?_⟩
  .exact⟨[ab],[Γ ae],bO,bO,rfl,λ_ h=>h,λ_ h=>h,λ_ _ h _=>h,rM bg λr e=>by have:=(bZ C e).1;show w.heap.size<=r;omega,
    ⟨ae,m,sv,gs,rfl,bf,by show w.heap.size<=ae;omega,by show w.heap.size<=m;omega,λr e=>by have:=au r e;show w.heap.size<=r;omega⟩⟩
  .rw[Y,Dv]
theorem NS{S R:ah}{f:ih}(h:an.rep v6 S R w cs f):an.rep (α:=ih) v2 bO R w cs f:=by
 obtain⟨c,d,A,B,rfl,h1,j,_,a,e⟩:=h;exact⟨c,d,bO,bO,rfl,λ_ h=>h,λ_ h=>h,λ_ _ h _=>h,a,e⟩
def uq(k:Int)(a:List cE)(e:List ih):Prop:=e.length=a.length/\∀(i:Nat)x f,a[i]?=σ x->e[i]?=σ f->rQ k x f
theorem NT{e:Nat}{m:Bool}{S R:ah}{W lc ak:x4}{K:Int}{q:List cE}{aE:x5->Prop}(aG:ag w e cI [W,Δ K,lc,.slice ν 0 0])(aX:an.rep m S R w [ak] (show List jD from q.map iH))(aY:∀r,S r\/R r->r≠e)(aZ:∀x∈q,uo K x)(bR:q.length<=256)(a1:∀I z,∀s:List ih,af (λr=>r=e) w I->ag I e cI [W,Δ K,lc,z]->Seen (λr=>w.heap.size<=r) I [z] s->uq K q s->aE I):
  bW (Δ 0) w λap E a2=>
   ab v8 (aO .lss ai v6 v6 ap (Δ (q.length:Int))) E λa6=>
   Split a6 (ab v8 (c9 km ak ap) E λa7=>
   ab v8 (u6 cm a7) E λa8=>
   aF v8 (Instr.alloc cm v2 (.tuple #[])) E λx ba=>
   aF v8 (l9 cm x a8) ba λ(_:Unit)bb=>
   ei bb λC=>
   ab v8 (bT (Γ e)) C λG=>
   ab v8 (u7 cI G 3) C λH=>
   ab v8 (u6 dO H) C λaq=>
   ab v8 (u6 cm x) C λbc=>
   al v8 wk [(Γ e),bc] C λbd J=>
    (Ext C J\/b2 v8 (u6 dO H) aq J/\b2 v8 (u7 cI G 3) H J/\b2 v8 (bT (Γ e)) G J/\True)/\
   aF v8 (X2 dO 1 #[(0,bd)]) J λbe L=>
    (Ext C L\/b2 v8 (u6 dO H) aq L/\b2 v8 (u7 cI G 3) H L/\b2 v8 (bT (Γ e)) G L/\True)/\
    aF v8 (Z9 #[dO,dO] dO #[aq,be]) L λbf au=>
     ab v8 (bT (Γ e)) au λbg=>
     ab v8 (u7 cI bg 3) au λbh=>
     aF v8 (l9 dO bh bf) au λ(_:Unit)aH=>
     ab v8 (aO .add ai v6 v2 ap (Δ 1)) aH λbi=>
   a2 bi aH) (aE E):=by
 have bS:=aG.lt;have bU:(q.map iH).length=q.length:=Ξ
 refine bW.range q.length (λi U=>af (λr=>r=e) w U/\∃z,∃s:List ih,∃A R':ah,ag U e cI [W,Δ K,lc,z]/\bq A R' U [z] s/\(∀r,A r->w.heap.size<=r/\r<U.heap.size)/\(∀r,R' r->w.heap.size<=r/\¬A r/\r<U.heap.size)/\uq K (q.take i) s) Ω
  ⟨af.refl _ _,_,[],bO,bO,aG,gh,λ_ h=>h.elim,λ_ h=>h.elim,rfl,λi x f h=>by simp at h⟩ ?_ ?_
 rotate_left
 .rintro U bj ⟨M,z,s,A,R',N,av,B,O,X⟩;rw[j4]at X;rw[aS,am];refine⟨λh=>Ω,λ_=>a1 U z s M N (p6 av λr _ h=>?_) X⟩;exact h.elim (λh=>(B r h).1) λh=>(O r h).1
 rintro i U bj hi ⟨M,z,s,A,R',N,av,B,O,aI,X⟩ bk;obtain⟨x,aw⟩:=aD (l:=q) hi;have bl:=aZ x (x7 aw);have bV:=M.size;rw[o8]at aI;have bm:an.rep m S R U [ak] (show List jD from q.map iH):=an.V aX M λr _ h he=>aY r h he;refine bG Ω ?_;refine ni (α:=jD) (a:=iH x) cm.p rfl km.u cm.i bm (by show(q.map iH)[i]?=_;rw[u4,aw];rfl) λcs ax=>?_;have aJ:cs.length=4:=an.len ax;have bn:Seen (λr=>S r\/R r) U cs (iH x):=p6 ax λr _ h=>h;refine bF cm.i λao aa bX aL bo=>?_;have bZ:=aL.size;refine b6 (vs:=cs) cm.i aJ rfl (an.one ax) bo λbp br b0 bs=>?_;have bw:Ext U bp:=aL.put br Ω;intro Y aM _ _;have P:=bw.F aM;have z4:=P.size;rw[aK cI.p 3 (N.W P) rfl,bC cm.p cm.i aJ (bs.W aM).range];refine(NR (N.W P) (bu bn P) bl).Y ?_;rintro _ Z _ ⟨ac,bD,f,rfl,b1,aN,bx⟩;have z5:=ac.size;refine⟨.inl ac,?_⟩;have aQ:=NS aN;have bz:=P.F ac;refine ju (α:=ih) (a:=f) (cs:=bD) (A:=bO) (R:=eU Y.heap.size) dO.u cM.i Φ (by
  obtain⟨c,d,b3,b4,he,_,_,_,ad,bA⟩:=aN;have ad:an.rep (α:=Λ) v6 bO _ Z c f.1:=ad;obtain⟨u,rfl⟩:=V4.1 (show c.length=1 from an.len ad);obtain⟨b5,bP,b7,b8,rfl,_⟩:=bA;obtain⟨_,_,_,rfl⟩:=np ad;cases he;rfl) aQ λu ay ae _ hu=>?_
 have b9:=ae.size;refine⟨.inl (ac.F ae),?_⟩;have az:=bz.F ae;have bB:bq A (λr=>R' r\/(Y.heap.size<=r/\r<Z.heap.size)) ay [z] s:=bu (an.Y av (λ_ _ h=>h) λ_ _ h=>.inl h) az;have bE:bq bO (λr=>R' r\/(Y.heap.size<=r/\r<Z.heap.size)) ay bD f:=bu (an.Y aQ (λ_ _ h=>h) λr y h=>.inr ⟨h,y⟩) ae;refine nQ (α:=ih) (a:=f) (A:=bO) dO.u cM.i rfl bB hu bE (λr _ aR h=>?_) Ω Ω λaT bH aA aB=>?_
 .rcases h with h|h|h
  .exact h
  .exact (O r h).2.1 aR
  .have:=(B r aR).2;omega
 have ca:=aB.size;rw[bY,aU cI.p rfl];have bI:=(N.W az).V aB (λhe=>by have:=(B _ he).1;omega);refine bt (g:=e) (o:=3) dO.i (lC aA) (iX aA) bI Ξ λbJ aV cb aC=>?_;have aC:ag bJ e cI [W,Δ K,lc,aT]:=aC;rw[aP];have bK:=ng aA;refine bk _ ⟨(iB (M.F (az.V _)) aB λr y he=>by have:=(B _ he).1;omega).F aV,aT,s++[f],λr=>((A r\/bO r\/ay.heap.size<=r)/\r<bH.heap.size),λr=>R' r\/(Y.heap.size<=r/\r<Z.heap.size),aC,an.V bK aV λr _ h he=>?_,λr y=>?_,λr y=>?_,?_,λj bL bM aj Q=>?_⟩
 .have he:r=e:=he;rcases h with h|h|h
  .rcases h.1 with h1|h1|h1
   .have:=(B _ h1).1;omega
   .exact h1
   .omega
  .have:=(O r h).1;omega
  .omega
 .have cc:=y.2;rcases y.1 with h1|h1|h1
  .have:=(B _ h1).1;omega
  .exact h1.elim
  .omega
 .rcases y with y|y
  .have aW:=O r y;refine⟨aW.1,λh=>?_,Ω⟩;rcases h.1 with h1|h1|h1
   .exact aW.2.1 h1
   .exact h1
   .omega
  .refine⟨Ω,λh=>?_,Ω⟩;rcases h.1 with h1|h1|h1
   .have:=(B _ h1).2;omega
   .exact h1
   .omega
 .rw[o9,o8,aI];simp;omega
 .have bN:=(x6.1 Q).1;rw[o9,T5]at bN;rw[Y6 Ω]at aj;by_cases bQ:j<s.length
  .rw[Y4 bQ]at Q;exact X j bL bM (by rw[Y6 Ω];exact aj) Q
  .rw[Z7 Ω,show j-s.length=0 by omega]at Q;rw[show j=i by omega,aw]at aj;cases Q;cases aj;exact bx
def mv(w:x5)(h:Nat)(f:b7):Prop:=∃lc a gz,∃e:List ih,ag w h cI [ca f.name,Δ f.k,lc,a]/\aA .i64 ai w gz lc f.co/\Seen fj w [a] e/\uq f.k f.d9 e
theorem mv.W{e:Nat}{f:b7}(h:mv w e f)(a:Ext w I):mv I e f:=by
 obtain⟨lc,j,gz,p,h1,q,r,s⟩:=h;exact⟨lc,j,gz,p,h1.W a,q.W a,bu r a,s⟩
def DG(w:x5)(h:Option b7)(v:x4)(I:x5):Prop:=Ext w I/\match h with
 |none=>∃n e:Int,v= .tuple #[.pointer ν,Δ n,Δ e]/\e≠0
 |some f=>∃a,∃n:Int,v= .tuple #[Γ a,Δ n,Δ 0]/\mv I a f
structure NU(clean:Bool)(so:Option aJ)(name:Λ)(k:Int)(co:Λ)(acc:List jD)(res:Option b7):Prop where
 qo:∀s,so=σ s->s.hp=[]->clean=v2->s.big=v6->∃fs,acc=fs.map iH/\res=σ ⟨name,k,co,fs⟩/\(∀x∈fs,uo k x)/\fs.length<=256/\co.length<=1000000
 bad:res≠ν->∃s,so=σ s/\s.hp=[]/\clean=v2/\s.big=v6
theorem NV{g:Nat}{A B S R:ah}{m N:Bool}{so:Option aJ}{name:Λ}{acc:List jD}{L:Option b7}{lc aG p:x4}{pl:Λ}{Q:x4->x5->Prop}(aH:iG w g gs A B N so)(P:NU N so name k co acc L)(bo:aN .i64 w lc co)(bq:∀r,lw lc r->r≠g/\r≠gs)(br:an.rep m S R w [aG] acc)(a8:∀r,S r\/R r->r≠g/\r≠gs/\r<w.heap.size)(cY:so=ν->True)(cZ:g<w.heap.size)(c0:gs<w.heap.size)(bs:af (λr=>w0.heap.size<=r) w0 w)(c1:w0.heap.size<=g)(c2:w0.heap.size<=gs)(ac:aN .u8 w0 p pl)(ae:∀v I,DG w0 L v I->Q v I):
  cC (α:=x5->Prop) (λ(j:x5)=>
  ab v8 (bT (Γ g)) j λbt=>
  ab v8 (u7 cF bt 1) j λbw=>
  ab v8 (u7 e9 bw 0) j λbx=>
  ab v8 (u6 kN bx) j λbz=>
  ab v8 (aO .neq kN v6 v2 bz (Δ 0)) j λbA=>
  Split bA (ei j λG=>
   ab v8 (bT (Γ g)) G λbB=>
   ab v8 (u7 cF bB 1) G λbC=>
   ab v8 (u7 e9 bC 2) G λbD=>
   ab v8 (u6 ai bD) G λbE=>
   ab v8 (bT (Γ g)) G λbF=>
   ab v8 (u7 cF bF 1) G λbG=>
   ab v8 (u7 e9 bG 0) G λbH=>
   ab v8 (u6 kN bH) G λbI=>
   Q (.tuple #[(.pointer ν),bE,bI]) G)
   (ab v8 (bT (Γ g)) j λbJ=>
   ab v8 (u7 cF bJ 1) j λbK=>
   ab v8 (u7 e9 bK 1) j λbM=>
   ab v8 (u6 kN bM) j λbN=>
   ab v8 (aO .neq kN v6 v2 bN (Δ 0)) j λbO=>
   Split bO (ei j λH=>
   ab v8 (bT (Γ g)) H λbP=>
   ab v8 (u7 cF bP 1) H λbR=>
   ab v8 (u7 e9 bR 3) H λbS=>
   ab v8 (u6 ai bS) H λbU=>
   ab v8 (bT (Γ g)) H λbV=>
   ab v8 (u7 cF bV 1) H λbX=>
   ab v8 (u7 e9 bX 1) H λbZ=>
   ab v8 (u6 kN bZ) H λb0=>
   Q (.tuple #[(.pointer ν),bU,b0]) H)
   (al v8 Az [lc] j λb1 ba=>
  ab v8 (Instr.build cI #[(0,ca name),(1,Δ k),(2,b1)]) ba λb3=>
  aF v8 (Instr.box cI b3) ba λW bb=>
  ab v8 (V0 #[km] ai #[aG]) bb λb4=>
  bW (Δ 0) bb λaI X b5=>
   ab v8 (aO .lss ai v6 v6 aI b4) X λb6=>
   Split b6 (ab v8 (c9 km aG aI) X λb8=>
   ab v8 (u6 cm b8) X λb9=>
   aF v8 (Instr.alloc cm v2 (.tuple #[])) X λx cb=>
   aF v8 (l9 cm x b9) cb λ(_:Unit)cc=>
   ei cc λO=>
   ab v8 (bT W) O λaj=>
   ab v8 (u7 cI aj 3) O λak=>
   ab v8 (u6 dO ak) O λaL=>
   ab v8 (u6 cm x) O λcd=>
   al v8 wk [W,cd] O λce ao=>
    (Ext O ao\/b2 v8 (u6 dO ak) aL ao/\b2 v8 (u7 cI aj 3) ak ao/\b2 v8 (bT W) aj ao/\True)/\
   aF v8 (X2 dO 1 #[(0,ce)]) ao λcf ap=>
    (Ext O ap\/b2 v8 (u6 dO ak) aL ap/\b2 v8 (u7 cI aj 3) ak ap/\b2 v8 (bT W) aj ap/\True)/\
    aF v8 (Z9 #[dO,dO] dO #[aL,cf]) ap λcg aM=>
     ab v8 (bT W) aM λch=>
     ab v8 (u7 cI ch 3) aM λci=>
     aF v8 (l9 dO ci cg) aM λ(_:Unit)bc=>
     ab v8 (aO .add ai v6 v2 aI (Δ 1)) bc λcj=>
   b5 cj bc)
    (ab v8 (V0 #[cT] ai #[p]) X λck=>
  Q (.tuple #[W,ck,(Δ 0)]) X)))) λay=>
 al v8 l6 [(Γ g)] w λcl aq=>
 Split cl (ab v8 (bT (Γ g)) aq λcn=>
  ab v8 (u7 cF cn 0) aq λcp=>
  ab v8 (u6 tj cp) aq λcq=>
  al v8 wj [cq] aq λaP M=>
  ab v8 (Y8 aP 0) M λc3=>
  ab v8 (Y8 aP 1) M λbd=>
  ab v8 (Y8 aP 2) M λaQ=>
  ab v8 (aO .eql kN v6 v2 aQ (Δ 0)) M λcr=>
  Split cr (al v8 oJ [(Γ g),(Δ 4),bd] M λc4 ct=>
  ay ct)
  (ab v8 (aO .eql kN v6 v2 aQ (Δ 11)) M λcu=>
  Split cu (al v8 oJ [(Γ g),aQ,bd] M λc5 cw=>
   ay cw)
   (ay M)))
  (ay aq):=by
 refine c7 (λj=>af (λr=>r=g\/r=gs) w j/\∃(e big J K m5:Int)(sv:x4),ag j g cF (ja gs e big J K m5 sv)/\((e≠0/\L=ν)\/(e=0/\∃s,so=σ s/\s.hp=[]/\N=v2/\(s.big=v2↔big≠0)))) ?_ ?_
 rotate_left
 .intro ax aR;refine(Dg aH).Y ?_;rintro _ U _ ⟨rfl,au⟩;cases so with
  |none=>
   rw[show(ν:Option aJ).isSome=v6 from rfl,a6];obtain⟨e,big,J,K,m5,sv,y,aS⟩:=aH.W au;refine aR _ ⟨au.V _,e,big,J,K,m5,sv,y,.inl ⟨aS,?_⟩⟩;cases C:L with
   |none=>rfl
   |some f=>obtain⟨s,h,_⟩:=P.bad (by rw[C];simp);cases h
  |some s=>
   rw[show(σ s:Option aJ).isSome=v2 from rfl,bQ];have cz:=aH.W au;obtain⟨az,cA,cB,big,J,K,m5,sv,y,aS,cD⟩:=id cz;rw[aK cF.p 0 y rfl];refine(ru cA).Y ?_;rintro v aa _ ⟨Y,Z⟩;have cE:(s.hp≠[]\/N=v6)->L=ν:=λq=>by
    cases C:L with
    |none=>rfl
    |some f=>
     obtain⟨s',h,av,be,_⟩:=P.bad (by rw[C];simp);cases h;rcases q with q|q
     .exact ro av q
     .rw[q]at be;cases be
   have aA:∀E,af (λr=>r=g) aa E->fd E g gs A B->(s.hp≠[]\/N=v6)->ax E:=λE aw aA q=>by
    obtain⟨_,e,big,J,K,m5,sv,l,cG,cH,_⟩:=aA;exact aR _ ⟨((au.V _).F (Y.Y λr _ h=>.inr h)).F (aw.Y λr _ h=>.inl h),e,big,J,K,m5,sv,cG,.inl ⟨cH.1,cE q⟩⟩
   have aT:=y.V Y az.1;have bf:=an.V cD Y λr _ h av=>by
    have av:r=gs:=av;subst av;rcases h with h|h
    .exact az.2.2.1 h
    .exact h.1 (.inr (.inl rfl))
   have bg:s.m6.length<=100000:=by have:=cB.2.2;omega
   cases ad:s.hp with
   |cons t l=>
    rw[ad]at Z;obtain⟨c6,n,rfl⟩:=Z;rw[fN,fO,fP,bm,am];refine⟨λ_=>?_,λh=>ro rfl h⟩;refine(tN (az.V Y) aT bf Ω bg).Y ?_;rintro _ E _ ⟨aw,aV⟩;exact aA E aw aV (.inl (by rw[ad];simp))
   |nil=>
    rw[ad]at Z;obtain⟨n,rfl⟩:=Z;rw[fN,fO,fP,bm,am];refine⟨λh=>by cases N<;>simp at h,λ_=>?_⟩;rw[bm,am];cases aB:N with
    |true=>
     subst aB;refine⟨λh=>by simp at h,λ_=>aR _ ⟨(au.V _).F (Y.Y λr _ h=>.inr h),0,big,J,K,m5,sv,aT,.inr ⟨rfl,s,rfl,ad,rfl,aS.1⟩⟩⟩
    |false=>
     subst aB;refine⟨λ_=>?_,λh=>ro rfl h⟩;refine(tN (az.V Y) aT bf Ξ bg).Y ?_;rintro _ E _ ⟨aw,aV⟩;exact aA E aw aV (.inr rfl)
 .rintro U ⟨aC,e,big,J,K,m5,sv,y,cJ⟩;have c8:=aC.size;have aW:=(bs.W λr C h=>Ω).then aC (λr C h=>by rcases h with h|h<;>omega);rw[bY,aU cF.p rfl,aU e9.p rfl,aE Ψ (y.cell rfl),bL,am];rcases cJ with⟨he,aX⟩|⟨rfl,s,rfl,ad,aB,bh⟩
  .refine⟨λ_=>?_,λh=>ro he h⟩;intro aa z _ _;rw[bY,aU cF.p rfl,aU e9.p rfl,aE Ψ ((y.W z).cell rfl),bY,aU cF.p rfl,aU e9.p rfl,aE Ψ ((y.W z).cell rfl)];rw[aX]at ae;exact ae _ _ ⟨aW.F z,J,e,rfl,he⟩
  .refine⟨λh=>ro rfl h,λ_=>?_⟩;rw[bY,aU cF.p rfl,aU e9.p rfl,aE Ψ (y.cell rfl),bL,am];refine⟨λq=>?_,λq=>?_⟩
   .have aX:L=ν:=by
     cases C:L with
     |none=>rfl
     |some f=>
      obtain⟨s',h,_,_,bi⟩:=P.bad (by rw[C];simp);cases h;rw[bh.2 q]at bi;cases bi
    intro aa z _ _;rw[bY,aU cF.p rfl,aU e9.p rfl,aE Ψ ((y.W z).cell rfl),bY,aU cF.p rfl,aU e9.p rfl,aE Ψ ((y.W z).cell rfl)];rw[aX]at ae;exact ae _ _ ⟨aW.F z,K,big,rfl,q⟩
   .have cK:s.big=v6:=by
     cases cL:s.big with
     |false=>rfl
     |true=>exact ro (bh.1 cL) q
    obtain⟨bj,rfl,rfl,cM,cN,cO⟩:=P.qo s rfl ad aB cK;have cP:=i7 bo aC λr C a n c Z P=>by
     have:=bq r ⟨a,n,c,Z,P⟩;exact C.elim this.1 this.2
    refine(um cP cO).Y ?_;rintro aY aa _ ⟨z,gz,da,aZ⟩;have db:=z.size;rw[dm (cs:=#[ca name,Δ k,aY,.slice ν 0 0]) (by obtain⟨_,_,_,rfl⟩:=dj aZ.ls;kernel_rfl)];refine bp λa2 E dc a7 aD=>?_;have aD:ag E a2 cI [ca name,Δ k,aY,.slice ν 0 0]:=by obtain⟨_,_,_,rfl⟩:=dj aZ.ls;exact aD
    have bk:=bu (bu (an.V br aC λr _ h he=>by have:=a8 r h;exact he.elim this.1 this.2.1) z) a7;have cQ:(bj.map iH).length=bj.length:=Ξ
    rw[gR km.u bk,cQ];refine NT aD bk (λr h=>by have:=a8 r h;omega) cM cN λdd cR cS cU cV cW cX=>?_;have de:=aD.lt;have z3:=a7.size;have bl:=a7.then cU (λr C h=>by have h:r=a2:=h;omega);have bn:=(aW.F z).F bl;rw[a1 cT.u (ac.W bn)];exact ae _ _ ⟨bn,a2,_,rfl,aY,cR,gz,cS,cV,aZ.W bl,js cW,cX⟩
theorem DH{α:Type}{f:List α->aJ->Option (α×aJ)}{acc:List α}{s:aJ}:fB f (n+1) acc (σ s)=match f acc s with
  |none=>ν
  |some (a,s')=>fB f n (acc++[a]) (σ s'):=by
 show cW f (n+1) acc s=_;simp only[cW];cases f acc s<;>rfl
theorem NW{g:Nat}{A B:ah}{s:Option aJ}{E:Bool}{most:Int}{P:x4->x5->Prop}(h:dt w g gs A B E s)(az:(N:Int)<=ay)(Q:∀lc I l so gz,af (bJ g gs A) w I->dt I g gs A B E so->aA .i64 av I gz lc l->w.heap.size<=gz->l.length<=100001->(∀q,fB (gG most) N [] s=σ q->so=σ q.2/\l=q.1)->(fB (gG most) N [] s=ν->so=ν)->P lc I):
 ch (.slice ν 0 0) (Δ 0) w λco i G k=>
  cC (α:=x4->x5->Prop) (λ(aB:x4)(R:x5)=>
   Split aB (al v8 oI [Γ g,(Δ 1),Δ most] R λS x=>
  ab v8 (Y8 S 0) x λW=>
  ab v8 (Y8 S 1) x λaC=>
  ab v8 (aO .gtr av v6 v2 W (Δ 32)) x λaD=>
  al v8 q2 [Γ g,aD,aC] x λbo aE=>
  aF v8 (X2 aw 1 #[(0,W)]) aE λaG aH=>
  aF v8 (Z9 #[aw,aw] aw #[co,aG]) aH λaI X=>
  ab v8 (aO .add av v6 v2 i (Δ 1)) X λaK=>
  k aI aK X) (P co R)) λax=>
  ab v8 (aO .lss av v6 v6 i (Δ (N:Int))) G λaL=>
  Split aL (al v8 l6 [Γ g] G λaM aN=>
  ax aM aN)
   (ax (.bool v6) G):=by
 obtain⟨bp,Y,bq,aQ,aR⟩:=h.side;have ae:∀r,bJ g gs A r->r<w.heap.size:=aQ;unfold ay at az;generalize aT:fB (gG most) N [] s=Z at Q;refine⟨λout H U=>∃(i:Nat)(l:Λ)(so:Option aJ)(gz:Nat),H=Δ (i:Int)/\i<=N/\af (bJ g gs A) w U/\aA .i64 av U gz out l/\w.heap.size<=gz/\dt U g gs A B E so/\Z=fB (gG most) (N-i) l so/\l.length<=100001/\∀st,so=σ st->l.length+st.hp.length<=100000,
  λ_ H _=>N-(bX H).toNat,⟨0,[],s,w.heap.size,rfl,W0 _,af.refl _ _,aA.nil _ _ _ _,o4 _,h,aT.symm,Ξ,λst aU=>?_⟩,?_⟩
 .subst aU;have:=h.words;simpa using this
 rintro out _ U ⟨i,l,so,gz,rfl,br,J,ac,aV,ad,y,aW,ag⟩;refine aZ (λv ai=>Ext U ai/\((v= .bool v2/\i<N/\∃st,so=σ st)\/(v= .bool v6/\(so=ν\/i=N)))) ?_ ?_
 rotate_left
 .intro ax K;rw[aS,am];refine⟨λaX=>?_,λbs=>K _ _ ⟨Ext.refl _,.inr ⟨rfl,.inr Ω⟩⟩⟩;refine(qt ad).Y ?_;rintro _ ai _ ⟨rfl,aj⟩;cases so with
  |none=>exact K _ _ ⟨aj,.inr ⟨rfl,.inl rfl⟩⟩
  |some st=>exact K _ _ ⟨aj,.inl ⟨rfl,Ω,st,rfl⟩⟩
 rintro _ aa ⟨p,aY⟩;have ak:=ac.W p;have an:=ad.W p;rcases aY with⟨rfl,aX,st,rfl⟩|⟨rfl,a1⟩
 rotate_left
 .rw[a6];have ao:Z=so.map λst=>(l,st):=by
   rcases a1 with rfl|rfl
   .exact y
   .rw[V2]at y;rw[y];cases so<;>rfl
  refine Q out aa l so gz (J.F (p.V _)) an ak aV aW (λq f=>?_) λap=>?_
  .rw[ao]at f;cases so with
   |none=>cases f
   |some st=>cases f;exact⟨rfl,rfl⟩
  .rw[ao]at ap;cases so with
   |none=>rfl
   |some st=>cases ap
 rw[bQ];have ag:=ag st rfl;refine(nn an).Y ?_;rintro _ bt _ ⟨L,z,at_,rfl,a2,bu⟩;obtain⟨M,a7⟩:=L.of;rw[bx,bz,bU];refine(rK a7).Y ?_;rintro _ bw _ L;obtain⟨O,a8⟩:=L.of;refine eT aw.u av.i rfl λa ga ba bB C bb=>?_;have bC:=J.size;have bD:=p.size;have z3:=M.size;have z4:=O.size;have z5:=C.size;have aq:∀r,lw out r->¬bJ g gs A r:=λr j bc=>by have:=ae r bc;have:=(bZ ac j).1;omega
 have bd:=bA (bA ak M aq) O aq;refine kp aw.u av.i rfl (bd.W C) bb.ls Θ Θ λbE be bg bF bh au=>?_;rw[aP,m1 Ω Ω];have bi:af (bJ g gs A) w ba:=((((J.F (p.V _)).F M).F O).F (C.V _));have bj:af (bJ g gs A) w bg:=iB bi au λr j he=>by have he:r=gz:=he;omega
 have bk:∀r,bJ g gs A r->¬(λr=>r=gz) r:=λr j he=>by have:=ae r j;have he:r=gz:=he;omega
 have bm:∀r,cU g gs A B r->¬(λr=>r=gz) r:=λr j he=>by have:=aR r j.2;have he:r=gz:=he;omega
 refine⟨⟨i+1,l++[z],_,be,rfl,Ω,bj,bh,Ω,(a8.W C).V au bk bm,?_,Θ,λbG bn=>?_⟩,by simp only[bX];omega⟩
 .rw[y,show N-i=(N-(i+1))+1 by omega,DH];unfold gG;cases f:bl 1 most st with
  |none=>have e:bf 1 most (σ st)=ν:=f;rw[e];rfl
  |some q=>
   have e:bf 1 most (σ st)=σ q:=f;have:=a2 q e;subst this;rw[e];rfl
 .obtain⟨bH,Y,rfl⟩:=Y9.1 bn;obtain⟨q,f,rfl⟩:=Y9.1 Y;have h1:=(dG f).1;simp only[o9,T5];show l.length+1+q.2.hp.length<=100000;omega
theorem NX{acc:List (Λ×Int)}{s s':aJ}{a:Λ×Int}(h:eN co acc s=σ (a,s')):s'.m5=s.m5/\s'.big=s.big:=by
 obtain⟨_,_,_,e⟩:=qj h;exact⟨e.eqs.1,e.eqs.2.1⟩
theorem NY{s s':aJ}{l:List (Λ×Int)}(hi:dX s)(h:dW co s=σ (l,s')):dX s'/\(s.big=v2->s'.big=v2):=by
 have e:=Dd co (σ s);rw[show j2 co (σ s)=dW co s from rfl,h]at e;cases p:bf (-ay) ay (σ s)with
 |none=>rw[p]at e;cases e
 |some q=>
  obtain⟨n,s1⟩:=q;rw[p]at e;simp only at e;have h1:=(dG p).eqs;have w:dX s1:=λf=>by rw[h1.1];rw[h1.2.1]at f;exact hi f
  split at e
  .cases J:s1.m6[(-n-1).toNat]? with
   |none=>rw[J]at e;cases e
   |some q=>
    obtain⟨z,l'⟩:=q;rw[J]at e;simp only at e;split at e
    .cases e;exact⟨w,λf=>by rw[h1.2.1];exact f⟩
    .cases e
  .have:=lG (λacc t=>t.m5=(k2 n s1).m5/\t.big=(k2 n s1).big) (λacc t a bs ⟨r,j⟩ g=>by
    have:=NX g;exact⟨by rw[this.1,r],by rw[this.2,j]⟩) n.toNat [] _ l s' ⟨rfl,rfl⟩ e.symm
   obtain⟨⟨r,j⟩,_⟩:=this;refine⟨λf=>by rw[r];rw[j]at f;exact Ni n s1 f,λf=>?_⟩;rw[j];show(s1.big||_)=v2;rw[h1.2.1,f];rfl
theorem NZ{all:Λ}{s s':aJ}{x:cE}(hi:dX s)(h:dp all s=σ (x,s')):dX s'/\s'.hp.length<s.hp.length:=by
 unfold dp at h;cases p:bl (-ay) ay s with
 |none=>rw[p]at h;cases h
 |some q=>
 obtain⟨a,s1⟩:=q;rw[p]at h;simp only at h;have t0:=dG p;cases h1:fc all.length a.natAbs s1 with
 |none=>rw[h1]at h;cases h
 |some q=>
 obtain⟨sc,f⟩:=q;rw[h1]at h;simp only at h;obtain⟨r,_⟩:=w4 h1;generalize sc.map (λv=>all.getD v.toNat 0)=co at h;cases w:bl 0 ay (bi (decide (6<a.natAbs)||dy co) f)with
 |none=>rw[w]at h;cases h
 |some q=>
 obtain⟨other,y⟩:=q;rw[w]at h;simp only at h;have z:=dG w;have E:dX y:=λe=>by
  rw[z.eqs.1];rw[z.eqs.2.1]at e;have e:(f.big||_)=v6:=e;have B:=(U1.1 e).1;show f.m5<=16384;rw[r.eqs.1,t0.eqs.1];rw[r.eqs.2.1,t0.eqs.2.1]at B;exact hi B
 cases j:dW co y with
 |none=>rw[j]at h;cases h
 |some q=>
 obtain⟨lines,A⟩:=q;rw[j]at h;simp only[X7,S8]at h;obtain⟨_,rfl⟩:=h;have F:=NY E j;have I:=Dk j;have J:=t0.1;have K:=r.1;have L:f.hp.length=y.hp.length+1:=z.1;have C:∀t:aJ,t.m5=A.m5/\t.big=A.big/\t.hp=A.hp->dX t/\t.hp.length<s.hp.length:=λt ⟨G,H,a3⟩=>⟨λe=>by rw[G];rw[H]at e;exact F.1 e,by rw[a3];omega⟩;split
 .exact C _ ⟨rfl,rfl,rfl⟩
 .exact C _ ⟨rfl,rfl,rfl⟩
theorem N0{S R:ah}{x:jD}(h:an.rep v6 S R w cs x):an.rep (α:=jD) v2 bO R w cs x/\(x4.agg cs.toArray).cells=cs.toArray:=by
 obtain⟨j,d1,r,s,rfl,_,_,_,h1,p,d2,z,A,rfl,_,_,_,a,q,d3,B,C,rfl,_,_,_,f,e⟩:=h;have h1:=h1;have a:=a;have f:=f;have e:=e;refine⟨⟨j,_,bO,bO,rfl,λ_ h=>h,λ_ h=>h,λ_ _ h _=>h,h1,p,_,bO,bO,rfl,λ_ h=>h,λ_ h=>h,λ_ _ h _=>h,a,q,d3,bO,bO,rfl,λ_ h=>h,λ_ h=>h,λ_ _ h _=>h,f,e⟩,?_⟩;obtain⟨u,rfl⟩:=V4.1 (show j.length=1 from an.len h1);obtain⟨v,rfl⟩:=V4.1 (show p.length=1 from an.len a);obtain⟨y,rfl⟩:=V4.1 (show d3.length=1 from an.len e);obtain⟨_,_,_,rfl⟩:=np h1;obtain⟨_,_,_,rfl⟩:=np a;obtain⟨_,_,_,rfl⟩:=np e;subst f;rfl
theorem N1{g c:Nat}{A B:ah}{o:Option aJ}{Q:Bool}{P:x4}{all:Λ}{aD:x4->x5->Prop}(aE:iG w g gs A B Q o)(hi:∀s,o=σ s->dX s)(bs:(c:Int)<=ay)(bt:aN .i64 w P all)(aG:∀r,lw P r->r≠g/\r≠gs/\r<w.heap.size/\(o≠ν->¬A r))(bw:o≠ν->∀z∈all,1<=z/\z<=ay)(bx:all.length<=100001)(bz:fo w)(h1:1<w0.heap.size/\(o≠ν->cU g gs A B 1))(aH:af (λr=>w0.heap.size<=r) w0 w)(bA:w0.heap.size<=g)(bB:w0.heap.size<=gs)(cj:g<w.heap.size/\gs<w.heap.size)(bC:o≠ν->∀r,A r->w0.heap.size<=r)(aI:∀L I acc so aM y aK aL,af (λr=>w0.heap.size<=r) w0 I->w.heap.size<=I.heap.size->iG I g gs aM y Q so->an.rep (α:=List jD) v2 aK aL I [L] acc->(∀r,aK r\/aL r->r≠g/\r≠gs/\r<I.heap.size)->aN .i64 I P all->
   (∀q,fB (λ_ s=>dp all s) c [] o=σ q->so=σ q.2/\acc=q.1.map iH)->(fB (λ_ s=>dp all s) c [] o=ν->so=ν)->aD L I):
 ch (.slice ν 0 0) (Δ 0) w λd9 aQ ai bD=>
  cC (α:=x4->x5->Prop) (λ(bE:x4)(aR:x5)=>
   Split bE (al v8 Ay [Γ g,P] aR λbF bG=>
  aF v8 (X2 km 1 #[(0,bF)]) bG λbH bI=>
  aF v8 (Z9 #[km,km] km #[d9,bH]) bI λbK aT=>
  ab v8 (aO .add av v6 v2 aQ (Δ 1)) aT λbL=>
  bD bK bL aT) (aD d9 aR)) λaU=>
  ab v8 (aO .lss av v6 v6 aQ (Δ (c:Int))) ai λbM=>
  Split bM (al v8 l6 [Γ g] ai λbN bP=>
  aU bN bP)
   (aU (.bool v6) ai):=by
 unfold ay at bs;generalize f:fB (λ_ s=>dp all s) c [] o=aV at aI;have aX:∀s,o=σ s->o≠ν:=λs h=>by rw[h];simp
 refine⟨λL aj U=>∃(i:Nat)(acc:List jD)(C:List cE)(so:Option aJ)(p K E M:ah),aj=Δ (i:Int)/\i<=c/\af (λr=>w0.heap.size<=r) w0 U/\w.heap.size<=U.heap.size/\iG U g gs p K Q so/\an.rep v2 E M U [L] acc/\
   aN .i64 U P all/\fo U/\aV=fB (λ_ s=>dp all s) (c-i) C so/\(∀r,E r->w.heap.size<=r/\r<U.heap.size)/\(∀r,M r->r≠g/\r≠gs/\¬E r)/\
   ∀s,so=σ s->acc=C.map iH/\dX s/\C.length+s.hp.length<=100000/\o≠ν/\(∀r,p r->A r\/w.heap.size<=r)/\(∀r,p r->w0.heap.size<=r)/\(∀r,B r->K r)/\(∀r,E r->¬K r/\¬p r)/\(∀r,M r->cU g gs p K r),
  λ_ aj _=>c-(bX aj).toNat,⟨0,[],[],o,A,B,bO,bO,rfl,W0 _,aH,o4 _,aE,gh,bt,bz,f.symm,λ_ h=>h.elim,λ_ h=>h.elim,λs J=>⟨rfl,hi s J,?_,aX s J,λr e=>.inl e,bC (aX s J),λr e=>e,λ_ h=>h.elim,λ_ h=>h.elim⟩⟩,?_⟩
 .subst J;have ak:eo w g gs A B s Q:=aE;have:=ak.2.1.words.1;simpa using this
 rintro L _ U ⟨i,acc,C,so,p,K,E,M,rfl,ck,bR,cl,aY,bS,ao,a1,Z,x,bT,a2⟩;refine aZ (λv a7=>Ext U a7/\((v= .bool v2/\i<c/\∃st,so=σ st)\/(v= .bool v6/\(so=ν\/i=c)))) ?_ ?_
 rotate_left
 .intro ax ap;rw[aS,am];refine⟨λa8=>?_,λcn=>ap _ _ ⟨Ext.refl _,.inr ⟨rfl,.inr Ω⟩⟩⟩;refine(Dg aY).Y ?_;rintro _ a7 _ ⟨rfl,ba⟩;cases so with
  |none=>exact ap _ _ ⟨ba,.inr ⟨rfl,.inl rfl⟩⟩
  |some st=>exact ap _ _ ⟨ba,.inl ⟨rfl,Ω,st,rfl⟩⟩
 rintro _ aa ⟨H,bU⟩;have cp:=H.size;have S:=aY.W H;have bb:=bu bS H;have bc:af (λr=>w0.heap.size<=r) w0 aa:=bR.F (H.V _);rcases bU with⟨rfl,a8,st,rfl⟩|⟨rfl,bV⟩
 rotate_left
 .rw[a6];have bd:aV=so.map λst=>(C,st):=by
   rcases bV with rfl|rfl
   .exact Z
   .rw[V2]at Z;rw[Z];cases so<;>rfl
  refine aI L aa acc so p K E (λr=>M r/\r<aa.heap.size) bc Ω S (an.Y bb (λ_ _ h=>h) λr e h=>⟨h,e⟩) (λr e=>?_) (ao.W H) (λq G=>?_) λbe=>?_
  .rcases e with e|e
   .have:=x r e;exact⟨Ω,Ω,Ω⟩
   .have:=bT r e.1;exact⟨this.1,this.2.1,e.2⟩
  .rw[bd]at G;cases so with
   |none=>cases G
   |some st=>cases G;exact⟨rfl,(a2 _ rfl).1⟩
  .rw[bd]at be;cases so with
   |none=>rfl
   |some st=>cases be
 rw[bQ];obtain⟨rfl,bf,cq,ac,bg,aq,bh,ad,bi⟩:=a2 st rfl;have S:=S;obtain⟨cr,ct,cu,cw,cz⟩:=S.1;have bW:=h1.2 ac;have bj:cU g gs p K 1:=⟨λf=>by
  rcases f with f|f|f
  .omega
  .omega
  .have:=aq 1 f;omega,bh 1 bW.2⟩
 have bk:∀r,lw P r->¬bJ g gs p r/\r<aa.heap.size:=λr e=>by
  obtain⟨bY,bZ,b0,b1⟩:=aG r e;refine⟨λf=>?_,Ω⟩;rcases f with f|f|f
  .exact bY f
  .exact bZ f
  .rcases bg r f with h|h
   .exact b1 ac h
   .omega
 refine(Nu S bf (ao.W H) bk (bw ac) bx (a1.W H) bj).Y ?_;rintro _ cA _ ⟨aM,y,cs,b2,rfl,cB,W,X,au,bl,bm,b3,b4⟩;have z3:=W.size;obtain⟨bn,b5⟩:=N0 b3;refine ju (α:=jD) (R:=cU g gs aM y) km.u cm.i Φ b5 bn λu aw N _ hu=>?_;have z4:=N.size;have b6:∀r,r<aa.heap.size->E r\/M r->¬bJ g gs p r:=λr e h f=>by
  rcases h with h|h
  .have j:=x r h;rcases f with f|f|f
   .omega
   .omega
   .exact (ad r h).2 f
  .exact (bi r h).1 f
 have b7:∀r,r<aa.heap.size->cU g gs p K r->cU g gs aM y r:=λr e h=>⟨λf=>h.1 (f.imp id (Or.imp id λf=>(X r f).elim id λaW=>Ω)),bl r h.2⟩;have b8:bq E (cU g gs aM y) aw [L] (C.map iH):=bu (an.V (an.Y (R':=λr=>cU g gs aM y r/\M r) bb (λ_ _ h=>h) λr e h=>⟨b7 r e (bi r h),h⟩) W λr e h=>b6 r e (h.imp id λh=>h.2) |> λh=>h) N |> λh=>an.Y h (λ_ _ h=>h) λ_ _ h=>h.1;have ae:∀r,E r->¬y r:=λr h ag=>by
  have j:=x r h;rcases(au r ag).1 with O|O
  .exact (ad r h).1 O
  .have az:=(x r h).2;omega
 have cD:(C.map iH).length=C.length:=Ξ
 refine nQ km.u cm.i rfl b8 hu (bu bn N) (λr _ b9 h=>?_) Ω Ω λcF aA ca Y=>?_
 .rcases h with h|h
  .exact h
  .exact ae r b9 h.2
 have z5:=Y.size;rw[aP,m1 Ω Ω];have cb:af (λr=>w0.heap.size<=r) w0 aw:=(bc.F (W.Y λr _ f=>by
  rcases f with rfl|rfl|f
  .exact bA
  .exact bB
  .exact aq r f)).F (N.V _)
 have z0:=aH.size;have cc:af (λr=>w0.heap.size<=r) w0 aA:=cb.F (Y.Y λr _ h=>by have:=(x r h).1;omega);have cd:=(i7 (ao.W H) W λr e a n c aB aC=>(bk r ⟨a,n,c,aB,aC⟩).1 e).W N;have ce:=i7 cd Y λr e a n c aB aC=>by
  have b0:=(aG r ⟨a,n,c,aB,aC⟩).2.2.1;have:=(x r e).1;omega
 have cf:=(((a1.W H).V W bj.1).W N).V Y λh=>by have:=(x 1 h).1;omega
 have bo:iG aA g gs aM y Q ((dp all st).map (·.2)):=by
  refine iG.V (bm.W N) Y (λh=>by have:=x _ h;omega) (λr e cG h=>?_) (λr e h=>ae r h e.2);have j:=x r h;rcases e with rfl|rfl|e
  .omega
  .omega
  .rcases X r e with O|O
   .exact (ad r h).2 O
   .omega
 have cg:=ng ca;refine⟨⟨i+1,(C.map iH)++[b2],C++((dp all st).map (·.1)).toList,(dp all st).map (·.2),aM,y,λr=>(E r\/bO r\/aw.heap.size<=r)/\r<aA.heap.size,cU g gs aM y,rfl,Ω,cc,Ω,bo,cg,ce,cf,?_,λr e=>⟨?_,e.2⟩,λr e=>⟨λh=>e.1 (.inl h),λh=>e.1 (.inr (.inl h)),λh=>?_⟩,λs' ci=>?_⟩,by simp only[bX];omega⟩
 .rw[Z,show c-i=(c-(i+1))+1 by omega,DH];cases G:dp all st with
  |none=>rfl
  |some q=>rfl
 .rcases e.1 with h|h|h
  .exact (x r h).1
  .exact h.elim
  .omega
 .rcases h.1 with j|j|j
  .exact ae r j e.2
  .exact j
  .have:=(au r e.2).2;omega
 .obtain⟨q,G,rfl⟩:=Y9.1 ci;have j:=NZ bf G;have O:=b4 q G;refine⟨?_,j.1,?_,ac,λr e=>?_,λr e=>?_,λr e=>bl r (bh r e),λr e=>⟨λag=>?_,λbp=>?_⟩,λr e=>e⟩
  .rw[G,O];simp
  .rw[G];simp only[Y3,j6,o9,T5];omega
  .rcases X r e with h|h
   .exact bg r h
   .exact .inr Ω
  .rcases X r e with h|h
   .exact aq r h
   .omega
  .rcases e.1 with j|j|j
   .exact ae r j ag
   .exact j
   .have:=(au r ag).2;omega
  .have cH:=bo;have br:=bm;rw[G]at br;have ak:=br;have a8:=ak.1.2.2.2.1 r (.inr (.inr bp));rcases e.1 with j|j|j
   .rcases X r bp with az|az
    .exact (ad r j).2 az
    .have:=(x r j).2;omega
   .exact j
   .omega
theorem dX.num{lo hi n:Int}{s s':aJ}(e:dX s)(h:bl lo hi s=σ (n,s')):dX s':=λa=>by
 have h1:=(dG h).eqs;rw[h1.1];rw[h1.2.1]at a;exact e a
theorem dX.big{b:Bool}{s:aJ}(h:dX s):dX (bi b s):=λa=>by
 have a:(s.big||b)=v6:=a;exact h (U1.1 a).1
theorem dX.word{w:Λ}{s s':aJ}(h:dX s)(hw:dV s=σ (w,s')):dX s':=λa=>by
 have h1:=(tK hw).2;rw[h1]at a ⊢;exact h a
theorem N2{most:Int}{s s':aJ}(hi:dX s)(hm:most<=ay)(h:cW (gG most) N [] s=σ (l,s')):dX s'/\(∀z∈l,1<=z/\z<=ay)/\l.length+s'.hp.length<=s.hp.length:=by
 have:=lG (λacc t=>dX t/\(∀z∈acc,1<=z/\z<=ay)/\acc.length+t.hp.length<=s.hp.length) (λacc t a bs ⟨h1,j,w⟩ g=>by
  unfold gG at g;cases e:bl 1 most t with
  |none=>rw[e]at g;cases g
  |some q=>
   obtain⟨z,p⟩:=q;rw[e]at g;simp only[X7,S8]at g;obtain⟨rfl,rfl⟩:=g;have y:=(i9 e).1;have A:=(dG e).1;refine⟨(h1.num e).big,λx f=>?_,?_⟩
   .rcases j9.1 f with f|f
    .exact j x f
    .rw[b9.1 f];omega
   .simp only[o9,T5];show acc.length+1+p.hp.length<=_;omega) N [] s l s' ⟨hi,λz r=>(by cases r),Ξ⟩ h
 exact this.1
theorem N3{s0:aJ}{name:Λ}{n most cnt:Int}{so6:Option aJ}(h1:∀q,dV s0=σ q->name=q.1)(p:∀q,bf 1 ay (((dV s0).map (·.2)).map (bi (decide (64<(name.length:Int)))))=σ q->n=q.1)(j:∀q,bf 1 ay (((bf 1 ay (((dV s0).map (·.2)).map (bi (decide (64<(name.length:Int)))))).map (·.2)).map (bi (decide (64<n))))=σ q->most=q.1)(h:∀q,bf 0 ay ((bf 1 ay (((bf 1 ay (((dV s0).map (·.2)).map (bi (decide (64<(name.length:Int)))))).map (·.2)).map (bi (decide (64<n))))).map (·.2))=σ q->cnt=q.1)(f:∀q,bf 1 ay (((bf 0 ay ((bf 1 ay (((bf 1 ay (((dV s0).map (·.2)).map (bi (decide (64<(name.length:Int)))))).map (·.2)).map (bi (decide (64<n))))).map (·.2))).map (·.2)).map (bi (decide (256<cnt))))=σ q->k=q.1)(e:∀q,fB (gG most) n.toNat [] (((bf 1 ay (((bf 0 ay ((bf 1 ay (((bf 1 ay (((dV s0).map (·.2)).map (bi (decide (64<(name.length:Int)))))).map (·.2)).map (bi (decide (64<n))))).map (·.2))).map (·.2)).map (bi (decide (256<cnt))))).map (·.2)).map (bi (decide (2147483648<k))))=σ q->so6=σ q.2/\co=q.1)(a:fB (gG most) n.toNat [] (((bf 1 ay (((bf 0 ay ((bf 1 ay (((bf 1 ay (((dV s0).map (·.2)).map (bi (decide (64<(name.length:Int)))))).map (·.2)).map (bi (decide (64<n))))).map (·.2))).map (·.2)).map (bi (decide (256<cnt))))).map (·.2)).map (bi (decide (2147483648<k))))=ν->so6=ν):
  jw s0=(fB (λ_ s=>dp co s) cnt.toNat [] so6).map λq=>((⟨name,k,co,q.1⟩:b7),q.2):=by
 unfold jw;cases z:dV s0 with
 |none=>
  rw[z]at a;rw[a rfl];rfl
 |some L=>
 obtain⟨Y,s1⟩:=L;rw[z]at h1 p j h f e a;have:=h1 _ rfl;subst this;have M:decide (64<(name.length:Int))=decide (64<name.length):=by rw[U8,sp,sp];omega
 rw[M]at p j h f e a;simp only[Y3]at p j h f e a ⊢;generalize bi (decide (64<name.length)) s1=w at*;cases A:bl 1 ay w with
 |none=>
  rw[show bf 1 ay (σ w)=ν from A]at a;rw[a rfl];rfl
 |some N=>
 obtain⟨O,B⟩:=N;rw[show bf 1 ay (σ w)=σ (O,B)from A]at p j h f e a;have:=p _ rfl;subst this;simp only[Y3]at j h f e a ⊢;generalize bi (decide (64<n)) B=x at*;cases C:bl 1 ay x with
 |none=>
  rw[show bf 1 ay (σ x)=ν from C]at a;rw[a rfl];rfl
 |some P=>
 obtain⟨Q,r⟩:=P;rw[show bf 1 ay (σ x)=σ (Q,r)from C]at j h f e a;have:=j _ rfl;subst this;simp only[Y3]at h f e a ⊢;cases E:bl 0 ay r with
 |none=>
  rw[show bf 0 ay (σ r)=ν from E]at a;rw[a rfl];rfl
 |some R=>
 obtain⟨S,F⟩:=R;rw[show bf 0 ay (σ r)=σ (S,F)from E]at h f e a;have:=h _ rfl;subst this;simp only[Y3]at f e a ⊢;generalize bi (decide (256<cnt)) F=y at*;cases G:bl 1 ay y with
 |none=>
  rw[show bf 1 ay (σ y)=ν from G]at a;rw[a rfl];rfl
 |some T=>
 obtain⟨U,H⟩:=T;rw[show bf 1 ay (σ y)=σ (U,H)from G]at f e a;have:=f _ rfl;subst this;simp only[Y3]at e a ⊢;generalize bi (decide (2147483648<k)) H=V at*;cases I:cW (gG most) n.toNat [] V with
 |none=>
  rw[a I];rfl
 |some W=>
 obtain⟨Z,K⟩:=W;obtain⟨J,X⟩:=e _ I;subst X;rw[J];simp only;show _=U7 _ (cW (λ_ s=>dp co s) cnt.toNat [] K);cases cW (λ_ s=>dp co s) cnt.toNat [] K<;>rfl
theorem N4{f:b7}(a:fl N f)(q:N<=60000):∀x∈f.d9,uo f.k x:=λx h=>by
 obtain⟨h1,j,r⟩:=a.d9 x h;refine⟨a.k,⟨?_,λz e=>?_⟩,h1.other,h1.lines,by have:=h1.len;omega,Ω⟩
 .rw[h1.co,r8];exact j
 .rw[h1.co]at e;obtain⟨v,p,rfl⟩:=j5.1 e;have:=h1.scope.2 v p;refine a.co.2.2 _ ?_;rw[u5,x8 Ω];exact Q9 _
theorem N5{p:x4}{pl:Λ}(ac:aN .u8 w p pl)(aK:Bytes pl)(bL:pl.length<=60000)(ae:fo w):al v8 H6 [p] w (DG w (gS pl)):=by
 have aL:1<w.heap.size:=by
  have:=ae 0 (.int .u64 1) rfl;obtain⟨c,e,f,aO,_⟩:=wA this;exact(b8.1 aO).1
 have bM:ay=4611686018427387904:=rfl;refine aB func59 ?_;rw[a1 cT.u ac,bU,am];refine⟨λh=>Ω,λ_=>?_⟩;refine(BP ac aK Ω).Y ?_;rintro _ U _ ⟨ag,gs,rfl,bN,aP,Q⟩;rw[dm (cs:=#[Γ gs,Δ 0,Δ 0,Δ 0,Δ 0,Δ 0,.slice ν 0 0]) Ψ];refine bp λg aa bP R ai=>?_;have bQ:=ag.size;have bR:=R.size;have aQ:=ai.lt;have bS:gs<U.heap.size:=Q.2.2.2.1.lt;have bT:=rg _ pl (o4 _);let s0:aJ:=⟨(lex pl).1,0,v6,[]⟩;let B0:ah:=λr=>r<U.heap.size;have aR:eo aa g gs bO B0 s0 (lex pl).2:=by
  refine⟨⟨Ω,λh=>h,λh=>h,λr j=>?_,λr j=>by have j:r<U.heap.size:=j;omega⟩,⟨aP,pl,0,Q.W R,λr j=>?_,by rw[List.drop_zero]⟩,⟨by show(0:Int)<=0;omega,by show(0:Int)<=ay;omega,by show(([]:List (Λ×List (Λ×Int))).length+(lex pl).1.length<=100000);simp;omega⟩,0,0,0,0,.slice ν 0 0,ai,⟨by simp[s0],λ_=>rfl⟩,gh (α:=lH)⟩
  .rcases j with rfl|rfl|j
   .exact aQ
   .omega
   .exact j.elim
  .obtain⟨_,_,_,L,a8,hm⟩:=Q;have G:=bZ hm j;have H:=ce hm L Φ j;exact⟨λB=>by
    rcases B with B|B|B
    .omega
    .exact H B
    .exact B,by show r<U.heap.size;omega⟩
 have S:∀r,bJ g gs bO r->w.heap.size<=r:=λr j=>by
  rcases j with rfl|rfl|j
  .omega
  .omega
  .exact j.elim
 refine(Cv aR).Y ?_;rintro _ bV _ ⟨A,name,bW,rfl,bX,bY,aS⟩;obtain⟨aT,aU⟩:=gj.of A;rw[bx,bz,o3 da.u,bU];refine(rK aU).Y ?_;rintro _ b0 _ A;obtain⟨aV,aW⟩:=A.of;refine(nn (lo:=1) (hi:=ay) aW).Y ?_;rintro _ b1 _ ⟨A,n,b2,rfl,aj,aX⟩;obtain⟨aY,aZ⟩:=A.of;rw[bx,bz,bU];refine(rK aZ).Y ?_;rintro _ b3 _ A;obtain⟨a2,a6⟩:=A.of;refine(nn (lo:=1) (hi:=ay) a6).Y ?_;rintro _ b4 _ ⟨A,most,b5,rfl,ak,a7⟩;obtain⟨ba,bb⟩:=A.of;rw[bx,bz];refine(nn (lo:=0) (hi:=ay) bb).Y ?_;rintro _ b6 _ ⟨A,cnt,b9,rfl,an,bc⟩;obtain⟨bd,be⟩:=A.of;rw[bx,bz,bU];refine(rK be).Y ?_;rintro _ ca _ A;obtain⟨bg,bh⟩:=A.of;refine(nn (lo:=1) (hi:=ay) bh).Y ?_;rintro _ cb _ ⟨A,k,cc,rfl,hk,cd⟩;obtain⟨bj,bk⟩:=A.of;rw[bx,bz,bU];refine(rK bk).Y ?_;rintro _ ao _ A;obtain⟨bl,W⟩:=A.of;have ap:af (bJ g gs bO) aa ao:=(((((((aT.F aV).F aY).F a2).F ba).F bd).F bg).F bj).F bl;have X:∀{lo:Int}{o:Option aJ}{x:Int},0<=lo->lo<=1->(∀q,bf lo ay o=σ q->x=q.1)->(bf lo ay o=ν->x=0)->0<=x/\x<=ay:=λ{lo o x}cf h1 J bm=>by
  cases a:bf lo ay o with
  |none=>rw[bm a];omega
  |some q=>
   have G:=n3 (n:=q.1) (s':=q.2) a;rw[J q a];omega
 have cg:=X Ω Ω aj aX;have ch:=X Ω Ω an bc;have ci:=X Ω Ω ak a7;obtain⟨N,bn⟩:∃N:Nat,n=(N:Int):=⟨n.toNat,Ω⟩;obtain⟨C,bo⟩:∃C:Nat,cnt=(C:Int):=⟨cnt.toNat,Ω⟩;have bq:n.toNat=N:=Ω
 have br:cnt.toNat=C:=Ω
 have bs:dX s0:=λ_=>by show(0:Int)<=16384;omega
 have M:∀{o:Option aJ}{b:Bool},(∀s,o=σ s->dX s)->∀s,o.map (bi b)=σ s->dX s:=λh s J=>by
  obtain⟨t,Y,rfl⟩:=Y9.1 J;exact(h t Y).big
 have O:∀{o:Option aJ}{lo hi:Int},(∀s,o=σ s->dX s)->∀s,(bf lo hi o).map (·.2)=σ s->dX s:=λ{o lo hi}h s J=>by
  obtain⟨q,a,rfl⟩:=Y9.1 J;cases o with
  |none=>cases a
  |some t=>exact(h t rfl).num (n:=q.1) (s':=q.2) a
 have bt:∀s,(dV s0).map (·.2)=σ s->dX s:=λs J=>by
  obtain⟨q,a,rfl⟩:=Y9.1 J;exact bs.word (w:=q.1) (s':=q.2) a
 have aq:=M (b:=decide (2147483648<k)) (O (lo:=1) (hi:=ay) (M (b:=decide (256<cnt)) (O (lo:=0) (hi:=ay) (O (lo:=1) (hi:=ay) (M (b:=decide (64<n)) (O (lo:=1) (hi:=ay) (M (b:=decide (64<(name.length:Int))) bt)))))));have y:=λ(co:Λ)(so6:Option aJ)=>N3 (s0:=s0) (name:=name) (co:=co) (n:=n) (most:=most) (cnt:=cnt) (k:=k) (so6:=so6) aS aj ak an hk;rw[bq]at y;generalize cj:U7 (bi (decide (2147483648<k))) (U7 (λx=>x.2) (bf 1 ay (U7 (bi (decide (256<cnt))) (U7 (λx=>x.2) (bf 0 ay (U7 (λx=>x.2) (bf 1 ay (U7 (bi (decide (64<n))) (U7 (λx=>x.2) (bf 1 ay (U7 (bi (decide (64<(name.length:Int)))) (U7 (λx=>x.2) (dV s0)))))))))))))=au at aq W y;rw[bn];refine NW W Ω λlc Z co so6 gz bu av aw ck bw ax az=>?_;have y:=y co so6 ax az;rw[br]at y;have ab:af (bJ g gs bO) aa Z:=ap.F bu;have z12:=ab.size;have aA:=ag.F R;have bA:af (λr=>w.heap.size<=r) w Z:=(aA.V _).F (ab.Y λr _ h=>S r h);have cl:=av.side;have aC:∀K,so6=σ K->dX K/\(∀z∈co,1<=z/\z<=ay)/\co.length<=100000:=λK ad=>by
  cases a:fB (gG most) N [] au with
  |none=>rw[az a]at ad;cases ad
  |some q=>
   obtain⟨G,H⟩:=ax q a;cases ad.symm.F G;subst H;cases au with
   |none=>cases a
   |some bB=>
    obtain⟨bC,bD,cm⟩:=N2 (aq bB rfl) Ω a;exact⟨bC,bD,by have:=W.words;omega⟩
 rw[bo];have aD:∀r,lw lc r->ao.heap.size<=r/\r<Z.heap.size:=λr j=>by have:=bZ aw j;omega
 have cn:=ap.size;refine N1 av.q (λs J=>(aC s J).1) Ω aw.ls (λr j=>?_) (λP=>?_) bw ((ae.W aA).V ab λB=>by have:=S 1 B;omega) ⟨aL,λ_=>⟨λB=>by have:=S 1 B;omega,by show 1<U.heap.size;omega⟩⟩
  bA Ω Ω ⟨Ω,Ω⟩ (λ_ r h=>h.elim) λcp cq acc so aM cr ct cu aE cw bE bF bG bH aF bI=>?_
 .have:=aD r j;exact⟨Ω,Ω,Ω,λ_ h=>h⟩
 .cases aG:so6 with
  |none=>exact ro aG P
  |some K=>exact(aC K aG).2.1
 have cz:=aE.size;have E:gS pl=match jw s0 with
   |none=>ν
   |some (f,s)=>if s.hp=[]/\(lex pl).2=v2/\s.big=v6 then σ f else ν:=by
  unfold gS;rw[rc Ω];have e:jw ⟨(lex pl).1,0,v6,[]⟩=jw s0:=rfl;rw[e];cases jw s0<;>rfl
 refine NV bE ⟨λs J Y bK L=>?_,λP=>?_⟩ bH (λr j=>by have:=aD r j;exact⟨Ω,Ω⟩) bF bG (λ_=>trivial) Ω Ω aE Ω Ω ac λv I h=>h
 .cases a:fB (λ_ s=>dp co s) C [] so6 with
  |none=>rw[bI a]at J;cases J
  |some q=>
   obtain⟨G,H⟩:=aF q a;cases J.symm.F G;rw[a]at y;have y:jw s0=σ ((⟨name,k,co,q.1⟩:b7),q.2):=y;have aH:=(Cs rfl y L).1;rw[y]at E;simp only at E;rw[ms ⟨Y,bK,L⟩]at E;exact⟨q.1,H,E,N4 aH (by show(lex pl).1.length<=60000;omega),aH.mm,Ω⟩
 .cases a:fB (λ_ s=>dp co s) C [] so6 with
  |none=>
   rw[a]at y;have y:=y;rw[y]at E;exact ro E P
  |some q=>
   obtain⟨G,H⟩:=aF q a;rw[a]at y;have y:jw s0=σ ((⟨name,k,co,q.1⟩:b7),q.2):=y;rw[y]at E;simp only at E;by_cases aI:q.2.hp=[]/\(lex pl).2=v2/\q.2.big=v6
   .exact⟨q.2,G,aI⟩
   .rw[rc aI]at E;exact ro E P
theorem xv(s t cs:Λ):∃e,ts s t cs= .tuple #[Δ (br s cs t),Δ e]:=by
 unfold ts br;cases cp s t 0 with
 |none=>exact⟨3,rfl⟩
 |some n=>exact⟨0,rfl⟩
theorem N6:al v8 AQ [sv] w λr I=>Ext w I/\∃g,r= .func (.func p0) #[] #[Γ g]/\w.heap.size<=g/\ag I g aq sv.cells.toList:=by
 refine aB func235 ?_;refine bp λg U f a e=>?_;rw[mb];exact⟨a,g,rfl,Ω,e⟩
theorem N7{f:Q6}{cap:Array x4}{B:Nat->List x4->x5->Prop}{e:x5->Prop}{L:Λ}(P:pT v8 f cap.toList n B e)(C:∀k vs w,B k vs w->∃x,L[k]?=σ x/\vs=[Δ x])(he:∀a b,af (λr=>w.heap.size<=r) a b->e a->e b)(Q:e w)(R:n=L.length)(ao:L.length<=1000000):
  al v8 Iq [.slice ν 0 0,.func (.func f) #[] cap] w λv I=>Ext w I/\∃g,w.heap.size<=g/\aA .i64 ai I g v L:=by
 refine jr func81 ?_;refine bp λgs U ap E p=>?_;have p:=p;have au:=p.lt;have G:∀{a b:x5},Ext a b->e a->e b:=λj=>he _ _ (j.V _);refine lx.old ⟨Nat,v6,f,cap,0,_,_,e,λk I=>af (λr=>w.heap.size<=r) w I/\∃v g,gs<g/\ag I gs aq [v]/\aA .i64 ai I g v (L.take k),λ_ _ _=>False,rfl,P.s,?_,λ_ _ j h=>G j h,
  λ_ _ _ j h=>⟨h.1.F (j.V _),by obtain⟨v,g,h1,S,W⟩:=h.2;exact⟨v,g,h1,S.W j,W.W j⟩⟩,λ_ _ _ _ _ h=>h,G E Q,⟨E.V _,_,gs+1,Ω,p,aA.nil _ _ _ _⟩,?_,?_,λ_ _ h=>h.elim,λ_ _ _ h=>h.elim⟩
 .rintro k vs av I ⟨_,_,h⟩;obtain⟨x,_,rfl⟩:=C k vs I h;rfl
 .rintro a k _ aa hX ⟨hk,rfl,Y⟩ ⟨Z,v,g,ab,H,q⟩;obtain⟨x,j,ac⟩:=C k _ aa Y;cases ac;intro aw y _ _;have J:=H.W y;rw[aE Ψ (J.cell rfl)];refine eT aq.u ai.i rfl λa ga ax ay z ad=>?_;have az:(L.take k).length<=1000000:=Θ
  refine kp aq.u ai.i rfl ((q.W y).W z) ad.ls (by simp only[Y0,List.length_nil];omega) (by simp only[Y0,List.length_nil];omega) λae ah aB aC A K=>?_;have aD:=H.lt;have aF:=y.size;have aG:=z.size;refine bt aq.i A.ls.cells.1 A.ls.cells.2 (((J.W z).V K Ω)) Ξ λaj M aH ak=>?_;have N:af (λr=>w.heap.size<=r) aa aj:=(((y.F z).V _).F (K.Y λr _ h=>by show w.heap.size<=r;omega)).F (M.Y λr _ h=>by show w.heap.size<=r;omega);refine⟨he _ _ N hX,⟨Z.F N,ae,ah,Ω,ak,?_⟩,λh=>by cases h⟩;rw[r9,j];exact A.V M (λ_=>Ω)
 .rintro k aI hk ⟨am,v,g,ab,an,q⟩;have hk:=hk;subst hk;rw[aE Ψ (an.cell rfl)];intro aJ O _;rw[R,j4]at q;exact⟨(am.W λr aK h=>by have:w.heap.size<=r:=h;omega).F O,g,Ω,q.W O⟩
theorem DI{f:Q6}{cap:Array x4}{j:Nat->List x4->x5->Prop}{e:x5->Prop}{L:Λ}(p:pT v8 f cap.toList n j e)(q:∀k vs w,j k vs w->∃x,L[k]?=σ x/\vs=[Δ x])(he:∀a b,af (λr=>w.heap.size<=r) a b->e a->e b)(s:e w)(y:n=L.length)(z:L.length<=1000000):
  al v8 Ao [.func (.func f) #[] cap] w λv I=>Ext w I/\∃g,w.heap.size<=g/\aA .i64 ai I g v L:=by
 refine aB func34 ?_;exact(N7 p q he s y z).Y λ_ _ _ h=>h
theorem N8{x:Int}:al v8 cmp_Less_int [Δ x,Δ y] w λv I=>v= .bool (decide (x<y))/\Ext w I:=by
 refine aB func315 ?_;refine aZ (λv U=>v= .bool (decide (x<y))/\Ext w U) (λ_ _ h=>h) λax a=>?_;have e:∀{z:Int}{w:x5},al v8 cmp_isNaN_int [Δ z] w λv I=>v= .bool v6/\Ext w I:=λ{z w}=>by
  refine aB func247 ?_;simp only[bL];exact⟨Ξ,Ext.refl _⟩
 refine e.Y ?_;rintro _ aa _ ⟨rfl,f⟩;rw[a6];simp only[aS];exact a _ _ ⟨rfl,f⟩
theorem N9{P:V3}{t:o5}{cx cy:Bool}{k:j0}{a b:Int}:b2 P (aO .sub t cx cy (.int k a) (.int k b)) (.int k (k.wrap (a-b))) w:=λI _=>by simp[aO,eqGuard,binOp,Op.intArith]
theorem Oa{g:Nat}(h:aA .i64 ai w g sv l)(an:l.length<=1000000):
  al v8 KE [sv,Δ 0,Δ l.length] w λ_ I=>af (λr=>r=g) w I/\∃m,m.Perm l/\m.Pairwise (·<= ·)/\aA .i64 ai I g sv m:=by
 refine aB func309 ?_;simp only[aP];refine⟨λt U=>∃(i:Nat)(m:Λ),t=Δ i/\1<=i/\(i<=l.length\/i=1)/\m.Perm l/\rt m i/\af (λr=>r=g) w U/\aA .i64 ai U g sv m,λt _=>l.length+1-(bX t).toNat,
  ⟨1,l,by congr 1,Ω,.inr rfl,.refl _,λp q x y h1 S=>Ω,af.refl _ _,h⟩,?_⟩
 rintro _ U ⟨i,m,rfl,ao,ap,z,J,K,hm⟩;have W:=z.length_eq;simp only[aS,am];refine⟨λX=>?_,λau=>?_⟩
 .have X:i<l.length:=Ω
  refine⟨λt aa=>∃(j:Nat)(m:Λ),t=Δ j/\j<=i/\m.Perm l/\qh m i j/\af (λr=>r=g) w aa/\aA .i64 ai aa g sv m,λt _=>(bX t).toNat,⟨i,m,rfl,o4 _,z,LW J,K,hm⟩,?_⟩;rintro _ aa ⟨j,m,rfl,Y,z,E,L,hm⟩;have W:=z.length_eq;refine aZ (λv M=>Ext aa M/\∃c,v= .bool c/\(c=v2->0<j/\∃a b,m[j-1]?=σ a/\m[j]?=σ b/\b<a)/\(c=v6->j=0\/0<j/\∃a b,m[j-1]?=σ a/\m[j]?=σ b/\a<=b)) ?_ ?_
  .rintro _ M ⟨B,c,rfl,Z,ab⟩;rw[b4];refine⟨λh=>?_,λh=>?_⟩
   .obtain⟨A,a,b,f,s,G⟩:=Z h;intro av N _ _;have C:=(hm.W B).W N;have e:W5.wrap ((j:Int)-1)=((j-1:Nat):Int):=by rw[m1 Ω Ω];omega
    simp only[dx,e];rw[bk aq.u ai.i Ψ C.ls f,bk aq.u ai.i Ψ C.ls s,iY rfl aq.u ai.i C Ω];refine iZ ai.i C Ω λac ad aw O=>⟨.inr ⟨by have:=N9 (P:=v8) (w:=ac) (t:=ai) (cx:=v6) (cy:=v2) (k:=.i64) (a:=(j:Int)) (b:=1);rwa [e]at this,trivial⟩,?_⟩;rw[iY rfl aq.u ai.i O Θ];refine iZ ai.i O Θ λay ae az ag=>?_;refine⟨⟨j-1,_,rfl,Ω,(swap_perm Ω f s).F z,LZ E A Y f s G,((L.F ((B.F N).V _)).F ad).F ae,ag⟩,?_⟩;simp only[bX];omega
   .simp only[aP];rw[m1 Ω Ω];refine⟨⟨i+1,m,rfl,Ω,.inl Ω,z,?_,L.F (B.V _),hm.W B⟩,?_⟩
    .rcases ab h with rfl|⟨A,a,b,f,s,G⟩
     .exact LX E
     .exact LY E A f s G
    .simp only[bX];omega
  .intro ax Q aC H _ _;have R:=hm.W H;simp only[bU,am];refine⟨λA=>?_,λA=>Q _ _ ⟨H,v6,rfl,(λh=>by cases h),λ_=>.inl Ω⟩⟩;have e:W5.wrap ((j:Int)-1)=((j-1:Nat):Int):=by rw[m1 Ω Ω];omega
   obtain⟨b,s⟩:=aD (l:=m) (i:=j) Ω;obtain⟨a,f⟩:=aD (l:=m) (i:=j-1) Ω;rw[bk aq.u ai.i Ψ R.ls s];simp only[dx,e];rw[bk aq.u ai.i Ψ R.ls f];refine N8.Y ?_;rintro _ aE _ ⟨rfl,ah⟩;refine Q _ _ ⟨H.F ah,_,rfl,λh=>⟨Ω,a,b,f,s,by simpa using h⟩,λh=>.inr ⟨Ω,a,b,f,s,by simpa using h⟩⟩
 .refine⟨K,m,z,L0 λp q x y h1 S aj ak=>J p q x y h1 Ω aj ak,hm⟩
theorem Ob{P:V3}{t:o5}{k:j0}{s:ByteArray}{i:Nat}{K:x4->Prop}(a:P.underlying t=σ .string)(hi:i<s.size)(e:∀b:Nat,b<256->K (.int .u8 b)):
  ab P (Instr.index t (.string s) (.int k (i:Int))) w K:=by
 have f:s[i]?=σ s[i]:=by simp[hi]
 have:ab P (Instr.index t (.string s) (.int k (i:Int))) w K=K (.int .u8 s[i].toNat):=ab.of λI _=>by
  simp[Instr.index,asIntOf,run_underlying a,hi]
 rw[this];exact e _ (UInt8.toNat_lt _)
theorem Oc(a:n<256):al v8 J9 [.int .u64 (n:Int)] w λv I=>(∃r,v=Δ r)/\Ext w I:=by
 refine aB func246 ?_;refine al.Y (K:=λv I=>(∃r,v=Δ r)/\Ext w I) ?_ (λ_ _ _ h=>h);refine aB func283 ?_;simp only[cC,cP,am];refine⟨λh=>Ω,λ_=>⟨λh=>Ω,λ_=>⟨λh=>Ω,λ_=>?_⟩⟩⟩;rw[fA fK.u cN.u,wrap_u8 Ω Ω];refine Ob da.u (by exact S4 a Φ) λb e=>?_;rw[fA cN.u ai.u];simp only[aP];exact⟨⟨_,rfl⟩,Ext.refl _⟩
theorem Od{g:Nat}(h:aA .i64 ai w g sv l)(f:l.length<=12):
  al v8 Km [sv] w λ_ I=>af (λr=>r=g) w I/\∃m,m.Perm l/\m.Pairwise (·<= ·)/\aA .i64 ai I g sv m:=by
 refine aB func269 ?_;rw[a1 aq.u h.ls,fA ai.u p2.u,m2 Ω Ω];refine(Oc Ω).Y ?_;rintro _ U _ ⟨⟨r,rfl⟩,e⟩;refine al.Y (K:=λ_ I=>af (λr=>r=g) U I/\∃m,m.Perm l/\m.Pairwise (·<= ·)/\aA .i64 ai I g sv m) ?_ (λ_ _ _ h=>⟨(e.V _).F h.1,h.2⟩);refine aB func294 ?_;refine⟨λa b _ _ _ aa=>a=Δ 0/\b=Δ l.length/\U=aa,λ_ _ _ _ _ _=>0,⟨rfl,rfl,rfl⟩,?_⟩;rintro _ _ _ _ _ _ ⟨rfl,rfl,rfl⟩;simp only[dx,lA,am];rw[m1 Ω Ω];refine⟨λ_=>?_,λh=>Ω⟩;refine(Oa (h.W e) Ω).Y ?_;exact λ_ _ _ h=>h
theorem Oe{f:Q6}{cap:Array x4}{j:Nat->List x4->x5->Prop}{e:x5->Prop}{L:Λ}(p:pT v8 f cap.toList n j e)(q:∀k vs w,j k vs w->∃x,L[k]?=σ x/\vs=[Δ x])(he:∀a b,af (λr=>w.heap.size<=r) a b->e a->e b)(s:e w)(y:n=L.length)(z:L.length<=12):
  al v8 AP [.func (.func f) #[] cap] w λv I=>Ext w I/\∃g m,w.heap.size<=g/\m.Perm L/\m.Pairwise (·<= ·)/\aA .i64 ai I g v m:=by
 refine aB func234 ?_;refine(DI p q he s y Ω).Y ?_;rintro v U _ ⟨A,g,B,C⟩;refine(Od C z).Y ?_;rintro _ aa _ ⟨E,m,h1,G,H⟩;exact⟨A.then E (by rintro r J rfl;omega),g,m,B,h1,G,H⟩
theorem DJ{x:Int}(h:aN .i64 w sv l):
  al v8 AR [sv,Δ x] w λv I=>Ext w I/\∃r:Int,v=Δ r/\∀i:Nat,l[i]?=σ x->(r=i↔ ∀j,j<i->l[j]? ≠σ x):=by
 refine aB func236 ?_;rw[a1 aq.u h];refine ch.range l.length (λi _ U=>Ext w U/\∀j,j<i->l[j]? ≠σ x) h.le ⟨Ext.refl _,λj p=>Ω⟩ ?_ ?_
 .rintro i _ U k hi ⟨a,e⟩ hk;simp only[aS,am];refine⟨λ_=>?_,λh=>Ω⟩;obtain⟨y,f⟩:=aD (l:=l) hi;rw[bk aq.u ai.i Ψ (h.W a) f];simp only[bm,am,aP];refine⟨λhe=>⟨a,i,rfl,λq s=>?_⟩,λhe=>hk _ _ ⟨a,λj p=>?_⟩⟩
  .subst he;refine⟨λB=>by
              have:i=q:=Ω
              subst this;exact e,λz=>?_⟩
   rcases Nat.lt_trichotomy i q with h1|h1|h1
   .exact ro f (z i h1)
   .omega
   .exact ro s (e q h1)
  .by_cases A:j=i
   .subst A;rw[f];intro h;exact he (Z4 h).symm
   .exact e j Ω
 .rintro _ U k ⟨a,e⟩;simp only[aS,am];refine⟨λh=>Ω,λ_=>⟨a,-1,rfl,λi hi=>?_⟩⟩;exact ro hi (e i (x6.1 hi).1)
theorem Of{g:Nat}(p:ag w0 g aq [sv])(e:aN .i64 w0 sv l):
  pT v8 p0 [Γ g] l.length (λk vs _=>∃x,l[k]?=σ x/\vs=[Δ x]) (λw=>Ext w0 w):=by
 refine⟨p0.enters,λy ax B w C _ q a r=>?_⟩;refine q8 func270 ?_;rw[aE Ψ ((p.W a).cell rfl),a1 aq.u (e.W a)];refine bW.range l.length (λi aa=>ax i aa/\Ext w0 aa) e.le ⟨r,a⟩ ?_ ?_
 .rintro i aa k hi ⟨f,j⟩ hk;simp only[aS,am];refine⟨λ_=>?_,λh=>Ω⟩;obtain⟨x,a⟩:=aD (l:=l) hi;rw[bk aq.u ai.i Ψ (e.W j) a];refine⟨rfl,(q i _ aa hi j ⟨x,a,rfl⟩ f).Y ?_⟩;rintro _ E (⟨rfl,s,z⟩|⟨rfl,A⟩)
  .simp only[bM,X3,a6,aP];exact hk _ ⟨z.1,s⟩
  .simp only[bM,W6,bQ];exact .inr ⟨i,hi,A⟩
 .rintro aa k ⟨f,_⟩;simp only[aS,am];exact⟨λh=>Ω,λ_=>.inl f⟩
theorem xw(h:aN .i64 w sv l)(j:l.length<=12)(p:∀v I g m,Ext w I->w.heap.size<=g->m.Perm l->m.Pairwise (·<= ·)->aA .i64 ai I g v m->K v I):
  al v8 AQ [sv] w λt U=>al v8 AP [t] U K:=by
 refine N6.Y ?_;rintro _ U _ ⟨f,g,rfl,B,e⟩;have e:ag U g aq [sv]:=by rw[h.cells.1]at e;exact e
 refine(Oe (Of e (h.W f)) (λ_ _ _ h=>h) (λa b q s=>s.then q (λr C h=>Ω)) (Ext.refl _) rfl j).Y ?_;rintro v aa _ ⟨x,y,m,E,h1,z,A⟩;have:=f.size;exact p v aa y m (f.F x) Ω h1 z A
def Og(w:x5)(aj:Λ)(k:Int)(cs a:Λ)(v:x4)(I:x5):Prop:=
 Ext w I/\
  (¬Good a aj.length->v= .tuple #[.pointer ν,Δ 1])/\
  (Good a aj.length->∃e f h,v= .tuple #[Γ e,Δ 0]/\dh I e f h (e2 aj a) k (pe aj cs a))
theorem Oh{g bG:Nat}{Z:x4}{cs z:Λ}(h:dh w g bG sv aj k cs)(hk:right k)(P:aN .i64 w Z z)(cl:z.length<=12)(ac:Good z aj.length->aQ (e2 aj z)<=4096):
  al v8 J2 [Γ g,Z] w (Og w aj k cs z):=by
 have aB:=h;have cm:=h.2.2.1;have cn:=P.cells;refine jr func237 ?_;refine bp λg1 U c4 bI C=>?_;refine bp λbJ aa c6 a2 A=>?_;have s1:=bI.size;have c7:=a2.size;have c8:=C.lt;have c9:=A.lt;have a7:=bI.F a2;have C:=C.W a2;have A:ag aa bJ aq [Z]:=by rw[cn.1]at A;exact A
 rw[aE Ψ (C.cell rfl),dg fa.u];simp only[Y2,a6];rw[aE Ψ (A.cell rfl)];have cp:=P.W a7;have sub:∀{w:x5}{g:Nat}{sv:x4}{k:Int}{ba:x4},ag w g c5 [sv,Δ k,ba]->w.rangeAt g (0+0) [sv]:=λJ=>o1 J (by
  intro j v a8
  match j,a8 with
  |0,a8=>exact a8)
 refine xw cp cl λer cq dq m bK da bb cr hm=>?_;have ct:=bb.length_eq;rw[a1 aq.u hm.ls];have cu:=a7.F bK;refine lu.range m.length (λi _ _ bc=>Ext cq bc/\∀j,j<i->m[j]?=σ (j:Int)) Ω ⟨Ext.refl _,λj bd=>Ω⟩ ?_ ?_
 .rintro i _ _ bc ab hi ⟨ad,be⟩ ae;simp only[aS,am];refine⟨λ_=>?_,λh=>Ω⟩;obtain⟨y,ah⟩:=aD (l:=m) hi;rw[bk aq.u ai.i Ψ (hm.ls.W ad) ah];simp only[bL,am,aP];refine⟨λak db cw _=>⟨(cu.F ad).F cw,λ_=>rfl,λbf=>?_⟩,λhe=>ae _ _ _ ⟨ad,λj bd=>?_⟩⟩
  .have:=Cb bf bb cr i hi;rw[ah]at this;exact ro (Z4 this).symm ak
  .by_cases cz:j=i
   .subst cz;rw[ah];congr 1;omega
   .exact be j Ω
 .rintro _ _ bc ab ⟨ad,be⟩;simp only[aS,am,ei];refine⟨λh=>Ω,λ_ dc cA _ _=>?_⟩;have E:=L1 be bb;have an:=(bK.F ad).F cA;have aC:=a7.F an;have C:=C.W an;have A:=A.W an;have cB:=P.W aC;have cC:=aB.W aC;have dd:=an.size;obtain⟨⟨ba,gs,J,aF,bM⟩,_⟩:=id cC;rw[aE Ψ (A.cell rfl),a1 aq.u cB,aE Ψ (C.cell rfl),bY,aU c5.p rfl,bC (cs:=[sv]) bH.p bH.i rfl (sub J)];refine(CB aF.ls).Y ?_;rintro _ de _ ⟨rfl,K⟩;refine⟨.inl K,?_⟩;simp only[bL,am];refine⟨λak df cD _=>⟨(aC.F K).F cD,λ_=>rfl,λbf=>ro (by rw[bf.1]) ak⟩,λdi=>?_⟩;have bg:z.length=aj.length:=Ω
  have E:Good z aj.length:=by rw[<-bg,<-ct];exact E
  have dj:=an.F K;have bh:=aC.F K;have C:=C.W K;have A:=A.W K;have bN:=P.W bh;rw[aE Ψ (A.cell rfl),a1 aq.u bN];refine kq aq.u ai.i Ω Ω λgz cE dk Q bO=>?_;have cF:=aA.of (n:=z.length) (b0.full bO Ξ (by simp[maxLen];omega));generalize (x4.slice (σ ⟨gz,0,ν⟩) z.length z.length)=cG at*;have dl:=K.size;have dm:=Q.size;have dp:=bO.lt;rw[aE Ψ ((A.W Q).cell rfl),a1 aq.u (bN.W Q)];have bP:=bh.F Q;have aG:(e2 aj z).length=z.length:=tI _ _;refine bW.range z.length (λi aH=>af (λr=>r=gz) cE aH/\aA .i64 ai aH gz cG (upto (e2 aj z) 0 i)) Ω ⟨af.refl _ _,by rw[qe,aG];exact cF⟩ ?_ ?_
  .rintro i aH ab hi ⟨L,aI⟩ ae;simp only[aS,am];refine⟨λ_=>?_,λh=>Ω⟩;have ao:=bP.then L (by rintro r M rfl;omega);have aJ:=Q.then L (by rintro r M rfl;omega);obtain⟨p,bi⟩:=aD (l:=z) hi;obtain⟨⟨ba,gs,J,aF,bM⟩,_⟩:=aB.W ao;rw[bk aq.u ai.i Ψ (P.W ao) bi,aE Ψ ((C.W aJ).cell rfl),bY,aU c5.p rfl,bC (cs:=[sv]) bH.p bH.i rfl (sub J)];refine(rz aF.ls).Y ?_;rintro _ dr _ ⟨rfl,bQ⟩;have bR:=aI.W bQ;have cH:(upto (e2 aj z) 0 i).length=z.length:=by rw[pc,aG]
   rw[iY rfl aq.u ai.i bR Ω];refine iZ ai.i bR Ω λds cI _ bS=>?_;simp only[aP];have h1:=(E.2 i p bi).1;have ap:(e2 aj z)[i]?=σ (jb aj p):=by
    unfold e2 jb;rw[u4,bi,ms h1.1];rfl
   rw[qg ap]at bS;exact ae _ ⟨(L.F (bQ.V _)).F cI,bS⟩
  .rintro aH ab ⟨L,aI⟩;simp only[aS,am];refine⟨λh=>Ω,λ_=>?_⟩;have ao:=bP.then L (by rintro r M rfl;omega);have aJ:=Q.then L (by rintro r M rfl;omega);rw[<-aG,qf]at aI;obtain⟨⟨ba,gs,J,aF,bM⟩,_⟩:=aB.W ao;rw[aE Ψ ((C.W aJ).cell rfl),aK c5.p 1 J rfl];have aL:=cm.L3 E rfl;have bT:=ac E;have dt:=prod_bound aL;refine(wI aI.ls).Y ?_;rintro _ bU _ ⟨bV,_,_,_,cJ⟩;obtain⟨au,G,R,rfl,du,dv,dw,aM⟩:=cJ aL bT ⟨hk,Ω,by have:=hk.1;omega⟩;obtain⟨N,aO⟩:∃N:Nat,(aQ (e2 aj z)).toNat=N:=⟨_,rfl⟩;rw[aO]at aM;rw[bx,bz];refine bF fa.i λbX dx dy bZ ax=>?_;refine bt fa.i rfl rfl ax (by simp[x4.cells]) λdz cK dA ax=>?_;have dC:=L.size;have dD:=bV.size;have dE:=bZ.size;have bj:=bZ.then cK (by rintro r M rfl;omega);have b1:=bV.F bj;have cL:=aM.W bj;have dF:=ax.lt;obtain⟨⟨bl,b2,b3,b4,cM⟩,⟨b5,b6,_⟩,_,dG⟩:=id cL;have dH:0<N:=Ω
   have dI:au<bU.heap.size:=by obtain⟨⟨_,_,q,_⟩,_⟩:=id aM;exact q.lt
   have dJ:G<bU.heap.size:=by obtain⟨⟨_,_,_,_,q⟩,_⟩:=id aM;exact uk q Θ
   rw[aE Ψ (ax.cell rfl),bY,aU c5.p rfl,bC (cs:=[R]) bH.p bH.i rfl (sub b3)];refine w9.Y ?_;rintro _ O _ ⟨H,aR,rfl,dK,b7⟩;have dL:=bj.size;have dM:=H.size;let S:Nat->Prop:=λr=>r=G;let W:=pe aj cs z;have bm:W.length=N:=by simp only[W];rw[Ch,aO]
   let cN:x5->Prop:=λI=>ag I g1 fa [Γ g]/\ag I bJ aq [Z]/\ag I bX fa [Γ au]/\ag I au c5 [R,Δ k,bl]/\
    dh I g bG sv aj k cs/\aN .i64 I Z z/\aA .i64 ai I b2 R (e2 aj z)/\ag I aR bH [R]/\O.heap.size<=I.heap.size
   have X:∀{a:x5},af S O a->cN a:=by
    intro a B;have bn:=(aJ.F b1).F H;have bo:=bn.put B Ω;have b8:=bh.F bo;refine⟨C.W bo,A.W bo,(ax.W H).V B (by show¬(bX=G);omega),(b3.W H).V B (by show¬(au=G);exact b5),aB.W b8,P.W b8,bA (b4.W H) B (λr M he=>b6 ((show r=G from he)▸M)),
     b7.V B (by show¬(aR=G);omega),B.size⟩
   have b9:=w8 (g:=aR) (B0:=O.heap.size) (sv:=R) aL;rw[aO]at b9;refine pU.old ⟨Nat,v6,m4,#[Γ aR],0,_,_,_,λq I=>af S O I/\aA .i64 av I G bl (upto W 0 q),λ_ _ _=>False,rfl,b9.s,
    ?_,λ_ _ B h=>⟨h.1.W B,h.2.1.W B,X1 h.2.2 B.size⟩,λ_ _ _ B h=>⟨h.1.F (B.V S),h.2.W B⟩,λ_ _ _ _ _ h=>h,⟨b7,(b4.W H).ls,o4 _⟩,⟨af.refl _ _,?_⟩,?_,?_,λ_ _ h=>h.elim,λ_ _ _ h=>h.elim⟩
   .rintro _ _ _ _ ⟨_,_,_,_,rfl,_⟩;rfl
   .rw[qe,bm];exact cM.W H
   .rintro _ aT q _ dN ⟨_,_,dO⟩ ⟨ap,rfl,dP,gt,cO,dQ,cP⟩ ⟨aV,cQ⟩;cases cO;let x:=dn (e2 aj z) (q:Int);have ca:x.length=z.length:=by simp only[x];rw[kr,aG]
    intro cR Y _ _;have cb:=cP.W Y;rw[a1 aq.u cb.ls];refine kq aq.u ai.i (by rw[kr];omega) (by rw[kr];omega) λgo cS dR bq cc=>?_;have cT:=aA.of (n:=(dn (e2 aj z) (q:Int)).length) (b0.full cc Ξ (by rw[kr];simp[maxLen];omega));generalize (x4.slice (σ ⟨go,0,ν⟩) (dn (e2 aj z) (q:Int)).length (dn (e2 aj z) (q:Int)).length)=cU at*;have dS:=aV.size;have dT:=Y.size;have dU:=bq.size;have lo:=cc.lt;have cV:af S O cS:=aV.F ((Y.F bq).V S);have f:=X cV;rw[aE Ψ (f.2.1.cell rfl),a1 aq.u f.2.2.2.2.2.1];refine bW.range z.length (λj aW=>Ext cR aW/\∃y:Λ,y.length=z.length/\aA .i64 ai aW go cU y/\∀(i:Nat)(p:Int),i<j->z[i]?=σ p->y[p.toNat]?=x[i]?) Ω
     ⟨bq,_,by simp[ca,x],cT,λi p hi=>Ω⟩ ?_ ?_
    .rintro j aW ab bd ⟨ay,y,bs,aX,bu⟩ ae;simp only[aS,am];refine⟨λ_=>?_,λh=>Ω⟩;have f:=X (aV.F ((Y.F ay).V S));obtain⟨p,aY⟩:=aD (l:=z) bd;obtain⟨u,hu⟩:=aD (l:=x) (i:=j) Ω;have dV:=(E.2 j p aY).1;rw[bk aq.u ai.i Ψ f.2.2.2.2.2.1 aY,bk aq.u ai.i Ψ (cb.W ay).ls hu,iY (i:=p.toNat) Ω aq.u ai.i aX Ω];refine iZ ai.i aX Ω λdW cW dX cX=>?_;simp only[aP];refine ae _ ⟨ay.then cW (by rintro r M rfl;omega),_,by simpa using bs,cX,λi aZ hi az=>?_⟩;by_cases cd:i=j
     .subst cd;rw[aY]at az;cases az;rw[n9 Ω,hu]
     .have dY:=(E.2 i aZ az).1;have ak:p.toNat≠aZ.toNat:=λhe=>by
       have:p=aZ:=Ω
       subst this;exact cd (E.inj az aY)
      rw[Z6 ak];exact bu i aZ Ω az
    .rintro aW ab ⟨ay,y,bs,aX,bu⟩;simp only[aS,am];refine⟨λh=>Ω,λ_ cY ce _ _=>?_⟩;have ah:=Cf E (by rw[ca,bg]) (by rw[bs,bg]) λi p cf=>bu i p (x6.1 cf).1 cf;have cg:=ay.F ce;have ch:af S O cY:=aV.F ((Y.F cg).V S);obtain⟨f1,f2,f3,f4,f5,f6,f7,f8,f9⟩:=X ch;rw[aE Ψ (f3.cell rfl),aK c5.p 2 f4 rfl,aE Ψ (f1.cell rfl)];refine(wJ f5 (aX.ls.W ce)).Y ?_;rintro _ dZ _ ⟨rfl,bw⟩;refine⟨.inl bw,?_⟩;obtain⟨e,he⟩:=xv aj y cs;rw[he,bx,bz];have cZ:=ch.F (bw.V S);have ci:=(cQ.W ((Y.F cg).F bw));have cH:(upto W 0 q).length=N:=by rw[pc,bm]
     rw[iY rfl aw.u av.i ci Ω];refine iZ av.i ci Ω λc0 c1 ea cj=>?_;have ck:af S O c0:=cZ.F (c1.Y λr _ h=>h);obtain⟨f1,f2,f3,f4,f5,f6,f7,f8,f9⟩:=X ck;have c2:W[q]?=σ (br aj cs y):=by
      simp only[W,pe];rw[u4,List.getElem?_range (by rw[aO];exact ap),ah];rfl
     rw[qg c2]at cj;exact⟨⟨f8,f7.ls,f9⟩,⟨ck,cj⟩,λh=>by cases h⟩
   .rintro q eb ap ⟨bB,bD⟩;rw[show q=N from ap]at bD;have f:=X bB;rw[aE Ψ (f.2.2.1.cell rfl)];intro ec bE _;obtain⟨f1,f2,f3,f4,f5,f6,f7,f8,f9⟩:=X (bB.F (bE.V S));rw[<-bm,qf]at bD;have bn:=(ao.F b1).F H;refine⟨(bn.put bB Ω).F bE,λc3=>ro E c3,λ_=>⟨au,G,R,rfl,⟨bl,b2,f4,f7,bD.W bE⟩,⟨b5,b6,bT⟩,aL,Ch _ _ _⟩⟩
def ii(l:Λ):Prop:=∀(i j:Nat)(x y:Int),i<j->l[i]?=σ x->l[j]?=σ y->x<y
theorem ii.inj(h:ii l){i:Nat}{x:Int}(hi:l[i]?=σ x)(a:l[j]?=σ x):i=j:=by
 rcases Nat.lt_trichotomy i j with h1|h1|h1
 .have:=h i j x x h1 hi a;omega
 .exact h1
 .have:=h j i x x h1 a hi;omega
def dedup(l:Λ):Nat->Λ
 |0=>[]
 |j+1=>if 0<j/\l[j]?=l[j-1]? then dedup l j else dedup l j++[l.getD j 0]
theorem DK(l:Λ):∀j,(dedup l j).length<=j
 |0=>o4 _
 |j+1=>by
  have:=DK l j;unfold dedup;split
  .omega
  .simp;omega
theorem xx(a:0<j)(h:l[j]?=l[j-1]?):dedup l (j+1)=dedup l j:=by
 rw[dedup,ms ⟨a,h⟩]
theorem xy{x:Int}(e:l[j]?=σ x)(h:0<j->l[j]? ≠l[j-1]?):dedup l (j+1)=dedup l j++[x]:=by
 rw[dedup,rc (λa=>h a.1 a.2),u5,e];rfl
theorem ur{l:Λ}:∀{j:Nat},j<=l.length->(∀i,i<j->0<i->l[i]? ≠l[i-1]?)->dedup l j=l.take j
 |0,_,_=>by simp[dedup]
 |j+1,f,h=>by
  have a:l[j]?=σ l[j]:=x8 Ω;rw[xy a (h j Ω),ur Ω (λi hi e=>h i Ω e),r9,a];rfl
theorem DL{l:Λ}(J:l.Pairwise (·<= ·)):∀{j:Nat},j<=l.length->(ii (dedup l j)/\∀x,x∈dedup l j↔x∈l.take j)
 |0,_=>⟨λi j x y _ h=>by simp[dedup]at h,λx=>by simp[dedup]⟩
 |j+1,I=>by
  obtain⟨h1,q⟩:=DL J (j:=j) Ω;have f:l[j]?=σ l[j]:=x8 Ω;by_cases p:0<j/\l[j]?=l[j-1]?
  .rw[xx p.1 p.2];refine⟨h1,λx=>?_⟩;rw[q,r9,f];simp only[j6,j9,b9];refine⟨.inl,λh=>h.elim id λhe=>?_⟩;subst he;have s:(l.take j)[j-1]?=σ l[j]:=by rw[Y6 Ω,<-p.2,f]
   exact x7 s
  .have w:0<j->l[j]? ≠l[j-1]?:=λB he=>p ⟨B,he⟩;rw[xy f w];have C:∀x∈dedup l j,x<l[j]:=λx E=>by
    obtain⟨i,hi,he⟩:=List.getElem_of_mem ((q x).1 E);have K:i<j:=by rw[o8]at hi;omega
    rw[List.getElem_take]at he;subst he;have s:l[i]<=l[j-1]:=by
     by_cases z:i=j-1
     .subst z;exact S0 _
     .exact U5.1 J i (j-1) Ω Ω Ω
    have z:=U5.1 J (j-1) j Ω Ω Ω;have A:=w Ω;rw[f,x8 (show j-1<l.length by omega)]at A;have L:l[j]≠l[j-1]:=λh=>A (by rw[h]);omega
   refine⟨λa b x y F r e=>?_,λx=>?_⟩
   .have G:=(x6.1 e).1;simp only[o9,Y0,List.length_nil]at G;rw[Y4 Ω]at r;by_cases H:b=(dedup l j).length
    .subst H;rw[Z7 (o4 _),V2]at e;simp at e;subst e;exact C x (x7 r)
    .rw[Y4 Ω]at e;exact h1 a b x y F r e
   .rw[r9,f];simp only[j6,j9,b9,q]
def rR(l:Λ):Prop:=∀(j:Nat)(x:Int),l[j]?=σ x->0<=x/\(0<j->∀y,l[j-1]?=σ y->y<x)
theorem rR.up(h:rR l):ii l:=by
 intro i j x y r f;induction j generalizing y with
 |zero=>omega
 |succ j p=>
  intro e;have s:=(x6.1 e).1;obtain⟨z,a⟩:∃z,l[j]?=σ z:=⟨_,x8 (show j<l.length by omega)⟩;have h1:=(h (j+1) y e).2 Ω z (by simpa using a);by_cases q:i=j
  .subst q;rw[f]at a;cases a;exact h1
  .have:=p z Ω a;omega
theorem Oi(h:ii l)(e:∀x∈l,0<=x):rR l:=λj x a=>⟨e x (x7 a),λp y f=>h (j-1) j y x Ω f a⟩
theorem DM{g H:Nat}{ds:x4}{cs:Λ}(h:dh w g H sv aj k cs)(a:aN .i64 w ds l):
  al v8 J3 [Γ g,ds] w λv I=>Ext w I/\∃c,v= .bool c/\(c=v2↔l.length=aj.length/\rR l):=by
 obtain⟨⟨ba,gs,J,hm,q⟩,_⟩:=h;have sub:w.rangeAt g (0+0) [sv]:=o1 J (by
  intro j v r
  match j,r with
  |0,r=>exact r)
 refine aB func238 ?_;rw[a1 aq.u a,bY,aU c5.p rfl,bC (cs:=[sv]) bH.p bH.i rfl sub];refine(CB hm.ls).Y ?_;rintro _ U _ ⟨rfl,s⟩;simp only[bL,am];refine⟨λK=>⟨s,v6,rfl,(λh=>by cases h),λh=>ro (by rw[h.1]) K⟩,λE=>?_⟩;have E:l.length=aj.length:=Ω
 rw[a1 aq.u (a.W s)];refine ch.range l.length (λi _ aa=>Ext w aa/\∀(j:Nat)(x:Int),j<i->l[j]?=σ x->0<=x/\(0<j->∀y,l[j-1]?=σ y->y<x)) a.le ⟨s,λj x L=>Ω⟩ ?_ ?_
 .rintro i _ aa M hi ⟨e,z⟩ N;simp only[aS,am];refine⟨λ_=>?_,λh=>Ω⟩;obtain⟨x,f⟩:=aD (l:=l) hi;have V:=a.le;rw[bk aq.u ai.i Ψ (a.W e) f];refine aZ (λv O=>aa=O/\∃c,v= .bool c/\(c=v6↔0<=x/\(0<i->∀y,l[i-1]?=σ y->y<x))) ?_ ?_
  .rintro _ _ ⟨rfl,c,rfl,q⟩;rw[b4];simp only[aP];refine⟨λP=>⟨e,v6,rfl,(λh=>by cases h),λh=>?_⟩,λQ=>N _ _ ⟨e,λj R L A=>?_⟩⟩
   .have:=q.2 (h.2 i x f);rw[P]at this;cases this
   .by_cases S:j=i
    .subst S;rw[f]at A;cases A;exact q.1 Q
    .exact z j R Ω A
  .intro ax B;simp only[aS,bU,dx,am];refine⟨λW=>B _ _ ⟨rfl,v2,rfl,(λh=>by cases h),λh=>Ω⟩,λX=>⟨λY=>?_,λZ=>B _ _ ⟨rfl,v6,rfl,λ_=>⟨Ω,λh=>Ω⟩,λ_=>rfl⟩⟩⟩;obtain⟨y,C⟩:∃y,l[i-1]?=σ y:=⟨_,x8 (show i-1<l.length by omega)⟩;rw[m1 Ω Ω,fM (i:=i-1) Ω aq.u ai.i Ψ (a.W e) C];simp only[cP];refine B _ _ ⟨rfl,_,rfl,?_⟩;rw[decide_eq_false_iff_not];refine⟨λh=>⟨Ω,λ_ ab G=>by rw[C]at G;cases G;omega⟩,λh=>by have:=h.2 Ω y C;omega⟩
 .rintro _ aa M ⟨e,z⟩;simp only[aS,am];exact⟨λh=>Ω,λ_=>⟨e,v2,rfl,λ_=>⟨E,λj x f=>z j x (x6.1 f).1 f⟩,λ_=>rfl⟩⟩
def iI(l:Λ)(x:Int):Int:=if x∈l then(l.idxOf x:Int)else-1
theorem DN{i:Nat}{x:Int}(h:ii l)(hi:l[i]?=σ x):iI l x=i:=by
 have hm:x∈l:=x7 hi;have a:=List.idxOf_lt_length_of_mem hm;have e:=h.inj (by rw[x8 a,List.getElem_idxOf a]) hi;unfold iI;rw[ms hm,e]
theorem Oj{x:Int}(h:x∉l):iI l x= -1:=rc h
theorem xz{x:Int}(h:aN .i64 w sv l)(hu:ii l):
  al v8 AR [sv,Δ x] w λv I=>v=Δ (iI l x)/\Ext w I:=by
 refine aB func236 ?_;rw[a1 aq.u h];refine ch.range l.length (λi _ U=>Ext w U/\∀j,j<i->l[j]? ≠σ x) h.le ⟨Ext.refl _,λj p=>Ω⟩ ?_ ?_
 .rintro i _ U k hi ⟨a,e⟩ hk;simp only[aS,am];refine⟨λ_=>?_,λh=>Ω⟩;obtain⟨y,f⟩:=aD (l:=l) hi;rw[bk aq.u ai.i Ψ (h.W a) f];simp only[bm,am,aP];refine⟨λhe=>⟨?_,a⟩,λhe=>hk _ _ ⟨a,λj p=>?_⟩⟩
  .subst he;rw[DN hu f]
  .by_cases q:j=i
   .subst q;rw[f];intro h;exact he (Z4 h).symm
   .exact e j Ω
 .rintro _ U k ⟨a,e⟩;simp only[aS,am];refine⟨λh=>Ω,λ_=>⟨?_,a⟩⟩;rw[Oj];intro hm;obtain⟨i,hi,he⟩:=List.getElem_of_mem hm;exact e i hi (by rw[x8 hi,he])
def gn(x d6 scope:Λ):Λ:=scope.map λp=>x.getD (d6.idxOf p) 0
theorem Ol(x d6 scope:Λ):(gn x d6 scope).length=scope.length:=by simp[gn]
theorem DO{eM q:x4}{x d6:Λ}(B:aN .i64 w eM x)(C:aN .i64 w q d6)(J:aN .i64 w sv scope)(hu:ii d6)(E:∀p∈scope,p∈d6)(P:x.length=d6.length)(Q:scope.length<=1000):
  al v8 J8 [eM,q,sv] w λv I=>Ext w I/\∃g,w.heap.size<=g/\aA .i64 ai I g v (gn x d6 scope):=by
 refine aB func243 ?_;rw[a1 aq.u J];refine kq aq.u ai.i Ω Ω λgz U R s G=>?_;have H:=aA.of (n:=scope.length) (b0.full G Ξ (by simp[maxLen];omega));generalize (x4.slice (σ ⟨gz,0,ν⟩) scope.length scope.length)=K at*;rw[a1 aq.u (J.W s)];have j:=Ol x d6 scope;refine bW.range scope.length (λi aa=>Ext w aa/\aA .i64 ai aa gz K (upto (gn x d6 scope) 0 i)) Ω ⟨s,by rw[qe,j];exact H⟩ ?_ ?_
 .rintro i aa L hi ⟨a,hm⟩ M;simp only[aS,am];refine⟨λ_=>?_,λh=>Ω⟩;obtain⟨p,ac⟩:=aD (l:=scope) hi;have y:=E p (x7 ac);have S:=List.idxOf_lt_length_of_mem y;rw[bk aq.u ai.i Ψ (J.W a) ac];refine(xz (C.W a) hu).Y ?_;rintro _ V _ ⟨rfl,f⟩;have e:iI d6 p=(d6.idxOf p:Int):=ms y;obtain⟨u,z⟩:∃u,x[d6.idxOf p]?=σ u:=⟨_,x8 Ω⟩;have W:(upto (gn x d6 scope) 0 i).length=scope.length:=by rw[pc,j]
  rw[fM (i:=d6.idxOf p) e aq.u ai.i Ψ (B.W (a.F f)) z,iY rfl aq.u ai.i (hm.W f) Ω];refine iZ ai.i (hm.W f) Ω λX N _ A=>?_;simp only[aP];have O:(gn x d6 scope)[i]?=σ u:=by
   unfold gn;rw[u4,ac,Y3,u5,z];rfl
  rw[qg O]at A;exact M _ ⟨(a.F f).then N (by rintro r Y rfl;omega),A⟩
 .rintro aa L ⟨a,hm⟩;simp only[aS,am];refine⟨λh=>Ω,λ_=>⟨a,gz,Ω,?_⟩⟩;rw[<-j,qf]at hm;exact hm
theorem DP(j:t≠[])(hw:∀b∈t,bV b=v2):lex t=([t],v2):=by
 cases t with
 |nil=>exact ro rfl j
 |cons b q=>
  have a:q.dropWhile bV=[]:=by
   have:∀(q:Λ),(∀x∈q,bV x=v2)->q.dropWhile bV=[]/\q.takeWhile bV=q:=λq a=>by
    induction q with
    |nil=>simp
    |cons x q e=>
     have:=e λy f=>a y (.tail _ f);simp[a x (.head _),this.1,this.2]
   exact(this q λx h=>hw x (.tail _ h)).1
  have p:q.takeWhile bV=q:=by
   have:∀(q:Λ),(∀x∈q,bV x=v2)->q.takeWhile bV=q:=λq a=>by
    induction q with
    |nil=>simp
    |cons x q e=>simp[a x (.head _),e λy f=>a y (.tail _ f)]
   exact this q λx h=>hw x (.tail _ h)
  rw[BH (hw b (.head _)),a,p]
theorem DQ{p:x4}(h:aN .u8 w p l)(e:Bytes l)(f:l.length<=100000):al v8 Aw [p] w λv I=>Ext w I/\∃g R,v=Γ g/\w.heap.size<=g/\iC I g R (lex l).1 (lex l).2/\¬R g:=by
 refine(BP h e f).Y ?_;rintro _ U _ ⟨j,g,rfl,q,s,a⟩;obtain⟨h1,z,A,x,a8,hm⟩:=id a;exact⟨j,g,λr=>r≠g,rfl,q,⟨s,l,0,a,λr y=>ce hm x Φ y,by rw[List.drop_zero]⟩,λh=>h rfl⟩
theorem Om{p:x4}(h:aN .u8 w p t)(x:Bytes t)(y:t.length<=100000)(z:t≠[])(hw:∀b∈t,bV b=v2):al v8 Kk [p] w λv I=>Ext w I/\∃n:Int,v= .tuple #[Δ 1,Δ n,Δ 0]:=by
 have A:=DP z hw;refine aB func266 ?_;refine(DQ h x y).Y ?_;rintro _ U _ ⟨B,g,R,rfl,G,j,H⟩;rw[A]at j;refine⟨λ_ _ _ a aa=>af (λr=>r=g) U aa/\((a=Δ 0/\iC aa g R [t] v2)\/(a=Δ 1/\iC aa g R [] v2)),λ_ _ _ a _=>1-(bX a).toNat,⟨af.refl _ _,.inl ⟨rfl,j⟩⟩,?_⟩;rintro _ _ _ _ aa ⟨q,⟨rfl,e⟩|⟨rfl,e⟩⟩
 .refine (ru e).Y ?_;rintro v C _ ⟨f,E,n,rfl⟩;rw[fN,fO,fP,bm,am];refine⟨λ_=>?_,λh=>ro rfl h⟩;rw[aP,m1 Ω Ω];exact⟨⟨q.F f,.inr ⟨rfl,E⟩⟩,by simp[bX]⟩
 .refine (ru e).Y ?_;rintro v C _ ⟨f,n,rfl⟩;rw[fN,fO,fP,bm,am];refine⟨λh=>by simp at h,λ_=>?_⟩;rw[bm,am];refine⟨λh=>by simp at h,λ_=>?_⟩;have s:=B.then (q.F f) (λr J he=>by have he:r=g:=he;omega);rw[a1 cT.u (h.W s)];exact⟨s,_,rfl⟩
theorem On(a:Bytes t)(e:t.length<=100000)(f:t≠[])(hw:∀b∈t,bV b=v2):al v8 JX [ca t] w λv I=>v= .bool v2/\Ext w I:=by
 have x:=DP f hw;refine aB func228 ?_;refine wN da.u cT.u cN.u a Ω λbv U j y _=>?_;refine(Om y a e f hw).Y ?_;rintro _ aa _ ⟨p,n,rfl⟩;rw[fN,fO,fP];refine wN da.u cT.u cN.u a Ω λJ K q z _=>?_;refine(DQ z a e).Y ?_;rintro _ L _ ⟨A,g,R,rfl,M,s,N⟩;rw[x]at s;refine(ru s).Y ?_;rintro _ B _ ⟨C,_,m,rfl⟩;rw[fN,fO,fP];have E:=(((j.F p).F (q.F A))).then C (λr O he=>by
  have he:r=g:=he;have:=j.size;have:=p.size;have:=q.size;omega)
 refine aZ (λv G=>B=G/\v= .bool v2) ?_ ?_
 .rintro _ _ ⟨rfl,rfl⟩;exact⟨rfl,E⟩
 .intro ax H;rw[bm,am];refine⟨λ_=>?_,λh=>ro rfl h⟩;rw[bm,am];refine⟨λ_=>?_,λh=>ro rfl h⟩;rw[BD a a];exact H _ _ ⟨rfl,by rw[rs rfl]⟩
theorem Oo{x:Int}:al v8 wq [Δ x] w λv I=>v= .bool (decide (¬jv x))/\Ext w I:=by
 refine aB func227 ?_;refine aZ (λv U=>w=U/\v= .bool (decide (¬jv x))) ?_ ?_
 .rintro _ _ ⟨rfl,rfl⟩;exact⟨rfl,Ext.refl _⟩
 .intro ax e;rw[aS,am];refine⟨λh=>e _ _ ⟨rfl,by rw[rs];intro a;have:=a.1;omega⟩,λh=>?_⟩;rw[bU];refine e _ _ ⟨rfl,?_⟩;congr 1;rw[U8,sp,sp];exact⟨λf a=>by have:=a.2;omega,λf=>by
   by_cases j:32<x
   .exact j
   .exact ro ⟨Ω,Ω⟩ f⟩
theorem Oq(h:aN .i64 w sv l)(f:∀x∈l,jv x):
  al v8 wp [sv,.func (.func wq) #[] #[]] w λv I=>v= .bool v6/\Ext w I:=by
 refine aB func225 ?_;refine al.Y (K:=λv I=>v=Δ (-1)/\Ext w I) ?_ ?_
 .refine aB func139 ?_;rw[a1 aq.u h];refine ch.range l.length (λ_ _ U=>Ext w U) h.le (Ext.refl _) ?_ ?_
  .rintro i _ U k hi a hk;refine bG Ω ?_;obtain⟨x,e⟩:=aD (l:=l) hi;rw[bk aq.u ai.i Ψ (h.W a) e];show al v8 wq [Δ x] U _;refine Oo.Y ?_;rintro _ aa _ ⟨rfl,j⟩;rw[am];refine⟨λp=>ro (f x (x7 e)) p,λ_=>?_⟩;rw[aP];exact hk _ _ (a.F j)
  .rintro _ U k a;rw[aS,am];exact⟨λh=>Ω,λ_=>⟨rfl,a⟩⟩
 .rintro _ U _ ⟨rfl,a⟩;rw[cP];exact⟨rfl,a⟩
theorem ut{m:Bool}{S R:ah}{d:ih}(h:an.rep m S R w cs d):∃sv g a aT gs,cs=[sv,Γ g]/\aN .i64 w sv d.1/\gm w g a aT gs d.2.aj d.2.k d.2.o d.2.D:=by
 obtain⟨c,e,A,B,rfl,_,_,_,h1,f⟩:=h;have h1:=h1;obtain⟨u,rfl⟩:=V4.1 (show c.length=1 from an.len h1);obtain⟨g,m,sv,gs,rfl,j,_⟩:=f;exact⟨u,g,m,sv,gs,rfl,en h1,j⟩
theorem Ot{W:Nat}{f:b7}{d:ih}{x:cE}{m:Bool}{S R:ah}(ak:mv w W f)(ap:fl N f)(au:x∈f.d9)(av:rQ f.k x d)(aw:an.rep m S R w cs d):
  al v8 Kl [Γ W,.agg cs.toArray] w λv I=>v= .bool v2/\Ext w I:=by
 obtain⟨lc,aM,gz,aN,X,Y,_,_⟩:=ak;obtain⟨sv,ae,aO,aT,gs,rfl,s,K⟩:=ut aw;obtain⟨ay,Z,az,aQ,aR,aU⟩:=av;obtain⟨G,aV,aW⟩:=ap.d9 x au;rw[ay]at s;refine aB func268 ?_;refine bp λao U aX A H=>?_;have H:ag U ao cM [sv,Γ ae]:=by obtain⟨_,_,_,rfl⟩:=dj s;exact H
 refine aZ (λv aa=>Ext U aa/\v= .bool v6) ?_ ?_
 rotate_left
 .intro ax L;intro aa q _ _;have z:=H.W q;rw[aL cM.p 1 z rfl,dg e1.u];simp only[Y2,a6];rw[aL cM.p 1 z rfl,aK cI.p 1 (X.W (A.F q)) rfl];refine(ME (K.W (A.F q)).is).Y ?_;rintro _ B _ ⟨rfl,a⟩;refine⟨.inl a,?_⟩;rw[bL,am];refine⟨λh=>ro az h,λ_=>?_⟩;have C:=z.W a;have M:=q.F a;rw[aL cM.p 1 C rfl,aL cM.p 0 C rfl,a1 aq.u (s.W (A.F M))];refine(MF (K.W (A.F M)).is).Y ?_;rintro _ J _ ⟨rfl,e⟩;refine⟨.inl e,?_⟩;rw[bL];refine L _ _ ⟨M.F e,?_⟩;rw[s2];intro h;exact h (by rw[Z,G.co,r8])
 rintro _ aa ⟨q,rfl⟩;rw[a6];have z:=H.W q;have O:=A.F q;rw[aL cM.p 0 z rfl,a1 aq.u (s.W O)];refine ch.range x.scope.length (λ_ _ B=>Ext aa B) Ω (Ext.refl _) ?_ ?_
 rotate_left
 .rintro _ B k a;rw[aS,am];exact⟨λh=>Ω,λ_=>⟨rfl,O.F a⟩⟩
 rintro i _ B k hi a hk;obtain⟨v,E⟩:=aD (l:=x.scope) hi;have aY:=G.scope.2 v (x7 E);have P:=O.F a;have C:=z.W a;have ab:=X.W P;have aA:f.co[v.toNat]?=σ (f.co.getD v.toNat 0):=by
  rw[u5,x8 Ω];rfl
 refine bG Ω ?_;rw[bk aq.u ai.i Ψ (s.W P) E];refine aZ (λb J=>Ext B J/\b= .bool v6) ?_ ?_
 .rintro _ J ⟨e,rfl⟩;rw[a6,aP];exact hk _ _ (a.F e)
 .intro ax L;intro J e _ _;have Q:=P.F e;refine cd Ω ?_;rw[aK cI.p 2 (ab.W e) rfl,a1 aq.u (Y.ls.W Q),cP,am];refine⟨λh=>Ω,λ_=>?_⟩;rw[aL cM.p 0 (C.W e) rfl];refine(DJ (s.W Q)).Y ?_;rintro _ a2 _ ⟨ac,r,rfl,aC⟩;have aF:r=(i:Int):=(aC i E).2 λj a7 aG=>by have:=lJ G.scope.1 aG E;omega
  subst aF;have ad:=Q.F ac;have V:=e.F ac;rw[bL,am];refine⟨λh=>ro rfl h,λ_=>?_⟩;rw[aL cM.p 1 (C.W V) rfl,aK cI.p 2 (ab.W V) rfl];refine rj (y:=v) (i:=v.toNat) Ω aq.u ai.i (Y.ls.W ad) aA λb o aH=>?_;rw[aE Ψ aH];refine(xc (K.W ad).is).Y ?_;rintro a8 ba _ ⟨af,bb,bc,aI⟩;refine⟨.inl af,?_⟩;have aJ:d.2.aj[i]?=σ (f.co.getD v.toNat 0):=by
   rw[Z,G.co,u4,E];rfl
  rw[bk aq.u ai.i Ψ aI.ls aJ,bL];exact L _ _ ⟨V.F af,by rw[s2 (λh=>h rfl)]⟩
theorem Ou{f:b7}{d:ih}{x:cE}{m:Bool}{S R:ah}(q:mv w j f)(r:fl N f)(s:x∈f.d9)(y:rQ f.k x d)(a:an.rep m S R w cs d):
  al v8 wr [Γ j,.agg cs.toArray] w λv I=>v= .bool v6/\Ext w I:=by
 refine aB func231 ?_;refine bp λao U C e h=>?_;have z:cs.length=2:=an.len a;have h:ag U ao cM cs:=by
  obtain⟨sv,ae,E,aT,gs,rfl,A,G⟩:=ut a;obtain⟨_,_,_,rfl⟩:=dj A;exact h
 rw[bC cM.p cM.i z h.range];refine(Ot (q.W e) r s y (bu a e)).Y ?_;rintro _ aa _ ⟨rfl,B⟩;rw[bM];exact⟨rfl,e.F B⟩
theorem Ov{f:b7}{r:x4}{e:List ih}{m:Bool}{S R:ah}(A:mv w j f)(B:fl N f)(q:an.rep m S R w [r] e)(s:uq f.k f.d9 e):
  al v8 JZ [r,.func (.func wr) #[Γ j] #[]] w λv I=>v= .bool v6/\Ext w I:=by
 refine aB func230 ?_;refine al.Y (K:=λv I=>v=Δ (-1)/\Ext w I) ?_ ?_
 .refine aB func267 ?_;rw[gR dO.u q];refine ch.range e.length (λ_ _ U=>Ext w U) (oZ q) (Ext.refl _) ?_ ?_
  .rintro i _ U k hi a hk;refine bG Ω ?_;obtain⟨d,y⟩:=aD (l:=e) hi;obtain⟨x,z⟩:∃x,f.d9[i]?=σ x:=⟨_,x8 (by have:=s.1;omega)⟩;refine ni (α:=ih) cM.p rfl dO.u cM.i (bu q a) y λcs C=>?_;show al v8 wr [Γ j,.agg cs.toArray] U _;refine(Ou (A.W a) B (x7 z) (s.2 i x d z y) C).Y ?_;rintro _ aa _ ⟨rfl,E⟩;rw[a6,aP];exact hk _ _ (a.F E)
  .rintro _ U k a;rw[aS,am];exact⟨λh=>Ω,λ_=>⟨rfl,a⟩⟩
 .rintro _ U _ ⟨rfl,a⟩;rw[cP];exact⟨rfl,a⟩
def ns(a:List cE):Nat:=(a.map λx=>x.lines.length).sum
theorem Ow{af:Nat}{f:b7}(ag:mv w af f)(r:fl N f)(be:N<=60000)(V:f.name≠[]/\∀b∈f.name,bV b=v2):
  al v8 Js [Γ af] w λv I=>Ext w I/\∃e:Int,v=Δ e/\(ns f.d9<=16384->e=0):=by
 obtain⟨lc,bf,gz,y,A,W,X,B⟩:=id ag;have bg:=r.name;have aE:Bytes f.name:=λb aF=>by
  have:=ty (V.2 b aF);omega
 refine aB func182 ?_;rw[dg wv.u];simp only[Y2,a6];refine aZ (λv U=>Ext w U/\v= .bool v6) ?_ ?_
 rotate_left
 .intro ax s;rw[aK cI.p 0 A rfl];refine(On aE Ω V.1 V.2).Y ?_;rintro _ U _ ⟨rfl,q⟩;rw[bM,X3,a6];rw[aK cI.p 2 (A.W q) rfl,a1 aq.u (W.ls.W q),bm,am];refine⟨λh=>by have:=r.co.1;omega,λ_=>?_⟩;rw[aK cI.p 2 (A.W q) rfl];refine(Oq (W.ls.W q) r.co.2.2).Y ?_;rintro _ aa _ ⟨rfl,C⟩;have ah:=q.F C;rw[a6,aK cI.p 1 (A.W ah) rfl];refine Bg.Y ?_;rintro _ E _ ⟨rfl,G⟩;have M:=ah.F G;rw[rs (show right f.k from r.k),bM,X3,a6,aK cI.p 3 (A.W M) rfl,mb];refine(Ov (ag.W M) r (bu X M) B).Y ?_;rintro _ ak _ ⟨rfl,aG⟩;exact s _ _ ⟨M.F aG,rfl⟩
 rintro _ U ⟨q,rfl⟩;rw[a6];have O:=A.W q;refine aZ (λv aa=>U=aa/\v= .bool v6) ?_ ?_
 rotate_left
 .intro ax s;rw[aK cI.p 0 O rfl,o3 da.u,bU,am];refine⟨λh=>Ω,λ_=>?_⟩;rw[aK cI.p 2 O rfl,a1 aq.u (W.ls.W q),bU,am];refine⟨λh=>by have:=r.co.2.1;omega,λ_=>?_⟩;rw[aK cI.p 3 O rfl,gR dO.u (bu X q),bU];exact s _ _ ⟨rfl,by rw[s2];have:=r.mm;have:=B.1;omega⟩
 rintro _ _ ⟨rfl,rfl⟩;have an:=bu X q;rw[aK cI.p 3 O rfl,gR dO.u an];refine⟨λaH aI Y aa=>∃i n:Nat,Y=Δ (i:Int)/\i<=y.length/\aH=Δ (n:Int)/\aI= .bool v6/\Ext U aa/\n<=ns (f.d9.take i)/\n<=i*60000,λ_ _ Y _=>y.length-(bX Y).toNat,
  ⟨0,0,rfl,W0 _,rfl,rfl,Ext.refl _,W0 _,Ω⟩,?_⟩
 rintro _ _ _ aa ⟨i,n,rfl,hi,rfl,rfl,C,aJ,bh⟩;have bi:y.length<=256:=by rw[B.1];exact r.mm
 rw[aS,am];refine⟨λap=>?_,λbj=>?_⟩
 .have ap:i<y.length:=Ω
  obtain⟨d,au⟩:=aD (l:=y) ap;obtain⟨x,Z⟩:∃x,f.d9[i]?=σ x:=⟨_,x8 (by have:=B.1;omega)⟩;have P:=B.2 i x d Z au;obtain⟨Q,aM,aN⟩:=r.d9 x (x7 Z);have bl:=Q.len;refine jo (λa b E=>Ext aa E/\a=Δ ((n+d.2.D.length:Nat):Int)/\b= .bool v6) ?_ ?_
  .rintro _ _ E ⟨G,rfl,rfl⟩;rw[aP,m1 Ω Ω];have aO:=P.2.2.2.2.1;refine⟨⟨i+1,n+d.2.D.length,rfl,Ω,rfl,rfl,C.F G,?_,?_⟩,by simp only[bX];omega⟩
   .have e:ns (f.d9.take (i+1))=ns (f.d9.take i)+x.lines.length:=by
     unfold ns;rw[r9,Z,j6,Z3,List.sum_append,T3,List.map_nil,R6,List.sum_nil,Nat.add_zero]
    omega
   .have:(i+1)*60000=i*60000+60000:=Ω
    have bn:d.2.D.length<=60000:=Ω
    omega
  .intro ax s;refine ni (α:=ih) cM.p rfl dO.u cM.i (bu an C) au λcs aQ=>?_;obtain⟨sv,ae,bo,aT,gs,rfl,aR,ay⟩:=ut aQ;refine bF cM.i λao E bp G aU=>?_;refine b6 (vs:=[sv,Γ ae]) cM.i rfl rfl (by intro v R;simp at R;rcases R with rfl|rfl<;>first|exact aR.cells.2|rfl) aU λak aV bq az=>?_;have ab:Ext aa ak:=G.put aV Ω;rw[aL cM.p 1 az rfl];refine(MD (ay.W ab).is).Y ?_;rintro _ br _ ⟨rfl,ac⟩;have aO:=P.2.2.2.2.1;rw[aP,m1 Ω Ω,aL cM.p 1 (az.W ac) rfl];refine(xc ((ay.W ab).W ac).is).Y ?_;rintro bs ad _ ⟨aW,bt,bw,aC⟩;rw[a1 aq.u aC.ls];have bx:d.2.aj.length<=6:=by rw[P.2.1,Q.co,r8];exact aM
   refine ch.range d.2.aj.length (λj out S=>Ext ad S/\∃gr,ad.heap.size<=gr/\aA .i64 av S gr out (d.2.aj.take j)) Ω ⟨Ext.refl _,ad.heap.size,o4 _,aA.nil _ _ _ _⟩ ?_ ?_
   .rintro j out S k aX ⟨H,gr,aY,J⟩ hk;obtain⟨z,K⟩:=aD (l:=d.2.aj) aX;refine bG Ω ?_;rw[bk aq.u ai.i Ψ (aC.ls.W H) K];refine eT aw.u av.i rfl λa ga a2 bz L a7=>?_;refine kp aw.u av.i rfl (J.W L) a7.ls Θ Θ λbA a8 bB bC ba bb=>?_;have bD:=H.size;have bE:=L.size;rw[aP];refine hk _ _ ⟨(H.F L).put bb Ω,a8,Ω,?_⟩;rw[r9,K];exact ba
   .rintro out S k ⟨H,gr,aY,J⟩;rw[j4]at J;refine cd Ω ?_;rw[a6];have bc:d.2.aj=x.co:=P.2.1;rw[bc]at J;refine(Cx J.ls λz K=>?_).Y ?_
    .rw[Q.co]at K;obtain⟨v,R,rfl⟩:=j5.1 K;have bH:=Q.scope.2 v R;refine(r.co.2.2 _ ?_).1;rw[u5,x8 Ω];exact Q9 _
    .rintro _ a2 _ ⟨rfl,L⟩;refine s _ _ _ ⟨(((ab.F ac).F aW).F H).F L,by congr 1,by rw[aN]⟩
 .have bd:i=y.length:=Ω
  subst bd;rw[B.1,j4]at aJ;refine aZ (λv E=>aa=E/\v= .bool (decide (16384<(n:Int)))) ?_ ?_
  .rintro _ _ ⟨rfl,rfl⟩;rw[am];refine⟨λh=>⟨q.F C,5,rfl,λbI=>Ω⟩,λh=>⟨q.F C,0,rfl,λ_=>rfl⟩⟩
  .intro ax s;rw[a6,bU];exact s _ _ ⟨rfl,rfl⟩
theorem uu:∀{a b:Λ}{i:Nat},(∀(j:Nat)(x y:Int),j<i->a[j]?=σ x->b[j]?=σ y->x=y)->i<=a.length->i<=b.length->jE a b=jE (a.drop i) (b.drop i)
 |_,_,0,_,_,_=>Ξ
 |[],_,i+1,_,h,_=>by simp at h
 |_::_,[],i+1,_,_,h=>by simp at h
 |x::a,y::b,i+1,he,h1,e=>by
  have f:=he 0 x y Ω rfl rfl;subst f;simp only[jE,Int.lt_irrefl,if_false,List.drop_succ_cons];exact uu (λj u v q hu p=>he (j+1) u v Ω hu p) (by simpa using h1) (by simpa using e)
theorem DR{x:Int}:al v8 cmp_isNaN_int [Δ x] w λv I=>v= .bool v6/\Ext w I:=by
 refine aB func247 ?_;simp only[bL];exact⟨Ξ,Ext.refl _⟩
theorem DS{x:Int}:al v8 Jz [Δ x,Δ y] w λv I=>v=Δ (if x<y then-1 else if y<x then 1 else 0)/\Ext w I:=by
 refine aB func195 ?_;refine DR.Y ?_;rintro _ U _ ⟨rfl,a⟩;refine DR.Y ?_;rintro _ aa _ ⟨rfl,e⟩;simp only[a6,aS,bU,am];exact⟨λh=>⟨by rw[ms h],a.F e⟩,λh=>⟨λf=>⟨by rw[rc h,ms f],a.F e⟩,λf=>⟨by rw[rc h,rc f],a.F e⟩⟩⟩
theorem Ox{a b:Λ}(r:aN .i64 w bh a)(z:aN .i64 w bv b):al v8 JA [bh,bv] w λv I=>v=Δ (jE a b)/\Ext w I:=by
 refine aB func196 ?_;have Z:=r.le;rw[a1 aq.u r];refine⟨λ_ A U=>∃i:Nat,A=Δ (i:Int)/\i<=a.length/\i<=b.length/\Ext w U/\∀(j:Nat)(x y:Int),j<i->a[j]?=σ x->b[j]?=σ y->x=y,λ_ A _=>a.length-(bX A).toNat,⟨0,rfl,W0 _,W0 _,Ext.refl _,λj x y O=>Ω⟩,?_⟩;rintro _ _ U ⟨i,rfl,P,Q,f,J⟩;have p:=uu J P Q;simp only[aS,am];refine⟨λs=>?_,λab=>?_⟩
 .have s:i<a.length:=Ω
  obtain⟨x,B⟩:=aD (l:=a) s;have K:a.drop i=x::a.drop (i+1):=by rw[W3 s,(x6.1 B).2]
  rw[bk aq.u ai.i Ψ (r.W f) B,a1 aq.u (z.W f)];simp only[cP,am];refine⟨λh=>?_,λh=>?_⟩
  .have:b.drop i=[]:=by rw[List.drop_eq_nil_iff];omega
   rw[this,K]at p;exact⟨by rw[p];rfl,f⟩
  have C:i<b.length:=Ω
  obtain⟨y,E⟩:=aD (l:=b) C;have R:b.drop i=y::b.drop (i+1):=by rw[W3 C,(x6.1 E).2]
  rw[bk aq.u ai.i Ψ (z.W f) E];refine DS.Y ?_;rintro _ aa _ ⟨rfl,L⟩;rw[K,R]at p;simp only[jE]at p;simp only[bL,am,aP];refine⟨λM=>⟨?_,f.F L⟩,λS=>?_⟩
  .rw[p];by_cases h1:x<y
   .rw[ms h1,ms h1]
   .by_cases q:y<x
    .rw[rc h1,ms q,rc h1,ms q]
    .rw[rc h1,rc q]at M;exact ro rfl M
  .rw[m1 Ω Ω];refine⟨⟨i+1,rfl,s,C,f.F L,λj V W O G H=>?_⟩,by simp only[bX];omega⟩;by_cases X:j=i
   .subst X;rw[B]at G;rw[E]at H;cases G;cases H;have N:=X5.1 S;by_cases h1:x<y
    .rw[ms h1]at N;omega
    .by_cases q:y<x
     .rw[rc h1,ms q]at N;omega
     .omega
   .exact J j V W Ω G H
 .have Y:i=a.length:=Ω
  subst Y;rw[List.drop_length]at p;rw[a1 aq.u (r.W f),a1 aq.u (z.W f)];simp only[aS,am];refine⟨λh=>⟨?_,f⟩,λh=>⟨?_,f⟩⟩
  .obtain⟨y,l,e⟩:∃y l,b.drop a.length=y::l:=⟨_,_,W3 Ω⟩;rw[p,e];rfl
  .have:b.drop a.length=[]:=by rw[List.drop_eq_nil_iff];omega
   rw[p,this];rfl
theorem Oy{x:Int}{f:x4}(h:aN .i64 w f [x,y]):al v8 Jy [f] w λv I=>v=Δ (if x≠0 then x else y)/\Ext w I:=by
 refine aB func194 ?_;rw[a1 aq.u h];refine ch.range 2 (λi _ U=>Ext w U/\(1<=i->x=0)/\(2<=i->y=0)) Ω ⟨Ext.refl _,Ω,Ω⟩ ?_ ?_
 .rintro i _ U k hi ⟨a,h1,e⟩ hk;rw[aS,am];refine⟨λ_=>?_,λh=>by simp at h;omega⟩
  match i,hi,h1,e,hk with
  |0,_,h1,e,hk=>
   rw[bk aq.u ai.i Ψ (h.W a) rfl,bL,am];refine⟨λj=>⟨by rw[ms j],a⟩,λhe=>?_⟩;rw[aP];exact hk _ _ ⟨a,λ_=>X5.1 he,λh=>Ω⟩
  |1,_,h1,e,hk=>
   rw[bk aq.u ai.i Ψ (h.W a) rfl,bL,am];have p:=h1 (o4 _);refine⟨λj=>⟨by rw[rc Ω],a⟩,λhe=>?_⟩;rw[aP];exact hk _ _ ⟨a,λ_=>p,λ_=>X5.1 he⟩
 .rintro _ U k ⟨a,h1,e⟩;have p:=h1 Ω;have q:=e Ω;rw[aS,am];exact⟨λh=>by simp at h,λ_=>⟨by rw[rc Ω,q],a⟩⟩
structure cA where
 sv:x4
 g:Nat
 sc:Λ
 cs:Λ
def e4(h:cA):List x4:=[h.sv,Γ h.g]
abbrev k5(h:cA):x4:=.agg (e4 h).toArray
def rS(h:cA):Int:=di h.sc
def j3(w:x5)(a:Nat)(h:cA):Prop:=(∃e,aA .i64 ai w e h.sv h.sc)/\(∀r,lw h.sv r->r≠a)/\k3 h.sc
theorem j3.V{h:cA}(au:j3 w a h)(e:af S w I)(f:∀r,lw h.sv r->¬S r):j3 I a h:=by
 obtain⟨⟨j,hm⟩,p⟩:=au;exact⟨⟨j,bA hm e f⟩,p⟩
theorem j3.one{h:cA}(au:j3 w a h):∀u∈e4 h,u.oneCell'=v2:=by
 obtain⟨⟨e,hm⟩,_⟩:=au;intro u hu;simp[e4]at hu;rcases hu with rfl|rfl
 .exact hm.ls.cells.2
 .rfl
def fe(w:x5)(g:Nat)(v:x4)(L:List cA):Prop:=bj e4 2 c4 w g v L/\∀h∈L,j3 w g h
theorem fe.W{g:Nat}{L:List cA}(h:fe w g v L)(a:Ext w I):fe I g v L:=⟨h.1.W a,λx e=>(h.2 x e).V (a.V λ_=>False) λ_ _ h=>h⟩
theorem fe.at{g:Nat}{L:List cA}(h:fe w g v L){i:Nat}{x:cA}(hi:L[i]?=σ x):j3 w g x:=h.2 x (x7 hi)
theorem uv{g:Nat}{L:List cA}{i:Nat}{x:cA}{K:x4->Prop}(a:y=(i:Int))(h:fe w g v L)(hi:L[i]?=σ x):
  ab v8 (c9 gC v (Δ y)) w (λp=>ab v8 (u6 c4 p) w K)=K (k5 x):=by
 rw[cj a gC.u c4.i h.1 (x6.1 hi).1,bC c4.p c4.i rfl (h.1.range hi)]
theorem Oz{g:Nat}{L:List cA}{i:Nat}{x:cA}{K:Unit->x5->Prop}(j:y=(i:Int))(h:fe w g v L)(hi:i<L.length)(hk:j3 w g x)(q:∀I,af (λr=>lm v r) w I->fe I g v (L.set i x)->K () I):ab v8 (c9 gC v (Δ y)) w λp=>aF v8 (l9 c4 p (k5 x)) w K:=by
 rw[cj j gC.u c4.i h.1 hi];refine xe c4.i h.1 rfl hk.one hi λI e _ aW=>q I e ⟨aW,λz a=>?_⟩;rcases W8 a with a|rfl
 .exact (h.2 z a).V e λr f he=>(h.2 z a).2.1 r f (h.1.lw he).1
 .exact hk.V e λr f he=>hk.2.1 r f (h.1.lw he).1
abbrev OA:x4:=.func (.func AJ) #[] #[]
def xA(a b:cA):Int:=let c:Int:=if(a.sc.length:Int)<b.sc.length then-1 else if(b.sc.length:Int)<a.sc.length then 1 else 0
 if c≠0 then c else jE a.sc b.sc
theorem OB{a b:cA}(f:k3 a.sc)(j:k3 b.sc):xA a b<0↔rS a<rS b:=by
 have p:=(xp f j).1;unfold rS xA;simp only;generalize q:(if(a.sc.length:Int)<b.sc.length then(-1:Int)else if(b.sc.length:Int)<a.sc.length then 1 else 0)=c;rw[p,<-q];by_cases h1:(a.sc.length:Int)<b.sc.length
 .rw[ms h1,ms Ω];exact⟨λ_=>.inl Ω,λ_=>Ω⟩
 .by_cases e:(b.sc.length:Int)<a.sc.length
  .rw[rc h1,ms e,ms Ω];exact⟨λh=>Ω,λh=>by rcases h with h|h<;>omega⟩
  .rw[rc h1,rc e,rc Ω];exact⟨λh=>.inr ⟨Ω,h⟩,λh=>by rcases h with h|h;omega;exact h.2⟩
theorem OC{y:Nat}{a b:cA}(A:j3 w y a)(B:j3 w y b):al v8 AJ [k5 a,k5 b] w λv I=>Ext w I/\v=Δ (xA a b):=by
 obtain⟨⟨ga,r⟩,_,L⟩:=A;obtain⟨⟨M,s⟩,_,N⟩:=B;refine aB func193 ?_;refine bp λg1 U O C h=>?_;refine bp λE aa P z j=>?_;have h:ag U g1 c4 [a.sv,Γ a.g]:=by
  obtain⟨_,_,_,e⟩:=dj r.ls;simp only[k5,e4,e]at h ⊢;exact h
 have j:ag aa E c4 [b.sv,Γ b.g]:=by
  obtain⟨_,_,_,e⟩:=dj s.ls;simp only[k5,e4,e]at j ⊢;exact j
 intro Q x _ _;have f:=(C.F z).F x;have f1:=(h.W z).W x;have f2:=j.W x;rw[aL c4.p 0 f1 rfl,a1 aq.u (r.ls.W f),aL c4.p 0 f2 rfl,a1 aq.u (s.ls.W f),
  aL c4.p 0 f1 rfl,aL c4.p 0 f2 rfl]
 refine DS.Y ?_;rintro _ R _ ⟨rfl,q⟩;refine⟨.inl q,?_⟩;refine(Ox ((r.ls.W f).W q) ((s.ls.W f).W q)).Y ?_;rintro _ S _ ⟨rfl,G⟩;refine Bv (l:=[if(a.sc.length:Int)<b.sc.length then(-1:Int)else if(b.sc.length:Int)<a.sc.length then 1 else 0,jE a.sc b.sc]) aq.u ai.i Ω rfl Ψ λV W X Y H J=>?_;refine(Oy J.ls).Y ?_;rintro _ Z _ ⟨rfl,K⟩;exact⟨((((f.F q).F G).F H).F K),rfl⟩
theorem OD{g:Nat}{L:List cA}(h:fe w g v L)(C:L.length<65536):
  al v8 Jx [v,OA] w λ_ I=>af (λr=>lm v r) w I/\∃M,M.Perm L/\ua rS M 0 M.length/\fe I g v M:=by
 have j:∀{s:x5}{a:cA},af (λr=>r=g) w s->j3 w g a->j3 s g a:=λf e=>e.V f λr z he=>e.2.1 r z he;refine(CX MP (G:=j3 w g) (num:=rS) MT MU (λa e=>e.one) (λa _=>rfl) (λa b e A=>OB e.2.2 A.2.2) (Enters.of v8 MV rfl Ψ) h.1 h.2 C λs a b f e A=>OC (j f e) (j f A)).Y ?_;rintro _ I _ ⟨f,M,ac,hu,hm⟩;have E:af (λr=>r=g) w I:=f.Y λr _ z=>(h.1.lw z).1;exact⟨f,M,ac,λp q x y _ H _ B J=>hu p q x y H B J,hm,λx B=>j E (h.2 x (ac.mem_iff.1 B))⟩
theorem OE{m:Λ}(f:nr l)(j:l.Nodup)(ac:m.Perm l)(J:m.Pairwise (·<= ·)):m=bw l:=by
 refine xq ?_ (xo l) λx=>?_
 .have p:=ac.nodup_iff.2 j;exact(List.Pairwise.and J p).imp λ{a b}h=>by
   obtain⟨h1,e⟩:=h;have e:=e;omega
 .rw[ac.mem_iff,rN f]
theorem OF(h:∀z∈l,1<=z/\z<=32)(a:dy l=v6):aQ l<=4096:=by
 have:=of_decide_eq_false a;rw[xt h]at this;omega
theorem OG{f:b7}{d:ih}{x:cE}{m:Bool}{S R:ah}(h:fl N f)(bi:N<=60000)(Q:x∈f.d9)(az:rQ f.k x d)(aC:an.rep m S R w cs d):
  al v8 Jt [.agg cs.toArray] w λv I=>Ext w I/\∃sv gs E W X,v= .tuple #[sv,Γ E]/\w.heap.size<=gs/\aA .i64 ai I gs sv (bw x.scope)/\dh I E W X (bN f.co (bw x.scope)) f.k (jz f.co f.k x).2:=by
 obtain⟨sv,ae,bj,aT,bl,rfl,G,aE⟩:=ut aC;obtain⟨aF,aG,aH,bm,bn,aI⟩:=az;obtain⟨a,aJ,aK⟩:=h.d9 x Q;have ad:=ug a h.co.2.1;have bo:=a.len;rw[aF]at G;have aM:∀z∈x.co,1<=z/\z<=32:=λz aj=>by
  rw[a.co]at aj;obtain⟨v,aN,rfl⟩:=j5.1 aj;have bq:=a.scope.2 v aN;refine h.co.2.2 _ ?_;rw[u5,x8 Ω];exact Q9 _
 have aO:=OF aM aK;have Y:=uf ad a.scope.1;have bs:(bw x.scope).length<=6:=by rw[Y.length_eq];exact aJ
 refine aB func183 ?_;refine bp λao U bt ak y=>?_;have y:ag U ao cM [sv,Γ ae]:=by obtain⟨_,_,_,rfl⟩:=dj G;exact y
 rw[aL cM.p 1 y rfl];refine(DD (aE.W ak).is Ω).Y ?_;rintro _ aa _ ⟨Z,_,A⟩;rw[aG]at A;obtain⟨g,bu,bA,aQ,rfl,bB,bC,A,am⟩:=A aO;rw[aH]at A;rw[bx,bz,aL cM.p 0 (y.W Z) rfl];have B:=ak.F Z;refine xw (G.W B) Ω λv bD gs bE H bF ac J K=>?_;have aR:=OE ad a.scope.1 ac J;subst aR;have bH:=B.size;rw[a1 aq.u K.ls];refine kq aq.u ai.i Ω Ω λgo aS bI L ap=>?_;have aU:=aA.of (b0.full (n:=(bw x.scope).length) ap Ξ (by simp[maxLen];omega));rw[a1 aq.u (K.ls.W L)];have bJ:=ap.lt;have M:(gl x.scope (bw x.scope)).length=(bw x.scope).length:=by simp[gl]
 have aV:=H.F L;have bK:=B.F aV;refine bW.range (bw x.scope).length (λi O=>af (λr=>r=go) aS O/\aA .i64 ai O go (.slice (σ ⟨go,0,ν⟩) (bw x.scope).length (bw x.scope).length) ((gl x.scope (bw x.scope)).take i++o6 ((bw x.scope).length-i) 0)) Ω ⟨af.refl _ _,by simpa using aU⟩ ?_ ?_
 .rintro i O k hi ⟨P,C⟩ hk;obtain⟨v,ab⟩:=aD (l:=(bw x.scope)) hi;have q:=L.put P Ω;have aW:=(B.F H).F q;have aX:v∈x.scope:=Y.mem_iff.1 (x7 ab);refine bG Ω ?_;rw[bk aq.u ai.i Ψ (K.ls.W q) ab];have aY:=(Z.F H).F q;rw[aL cM.p 0 (y.W aY) rfl];refine(DJ (G.W aW)).Y ?_;rintro _ aZ _ ⟨s,r,rfl,a2⟩;have au:=qw aX;have a6:=(a2 _ au).2 λj bL a7=>by have:=lJ a.scope.1 a7 au;omega
  rw[iY rfl aq.u ai.i (C.W s) (by simp[M];omega)];refine iZ ai.i (C.W s) (by simp[M];omega) λbM a8 bO av=>?_;rw[aP];refine hk _ ⟨(P.F (s.V _)).F a8,?_⟩;have ba:(gl x.scope (bw x.scope))[i]?=σ r:=by rw[a6];exact Dx ab
  have e:((gl x.scope (bw x.scope)).take i++o6 ((bw x.scope).length-i) 0).set i r=(gl x.scope (bw x.scope)).take (i+1)++o6 ((bw x.scope).length-(i+1)) 0:=by
   have bb:((gl x.scope (bw x.scope)).take i).length=i:=by rw[o8,M];omega
   rw[T4 _ _ Ω,bb,V2,show(bw x.scope).length-i=((bw x.scope).length-(i+1))+1 by omega,List.replicate_succ,List.set_cons_zero,r9,ba,j6,T6];rfl
  rw[e]at av;exact av
 .rintro O k ⟨P,C⟩;have q:=L.put P Ω;have aw:=H.F q;refine cd Ω ?_;rw[V2,List.replicate_zero,U2,Z0 Ω]at C;have bc:∀t,dv x.co t->br x.co aQ t=kX x f.k t:=λt bd=>by rw[am.2 t bd];exact aI t
  obtain⟨ax,be⟩:=NE h Q am.1 bc;have bf:Good (gl x.scope (bw x.scope)) x.co.length:=by
   rw[a.co,r8];exact uj a.scope.1 Y
  have bg:=(qv h Q);refine(Oh (A.W aw) h.k C.ls (by rw[M];omega) λ_=>?_).Y ?_
  .rw[ax];exact bg.small
  .rintro _ aZ _ ⟨s,_,bh⟩;obtain⟨E,W,X,rfl,ay⟩:=bh bf;rw[bx,bz];rw[ax,be]at ay;exact⟨(B.F aw).F s,v,gs,E,W,X,rfl,Ω,(K.W q).W s,ay⟩
theorem OH{P:V3}{t x f:o5}{k y g o cap:Nat}{z:x4}(h:P.underlying t=σ (.slice e))(hi:aR P e k y z)(A:z.cells.size=k)(h1:∀u∈dU z.cells (n*k),u.oneCell'=v2)(a:ag w g f cs)(H:o+n*k<=cs.length)(p:∀I,af (λr=>r=g) w I->ag I g f (over cs o (dU z.cells (n*k)))->K (.tuple #[]) I):aF P (Y1.clear_ #[t] x #[.slice (σ ⟨g,o,ν⟩) n cap]) w K:=by
 obtain⟨i,hi,J,rfl,B⟩:=hi;have C:∀w,(zeroValue e).run P w= .ok z w:=λw=>by simp[zeroValue,typeInfo,hi,B]
 have E:(Y1.zeroCells z.cells n).toList=dU z.cells (n*k):=by
  unfold Y1.zeroCells dU;rw[A]
 have q:=run_storeCells_cells (P:=P) g o (dU z.cells (n*k)) 0 w (λj F=>by
   rw[p5]at F;rw[Nat.add_zero,a.cell (x8 (show o+j<cs.length by omega))];rfl) (λj _=>a.frozen _ _) h1
 simp only[Nat.add_zero]at q;obtain⟨G,s⟩:=oW (dU z.cells (n*k)) cs o w a;rcases Q8 n with rfl|L
 .refine .of (by simp[Y1.clear_,run_underlying h]) (cO.refl _) (p w (af.refl _ _) ?_);rw[Nat.zero_mul,Z5 (p5 z.cells 0)];exact a
 .obtain⟨m,rfl⟩:∃m,n=m+1:=⟨n-1,Ω⟩;refine .of (by simp[Y1.clear_,run_underlying h,C,E,q]) (s.cB a) (p _ s.V G)
theorem dY{α:Type}{f:α->List x4}{k:Nat}{g:Nat}{L:List α}(h:bj f k e w g v L)(j:lm v r):r=g/\∃cs,ag w g e cs:=by
 obtain⟨_,⟨rfl,_⟩|⟨cap,cs,rfl,p,_⟩⟩:=h.1
 .exact (fm j).elim
 .obtain⟨a,n,c,h1,q⟩:=j;cases h1;exact⟨q.symm,cs,p⟩
theorem OI{α:Type}{f:α->List x4}{k:Nat}{g:Nat}{L:List α}(h:bj f k e w g v L)(a:L≠[]):∃cs n c,v= .slice (σ ⟨g,0,ν⟩) n c/\ag w g e cs:=by
 obtain⟨_,⟨rfl,j⟩|⟨cap,cs,rfl,p,_⟩⟩:=h.1
 .exact ro (Z5 j) a
 .exact⟨cs,_,_,rfl,p⟩
theorem fe.mk{g:Nat}{L:List cA}(h:bj e4 2 c4 w g v L)(e:∀x∈L,(∃f,aA .i64 ai w f x.sv x.sc)/\k3 x.sc):fe w g v L:=by
 refine⟨h,λx a=>⟨(e x a).1,λr j=>?_,(e x a).2⟩⟩;obtain⟨cs,n,c,_,p⟩:=OI h (λq=>by rw[q]at a;cases a);obtain⟨⟨f,hm⟩,_⟩:=e x a;exact ce hm p Φ j
def Sem(w:x5)(k:Int)(co:Λ)(L:List cA):Prop:=∀x∈L,∃a e,dh w x.g a e (bN co x.sc) k x.cs
theorem xB{g p:Nat}{q:x4}{cs:Λ}(h:dh w g p q aj k cs)(e:af S w I)(f:∀r,S r->∃c,ag w r c4 c):dh I g p q aj k cs:=by
 obtain⟨⟨ba,gs,h1,s,x⟩,y⟩:=h;refine⟨⟨ba,gs,h1.V e λJ=>?_,bA s e λr j J=>?_,bA x e λr j J=>?_⟩,y⟩
 .obtain⟨c,a⟩:=f g J;unfold ag at h1 a;rw[h1]at a;have:=(Obj.cells.inj (Z4 a)).2.1;exact ro this Φ
 .obtain⟨c,a⟩:=f r J;exact ce s a Φ j rfl
 .obtain⟨c,a⟩:=f r J;exact ce x a Φ j rfl
theorem Sem.W{L:List cA}(h:Sem w k co L)(a:Ext w I):Sem I k co L:=λx e=>by
 obtain⟨f,j,p⟩:=h x e;exact⟨f,j,p.W a⟩
theorem Sem.row{L M:List cA}{g:Nat}(h:Sem w k co L)(a:fe w g v M)(e:af (λr=>lm v r) w I):Sem I k co L:=λx f=>by
 obtain⟨j,p,q⟩:=h x f;exact⟨j,p,xB q e λr s=>by obtain⟨rfl,c,y⟩:=dY a.1 s;exact⟨c,y⟩⟩
def ec(h:cA):cQ:=(h.sc,h.cs)
theorem OJ:al v8 wn [Δ c] w λv I=>v= .bool (decide (0<c))/\Ext w I:=by
 refine aB func190 ?_;rw[bU];exact⟨rfl,Ext.refl _⟩
theorem OK(h:aN .i64 w sv l):
  al v8 Jv [sv,.func (.func wn) #[] #[]] w λv I=>v= .bool (l.any λc=>decide (0<c))/\Ext w I:=by
 refine aB func189 ?_;refine al.Y (K:=λv I=>Ext w I/\∃r:Int,v=Δ r/\(0<=r↔ ∃c∈l,0<c)) ?_ ?_
 .refine aB func244 ?_;rw[a1 aw.u h];refine ch.range l.length (λi _ U=>Ext w U/\∀c∈l.take i,¬0<c) h.le ⟨Ext.refl _,λc a=>by simp at a⟩ ?_ ?_
  .rintro i _ U k hi ⟨e,f⟩ hk;refine bG Ω ?_;obtain⟨x,j⟩:=aD (l:=l) hi;rw[bk aw.u av.i Ψ (h.W e) j];show al v8 wn [Δ x] U _;refine OJ.Y ?_;rintro _ aa _ ⟨rfl,p⟩;rw[am];refine⟨λac=>⟨e.F p,i,rfl,⟨λ_=>⟨x,x7 j,ac⟩,λ_=>Ω⟩⟩,λq=>?_⟩;rw[aP];refine hk _ _ ⟨e.F p,λc a=>?_⟩;rw[r9,j]at a;rcases j9.1 a with a|a
   .exact f c a
   .simp at a;subst a;exact q
  .rintro _ U k ⟨e,f⟩;rw[j4]at f;rw[aS,am];exact⟨λh=>Ω,λ_=>⟨e,-1,rfl,⟨λh=>Ω,λ⟨c,a,ac⟩=>ro ac (f c a)⟩⟩⟩
 .rintro _ U _ ⟨e,r,rfl,s⟩;rw[cP];refine⟨?_,e⟩;congr 1;rw[U8,sp,List.any_eq_true,s];exact⟨λ⟨c,a,ac⟩=>⟨c,a,rs ac⟩,λ⟨c,a,ac⟩=>⟨c,a,ty ac⟩⟩
theorem DT{h:Nat}{x:cA}{q:x4}(r:j3 w h x)(s:dh w x.g j q aj k x.cs):al v8 q3 [k5 x] w λv I=>v= .bool (!fQ (ec x))/\Ext w I:=by
 obtain⟨⟨B,hm⟩,_⟩:=r;refine aB func188 ?_;refine bp λao U C f a=>?_;have a:ag U ao c4 [x.sv,Γ x.g]:=by
  obtain⟨_,_,_,e⟩:=dj hm.ls;simp only[k5,e4,e]at a ⊢;exact a
 rw[aL c4.p 1 a rfl];refine(n1 (s.W f)).Y ?_;rintro E aa _ ⟨y,G,H,z⟩;refine(OK z.ls).Y ?_;rintro _ J _ ⟨rfl,A⟩;rw[bM];exact⟨rfl,(f.F y).F A⟩
theorem OL{g:Nat}{L:List cA}(h:fe w g v L)(J:Sem w k co L):
  al v8 AG [v,.func (.func q3) #[] #[]] w λr I=>Ext w I/\((r=Δ (-1)/\∀x∈L,fQ (ec x)=v2)\/∃i:Nat,r=Δ (i:Int)/\i<L.length/\(∀x∈L.take i,fQ (ec x)=v2)/\∀x,L[i]?=σ x->fQ (ec x)=v6):=by
 refine aB func184 ?_;rw[ew gC.u h.1];refine ch.range L.length (λi _ U=>Ext w U/\∀x∈L.take i,fQ (ec x)=v2) h.1.le ⟨Ext.refl _,λc a=>by simp at a⟩ ?_ ?_
 .rintro i _ U k hi ⟨e,f⟩ hk;refine bG Ω ?_;obtain⟨x,j⟩:=aD (l:=L) hi;rw[uv rfl (h.W e) j];show al v8 q3 [k5 x] U _;obtain⟨A,B,s⟩:=J x (x7 j);refine(DT ((h.W e).at j) (s.W e)).Y ?_;rintro _ aa _ ⟨rfl,p⟩;rw[b4];refine⟨λac=>⟨e.F p,.inr ⟨i,rfl,hi,f,λy q=>by rw[j]at q;cases q;simpa using ac⟩⟩,λz=>?_⟩;rw[aP];refine hk _ _ ⟨e.F p,λc a=>?_⟩;rw[r9,j]at a;rcases j9.1 a with a|a
  .exact f c a
  .simp at a;subst a;simpa using z
 .rintro _ U k ⟨e,f⟩;rw[j4]at f;rw[aS,am];exact⟨λh=>Ω,λ_=>⟨e,.inl ⟨rfl,f⟩⟩⟩
def gp(x:cA):Bool:=fQ (ec x)
theorem xC{L:List cA}{x:cA}(a:L[j]?=σ x):(L.take (j+1)).filter gp=if gp x=v2 then(L.take j).filter gp++[x]else(L.take j).filter gp:=by
 rw[r9,a,j6,List.filter_append];by_cases h:gp x=v2
 .rw[ms h];simp[h]
 .rw[rc h];simp[h]
theorem DU{z:Array x4}(a:0<z.size)(h:∀u∈z.toList,u.oneCell'=v2):∀u∈dU z n,u.oneCell'=v2:=λu hu=>by
 unfold dU at hu;rw[Array.toList_map,j5]at hu;obtain⟨i,_,rfl⟩:=hu;have e:i % z.size<z.size:=Nat.mod_lt _ a;rw[getElem!_pos z (i % z.size) e];exact h _ Ξ
theorem OM{g:Nat}{L:List cA}(h:fe w g v L)(J:Sem w k co L)(bb:L.length<=100000):
  al v8 Jw [v,.func (.func q3) #[] #[]] w λf I=>af (λr=>lm v r) w I/\fe I g f (L.filter gp)/\∀r,lm f r->lm v r:=by
 refine aB func191 ?_;refine(OL h J).Y ?_;rintro r U _ ⟨G,q⟩;rcases q with⟨rfl,P⟩|⟨Q,rfl,aw,P,ay⟩
 .rw[bm,am];refine⟨λ_=>⟨G.V _,?_,λr q=>q⟩,λh=>ro rfl h⟩;rw[List.filter_eq_self.2 (show∀x∈L,gp x=v2 from P)];exact h.W G
 rw[bm,am];refine⟨λh=>Ω,λ_=>?_⟩;rw[aP,m1 Ω Ω];obtain⟨R,ad⟩:=aD (l:=L) aw;refine⟨λS W aa=>∃(i j:Nat)(M:List cA),S=Δ (i:Int)/\W=Δ (j:Int)/\i<j/\j<=L.length/\M.length=L.length/\M.take i=(L.take j).filter gp/\M.drop j=L.drop j/\(∀x∈M,x∈L)/\fe aa g v M/\af (λr=>lm v r) w aa,
  λ_ W _=>L.length-(bX W).toNat,⟨Q,Q+1,L,rfl,by congr 1,Ω,Ω,rfl,?_,rfl,λx s=>s,h.W G,G.V _⟩,?_⟩
 .have az:¬gp R=v2:=by rw[show gp R=v6 from ay R ad];simp
  rw[xC ad,rc az,List.filter_eq_self.2 (show∀x∈L.take Q,gp x=v2 from P)]
 rintro _ _ aa ⟨i,j,M,rfl,rfl,bc,bd,ae,A,ag,ah,e,H⟩;have aA:Sem aa k co L:=J.row h H;rw[ew gC.u e.1,aS,am];refine⟨λX=>?_,λbe=>?_⟩
 .have X:j<L.length:=Ω
  obtain⟨x,s⟩:=aD (l:=L) X;have K:M[j]?=σ x:=by
   have h1:(M.drop j)[0]?=(L.drop j)[0]?:=by rw[ag]
   rw[R3,R3,Nat.add_zero]at h1;rw[h1,s]
  have ai:M.drop (j+1)=L.drop (j+1):=by
   have h1:(M.drop j).drop 1=(L.drop j).drop 1:=by rw[ag]
   rw[List.drop_drop,List.drop_drop]at h1;exact h1
  refine aZ (λS N=>∃(C:Nat)(z:List cA),S=Δ (C:Int)/\C<j+1/\z.length=L.length/\z.take C=(L.take (j+1)).filter gp/\z.drop (j+1)=L.drop (j+1)/\(∀x∈z,x∈L)/\fe N g v z/\af (λr=>lm v r) w N) ?_ ?_
  .rintro _ N ⟨C,z,rfl,h1,Y,aC,aE,aG,aH,aI⟩;rw[aP,m1 Ω Ω];exact⟨⟨C,j+1,z,rfl,rfl,h1,X,Y,aC,aE,aG,aH,aI⟩,by simp only[bX];omega⟩
  .intro ax aj;rw[uv rfl e K];refine bF c4.i λao N bf aJ aK=>?_;refine b6 (vs:=e4 x) c4.i rfl rfl (e.at K).one aK λaL aM bg ak=>?_;have Z:=aJ.put aM Ω;rw[bC c4.p c4.i rfl ak.range];show al v8 q3 [k5 x] aL _;obtain⟨bh,bi,aN⟩:=aA x (x7 s);refine(DT ((e.W Z).at K) (aN.W Z)).Y ?_;rintro _ bj _ ⟨rfl,an⟩;have E:=Z.F an;rw[bM,Bool.not_not,b4];refine⟨λhk=>?_,λaO=>?_⟩
   .rw[bC c4.p c4.i rfl (ak.W an).range];refine Oz rfl (e.W E) Ω ((e.W E).at K) λbk aQ aR=>?_;rw[aP,m1 Ω Ω];refine aj _ _ ⟨i+1,M.set i x,rfl,Ω,by simp[ae],?_,?_,λy B=>?_,aR,(H.F (E.V _)).F aQ⟩
    .have ac:gp x=v2:=hk;rw[xC s,ms ac,r9,n9 Ω,j6,List.take_set_of_le (o4 _),A]
    .rw[List.drop_set_of_lt Ω,ai]
    .rcases W8 B with B|rfl
     .exact ah y B
     .exact x7 s
   .have ac:¬gp x=v2:=by rw[show gp x=v6 from aO];simp
    exact aj _ _ ⟨i,M,rfl,Ω,ae,by rw[xC s,rc ac,A],ai,ah,e.W E,H.F (E.V _)⟩
 .have aT:j=L.length:=Ω
  subst aT;rw[j4]at A;obtain⟨⟨bl,aU⟩,ap⟩:=e.1;rcases aU with⟨_,bn⟩|⟨cap,cs,aV,aW,bo,aX,aY,a1⟩
  .omega
  subst aV;have a2:(ab v8 (U4 gC (.slice (σ ⟨g,0,ν⟩) M.length cap) (σ (Δ (i:Int))) ν ν) aa λa6=>
    aF v8 (Y1.clear_ #[gC] KF #[a6]) aa λu O=>
    ab v8 (U4 gC (.slice (σ ⟨g,0,ν⟩) M.length cap) ν (σ (Δ (i:Int))) ν) O λa7=>
    (λf I=>af (λr=>lm (.slice (σ ⟨g,0,ν⟩) M.length cap) r) w I/\fe I g f (L.filter gp)/\∀r,lm f r->lm (.slice (σ ⟨g,0,ν⟩) M.length cap) r) a7 O):=by
   rw[ig gC.u c4.i (oS i _ rfl) kR fh Ω Ω (o4 _),rc Ω];simp only[Y3,T9];refine OH gC.u c4.i rfl ?_ aW Ω λO aq a8=>?_
   .exact DU Φ Φ
   rw[ig gC.u c4.i jW (oT i _ rfl) fh Ω Ω (o4 _),rc Ω];simp only[Y3,T9,Nat.zero_mul,X6,Nat.sub_zero];have ba:(dU (x4.agg #[.slice ν 0 0,.pointer ν]).cells ((M.length-i)*2)).length=(M.length-i)*2:=p5 _ _;have bp:(M.flatMap e4).length=M.length*2:=iF ap;have au:(L.filter gp).length=i:=by rw[<-A,o8];omega
   have key:(λf I=>af (λr=>lm (.slice (σ ⟨g,0,ν⟩) M.length cap) r) w I/\fe I g f (L.filter gp)/\∀r,lm f r->lm (.slice (σ ⟨g,0,ν⟩) M.length cap) r) (.slice (σ ⟨g,0,ν⟩) (L.filter gp).length cap) O:=by
    refine⟨H.F (aq.Y λr _ he=>⟨_,_,_,rfl,he.symm⟩),⟨⟨⟨iF (λy _=>rfl),.inr ⟨cap,_,rfl,a8,Ω,aX,by rw[nf,aY],?_⟩⟩,λy _=>rfl⟩,λy B=>?_⟩,λr q=>?_⟩
    .rw[au,<-A,<-rG i ap,<-a1,List.take_take,nO (by rw[ba];omega),T6,List.take_append_of_le_length (by rw[o8];omega),List.take_take];congr 1;omega
    .have av:y∈M:=by rw[<-A]at B;exact T1 B
     exact(e.2 y av).V aq λr q he=>(e.2 y av).2.1 r q he
    .obtain⟨a,n,c,h1,Y⟩:=q;cases h1;exact⟨_,_,_,rfl,Y⟩
   rw[au]at key;exact key
  exact a2
theorem rT{k:j0}{g cap:Nat}{b:Option Addr}(h:aA k e w g (.slice b n cap) l)(r:0<l.length):
  b=σ ⟨g,0,ν⟩/\n=l.length/\∃cs,ag w g e cs/\n<=cap/\cap<=maxLen/\cs.length=cap/\cs.take n=ints k l:=by
 obtain⟨_,⟨_,h1⟩|⟨s,cs,h1,a,f,j,p,q⟩⟩:=h
 .omega
 .cases h1;exact⟨rfl,rfl,cs,a,f,j,by simpa using p,by simpa using q⟩
theorem ON{g cap:Nat}(h:aA .i64 ai w g (.slice (σ ⟨g,0,ν⟩) n cap) l)(p:j<l.length):aN .i64 w (.slice (σ ⟨g,j,ν⟩) (n-j) (cap-j)) (l.drop j):=by
 obtain⟨_,q,cs,a,h1,r,s,f⟩:=rT h Ω;have:=Le (o:=j) (k:=n-j) (c:=cap-j) a Ω Ω Ω;refine aN.of (n:=n-j) ?_;have e:(cs.drop j).take (n-j)=ints .i64 (l.drop j):=by
  rw[<-List.drop_take,f,ints,ints,List.map_drop]
 rw[e]at this;exact this
theorem OO{g:Nat}(h:aA .i64 ai w g sv l)(aU:l.length<=1000):
  al v8 J4 [sv] w λv I=>af (λr=>r=g) w I/\aA .i64 ai I g v (dedup l l.length):=by
 refine aB func239 ?_;rw[a1 aq.u h.ls];simp only[aS,am];refine⟨λaV=>⟨af.refl _ _,?_⟩,λaW=>?_⟩
 .rw[ur (o4 _) (λi hi X=>Ω),j4];exact h
 obtain⟨n,s⟩:∃n,l.length=n:=⟨_,rfl⟩;obtain⟨cap,rfl⟩:∃cap,sv= .slice (σ ⟨g,0,ν⟩) n cap:=by
  obtain⟨_,⟨_,h1⟩|⟨ap,cs,h1,_⟩⟩:=id h
  .omega
  .exact⟨ap,by rw[h1,s]⟩
 obtain⟨_,_,_,_,aX,au,_⟩:=rT h Ω;refine⟨λ_ t U=>∃j:Nat,t=Δ (j:Int)/\1<=j/\j<=n/\Ext w U/\∀i,i<j->0<i->l[i]? ≠l[i-1]?,λ_ t _=>n-(bX t).toNat,⟨1,rfl,Ω,Ω,Ext.refl _,λi h1 Y=>Ω⟩,?_⟩;rintro aY _ U ⟨j,rfl,a2,Z,A,J⟩;rw[a1 aq.u (h.ls.W A)];simp only[aS,am,ei];refine⟨λav aa aw _ _=>?_,λa6=>⟨A.V _,?_⟩⟩
 .have av:j<n:=Ω
  have B:=A.F aw;have ab:=h.ls.W B;obtain⟨a,K⟩:=aD (l:=l) (i:=j) Ω;obtain⟨b,L⟩:=aD (l:=l) (i:=j-1) Ω;rw[bk aq.u ai.i Ψ ab K];simp only[dx];rw[m1 Ω Ω,fM (i:=j-1) Ω aq.u ai.i Ψ ab L];simp only[bm,am,aP];refine⟨λM=>?_,λM=>?_⟩
  .subst M;rw[ig aq.u ai.i ra kR fh Ω Ω Ω,rc Ω];have ay:U7 (λx:Addr=>x.add (j*1)) (σ ⟨g,0,ν⟩)=σ ⟨g,j,ν⟩:=by simp[T9]
   rw[ay];have ac:dedup l (j+1)=l.take j:=by rw[xx Ω (by rw[K,L]),ur Ω J]
   refine⟨λN t O=>∃(q e:Nat)(f:Λ),N=Δ (q:Int)/\t=Δ (e:Int)/\1<=e/\j+e<=n/\af (λr=>r=g) w O/\aA .i64 ai O g (.slice (σ ⟨g,0,ν⟩) n cap) f/\f.length=n/\
     q=(dedup l (j+e)).length/\f.take q=dedup l (j+e)/\q<=j+e-1/\∀i,j+e-1<=i->f[i]?=l[i]?,λ_ t _=>n-(bX t).toNat,
    ⟨j,1,l,rfl,rfl,Ω,Ω,B.V _,h.W B,s,by rw[ac,o8];omega,by rw[ac],Ω,λi _=>rfl⟩,?_⟩
   rintro _ _ O ⟨q,e,f,rfl,rfl,a7,a8,P,ad,ae,ag,C,az,E⟩;rw[iV aq.u];simp only[aS,am,ei];refine⟨λah=>?_,λah=>?_⟩
   .have ah:j+e<n:=Ω
    refine aZ (λN Q=>∃(q:Nat)(f:Λ),N=Δ (q:Int)/\af (λr=>r=g) w Q/\aA .i64 ai Q g (.slice (σ ⟨g,0,ν⟩) n cap) f/\f.length=n/\
     q=(dedup l (j+(e+1))).length/\f.take q=dedup l (j+(e+1))/\q<=j+(e+1)-1/\∀i,j+(e+1)-1<=i->f[i]?=l[i]?) ?_ ?_
    .rintro _ Q ⟨q,f,rfl,h1,Y,aC,aE,aF,aG,aH⟩;simp only[aP];rw[m1 Ω Ω];exact⟨⟨q,e+1,f,rfl,rfl,Ω,Ω,h1,Y,aC,aE,aF,aG,aH⟩,by simp only[bX];omega⟩
    .intro ax aj ba R _ _;have G:=ad.W R;have S:=ON (j:=j) G Ω;obtain⟨y,H⟩:=aD (l:=l) (i:=j+e) Ω;obtain⟨z,W⟩:=aD (l:=l) (i:=j+e-1) Ω;have ak:(f.drop j)[e]?=σ y:=by rw[R3,E _ Ω,H]
     have aI:(f.drop j)[e-1]?=σ z:=by rw[R3,E _ Ω,<-W];congr 1;omega
     rw[bk aq.u ai.i Ψ S ak];simp only[dx];rw[m1 Ω Ω,fM (i:=e-1) Ω aq.u ai.i Ψ S aI];simp only[bL,am,aP];refine⟨λp=>?_,λp=>?_⟩
     .rw[bk aq.u ai.i Ψ S ak,iY rfl aq.u ai.i G Ω];refine iZ ai.i G Ω λbb aJ bc aK=>?_;rw[m1 Ω Ω];have an:=xy H (λ_=>by rw[H,W];simpa using p);refine aj _ _ ⟨q+1,_,rfl,(P.F (R.V _)).F aJ,aK,by simpa using ae,?_,?_,Ω,λi hi=>?_⟩
      .rw[<-Q3,an];simp;omega
      .rw[<-Q3,an,r9,n9 Ω,List.take_set_of_le (o4 _),C];rfl
      .rw[Z6 Ω];exact E i Ω
     .have p:=X5.1 p;have ao:dedup l (j+e+1)=dedup l (j+e):=xx Ω (by rw[H,W,p]);exact aj _ _ ⟨q,f,rfl,P.F (R.V _),G,ae,by rw[<-Q3,ao];exact ag,by rw[<-Q3,ao];exact C,Ω,λi hi=>E i Ω⟩
   .have hk:j+e=n:=Ω
    rw[hk]at ag C az;obtain⟨_,_,cs,aL,_,_,bd,aM⟩:=rT ad Ω;simp only[maxLen]at au;rw[ig aq.u ai.i ra kR fh Ω Ω Ω,rc Ω];have aN:U7 (λx:Addr=>x.add (q*1)) (σ ⟨g,0,ν⟩)=σ ⟨g,q,ν⟩:=by simp[T9]
    rw[aN];refine Bx aq.u ai.i rfl rfl aL Ω Ω λbe aO bf aQ=>?_;rw[ig aq.u ai.i jW oU fh Ω Ω Ω,rc Ω];have aR:U7 (λx:Addr=>x.add (0*1)) (σ ⟨g,0,ν⟩)=σ ⟨g,0,ν⟩:=by simp[T9]
    rw[aR,s];refine⟨P.F aO,?_⟩;rw[<-C];refine aA.of (n:=q) ⟨Θ,.inr ⟨cap,_,Ξ,aQ,Ω,by simp only[maxLen];omega,by rw[nf];omega,?_⟩⟩;rw[T0];apply X0;intro i;by_cases hi:i<q
    .rw[Y6 hi,oV _ _ _ Θ,rc Ω,ints,u4,Y6 hi];have:(cs.take n)[i]?=(ints .i64 f)[i]?:=by rw[aM]
     rw[Y6 Ω,ints,u4]at this;exact this
    .rw[Y5 Θ,Y5 Θ]
  .rw[m1 Ω Ω];refine⟨⟨j+1,rfl,Ω,Ω,B,λi hi X=>?_⟩,by simp only[bX];omega⟩;by_cases aT:i=j
   .subst aT;rw[K,L];intro he;exact M (Z4 he)
   .exact J i Ω X
 .have Z:j=n:=Ω
  rw[ur (o4 _) (by rw[s,<-Z];exact J),j4];exact h.W A
theorem OP(z:n<=1000000):al v8 Kp [.slice ν 0 0,Δ (n:Int)] w λv I=>Ext w I/\∃g,w.heap.size<=g/\aA .i64 ai I g v []:=by
 refine aB func273 ?_;refine c7 (λU=>w=U) ?_ ?_
 .rintro _ rfl;refine aZ (λv I=>Ext w I/\∃g,w.heap.size<=g/\aA .i64 ai I g v []) (λ_ _ h=>h) λax a=>?_;rw[Bw aq.u,iV aq.u];simp only[dx];have e:W5.wrap (((0:Nat):Int)-((0:Nat):Int))=0:=Φ
  have f:W5.wrap ((n:Int)-0)=n:=by rw[m1 Ω Ω];omega
  rw[e,f];simp only[bU,am];refine⟨λh=>?_,λh=>a _ _ ⟨Ext.refl _,w.heap.size,o4 _,aA.nil _ _ _ _⟩⟩;rw[Bw aq.u,ig aq.u ai.i jW oU fh Ω Ω Ω,ms rfl];refine Ld (xs:=[]) rfl aq.u ai.u ai.i rfl ⟨rfl,0,0,ν,0,rfl,o4 _,W0 _,λh=>ro h (Nat.lt_irrefl _),λj v h=>by simp at h⟩ Ω Ω Ω Ω λv g I A p hm=>?_;obtain⟨_,⟨_,B⟩|⟨cap,cs,rfl,q,h1,r,s,C⟩⟩:=hm
  .omega
  rw[iV aq.u,ig aq.u ai.i jW oU fh Ω Ω Ω,rc Ω];have y:U7 (λx:Addr=>x.add (0*1)) (σ ⟨g,0,ν⟩)=σ ⟨g,0,ν⟩:=by simp[T9]
  rw[y];refine a _ _ ⟨p,g,Ω,aA.of (n:=0) ⟨Ξ,.inr ⟨cap,cs,Ξ,q,Ω,r,s,Ξ⟩⟩⟩
 .intro ax a;simp only[aS,am];exact⟨λh=>Ω,λ_=>a _ rfl⟩
theorem OQ{a b:Λ}(E:aN .i64 w bh a)(G:aN .i64 w bv b)(S:a.length<=1000)(V:b.length<=1000)(W:∀v I g,Ext w I->w.heap.size<=g->aA .i64 ai I g v (a++b)->K v I):
  aF v8 (X2 ci 2 #[(0,bh),(1,bv)]) w λt U=>al v8 J5 [t] U K:=by
 obtain⟨⟨H,J,L,X⟩,⟨M,N,O,Y⟩⟩:(∃x n c,bh= .slice x n c)/\(∃x n c,bv= .slice x n c):=by
  obtain⟨_,_,_,x,c,h1,_⟩:=id E;obtain⟨_,_,_,y,d,Z,_⟩:=id G;exact⟨⟨x,_,c,h1⟩,⟨y,_,d,Z⟩⟩
 subst X;subst Y;refine kS ci.u aq.i Ω (cs:=#[.slice H J L,.slice M N O]) Ψ λg U aw q s=>?_;have s:=s;have key:∀i:Nat,i<2->∃v l,[x4.slice H J L,.slice M N O][i]?=σ v/\[a,b][i]?=σ l/\aN .i64 w v l/\l.length<=1000:=λi hi=>by
  match i,hi with
  |0,_=>exact⟨_,_,rfl,rfl,E,S⟩
  |1,_=>exact⟨_,_,rfl,rfl,G,V⟩
 refine aB func240 ?_;rw[iV ci.u];refine ch.range 2 (λi size aa=>Ext U aa/\∃n:Nat,n<=1000*i/\size=Δ (n:Int)) Ω ⟨Ext.refl _,0,Ω,rfl⟩ ?_ ?_
 .rintro i _ aa ab hi ⟨f,n,ac,rfl⟩ ad;simp only[aS,am];refine⟨λ_=>?_,λh=>Ω⟩;obtain⟨v,l,B,P,C,ae⟩:=key i hi;refine aZ (λv Q=>aa=Q/\v=Δ ((n+l.length:Nat):Int)) ?_ ?_
  .rintro _ _ ⟨rfl,rfl⟩;simp only[aP];exact ad _ _ ⟨f,_,Ω,rfl⟩
  .intro ax af;rw[eS ci.u aq.i hi (λ_=>rfl),aE Ψ ((s.W f).cell (by rw[<-B];congr 1;omega)),a1 aq.u (C.W (q.F f))];simp only[aP,aS,am];rw[m1 Ω Ω];exact⟨λh=>Ω,λ_=>af _ _ ⟨rfl,by congr 1⟩⟩
 .rintro _ aa ab ⟨f,n,ac,rfl⟩;simp only[aS,am];refine⟨λh=>Ω,λ_=>?_⟩;refine(OP Ω).Y ?_;rintro v0 Q _ ⟨R,ag,ay,ah⟩;have s1:=q.size;have az:=f.size;have aC:=R.size;have aj:=f.F R;rw[iV ci.u];refine ch.range 2 (λi v z=>Ext U z/\∃p,U.heap.size<=p/\aA .i64 ai z p v (([a,b].take i).flatten)/\(([a,b].take i).flatten).length<=1000*i) Ω ⟨aj,ag,Ω,ah,Ξ⟩ ?_ ?_
  .rintro i v4 z ak hi ⟨j,p,an,A,aD⟩ ao;simp only[aS,am];refine⟨λ_=>?_,λh=>Ω⟩;obtain⟨v,l,B,P,C,ae⟩:=key i hi;rw[eS ci.u aq.i hi (λ_=>rfl),aE Ψ ((s.W j).cell (by rw[<-B];congr 1;omega))];refine kp aq.u ai.i rfl A (C.W (q.F j)) Ω Ω λaG ap aH aI au av=>?_;simp only[aP];have aJ:=j.size;have e:([a,b].take (i+1)).flatten=([a,b].take i).flatten++l:=by rw[r9,P];simp
   refine ao _ _ ⟨j.then av (by rintro r aK rfl;omega),ap,Ω,by rw[e];exact au,by rw[e,o9];omega⟩
  .rintro v4 z ak ⟨j,p,an,A,_⟩;simp only[aS,am];refine⟨λh=>Ω,λ_=>W _ _ p (q.F j) Ω ?_⟩;have e:([a,b].take 2).flatten=a++b:=Ξ
   rw[e]at A;exact A
def qx(s1 a f e d6:Λ):Prop:=∀p∈d6,p∈a->p∈e->jb s1 (iI a p)=jb f (iI e p)
def dH(s1 a e f d6:Λ):Λ:=d6.map λp=>max (jb s1 (iI a p)) (jb e (iI f p))
theorem DV(s1 a e f d6:Λ):(dH s1 a e f d6).length=d6.length:=by simp[dH]
theorem uw{x:Int}:0<=iI l x↔x∈l:=by
 unfold iI;by_cases h:x∈l
 .rw[ms h];exact⟨λ_=>h,λ_=>Ω⟩
 .rw[rc h];exact⟨λh=>Ω,λa=>ro a h⟩
theorem OR{g ay X az:Nat}{E Y:x4}{s1 f d6 a e:Λ}{aC:Int}{aE aF:Λ}(h1:dh w g ay sv s1 k aE)(Z:dh w X az E f aC aF)(q:aN .i64 w Y d6)(aG:aN .i64 w bh a)(G:aN .i64 w bv e)(aH:ii a)(aI:ii e)(bd:d6.length<=1000):
  al v8 J6 [Y,Γ g,bh,Γ X,bv] w λv I=>Ext w I/\
   (¬qx s1 a f e d6->v= .tuple #[.slice ν 0 0,.bool v6])/\
   (qx s1 a f e d6->∃x ao,v= .tuple #[x,.bool v2]/\w.heap.size<=ao/\aA .i64 ai I ao x (dH s1 a f e d6)):=by
 have sub:∀{w:x5}{g:Nat}{sv:x4}{k:Int}{ba:x4},ag w g c5 [sv,Δ k,ba]->w.rangeAt g (0+0) [sv]:=λG=>o1 G (by
  intro j v q
  match j,q with
  |0,q=>exact q)
 refine aB func241 ?_;rw[a1 aq.u q];refine kq aq.u ai.i Ω Ω λgz U be ab aJ=>?_;have aK:=aA.of (n:=d6.length) (b0.full aJ Ξ (by simp[maxLen];omega));generalize (x4.slice (σ ⟨gz,0,ν⟩) d6.length d6.length)=aL at*;rw[a1 aq.u (q.W ab)];have H:=DV s1 a f e d6;refine lu.range d6.length (λi _ _ aa=>Ext w aa/\aA .i64 ai aa gz aL (upto (dH s1 a f e d6) 0 i)/\∀(j:Nat)(p:Int),j<i->d6[j]?=σ p->p∈a->p∈e->jb s1 (iI a p)=jb f (iI e p)) Ω
  ⟨ab,by rw[qe,H];exact aK,λj p A=>Ω⟩ ?_ ?_
 .rintro i _ _ aa aM hi ⟨s,hm,J⟩ aO;simp only[aS,am];refine⟨λ_=>?_,λh=>Ω⟩;obtain⟨p,ac⟩:=aD (l:=d6) hi;rw[bk aq.u ai.i Ψ (q.W s) ac];refine(xz (aG.W s) aH).Y ?_;rintro _ bf _ ⟨rfl,K⟩;refine(xz (G.W (s.F K)) aI).Y ?_;rintro _ aQ _ ⟨rfl,ad⟩;have ae:=(s.F K).F ad;refine aZ (λv af=>Ext aQ af/\∃c,v= .bool c/\(c=v2↔p∈a/\p∈e/\jb s1 (iI a p)≠jb f (iI e p))) ?_ ?_
  .rintro _ af ⟨ah,c,rfl,aj⟩;have ak:=ae.F ah;rw[b4];refine⟨λaR=>⟨ak,λ_=>by first|rfl|trivial,λA=>?_⟩,λaT=>?_⟩
   .obtain⟨y,z,aV⟩:=aj.1 aR;exact ro (A p (x7 ac) y z) aV
   .simp only[ei];intro bg an _ _;have L:=ak.F an;obtain⟨⟨ba,gs,M,N,_⟩,_⟩:=h1.W L;obtain⟨⟨aW,aX,O,P,_⟩,_⟩:=Z.W L;rw[bY,aU c5.p rfl,bC (cs:=[sv]) bH.p bH.i rfl (sub M),bY,aU c5.p rfl,bC (cs:=[E]) bH.p bH.i rfl (sub O)];refine(rz N.ls).Y ?_;rintro _ bi _ ⟨rfl,B⟩;refine⟨.inl B,?_⟩;refine(rz (P.ls.W B)).Y ?_;rintro _ bj _ ⟨rfl,ap⟩;have aY:=(L.F B).F ap;have au:=hm.W ((((K.F ad).F ah).F an).F (B.F ap));have bl:(upto (dH s1 a f e d6) 0 i).length=d6.length:=by rw[pc,H]
    rw[tm,iY rfl aq.u ai.i au Ω];refine iZ ai.i au Ω λbm a2 _ av=>?_;simp only[aP];have a6:(dH s1 a f e d6)[i]?=σ (max (jb s1 (iI a p)) (jb f (iI e p))):=by
     unfold dH;rw[u4,ac];rfl
    rw[qg a6]at av;refine aO _ _ _ ⟨aY.then a2 (by rintro r bn rfl;omega),av,λj a7 A Q y z=>?_⟩;by_cases a8:j=i
    .subst a8;rw[ac]at Q;cases Q;refine Decidable.byContradiction λbb=>?_;have:=aj.2 ⟨y,z,bb⟩;rw[aT]at this;cases this
    .exact J j a7 Ω Q y z
  .intro ax R;simp only[ei,cP,am];intro bo C _ _;refine⟨λS=>⟨λV=>?_,λV=>⟨.inl (Ext.refl _),R _ _ ⟨C,v6,rfl,⟨(λh=>by cases h),λh=>ro (uw.2 h.2.1) V⟩⟩⟩⟩,λS=>⟨.inl (Ext.refl _),R _ _ ⟨C,v6,rfl,⟨(λh=>by cases h),λh=>ro (uw.2 h.1) S⟩⟩⟩⟩;have aw:=ae.F C;obtain⟨⟨ba,gs,M,N,_⟩,_⟩:=h1.W aw;obtain⟨⟨aW,aX,O,P,_⟩,_⟩:=Z.W aw;rw[bY,aU c5.p rfl,bC (cs:=[sv]) bH.p bH.i rfl (sub M),bY,aU c5.p rfl,bC (cs:=[E]) bH.p bH.i rfl (sub O)];refine(rz N.ls).Y ?_;rintro _ bp _ ⟨rfl,W⟩;refine⟨.inl W,?_⟩;refine(rz (P.ls.W W)).Y ?_;rintro _ bq _ ⟨rfl,bc⟩;simp only[bL];refine R _ _ ⟨(C.F W).F bc,_,rfl,?_⟩;rw[decide_eq_true_iff];exact⟨λh=>⟨uw.1 S,uw.1 V,h⟩,λh=>h.2.2⟩
 .rintro _ _ aa aM ⟨s,hm,J⟩;simp only[aS,am];refine⟨λh=>Ω,λ_=>?_⟩;have A:qx s1 a f e d6:=λp ac y z=>by
   obtain⟨i,hi,he⟩:=List.getElem_of_mem ac;exact J i p hi (by rw[x8 hi,he]) y z
  rw[<-H,qf]at hm;exact⟨s,λh=>ro A h,λ_=>⟨_,gz,rfl,Ω,hm⟩⟩
def xD(a e d6:Λ):Prop:=ii d6/\∀x,x∈d6↔x∈a\/x∈e
def pn(s1 h a e j f d6:Λ)(k:Int):Λ:=
 (X9 (aQ (dH s1 a e f d6)).toNat).map λ(q:Nat)=>min (br s1 h (gn (dn (dH s1 a e f d6) q) d6 a)+br e j (gn (dn (dH s1 a e f d6) q) d6 f)) k
theorem DW(s1 h a e j f d6:Λ)(k:Int):(pn s1 h a e j f d6 k).length=(aQ (dH s1 a e f d6)).toNat:=by simp[pn]
theorem ux{s cs:Λ}(hk:right k)(h:∀x∈cs,cG x k):cG (br s cs t) k:=by
 have a:cG 0 k:=⟨hk,S0 _,by have:=hk.1;omega⟩;unfold br;split
 .rename_i n _;rw[u5];cases e:cs[n.toNat]? with
  |none=>exact a
  |some x=>exact h x (x7 e)
 .exact a
def Fits(s l:Λ):Prop:=l.length=s.length/\rR l
def rU(e:Int):x4:=.tuple #[.pointer ν,.slice ν 0 0,Δ e]
def DX(w:x5)(s1 q a f r e:Λ)(k h:Int)(v:x4)(I:x5):Prop:=
 Ext w I/\(¬(Fits s1 a/\Fits f e)->v=rU 1)/\
  (Fits s1 a/\Fits f e->∃d6,xD a e d6/\(¬qx s1 a f e d6->v=rU 1)/\(qx s1 a f e d6->(k≠h->v=rU 3)/\
   (k=h->¬cg (dH s1 a f e d6)->v=rU 1)/\(k=h->cg (dH s1 a f e d6)->4096<aQ (dH s1 a f e d6)->v=rU 5)/\
   (k=h->cg (dH s1 a f e d6)->aQ (dH s1 a f e d6)<=4096->∃j s x p,v= .tuple #[Γ j,p,Δ 0]/\
    dh I j s x (dH s1 a f e d6) k (pn s1 q a f r e d6 k)/\aN .i64 I p d6)))
theorem OS{g bJ ga bK:Nat}{bN:x4}{s1 z f y:Λ}{be:Int}{H K:Λ}(h1:dh w g bJ sv s1 k H)(ap:dh w ga bK bN z be K)(ay:aN .i64 w bh f)(Q:aN .i64 w bv y)(hk:right k)(cr:∀x∈H,cG x k)(ct:∀x∈K,cG x be):
  al v8 Ju [Γ g,bh,Γ ga,bv] w (DX w s1 H f z K y k be):=by
 have cu:=ay.cells;have cw:=Q.cells;have cz:=h1.2.2.1;have cA:=ap.2.2.1;have sub:∀{w:x5}{g:Nat}{sv:x4}{k:Int}{ba:x4},ag w g c5 [sv,Δ k,ba]->w.rangeAt g (0+0) [sv]:=λQ=>o1 Q (by
  intro j v bf
  match j,bf with
  |0,bf=>exact bf)
 refine jr func187 ?_;refine bp λg1 U dF bO G=>?_;refine bp λbP aa dG bg L=>?_;refine bp λbR dI dJ aO M=>?_;refine bp λbS Y dK az O=>?_;have dL:=G.lt;have dM:=L.lt;have dN:=M.lt;have dO:=O.lt;have dP:=bO.size;have dQ:=bg.size;have dR:=aO.size;have dS:=az.size;have Z:=((bO.F bg).F aO).F az;have G:ag Y g1 fa [Γ g]:=((G.W bg).W aO).W az;have L:ag Y bP aq [bh]:=by rw[cu.1]at L;exact(L.W aO).W az
 have M:ag Y bR fa [Γ ga]:=M.W az;have O:ag Y bS aq [bv]:=by rw[cw.1]at O;exact O
 refine aZ (λv bT=>v= .bool v6/\Y=bT) ?_ ?_
 rotate_left
 .intro ax aP;rw[aE Ψ (G.Qz rfl),dg fa.u];simp only[Y2,a6];rw[aE Ψ (M.cell rfl),dg fa.u];exact aP _ _ ⟨rfl,rfl⟩
 rintro _ _ ⟨rfl,rfl⟩;simp only[a6];refine aZ (λv bU=>Ext Y bU/\∃c,v= .bool c/\(c=v2↔¬(Fits s1 f/\Fits z y))) ?_ ?_
 rotate_left
 .intro ax aP;rw[aE Ψ (G.cell rfl),aE Ψ (L.cell rfl)];refine(DM (h1.W Z) (ay.W Z)).Y ?_;rintro _ bT _ ⟨ab,c,rfl,aB⟩;simp only[bM,b4];refine⟨λaR=>aP _ _ ⟨ab,v2,rfl,λ_ h=>?_,λ_=>rfl⟩,λbV=>?_⟩
  .have:=aB.2 h.1;rw[this]at aR;cases aR
  .have cB:c=v2:=by cases c<;>simp_all
   rw[aE Ψ ((M.W ab).cell rfl),aE Ψ ((O.W ab).cell rfl)];refine(DM ((ap.W Z).W ab) ((Q.W Z).W ab)).Y ?_;rintro _ dT _ ⟨cC,d,rfl,bW⟩;simp only[bM];refine aP _ _ ⟨ab.F cC,_,rfl,λh au=>?_,λh=>?_⟩
   .have:=bW.2 au.2;rw[this]at h;cases h
   .cases d with
    |false=>rfl
    |true=>exact ro ⟨aB.1 cB,bW.1 rfl⟩ h
 rintro _ bU ⟨aC,c,rfl,aB⟩;have bi:=Z.F aC;rw[b4];refine⟨λaR dU cD _=>⟨bi.F cD,λ_=>rfl,λh=>ro h (aB.1 aR)⟩,λbV=>?_⟩;have aD:=Classical.byContradiction λh=>by
  have:=aB.2 h;rw[bV]at this;cases this
 obtain⟨⟨dV,cE⟩,dW,cF⟩:=id aD;have dX:=cz.1;have dY:=cA.1;rw[aE Ψ ((L.W aC).cell rfl),aE Ψ ((O.W aC).cell rfl)];refine OQ (ay.W bi) (Q.W bi) Ω Ω λdZ ea eb bX ec cH=>?_;refine xw cH.ls (by rw[o9];omega) λed ee ef m bZ eg b0 cI cJ=>?_;have cK:=b0.length_eq;rw[o9]at cK;refine(OO cJ Ω).Y ?_;rintro bj eh _ ⟨cL,bk⟩;have ei:=aC.size;have ej:=bX.size;have ek:=bZ.size;have b1:=(bX.F bZ).then cL (by rintro r aS rfl;omega);obtain⟨cM,cN⟩:=DL cI (o4 _);have em:=DK m m.length;have P:xD f y (dedup m m.length):=⟨cM,λx=>by rw[cN,j4,b0.mem_iff,j9]⟩;generalize dedup m m.length=d6 at*;refine bF aq.i λbc en eo b2 cO=>?_;refine bt aq.i bk.ls.cells.1 bk.ls.cells.2 cO (by simp[x4.cells]) λep cP er aF=>?_;have es:=b1.size;have et:=b2.size;have bl:=b2.then cP (by rintro r aS rfl;omega);have ad:=(aC.F b1).F bl;have aG:=Z.F ad;have ds:=aF.lt;have b3:=bk.ls.W bl;have aF:=aF;rw[aE Ψ (aF.cell rfl),aE Ψ ((G.W ad).cell rfl),aE Ψ ((L.W ad).cell rfl),aE Ψ ((M.W ad).cell rfl),aE Ψ ((O.W ad).cell rfl)];refine(OR (h1.W aG) (ap.W aG) b3 (ay.W aG) (Q.W aG) cE.up cF.up Ω).Y ?_;rintro eu ev _ ⟨aH,cQ,cR⟩;have b5:=aG.F aH;by_cases ae:qx s1 f z y d6
 rotate_left
 .rw[cQ ae,bx,bz];simp only[bM,W6,bQ];intro ew cS _;exact⟨b5.F cS,λh=>ro aD h,λ_=>⟨d6,P,λ_=>rfl,λh=>ro h ae⟩⟩
 obtain⟨xs,ao,rfl,ey,cT⟩:=cR ae;rw[bx,bz];simp only[bM,X3,a6];intro ah aj _ _;have aV:=(ad.F aH).F aj;have ak:=b5.F aj;have G:=G.W aV;have L:=L.W aV;have M:=M.W aV;have O:=O.W aV;have cU:=(aF.W aH).W aj;obtain⟨⟨ba,gs,b6,ez,_⟩,_⟩:=h1.W ak;obtain⟨⟨eA,eB,cV,eC,_⟩,_⟩:=ap.W ak;rw[aE Ψ (G.cell rfl),aK c5.p 1 b6 rfl,aE Ψ (M.cell rfl),aK c5.p 1 cV rfl];simp only[bL,am];refine⟨λR eD cW _=>⟨ak.F cW,λh=>ro aD h,λ_=>⟨d6,P,λh=>ro ae h,λ_=>⟨λ_=>rfl,λh=>ro h R,λh=>ro h R,λh=>ro h R⟩⟩⟩,λR=>?_⟩;have R:=X5.1 R;subst R;rw[aE Ψ (G.cell rfl),aK c5.p 1 b6 rfl];have cX:=cT.W aj;refine(wI cX.ls).Y ?_;rintro aT aW _ ⟨b7,cY,cZ,_,c0⟩;have eE:=bl.size;have eF:=aH.size;have eH:=aj.size;have eI:=b7.size;obtain⟨aI,e,rfl,eJ,aX⟩:∃(aI:Option Addr)(e:Int),aT= .tuple #[.pointer aI,Δ e]/\(e=0->aI≠ν)/\((e=1/\¬cg (dH s1 f z y d6))\/(e=5/\cg (dH s1 f z y d6)/\4096<aQ (dH s1 f z y d6))\/(e=0/\cg (dH s1 f z y d6)/\aQ (dH s1 f z y d6)<=4096/\
   ∃B A C,aI=σ ⟨B,0,ν⟩/\ah.heap.size<=B/\ah.heap.size<=A/\(∀r,lw C r->ah.heap.size<=r)/\dh aW B A C (dH s1 f z y d6) k (o6 (aQ (dH s1 f z y d6)).toNat 0))):=by
  by_cases J:cg (dH s1 f z y d6)
  .by_cases ac:aQ (dH s1 f z y d6)<=4096
   .obtain⟨B,A,C,c1,c2,c3,c4,c6⟩:=c0 J ac ⟨hk,Ω,by have:=hk.1;omega⟩;exact⟨_,_,c1,(λ_ h=>by cases h),.inr (.inr ⟨rfl,J,ac,B,A,C,rfl,c2,c3,c4,c6⟩)⟩
   .exact⟨_,_,cZ J Ω,(λh=>Ω),.inr (.inl ⟨rfl,J,Ω⟩)⟩
  .exact⟨_,_,cY J,(λh=>Ω),.inl ⟨rfl,J⟩⟩
 rw[bx,bz];refine bF fa.i λb8 eK eL b9 aJ=>?_;refine bt fa.i rfl rfl aJ (by simp[x4.cells]) λeM c7 eN aJ=>?_;have eO:=b9.size;have bm:=b9.then c7 (by rintro r aS rfl;omega);have ca:=b7.F bm;have c8:=ak.F ca;have eP:=aJ.lt;simp only[bL,am];refine⟨λc9 eQ da _=>⟨c8.F da,λh=>ro aD h,λ_=>⟨d6,P,λh=>ro ae h,λ_=>⟨λh=>ro rfl h,λ_ J=>?_,λ_ J ac=>?_,λ_ J ac=>?_⟩⟩⟩,λeR=>?_⟩
 .rcases aX with⟨rfl,_⟩|⟨_,h,_⟩|⟨_,h,_⟩
  .rfl
  .exact ro h J
  .exact ro h J
 .rcases aX with⟨_,h⟩|⟨rfl,_⟩|⟨_,_,h,_⟩
  .exact ro J h
  .rfl
  .omega
 .rcases aX with⟨_,h⟩|⟨_,_,h⟩|⟨h,_⟩
  .exact ro J h
  .omega
  .exact ro h c9
 obtain⟨aY,db,B,A,C,rfl,eS,eU,eV,a1⟩:cg (dH s1 f z y d6)/\aQ (dH s1 f z y d6)<=4096/\
   ∃B A C,aI=σ ⟨B,0,ν⟩/\ah.heap.size<=B/\ah.heap.size<=A/\(∀r,lw C r->ah.heap.size<=r)/\dh aW B A C (dH s1 f z y d6) k (o6 (aQ (dH s1 f z y d6)).toNat 0):=by
  rcases aX with⟨h,_⟩|⟨h,_⟩|⟨_,h⟩
  .omega
  .omega
  .exact h
 obtain rfl:e=0:=Ω
 have dc:(dH s1 f z y d6).length=d6.length:=DV _ _ _ _ _;have eW:=prod_bound aY;obtain⟨N,a2⟩:∃N:Nat,(aQ (dH s1 f z y d6)).toNat=N:=⟨_,rfl⟩;rw[a2]at a1;have eX:0<N:=Ω
 have dd:=a1.W bm;obtain⟨⟨bn,cb,cc,cd,de⟩,⟨ce,cf,_⟩,_,eY⟩:=id dd;have eZ:B<aW.heap.size:=by obtain⟨⟨_,_,q,_⟩,_⟩:=id a1;exact q.lt
 have e0:A<aW.heap.size:=by obtain⟨⟨_,_,_,_,q⟩,_⟩:=id a1;exact uk q Θ
 rw[aE Ψ (aJ.cell rfl),bY,aU c5.p rfl,bC (cs:=[C]) bH.p bH.i rfl (sub cc)];refine w9.Y ?_;rintro _ a7 _ ⟨W,a8,rfl,e1,ch⟩;have e2:=bm.size;have e3:=W.size;let S:Nat->Prop:=λr=>r=A;let an:=pn s1 H f z K y d6 k;have bo:an.length=N:=by simp only[an];rw[DW,a2]
 have df:=(b3.W aH).W aj;let di:x5->Prop:=λI=>ag I g1 fa [Γ g]/\ag I bP aq [bh]/\ag I bR fa [Γ ga]/\ag I bS aq [bv]/\ag I bc aq [bj]/\aN .i64 I bj d6/\
  ag I b8 fa [Γ B]/\ag I B c5 [C,Δ k,bn]/\dh I g bJ sv s1 k H/\dh I ga bK bN z k K/\aN .i64 I bh f/\aN .i64 I bv y/\aA .i64 ai I cb C (dH s1 f z y d6)/\ag I a8 bH [C]/\a7.heap.size<=I.heap.size
 have ci:=ca.F W;have aL:∀{a:x5},af S a7 a->di a:=by
  intro a E;have X:=ci.put E Ω;have bb:=ak.F X;exact⟨G.W X,L.W X,M.W X,O.W X,cU.W X,df.W X,(aJ.W W).V E (by show¬(b8=A);omega),(cc.W W).V E (by show¬(B=A);exact ce),h1.W bb,ap.W bb,ay.W bb,Q.W bb,
   bA (cd.W W) E (λr aS he=>cf ((show r=A from he)▸aS)),ch.V E (by show¬(a8=A);omega),E.size⟩
 have cj:=w8 (g:=a8) (B0:=a7.heap.size) (sv:=C) aY;rw[a2]at cj;refine pU.old ⟨Nat,v6,m4,#[Γ a8],0,_,_,_,λq I=>af S a7 I/\aA .i64 av I A bn (upto an 0 q),λ_ _ _=>False,rfl,cj.s,
  ?_,λ_ _ E h=>⟨h.1.W E,h.2.1.W E,X1 h.2.2 E.size⟩,λ_ _ _ E h=>⟨h.1.F (E.V S),h.2.W E⟩,λ_ _ _ _ _ h=>h,⟨ch,(cd.W W).ls,o4 _⟩,⟨af.refl _ _,?_⟩,?_,?_,λ_ _ h=>h.elim,λ_ _ _ h=>h.elim⟩
 .rintro _ _ _ _ ⟨_,_,_,_,rfl,_⟩;rfl
 .rw[qe,bo];exact de.W W
 .rintro _ aT q _ e4 ⟨_,_,e5⟩ ⟨bq,rfl,e6,gt,dj,e7,ck⟩ ⟨bd,dk⟩;cases dj;let x:=dn (dH s1 f z y d6) (q:Int);have cl:x.length=d6.length:=by simp only[x];rw[kr,dc]
  intro e8 dl _ _;intro e9 dm _ _;have bs:=dl.F dm;obtain⟨f1,f2,f3,f4,f5,f6,f7,f8,f9,f10,f11,f12,f13,f14,f15⟩:=aL (bd.F (bs.V S));rw[aE Ψ (f1.cell rfl),aE Ψ (f5.cell rfl),aE Ψ (f2.cell rfl)];refine(DO (ck.ls.W bs) f6 f11 P.1 (λp ac=>(P.2 p).2 (.inl ac)) cl Ω).Y ?_;rintro fb fc _ ⟨bu,fd,fe,dp⟩;refine⟨.inl bu,?_⟩;refine(wJ (f9.W bu) dp.ls).Y ?_;rintro _ ff _ ⟨rfl,dq⟩;obtain⟨fg,dr⟩:=xv s1 (gn x d6 f) H;have dt:=dr;rw[dt,bx,bz];intro fh du _ _;have bw:=((bs.F bu).F dq).F du;obtain⟨f1,f2,f3,f4,f5,f6,f7,f8,f9,f10,f11,f12,f13,f14,f15⟩:=aL (bd.F (bw.V S));rw[aE Ψ (f3.cell rfl),aE Ψ (f5.cell rfl),aE Ψ (f4.cell rfl)];refine(DO (ck.ls.W bw) f6 f12 P.1 (λp ac=>(P.2 p).2 (.inr ac)) cl Ω).Y ?_;rintro fi fj _ ⟨bB,fk,fm,dv⟩;refine⟨.inl bB,?_⟩;refine(wJ (f10.W bB) dv.ls).Y ?_;rintro _ fo _ ⟨rfl,dw⟩;obtain⟨fp,dx⟩:=xv z (gn x d6 y) K;have dy:=dx;rw[dy,bx,bz];intro fq dz _ _;have bD:=((bw.F bB).F dw).F dz;obtain⟨f1,f2,f3,f4,f5,f6,f7,f8,f9,f10,f11,f12,f13,f14,f15⟩:=aL (bd.F (bD.V S));rw[aE Ψ (f7.cell rfl),aK c5.p 2 f8 rfl,aE Ψ (f7.cell rfl),aK c5.p 1 f8 rfl];refine Cy.Y ?_;rintro _ fs _ ⟨rfl,bE⟩;refine⟨.inl bE,?_⟩;have dA:ry (br s1 H (gn x d6 f)) (br z K (gn x d6 y)) k= .tuple #[Δ (min (br s1 H (gn x d6 f)+br z K (gn x d6 y)) k),Δ 0]:=ms ⟨ux hk cr,ux hk ct⟩;rw[dA,jV (v:=Δ (min (br s1 H (gn x d6 f)+br z K (gn x d6 y)) k)) rfl,jV (v:=Δ 0) rfl];have cm:=dk.W (bD.F bE);have ft:(upto an 0 q).length=N:=by rw[pc,bo]
  rw[iY rfl aw.u av.i cm Ω];refine iZ av.i cm Ω λfu dC fv cn=>?_;have cp:=(bd.F ((bD.F bE).V S)).F (dC.Y λr _ h=>h);obtain⟨f1,f2,f3,f4,f5,f6,f7,f8,f9,f10,f11,f12,f13,f14,f15⟩:=aL cp;have dD:an[q]?=σ (min (br s1 H (gn x d6 f)+br z K (gn x d6 y)) k):=by
   simp only[an,pn];rw[u4,List.getElem?_range (by rw[a2];exact bq)];rfl
  rw[qg dD]at cn;exact⟨⟨f14,f13.ls,f15⟩,⟨cp,cn⟩,λh=>by cases h⟩
 .rintro q fw bq ⟨cq,bG⟩;rw[show q=N from bq]at bG;intro fx bI _ _;obtain⟨f1,f2,f3,f4,f5,f6,f7,f8,f9,f10,f11,f12,f13,f14,f15⟩:=aL (cq.F (bI.V S));rw[aE Ψ (f7.cell rfl),aE Ψ (f5.cell rfl)];intro fy aM _;rw[<-bo,qf]at bG;have dE:=ak.F ci;refine⟨((dE.put cq Ω).F bI).F aM,λh=>ro aD h,λ_=>⟨d6,P,λh=>ro ae h,λ_=>⟨λh=>ro rfl h,λ_ h=>ro aY h,λ_ _ h=>Ω,λ_ _ _=>⟨B,A,C,bj,rfl,⟨⟨bn,cb,f8.W aM,f13.W aM,(bG.W bI).W aM⟩,⟨ce,cf,db⟩,aY,DW _ _ _ _ _ _ _ _⟩,f6.W aM⟩⟩⟩⟩
theorem ii.pair(h:ii l):l.Pairwise (·< ·):=U5.2 λi j hi a e=>h i j _ _ e (x8 hi) (x8 a)
theorem OT{m:Λ}(e:ii l)(hm:ii m)(h:∀x,x∈l↔x∈m):l=m:=by
 have f:l.Nodup:=e.pair.imp λh=>Ω
 have j:m.Nodup:=hm.pair.imp λh=>Ω
 exact List.Perm.eq_of_pairwise (le:=(·<= ·)) (λa b _ _ h1 p=>Int.le_antisymm h1 p) (e.pair.imp λh=>Int.le_of_lt h) (hm.pair.imp λh=>Int.le_of_lt h) ((List.perm_ext_iff_of_nodup f j).2 h)
theorem OU{d6:Λ}(h:xD l l d6)(hu:ii l):d6=l:=OT h.1 hu λx=>by rw[h.2];simp
theorem DY(h:l.Pairwise (·< ·)):ii l:=λi j x y e f p=>by
 have h1:=x6.1 f;have a:=x6.1 p;have:=U5.1 h i j h1.1 a.1 e;rw[h1.2,a.2]at this;exact this
theorem OV{x:Λ}(hu:l.Nodup)(h:x.length=l.length):gn x l l=x:=by
 refine X0 λi=>?_;unfold gn;cases a:l[i]? with
 |none=>rw[u4,a,Y5 (by have:=List.getElem?_eq_none_iff.1 a;omega)];rfl
 |some v=>
  have hi:=(x6.1 a).1;rw[u4,a,Y3,rP hu a,u5,x8 (show i<x.length by omega)];rfl
theorem DZ{s:Λ}(hu:ii l)(h:s.length=l.length):dH s l s l l=s:=by
 refine X0 λi=>?_;unfold dH;cases a:l[i]? with
 |none=>rw[u4,a,Y5 (by have:=List.getElem?_eq_none_iff.1 a;omega)];rfl
 |some v=>
  have hi:=(x6.1 a).1;rw[u4,a,Y3,DN hu a,Int.max_self,x8 (show i<s.length by omega)];unfold jb;rw[ms Ω,u5,u9,x8 (show i<s.length by omega)];rfl
theorem OW{s a b:Λ}(hu:l.Pairwise (·< ·))(h:s.length=l.length)(J:dP s)(e:a.length=(aQ s).toNat)(f:b.length=(aQ s).toNat):pn s a l s b l l k=ev k a b:=by
 have j:l.Nodup:=hu.imp λh=>Ω
 unfold pn;rw[DZ (DY hu) h,NF J e f];apply List.map_congr_left;intro q _;rw[OV j (by rw[kr,h])]
theorem OX{s a b:Λ}(hu:l.Pairwise (·< ·))(B:∀x∈l,0<=x)(h:s.length=l.length)(J:cg s)(ac:aQ s<=4096)(C:a.length=(aQ s).toNat)(E:b.length=(aQ s).toNat)(f:DX w s a l s b l k k v I):
  Ext w I/\∃e j q r,v= .tuple #[Γ e,r,Δ 0]/\dh I e j q s k (ev k a b):=by
 obtain⟨F,_,f⟩:=f;have y:=DY hu;have z:Fits s l:=⟨h.symm,Oi y B⟩;obtain⟨d6,G,_,H⟩:=f ⟨z,z⟩;have K:=OU G y;subst K;obtain⟨_,_,_,A⟩:=H λp M N O=>rfl;rw[DZ y h,OW hu h J.2 C E]at A;obtain⟨e,j,q,r,rfl,L,_⟩:=A rfl J ac;exact⟨F,e,j,q,r,rfl,L⟩
theorem OY{s:Λ}(J:dP s):(bo s).Nodup:=(DC J).imp λ{a b}h he=>by subst he;omega
theorem OZ{s:Λ}{i:Nat}(J:dP s)(hi:(bo s)[i]?=σ t)(a:(bo s)[j]?=σ t):i=j:=lJ (OY J) hi a
theorem O0{s:Λ}(J:dP s)(h:dv s t):∃j:Nat,(bo s)[j]?=σ t:=X8.1 ((DB J).2 h)
theorem uy{g m:Nat}{d:List (x4×x4)}(h:ag w g e cs)(hm:dd w m d)(a:af (λr=>r=m) w I):ag I g e cs:=h.V a (λhe=>ul h hm he)
theorem D0{g m:Nat}{k:j0}{d:List (x4×x4)}(h:aA k e w g v l)(hm:dd w m d)(a:af (λr=>r=m) w I):aA k e I g v l:=bA h a (λ_ f he=>DE h hm f he)
def uz(cs:Λ)(o:Int):Prop:=o∈cs/\∀d∈cs,cs.count d<cs.count o\/(cs.count d=cs.count o/\o<=d)
theorem O1{i:Nat}{x:Int}(h:l[i]?=σ x)(y:Int):(l.take (i+1)).count y=(l.take i).count y+if y=x then 1 else 0:=by
 rw[r9,h,List.count_append];congr 1;simp only[j6,List.count_singleton];by_cases a:y=x
 .subst a;simp
 .rw[rc a,rc (by simpa using λh=>a h.symm)]
def gW(p:Int×Int):x4×x4:=(Δ p.1,Δ p.2)
theorem rV:Keys v8 av λv=>∃n,v=Δ n:=Keys.int av.u
theorem rW(E:List (Int×Int)):∀p∈E.map gW,∃n,p.1=Δ n:=λp ac=>by
 obtain⟨q,_,rfl⟩:=j5.1 ac;exact⟨_,rfl⟩
def xE(cs:Λ)(E:List (Int×Int)):Prop:=(∀x,x∈E.map (·.1)↔x∈cs)/\∀p∈E,p.2=(cs.count p.1:Nat)
theorem D1{cs:Λ}{E:List (Int×Int)}(h:xE cs E){x:Int}(a:x∈cs):∃j:Nat,E[j]?=σ (x,((cs.count x:Nat):Int)):=by
 obtain⟨p,ac,rfl⟩:=j5.1 ((h.1 x).2 a);obtain⟨j,e⟩:=X8.1 ac;exact⟨j,by rw[e,<-h.2 p ac]⟩
theorem D2{ds:x4}{cs:Λ}(h:aN .i64 w ds cs)(au:cs≠[])(bf:cs.length<=1000000):al v8 tg [ds] w λv I=>Ext w I/\∃o,v=Δ o/\uz cs o:=by
 refine aB func250 ?_;refine aF.cB (tT λm U hm V aL bg=>?_);rw[a1 aw.u (h.W V)];refine bW.range cs.length (λi aa=>af (λr=>r=m) U aa/\∃E,dd aa m (E.map gW)/\xE (cs.take i) E) Ω ⟨af.refl _ _,[],aL,by simp[xE]⟩ ?_ ?_
 .rintro i aa aM hi ⟨C,E,z,e⟩ ay;obtain⟨x,W⟩:=aD (l:=cs) hi;have G:Ext w aa:=V.put C Ω;have aO:∀y,(cs.take i).count y<=1000000:=λy=>by
   have:=List.count_le_length (a:=y) (l:=cs.take i);rw[o8]at this;omega
  refine bG Ω ?_;rw[bk aw.u av.i Ψ (h.W G) W];have N:=O1 W;have az:∀y,y∈cs.take (i+1)↔y∈cs.take i\/y=x:=λy=>by
   rw[r9,W];simp
  by_cases H:x∈cs.take i
  .obtain⟨j,X⟩:=D1 e H;have O:(E.map gW)[j]?=σ (Δ x,Δ (((cs.take i).count x:Nat):Int)):=by rw[u4,X];rfl
   rw[rA nb.u rV z (rW E) ⟨_,rfl⟩ O];simp only[Bool.false_eq_true,if_false];have:=aO x;rw[aP,m1 Ω Ω];refine aF.cB (rB nb.u rV z (rW E) ⟨_,rfl⟩ (λP v0 Y Z J ad aQ=>?_) (λY Q=>ro rfl (Q _ (x7 O))));have aR:=z.uniq Z O rfl;subst aR;rw[aP];have ae:(E.map gW).set P (Δ x,Δ ((((cs.take i).count x:Nat):Int)+1))=(E.set P (x,(((cs.take i).count x:Nat):Int)+1)).map gW:=by rw[T2];rfl
   rw[ae]at J;have aT:=(x6.1 X).1;refine ay _ ⟨C.F ad,_,J,λy=>?_,λp ac=>?_⟩
   .rw[T2,rr (by rw[u4,X];rfl),e.1,az];exact⟨.inl,λh=>h.elim id (λh=>h▸H)⟩
   .obtain⟨q,f⟩:=X8.1 ac;by_cases ag:P=q
    .subst ag;rw[n9 aT]at f;cases f;show _=(((cs.take (i+1)).count x:Nat):Int);rw[N,ms rfl];omega
    .rw[Z6 ag]at f;have ah:p.1≠x:=λhe=>ag (z.uniq O (show(E.map gW)[q]?=σ (gW p) by rw[u4,f];rfl) (by rw[gW,he]));rw[e.2 p (x7 f),N,rc ah,Nat.add_zero]
  .have Q:∀p∈E.map gW,p.1≠U3 .i64 x:=λp ac he=>by
    obtain⟨q,f,rfl⟩:=j5.1 ac;have:q.1=x:=by simpa[gW]using he
    exact H ((e.1 x).1 (j5.2 ⟨q,f,this⟩))
   rw[tU nb.u rV ⟨_,_,ai.i⟩ z (rW E) ⟨_,rfl⟩ Q];simp only[Bool.false_eq_true,if_false];rw[aP,m1 Ω Ω];refine aF.cB (rB nb.u rV z (rW E) ⟨_,rfl⟩ (λP v0 Y Z=>ro rfl (Q _ (x7 Z))) (λY _ J ad aQ=>?_));rw[aP];have ae:E.map gW++[(U3 .i64 x,U3 .i64 (0+1))]=(E++[(x,1)]).map gW:=by rw[Z3];rfl
   rw[ae]at J;have aU:(cs.take i).count x=0:=List.count_eq_zero.2 H;refine ay _ ⟨C.F ad,_,J,λy=>?_,λp ac=>?_⟩
   .rw[Z3,j9,e.1,az];simp
   .rcases j9.1 ac with ac|ac
    .have ah:=λhe=>H ((e.1 x).1 (j5.2 ⟨p,ac,he⟩));rw[e.2 p ac,N,rc ah,Nat.add_zero]
    .rw[b9.1 ac];show(1:Int)=(((cs.take (i+1)).count x:Nat):Int);rw[N,ms rfl,aU];rfl
 rintro aa aM ⟨C,E,z,e⟩;rw[j4]at e;have G:=V.put C Ω;refine cd Ω ?_;refine(Mh (h.W G) au).Y ?_;rintro _ aV bh ⟨rfl,aj⟩;have bi:=G.size;have bj:=aj.size;refine aF.cB (CC nb.u (z.W aj) λL bl bn aW bo aX bp=>?_);refine⟨λuA B=>∃b A s left aA,uA=Δ b/\b∈cs/\Ext aV B/\iE B L m (E.map gW) left aA/\left=s.map gW/\(A++s).Perm E/\∀p∈A,cs.count p.1<cs.count b\/(cs.count p.1=cs.count b/\b<=p.1),λ_ B=>qq B L,
  ⟨wY cs,[],E,E.map gW,ν,rfl,(LV au).1,aW,aX,rfl,List.Perm.refl _,λp ac=>by cases ac⟩,?_⟩
 rintro _ B ⟨b,A,s,left,aA,rfl,ak,an,aC,rfl,R,ao⟩;refine CE aC (λ_=>by show w.heap.size<=L;omega) (λaY=>?_) (λj p ap ac aE bq M=>?_)
 .rw[jV (v:=.bool v6) rfl,a6];have:s=[]:=List.map_eq_nil_iff.1 aY;subst this;rw[U2]at R;refine⟨(G.F aj).F an,b,rfl,ak,λd a2=>?_⟩;obtain⟨q,f,rfl⟩:=j5.1 ((e.1 d).2 a2);exact ao q (R.mem_iff.2 f)
 .rw[jV (v:=.bool v2) rfl,bQ];refine CF M ?_;obtain⟨q,f,rfl⟩:∃q,s[j]?=σ q/\gW q=p:=by
   rw[u4]at ac;exact Y9.1 ac
  have aG:=R.mem_iff.1 (j9.2 (.inr (x7 f)));have br:=e.2 q aG;have a7:=(e.1 q.1).1 (j5.2 ⟨q,aG,rfl⟩);obtain⟨a8,ba⟩:=D1 e ak;have bb:(E.map gW)[a8]?=σ (Δ b,Δ ((cs.count b:Nat):Int)):=by rw[u4,ba];rfl
  rw[jV (v:=Δ q.1) rfl,jV (v:=Δ q.2) rfl];have aH:(A++[q]++s.eraseIdx j).Perm E:=by
   refine List.Perm.trans ?_ R;rw[T6];exact List.Perm.append_left A (xf f)
  have aI:qq ap L<qq B L:=by
   rw[tY M,tY aC];have:=CR (x6.1 ac).1;omega
  refine aZ (λv bc=>ap=bc/\∃r:Bool,v= .bool r/\(r=v2↔(cs.count b<cs.count q.1\/(cs.count q.1=cs.count b/\q.1<b)))) ?_ ?_
  .rintro _ _ ⟨rfl,r,rfl,S⟩;rw[b4];refine⟨λbd=>?_,λaJ=>?_⟩
   .have S:=S.1 bd;refine⟨⟨q.1,A++[q],s.eraseIdx j,_,_,rfl,a7,an.F aE,M,(n2 gW s j),aH,λp ac=>?_⟩,aI⟩;rcases j9.1 ac with ac|ac
    .have:=ao p ac;omega
    .rw[b9.1 ac];exact .inr ⟨rfl,S0 _⟩
   .have S:¬(cs.count b<cs.count q.1\/(cs.count q.1=cs.count b/\q.1<b)):=λh=>by rw[S.2 h]at aJ;cases aJ
    refine⟨⟨b,A++[q],s.eraseIdx j,_,_,rfl,ak,an.F aE,M,(n2 gW s j),aH,λp ac=>?_⟩,aI⟩;rcases j9.1 ac with ac|ac
    .exact ao p ac
    .rw[b9.1 ac];omega
  .intro ax aq;have aK:∀K:x4->Prop,ab v8 (Instr.lookup nb (.map (σ m)) (Δ b) v6) ap K=K (Δ ((cs.count b:Nat):Int)):=λK=>by
    rw[rA nb.u rV M.map (rW E) ⟨_,rfl⟩ bb];simp
   rw[aK,bU,am];refine⟨λh1=>aq _ _ ⟨rfl,v2,rfl,⟨λ_=>.inl Ω,λ_=>rfl⟩⟩,λh1=>?_⟩;rw[aK,bm,am];refine⟨λbe=>?_,λbe=>aq _ _ ⟨rfl,v6,rfl,⟨λh=>(by cases h),λh=>Ω⟩⟩⟩;rw[aS];refine aq _ _ ⟨rfl,_,rfl,?_⟩;rw[sp];omega
theorem O2{g:Nat}{k:j0}{p:o5}(h:aA k e w g v l)(q:ag w j p cs)(x:e≠p)(s:lw v r):r≠j:=by
 obtain⟨rfl,_⟩:=bZ h s;obtain⟨_,⟨rfl,_⟩|⟨_,_,_,f,_⟩⟩:=h
 .obtain⟨a,n,c,h,_⟩:=s;cases h
 .rintro rfl;unfold ag at q f;rw[q]at f;injection f with h1;injection h1 with z y;exact x y.symm
def O3(w:x5)(aj:Λ)(k:Int)(cs:Λ)(v:x4)(I:x5):Prop:=Ext w I/\∃g m o D,v=Γ g/\eV I g m aj k o D/\D.length<=(aQ aj).toNat/\jF aj (jB D o) cs/\uz cs o
theorem O4{g bO:Nat}{cs:Λ}(h:dh w g bO sv aj k cs)(aG:∀c∈cs,cG c k):al v8 JB [Γ g] w (O3 w aj k cs):=by
 obtain⟨⟨ba,gs,bb,hm,cl⟩,⟨_,_,bc⟩,J,an⟩:=id h;have ac:=prod_bound J;have cm:=J.1;have bd:cs≠[]:=λhe=>by rw[he]at an;simp at an;omega
 refine jr func197 ?_;rw[dg fa.u];simp only[Y2,a6];refine(n1 h).Y ?_;rintro ds aa _ ⟨O,cn,cp,aH⟩;refine bF aw.i λao cq cr be bf=>?_;have ct:=bf.lt;refine bt aw.i aH.ls.cells.1 aH.ls.cells.2 bf (by simp[x4.cells]) λap bP cu aq=>?_;have aq:ag ap ao aw [ds]:=aq;have cw:=O.size;have cz:=be.size;have bg:Ext aa ap:=be.put bP Ω;have bh:=aH.W bg;have Z:=O.F bg;refine aZ (λu au=>∃a E m o K L,u=Γ a/\Ext ap au/\ag au a e1 [Γ E]/\ap.heap.size<=m/\gm au E m K L aj k o []/\uz cs o) ?_ ?_
 .rintro _ au ⟨a,E,m,o,K,L,rfl,ad,e,cA,A,C⟩;have bQ:=h.W (Z.F ad);have bR:=aq.W ad;have bS:=bh.W ad;refine(qn bQ).Y ?_;rintro _ cB _ ⟨rfl,bT⟩;refine w9.Y ?_;rintro _ aI _ ⟨bU,bi,rfl,cC,bj⟩;have P:=bT.F bU;have bl:=A.W P;have bV:=bR.W P;have bm:=e.W P;have bW:=bS.W P;have bn:=hm.W ((Z.F ad).F P);have Q:=bl.2.2.1;have bX:=(Z.F ad).F P;have cD:=Z.size;have bY:=w8 (g:=bi) (B0:=aI.heap.size) (sv:=sv) J;refine pU.old ⟨Nat,v6,m4,#[Γ bi],_,_,_,_,λi I=>af (λr=>r=m) aI I/\∃D,D.length<=i/\gm I E m K L aj k o D/\∀(j:Nat)t,(bo aj)[j]?=σ t->jB D o t=if j<i then br aj cs t else o,λ_ _ _=>False,rfl,bY.s,
   ?_,λ_ _ S h=>⟨h.1.W S,h.2.1.W S,X1 h.2.2 S.size⟩,λ_ _ _ S ⟨h1,D,bZ,b0,bc⟩=>⟨h1.F (S.V _),D,bZ,b0.W S,bc⟩,λ_ _ _ _ _ h=>h,⟨bj,bn.ls,o4 _⟩,⟨af.refl _ _,[],o4 _,bl,λj t _=>by rw[rc Ω];rfl⟩,?_,?_,λ_ _ h=>h.elim,λ_ _ _ h=>h.elim⟩
  .rintro _ _ _ _ ⟨_,_,_,_,rfl,_⟩;rfl
  .rintro _ aT i _ b1 ⟨cE,cF,b3⟩ ⟨hi,rfl,cH,gt,b4,cI,y⟩ ⟨ay,D,bp,aJ,aK⟩;cases b4;have aL:(bo aj)[i]?=σ (dn aj (i:Int)):=rq J.2 Ω;have b5:=wZ J.2 hi;generalize dn aj (i:Int)=t at*;have bq:=NM J.2 an aL;intro b6 az _ _;intro b7 b8 _ _;have aA:=az.F b8;have aB:af (λr=>r=m) aI b7:=ay.F (aA.V _);rw[aE Ψ ((uy bm Q aB).cell rfl),aE Ψ ((uy bV Q aB).cell rfl),bk aw.u av.i Ψ (D0 bW Q aB).ls bq];have aM:=aJ.W aA;refine(CQ aM.is (y.W aA).ls).Y ?_;rintro _ cJ _ ⟨_,b9⟩;obtain⟨rfl,aO,D',bs,bu⟩:=b9 ⟨b5,aG _ (x7 bq)⟩;have aP:=aB.F aO;have cK:=bs.2;refine⟨⟨uy bj Q aP,(D0 bn Q aP).ls,X1 b3 (X1 aA.size aO.size)⟩,⟨aP,D',Ω,aM.put aO bu,λj s M=>?_⟩,λh=>by cases h⟩;rw[bs.cost aM.is.nodup bu.nodup];by_cases bw:j=i
   .subst bw;rw[aL]at M;cases M;rw[ms rfl,ms Ω]
   .rw[rc (λ(he:s=t)=>bw (OZ J.2 (by rw[<-he];exact M) aL)),aK j s M];by_cases h1:j<i
    .rw[ms h1,ms Ω]
    .rw[rc h1,rc Ω]
  .rintro i b1 rfl ⟨ay,D,bp,aJ,aK⟩;rw[aE Ψ ((uy bm Q ay).cell rfl)];intro b6 az _;refine⟨(bX.put ay Ω).F az,E,m,o,D,rfl,aJ.is.W az,bp,⟨an,λt ca=>?_⟩,C⟩;obtain⟨j,M⟩:=O0 J.2 ca;have:=(x6.1 M).1;rw[ks J.2]at this;rw[aK j t M,ms this]
 intro ax bA;intro z ae _ _;have aQ:=Z.F ae;have bB:=ae;have aC:=h.W aQ;have bC:=bh.W ae;have cL:=ae.size;rw[aE Ψ ((aq.W ae).cell rfl)];have bD:∀{a:Nat}{I:x5}{aT:x4}{o:Int},Ext z I->z.heap.size<=a->(∃f,ag I a e1 [f])->aN .i64 I aT aj->uz cs o->
   al v8 pZ [aT,Δ k,Δ o] I λB q=>ab v8 (Y8 B 0) q λN=>ab v8 (Y8 B 1) q λ_=>aF v8 (l9 e1 (Γ a) N) q λ(_:Unit)G=>ax (Γ a) G:=by
  rintro a I aT o x p ⟨f,e⟩ y C;refine(CK y).Y ?_;rintro _ q _ ⟨aR,_,_,aS⟩;obtain⟨E,m,rfl,cb,cc,A⟩:=aS J (aG _ C.1);obtain⟨K,L,A⟩:=A.at;rw[bx,bz];have cd:=e.lt;have s':=x.size;refine bt e1.i rfl rfl (e.W aR) Ξ λG bE cM ce=>?_;refine bA _ _ ⟨a,E,m,o,K,L,rfl,((bB.F x).F aR).put bE Ω,ce,Ω,A.V bE (λhe=>by have he:=he;omega) (λhe=>by have he:=he;omega) (λr aU he=>?_),C⟩;exact O2 A.2.1 (e.W aR) Φ aU he
 have bG:∀{a:Nat}{I:x5}{aT:x4},Ext z I->z.heap.size<=a->(∃f,ag I a e1 [f])->aN .i64 I aT aj->
   al v8 tg [ds] I λah aa=>al v8 pZ [aT,Δ k,ah] aa λB q=>ab v8 (Y8 B 0) q λN=>ab v8 (Y8 B 1) q λ_=>aF v8 (l9 e1 (Γ a) N) q λ(_:Unit)G=>ax (Γ a) G:=by
  rintro a I aT x p ⟨f,e⟩ y;refine(D2 (bC.W x).ls bd Ω).Y ?_;rintro _ aa _ ⟨O,o,rfl,C⟩;exact bD (x.F O) p ⟨f,e.W O⟩ (y.W O) C
 have bH:∀{a:Nat}{I:x5}{aT:x4},Ext z I->z.heap.size<=a->(∃f,ag I a e1 [f])->aN .i64 I aT aj->
   al v8 ws [Γ g] I λaV U=>(Ext z U\/b2 v8 (u6 aw (Γ ao)) ds U/\True)/\
    al v8 tg [ds] U λah aa=>al v8 pZ [aT,aV,ah] aa λB q=>ab v8 (Y8 B 0) q λN=>ab v8 (Y8 B 1) q λ_=>aF v8 (l9 e1 (Γ a) N) q λ(_:Unit)G=>ax (Γ a) G:=by
  rintro a I aT x p ⟨f,e⟩ y;refine(Cz (aC.W x)).Y ?_;rintro _ U _ ⟨rfl,H⟩;exact⟨.inl (x.F H),bG (x.F H) p ⟨f,e.W H⟩ (y.W H)⟩
 have bI:aj.length<=1000:=Ω
 have bJ:∀{a:Nat}{I:x5},Ext z I->z.heap.size<=a->(∃f,ag I a e1 [f])->
   al v8 AS [.agg #[sv]] I λcf w0=>(Ext z w0\/b2 v8 (u6 aw (Γ ao)) ds w0/\True)/\
    al v8 ws [Γ g] w0 λaV U=>(Ext z U\/b2 v8 (u6 aw (Γ ao)) ds U/\True)/\
    al v8 tg [ds] U λah aa=>al v8 pZ [cf,aV,ah] aa λB q=>ab v8 (Y8 B 0) q λN=>ab v8 (Y8 B 1) q λ_=>aF v8 (l9 e1 (Γ a) N) q λ(_:Unit)G=>ax (Γ a) G:=by
  rintro a I x p ⟨f,e⟩;refine(CA (hm.W (aQ.F x)).ls bI).Y ?_;rintro aT U _ ⟨H,_,_,y⟩;exact⟨.inl (x.F H),bH (x.F H) p ⟨f,e.W H⟩ y.ls⟩
 have ai:∀{I:x5}{R:x4->x5->Prop},Ext z I->(∀a ak,z.heap.size<=a->Ext I ak->(∃f,ag ak a e1 [f])->R (Γ a) ak)->aF v8 (Instr.alloc e1 v2 (.tuple #[])) I R:=λ{I}{R}x cg=>by
  have:=x.size;exact bF e1.i λa ak p ch bb=>cg a ak Ω ch ⟨_,bb⟩
 refine⟨?_,ai (Ext.refl _) λa cN p aD e=>⟨.inl aD,?_⟩⟩
 rotate_left
 .refine (qn (aC.W aD)).Y ?_;rintro _ cO _ ⟨rfl,aW⟩;obtain⟨f,e⟩:=e;exact⟨.inl (aD.F aW),bJ (aD.F aW) p ⟨f,e.W aW⟩⟩
 refine(qn aC).Y ?_;rintro _ cP _ ⟨rfl,W⟩;refine⟨.inl W,?_,ai W λa cQ p bK e=>⟨.inl (W.F bK),bJ (W.F bK) p e⟩⟩;refine(CA (hm.W (aQ.F W)).ls bI).Y ?_;rintro aT cR _ ⟨ci,_,_,y⟩;have X:=W.F ci;refine⟨.inl X,?_,ai X λa cS p aX e=>⟨.inl (X.F aX),bH (X.F aX) p e (y.W aX).ls⟩⟩;refine(Cz (aC.W X)).Y ?_;rintro _ cT _ ⟨rfl,aY⟩;have Y:=X.F aY;refine⟨.inl Y,?_,ai Y λa cU p a1 e=>⟨.inl (Y.F a1),bG (Y.F a1) p e ((y.W aY).W a1).ls⟩⟩;refine(D2 (bC.W Y).ls bd Ω).Y ?_;rintro _ cV _ ⟨bL,o,rfl,C⟩;have am:=Y.F bL;have bM:=(y.W aY).W bL;refine⟨?_,ai am λa cW p a2 e=>⟨.inl (am.F a2),bD (am.F a2) p e (bM.W a2).ls C⟩⟩;refine(CK bM.ls).Y ?_;rintro _ cX _ ⟨cj,_,_,aS⟩;obtain⟨E,m,rfl,cb,cc,A⟩:=aS J (aG _ C.1);obtain⟨K,L,A⟩:=A.at;rw[bx,bz];have a7:=am.F cj;refine bF e1.i λa cY p a8 e=>?_;refine⟨.inl (a7.F a8),?_⟩;have cd:=e.lt;obtain⟨cZ,c0,t3⟩:=A.rx;have c1:=am.size;have c2:=a7.size;refine bt e1.i rfl rfl e (by simp[x4.cells]) λc3 bN c4 ck=>?_;exact bA _ _ ⟨a,E,m,o,K,L,rfl,((bB.F a7).F a8).put bN Ω,ck,Ω,(A.W a8).V bN (λhe=>by have he:=he;omega) (λhe=>by have he:=he;omega) (λr aU he=>by have he:r=a:=he;have:=t3 r aU;omega),C⟩
theorem D3{acc:List cQ}{g:cQ}(h:∀x∈acc,x.1≠g.1):jA k acc g=acc++[g]:=by
 unfold jA;rw[rc];intro hm;obtain⟨x,a,he⟩:=j5.1 hm;exact h x a he
theorem O5{acc:List cQ}{g h:cQ}{i:Nat}(e:kz acc)(hi:acc[i]?=σ h)(he:h.1=g.1):jA k acc g=acc.set i (h.1,ev k h.2 g.2):=by
 have f:=(x6.1 hi).1;unfold jA;rw[ms (j5.2 ⟨h,x7 hi,he⟩)];refine X0 λj=>?_;rw[u4,Y7];by_cases a:i=j
 .subst a;rw[hi,Y3,ms he,ms rfl,ms f]
 .rw[rc a];cases p:acc[j]? with
  |none=>rfl
  |some y=>
   have:y.1≠g.1:=λq=>a (by
    have h1:(acc.map (·.1))[i]?=σ g.1:=by rw[u4,hi,Y3,he]
    have r:(acc.map (·.1))[j]?=σ g.1:=by rw[u4,p,Y3,q]
    exact lJ e h1 r)
   rw[Y3,rc this]
theorem O6{α β:Type}{f:β->α->β}{b:β}{l:List α}{i:Nat}{x:α}(h:l[i]?=σ x):(l.take (i+1)).foldl f b=f ((l.take i).foldl f b) x:=by
 rw[r9,h,j6,S3];rfl
def n4(w:x5)(k:Int)(co:Λ)(x:cA):Prop:=(∃a,aA .i64 ai w a x.sv x.sc)/\∃m o D,eV w x.g m (bN co x.sc) k o D/\D.length<=4096/\jF (bN co x.sc) (jB D o) x.cs
theorem n4.W{x:cA}(h:n4 w k co x)(a:Ext w I):n4 I k co x:=by
 obtain⟨⟨e,h1⟩,m,o,D,f,j⟩:=h;exact⟨⟨e,h1.W a⟩,m,o,D,f.W a,j⟩
theorem n4.V{x:cA}(h:n4 w k co x)(q:af S w I)(j:∀r,S r->∃e c,ag w r e c/\e≠fL/\e≠ai):n4 I k co x:=by
 obtain⟨⟨z,h1⟩,m,o,D,A,B⟩:=h;obtain⟨sv,gs,f⟩:=A.at;have s:∀{g:Nat}{v:x4}{l:Λ},aA .i64 ai w g v l->∀r,lw v r->¬S r:=λhm r C J=>by
  obtain⟨e,c,a,_,p⟩:=j r J;exact ce hm a (λhe=>p he.symm) C rfl
 refine⟨⟨z,bA h1 q (s h1)⟩,m,o,D,(f.V q (λJ=>?_) (λJ=>?_) (s f.2.1)).is,B⟩
 .obtain⟨e,c,a,p,_⟩:=j _ J;have y:=f.1;unfold ag at y a;rw[y]at a;exact p (Obj.cells.inj (Z4 a)).2.1.symm
 .obtain⟨e,c,a,_,_⟩:=j _ J;exact ul a f.2.2.1 rfl
def rX(w:x5)(g:Nat)(v:x4)(k:Int)(co:Λ)(L:List cA):Prop:=bj e4 2 cM w g v L/\∀x∈L,n4 w k co x
theorem rX.W{g:Nat}{L:List cA}(h:rX w g v k co L)(a:Ext w I):rX I g v k co L:=⟨h.1.W a,λx e=>(h.2 x e).W a⟩
def O7(w:x5)(B a:Nat)(f:b7):Prop:=∃lc e gz g L,ag w a cI [ca f.name,Δ f.k,lc,e]/\aA .i64 ai w gz lc f.co/\rX w g e f.k f.co L/\L.map ec=fS f/\B<=a/\(∀r,lw lc r->B<=r)/\∀x∈L,∀r,lw x.sv r->B<=r
theorem O8{g a8:Nat}{L:List cA}{q:Λ}(h:fe w g v L)(ac:ag w a8 aq [sv])(J:aN .i64 w sv q):
  al v8 AG [v,.func (.func AH) #[] #[Γ a8]] w λr I=>Ext w I/\((r=Δ (-1)/\∀x∈L,x.sc≠q)\/∃i:Nat,r=Δ (i:Int)/\∃x,L[i]?=σ x/\x.sc=q):=by
 refine aB func184 ?_;rw[ew gC.u h.1];refine ch.range L.length (λi _ U=>Ext w U/\∀x∈L.take i,x.sc≠q) h.1.le ⟨Ext.refl _,λc a=>by simp at a⟩ ?_ ?_
 .rintro i _ U k hi ⟨f,s⟩ hk;refine bG Ω ?_;obtain⟨x,y⟩:=aD (l:=L) hi;rw[uv rfl (h.W f) y];show al v8 AH [k5 x,Γ a8] U _;obtain⟨⟨C,hm⟩,_⟩:=(h.W f).at y;refine aB func185 ?_;refine bp λao aa E j z=>?_;have z:ag aa ao c4 [x.sv,Γ x.g]:=by
   obtain⟨_,_,_,e⟩:=dj hm.ls;simp only[k5,e4,e]at z ⊢;exact z
  rw[aL c4.p 0 z rfl,aE Ψ ((ac.W (f.F j)).Qz rfl)];refine(KV (hm.ls.W j) (J.W (f.F j))).Y ?_;rintro _ G _ ⟨rfl,A⟩;rw[am];refine⟨λhe=>⟨(f.F j).F A,.inr ⟨i,rfl,x,y,he⟩⟩,λB=>?_⟩;rw[aP];refine hk _ _ ⟨(f.F j).F A,λc a=>?_⟩;rw[r9,y]at a;rcases j9.1 a with a|a
  .exact s c a
  .simp at a;subst a;exact B
 .rintro _ U k ⟨f,s⟩;rw[j4]at s;rw[aS,am];exact⟨λh=>Ω,λ_=>⟨f,.inl ⟨rfl,s⟩⟩⟩
def eX(f:b7)(i:Nat):List cQ:=((f.d9.take i).map (jz f.co f.k)).foldl (jA f.k) []
theorem D4{f:b7}(a:fl N f)(i:Nat):(∀g∈eX f i,gK f.co f.k g)/\kz (eX f i)/\(eX f i).length<=i:=by
 have:=xr (co:=f.co) (k:=f.k) (by have:=a.k.1;omega) (l:=(f.d9.take i).map (jz f.co f.k)) (acc:=[]) (λh au=>by cases au) List.nodup_nil λg j=>by
  obtain⟨x,p,rfl⟩:=j5.1 j;exact qv a (T1 p)
 refine⟨this.1,this.2.1,?_⟩;have e:=this.2.2;rw[List.length_nil,r8,X6,o8]at e;exact X1 e (Nat.min_le_left _ _)
theorem xF{f:b7}{i:Nat}{x:cE}(h:f.d9[i]?=σ x):eX f (i+1)=jA f.k (eX f i) (jz f.co f.k x):=by
 unfold eX;rw[r9,h,j6,Z3,S3];rfl
theorem D5(f:b7):eX f f.d9.length=fR f:=by unfold eX fR;rw[j4]
theorem xG{L:List cA}{i:Nat}{x:cA}{D:List cQ}(h:L.map ec=D)(a:L[i]?=σ x):ec x∈D:=by rw[<-h];exact j5.2 ⟨x,x7 a,rfl⟩
def O9(w:x5)(f:b7)(v:x4)(I:x5):Prop:=Ext w I/\((¬ns f.d9<=16384/\∃e:Int,e≠0/\v= .tuple #[.pointer ν,Δ e])\/∃a,v= .tuple #[Γ a,Δ 0]/\O7 I w.heap.size a f)
theorem uB{g:Nat}{sc cs:Λ}(hm:aA .i64 ai w g sv sc):∀u∈e4 ⟨sv,a,sc,cs⟩,u.oneCell'=v2:=λu hu=>by
 simp[e4]at hu;rcases hu with rfl|rfl
 .exact hm.ls.cells.2
 .rfl
theorem Pa{bO:Nat}{f:b7}(bP:mv w bO f)(G:fl N f)(bQ:N<=60000)(c0:f.name≠[]/\∀b∈f.name,bV b=v2):
  al v8 IJ [Γ bO] w (O9 w f):=by
 have hk:=G.k;refine aB func125 ?_;refine(Ow bP G bQ c0).Y ?_;rintro _ U _ ⟨aJ,e,rfl,he⟩;rw[bL,am];refine⟨λbR=>⟨aJ,.inl ⟨λh=>bR (he h),e,bR,rfl⟩⟩,λen=>?_⟩;have bS:=bP.W aJ;obtain⟨lc,aM,gz,bd,bT,c1,be,aN⟩:=id bS;have eo:bd.length<=256:=by rw[aN.1];exact G.mm
 rw[aK cI.p 3 bT rfl,gR dO.u be];refine ch.range bd.length (λi l aa=>∃g L,Ext U aa/\fe aa g l L/\Sem aa f.k f.co L/\L.map ec=eX f i/\(∀r,lm l r->U.heap.size<=r)/\∀x∈L,∀r,lw x.sv r->U.heap.size<=r) (oZ be)
  ⟨0,[],Ext.refl _,⟨bj.nil _ _ _ _ _,λx E=>(by cases E)⟩,λx E=>(by cases E),rfl,λr A=>(fm A).elim,λx E=>(by cases E)⟩ ?_ ?_
 .rintro i l aa c2 hi ⟨g,L,X,ay,aO,H,O,az⟩ c3;obtain⟨d,bU⟩:=aD (l:=bd) hi;obtain⟨x,aR⟩:∃x,f.d9[i]?=σ x:=⟨_,x8 (by have:=aN.1;omega)⟩;have bX:=x7 aR;have c5:=aN.2 i x d aR bU;have Y:=qv G bX;obtain⟨c6,c7,ep⟩:=D4 G i;have c8:L.length<=i:=by have b0:=congrArg Q2 H;rw[r8]at b0;omega
  refine bG Ω ?_;refine aZ (λl' aS=>∃P Z,Ext U aS/\fe aS P l' Z/\Sem aS f.k f.co Z/\Z.map ec=eX f (i+1)/\(∀r,lm l' r->U.heap.size<=r)/\∀x∈Z,∀r,lw x.sv r->U.heap.size<=r) ?_ ?_
  .rintro l' aS ⟨P,Z,h1,c9,da,db,dc⟩;rw[aP];exact c3 _ _ ⟨P,Z,h1,c9,da,db,dc⟩
  intro ax b1;refine ni (α:=ih) cM.p rfl dO.u cM.i (bu be X) bU λcs bf=>?_;have b2:cs.length=2:=an.len bf;refine bF cM.i λao er es dd de=>?_;refine b6 (vs:=cs) cM.i b2 rfl (an.one bf) de λdf dg et di=>?_;have J:Ext aa df:=dd.put dg Ω;rw[bC cM.p cM.i b2 di.range];refine(OG G bQ bX c5 (bu bf J)).Y ?_;rintro _ dk _ ⟨dl,sv,gs,b3,dn,dp,rfl,eu,ab,b4⟩;rw[bx,bz];refine bF aq.i λa8 ey ez dq dr=>?_;refine bt aq.i ab.ls.cells.1 ab.ls.cells.2 dr (by simp[x4.cells]) λb5 ds eA aT=>?_;have bg:Ext dk b5:=dq.put ds Ω;have aT:ag b5 a8 aq [sv]:=aT;rw[mb];have bh:=(J.F dl).F bg;have eB:=bh.size;have eC:=X.size;refine(O8 (ay.W bh) aT (ab.ls.W bg)).Y ?_;rintro _ eD _ ⟨aV,A⟩;have aW:=bh.F aV;have b8:=bg.F aV;have bi:=ab.W b8;have cb:=b4.W b8;have cc:=aT.W aV;have cf:=ay.W aW;have bk:=aO.W aW;rcases A with⟨rfl,dt⟩|⟨ci,rfl,y,B,aX⟩
  .refine bG Ω ?_;rw[aE Ψ (cc.Qz rfl),dm (cs:=#[sv,Γ b3]) (by obtain⟨_,_,_,rfl⟩:=dj ab.ls;kernel_rfl)];let a:cA:=⟨sv,b3,bw x.scope,(jz f.co f.k x).2⟩;have bl:∀u∈e4 a,u.oneCell'=v2:=uB bi;refine jc (f:=e4) (a:=a) gC.u c4.i Ω rfl rfl λeE eF du eH ad dv=>?_;have ah:=cf.W ad;refine jC (f:=e4) (a:=a) gC.u c4.i rfl ah.1 (by simpa using dv.sl) bl Ω Ω λaC P eI aF bm aG=>?_;have ck:=bi.W ad;have aY:∀{r:Nat},lm l r->∃c,ag du r c4 c:=λA=>by
    obtain⟨rfl,c,C⟩:=dY ah.1 A;exact⟨c,C⟩
   refine b1 _ _ ⟨P,L++[a],((X.F aW).F ad).then aG (λr A he=>by have:=O r he;omega),fe.mk aF λz s=>?_,λz s=>?_,?_,λr A=>?_,λz s r A=>?_⟩
   .rcases j9.1 s with s|s
    .have:=(ah.2 z s).V aG λr A he=>(ah.2 z s).2.1 r A (ah.1.lw he).1;exact⟨this.1,this.2.2⟩
    .rw[b9.1 s];exact⟨⟨gs,bA ck aG λr A he=>by obtain⟨c,C⟩:=aY he;exact ce ck C Φ A rfl⟩,Y.scope⟩
   .rcases j9.1 s with s|s
    .exact (bk.W ad).row ah aG z s
    .rw[b9.1 s];exact⟨dn,dp,xB (cb.W ad) aG λr A=>aY A⟩
   .rw[Z3,H,xF aR,D3]
    .rfl
    .intro c I dw;rw[<-H]at I;obtain⟨z,s,rfl⟩:=j5.1 I;exact dt z s dw
   .rcases bm r A with h|h
    .exact O r h
    .have:=ad.size;have:=aV.size;omega
   .rcases j9.1 s with s|s
    .exact az z s r A
    .rw[b9.1 s]at A;have b0:=(bZ ab A).1;have:=J.size;omega
  .refine cd Ω ?_;intro eJ Q _ _;have bn:=cf.W Q;have cl:=(x6.1 B).1;obtain⟨dx,dy,a1⟩:=(bk.W Q) y (x7 B);have cm:=cc.W Q;have cn:=bi.W Q;have dz:=cb.W Q;rw[cj rfl gC.u c4.i bn.1 cl,aU c4.p rfl,aE Ψ (bn.1.range B 1 _ rfl),aE Ψ (cm.Qz rfl),aE Ψ (cm.Qz rfl)];have aj:gK f.co f.k (ec y):=c6 _ (xG H B);rw[aX]at a1;have cp:∀{c:Int},0<=c/\c<=f.k->cG c f.k:=λh=>⟨hk,h.1,h.2⟩;refine(OS a1 dz cn.ls cn.ls hk (λc I=>cp (aj.jd c I)) (λc I=>cp (Y.jd c I))).Y ?_;intro eK cq _ dA;have dC:y.cs.length=(aQ (bN f.co (bw x.scope))).toNat:=by have:=aj.len;rw[show(ec y).1=y.sc from rfl,aX]at this;exact this
   have dD:cg (bN f.co (bw x.scope)):=b4.2.2.1;obtain⟨bo,cr,ct,cu,eL,rfl,dE⟩:=OX Y.up (λv dF=>(Y.scope.1 v dF).1) (by simp[bN];rfl) dD Y.small dC Y.len dA;rw[fN,fO,fP];have R:=bn.W bo;rw[cj rfl gC.u c4.i R.1 cl,aU c4.p rfl];let a:cA:=⟨y.sv,cr,y.sc,ev f.k y.cs (jz f.co f.k x).2⟩;refine kZ (f:=e4) (j:=1) (a:=y) (a':=a) fa.i rfl rfl R.1 B rfl Ω λdG a2 eM dH=>?_;have aY:∀{r:Nat},lm l r->∃c,ag cq r c4 c:=λA=>by
    obtain⟨rfl,c,C⟩:=dY R.1 A;exact⟨c,C⟩
   refine b1 _ _ ⟨g,L.set ci a,((X.F aW).F (Q.F bo)).then a2 (λr A he=>by have:=O r he;omega),fe.mk dH λz s=>?_,λz s=>?_,?_,O,λz s=>?_⟩
   .have cw:∀z∈L,(∃bq,aA .i64 ai dG bq z.sv z.sc)/\k3 z.sc:=λz s=>by
     have:=(R.2 z s).V a2 λr A he=>(R.2 z s).2.1 r A (R.1.lw he).1;exact⟨this.1,this.2.2⟩
    rcases W8 s with s|rfl
    .exact cw z s
    .exact cw y (x7 B)
   .rcases W8 s with s|rfl
    .exact ((bk.W Q).W bo).row R a2 z s
    .refine⟨ct,cu,xB ?_ a2 λr A=>aY A⟩;show dh cq cr ct cu (bN f.co y.sc) f.k _;rw[aX];exact dE
   .rw[T2,H,xF aR,O5 (g:=jz f.co f.k x) c7 (i:=ci) (h:=ec y) (by rw[<-H,u4,B];rfl) aX];rfl
   .rcases W8 s with s|rfl
    .exact az z s
    .exact az y (x7 B)
 .rintro l aa c2 ⟨g,L,X,ay,aO,H,O,az⟩;refine cd Ω ?_;rw[aN.1,D5]at H;have c8:L.length<=256:=by
   have:=(mr G).2.2;rw[<-H,r8]at this;have:=G.mm;omega
  refine(OM ay aO Ω).Y ?_;rintro eN cz _ ⟨cB,cC,dI⟩;have dJ:Ext U cz:=X.then cB λr A he=>by have:=O r he;omega
  have dK:Sem cz f.k f.co (L.filter gp):=λz s=>(aO.row ay cB) z (S9.1 s).1;have eO:(L.filter gp).length<=L.length:=List.length_filter_le _ _;refine(OD cC Ω).Y ?_;rintro _ cD _ ⟨cE,M,a6,dL,cF⟩;have dM:Ext U cD:=dJ.then cE λr A he=>by have:=O r (dI r he);omega
  have cH:Sem cD f.k f.co M:=λz s=>(dK.row cC cE) z (a6.mem_iff.1 s);have eP:M.length<=256:=by rw[a6.length_eq];omega
  have dN:∀x∈M,∀r,lw x.sv r->U.heap.size<=r:=λx E=>az x (S9.1 (a6.mem_iff.1 E)).1;have cJ:M.map ec=fS f:=by
   refine NB G ?_ ?_
   .refine (a6.map ec).F ?_;rw[<-H,List.filter_map];exact .refl _
   .rw[List.pairwise_map];refine U5.2 λp q ac cK dP=>?_;exact dL p q _ _ (W0 _) dP cK (x8 ac) (x8 cK)
  intro eQ a7 _ _;have ak:=dM.F a7;have eR:=bS.W ak;have br:=bT.W ak;rw[aK cI.p 0 br rfl,aK cI.p 1 br rfl,aK cI.p 2 br rfl];refine(mh (c1.ls.W ak) (by have:=G.co.2.1;omega)).Y ?_;rintro aH cL _ ⟨S,dQ,eS,bs⟩;refine⟨.inl S,?_⟩;rw[dm (cs:=#[ca f.name,Δ f.k,aH,.slice ν 0 0]) (by obtain⟨_,_,_,rfl⟩:=dj bs.ls;kernel_rfl)];refine bp λW dR eU ba bB=>?_;have bB:ag dR W cI [ca f.name,Δ f.k,aH,.slice ν 0 0]:=bB;have eV:=(ak.F S).F ba;have dS:=((cF.W a7).W S).W ba;have eW:=((cH.W a7).W S).W ba;rw[ew gC.u dS.1];refine bW.range M.length (λi ap=>∃aM gr K,Ext cL ap/\ag ap W cI [ca f.name,Δ f.k,aH,aM]/\rX ap gr aM f.k f.co K/\K.map ec=(M.take i).map ec/\K.length=i/\(∀r,lm aM r->cL.heap.size<=r)/\∀x∈K,∀r,lw x.sv r->U.heap.size<=r) Ω
   ⟨_,0,[],ba,bB,⟨bj.nil _ _ _ _ _,λx E=>(by cases E)⟩,rfl,rfl,λr A=>(fm A).elim,λx E=>(by cases E)⟩ ?_ ?_
  rotate_left
  .rintro ap dT ⟨aI,gr,K,au,av,bD,bb,_,_,bE⟩;rw[j4,cJ]at bb;refine cd Ω ?_;have eY:=aJ.size;have eZ:=ak.size;have e0:=S.size;exact⟨(aJ.F (ak.F S)).F au,.inr ⟨W,rfl,aH,aI,dQ,gr,K,av,bs.W au,bD,bb,Ω,λr A=>by have:=(bZ bs A).1;omega,λx E r A=>by have:=bE x E r A;omega⟩⟩
  rintro i ap dT hi ⟨aI,gr,K,au,av,bD,bb,dU,cN,bE⟩ dV;obtain⟨y,B⟩:=aD (l:=M) hi;have cO:=(a7.F S).F au;have cP:=cF.W cO;have cQ:=cP.at B;obtain⟨dx,dy,a1⟩:=(cH.W cO) y (x7 B);have aj:gK f.co f.k (ec y):=uh G _ (xG cJ B);refine bG Ω ?_;rw[uv rfl cP B];refine bF c4.i λgy e1 e2 dW dX=>?_;refine b6 (vs:=e4 y) c4.i rfl rfl cQ.one dX λdZ ea e3 eb=>?_;have ed:Ext ap dZ:=dW.put ea Ω;intro e5 cR _ _;have bH:=ed.F cR;have cS:=eb.W cR;have ee:=av.W bH;rw[aK cI.p 3 ee rfl,aL c4.p 0 cS rfl,aL c4.p 1 cS rfl];refine(O4 (a1.W bH) λc I=>⟨hk,(aj.jd c I).1,(aj.jd c I).2⟩).Y ?_;rintro _ e6 _ ⟨bI,ae,m,o,D,rfl,ef,eg,eh,_⟩;refine⟨.inl bI,?_⟩;have cT:=bH.F bI;obtain⟨⟨bq,cU⟩,_,e7⟩:=cQ;have cV:=cU.W cT;rw[dm (cs:=#[y.sv,Γ ae]) (by obtain⟨_,_,_,e⟩:=dj cU.ls;rw[e];kernel_rfl)];let a:cA:=⟨y.sv,ae,y.sc,y.cs⟩;have bl:∀u∈e4 a,u.oneCell'=v2:=uB cV;refine jc (f:=e4) (a:=a) dO.u cM.i Ω rfl rfl λv25 e8 bJ e9 J ei=>?_;refine⟨.inl (bI.F J),?_⟩;have aw:=cT.F J;have bc:=bD.W aw;refine jC (f:=e4) (a:=a) dO.u cM.i rfl bc.1 (by simpa using ei.sl) bl Ω Ω λaC P ej aF bm cW=>?_;have fb:=au.size;have fc:=aw.size;have bK:ag ej W cI [ca f.name,Δ f.k,aH,aI]:=(av.W aw).V cW λhe=>by
   obtain⟨rfl,c,C⟩:=dY bc.1 he;have h1:=av.W aw;unfold ag at C h1;rw[h1]at C;exact ro (Obj.cells.inj (Z4 C)).2.1 Φ
  rw[bY,aU cI.p rfl];have cX:aC.cells= #[aC]/\aC.oneCell'=v2:=by
   obtain⟨_,_,_,_,_,rfl,_⟩:=aF.sl;exact⟨rfl,rfl⟩
  refine bt dO.i cX.1 cX.2 bK Ξ λek cY fd em=>?_;rw[aP];have bM:af (λr=>r=W\/lm aI r) bJ ek:=(cW.Y λr _ h=>.inr h).F (cY.Y λr _ h=>.inl h);have cZ:∀r,(r=W\/lm aI r)->∃e c,ag bJ r e c/\e≠fL/\e≠ai:=λr A=>by
   rcases A with rfl|A
   .exact⟨_,_,av.W aw,Φ,Φ⟩
   .obtain⟨rfl,c,C⟩:=dY bc.1 A;exact⟨_,c,C,Φ,Φ⟩
  refine dV _ ⟨aC,P,K++[a],?_,em,⟨aF.V cY λr A he=>?_,λz s=>?_⟩,?_,by rw[o9,dU];rfl,λr A=>?_,λz s=>?_⟩
  .exact (au.F aw).then bM λr A he=>by
    rcases he with rfl|he
    .omega
    .have:=cN r he;omega
  .have he:r=W:=he;subst he;obtain⟨rfl,c,C⟩:=dY aF A;unfold ag at C bK;rw[bK]at C;exact ro (Obj.cells.inj (Z4 C)).2.1 Φ
  .rcases j9.1 s with s|s
   .exact (bc.2 z s).V bM cZ
   .rw[b9.1 s];refine n4.V (w:=bJ) ⟨⟨bq,cV.W J⟩,m,o,D,ef.W J,?_,eh⟩ bM cZ;have:=aj.small;exact X1 eg (by show(aQ (bN f.co (ec y).1)).toNat<=4096;omega)
  .rw[Z3,bb,r9,B,Z3];rfl
  .rcases bm r A with h|h
   .exact cN r h
   .omega
  .rcases j9.1 s with s|s
   .exact bE z s
   .rw[b9.1 s];exact dN y (x7 B)
theorem fp{a:o5}{c f:List x4}(h:ag w r e c)(aW:ag w r a f):e=a:=by
 unfold ag at h aW;rw[h]at aW;exact(Obj.cells.inj (Z4 aW)).2.1
theorem cK{α:Type}{f:α->List x4}{k:Nat}{a:o5}{g:Nat}{L:List α}(h:bj f k e w g v L)(p:ag w j a cs)(q:e≠a):¬lm v j:=λr=>by
 obtain⟨rfl,c,s⟩:=dY h r;exact q (fp s p)
structure mw where
 v:x4
 l:Λ
def rY(h:mw):List x4:=[h.v]
def iJ(w:x5)(g:Nat)(v:x4)(aX:List mw):Prop:=bj rY 1 aw w g v aX/\∀h∈aX,∃a,aA .i64 av w a h.v h.l
theorem iJ.W{g:Nat}{aX:List mw}(h:iJ w g v aX)(a:Ext w I):iJ I g v aX:=⟨h.1.W a,λx e=>by
 obtain⟨f,hm⟩:=h.2 x e;exact⟨f,hm.W a⟩⟩
theorem iJ.rZ{g:Nat}{aX:List mw}(h:iJ w g v aX)(f:af S w I)(j:∀r,S r->∃e c,ag w r e c/\e≠av):∀h∈aX,∃a,aA .i64 av I a h.v h.l:=λx p=>by
 obtain⟨a,hm⟩:=h.2 x p;exact⟨a,bA hm f λr q J=>by
  obtain⟨e,c,s,y⟩:=j r J;exact ce hm s (λhe=>y he.symm) q rfl⟩
theorem iJ.V{g:Nat}{aX:List mw}(h:iJ w g v aX)(p:af S w I)(q:∀r,S r->∃e c,ag w r e c/\e≠av/\e≠aw):iJ I g v aX:=
 ⟨h.1.V p λr a J=>by
  obtain⟨e,c,f,_,j⟩:=q r J;exact cK h.1 f (λhe=>j he.symm) a,h.rZ p λr a=>by
  obtain⟨e,c,f,j,_⟩:=q r a;exact⟨e,c,f,j⟩⟩
def po(w:x5)(k:Int)(co:Λ)(x:cA):Prop:=(∃a,aA .i64 ai w a x.sv x.sc)/\∃e f,dh w x.g e f (bN co x.sc) k x.cs
theorem po.W{x:cA}(h:po w k co x)(a:Ext w I):po I k co x:=by
 obtain⟨⟨e,h1⟩,f,j,p⟩:=h;exact⟨⟨e,h1.W a⟩,f,j,p.W a⟩
theorem D6{g s:Nat}{x:x4}{cs:Λ}(h:dh w g s x aj k cs)(j:af S w I)(p:∀r,S r->∃e c,ag w r e c/\e≠c5/\e≠ai/\e≠av):dh I g s x aj k cs:=by
 obtain⟨⟨ba,gs,h1,y,z⟩,A⟩:=h;refine⟨⟨ba,gs,h1.V j λJ=>?_,bA y j λr q J=>?_,bA z j λr q J=>?_⟩,A⟩
 .obtain⟨e,c,a,f,_⟩:=p g J;exact f (fp a h1)
 .obtain⟨e,c,a,_,f,_⟩:=p r J;exact ce y a (λhe=>f he.symm) q rfl
 .obtain⟨e,c,a,_,_,f⟩:=p r J;exact ce z a (λhe=>f he.symm) q rfl
theorem po.V{x:cA}(h:po w k co x)(a:af S w I)(f:∀r,S r->∃e c,ag w r e c/\e≠c5/\e≠ai/\e≠av):po I k co x:=by
 obtain⟨⟨j,h1⟩,p,q,s⟩:=h;refine⟨⟨j,bA h1 a λr y J=>?_⟩,p,q,D6 s a f⟩;obtain⟨e,c,z,_,A,_⟩:=f r J;exact ce h1 z (λhe=>A he.symm) y rfl
def pp(w:x5)(g:Nat)(v:x4)(k:Int)(co:Λ)(L:List cA):Prop:=bj e4 2 iy w g v L/\∀x∈L,po w k co x
theorem pp.W{g:Nat}{L:List cA}(h:pp w g v k co L)(a:Ext w I):pp I g v k co L:=⟨h.1.W a,λx e=>(h.2 x e).W a⟩
theorem pp.V{g:Nat}{L:List cA}(h:pp w g v k co L)(p:af S w I)(q:∀r,S r->∃e c,ag w r e c/\e≠iy/\e≠c5/\e≠ai/\e≠av):pp I g v k co L:=
 ⟨h.1.V p λr a J=>by
  obtain⟨e,c,f,j,_⟩:=q r J;exact cK h.1 f (λhe=>j he.symm) a,λx s=>(h.2 x s).V p λr a=>by
  obtain⟨e,c,f,_,j⟩:=q r a;exact⟨e,c,f,j⟩⟩
def gq(w:x5)(h:Nat)(n:aH):Prop:=∃a e f j gr aX L nm lc gz fv2,ag w h gf [Γ a,Δ n.zero,e,f]/\ag w a cI [nm,Δ n.k,lc,fv2]/\aA .i64 ai w gz lc n.co/\
 iJ w j e aX/\aX.map (·.l)=n.unary/\pp w gr f n.k n.co L/\L.map ec=n.d9
theorem gq.W{e:Nat}{n:aH}(h:gq w e n)(a:Ext w I):gq I e n:=by
 obtain⟨f,j,p,q,gr,aX,L,nm,lc,gz,fv2,h1,r,s,x,y,z,A⟩:=h;exact⟨f,j,p,q,gr,aX,L,nm,lc,gz,fv2,h1.W a,r.W a,s.W a,x.W a,y,z.W a,A⟩
def r0(w:x5)(B:Nat)(k:Int)(co:Λ)(x:cA):Prop:=(∃f,aA .i64 ai w f x.sv x.sc)/\(∃a e,dh w x.g a e (bN co x.sc) k x.cs/\B<=a/\∀r,lw e r->B<=r)/\B<=x.g/\∀r,lw x.sv r->B<=r
theorem r0.V{x:cA}(h:r0 w B k co x)(a:af S w I)(f:∀r,S r->∃e c,ag w r e c/\e≠c5/\e≠ai/\e≠av):r0 I B k co x:=by
 obtain⟨⟨j,h1⟩,⟨p,q,s,y⟩,z⟩:=h;refine⟨⟨j,bA h1 a λr A J=>?_⟩,⟨p,q,D6 s a f,y⟩,z⟩;obtain⟨e,c,C,_,E,_⟩:=f r J;exact ce h1 C (λhe=>E he.symm) A rfl
def nt(w:x5)(B g:Nat)(v:x4)(k:Int)(co:Λ)(L:List cA):Prop:=bj e4 2 iy w g v L/\∀x∈L,r0 w B k co x
theorem nt.W{g:Nat}{L:List cA}(h:nt w B g v k co L)(a:Ext w I):nt I B g v k co L:=⟨h.1.W a,λx e=>(h.2 x e).V (a.V λ_=>False) λ_ h=>h.elim⟩
theorem nt.V{g:Nat}{L:List cA}(h:nt w B g v k co L)(p:af S w I)(q:∀r,S r->∃e c,ag w r e c/\e≠iy/\e≠c5/\e≠ai/\e≠av):nt I B g v k co L:=
 ⟨h.1.V p λr a J=>by
  obtain⟨e,c,f,j,_⟩:=q r J;exact cK h.1 f (λhe=>j he.symm) a,λx s=>(h.2 x s).V p λr a=>by
  obtain⟨e,c,f,_,j⟩:=q r a;exact⟨e,c,f,j⟩⟩
theorem D7:∃o:Obj,fH o=v6:=⟨.deferred ν,rfl⟩
theorem ghost(w:x5)(B:Nat):∃w0,Ext w0 w/\af (λr=>r<B) w w0/\∀r o,w0.heap[r]?=σ o->fH o=v2->B<=r:=by
 obtain⟨cB,f⟩:=D7;have e:∀r,(w.heap.mapIdx λr o=>if r<B then cB else o)[r]?=(w.heap[r]?).map λo=>if r<B then cB else o:=λr=>Ξ
 refine⟨{w with heap:=w.heap.mapIdx λr o=>if r<B then cB else o},⟨Ξ,λr o a J=>?_⟩,⟨Ξ,λr o a J j=>?_⟩,λr o a J=>?_⟩
 .have a:(w.heap.mapIdx λr o=>if r<B then cB else o)[r]?=σ o:=a;rw[e]at a;cases h:w.heap[r]? with
  |none=>rw[h]at a;cases a
  |some o'=>
   rw[h]at a;simp only[Y3,X7]at a;split at a
   .subst a;rw[f]at J;cases J
   .rw[a]
 .show (w.heap.mapIdx λr o=>if r<B then cB else o)[r]?=σ o;rw[e,a,Y3,rc j]
 .have a:(w.heap.mapIdx λr o=>if r<B then cB else o)[r]?=σ o:=a;rw[e]at a;cases h:w.heap[r]? with
  |none=>rw[h]at a;cases a
  |some o'=>
   rw[h]at a;simp only[Y3,X7]at a;split at a
   .subst a;rw[f]at J;cases J
   .omega
def D8(B:Nat)(w:x5)(a:Nat)(n:aH):Prop:=∃w0,gq w0 a n/\Ext w0 w/\∀r o,w0.heap[r]?=σ o->fH o=v2->B<=r
theorem Pb{y C gr gz:Nat}{n:aH}{p q nm lc fv2:x4}{aX:List mw}{L:List cA}(h1:ag w y gf [Γ j,Δ n.zero,p,q])(E:ag w j cI [nm,Δ n.k,lc,fv2])(I:aA .i64 ai w gz lc n.co)(F:iJ w C p aX)(J:aX.map (·.l)=n.unary)(G:nt w B gr q n.k n.co L)(K:L.map ec=n.d9)(M:B<=y)(N:B<=j)(O:∀r,lw lc r->B<=r)(H:∀r,lm p r\/lm q r->B<=r)(P:∀h∈aX,∀r,lw h.v r->B<=r):D8 B w y n:=by
 obtain⟨w0,z,a,Q⟩:=ghost w B;have no:∀{r:Nat},B<=r->¬r<B:=λh E=>Ω
 have s:∀{e:o5}{g:Nat}{v:x4}{l:Λ},aA .i64 e w g v l->(∀r,lw v r->B<=r)->aA .i64 e w0 g v l:=λh R=>bA h a λr f=>no (R r f);refine⟨w0,⟨j,p,q,C,gr,aX,L,nm,lc,gz,fv2,h1.V a (no M),E.V a (no N),s I O,⟨F.1.V a λr f=>no (H r (.inl f)),λh au=>?_⟩,J,⟨G.1.V a λr f=>no (H r (.inr f)),λx z=>?_⟩,K⟩,z,Q⟩
 .obtain⟨A,hm⟩:=F.2 h au;exact⟨A,s hm (P h au)⟩
 .obtain⟨⟨A,S⟩,⟨U,W,⟨⟨ba,gs,X,Y,t3⟩,t4⟩,ac,Z⟩,aa,ab⟩:=G.2 x z;exact⟨⟨A,s S ab⟩,U,W,⟨ba,gs,X.V a (no aa),s Y Z,bA t3 a λr f=>no (by have:=(bZ t3 f).1;omega)⟩,t4⟩
def j7(n:aH)(g:cQ):aH:=match g.1 with
 |[]=>{n with zero:=g.2.getD 0 0}
 |[v]=>{n with unary:=n.unary.set v.toNat g.2}
 |_=>{n with d9:=n.d9++[g]}
def D9(f:b7):aH:=⟨f.k,f.co,0,f.co.map λz=>o6 z.toNat 0,[]⟩
theorem Pc(f:b7):cf f=(fS f).foldl j7 (D9 f):=rfl
def dI(f:b7)(i:Nat):aH:=((fS f).take i).foldl j7 (D9 f)
theorem xH{f:b7}{i:Nat}{g:cQ}(h:(fS f)[i]?=σ g):dI f (i+1)=j7 (dI f i) g:=O6 h
theorem uC(f:b7):dI f (fS f).length=cf f:=by unfold dI;rw[j4,Pc]
theorem Pd(n:aH)(g:cQ):(j7 n g).k=n.k/\(j7 n g).co=n.co/\(j7 n g).unary.length=n.unary.length/\(j7 n g).d9.length<=n.d9.length+1:=by
 unfold j7;split
 .exact⟨rfl,rfl,rfl,Nat.le_succ _⟩
 .exact⟨rfl,rfl,Ξ,Nat.le_succ _⟩
 .exact⟨rfl,rfl,rfl,Ξ⟩
theorem qy(f:b7):∀i,(dI f i).k=f.k/\(dI f i).co=f.co/\(dI f i).unary.length=f.co.length/\(dI f i).d9.length<=i
 |0=>⟨rfl,rfl,by show(f.co.map _).length=_;simp,W0 _⟩
 |i+1=>by
  have a:=qy f i;cases h:(fS f)[i]? with
  |none=>
   have j:=List.getElem?_eq_none_iff.1 h;have e:dI f (i+1)=dI f i:=by unfold dI;rw[Z0 Ω,Z0 j]
   rw[e];exact⟨a.1,a.2.1,a.2.2.1,Ω⟩
  |some g=>
   rw[xH h];obtain⟨h1,p,q,r⟩:=Pd (dI f i) g;exact⟨h1.F a.1,p.F a.2.1,q.F a.2.2.1,Ω⟩
def Pe(w:x5)(f:b7)(v:x4)(I:x5):Prop:=Ext w I/\((¬ns f.d9<=16384/\∃e:Int,e≠0/\v= .tuple #[.pointer ν,Δ e])\/∃a,v= .tuple #[Γ a,Δ 0]/\D8 w.heap.size I a (cf f))
theorem ez{k:Nat}(h:cc w k v n cs):v.cells= #[v]/\v.oneCell'=v2:=by
 obtain⟨_,_,_,_,_,rfl,_⟩:=h;exact⟨rfl,rfl⟩
theorem Pf{bT:Nat}{f:b7}(ct:mv w bT f)(R:fl N f)(cu:N<=60000)(cw:f.name≠[]/\∀b∈f.name,bV b=v2):
  al v8 H8 [Γ bT] w (Pe w f):=by
 have hk:=R.k;refine aB func61 ?_;refine(Pa ct R cu cw).Y ?_;rintro _ U _ ⟨ap,⟨cz,e,he,rfl⟩|⟨aO,rfl,cB⟩⟩
 .rw[bx,bz,bL,am];exact⟨λ_=>⟨ap,.inl ⟨cz,e,he,rfl⟩⟩,λh=>ro he h⟩
 rw[bx,bz,bL,am];refine⟨λh=>ro rfl h,λ_=>?_⟩;obtain⟨lc,cC,gz,dv,M,bb,bc,bU,aR,cD,cE,cF⟩:=id cB;have dw:M.length<=256:=by
  have h1:=(rO R).2.length_eq;have ah:=(mr R).2.2;have aj:=List.length_filter_le fQ (fR f);have aS:=R.mm;have dx:M.length=(fS f).length:=by rw[<-aR,r8]
  omega
 have dy:=R.co.2.1;rw[dm (cs:=#[Γ aO,Δ 0,.slice ν 0 0,.slice ν 0 0]) Ψ];refine bp λH aa dz bd be=>?_;have be:=be;rw[aK cI.p 2 (bb.W bd) rfl,a1 aq.u (bc.ls.W bd)];refine bW.range f.co.length (λi ay=>∃s G aX,Ext U ay/\ag ay H gf [Γ aO,Δ 0,s,.slice ν 0 0]/\iJ ay G s aX/\aX.map (·.l)=(f.co.take i).map (λz=>o6 z.toNat 0)/\(∀r,lm s r->U.heap.size<=r)/\∀h∈aX,∀r,lw h.v r->U.heap.size<=r) Ω
  ⟨_,0,[],bd,be,⟨bj.nil _ _ _ _ _,λx az=>(by cases az)⟩,rfl,λr q=>(fm q).elim,λx az=>(by cases az)⟩ ?_ ?_
 .rintro i ay cG hi ⟨s,G,aX,ab,aT,bf,aC,aV,K⟩ cH;obtain⟨z,B⟩:=aD (l:=f.co) hi;have dA:=R.co.2.2 z (x7 B);have dC:aX.length=i:=by have:=congrArg Q2 aC;simp only[r8,o8]at this;omega
  refine bG Ω ?_;rw[bk aq.u ai.i Ψ (bc.ls.W ab) B];intro dD bg _ _;have cJ:=aT.W bg;rw[aK gf.p 2 cJ rfl];obtain⟨aW,rfl⟩:∃n:Nat,z=n:=⟨z.toNat,Ω⟩;refine kq aw.u av.i Ω Ω λbX dE dF bh cL=>?_;refine⟨.inl bh,?_⟩;have b1:=aA.of (b0.full (n:=aW) cL Ξ (by simp[maxLen];omega));let a:mw:=⟨.slice (σ ⟨bX,0,ν⟩) aW aW,o6 aW 0⟩;refine jc (f:=rY) (a:=a) cZ.u aw.i Ω rfl rfl λdG dH bi dJ bl cN=>?_;refine⟨.inl (bh.F bl),?_⟩;have aY:=(bg.F bh).F bl;have aZ:=bf.W aY;refine jC (f:=rY) (a:=a) cZ.u aw.i rfl aZ.1 (by simpa using cN.sl) (λu hu=>by rw[b9.1 (show u∈[a.v]from hu)];rfl) Ω Ω λbn bo dK O bq b2=>?_;have aF:∀{r:Nat},lm s r->∃c,ag bi r aw c:=λq=>by
   obtain⟨rfl,c,A⟩:=dY aZ.1 q;exact⟨c,A⟩
  have br:=aT.W aY;have b3:=br.V b2 λhe=>cK aZ.1 br Φ he;rw[bY,aU gf.p rfl];refine bt cZ.i (ez O.sl).1 (ez O.sl).2 b3 Ξ λcO b4 dL cP=>?_;rw[aP];have bs:af (λr=>lm s r\/r=H) bi cO:=(b2.Y λr _ h=>.inl h).F (b4.Y λr _ h=>.inr h);have S:∀r,(lm s r\/r=H)->∃e c,ag bi r e c/\e≠av:=λr q=>by
   rcases q with q|rfl
   .obtain⟨c,A⟩:=aF q;exact⟨_,c,A,Φ⟩
   .exact⟨_,_,br,Φ⟩
  have b5:=ap.size;have z3:=ab.size;have dM:=aY.size;refine cH _ ⟨bn,bo,aX++[a],(ab.F aY).then bs (λr q he=>?_),cP,⟨O.V b4 λr q he=>?_,λy C=>?_⟩,?_,λr q=>?_,λy C r q=>?_⟩
  .rcases he with he|rfl
   .have:=aV r he;omega
   .omega
  .have he:r=H:=he;subst he;exact cK O b3 Φ q
  .rcases j9.1 C with C|C
   .exact aZ.rZ bs S y C
   .rw[b9.1 C];have b8:=b1.W bl;exact⟨bX,bA b8 bs λr q J=>by
     obtain⟨e,c,A,cQ⟩:=S r J;exact ce b8 A (λhe=>cQ he.symm) q rfl⟩
  .rw[Z3,aC,r9,B,j6,Z3];rfl
  .rcases bq r q with h|h
   .exact aV r h
   .omega
  .rcases j9.1 C with C|C
   .exact K y C r q
   .rw[b9.1 C]at q;have cR:=(bZ b1 q).1;have:=bg.size;omega
 .rintro ay cG ⟨s,G,aX,ab,aT,bf,aC,aV,K⟩;refine cd Ω ?_;rw[j4]at aC;have cS:=bb.W ab;have cT:=bU.W ab;rw[aK cI.p 3 cS rfl,ew dO.u cT.1];refine bW.range M.length (λi ak=>∃s E G gr aX L,Ext U ak/\ag ak H gf [Γ aO,Δ (dI f i).zero,s,E]/\iJ ak G s aX/\aX.map (·.l)=(dI f i).unary/\nt ak w.heap.size gr E f.k f.co L/\L.map ec=(dI f i).d9/\(∀r,lm s r\/lm E r->U.heap.size<=r)/\∀h∈aX,∀r,lw h.v r->U.heap.size<=r) Ω
   ⟨s,_,G,0,aX,[],ab,aT,bf,aC,⟨bj.nil _ _ _ _ _,λx az=>(by cases az)⟩,rfl,λr q=>q.elim (aV r) λh=>(fm h).elim,K⟩ ?_ ?_
  rotate_left
  .rintro ak cU ⟨s,E,G,gr,aX,L,P,a2,bu,ac,bw,ad,W,K⟩;refine cd Ω ?_;have cV:M.length=(fS f).length:=by rw[<-aR,r8]
   have aG:=qy f M.length;rw[cV,uC]at a2 ac ad aG;have b5:=ap.size;refine⟨ap.F P,.inr ⟨H,rfl,Pb (gr:=gr) (nm:=ca f.name) (lc:=lc) (gz:=gz) (fv2:=cC) a2 ?_ ?_ bu ac ?_ ad Ω cD cE (λr q=>by have:=W r q;omega) λh au r q=>by have:=K h au r q;omega⟩⟩
   .rw[aG.1];exact bb.W P
   .rw[aG.2.1];exact bc.W P
   .rw[aG.1,aG.2.1];exact bw
  rintro i ak cU hi ⟨s,E,G,gr,aX,L,P,a2,bu,ac,bw,ad,W,K⟩ cW;obtain⟨y,C⟩:=aD (l:=M) hi;have cX:(fS f)[i]?=σ (ec y):=by rw[<-aR,u4,C];rfl
  have a6:=uh R _ (xG aR C);have bB:=bU.W P;obtain⟨dN,dQ,dR,dS⟩:=qy f i;refine bG Ω ?_;refine c7 (λaH=>∃s E G gr aX L,Ext U aH/\ag aH H gf [Γ aO,Δ (dI f (i+1)).zero,s,E]/\iJ aH G s aX/\aX.map (·.l)=(dI f (i+1)).unary/\nt aH w.heap.size gr E f.k f.co L/\L.map ec=(dI f (i+1)).d9/\(∀r,lm s r\/lm E r->U.heap.size<=r)/\∀h∈aX,∀r,lw h.v r->U.heap.size<=r) ?_ ?_
  .rintro aH h;rw[aP];exact cW _ h
  intro ax bD;have cY:=bB.2 y (x7 C);obtain⟨⟨c0,bE⟩,m,o,D,c1,dT,c2⟩:=cY;rw[cj rfl dO.u cM.i bB.1 hi,bC cM.p cM.i rfl (bB.1.range C)];refine bF cM.i λao dU dV c3 c4=>?_;refine b6 (vs:=e4 y) cM.i rfl rfl (uB bE) c4 λdW c6 dX cb=>?_;have bH:=c3.put c6 Ω;rw[aL cM.p 1 cb rfl];refine(DD (c1.W bH) Ω).Y ?_;rintro _ dZ _ ⟨cc,_,an⟩;obtain⟨g,c8,c9,ea,rfl,eb,da,an,db⟩:=an a6.small;have dc:dP (bN f.co y.sc):=an.2.2.1.2;have dd:=jF.eq dc db c2;subst dd;have X:=bH.F cc;have bI:=cb.W cc;have bJ:=bE.W X;rw[bx,bz,aL cM.p 0 bI rfl,a1 aq.u bJ.ls];have b5:=ap.size;have z9:=P.size;have ed:=X.size;have bK:=a2.W X;have bM:=bu.W X;have bO:=bw.W X;have bP:=xH cX;rw[bm,am];refine⟨λee=>?_,λef=>?_⟩
  .
   have ae:y.sc=[]:=Z5 Ω;have I:dI f (i+1)={dI f i with zero:=y.cs.getD 0 0}:=by rw[bP];unfold j7;simp only[ec,ae]
   refine(n1 an).Y ?_;rintro cf de _ ⟨a7,eg,eh,df⟩;have ei:y.cs.length=1:=by have:=a6.len;simpa[ec,ae,bN,aQ]using this
   have dg:y.cs[0]?=σ (y.cs.getD 0 0):=by rw[u5,x8 Ω];rfl
   rw[fM (y:=0) (i:=0) rfl aw.u av.i Ψ df.ls dg,bY,aU gf.p rfl];have cg:=bK.W a7;refine bt av.i rfl rfl cg Ξ λej bQ ek dh=>?_;have S:∀r,r=H->∃e c,ag de r e c/\e≠iy/\e≠c5/\e≠ai/\e≠av/\e≠aw:=λr q=>by
    subst q;exact⟨_,_,cg,Φ,Φ,Φ,Φ,Φ⟩
   refine bD _ ⟨s,E,G,gr,aX,L,((P.F X).F a7).put bQ Ω,?_,(bM.W a7).V bQ (λr q=>?_),by rw[I];exact ac,(bO.W a7).V bQ (λr q=>?_),by rw[I];exact ad,W,K⟩
   .rw[I];exact dh
   .obtain⟨e,c,A,_,_,_,h1,ah⟩:=S r q;exact⟨e,c,A,h1,ah⟩
   .obtain⟨e,c,A,h1,ah,aj,aS,_⟩:=S r q;exact⟨e,c,A,h1,ah,aj,aS⟩
  rw[bm,am];refine⟨λh1=>?_,λem=>?_⟩
  .
   obtain⟨v,ae⟩:∃v,y.sc=[v]:=V4.1 Ω;have en:=a6.scope.1 v (by show v∈y.sc;rw[ae];exact .head _);have eo:=a6.d6 v (by show v∈y.sc;rw[ae];exact .head _);have I:dI f (i+1)={dI f i with unary:=(dI f i).unary.set v.toNat y.cs}:=by rw[bP];unfold j7;simp only[ec,ae]
   intro ep Y _ _;have ch:=bK.W Y;have di:=bI.W Y;rw[aK gf.p 2 ch rfl,aL cM.p 0 di rfl];refine rj rfl aq.u ai.i (bJ.ls.W Y) (show y.sc[0]?=σ v by rw[ae];rfl) λb o dk=>?_;rw[aE Ψ dk];refine(n1 (an.W Y)).Y ?_;rintro cf dl _ ⟨aI,dn,er,aJ⟩;refine⟨.inl aI,?_⟩;have aM:=(bM.W Y).W aI;have es:aX.length=f.co.length:=by have:=congrArg Q2 ac;rw[r8]at this;omega
   obtain⟨u,hu⟩:=aD (l:=aX) (i:=v.toNat) Ω;rw[cj (i:=v.toNat) Ω cZ.u aw.i aM.1 Ω];let a:mw:=⟨cf,y.cs⟩;refine kZ (j:=0) (a:=u) (a':=a) aw.i aJ.ls.cells.1 aJ.ls.cells.2 aM.1 hu rfl Ω λet aN eu dp=>?_;have ci:=ch.W aI;have aF:∀{r:Nat},lm s r->∃c,ag dl r aw c:=λq=>by
    obtain⟨rfl,c,A⟩:=dY aM.1 q;exact⟨c,A⟩
   refine bD _ ⟨s,E,G,gr,aX.set v.toNat a,L,(((P.F X).F Y).F aI).then aN (λr q he=>by have:=W r (.inl he);omega),?_,⟨dp,λz B=>?_⟩,?_,((bO.W Y).W aI).V aN (λr q=>?_),by rw[I];exact ad,W,λz B r q=>?_⟩
   .rw[I];exact ci.V aN λhe=>cK aM.1 ci Φ he
   .rcases W8 B with B|rfl
    .exact aM.rZ aN (λr q=>by obtain⟨c,A⟩:=aF q;exact⟨_,c,A,Φ⟩) z B
    .exact⟨dn,bA aJ aN λr q J=>by
      obtain⟨c,A⟩:=aF J;exact ce aJ A Φ q rfl⟩
   .rw[I,T2,ac]
   .obtain⟨c,A⟩:=aF q;exact⟨_,c,A,Φ,Φ,Φ,Φ⟩
   .rcases W8 B with B|rfl
    .exact K z B r q
    .have cR:=(bZ aJ q).1;have:=Y.size;omega
  .
   have I:dI f (i+1)={dI f i with d9:=(dI f i).d9++[ec y]}:=by
    rw[bP];unfold j7;have ck:2<=(ec y).1.length:=by show 2<=y.sc.length;omega
    generalize ec y=g at ck ⊢;obtain⟨sc,cs⟩:=g
    match sc,ck with
    |_::_::_,_=>rfl
   intro ev Z _ _;have cl:=bK.W Z;have dq:=bI.W Z;have cm:=bJ.W Z;rw[aK gf.p 3 cl rfl,aL cM.p 0 dq rfl,dm (cs:=#[y.sv,Γ g]) (by obtain⟨_,_,_,e⟩:=dj bE.ls;rw[e];kernel_rfl)];let a:cA:=⟨y.sv,g,y.sc,y.cs⟩;refine jc (f:=e4) (a:=a) l7.u iy.i Ω rfl rfl λey eA bR eB Q dr=>?_;refine⟨.inl Q,?_⟩;have a8:=(bO.W Z).W Q;have ds:=(bM.W Z).W Q;have bS:=cl.W Q;have eC:L.length<=256:=by have:=congrArg Q2 ad;rw[r8]at this;omega
   refine jC l7.u iy.i rfl a8.1 (by simpa using dr.sl) (uB (cm.W Q)) Ω Ω λbn bo eD O bq cn=>?_;have cp:=bS.V cn λhe=>cK a8.1 bS Φ he;rw[bY,aU gf.p rfl];refine bt l7.i (ez O.sl).1 (ez O.sl).2 cp Ξ λdt cq eE du=>?_;have ba:af (λr=>lm E r\/r=H) bR dt:=(cn.Y λr _ h=>.inl h).F (cq.Y λr _ h=>.inr h);have S:∀r,(lm E r\/r=H)->∃e c,ag bR r e c/\e≠c5/\e≠ai/\e≠av/\e≠aw:=λr q=>by
    rcases q with q|rfl
    .obtain⟨rfl,c,A⟩:=dY a8.1 q;exact⟨_,c,A,Φ,Φ,Φ,Φ⟩
    .exact⟨_,_,bS,Φ,Φ,Φ,Φ⟩
   have eF:=(Z.F Q).size;refine bD _ ⟨s,bn,G,bo,aX,L++[a],(((P.F X).F Z).F Q).then ba (λr q he=>?_),?_,ds.V ba (λr q=>?_),by rw[I];exact ac,⟨O.V cq λr q he=>?_,λz B=>?_⟩,?_,λr q=>?_,K⟩
   .rcases he with he|rfl
    .have:=W r (.inr he);omega
    .omega
   .rw[I];exact du
   .obtain⟨e,c,A,_,_,aj,aS⟩:=S r q;exact⟨e,c,A,aj,aS⟩
   .have he:r=H:=he;subst he;exact cK O cp Φ q
   .have cr:∀r,(lm E r\/r=H)->∃e c,ag bR r e c/\e≠c5/\e≠ai/\e≠av:=λr q=>by
     obtain⟨e,c,A,h1,ah,aj,_⟩:=S r q;exact⟨e,c,A,h1,ah,aj⟩
    rcases j9.1 B with B|B
    .exact (a8.2 z B).V ba cr
    .rw[b9.1 B];have eH:=bH.size;refine r0.V ⟨⟨c0,cm.W Q⟩,⟨c8,c9,?_,Ω,λr q=>by have:=da.2 r q;omega⟩,by show w.heap.size<=g;omega,cF y (x7 C)⟩ ba cr;exact(an.W Z).W Q
   .rw[I,Z3,ad];rfl
   .rcases q with q|q
    .exact W r (.inl q)
    .rcases bq r q with h|h
     .exact W r (.inr h)
     .omega
theorem xI{z:Array x4}{k:Nat}(a:z.size=k):(Y1.zeroCells z n).toList=dU z (n*k):=by
 unfold Y1.zeroCells dU;rw[a]
theorem Pg{P:V3}{t p A:o5}{B kn:j0}{b g k m:Nat}{z:x4}{xs:List x4}(Z:y=(m:Int))(N:P.underlying t=σ (.slice e))(O:P.underlying p=σ (.int kn))(hi:aR P e k b z)(C:z.cells.size=k)(aw:0<k)(h1:∀u∈dU z.cells (m*k),u.oneCell'=v2)(h:b0 w g e k v n xs)(aa:0<m)(ab:(n+m)*b<=140737488355328)(ac:n+m<=9223372036854775807)(Q:∀E ad I,b0 I ad e k E (n+m) (xs++dU z.cells (m*k))->(∀r,lm E r->lm v r\/w.heap.size<=r)->af (λr=>lm v r) w I->K E I):aF P (Z9 #[t,p] A #[v,.int B y]) w K:=by
 subst Z;obtain⟨i,hi,F,rfl,R⟩:=hi;obtain⟨S,hm⟩:=h;have ae:=p5 z.cells (m*k);have ah:m*i.bytes<=281474976710656:=by
  have:m*i.bytes<=(n+m)*i.bytes:=X4 _ Ω;omega
 have grow:∀(base:Option Addr)(cap:Nat),v= .slice base n cap->(Y1.firstCells i.size n (.slice base n cap)).run P w.drew= .ok xs.toArray w.drew->cap<n+m->aF P (Z9 #[t,p] A #[v,.int B (m:Int)]) w K:=λbase cap ai aj f=>by
  subst ai;have G:=Lib.run_append_grow_zeros (P:=P) w t p A e i z B kn N O hi R base n cap xs aj m aa Ω f Ω ah (growslice_fits f ab);have T:n+m<=grownCap w (n+m) cap e:=grownCap_ge w _ _ _;have ak:grownCap w (n+m) cap e<=maxLen:=grownCap_le_maxLen w (n+m) cap e (by simpa[maxLen]using ac);have ax:=p5 z.cells ((grownCap w (n+m) cap e-(n+m))*k);have ay:(n+m)*k<=grownCap w (n+m) cap e*k:=X4 _ T;have al:(n+m)*k=n*k+m*k:=U6 _ _ _;have az:(grownCap w (n+m) cap e-(n+m))*k=grownCap w (n+m) cap e*k-(n+m)*k:=Nat.sub_mul _ _ _;refine .of G ((qN w _ (Nat.le_succ _)).F (qP _ _)) (Q _ w.heap.size _ ⟨by rw[o9];omega,.inr ⟨_,xs++dU z.cells (m*k)++dU z.cells ((grownCap w (n+m) cap e-(n+m))*k),rfl,?_,T,ak,?_,?_⟩⟩ (λr H=>?_) (((sG w _).F (qO _ _)).V _))
  .have:=heap_alloc_new w.drew (.cells (xs.toArray++Y1.zeroCells z.cells m++Y1.zeroCells z.cells (grownCap w (n+m) cap e-(n+m))) e);unfold ag;rw[show w.drew.heap.size=w.heap.size from rfl]at this;rw[this];congr 2;apply Array.toList_inj.1;rw[Array.toList_append,Array.toList_append,xI C,xI C]
  .rw[o9,o9];omega
  .rw[List.take_append_of_le_length (by rw[o9];omega),Z0 (by rw[o9];omega)]
  .obtain⟨a,am,c,q,s⟩:=H;cases q;exact .inr (by simp at s;omega)
 rcases hm with⟨rfl,an⟩|⟨cap,cs,rfl,x,q,s,J,U⟩
 .subst an;have:xs=[]:=Z5 (by simpa using S);subst this;exact grow ν 0 rfl (run_firstCells_none w.drew i.size 0 0 0) Ω
 .by_cases f:n+m<=cap
  .have W:(n+m)*k<=cs.length:=by rw[J];exact X4 _ f
   have al:(n+m)*k=n*k+m*k:=U6 _ _ _;have L:=run_storeCells_cells (P:=P) g (0+n*k) (dU z.cells (m*k)) 0 w (λj X=>by
    rw[ae]at X;rw[Nat.add_zero,X6,x.cell (x8 (show n*k+j<cs.length by omega))];rfl) (λj _=>x.frozen _ _) h1
   simp only[Nat.add_zero]at L;have hw:W5.wrap (m:Int)=m:=by rw[j0.wrap_i64];omega
   have ao:¬((m:Int)<0):=Ω
   have ap:¬(281474976710656<(m:Int)*(i.bytes:Int)):=by rw[<-Int.natCast_mul];omega
   have M:¬(m*i.size=0):=Nat.mul_ne_zero Ω Ω;have aq:(Y1.zeroCells z.cells m).toList=dU z.cells (m*k):=xI C;have G:(Z9 #[t,p] A #[.slice (σ ⟨g,0,ν⟩) n cap,.int B (m:Int)]).run P w= .ok (.slice (σ ⟨g,0,ν⟩) (n+m) cap) (w.setCells g (0+n*k) (dU z.cells (m*k))):=by
    simp[Z9,run_underlying N,run_underlying O,sizeOf,typeInfo,zeroValue,hi,R,asInt,asIntOf,hw,f,ao,M,ap,aq,Addr.add_lit,F];simp only[X6]at L;rw[L];simp;intro au;exact ro au (by rw[F]at M;exact M)
   obtain⟨av,Y⟩:=oW (dU z.cells (m*k)) cs (0+n*k) w x;refine .of G (Y.cB x) (Q _ g _ ⟨by rw[o9];omega,.inr ⟨cap,_,rfl,av,f,s,by rw[nf,J],?_⟩⟩ (λr H=>.inl ?_) (Y.V.Y λr _ he=>⟨_,_,_,rfl,he.symm⟩))
   .rw[tX Ω W,nO (by rw[o8];omega),X6,List.take_take,List.drop_eq_nil_of_le (by rw[o8];omega),U2,Nat.min_eq_left Ω,U]
   .obtain⟨a,am,c,q,s⟩:=H;cases q;exact⟨_,_,_,rfl,s⟩
  .refine grow _ cap rfl ?_ Ω;have W:n*k<=cs.length:=by rw[J];exact X4 _ q
   refine run_firstCells_some w.drew i.size n _ n cap xs (by rw[F];exact S) λj u hu=>?_;rw[T9,X6];have X:=(x6.1 hu).1;rw[<-U,Y6 Ω]at hu;exact x.cell hu
def kA(c:Cell):List x4:=[Δ c.v,.int .u64 (c.st:Int)]
def r1(o:mi):List x4:=[Δ (o.i:Int),Δ o.c.v,.int .u64 (o.c.st:Int)]
def qz(m:tx):List x4:=[Δ (m.olds:Int),Δ (m.cells:Int),.int .u64 (m.st:Int)]
def dz(w:x5)(ae:Nat)(A:ah)(t:az):Prop:=A ae/\∃e go dq ba a er,ag w ae gB [ba,a,er,.int .u64 (t.ku:Int)]/\bj kA 2 e0 w e ba t.cells/\bj r1 3 na w go a t.olds/\bj qz 3 gP w dq er t.marks/\
 ∀r,lm ba r\/lm a r\/lm er r->A r
theorem dz.V{S A:ah}{t:az}(h:dz w ae A t)(e:af S w I)(f:∀r,A r->¬S r):dz I ae A t:=by
 obtain⟨p,q,go,dq,ba,s,er,h1,x,y,z,j⟩:=h;exact⟨p,q,go,dq,ba,s,er,h1.V e (f _ p),x.V e λr a=>f r (j r (.inl a)),y.V e λr a=>f r (j r (.inr (.inl a))),z.V e λr a=>f r (j r (.inr (.inr a))),j⟩
theorem dz.W{A:ah}{t:az}(h:dz w ae A t)(a:Ext w I):dz I ae A t:=h.V (a.V λ_=>False) λ_ _ h=>h
theorem dz.Y{A B:ah}{t:az}(h:dz w ae A t)(a:∀r,A r->B r):dz w ae B t:=by
 obtain⟨e,f,go,dq,ba,j,er,h1,p,q,s,x⟩:=h;exact⟨a _ e,f,go,dq,ba,j,er,h1,p,q,s,λr y=>a r (x r y)⟩
def Grow(A:ah)(w:x5)(aM:ah)(I:x5):Prop:=af A w I/\(∀r,aM r->A r\/w.heap.size<=r)/\∀r,A r->aM r
theorem Grow.refl(A:ah)(w:x5):Grow A w A w:=⟨af.refl _ _,λ_ h=>.inl h,λ_ h=>h⟩
theorem Grow.W{A:ah}(h:Ext w I):Grow A w A I:=⟨h.V _,λ_ h=>.inl h,λ_ h=>h⟩
theorem Grow.F{A aM e:ah}{f:x5}(h:Grow A w aM I)(k:Grow aM I e f):Grow A w e f:=
 ⟨⟨X1 h.1.size k.1.size,λr o a J j=>k.1.aY r o (h.1.aY r o a J j) J λp=>(h.2.1 r p).elim j λq=>by
  have:=(b8.1 a).1;omega⟩,λr a=>by
  rcases k.2.1 r a with h1|h1
  .exact h.2.1 r h1
  .have:=h.1.size;exact .inr Ω,λr a=>k.2.2 r (h.2.2 r a)⟩
theorem Ea{A:ah}{t:az}(h:dz w ae A t):al v8 Jb [Γ ae] w λv I=>v=Δ (t.cells.length:Int)/\Ext w I:=by
 obtain⟨e,f,go,dq,ba,j,er,h1,a,q,r,s⟩:=h;refine aB func158 ?_;rw[dg q4.u];simp only[Y2,a6];rw[aK gB.p 0 h1 rfl,ew jq.u a];exact⟨rfl,Ext.refl _⟩
theorem Eb{A:ah}{t:az}{i:Int}(h:dz w ae A t):al v8 Iv [Γ ae,Δ i] w λv I=>v= .bool (decide (0<=i/\i<t.cells.length))/\Ext w I:=by
 refine aB func87 ?_;refine aZ (λv U=>v= .bool (decide (0<=i/\i<t.cells.length))/\Ext w U) (λ_ _ h=>h) ?_;intro ax a;rw[cP,am];refine⟨λe=>?_,λe=>a _ _ ⟨by rw[s2];omega,Ext.refl _⟩⟩;refine(Ea h).Y ?_;rintro _ U _ ⟨rfl,f⟩;rw[aS];refine a _ _ ⟨?_,f⟩;congr 1;rw[U8,sp,sp];exact⟨λh=>⟨Ω,h⟩,λh=>h.2⟩
theorem Ph{A:ah}{t:az}{i:Nat}{c:Cell}(h:dz w ae A t)(j:y=(i:Int))(a:t.cells[i]?=σ c):al v8 Ar [Γ ae,Δ y] w λv I=>v=Δ c.v/\Ext w I:=by
 have q:=(x6.1 a).1;refine aB func38 ?_;refine(Eb h).Y ?_;rintro _ U _ ⟨rfl,e⟩;rw[rs Ω,bM,X3,a6];obtain⟨r,s,go,dq,ba,x,er,h1,f,z,B,C⟩:=h.W e;rw[aK gB.p 0 h1 rfl,cj j jq.u e0.i f q,aU e0.p rfl,aE Ψ (f.range a 0 _ rfl)];exact⟨rfl,e⟩
theorem pq{A:ah}{t:az}{i:Nat}{x:Int}(h:dz w ae A t)(e:y=(i:Int))(a:t.b1[i]?=σ x):al v8 Ar [Γ ae,Δ y] w λv I=>v=Δ x/\Ext w I:=by
 unfold az.b1 at a;rw[u4]at a;obtain⟨c,f,rfl⟩:=Y9.1 a;exact Ph h e f
def n5(t:az):Prop:=t.cells.length<=100000000/\t.olds.length<=100000000/\t.marks.length<=100000000
theorem uD{q go dq:Nat}{ba a er:x4}{t:az}{x:x4}(h1:ag w ae gB [ba,a,er,x])(f:bj kA 2 e0 w q ba t.cells)(h:bj r1 3 na w go a t.olds)(j:bj qz 3 gP w dq er t.marks):
  (¬lm ba ae/\¬lm a ae/\¬lm er ae)/\(∀r,lm ba r->¬lm a r/\¬lm er r)/\∀r,lm a r->¬lm ba r/\¬lm er r:=by
 refine⟨⟨cK f h1 Φ,cK h h1 Φ,cK j h1 Φ⟩,λr p=>?_,λr p=>?_⟩
 .obtain⟨rfl,c,e⟩:=dY f p;exact⟨cK h e Φ,cK j e Φ⟩
 .obtain⟨rfl,c,e⟩:=dY h p;exact⟨cK f e Φ,cK j e Φ⟩
theorem uE{A:ah}{t:az}{i:Nat}{x:Int}(h:dz w ae A t)(bk:y=(i:Int))(N:i<t.cells.length)(au:n5 t):al v8 AB [Γ ae,Δ y,Δ x] w λv I=>v=Δ 0/\∃aM,Grow A w aM I/\dz I ae aM (t.set i x):=by
 subst bk;obtain⟨c,C⟩:=aD (l:=t.cells) N;refine aB func129 ?_;rw[dg q4.u];simp only[Y2,a6];refine(Eb h).Y ?_;rintro _ U _ ⟨rfl,J⟩;rw[rs Ω,bM,X3,a6];obtain⟨aV,O,go,dq,ba,P,er,h1,aW,aw,Z,ac⟩:=id (h.W J);have bl:∀{aa:x5}{aM:ah}{bs:az}{st:Nat}{K:x5->Prop},dz aa ae aM bs->bs.cells[i]?=σ ⟨c.v,st⟩->
   (∀q,af aM aa q->dz q ae aM {bs with cells:=bs.cells.set i ⟨x,st⟩}->K q)->
   (ab v8 (bT (Γ ae)) aa λt77=>
   ab v8 (u7 gB t77 0) aa λbm=>
   ab v8 (u6 jq bm) aa λbn=>
   ab v8 (c9 jq bn (Δ (i:Int))) aa λbo=>
   ab v8 (u7 e0 bo 0) aa λbp=>
   aF v8 (l9 av bp (Δ x)) aa λ(_:Unit)q=>
   K q):=by
  intro aa aM bs st K ay ad bq;obtain⟨aA,O,go,dq,ba,P,er,E,G,Q,R,S⟩:=ay;have br:=(x6.1 ad).1;rw[aK gB.p 0 E rfl,cj rfl jq.u e0.i G br,aU e0.p rfl];obtain⟨⟨W,aC,aG⟩,H,_⟩:=uD E G Q R;refine kZ (f:=kA) (j:=0) (a:=⟨c.v,st⟩) (a':=⟨x,st⟩) av.i rfl rfl G ad rfl Ω λq B bu bw=>?_;exact bq q (B.Y λr _ e=>S r (.inl e)) ⟨aA,O,go,dq,ba,P,er,E.V B W,bw,Q.V B λr e he=>(H r he).1 e,R.V B λr e he=>(H r he).2 e,S⟩
 refine c7 (λaa=>∃aM bs st,Grow A U aM aa/\dz aa ae aM bs/\bs.cells[i]?=σ ⟨c.v,st⟩/\t.set i x={bs with cells:=bs.cells.set i ⟨x,st⟩}) ?_ ?_
 .rintro aa ⟨aM,bs,st,bx,ay,ad,aH⟩;refine bl ay ad λq B aw=>⟨by trivial,aM,?_,by rw[aH];exact aw⟩;exact(Grow.W J).F (bx.F ⟨B,λ_ h=>.inl h,λ_ h=>h⟩)
 intro ax aI;rw[aK gB.p 2 h1 rfl,ew ti.u Z,bU,am];have aX:∀(hm:t.marks.getLast? =ν\/∃m,t.marks.getLast? =σ m/\¬(c.st<m.st/\i<m.cells)),t.set i x={t with cells:=t.cells.set i ⟨x,c.st⟩}:=λhm=>by
  unfold az.set;rw[C];rcases hm with hm|⟨m,hm,bz⟩
  .simp only[hm]
  .simp only[hm];rw[rc bz]
 refine⟨λbZ=>?_,λb0=>aI _ ⟨A,t,c.st,Grow.refl _ _,h.W J,C,aX (.inl ?_)⟩⟩
 rotate_left
 .rw[List.getLast?_eq_none_iff];exact Z5 Ω
 obtain⟨m,hm⟩:=aD (l:=t.marks) (i:=t.marks.length-1) Ω;have aY:t.marks.getLast? =σ m:=by rw[List.getLast?_eq_getElem?];exact hm
 have b1:=au.2.2;rw[aK gB.p 2 h1 rfl,dx,m1 Ω Ω,cj (i:=t.marks.length-1) Ω ti.u gP.i Z Ω,bC gP.p gP.i rfl (Z.range hm)];refine bF gP.i λao aa b2 a1 bA=>?_;refine b6 (vs:=qz m) gP.i rfl rfl (by intro v X;simp[qz]at X;rcases X with rfl|rfl|rfl<;>rfl) bA λq B bu bB=>?_;have a2:=a1.put B Ω;have ai:∀{I:x5},Ext q I->ag I ao gP (qz m):=λJ=>bB.W J;refine aZ (λv aJ=>v= .bool (decide (c.st<m.st/\i<m.cells))/\Ext q aJ) ?_ ?_
 rotate_left
 .intro b3 a7;intro aJ s _ _;have L:=a2.F s;have a8:=ai s;have M:=aW.W L;rw[aK gB.p 0 (h1.W L) rfl,cj rfl jq.u e0.i M N,aU e0.p rfl,aE Ψ (M.range C 1 _ rfl),aL gP.p 2 a8 rfl,aS,am];refine⟨λbb=>?_,λbc=>a7 _ _ ⟨by rw[s2];omega,s⟩⟩;rw[aL gP.p 1 a8 rfl,aS];refine a7 _ _ ⟨?_,s⟩;congr 1;rw[U8,sp,sp];exact⟨λh=>⟨Ω,Ω⟩,λh=>Ω⟩
 rintro _ aJ ⟨rfl,s⟩;have L:=a2.F s;rw[am];refine⟨λbb=>?_,λbc=>aI _ ⟨A,t,c.st,Grow.W L,(h.W J).W L,C,aX (.inr ⟨m,aY,bc⟩)⟩⟩;intro b4 aj _ _;have Y:=L.F aj;have aN:=h1.W Y;have M:=aW.W Y;have bD:=aw.W Y;have bE:=Z.W Y;rw[bY,aU gB.p rfl,aE Ψ (aN.cell rfl),bY,aU gB.p rfl,aE Ψ (aN.cell rfl),cj rfl jq.u e0.i M N,bC e0.p e0.i rfl (M.range C)];rw[dm (cs:=#[Δ (i:Int),Δ c.v,.int .u64 (c.st:Int)]) Ψ];let a:mi:=⟨i,c⟩;have bG:∀u∈r1 a,u.oneCell'=v2:=by intro v X;simp[r1]at X;rcases X with rfl|rfl|rfl<;>rfl
 refine jc (f:=r1) (a:=a) oQ.u na.i Ω rfl rfl λb5 b7 bd b8 z bH=>?_;refine⟨.inl z,?_⟩;have be:=Y.F z;have aO:=aN.W z;have bf:=M.W z;have aP:=bD.W z;have bg:=bE.W z;obtain⟨⟨W,aC,aG⟩,H,bI⟩:=uD aO bf aP bg;refine jC oQ.u na.i rfl aP (by simpa using bH.sl) bG (by have:=au.2.1;omega) (by have:=au.2.1;omega) λbJ bK b9 ak bL bh=>?_;rw[bY,aU gB.p rfl];have bi:=aO.V bh aC;refine bt oQ.i (ez ak.sl).1 (ez ak.sl).2 bi Ξ λan bj ca aQ=>?_;have aQ:=aQ;have ap:af (λr=>lm P r\/r=ae) bd an:=(bh.Y λr _ h=>.inl h).F (bj.Y λr _ h=>.inr h);have bN:=bf.V ap λr e he=>he.elim (λhe=>(H r e).1 he) λhe=>W (he▸e);have bO:=bg.V ap λr e he=>he.elim (λhe=>(bI r he).2 e) λhe=>aG (he▸e);have bP:=ak.V bj λr e he=>by
  have he:r=ae:=he;subst he;exact cK ak bi Φ e
 have cb:=be.size;have cc:=a1.size;let aR:ah:=λr=>A r\/bd.heap.size<=r;have bQ:Grow A U aR an:=⟨(be.V A).F (ap.Y λr _ he=>he.elim (λhe=>ac r (.inr (.inl he))) λhe=>he▸aV),λr e=>e.imp id λe=>Ω,λr e=>.inl e⟩;have bR:dz an ae aR {t with olds:=t.olds++[a]}:=⟨.inl aV,O,bK,dq,ba,bJ,er,aQ,bN,bP,bO,λr e=>by
  rcases e with e|e|e
  .exact .inl (ac r (.inl e))
  .rcases bL r e with h|h
   .exact .inl (ac r (.inr (.inl h)))
   .exact .inr h
  .exact .inl (ac r (.inr (.inr e)))⟩
 have bS:ag an ao gP (qz m):=(ai ((s.F aj).F z)).V ap λhe=>by
  rcases he with he|he
  .obtain⟨rfl,cd,bV⟩:=dY aP he;exact ro (fp bV (ai ((s.F aj).F z))) Φ
  .subst he;exact ro (fp aO (ai ((s.F aj).F z))) Φ
 intro ce aT _ _;have bW:=bR.W aT;obtain⟨aA,O,go,dq,ba,P,er,E,G,Q,R,S⟩:=bW;rw[aK gB.p 0 E rfl,aL gP.p 2 (bS.W aT) rfl,cj rfl jq.u e0.i G N,aU e0.p rfl];obtain⟨⟨W,aC,aG⟩,H,_⟩:=uD E G Q R;refine kZ (a':=⟨c.v,m.st⟩) fK.i rfl rfl G C rfl Ω λcf aq cg bX=>?_;have aH:t.set i x={t with olds:=t.olds++[a],cells:=t.cells.set i ⟨x,m.st⟩}:=by
  unfold az.set;rw[C];simp only[aY];rw[ms bb]
 refine aI _ ⟨aR,{t with olds:=t.olds++[a],cells:=t.cells.set i ⟨c.v,m.st⟩},m.st,bQ.F ((Grow.W aT).F ⟨aq.Y λr _ e=>S r (.inl e),λ_ h=>.inl h,λ_ h=>h⟩),⟨aA,O,go,dq,ba,P,er,E.V aq W,bX,Q.V aq λr e he=>(H r he).1 e,R.V aq λr e he=>(H r he).2 e,S⟩,?_,?_⟩
 .show (t.cells.set i _)[i]?=_;rw[n9 N]
 .rw[aH];simp only[List.set_set]
theorem Ec(n:Nat):dU (#[Δ 0,.int .u64 0]:Array x4) (n*2)=(o6 n (⟨0,0⟩:Cell)).flatMap kA:=by
 have:∀n,dU (#[Δ 0,.int .u64 0]:Array x4) (n*2)=(o6 n (⟨0,0⟩:Cell)).flatMap kA:=by
  intro n;apply X0;intro j;have r:((o6 n (⟨0,0⟩:Cell)).flatMap kA).length=n*2:=by simp[kA]
  by_cases p:j<n*2
  .have q:(dU (#[Δ 0,.int .u64 0]:Array x4) (n*2))[j]?=σ (if j % 2=0 then Δ 0 else .int .u64 0):=by
    unfold dU;rw[Q0,Array.getElem?_map,Array.getElem?_range,ms p];rcases Nat.mod_two_eq_zero_or_one j with h|h<;>simp[h]
   have e:=qp (f:=kA) (k:=2) (L:=o6 n (⟨0,0⟩:Cell)) (i:=j / 2) (j:=j % 2) (a:=⟨0,0⟩) (v:=if j % 2=0 then Δ 0 else .int .u64 0) (λa _=>rfl) (by rw[List.getElem?_replicate,ms Ω]) (by rcases Nat.mod_two_eq_zero_or_one j with h|h<;>simp[h,kA]);rw[show j / 2*2+j % 2=j by omega]at e;rw[q,e]
  .rw[Y5 (by rw[p5];omega),Y5 Ω]
 exact this n
theorem Pj{A:ah}{t:az}(h:dz w ae A t)(Q:n5 t)(ac:n<=100000000):al v8 JF [Γ ae,Δ (n:Int)] w λv I=>v=Δ (t.cells.length:Int)/\∃aM,Grow A w aM I/\dz I ae aM (t.grow n):=by
 refine aB func202 ?_;refine(Ea h).Y ?_;rintro _ U _ ⟨rfl,f⟩;refine c7 (λaa=>∃aM,Grow A w aM aa/\dz aa ae aM (t.grow n)) (λaa h=>⟨rfl,h⟩) ?_;intro ax y;refine aZ (λv aa=>v= .bool (decide (0<n))/\U=aa) ?_ ?_
 rotate_left
 .intro ad R;rw[wB q4.u];simp only[Y2,W6,bQ];rw[bU];refine R _ _ ⟨?_,rfl⟩;congr 1;rw[U8,sp,sp];omega
 rintro _ _ ⟨rfl,rfl⟩;rw[am];refine⟨λB=>?_,λB=>y _ ⟨A,Grow.W f,?_⟩⟩
 rotate_left
 .have:n=0:=Ω
  subst this;have e:t.grow 0=t:=by unfold az.grow;simp
  rw[e];exact h.W f
 obtain⟨C,ag,go,dq,ba,S,er,h1,E,G,H,j⟩:=id (h.W f);rw[aK gB.p 0 h1 rfl];obtain⟨⟨W,X,Y⟩,J,aj⟩:=uD h1 E G H;have ak:=Q.1;refine Pg (k:=2) rfl jq.u ai.u e0.i rfl Ω (λu hu=>?_) E.1 B Ω Ω λK L aa M Z N=>?_
 .exact DU Φ Φ u hu
 rw[bY,aU gB.p rfl];have q:bj kA 2 e0 aa L K (t.cells++o6 n ⟨0,0⟩):=by
  refine⟨?_,λ_ _=>rfl⟩;have e:(x4.agg #[Δ 0,.int .u64 0]).cells= #[Δ 0,.int .u64 0]:=rfl;rw[e,Ec]at M;rw[o9,List.length_replicate,List.flatMap_append];exact M
 have O:=h1.V N W;refine bt jq.i (ez q.sl).1 (ez q.sl).2 O Ξ λab P an s=>?_;have s:=s;have x:af (λr=>lm ba r\/r=ae) U ab:=(N.Y λr _ h=>.inl h).F (P.Y λr _ h=>.inr h);have z:=f.size;refine y _ ⟨λr=>A r\/U.heap.size<=r,(Grow.W f).F ⟨x.Y λr _ he=>he.elim (λhe=>j r (.inl he)) λhe=>he▸C,λr a=>a,λr a=>.inl a⟩,.inl C,L,go,dq,K,S,er,s,q.V P λr a he=>?_,G.V x λr a he=>he.elim (λhe=>(J r he).1 a) λhe=>X (he▸a),H.V x λr a he=>he.elim (λhe=>(J r he).2 a) λhe=>Y (he▸a),λr a=>?_⟩
 .have he:r=ae:=he;subst he;exact cK q O Φ a
 .rcases a with a|a|a
  .exact (Z r a).imp (λh=>j r (.inl h)) id
  .exact .inl (j r (.inr (.inl a)))
  .exact .inl (j r (.inr (.inr a)))
theorem Pk(s:n<=1000):al v8 IM [Δ (n:Int)] w λv I=>Ext w I/\∃ae,v=Γ ae/\dz I ae (eU w.heap.size) ⟨o6 n ⟨0,0⟩,[],[],0⟩:=by
 refine aB func128 ?_;rw[tm,Int.max_eq_left Ω];refine A7 jq.u e0.i Ω Ω λg U x h f=>?_;rw[dm (cs:=#[.slice (σ ⟨g,0,ν⟩) n n,.slice ν 0 0,.slice ν 0 0,.int .u64 0]) Ψ];refine bp λae aa y j q=>?_;have z:=h.size;have e:(x4.agg #[Δ 0,.int .u64 0]).cells= #[Δ 0,.int .u64 0]:=rfl;have f:ag U g e0 ((o6 n (⟨0,0⟩:Cell)).flatMap kA):=by rw[<-Ec,<-e];exact f
 have p:bj kA 2 e0 U g (.slice (σ ⟨g,0,ν⟩) n n) (o6 n ⟨0,0⟩):=by
  refine⟨?_,λ_ _=>rfl⟩;rw[List.length_replicate];exact b0.full f (by simp[kA]) (by simp[maxLen];omega)
 refine⟨h.F j,ae,rfl,by show w.heap.size<=ae;omega,g,0,0,_,_,_,q,p.W j,bj.nil _ _ _ _ _,bj.nil _ _ _ _ _,λr a=>?_⟩;rcases a with a|a|a
 .have:=(p.lw a).1;show w.heap.size<=r;omega
 .exact (fm a).elim
 .exact (fm a).elim
theorem oY{α β:Type}{f:α->List β}:∀{L:List α}{i j:Nat}{a:α},L[i]?=σ a->j<(f a).length->(L.flatMap f)[((L.take i).flatMap f).length+j]?=(f a)[j]?
 |x::L,0,j,a,h,e=>by
  cases h;rw[List.take_zero,List.flatMap_nil,List.length_nil,X6,V6,Y4 e]
 |x::L,i+1,j,a,h,e=>by
  have h:L[i]?=σ a:=by simpa using h
  rw[List.take_succ_cons,V6,V6,o9,Q3,Z7 Ω,Q5,oY h e]
theorem xJ{α β:Type}{f:α->List β}:∀{L:List α}{i j:Nat}{a b:α}{x:β},L[i]?=σ a->j<(f a).length->f b=(f a).set j x->(L.flatMap f).set (((L.take i).flatMap f).length+j) x=(L.set i b).flatMap f
 |y::L,0,j,a,b,x,h,e,p=>by
  cases h;rw[List.take_zero,List.flatMap_nil,List.length_nil,X6,V6,List.set_cons_zero,V6,p,List.set_append_left _ _ e]
 |y::L,i+1,j,a,b,x,h,e,p=>by
  have h:L[i]?=σ a:=by simpa using h
  rw[List.take_succ_cons,V6,V6,o9,Q3,T4 _ _ Ω,Q5,xJ h e p,List.set_cons_succ,V6]
theorem Ed{α β:Type}{f:α->List β}{L:List α}{i:Nat}{a:α}(h:L[i]?=σ a)(e:j<(f a).length):((L.take i).flatMap f).length+j<(L.flatMap f).length:=by
 have h1:=oY (f:=f) h e;rw[x8 e]at h1;exact(x6.1 h1).1
structure bn where
 gone:Int
 mask:Int
 un:Λ
structure cr where
 sc:Λ
 aj:Λ
 live:Int
 cs:Λ
structure xK where
 v:Int
 sc:Λ
 uA:Λ
structure ak where
 zero:Int
 d6:List bn
 d9:List cr
 eC:List xK
def iK(x:bn):Λ:=x.gone::x.mask::x.un
def je(x:cr):Λ:=x.live::x.cs
def j8(s:ak):Λ:=[s.zero,(s.d9.length:Int),(s.eC.length:Int)]
def ak.cells(s:ak):Λ:=j8 s++(s.d6.flatMap iK++s.d9.flatMap je)
def gX(s:ak)(i:Nat):Nat:=3+((s.d6.take i).flatMap iK).length
def fq(s:ak)(j:Nat):Nat:=3+((s.d6.flatMap iK).length+((s.d9.take j).flatMap je).length)
theorem Pl(s:ak):s.cells[0]?=σ s.zero:=rfl
theorem r2{s:ak}{i:Nat}{x:bn}(h:s.d6[i]?=σ x)(e:j<x.un.length+2):s.cells[gX s i+j]?=(iK x)[j]?:=by
 have a:j<(iK x).length:=e;unfold ak.cells gX;rw[Q3,Z7 (by simp[j8]),show(j8 s).length=3 from rfl,Q5,Y4 (Ed h a),oY h a]
theorem xL{s:ak}{i:Nat}{x:cr}(h:s.d9[i]?=σ x)(a:j<x.cs.length+1):s.cells[fq s i+j]?=(je x)[j]?:=by
 have e:j<(je x).length:=a;unfold ak.cells fq;rw[Q3,Q3,Z7 (by simp[j8]),show(j8 s).length=3 from rfl,Q5,Z7 Ω,Q5,oY h e]
theorem Pm(s:ak)(c:Int):s.cells.set 0 c=({s with zero:=c}:ak).cells:=rfl
theorem Ee{s:ak}{i:Nat}{x y:bn}(h:s.d6[i]?=σ x)(e:j<x.un.length+2)(f:iK y=(iK x).set j c):s.cells.set (gX s i+j) c=({s with d6:=s.d6.set i y}:ak).cells:=by
 have a:j<(iK x).length:=e;unfold ak.cells gX;rw[Q3,T4 _ _ (by simp[j8]),show(j8 s).length=3 from rfl,Q5,List.set_append_left _ _ (Ed h a),xJ h a f];rfl
theorem Pn{s:ak}{i:Nat}{x y:cr}(h:s.d9[i]?=σ x)(a:j<x.cs.length+1)(e:je y=(je x).set j c):s.cells.set (fq s i+j) c=({s with d9:=s.d9.set i y}:ak).cells:=by
 have f:j<(je x).length:=a;unfold ak.cells fq;rw[Q3,Q3,T4 _ _ (by simp[j8]),show(j8 s).length=3 from rfl,Q5,T4 _ _ Ω,Q5,xJ h f e];show _=j8 {s with d9:=s.d9.set i y}++_;unfold j8;rw[o7]
theorem Po{s:ak}(x:cr):(s.cells++je x).set 1 ((s.d9.length+1:Nat):Int)=({s with d9:=s.d9++[x]}:ak).cells:=by
 unfold ak.cells;simp only[List.flatMap_append,List.flatMap_singleton,j8,o9,T5,T6];rfl
theorem xM(s:ak):s.cells.length=3+((s.d6.flatMap iK).length+(s.d9.flatMap je).length):=by
 unfold ak.cells;rw[o9,o9];rfl
def ka(a sc:Λ):Λ:=sc.map λv=>a.getD v.toNat 0
def lM(k:Int)(a:Int)(p:bn×Int):Int:=if p.1.gone≠0 then a else min (a+p.1.un.getD p.2.toNat 0) k
def k6(k:Int)(a:Λ)(e:Int)(f:cr):Int:=if f.live≠0 then min (e+br f.aj f.cs (ka a f.sc)) k else e
def dropped(mask:Int)(v:Int):Bool:=mask.toNat.testBit v.toNat
def fT(p:bn×Int):Bool:=decide (p.1.gone≠0)|| !dropped p.1.mask p.2
def eA(k:Int)(s:ak)(a:Λ):Int:=if(s.d6.zip a).all fT then s.d9.foldl (k6 k a) ((s.d6.zip a).foldl (lM k) s.zero)else k
def iL(s:ak)(a:Λ):Prop:=a.length=s.d6.length/\∀(i:Nat)x v,s.d6[i]?=σ x->a[i]?=σ v->x.gone≠0\/(0<=v/\v<x.un.length)
structure bd(k:Int)(co:Λ)(s:ak):Prop where
 fs:1<=k/\k<=2147483648
 ed:1<=co.length/\co.length<=64/\∀z∈co,1<=z/\z<=32
 zero:0<=s.zero/\s.zero<=k
 d6:s.d6.length=co.length
 var:∀(i:Nat)x z,s.d6[i]?=σ x->co[i]?=σ z->x.un.length=z.toNat/\(∀c∈x.un,0<=c/\c<=k)/\0<=x.mask/\x.mask<4294967296
 d9:∀f∈s.d9,gK co k (f.sc,f.cs)/\f.aj=bN co f.sc/\2<=f.sc.length
def newVar(u:Λ):bn:=⟨0,0,u⟩
def lN(co:Λ)(g:cQ):cr:=⟨g.1,bN co g.1,1,g.2⟩
def cR(n:aH):ak:=⟨n.zero,n.unary.map newVar,n.d9.map (lN n.co),[]⟩
theorem Pp{n:aH}(h:k4 n):bd n.k n.co (cR n):=by
 refine⟨h.k,h.co,h.zero,by simp[cR,h.lL],λi x z a j=>?_,λf p=>?_⟩
 .have a:(n.unary.map newVar)[i]?=σ x:=a;rw[u4]at a;obtain⟨u,hu,rfl⟩:=Y9.1 a;obtain⟨h1,e⟩:=h.unary i z u j hu;exact⟨h1,e,S0 _,by show(0:Int)<_;omega⟩
 .obtain⟨g,q,rfl⟩:=j5.1 p;obtain⟨h1,e⟩:=h.d9 g q;exact⟨h1,rfl,e⟩
theorem xN{n:aH}(h:gq w a n):al v8 Ix [Γ a] w λv I=>v=Δ (n.co.length:Int)/\Ext w I:=by
 obtain⟨j,q,r,s,gr,aX,L,nm,lc,gz,fv2,h1,e,f,x,y,z,A⟩:=h;refine aB func94 ?_;rw[dg nL.u];simp only[Y2,a6];rw[aK gf.p 0 h1 rfl,aK cI.p 2 e rfl,a1 aq.u f.ls];exact⟨rfl,Ext.refl _⟩
theorem Pq{n:aH}(h:gq w a n):al v8 JT [Γ a] w λv I=>v=Δ n.k/\Ext w I:=by
 obtain⟨f,j,q,r,gr,aX,L,nm,lc,gz,fv2,h1,e,s,x,y,z,A⟩:=h;refine aB func219 ?_;rw[dg nL.u];simp only[Y2,a6];rw[aK gf.p 0 h1 rfl,aK cI.p 1 e rfl];exact⟨rfl,Ext.refl _⟩
theorem Pr{n:aH}(h:gq w a n):al v8 IN [Γ a] w λv I=>v=Δ n.zero/\Ext w I:=by
 obtain⟨e,f,j,q,gr,aX,L,nm,lc,gz,fv2,h1,r,s,x,y,z,A⟩:=h;refine aB func130 ?_;rw[dg nL.u];simp only[Y2,a6];rw[aK gf.p 1 h1 rfl];exact⟨rfl,Ext.refl _⟩
theorem Ef{n:aH}(h:gq w a n):al v8 AD [Γ a] w λv I=>v=Δ (n.d9.length:Int)/\Ext w I:=by
 obtain⟨j,q,r,s,gr,aX,L,nm,lc,gz,fv2,h1,x,y,z,A,e,f⟩:=h;refine aB func133 ?_;rw[dg nL.u];simp only[Y2,a6];rw[aK gf.p 3 h1 rfl,ew l7.u e.1];exact⟨by rw[<-f,r8],Ext.refl _⟩
theorem Eg{s:Nat}{n:aH}{i:Int}(h:gq w s n)(f:k4 n):al v8 IP [Γ s,Δ i] w λv I=>Ext w I/\(¬(0<=i/\i<n.co.length)->v= .slice ν 0 0)/\
  ∀u,0<=i->n.unary[i.toNat]?=σ u->∃g,w.heap.size<=g/\aA .i64 av I g v u:=by
 refine aB func131 ?_;have K:=f.lL;refine aZ (λv U=>v= .bool (decide (¬(0<=i/\i<n.co.length)))/\Ext w U) ?_ ?_
 .rintro _ U ⟨rfl,e⟩;rw[am];refine⟨λC=>⟨e,λ_=>rfl,λu E hu=>?_⟩,λj=>?_⟩
  .have:=(x6.1 hu).1;exact ro ⟨E,Ω⟩ C
  have j:=X5.1 j;obtain⟨M,N,O,P,gr,aX,L,nm,lc,gz,fv2,h1,Q,R,q,x,S,V⟩:=h.W e;have W:aX.length=n.unary.length:=by rw[<-x,r8]
  obtain⟨a,r⟩:=aD (l:=aX) (i:=i.toNat) Ω;obtain⟨X,hm⟩:=q.2 a (x7 r);rw[aK gf.p 2 h1 rfl,cj (i:=i.toNat) Ω cZ.u aw.i q.1 Ω,aE (o:=i.toNat*1) Ψ (q.1.range r 0 _ rfl)];have y:n.unary[i.toNat]?=σ a.l:=by rw[<-x,u4,r];rfl
  have Y:a.l.length<=32:=by
   obtain⟨z,A⟩:=aD (l:=n.co) (i:=i.toNat) Ω;have Z:=(f.unary i.toNat z a.l A y).1;have ab:=f.co.2.2 z (x7 A);omega
  refine(wG hm.ls Ω).Y ?_;rintro v aa _ ⟨G,g,ac,H⟩;refine⟨e.F G,λJ=>ro j J,λu _ hu=>⟨g,by have:=e.size;omega,?_⟩⟩;rw[y]at hu;cases hu;exact H
 .intro ax B;rw[aS,am];refine⟨λad=>B _ _ ⟨by rw[rs];omega,Ext.refl _⟩,λae=>?_⟩;refine(xN h).Y ?_;rintro _ U _ ⟨rfl,e⟩;rw[cP];refine B _ _ ⟨?_,e⟩;congr 1;rw[U8,sp,sp];omega
theorem Eh{n:aH}{i:Int}(h:gq w j n)(a:k4 n):al v8 Ie [Γ j,Δ i] w λv I=>Ext w I/\v=Δ (if 0<=i then n.co.getD i.toNat 0 else 0):=by
 refine aB func67 ?_;refine(Eg h a).Y ?_;rintro v U _ ⟨p,r,s⟩;by_cases e:0<=i/\i<n.co.length
 .have x:=a.lL;obtain⟨u,hu⟩:=aD (l:=n.unary) (i:=i.toNat) Ω;obtain⟨z,f⟩:=aD (l:=n.co) (i:=i.toNat) Ω;obtain⟨g,_,hm⟩:=s u e.1 hu;rw[a1 aw.u hm.ls];refine⟨p,?_⟩;have y:=(a.unary i.toNat z u f hu).1;have A:=a.co.2.2 z (x7 f);rw[ms e.1,u5,f];congr 1;simp only[W7];omega
 .rw[r e,iV aw.u];refine⟨p,?_⟩;by_cases q:0<=i
  .rw[ms q,u5,Y5 Ω];rfl
  .rw[rc q];rfl
theorem Ei{n:aH}{j:Int}(h:gq w a n)(f:∀I,Ext w I->K (.bool (decide (¬(0<=j/\j<n.d9.length)))) I):
  ab v8 (aO .lss ai v6 v2 (Δ j) (Δ 0)) w λq=>Split q (K (.bool v2) w) (al v8 AD [Γ a] w λr p=>ab v8 (aO .geq ai v6 v6 (Δ j) r) p λs=>K s p):=by
 rw[aS,am];refine⟨λy=>?_,λz=>?_⟩
 .have:=f w (Ext.refl _);rw[rs (show¬(0<=j/\j<n.d9.length) by omega)]at this;exact this
 .refine (Ef h).Y ?_;rintro _ U _ ⟨rfl,x⟩;rw[cP];have:=f U x;have e:decide ((n.d9.length:Int)<=j)=decide (¬(0<=j/\j<n.d9.length)):=by
   rw[U8,sp,sp];omega
  rw[<-e]at this;exact this
theorem Ps{s:Nat}{n:aH}{g:cQ}(h:gq w s n)(z:k4 n)(e:n.d9[j]?=σ g):al v8 IR [Γ s,Δ (j:Int)] w λv I=>Ext w I/\∃gs,w.heap.size<=gs/\aA .i64 ai I gs v g.1:=by
 refine aB func135 ?_;have G:=(x6.1 e).1;refine aZ (λv U=>v= .bool (decide (¬(0<=(j:Int)/\(j:Int)<n.d9.length)))/\Ext w U) ?_ λax A=>Ei h λI B=>A _ _ ⟨rfl,B⟩;rintro _ U ⟨rfl,f⟩;rw[s2 Ω,a6];obtain⟨H,J,K,M,gr,aX,L,nm,lc,gz,fv2,h1,N,O,P,Q,q,x⟩:=h.W f;have R:L.length=n.d9.length:=by rw[<-x,r8]
 obtain⟨a,r⟩:=aD (l:=L) (i:=j) Ω;have y:ec a=g:=by rw[<-x,u4,r]at e;exact Z4 e
 obtain⟨⟨S,hm⟩,_⟩:=q.2 a (x7 r);rw[aK gf.p 3 h1 rfl,cj rfl l7.u iy.i q.1 Ω,aU iy.p rfl,aE Ψ (q.1.range r 0 _ rfl)];have V:a.sc.length<=6:=by
  have:=(z.d9 g (x7 e)).1.scope.2;rw[<-y]at this;exact this
 refine(mh hm.ls Ω).Y ?_;rintro v aa _ ⟨C,gs,W,E⟩;refine⟨f.F C,gs,by have:=f.size;omega,?_⟩;rw[<-y];exact E
theorem Pt{g C:Nat}{cs:Λ}(h:dh w g C sv aj k cs):al v8 JH [Γ g] w λv I=>Ext w I/\∃a e,v=Γ a/\w.heap.size<=a/\w.heap.size<=e/\dh I a e sv aj k cs:=by
 obtain⟨⟨ba,gs,E,hm,G⟩,⟨h1,L,ac⟩,J,y⟩:=h;refine aB func204 ?_;rw[dg fa.u];simp only[Y2,a6];intro U f _ _;have r:=E.W f;have M:=prod_bound J;rw[bY,aU c5.p rfl,bC (cs:=[sv]) bH.p bH.i rfl (o1 r (by
  intro j v s
  match j,s with
  |0,s=>exact s)),aK c5.p 1 r rfl,aK c5.p 2 r rfl]
 refine(wG (G.ls.W f) Ω).Y ?_;rintro z aa _ ⟨x,e,N,q⟩;refine⟨.inl x,?_⟩;rw[dm (cs:=#[sv,Δ k,z]) (by obtain⟨_,_,_,rfl⟩:=dj hm.ls;obtain⟨_,_,_,rfl⟩:=dj q.ls;kernel_rfl)];refine bp λa O P A H=>?_;have Q:=f.size;have R:=x.size;have S:=q;have B:=(f.F x).F A;refine⟨B,a,e,rfl,Ω,Ω,⟨z,gs,H,hm.W B,q.W A⟩,⟨?_,?_,ac⟩,J,y⟩
 .have:=uk q (by rw[y];omega);omega
 .intro K;obtain⟨V,W⟩:=bZ hm K;omega
theorem Pu{z:Nat}{n:aH}{g:cQ}(A:gq w0 z n)(B:Ext w0 w)(f:n.d9[j]?=σ g):al v8 IS [Γ z,Δ (j:Int)] w λv I=>Ext w I/\∃gt q sv,v=Γ gt/\w.heap.size<=gt/\w.heap.size<=q/\dh I gt q sv (bN n.co g.1) n.k g.2/\∀r,lw sv r->∃c,ag w0 r ai c:=by
 have h:=A.W B;refine aB func136 ?_;have W:=(x6.1 f).1;refine aZ (λv U=>v= .bool (decide (¬(0<=(j:Int)/\(j:Int)<n.d9.length)))/\Ext w U) ?_ λax J=>Ei h λI K=>J _ _ ⟨rfl,K⟩;rintro _ U ⟨rfl,s⟩;rw[s2 Ω,a6];have e:=B.F s;obtain⟨X,Y,Z,ab,gr,aX,L,nm,lc,gz,fv2,h1,ac,ad,ae,af,x,C⟩:=A;have ah:L.length=n.d9.length:=by rw[<-C,r8]
 obtain⟨a,y⟩:=aD (l:=L) (i:=j) Ω;have M:ec a=g:=by rw[<-C,u4,y]at f;exact Z4 f
 obtain⟨_,q,N,E⟩:=x.2 a (x7 y);rw[aK gf.p 3 (h1.W e) rfl,cj rfl l7.u iy.i (x.1.W e) Ω,aU iy.p rfl,aE Ψ ((x.1.W e).range y 1 _ rfl)];refine(Pt (E.W e)).Y ?_;rintro v aa _ ⟨O,gt,P,rfl,aj,ak,Q⟩;have am:=s.size;refine⟨s.F O,gt,P,N,rfl,Ω,Ω,?_,λr G=>?_⟩
 .rw[<-M];exact Q
 .obtain⟨⟨_,_,_,hm,_⟩,_⟩:=E;obtain⟨R,_⟩:=bZ hm G;rcases hm.2 with⟨S,_⟩|⟨_,cs,_,V,_⟩
  .obtain⟨_,_,_,H,an⟩:=G;rw[S]at H;cases H
  .exact⟨cs,R▸V⟩
structure qA where
 aV:x4
 lc:x4
 at_:Nat
def qB(x:qA):List x4:=[x.aV,x.lc,Δ (x.at_:Int)]
structure r3 where
 v:Int
 aV:x4
 bv:x4
def Pv(x:r3):List x4:=[Δ x.v,x.aV,x.bv]
def jG(s:ak):Λ:=(X9 s.d6.length).map λi=>(gX s i:Int)
def kb(R:ah)(w:x5)(v:x4)(l:Λ):Prop:=(∃g,aA .i64 ai w g v l)/\∀r,lw v r->R r
theorem kb.ls{R:ah}(h:kb R w v l):aN .i64 w v l:=by
 obtain⟨⟨g,h⟩,_⟩:=h;exact h.ls
theorem kb.V{R S:ah}(h:kb R w v l)(f:af S w I)(j:∀r,r<w.heap.size->R r->¬S r):kb R I v l:=by
 obtain⟨⟨g,h1⟩,a⟩:=h;exact⟨⟨g,bA h1 f λr e=>j r (by obtain⟨p,q⟩:=bZ h1 e;omega) (a r e)⟩,a⟩
theorem kb.Y{R R':ah}(h:kb R w v l)(a:∀r,R r->R' r):kb R' w v l:=⟨h.1,λr e=>a r (h.2 r e)⟩
def my(R:ah)(w:x5)(L:List qA)(s:ak):Prop:=L.length=s.d9.length/\∀(j:Nat)x f,L[j]?=σ x->s.d9[j]?=σ f->kb R w x.aV f.sc/\kb R w x.lc f.aj/\x.at_=fq s j
def nu(R:ah)(w:x5)(E:List r3)(s:ak):Prop:=E.length=s.eC.length/\∀(j:Nat)x e,E[j]?=σ x->s.eC[j]?=σ e->x.v=e.v/\kb R w x.aV e.sc/\kb R w x.bv e.uA
theorem my.V{R S:ah}{L:List qA}{s:ak}(h:my R w L s)(a:af S w I)(e:∀r,r<w.heap.size->R r->¬S r):my R I L s:=⟨h.1,λj x f p q=>by
 obtain⟨h1,y,z⟩:=h.2 j x f p q;exact⟨h1.V a e,y.V a e,z⟩⟩
theorem nu.V{R S:ah}{E:List r3}{s:ak}(h:nu R w E s)(a:af S w I)(e:∀r,r<w.heap.size->R r->¬S r):nu R I E s:=⟨h.1,λj x f p q=>by
 obtain⟨h1,y,z⟩:=h.2 j x f p q;exact⟨h1,y.V a e,z.V a e⟩⟩
theorem my.Y{R R':ah}{L:List qA}{s:ak}(h:my R w L s)(a:∀r,R r->R' r):my R' w L s:=⟨h.1,λj x f e p=>by
 obtain⟨h1,q,y⟩:=h.2 j x f e p;exact⟨h1.Y a,q.Y a,y⟩⟩
theorem nu.Y{R R':ah}{E:List r3}{s:ak}(h:nu R w E s)(a:∀r,R r->R' r):nu R' w E s:=⟨h.1,λj x f e p=>by
 obtain⟨h1,q,y⟩:=h.2 j x f e p;exact⟨h1,q.Y a,y.Y a⟩⟩
theorem uF{a b c:x5}(h:Ext a b)(k:af S b c)(f:∀r o,a.heap[r]?=σ o->fH o=v2->¬S r):Ext a c:=
 ⟨X1 h.size k.size,λr o e J=>k.aY r o (h.aY r o e J) J (f r o e J)⟩
theorem dz.cut{A:ah}{t:az}(h:dz w ae A t):dz w ae (λr=>A r/\r<w.heap.size) t:=by
 obtain⟨s,x,go,dq,ba,y,er,h1,e,f,j,z⟩:=h;refine⟨⟨s,h1.lt⟩,x,go,dq,ba,y,er,h1,e,f,j,λr a=>⟨z r a,?_⟩⟩;rcases a with a|a|a
 .obtain⟨p,q⟩:=e.lw a;omega
 .obtain⟨p,q⟩:=f.lw a;omega
 .obtain⟨p,q⟩:=j.lw a;omega
def eY(w:x5)(ad ae j:Nat)(e f h:x4)(A R:ah)(n:aH)(s:ak)(t:az):Prop:=
 (A ad/\(∀r,A r->¬R r)/\(∀r,R r->r<w.heap.size)/\∀r,A r->r<w.heap.size)/\∃bc p ge,∃(L:List qA)(E:List r3)(a:ah)(w0:x5),
  ag w ad cV [Γ j,Γ ae,e,f,h]/\(gq w0 j n/\Ext w0 w/\∀r o,w0.heap[r]?=σ o->fH o=v2->R r)/\
  (dz w ae a t/\(∀r,a r->A r)/\¬a ad/\∀r,lw e r\/lm f r\/lm h r->A r/\¬a r)/\aA .i64 ai w bc e (jG s)/\
  (bj qB 3 gd w p f L/\my R w L s)/\bj Pv 3 wu w ge h E/\nu R w E s
theorem eY.V{S:ah}{y:Nat}{B C F:x4}{A R:ah}{n:aH}{s:ak}{t:az}(h:eY w ad ae y B C F A R n s t)(e:af S w I)(f:∀r,r<w.heap.size->A r\/R r->¬S r):eY I ad ae y B C F A R n s t:=by
 obtain⟨⟨h1,j,X,Y⟩,bc,Z,ge,L,E,aa,w0,G,⟨ab,H,K⟩,⟨ac,p,ag,q⟩,M,⟨N,ai⟩,O,aj⟩:=h;have z:=e.size;refine⟨⟨h1,j,λr a=>by have:=X r a;omega,λr a=>by have:=Y r a;omega⟩,bc,Z,ge,L,E,aa,w0,G.V e (f _ G.lt (.inl h1)),⟨ab,uF H e λr o a al J=>f r (by have:=H.size;have:=(b8.1 a).1;omega) (.inr (K r o a al)) J,K⟩,
  ⟨?_,p,ag,q⟩,bA M e λr a J=>f r ?_ (.inl (q r (.inl a)).1) J,⟨N.V e λr a J=>f r ?_ (.inl (q r (.inr (.inl a))).1) J,ai.V e λr a h=>f r a (.inr h)⟩,O.V e λr a J=>f r ?_ (.inl (q r (.inr (.inr a))).1) J,aj.V e λr a h=>f r a (.inr h)⟩
 .obtain⟨P,am,go,dq,ba,an,er,Q,T,U,W,x⟩:=ac;refine⟨P,am,go,dq,ba,an,er,Q.V e (f _ Q.lt (.inl (p _ P))),T.V e λr a J=>?_,U.V e λr a J=>?_,W.V e λr a J=>?_,x⟩
  .exact f r (by obtain⟨h1,j⟩:=T.lw a;omega) (.inl (p _ (x r (.inl a)))) J
  .exact f r (by obtain⟨h1,j⟩:=U.lw a;omega) (.inl (p _ (x r (.inr (.inl a))))) J
  .exact f r (by obtain⟨h1,j⟩:=W.lw a;omega) (.inl (p _ (x r (.inr (.inr a))))) J
 .obtain⟨h1,j⟩:=bZ M a;omega
 .obtain⟨h1,j⟩:=N.lw a;omega
 .obtain⟨h1,j⟩:=O.lw a;omega
theorem eY.W{e f j:x4}{A R:ah}{n:aH}{s:ak}{t:az}(h:eY w ad ae a e f j A R n s t)(p:Ext w I):eY I ad ae a e f j A R n s t:=h.V (p.V λ_=>False) λ_ _ _ h=>h
theorem eY.r4{C:Nat}{F G H:x4}{A R:ah}{n:aH}{s:ak}{t:az}(h:eY w ad ae C F G H A R n s t):∃q,dz w ae q t/\∀p I bs,Grow q w p I->dz I ae p bs->∃aM,Grow A w aM I/\eY I ad ae C F G H aM R n s bs:=by
 obtain⟨⟨h1,f,K,M⟩,bc,Y,ge,L,E,q,w0,N,⟨Z,aa,O⟩,⟨ab,j,P,x⟩,Q,⟨S,ac⟩,T,af⟩:=h;refine⟨q,ab,λU I bs y ag=>?_⟩;have W:=ag.cut;have e:Grow q w (λr=>U r/\r<I.heap.size) I:=⟨y.1,λr a=>y.2.1 r a.1,λr a=>⟨y.2.2 r a,by have:=M r (j r a);have:=y.1.size;omega⟩⟩;obtain⟨p,X⟩:∃B:ah,B=λr=>U r/\r<I.heap.size:=⟨_,rfl⟩;rw[<-X]at W e;have ai:∀r,p r->r<I.heap.size:=λr h=>by rw[X]at h;exact h.2
 refine⟨λr=>A r\/p r,⟨e.1.Y λr _ a=>j r a,λr a=>?_,λr a=>.inl a⟩,⟨.inl h1,λr a z=>?_,λr a=>?_,λr a=>?_⟩,bc,Y,ge,L,E,p,w0,N.V e.1 P,⟨Z,uF aa e.1 λr o a aj J=>f r (j r J) (O r o a aj),O⟩,
  ⟨W,λr a=>.inr a,λa=>?_,λr a=>⟨.inl (x r a).1,λal=>?_⟩⟩,bA Q e.1 λr a J=>(x r (.inl a)).2 J,⟨S.V e.1 λr a J=>(x r (.inr (.inl a))).2 J,ac.V e.1 λr _ a J=>f r (j r J) a⟩,T.V e.1 λr a J=>(x r (.inr (.inr a))).2 J,af.V e.1 λr _ a J=>f r (j r J) a⟩
 .rcases a with a|a
  .exact .inl a
  .exact (e.2.1 r a).imp (j r) id
 .have:=K r z;rcases a with a|a
  .exact f r a z
  .rcases e.2.1 r a with h|h
   .exact f r (j r h) z
   .omega
 .have:=K r a;have:=e.1.size;omega
 .rcases a with a|a
  .have:=M r a;have:=e.1.size;omega
  .exact ai r a
 .rcases e.2.1 _ a with h|h
  .exact P h
  .have:=N.lt;omega
 .rcases e.2.1 r al with h|h
  .exact (x r a).2 h
  .rcases a with a|a|a
   .obtain⟨h1,f⟩:=bZ Q a;omega
   .obtain⟨h1,f⟩:=S.lw a;omega
   .obtain⟨h1,f⟩:=T.lw a;omega
def StateM(w:x5)(ad ae:Nat)(A R:ah)(n:aH)(s:ak)(t:az):Prop:=∃a e f h,eY w ad ae a e f h A R n s t
theorem StateM.V{S:ah}{A R:ah}{n:aH}{s:ak}{t:az}(h:StateM w ad ae A R n s t)(a:af S w I)(e:∀r,r<w.heap.size->A r\/R r->¬S r):StateM I ad ae A R n s t:=by
 obtain⟨f,j,p,q,h⟩:=h;exact⟨f,j,p,q,h.V a e⟩
theorem StateM.W{A R:ah}{n:aH}{s:ak}{t:az}(h:StateM w ad ae A R n s t)(a:Ext w I):StateM I ad ae A R n s t:=h.V (a.V λ_=>False) λ_ _ _ h=>h
theorem StateM.r4{A R:ah}{n:aH}{s:ak}{t:az}(h:StateM w ad ae A R n s t):∃a,dz w ae a t/\∀e I bs,Grow a w e I->dz I ae e bs->∃aM,Grow A w aM I/\StateM I ad ae aM R n s bs:=by
 obtain⟨f,j,p,q,h⟩:=h;obtain⟨a,h1,r⟩:=h.r4;exact⟨a,h1,λe I bs x y=>by
  obtain⟨aM,z,B⟩:=r e I bs x y;exact⟨aM,z,f,j,p,q,B⟩⟩
def pr(s s':ak):Prop:=jG s'=jG s/\s'.d9.length=s.d9.length/\(∀(j:Nat)a,s'.d9[j]?=σ a->∃f,s.d9[j]?=σ f/\a.sc=f.sc/\a.aj=f.aj/\fq s' j=fq s j)/\s'.eC=s.eC
theorem eY.same{e p q:x4}{A R:ah}{n:aH}{s s':ak}{t:az}(h:eY w ad ae a e p q A R n s t)(J:pr s s'):eY w ad ae a e p q A R n s' t:=by
 obtain⟨au,bc,y,ge,L,E,z,w0,B,C,F,G,⟨H,r⟩,I,K⟩:=h;obtain⟨M,N,O,P⟩:=J;refine⟨au,bc,y,ge,L,E,z,w0,B,C,F,by rw[M];exact G,⟨H,r.1.F N.symm,λj x Q S T=>?_⟩,I,?_⟩
 .obtain⟨f,U,V,W,X⟩:=O j Q T;rw[V,W,X];exact r.2 j x f S U
 .unfold nu;rw[P];exact K
theorem StateM.same{A R:ah}{n:aH}{s s':ak}{t:az}(h:StateM w ad ae A R n s t)(J:pr s s'):StateM w ad ae A R n s' t:=by
 obtain⟨a,e,f,j,h⟩:=h;exact⟨a,e,f,j,h.same J⟩
theorem uG{α β:Type}{f:α->List β}:∀{L:List α}{i j:Nat}{a b:α},L[i]?=σ a->(f b).length=(f a).length->(((L.set i b).take j).flatMap f).length=((L.take j).flatMap f).length
 |[],_,_,_,_,h,_=>by simp at h
 |x::L,0,j,a,b,h,e=>by
  cases h;cases j with
  |zero=>rfl
  |succ j=>simp[e]
 |x::L,i+1,j,a,b,h,e=>by
  have h:L[i]?=σ a:=by simpa using h
  cases j with
  |zero=>rfl
  |succ j=>
   rw[List.set_cons_succ,List.take_succ_cons,List.take_succ_cons,V6,V6,o9,o9,uG h e]
theorem Ej(s:ak)(c:Int):pr s {s with zero:=c}:=⟨rfl,rfl,λj f h=>⟨f,h,rfl,rfl,rfl⟩,rfl⟩
theorem Ek{s:ak}{i:Nat}{x y:bn}(a:s.d6[i]?=σ x)(p:y.un.length=x.un.length):pr s {s with d6:=s.d6.set i y}:=by
 have e:(iK y).length=(iK x).length:=by simp[iK,p]
 refine⟨?_,rfl,λj f h=>⟨f,h,rfl,rfl,?_⟩,rfl⟩
 .unfold jG;rw[show({s with d6:=s.d6.set i y}:ak).d6.length=s.d6.length from o7];apply List.map_congr_left;intro j _;unfold gX;rw[uG a e]
 .unfold fq;have:=uG (j:=s.d6.length) a e;rw[Z0 Ξ,Z0 (o4 _)]at this;show 3+(((s.d6.set i y).flatMap iK).length+_)=_;rw[this]
theorem Pw{s:ak}{i:Nat}{x y:cr}(a:s.d9[i]?=σ x)(q:y.cs.length=x.cs.length)(h1:y.sc=x.sc)(r:y.aj=x.aj):pr s {s with d9:=s.d9.set i y}:=by
 have w:(je y).length=(je x).length:=by simp[je,q]
 refine⟨rfl,o7,λj f h=>?_,rfl⟩;have h:(s.d9.set i y)[j]?=σ f:=h;have e:fq {s with d9:=s.d9.set i y} j=fq s j:=by
  unfold fq;show 3+(_+(((s.d9.set i y).take j).flatMap je).length)=_;rw[uG a w]
 by_cases p:i=j
 .subst p;rw[n9 (x6.1 a).1]at h;cases h;exact⟨x,a,h1,r,e⟩
 .rw[Z6 p]at h;exact⟨f,h,rfl,rfl,e⟩
theorem az.xO(t:az)(i:Nat)(x:Int):(t.set i x).marks=t.marks:=by
 unfold az.set;cases t.cells[i]? with
 |none=>rfl
 |some c=>
  simp only;cases t.marks.getLast? with
  |none=>rfl
  |some m=>simp only;split<;>rfl
theorem az.El(t:az)(i:Nat)(x:Int):(t.set i x).ku=t.ku:=by
 unfold az.set;cases t.cells[i]? with
 |none=>rfl
 |some c=>
  simp only;cases t.marks.getLast? with
  |none=>rfl
  |some m=>simp only;split<;>rfl
theorem az.Em(t:az)(i:Nat)(x:Int):(t.set i x).cells.length=t.cells.length:=by
 have h:=congrArg Q2 (az.ri (t:=t) (i:=i) (x:=x));rw[o7]at h;unfold az.b1 at h;rwa [r8,r8]at h
theorem az.En(t:az)(i:Nat)(x:Int):(t.set i x).olds.length<=t.olds.length+1:=by
 unfold az.set;cases t.cells[i]? with
 |none=>exact Nat.le_succ _
 |some c=>
  simp only;cases t.marks.getLast? with
  |none=>exact Nat.le_succ _
  |some m=>simp only;split<;>simp
theorem az.xP{t:az}(h:t.marks=[])(i:Nat)(x:Int):(t.set i x).olds=t.olds:=by
 unfold az.set;cases t.cells[i]? with
 |none=>rfl
 |some c=>simp only[h,List.getLast?_nil]
def fU(t:az)(l:Λ):Nat->az
 |0=>t.grow l.length
 |i+1=>(fU t l i).set (t.cells.length+i) (l.getD i 0)
def n7(t:az)(l:Λ):az:=fU t l l.length
theorem r5(t:az)(l:Λ):∀i,(fU t l i).marks=t.marks
 |0=>rfl
 |i+1=>(az.xO _ _ _).F (r5 t l i)
theorem Eo(t:az)(l:Λ):∀i,(fU t l i).ku=t.ku
 |0=>rfl
 |i+1=>(az.El _ _ _).F (Eo t l i)
theorem xQ(t:az)(l:Λ):∀i,(fU t l i).cells.length=t.cells.length+l.length
 |0=>by simp[fU,az.grow]
 |i+1=>(az.Em _ _ _).F (xQ t l i)
theorem xR(t:az)(l:Λ):∀i,(fU t l i).olds.length<=t.olds.length+i
 |0=>o4 _
 |i+1=>by have:=az.En (fU t l i) (t.cells.length+i) (l.getD i 0);have:=xR t l i;show(az.set _ _ _).olds.length<=_;omega
theorem Ep{t:az}(h:t.marks=[])(l:Λ):∀i,(fU t l i).olds=t.olds
 |0=>rfl
 |i+1=>(az.xP ((r5 t l i).F h) _ _).F (Ep h l i)
theorem Er(t:az)(l:Λ):∀i,i<=l.length->(fU t l i).b1=t.b1++(l.take i++o6 (l.length-i) 0)
 |0,_=>by rw[List.take_zero,List.nil_append];exact az.La
 |i+1,h=>by
  have a:=Er t l i Ω;show(az.set _ _ _).b1=_;have e:t.b1.length=t.cells.length:=by simp[az.b1]
  rw[az.ri,a,T4 _ _ Ω,e,Q5,T4 _ _ (by rw[o8];omega),o8,Nat.min_eq_left Ω,V2,show l.length-i=(l.length-(i+1))+1 by omega,List.replicate_succ,List.set_cons_zero,r9,u5,x8 (show i<l.length by omega)];simp only[j6,W7,T6,List.singleton_append]
theorem Es(t:az)(l:Λ):(n7 t l).b1=t.b1++l:=by
 unfold n7;rw[Er t l _ (o4 _),j4,V2,List.replicate_zero,U2]
theorem iA.fU{h:List az}{t:az}(hk:iA t h)(l:Λ):∀i,iA (fU t l i) h
 |0=>hk.grow
 |i+1=>(iA.fU hk l i).set
theorem mp{s:Go.Sem x4}{x:x4}(h:ab v8 s w (λv=>v=x)):b2 v8 s x w:=by
 obtain⟨v,h,rfl⟩:=h;exact h
theorem uH{z:Nat}{f:o5}{x:x4}(h:ag w ad e cs)(ac:∀(K:x4->Prop),ab v8 (u7 cV (Γ ad) z) w K=K (.pointer (σ ⟨ad,0+a,ν⟩)))(j:kQ v8 f=v2)(p:cs[0+a]?=σ x):
  b2 v8 (u6 f (.pointer (σ ⟨ad,0+a,ν⟩))) x w/\b2 v8 (u7 cV (Γ ad) z) (.pointer (σ ⟨ad,0+a,ν⟩)) w/\b2 v8 (bT (Γ ad)) (Γ ad) w/\True:=
 ⟨tA j (h.cell p),mp (by rw[ac]),mp (by rw[bY]),trivial⟩
def Et(w:x5)(r:Nat):Prop:=∃e c,ag w r e c/\(e=gB\/e=e0\/e=na\/e=gP\/e=cV\/e=gd\/e=wu)
def eG(w:x5)(r:Nat):Prop:=Et w r\/∀o,w.heap[r]?=σ o->fH o≠v2
theorem n8{U:x5}(hk:∀o,w.heap[r]?=σ o->fH o=v2->¬eG w r->U.heap[r]?=σ o)(h:eG U r):eG w r:=by
 by_cases a:eG w r
 .exact a
 .refine ro (.inr λo j J=>?_) a;have h1:=hk o j J a;rcases h with⟨e,c,f,he⟩|p
  .refine a (.inl ⟨e,c,?_,he⟩);unfold ag at f ⊢;rw[h1]at f;rw[j];exact f
  .exact p o h1 J
theorem jf{U aa:x5}(a:Ext w U)(e:af (eG U) U aa):af (eG w) w aa:=(a.V _).F (e.Y λr _ h=>n8 (λo f J _=>a.aY r o f J) h)
theorem uI{U aa:x5}(h:af (eG w) w U)(a:af (eG U) U aa):af (eG w) w aa:=h.F (a.Y λr _ e=>n8 (λo f J j=>h.aY r o f J j) e)
theorem dz.min{A:ah}{t:az}(h:dz w ae A t):dz w ae (λr=>A r/\Et w r) t:=by
 obtain⟨q,s,go,dq,ba,x,er,h1,f,j,p,y⟩:=h;refine⟨⟨q,_,_,h1,.inl rfl⟩,s,go,dq,ba,x,er,h1,f,j,p,λr a=>⟨y r a,?_⟩⟩;rcases a with a|a|a
 .obtain⟨rfl,c,e⟩:=dY f a;exact⟨_,c,e,.inr (.inl rfl)⟩
 .obtain⟨rfl,c,e⟩:=dY j a;exact⟨_,c,e,.inr (.inr (.inl rfl))⟩
 .obtain⟨rfl,c,e⟩:=dY p a;exact⟨_,c,e,.inr (.inr (.inr (.inl rfl)))⟩
theorem eY.xS{p q x:x4}{A R:ah}{n:aH}{s:ak}{t:az}(h:eY w ad ae j p q x A R n s t):∃a,dz w ae a t/\∀y I bs,Grow a w y I->dz I ae y bs->af (eG w) w I/\∃aM,Grow A w aM I/\eY I ad ae j p q x aM R n s bs:=by
 obtain⟨a,z,B⟩:=h.r4;refine⟨_,z.min,λC U bs e E=>⟨e.1.Y λr _ h=>.inl h.2,?_⟩⟩;exact B (λr=>a r\/C r) U _ ⟨e.1.Y λr _ h=>h.1,λr f=>f.elim .inl λh=>(e.2.1 r h).imp (λh=>h.1) id,λr f=>.inl f⟩ (E.Y λr h=>.inr h)
theorem Eu{y:Nat}{z B C:x4}{A R:ah}{n:aH}{s:ak}{t:az}{ds:x4}(h:eY w ad ae y z B C A R n s t)(G:aN .i64 w ds l)(Q:∀r,lw ds r->¬A r)(aI:t.cells.length+l.length<=100000000)(aJ:t.olds.length+l.length<=100000000)(hm:t.marks.length<=100000000):
  al v8 AC [Γ ad,ds] w λv I=>v=Δ (t.cells.length:Int)/\af (eG w) w I/\∃aM,Grow A w aM I/\eY I ad ae y z B C aM R n s (n7 t l):=by
 refine aB func132 ?_;obtain⟨_,bc,S,ge,L,E,_,w0,H,_⟩:=id h;obtain⟨V,J,K⟩:=h.xS;rw[aK cV.p 1 H rfl,a1 aw.u G];refine(Pj J ⟨Ω,Ω,hm⟩ Ω).Y ?_;rintro _ U _ ⟨rfl,W,X,Y⟩;obtain⟨Z,ab,N,ac⟩:=K W U _ X Y;have O:∀{aM:ah}{I:x5},Grow A w aM I->aN .i64 I ds l:=λag=>i7 G ag.1 λr ai a aj c an ao=>Q r ⟨a,aj,c,an,ao⟩ ai;rw[a1 aw.u (O N)];have ap:=G.le;refine bW.range l.length (λi aa=>af (eG w) w aa/\∃f,Grow A w f aa/\eY aa ad ae y z B C f R n s (fU t l i)) ap ⟨Z,ab,N,ac⟩ ?_ ?_
 .rintro i aa k hi ⟨M,f,j,q⟩ hk;refine bG Ω ?_;obtain⟨x,P⟩:=aD (l:=l) hi;rw[bk aw.u av.i Ψ (O j) P];obtain⟨_,bc,S,ge,L,E,_,w0,H,_⟩:=id q;obtain⟨V,J,K⟩:=q.xS;have aL:=xQ t l i;have aO:=xR t l i;have aq:=r5 t l i;rw[aK cV.p 1 H rfl,aP,m1 Ω Ω];refine(uE (i:=t.cells.length+i) J Ω Ω ⟨Ω,Ω,by rw[aq];exact hm⟩).Y ?_;rintro _ au _ ⟨rfl,ax,ay,aA⟩;obtain⟨aC,aE,aF,aG⟩:=K ax au _ ay aA;rw[aP];refine hk _ ⟨uI M aC,aE,j.F aF,?_⟩;have e:fU t l (i+1)=(fU t l i).set (t.cells.length+i) x:=by
   show(fU t l i).set _ (l.getD i 0)=_;rw[u5,P];rfl
  rw[e];exact aG
 .rintro aa k ⟨M,f,j,q⟩;rw[aS,am];exact⟨λh=>Ω,λ_=>⟨rfl,M,f,j,q⟩⟩
end Go.Proofs.YtnhkbjhpbbobaaaGreatDoor
