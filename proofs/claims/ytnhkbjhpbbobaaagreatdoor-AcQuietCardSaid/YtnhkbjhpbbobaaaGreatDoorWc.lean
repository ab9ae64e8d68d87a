/- own texts, made small by a tool (wip/ holds them as they were written): no statement of the seat. -/
import Derived.Test.YtnhkbjhpbbobaaaGreatDoorWb
set_option linter.unusedVariables false
set_option linter.unusedSimpArgs false
set_option linter.unnecessarySimpa false
open Array renaming getElem?_eq_some_iff→j9,getElem?_toList→Q3
open Bool renaming false→rs,true→ro,not_true→X1,not_false→W7,or_eq_false_iff→U4,eq_iff_iff→U9
open Decidable renaming not_not→X5
open Go renaming Value→x1,World→x4,TypeId→p9,IntKind→o7,Builtin→Y1,Program→V5,FuncId→Q9
open Go.Addr renaming add_mid→T8
open Go.Builtin renaming append_→Y0,len_→V7
open Go.Instr renaming loadAt→u5,fieldAt→u7,storeAt→n9,indexAt→Z0,extract→Y8,buildSlice→X2,sliceAt→U5,alloc→P7
open Go.IntKind renaming i64→W6
open Go.Proofs.Tryz renaming prog→x8
open Go.Value renaming int→U6
open Int renaming toNat_natCast→u6,le_refl→S8
open List renaming getElem?_eq_some_iff→x5,mem_of_getElem?→x6,getElem?_eq_getElem→x7,getElem?_map→v8,getD_eq_getElem?_getD→u4,length_map→u9,take_add_one→r8,length_append→r9,replicate→o4,length_set→o5,take_length→o6,length_take→o8,getElem?_set_self→l9,mem_map→j0,mem_append→j4,take_of_length_le→j5,mem_singleton→j6,eq_nil_of_length_eq_zero→c9,length_cons→Z4,map_append→Z5,getElem?_append_right→Z7,getElem?_set_ne→Z9,getElem?_append_left→Y2,getElem?_eq_none→Y4,getElem?_set→Y6,getElem?_take_of_lt→Y7,ext_getElem?→X3,mem_iff_getElem?→X6,drop_eq_getElem_cons→X8,append_assoc→X9,range→W3,append_nil→W5,flatMap_cons→W9,mem_or_eq_of_mem_set→V0,mem_cons→V4,length_eq_one_iff→V6,foldl_cons→V8,length_singleton→U2,mem_of_mem_take→U3,pairwise_iff_getElem→U8,map_set→T2,map_cons→T3,set_append_right→T4,mem_filter→S1,map_map→S5,length→R6,foldl_append→Q0,sum_cons→Q2,getElem_mem→Q4,length_nil→Q7,length_filter_le→Q8
open Nat renaming le_refl→p8,mul_le_mul_right→Y5,le_trans→Y9,zero_le→X7,zero_add→W0,sub_self→W8,add_mul→U7,mul_one→T5,lt_of_lt_of_le→S3,add_sub_cancel_left→R2,add_assoc→R5,min_eq_left→Q6,eq_zero_or_pos→P8
open Option renaming toList_some→o9,isNone_some→Z3,map_some→Y3,map_eq_some_iff→X0,getD_some→V9,map→T0
open Option.some renaming inj→Z6,injEq→X4
open Prod.mk renaming injEq→S7
set_option maxHeartbeats 16000000
open Option renaming some→σ,none→ν
variable{a ai l scope co t:Λ}{c k y:Int}{B N ad ae gs j n r:Nat}{cs:List x1}{I w w0:x4}{e:p9}{bm bv sv v:x1}{S:Nat->Prop}{K:x1->x4->Prop}
namespace Go.Proofs.YtnhkbjhpbbobaaaGreatDoor
open Go Go.Vc Go.RowKit Go.Proofs Go.Proofs.Tryz
set_option maxRecDepth 100000
theorem DD{α:Type}[DecidableEq α]:∀{a b:List α},a.Nodup->b.Nodup->(∀x,x∈a↔x∈b)->a.Perm b
 |[],b,_,_,h=>by
  cases b with
  |nil=>exact .refl _
  |cons y b=>exact m6 ((h y).2 (.head _)) Ξ
 |x::a,b,p,f,h=>by
  have q:=(h x).1 (.head _);have j:=List.nodup_cons.1 p;refine .F ?_ (List.perm_cons_erase q).symm;refine .cons x (DD j.2 (f.erase x) λy=>?_);rw[f.mem_erase_iff];refine⟨λe=>⟨λhe=>j.1 (he▸e),(h y).1 (.tail _ e)⟩,λ⟨r,e⟩=>?_⟩;rcases V4.1 ((h y).2 e)with he|hm
  .exact m6 he r
  .exact hm
theorem uF(h:nz l)(a:l.Nodup):(bx l).Perm l:=DD (Dx l) a λ_=>r1 h
theorem xJ:∀{l:Λ},(∀z∈l,1<=z/\z<=32)->l.map (λz=>min z 4097)=l
 |[],_=>rfl
 |z::l,h=>by
  have e:=h z (.head _);rw[T3,xJ λx a=>h x (.tail _ a)];congr 1;omega
theorem NW{x:cA}(hk:0<=k)(f:0<=x.other)(a:∀p∈x.lines,0<=p.2):0<=k7 x k t/\k7 x k t<=k:=by
 unfold k7;cases e:x.lines.find? (λp=>decide (p.1=t))with
 |none=>simp only;omega
 |some p=>have:=a p (List.mem_of_find?_eq_some e);simp only;omega
theorem uG{all:Λ}{x:cA}(h:uf all N x)(e:all.length<=64):nz x.scope:=λv a=>by
 have:=h.scope.2 v a;omega
theorem qF{f:b5}{x:cA}(a:fp N f)(r:x∈f.d7):ie f.co f.k (jF f.co f.k x):=by
 obtain⟨h1,s,e⟩:=a.d7 x r;have w:=a.co.2.1;have h:=uG h1 w;have ac:=uF h h1.scope.1;have j:∀v∈bx x.scope,0<=v/\v<f.co.length:=λv hm=>h1.scope.2 v ((r1 h).1 hm);have y:=og a.co.2.2 j;have A:aQ (b1 f.co (bx x.scope))=aQ x.co:=by rw[h1.co];exact NS (ac.map _)
 refine⟨⟨NR _,?_⟩,xF _,λv hm=>(j v hm).2,?_,?_,λc B=>?_⟩
 .show (bx x.scope).length<=6;rw[ac.length_eq];exact s
 .show ((bp _).map _).length=_;rw[u9,jy y];rfl
 .show aQ (b1 f.co (bx x.scope))<=4096;have C:∀z∈x.co,1<=z/\z<=32:=λz q=>by
   rw[h1.co]at q;exact og a.co.2.2 (λv hm=>h1.scope.2 v hm) z q
  unfold dy at e;rw[xJ C,decide_eq_false_iff_not]at e;rw[A];omega
 .obtain⟨t,_,rfl⟩:=j0.1 B;exact NW (by have:=a.k.1;omega) h1.other λp ac=>(h1.lines.2 p ac).2
theorem mB{f:b5}(a:fp N f):(∀g∈fU f,ie f.co f.k g)/\kI (fU f)/\(fU f).length<=f.d7.length:=by
 have:=xI (k:=f.k) (by have:=a.k.1;omega) (acc:=[]) (λh ao=>by cases ao) List.nodup_nil λg j=>by
  obtain⟨x,p,rfl⟩:=j0.1 j;exact qF a p
 refine⟨this.1,this.2.1,?_⟩;have e:=this.2.2;rw[Q7,u9,W0]at e;exact e
theorem DE{l:List cO}(e:∀g∈l,ie co k g)(f:kI l):l.Pairwise λa b=>dk a.1≠dk b.1:=by
 have h1:l.Pairwise λa b=>a.1≠b.1:=by
  unfold kI List.Nodup at f;rwa [List.pairwise_map]at f
 exact h1.imp_of_mem λ{a b}h j p he=>p ((xG (e a h).scope (e b j).scope).2 he)
theorem r2{f:b5}(h:fp N f):(fV f).Pairwise (λa b=>dk a.1<dk b.1)/\(fV f).Perm ((fU f).filter fT):=by
 obtain⟨h1,j,_⟩:=mB h;have p:∀g∈(fU f).filter fT,ie f.co f.k g:=λg q=>h1 g (S1.1 q).1;have r:kI ((fU f).filter fT):=(List.Sublist.map _ List.filter_sublist).nodup j;have:=DC ((fU f).filter fT) [] List.Pairwise.nil (DE p r) λa s=>by cases s
 refine⟨this.1,?_⟩;have e:=this.2;rw[List.nil_append]at e;exact e
theorem uH{f:b5}(a:fp N f):∀g∈fV f,ie f.co f.k g:=λg e=>(mB a).1 g (S1.1 ((r2 a).2.mem_iff.1 e)).1
theorem NX{f:b5}(e:fp N f){M:List cO}(ac:M.Perm ((fU f).filter fT))(J:M.Pairwise λa b=>dk a.1<=dk b.1):M=fV f:=by
 obtain⟨h1,h⟩:=r2 e;have j:kI ((fU f).filter fT):=(List.Sublist.map _ List.filter_sublist).nodup (mB e).2.1;have p:=(ac.map (λg:cO=>g.1)).nodup_iff.2 j;have q:∀g∈M,ie f.co f.k g:=λg r=>(mB e).1 g (S1.1 (ac.mem_iff.1 r)).1;have s:=DE q p;refine xH ?_ h1 λx=>by rw[ac.mem_iff,h.mem_iff]
 exact J.imp₂ (λa b h1 h=>Int.lt_iff_le_and_ne.2 ⟨h1,h⟩) s
structure lg(n:aI):Prop where
 k:1<=n.k/\n.k<=2147483648
 co:1<=n.co.length/\n.co.length<=64/\∀z∈n.co,1<=z/\z<=32
 zero:0<=n.zero/\n.zero<=n.k
 lW:n.unary.length=n.co.length
 unary:∀(i:Nat)(z:Int)(u:Λ),n.co[i]?=σ z->n.unary[i]?=σ u->u.length=z.toNat/\∀c∈u,0<=c/\c<=n.k
 d7:∀g∈n.d7,ie n.co n.k g/\2<=g.1.length
theorem NY(z:Int):aQ [z]=z:=by simp[aQ]
theorem uI:∀{l:List cO}{n:aI},lg n->(∀g∈l,ie n.co n.k g)->lg (l.foldl (λn g=>match g.1 with
 |[]=>{n with zero:=g.2.getD 0 0}
 |[v]=>{n with unary:=n.unary.set v.toNat g.2}
 |_=>{n with d7:=n.d7++[g]}) n)/\(l.foldl (λn g=>match g.1 with
 |[]=>{n with zero:=g.2.getD 0 0}
 |[v]=>{n with unary:=n.unary.set v.toNat g.2}
 |_=>{n with d7:=n.d7++[g]}) n).co=n.co
 |[],n,h,_=>⟨h,rfl⟩
 |g::l,n,h,p=>by
  have e:=p g (.head _);have j:∀x∈l,ie n.co n.k x:=λx f=>p x (.tail _ f);rw[V8];obtain⟨sc,cs⟩:=g
  match sc,e with
  |[],e=>
   have s:=e.len;refine uI ⟨h.k,h.co,?_,h.lW,h.unary,h.d7⟩ j;have h1:cs.length=1:=by simpa[b1,aQ]using s
   have w:cs[0]?=σ (cs.getD 0 0):=by rw[u4,x7 Ω];rfl
   exact e.jK _ (x6 w)
  |[v],e=>
   have A:=e.scope.1 v (.head _);have B:=e.d6 v (.head _);refine uI ⟨h.k,h.co,h.zero,by show(n.unary.set _ _).length=_;rw[o5];exact h.lW,λi z u q hu=>?_,h.d7⟩ j;by_cases hi:v.toNat=i
   .subst hi;have C:=h.lW;rw[l9 Ω]at hu;cases hu;have y:b1 n.co [v]=[z]:=by
     simp only[b1,T3,List.map_nil];rw[u4,q];rfl
    refine⟨?_,e.jK⟩;have:=e.len;rw[y,NY]at this;exact this
   .rw[Z9 hi]at hu;exact h.unary i z u q hu
  |a::b::r,e=>
   refine uI ⟨h.k,h.co,h.zero,h.lW,h.unary,λx f=>?_⟩ j;rcases j4.1 f with f|f
   .exact h.d7 x f
   .rw[j6.1 f];exact⟨e,Ξ⟩
theorem DF{f:b5}(a:fp N f):lg (cP f)/\(cP f).co=f.co:=by
 unfold cP;have h:=a.co;refine uI ⟨a.k,h,⟨by show(0:Int)<=0;omega,by show(0:Int)<=f.k;have:=a.k.1;omega⟩,Ξ,λi z u h1 e=>?_,λg j=>by cases j⟩ (uH a);have e:(f.co.map λz=>o4 z.toNat (0:Int))[i]?=σ u:=e;have h1:=h1;rw[v8,h1]at e;cases e;refine⟨Ξ,λc p=>?_⟩;rw[(List.mem_replicate.1 p).2];have:=a.k.1;exact⟨S8 _,by show(0:Int)<=f.k;omega⟩
def mC(x:cA)(k:Int)(i:Nat)(t:Λ):Int:=match(x.lines.take i).find? (λp=>decide (p.1=t))with
 |some p=>min p.2 k
 |none=>min x.other k
theorem DG(x:cA)(k:Int)(t:Λ):mC x k 0 t=min x.other k:=by simp[mC]
theorem DH(x:cA)(k:Int)(t:Λ):mC x k x.lines.length t=k7 x k t:=by
 unfold mC k7;rw[o6];cases x.lines.find? (λp=>decide (p.1=t))<;>rfl
theorem DI{x:cA}{i:Nat}{p:Λ×Int}(w:(x.lines.map (·.1)).Nodup)(hi:x.lines[i]?=σ p)(t:Λ):mC x k (i+1) t=if t=p.1 then min p.2 k else mC x k i t:=by
 unfold mC;rw[r8,hi,o9,List.find?_append];by_cases a:t=p.1
 .subst a;have y:(x.lines.take i).find? (λq=>decide (q.1=p.1))=ν:=by
   rw[List.find?_eq_none];intro q e he;have he:q.1=p.1:=by simpa using he
   obtain⟨j,f⟩:=X6.1 e;have h:j<i:=by have:=(x5.1 f).1;rw[o8]at this;omega
   rw[Y7 h]at f;have r:=x5.1 f;have s:=x5.1 hi;have ac:=U8.1 w j i (by rw[u9];exact r.1) (by rw[u9];exact s.1) h;rw[List.getElem_map,List.getElem_map,r.2,s.2]at ac;exact ac he
  rw[y,m3 rfl];simp
 .rw[m5 a];have:[p].find? (λq=>decide (q.1=t))=ν:=by
   rw[List.find?_eq_none];intro q e he;rw[j6.1 e]at he;exact a (rc he).symm
  rw[this,Option.or_none]
theorem qG{v:Int}(h:v∈l):l[l.idxOf v]?=σ v:=by
 have:=List.idxOf_lt_length_iff.2 h;rw[x7 this,List.getElem_idxOf this]
theorem r3{i:Nat}{v:Int}(j:l.Nodup)(h:l[i]?=σ v):l.idxOf v=i:=by
 have hm:=x6 h;have h1:=qG hm;have a:=x5.1 h1;have e:=x5.1 h;rcases Nat.lt_trichotomy (l.idxOf v) i with f|he|f
 .exact m6 (a.2.F e.2.symm) (U8.1 j _ _ a.1 e.1 f)
 .exact he
 .exact m6 (e.2.F a.2.symm) (U8.1 j _ _ e.1 a.1 f)
def gm(scope a:Λ):Λ:=a.map λv=>((scope.idxOf v:Nat):Int)
theorem uJ{h:Λ}(s:scope.Nodup)(a:h.Perm scope):Good (gm scope h) scope.length:=by
 have q:=a.nodup_iff.2 s;refine⟨by simp[gm,a.length_eq],λi p ac=>?_⟩;unfold gm at ac;rw[v8]at ac;obtain⟨v,r,rfl⟩:=X0.1 ac;have hm:v∈scope:=a.mem_iff.1 (x6 r);have y:=List.idxOf_lt_length_iff.2 hm;refine⟨⟨Ω,Ω⟩,λj z f=>?_⟩;unfold gm at f;rw[v8]at f;obtain⟨u,hu,he⟩:=X0.1 f;have w:=a.mem_iff.1 (x6 hu);have e:scope.idxOf u=scope.idxOf v:=Ω
 have h1:=qG w;rw[e,qG hm]at h1;have x:v=u:=Z6 h1;subst x;have A:=r3 q hu;have B:=r3 q r;omega
theorem DJ{v:Int}(e:a[j]?=σ v):(gm scope a)[j]?=σ ((scope.idxOf v:Nat):Int):=by
 unfold gm;rw[v8,e];rfl
theorem NZ(p:scope.Nodup)(f:a.Perm scope):e3 (b1 co scope) (gm scope a)=b1 co a:=by
 refine X3 λj=>?_;cases e:a[j]? with
 |none=>
  have h:=List.getElem?_eq_none_iff.1 e;rw[Y4 (by rw[uc];simp[gm];exact h),Y4 (by simp[b1];exact h)]
 |some v=>
  have hm:v∈scope:=f.mem_iff.1 (x6 e);have q:=uJ p f;rw[Cs q (by simp[b1]) (DJ e),u6];unfold b1;rw[v8,v8,qG hm,e]
theorem DK{e:Λ}(q:scope.Nodup)(a:e.Perm scope)(r:t.length=scope.length):oa (gm scope e) t=qw scope e t:=by
 have s:=uJ q a;refine(Cr s r (by simp[qw]) λj p f=>?_).symm;unfold gm at f;rw[v8]at f;obtain⟨v,h,rfl⟩:=X0.1 f;have hm:v∈scope:=a.mem_iff.1 (x6 h);have w:=a.nodup_iff.2 q;have x:=(x5.1 h).1;have y:=a.length_eq;unfold qw;rw[u6,v8,qG hm,Y3,r3 w h,u4,x7 (show j<t.length by omega)];rfl
theorem N0{f:b5}{x:cA}{cs:Λ}(e:fp N f)(w:x∈f.d7)(F:cs.length=(aQ x.co).toNat)(y:∀t,dt x.co t->br x.co cs t=k7 x f.k t):
  e3 x.co (gm x.scope (bx x.scope))=b1 f.co (bx x.scope)/\ps x.co cs (gm x.scope (bx x.scope))=(jF f.co f.k x).2:=by
 obtain⟨h1,G,H⟩:=e.d7 x w;have j:=uG h1 e.co.2.1;have ac:=uF j h1.scope.1;have p:=h1.co;have h:e3 x.co (gm x.scope (bx x.scope))=b1 f.co (bx x.scope):=by rw[p];exact NZ h1.scope.1 ac
 have z:=uJ h1.scope.1 ac;have A:∀v∈bx x.scope,0<=v/\v<f.co.length:=λv hm=>h1.scope.2 v ((r1 j).1 hm);have a:dG (b1 f.co (bx x.scope)):=og e.co.2.2 A;refine⟨h,?_⟩;have B:x.co.length=x.scope.length:=by rw[p];simp[b1]
 unfold ps;rw[h];show _=(bp (b1 f.co (bx x.scope))).map λt=>k7 x f.k (qw x.scope (bx x.scope) t);refine X3 λq=>?_;rw[v8,v8];have I:=nt a;by_cases r:q<(aQ (b1 f.co (bx x.scope))).toNat
 .have C:=qs a (i:=q) Ω;rw[C,List.getElem?_range r];simp only[Y3];have E:=xj a r;have s:(de (b1 f.co (bx x.scope)) q).length=x.scope.length:=by rw[kB];simp[b1,ac.length_eq]
  rw[DK h1.scope.1 ac s,y];have:=Mq z B (by rw[h];exact E);rw[DK h1.scope.1 ac s]at this;exact this
 .rw[Y4 Θ,Y4 (by rw[jy a];omega)];rfl
theorem N1{e:Λ}(J:dG ai)(h1:a.length=(aQ ai).toNat)(f:e.length=(aQ ai).toNat):
  ez k a e=(W3 (aQ ai).toNat).map λ(q:Nat)=>min (br ai a (de ai q)+br ai e (de ai q)) k:=by
 conv=>lhs;rw[ub J h1,ub J f]
 unfold ez;rw[List.zipWith_map,List.zipWith_self]
theorem N2{c0 m:Nat}{d:List (x1×x1)}{a:List (Λ)}(f:ag w c0 j1 [.map (σ m)])(hm:db w m d)(j:d.map (·.1)=a.map ep)(e:qC a)(A:a.length<65536):
  al x8 Ky [.func (.func nf) #[] #[Γ c0],Da] w λv I=>Ext w I/\∃g M,M.Perm a/\uA ib M 0 M.length/\px I g v M:=by
 refine aB func255 ?_;refine(M6 f hm j (λp h=>(e p h).1) Ω).Y ?_;rintro v U _ ⟨q,g,L,cL,ac,s⟩;refine(Nk s (e.perm ac) (by rw[ac.length_eq];omega)).Y ?_;rintro _ aa _ ⟨x,M,y,hu,z⟩;exact⟨q.then x (λr B h=>by have:=cL r h;omega),g,M,y.F ac,hu,z⟩
theorem DL{α β:Type}{f:α->β}:∀{M:List β}{D:List α},M.Perm (D.map f)->∃L:List α,L.Perm D/\L.map f=M
 |[],D,h=>by
  have h1:=h.length_eq;simp at h1;have:D=[]:=c9 h1.symm;exact⟨[],by rw[this],rfl⟩
 |x::M,D,h=>by
  have a:x∈D.map f:=h.mem_iff.1 (.head _);obtain⟨p,ac,rfl⟩:=j0.1 a;obtain⟨A,B,rfl⟩:=List.append_of_mem ac;have e:(f p::M).Perm (f p::(A++B).map f):=h.F (by
   rw[Z5,T3,Z5];exact List.perm_middle)
  obtain⟨L,j,q⟩:=DL (List.Perm.cons_inv e);exact⟨p::L,(j.cons p).F List.perm_middle.symm,by rw[T3,q]⟩
theorem DM{g:Nat}(r:a.length=6)(s:n<=6)(f:cs=ints .i8 a)(h:ag w g cG cs):aM .i8 w (.slice (σ (if 6=0 then⟨g,0,ν⟩else⟨g,0+0*1,ν⟩)) (n-0) (6-0)) (a.take n):=by
 subst f;rw[m5 Ω];unfold aM;have p:(a.take n).length=n:=by rw[o8];omega
 rw[p];refine⟨Θ,g,0,_,6,rfl,Ω,by simp[maxLen],λ_=>rfl,λj v e=>?_⟩;have q:=(x5.1 e).1;refine h.range j v ?_;rw[ints,List.map_take,Y7 (by simp[ints]at q;omega)]at e;exact e
def N3(D L:Told):Prop:=L.Perm D/\uA (λp=>ib (pad p.1)) L 0 L.length
theorem N4{g m:Nat}{o:Int}{D:Told}(h:eU w g m ai k o D)(bb:D.length<65536):al x8 JY [Γ g] w λv I=>Ext w I/\∃L:Told,N3 D L/\bJ (fC w.heap.size) bW I [v] L:=by
 obtain⟨⟨sv,gs,Y,hm⟩,bc,J,bQ,ay⟩:=id h;have bd:qC (D.map λp=>pad p.1):=λbR hk=>by
  obtain⟨p,ac,rfl⟩:=j0.1 hk;exact rR J (ay p ac).1
 refine aB func199 ?_;rw[cR e1.u];simp only[Z3,aX];rw[aG fO.p 3 Y rfl];refine M4.Y ?_;rintro _ U _ ⟨Z,c0,rfl,bT,be⟩;refine(N2 be (bc.W Z) (by rw[S5,S5];rfl) bd (by simpa using bb)).Y ?_;rintro bU aa _ ⟨az,bV,M,bf,bg,aC⟩;obtain⟨L,ab,K⟩:=DL bf;have aD:M.length=L.length:=by rw[<-K];simp
 have bX:=ab.length_eq;have s1:=Z.size;have bY:=az.size;have aE:=Z.F az;rw[dE k1.u aC];refine cb.range L.length (λi out e=>Ext aa e/\bJ (fC aa.heap.size) bW e [out] (L.take i)) Ω ⟨Ext.refl _,by rw[List.take_zero];exact iM⟩ ?_ ?_
 rotate_left
 .rintro out e bh ⟨B,N⟩;rw[aD];simp only[aR,ak];refine⟨λh=>Ω,λ_=>⟨aE.F B,L,⟨ab,λp q x y h1 bj b0 bk bl=>?_⟩,?_⟩⟩
  .exact bg p q (pad x.1) (pad y.1) h1 bj Ω (by rw[<-K,v8,bk];rfl) (by rw[<-K,v8,bl];rfl)
  .rw[o6]at N;exact av.Y N (λr _ h=>by have h:=h;show w.heap.size<=r;omega) λ_ _ h=>h
 rintro i out e bh hi ⟨B,N⟩ bm;obtain⟨⟨t,c⟩,ad⟩:∃p,L[i]?=σ p:=⟨_,x7 hi⟩;have ae:(t,c)∈D:=ab.mem_iff.1 (x6 ad);have ah:=(ay _ ae).1;have aH:=xt J ah;have am:t.length=ai.length:=aH.1;have aI:=J.1;have bn:nv (pad t):=rR J ah;have O:=bn.1;have bo:M[i]?=σ (pad t):=by rw[<-K,v8,ad];rfl
 rw[aD];simp only[aR,ak];refine⟨λ_=>?_,λh=>Ω⟩;rw[Nj rfl (aC.W B) bo];refine bB cG.i λan b1 b2 aJ aK=>?_;refine rQ O rfl aK λbp br b3 P=>?_;have b5:=aJ.size;have b6:=aK.lt;have bs:Ext e bp:=aJ.put br Ω;intro aM E _ _;have ao:=bs.F E;have ap:=(aE.F B).F ao;have aN:=h.W ap;obtain⟨⟨b7,b8,b9,ca⟩,cc,_⟩:=id aN;have cd:=ao.size;rw[aG fO.p 3 (Y.W ap) rfl,pv O (P.W E).range];refine MY aN ah (λf bt=>?_) (λbu=>m6 rfl (bu _ ae));have bw:f=c:=by
  have:=CY h.nodup bt ae rfl;exact congrArg Prod.snd this
 subst bw;simp only[Bool.false_eq_true,if_false];rw[di (cs:=#[.slice ν 0 0,Δ f]) Ψ];refine bB gG.i λQ ce cf au aP=>?_;refine⟨.inl au,?_⟩;refine b4 (vs:=[.slice ν 0 0,Δ f]) gG.i rfl rfl (by intro v aQ;simp at aQ;rcases aQ with rfl|rfl<;>rfl) aP λC bx cg aU=>?_;have ch:=au.size;have ci:=aP.lt;have S:Ext aM C:=au.put bx Ω;have aV:=ao.F S;have aZ:=ap.F S;rw[aG fO.p 0 (Y.W aZ) rfl,aY aq.u (hm.ls.W aZ)];rw[tI cG.u gh.i (l:=0) (h:=ai.length) (m:=6) j7 (pa _ _ rfl) e2 Ω Ω Ω];have a1:=DM O aI rfl ((P.W E).W S);rw[<-am,CT]at a1;rw[<-am,aY mn.u a1];have bz:=(P.W E).W S;have cj:an<aM.heap.size:=(P.W E).lt;have ck:Q<C.heap.size:=aU.lt;refine bZ.range t.length (λj s=>af (λr=>r=Q\/C.heap.size<=r) C s/\∃aS gt,C.heap.size<=gt/\ag s Q gG [aS,Δ f]/\aA .i64 aj s gt aS (t.take j)) Ω ⟨af.refl _ _,_,C.heap.size,p8 _,aU,aA.nil _ _ _ _⟩ ?_ ?_
 .rintro j s bC bD ⟨z,aS,gt,bE,W,X⟩ bF;obtain⟨x,aw⟩:=aF (l:=t) bD;have cl:=aH.2 x (x6 aw);have cm:Ext e s:=aV.then z (λr a2 he=>by rcases he with rfl|he<;>omega);have a6:=DM O aI rfl (bz.V z (λhe=>by rcases he with he|he<;>omega));rw[<-am,CT]at a6;simp only[aR,ak];refine⟨λ_=>?_,λh=>Ω⟩;rw[bi mn.u gh.i Ψ a6 aw,aL gG.p 0 W rfl,fB gh.u aj.u,li Ω Ω];refine eB aq.u aj.i rfl λa ga bG cn A bH=>?_;refine kx aq.u aj.i rfl (X.W A) bH.ls Θ Θ λa7 bI bK cp G H=>?_;have bL:=z.size;have bM:=A.size;have cq:=H.size;rw[aT gG.p rfl];refine bq (g:=Q) (o:=0) aq.i G.ls.cells.1 G.ls.cells.2 ((W.W A).V H (λhe=>by have he:=he;omega)) Ξ λcr a8 ct bN=>?_;simp only[aO];refine bF _ ⟨((z.F (A.V _)).F (H.Y λr _ he=>.inr (by have he:r=gt:=he;omega))).F (a8.Y λr _ he=>.inl he),a7,bI,Ω,bN,?_⟩;rw[r8,aw];exact G.V a8 (λ_ he=>by have he:=he;omega)
 .rintro s bC ⟨z,aS,gt,bE,W,X⟩;simp only[aR,ak];refine⟨λh=>Ω,λ_=>?_⟩;rw[o6]at X;rw[bA gG.p gG.i rfl W.range];have bL:=z.size;have bO:=aV.then z (λr a2 he=>by rcases he with rfl|he<;>omega);have ba:bJ (fC e.heap.size) bW s [aS,Δ f] (t,f):=⟨[aS],[Δ f],fC e.heap.size,bW,rfl,λ_ h=>h,λ_ h=>h.elim,λ_ _ _ h=>h,av.Y (ph X) (λr _ h=>by subst h;show e.heap.size<=r;omega) (λ_ _ h=>h),rfl⟩;refine lM (α:=Λ×Int) (R:=bW) qe.u gG.i Φ rfl ba λu bG A _ bP=>?_;have ax:=bO.F A;have bM:=ax.size;refine pg qe.u gG.i rfl (bS (n0 N) ax) bP (bS ba A) (λr _ h aW=>?_) Θ Θ λa7 bK G H=>?_
  .rcases aW with aW|aW
   .have:=h.2;have:e.heap.size<=r:=aW;omega
   .exact aW
  simp only[aO];have cu:=B.size;refine bm _ _ ⟨(B.F ax).then H (λr a2 h=>by have h:=h.1;have h:=h;omega),?_⟩;rw[r8,ad];refine av.Y G (λr _ h=>?_) λ_ _ h=>h;show aa.heap.size<=r;rcases h with h|h|h
  .exact h.1
  .have h:=h;omega
  .omega
theorem DN{s:Λ}(J:dG s):t∈bp s↔dt s t:=by
 refine⟨λh=>?_,λ⟨n,h⟩=>x6 (nu J h)⟩;obtain⟨i,hi⟩:=X6.1 h;exact⟨_,kF J hi⟩
theorem DO:∀{s:Λ},dG s->(bp s).Pairwise λa b=>ib a<ib b
 |[],_=>by simp[bp]
 |k::s,J=>by
  have z:=DO J.tail;have f:∀t∈bp s,0<=ib t/\ib t<32 ^ s.length:=λt p=>by
   have A:=(DN J.tail).1 p;have h1:=pr.1 A;have r:=uz t λx q=>by
    obtain⟨i,hi,rfl⟩:=List.getElem_of_mem q;obtain⟨a,e⟩:=aF (l:=s) (i:=i) Ω;have C:=h1.2 i a _ e (x7 hi);have E:=(J.tail a (x6 e)).2;omega
   rw[h1.1];exact r
  have j:∀t∈bp s,t.length=s.length:=λt p=>tM p;show((W3 k.toNat).flatMap λ(v:Nat)=>(bp s).map λt=>(v:Int)::t).Pairwise _;rw[List.pairwise_flatMap];refine⟨λv _=>?_,?_⟩
  .rw[List.pairwise_map];refine z.imp_of_mem λ{a b}e f h=>?_;simp only[ib,j a e,j b f];omega
  .refine List.pairwise_lt_range.imp λ{u v}F x q y B=>?_;obtain⟨a,e,rfl⟩:=j0.1 q;obtain⟨b,w,rfl⟩:=j0.1 B;simp only[ib,j a e,j b w];have h1:=f a e;have r:=f b w;have:=Int.mul_le_mul_of_nonneg_right (show(u:Int)+1<=v by omega) (show(0:Int)<=32 ^ s.length by have:=xx s.length;omega);rw[Int.add_mul,Int.one_mul]at this;omega
theorem N5{D L:Told}{o:Int}(e:(D.map (·.1)).Nodup)(ac:L.Perm D)(t:Λ):jH L o t=jH D o t:=by
 have h:=(ac.map (·.1)).nodup_iff.2 e;by_cases he:∃p∈D,p.1=t
 .obtain⟨p,f,rfl⟩:=he;rw[rS e f,rS h (ac.mem_iff.2 f)]
 .rw[rT λp h1 a=>he ⟨p,h1,a⟩,rT λp h1 a=>he ⟨p,ac.mem_iff.1 h1,a⟩]
def jL(ai:Λ)(f:Λ->Int)(cs:Λ):Prop:=cs.length=(aQ ai).toNat/\∀t,dt ai t->br ai cs t=f t
theorem jL.eq{f:Λ->Int}{cs:Λ}(J:dG ai)(h1:jL ai f cs)(e:jL ai f a):cs=a:=Mg J h1.1 e.1 λt h=>by rw[h1.2 t h,e.2 t h]
theorem jL.congr{f a:Λ->Int}{cs:Λ}(h:jL ai f cs)(he:∀t,dt ai t->f t=a t):jL ai a cs:=⟨h.1,λt e=>by rw[h.2 t e,he t e]⟩
theorem xK(J:dG ai)(h:dt ai t):∃n:Nat,cz ai t 0=σ (n:Int)/\n<(aQ ai).toNat:=by
 obtain⟨n,a⟩:=h;have:=pi J a;simp only[Int.zero_mul,Int.zero_add,Int.one_mul]at this;exact⟨n.toNat,by rw[a];congr 1;omega,Ω⟩
theorem N6(J:dG ai)(c:Int):jL ai (λ_=>c) (o4 (aQ ai).toNat c):=⟨Ξ,λt a=>by
 obtain⟨n,e,f⟩:=xK J a;unfold br;rw[e];simp only[u6,u4,List.getElem?_replicate,f,if_true,V9]⟩
theorem jL.put{f:Λ->Int}{cs:Λ}(J:dG ai)(h:jL ai f cs)(q:dt ai t)(r:cC c k):jL ai (λs=>if s=t then c else f s) (tQ ai t k c cs):=by
 obtain⟨n,e,w⟩:=xK J q;unfold tQ;rw[e];simp only[r,if_true,u6];refine⟨by simp[h.1],λs p=>?_⟩;obtain⟨m,hm,x⟩:=xK J p;have a:=h.2 s p;unfold br at a ⊢;rw[hm]at a ⊢;simp only[u6]at a ⊢;by_cases he:s=t
 .subst he;rw[e]at hm;have j:n=m:=by have:=Z6 hm;omega
  subst j;rw[m3 rfl,u4,l9 (by rw[h.1];exact w)];rfl
 .rw[m5 he,u4,Z9 (λj=>he ?_),<-u4,a];subst j;rw[<-Cl J hm,<-Cl J e]
def N7(w:x4)(ai:Λ)(k o:Int)(D:Told)(v:x1)(I:x4):Prop:=Ext w I/\(4096<aQ ai->v= .tuple #[.pointer ν,Δ 5])/\
 (aQ ai<=4096->∃g a sv cs,v= .tuple #[Γ g,Δ 0]/\w.heap.size<=g/\(w.heap.size<=a/\∀r,lc sv r->w.heap.size<=r)/\dj I g a sv ai k cs/\jL ai (jH D o) cs)
theorem DP{g m:Nat}{o:Int}{D:Told}(h:eU w g m ai k o D)(Y:D.length<65536):al x8 I5 [Γ g] w (N7 w ai k o D):=by
 obtain⟨⟨sv,gs,Z,hm⟩,aW,J,ab,ad⟩:=id h;have O:=h.nodup;refine aB func126 ?_;rw[cR e1.u];simp only[Z3,aX];intro U a _ _;have G:=Z.W a;rw[aG fO.p 0 G rfl,aG fO.p 1 G rfl,aG fO.p 2 G rfl];refine(w1 (hm.ls.W a)).Y ?_;rintro _ aa _ ⟨x,_,ae,_,ag⟩;by_cases ac:aQ ai<=4096
 rotate_left
 .have:=ae J Ω;subst this;rw[bu,bw];simp only[bF,ak];exact⟨λ_=>⟨a.F x,λ_=>rfl,λh=>m6 h ac⟩,λh=>by simp at h⟩
 obtain⟨gt,f,aS,rfl,aY,aZ,ah,P⟩:=ag J ac ab;rw[bu,bw];simp only[bF,ak];refine⟨λh=>m6 rfl h,λ_=>?_⟩;have s1:=a.size;have a1:=x.size;refine(N4 ((h.W a).W x) Y).Y ?_;rintro cL aj _ ⟨H,L,y,Q⟩;have a2:=H.size;have a6:f<aa.heap.size:=by
  obtain⟨⟨a7,a8,_,_,am⟩,⟨_,_,ba⟩,an,ao⟩:=id P;have bb:=nt an.2;obtain⟨_,⟨_,ap⟩|⟨cap,cs,_,aq,_⟩⟩:=am
  .rw[ao]at ap;omega
  .exact aq.lt
 have bc:=y.1.length_eq;rw[ka qe.u Q];refine bZ.range L.length (λi z=>af (λr=>r=f) aj z/\∃cs,dj z gt f aS ai k cs/\jL ai (jH (L.take i) o) cs) Ω ⟨af.refl _ _,_,P.W H,by rw[List.take_zero];exact N6 J.2 o⟩ ?_ ?_
 .rintro i z au hi ⟨C,cs,I,E⟩ aw;simp only[aR,ak];refine⟨λ_=>?_,λh=>Ω⟩;obtain⟨⟨t,c⟩,q⟩:∃p,L[i]?=σ p:=⟨_,x7 hi⟩;have ax:(t,c)∈D:=y.1.mem_iff.1 (x6 q);obtain⟨ay,az,aA⟩:=ad _ ax;have aC:=av.V Q C λr R aD he=>by
   have he:r=f:=he;rcases aD with h|h
   .have h:=h;omega
   .exact h
  refine n2 gG.p rfl qe.u gG.i aC q λus aE=>?_;obtain⟨bd,be,A,B,rfl,bf,bg,_,h1,aF⟩:=aE;have aH:=aF;subst aH;obtain⟨aI,rfl,_⟩:=id h1;have hu:=dQ h1;refine bB gG.i λbh bi bj aJ S=>?_;refine b4 (vs:=[aI,Δ c]) gG.i rfl rfl (by intro v W;simp at W;rcases W with rfl|rfl;exact hu.cells.2;rfl) S λbk aK bl X=>?_;have bm:=S.lt;have K:=aJ.put aK Ω;rw[aL gG.p 0 X rfl,aL gG.p 1 X rfl];refine(Lp (I.W K) (hu.W K)).Y ?_;rintro _ bn _ ⟨rfl,aM,aN⟩;simp only[aO];refine aw _ ⟨(C.F (K.V _)).F aM,_,aN,(E.put J.2 ay az).congr λs bo=>?_⟩;rw[r8,q];have M:=(y.1.map (·.1)).nodup_iff.2 O;have aP:∀p∈L.take i,p.1≠t:=λp ac he=>by
   obtain⟨j,N⟩:=X6.1 ac;have aT:j<i:=by have:=(x5.1 N).1;rw[o8]at this;omega
   rw[Y7 aT]at N;have:=lU M (by rw[v8,N,Y3,he]) (by rw[v8,q];rfl);omega
  have aU:((L.take i).map (·.1)).Nodup:=by rw[List.map_take];exact(List.take_sublist _ _).nodup M
  have aV:((L.take i++[(t,c)]).map (·.1)).Nodup:=by
   have e:L.take i++[(t,c)]=L.take (i+1):=by rw[r8,q];rfl
   rw[e,List.map_take];exact(List.take_sublist _ _).nodup M
  exact((CZ aP aA).cost aU aV s).symm
 .rintro z au ⟨C,cs,I,E⟩;simp only[aR,ak];refine⟨λh=>Ω,λ_=>?_⟩;rw[o6]at E;exact⟨((a.F x).F H).put C Ω,λh=>Ω,λ_=>⟨gt,f,aS,cs,rfl,Ω,⟨Ω,λr R=>by have:=ah r R;omega⟩,I,E.congr λs _=>N5 O y.1 s⟩⟩
theorem N8{s cs:Λ}(J:dG s)(a:cs.length=(aQ s).toNat){i:Nat}(h:(bp s)[i]?=σ t):cs[i]?=σ (br s cs t):=by
 have hi:=(x5.1 h).1;rw[jy J,<-a]at hi;unfold br;rw[kF J h];simp only[u6,u4,x7 hi,V9]
theorem uK{k:o7}{g:Nat}(h:aA k e w g v l)(f:0<l.length):g<w.heap.size:=by
 obtain⟨_,⟨_,h1⟩|⟨_,_,_,a,_⟩⟩:=h
 .omega
 .exact a.lt
def gn(w:x4)(g m:Nat)(sv:x1)(gs:Nat)(ai:Λ)(k o:Int)(D:Told):Prop:=
 ag w g fO [sv,Δ k,Δ o,.map (σ m)]/\aA .i64 aj w gs sv ai/\db w m (D.map k8)/\ca ai/\cC o k/\∀p∈D,dt ai p.1/\cC p.2 k/\p.2≠o
theorem gn.is{g m:Nat}{o:Int}{D:Told}(h:gn w g m sv gs ai k o D):eU w g m ai k o D:=⟨⟨sv,gs,h.1,h.2.1⟩,h.2.2⟩
theorem eU.at{g m:Nat}{o:Int}{D:Told}(h:eU w g m ai k o D):∃sv gs,gn w g m sv gs ai k o D:=by
 obtain⟨⟨sv,gs,h1,a⟩,e⟩:=h;exact⟨sv,gs,h1,a,e⟩
theorem gn.W{g m:Nat}{o:Int}{D:Told}(h:gn w g m sv gs ai k o D)(a:Ext w I):gn I g m sv gs ai k o D:=by
 obtain⟨h1,e,f,j⟩:=h;exact⟨h1.W a,e.W a,f.W a,j⟩
theorem gn.V{g m:Nat}{o:Int}{D:Told}(h:gn w g m sv gs ai k o D)(a:af S w I)(e:¬S g)(hm:¬S m)(J:∀r,lc sv r->¬S r):gn I g m sv gs ai k o D:=by
 obtain⟨h1,f,j,p⟩:=h;exact⟨h1.V a e,bs f a J,j.V a hm,p⟩
theorem uL{g m:Nat}{d:List (x1×x1)}(h:ag w g e cs)(hm:db w m d):g≠m:=by
 rintro rfl;obtain⟨a,c,h1,_⟩:=hm;unfold ag at h;rw[h1]at h;cases h
theorem DQ{g m:Nat}{k:o7}{d:List (x1×x1)}(h:aA k e w g v l)(hm:db w m d)(f:lc v r):r≠m:=by
 obtain⟨rfl,_⟩:=bV h f;obtain⟨_,⟨rfl,_⟩|⟨_,_,_,j,_⟩⟩:=h
 .obtain⟨a,n,c,h,_⟩:=f;cases h
 .exact uL j hm
theorem gn.put{g m:Nat}{o:Int}{D D':Told}(h:gn w g m sv gs ai k o D)(a:af (λr=>r=m) w I)(aW:eU I g m ai k o D'):gn I g m sv gs ai k o D':=
 ⟨h.1.V a (λhe=>uL h.1 h.2.2.1 he),bs h.2.1 a (λr e he=>DQ h.2.1 h.2.2.1 e he),aW.2⟩
theorem gn.rL{g m:Nat}{o:Int}{D:Told}(h:gn w g m sv gs ai k o D):g<w.heap.size/\m<w.heap.size/\∀r,lc sv r->r<w.heap.size:=
 ⟨h.1.lt,h.2.2.1.lt,λr a=>by obtain⟨rfl,e⟩:=bV h.2.1 a;exact e⟩
instance (s t:Λ):Decidable (dt s t):=decidable_of_iff ((cz s t 0).isSome=ro) ⟨λh=>by
 cases a:cz s t 0 with
 |none=>rw[a]at h;cases h
 |some n=>exact⟨n,a⟩,λ⟨n,h⟩=>by rw[h];rfl⟩
theorem uM(h:aM .i64 w sv l)(G:l.length<=1000000):al x8 AO [sv] w λv I=>Ext w I/\∃g,w.heap.size<=g/\aA .i64 aj I g v l:=by
 refine aB func117 ?_;rw[aY ax.u h];refine k3 (k:=.i64) aq.u aj.i Ω Ω λg U H j p=>?_;have y:aA .i64 aj U g (.slice (σ ⟨g,0,ν⟩) l.length l.length) (o4 l.length 0):=by
  have:=b0.full (k:=1) (n:=l.length) p Ξ (by simp[maxLen];omega);exact aA.of this
 rw[aY ax.u (h.W j)];have J:=p.lt;refine bZ.range l.length (λi aa=>af (λr=>r=g) U aa/\aA .i64 aj aa g (.slice (σ ⟨g,0,ν⟩) l.length l.length) (l.take i++o4 (l.length-i) 0)) h.le ⟨af.refl _ _,by simpa using y⟩ ?_ ?_
 rotate_left
 .rintro aa z ⟨f,a⟩;rw[aR,ak];rw[o6,W8,List.replicate_zero,W5]at a;exact⟨λh=>Ω,λ_=>⟨j.put f Ω,g,Ω,a⟩⟩
 rintro i aa z hi ⟨f,a⟩ A;obtain⟨x,q⟩:=aF (l:=l) hi;have B:Ext w aa:=j.put f Ω;refine bI Ω ?_;rw[bi ax.u au.i Ψ (h.W B) q];rw[jB rfl aq.u aj.i a Θ];refine jC aj.i a Θ λK C L s=>?_;rw[aO];refine A _ ⟨f.F C,?_⟩;have e:(l.take i++o4 (l.length-i) 0).set i x=l.take (i+1)++o4 (l.length-(i+1)) 0:=by
  have E:(l.take i).length=i:=by rw[o8];omega
  rw[T4 _ _ Ω,E,W8,show l.length-i=(l.length-(i+1))+1 by omega,List.replicate_succ,List.set_cons_zero,r8,q,o9,X9];rfl
 rw[e]at s;exact s
def N9(w:x4)(l:Λ)(k o:Int)(v:x1)(I:x4):Prop:=
 Ext w I/\(¬ca l->v= .tuple #[.pointer ν,Δ 1])/\(ca l->¬cC o k->v= .tuple #[.pointer ν,Δ 3])/\
  (ca l->cC o k->∃g m sv gs,v= .tuple #[Γ g,Δ 0]/\w.heap.size<=g/\w.heap.size<=m/\(∀r,lc sv r->w.heap.size<=r)/\gn I g m sv gs l k o [])
theorem Oa{o:Int}(h:aM .i64 w sv l):al x8 qa [sv,Δ k,Δ o] w (N9 w l k o):=by
 refine aB func178 ?_;refine aV (λv U=>Ext w U/\∃c,v= .bool c/\(c=ro↔¬ca l)) ?_ ?_
 .rintro _ U ⟨e,c,rfl,f⟩;rw[bY];refine⟨λx=>⟨e,λ_=>rfl,λh=>m6 h (f.1 x),λh=>m6 h (f.1 x)⟩,λA=>?_⟩;have J:ca l:=Classical.byContradiction λh=>by have:=f.2 h;rw[A]at this;cases this
  have H:=J.1;refine k4.Y ?_;rintro _ aa _ ⟨rfl,a⟩;by_cases hi:cC o k
  rotate_left
  .simp only[hi,decide_false,bC,W7,bH];exact⟨e.F a,λh=>m6 J h,λ_ _=>rfl,λ_ h=>m6 h hi⟩
  simp only[hi,decide_true,bC,X1,aX];refine(mr ((h.W e).W a) Ω).Y ?_;rintro aS I _ ⟨y,B,K,hm⟩;have L:=hm.ls.cells;refine ur λm M N j C=>?_;rw[di (cs:=#[aS,Δ k,Δ o,.map (σ m)]) (by obtain⟨_,_,_,_,_,rfl,_⟩:=hm.ls;kernel_rfl)];refine bo λg O P q E=>?_;have s1:=e.size;have Q:=a.size;have R:=y.size;have S:=j.size;exact⟨((((e.F a).F y).F j).F q),λh=>m6 J h,λ_ h=>m6 hi h,λ_ _=>⟨g,m,aS,B,rfl,Ω,Ω,λr G=>by have:=(bV hm G).1;omega,E,(hm.W j).W q,C.W q,J,hi,λp ac=>by cases ac⟩⟩
 .intro ay z;rw[aY aq.u h];simp only[bO,ak];refine⟨λV=>z _ _ ⟨Ext.refl _,ro,rfl,λ_ J=>by have:=J.1;omega,λ_=>rfl⟩,λW=>?_⟩;refine(CU h).Y ?_;rintro _ aa _ ⟨rfl,a⟩;refine z _ _ ⟨a,_,rfl,?_⟩;rw[ne];exact⟨λs J=>s J.2,λs J=>s ⟨Ω,J⟩⟩
structure DR where
 ai:Λ
 k:Int
 o:Int
 D:Told
instance Vj:av DR where
 n:=1
 rep _ _ R w cs a:=∃g m sv gs,cs=[Γ g]/\gn w g m sv gs a.ai a.k a.o a.D/\R g/\R m/\∀r,lc sv r->R r
 len:=by rintro _ _ _ _ _ _ ⟨_,_,_,_,rfl,_⟩;rfl
 one:=by rintro _ _ _ _ _ _ ⟨_,_,_,_,rfl,_⟩ u hu;simp at hu;subst hu;rfl
 V:=by
  rintro _ _ R T w I _ a ⟨g,m,sv,gs,rfl,h1,f,h,j⟩ z p;obtain⟨q,s,x⟩:=h1.rL;exact⟨g,m,sv,gs,rfl,h1.V z (p g q (.inr f)) (p m s (.inr h)) λr e=>p r (x r e) (.inr (j r e)),f,h,j⟩
 Y:=by
  rintro _ _ _ R R' w _ a ⟨g,m,sv,gs,rfl,h1,f,h,j⟩ _ y;obtain⟨q,s,x⟩:=h1.rL;exact⟨g,m,sv,gs,rfl,h1,y g q f,y m s h,λr e=>y r (x r e) (j r e)⟩
 jg:=by
  rintro _ _ R w _ a ⟨g,m,sv,gs,rfl,h1,f,h,j⟩;exact⟨g,m,sv,gs,rfl,h1,.inr f,.inr h,λr e=>.inr (j r e)⟩
abbrev iv:Type:=Rd (Λ)×DR
def r4(k:Int)(x:cA)(f:iv):Prop:=f.1=x.scope/\f.2.ai=x.co/\f.2.k=k/\f.2.o=min x.other k/\f.2.D.length<=x.lines.length/\∀t,jH f.2.D f.2.o t=k7 x k t
theorem Ob{m:Bool}{S R:ah}{x:cA}(h:av.rep m S R w cs (iV x)):∃aU d9 ck,cs=[aU,d9,Δ x.other,ck]/\av.rep (α:=Λ) rs bW R w [aU] x.scope/\av.rep (α:=Λ) rs bW R w [d9] x.co/\av.rep (α:=List (Λ×Int)) rs bW R w [ck] x.lines:=by
 obtain⟨j,d1,q,r,rfl,_,_,_,h1,p,d2,s,z,rfl,_,_,_,a,A,d3,B,C,rfl,_,_,_,f,e⟩:=h;have h1:=h1;have a:=a;have f:=f;have e:=e;obtain⟨u,rfl⟩:=V6.1 (show j.length=1 from av.len h1);obtain⟨v,rfl⟩:=V6.1 (show p.length=1 from av.len a);obtain⟨y,rfl⟩:=V6.1 (show d3.length=1 from av.len e);subst f;exact⟨u,v,y,rfl,h1,a,e⟩
theorem Oc{m:Bool}{S R:ah}{p:Λ×Int}(h:av.rep m S R w cs p):∃aS,cs=[aS,Δ p.2]/\aM .i64 w aS p.1:=by
 obtain⟨e,d1,f,j,rfl,_,_,_,h1,a⟩:=h;obtain⟨u,rfl⟩:=V6.1 (show e.length=1 from av.len h1);have a:=a;subst a;exact⟨u,rfl,dQ h1⟩
structure uN(k:Int)(x:cA):Prop where
 k:right k
 co:ca x.co
 other:0<=x.other
 lines:ob x.co x.lines
 len:x.lines.length<=60000
 scope:x.scope.length<=100001
theorem dr{k:o7}(h:aM k w v l):∃a n c,v= .slice a n c:=by
 obtain⟨_,b,o,base,cap,rfl,_⟩:=h;exact⟨_,_,_,rfl⟩
theorem Od{ai:Nat}{aI aJ aK:x1}{K:Int}{R:ah}{x:cA}(aj:ag w ai cF [aI,Δ K,aJ,aK])(aM:Seen R w cs (iV x))(aN:uN K x):
  al x8 wG [Γ ai,.agg cs.toArray] w λv I=>Ext w I/\∃cd,∃f:iv,v= .agg cd.toArray/\cd.length=2/\Seen (fC w.heap.size) I cd f/\r4 K x f:=by
 obtain⟨aU,d9,ck,rfl,h1,ak,O⟩:=Ob aM;obtain⟨E,P,bh,am,bi,bj⟩:=aN;have bk:=P.1;refine aB func118 ?_;refine bo λan U bl ao j=>?_;have j:ag U an ci [aU,d9,Δ x.other,ck]:=by
  obtain⟨_,_,_,rfl⟩:=nx h1;obtain⟨_,_,_,rfl⟩:=nx ak;obtain⟨_,_,_,rfl⟩:=nx O;exact j
 refine bB cJ.i λap aa bm Q G=>?_;have G:=G;intro bn H _ _;have S:=(ao.F Q).F H;have W:=Q.F H;have bp:=ao.size;have bq:=Q.size;have z3:=H.size;have br:=G.lt;have aq:=aj.W S;rw[aL ci.p 1 (j.W W) rfl,aG cF.p 1 aq rfl,
  aL ci.p 2 (j.W W) rfl,aG cF.p 1 aq rfl,nj]
 refine(uM ((dQ ak).W S) Ω).Y ?_;rintro bt bx _ ⟨s,bz,bA,aP⟩;refine⟨.inl s,?_⟩;have z4:=s.size;have aQ:cC (min x.other K) K:=⟨E,by have:=E.1;omega,Ω⟩;refine(Oa aP.ls).Y ?_;rintro _ aR _ ⟨J,_,_,aT⟩;obtain⟨ae,m,sv,gs,rfl,bC,bD,au,aV⟩:=aT P aQ;rw[bu,bw];have z5:=J.size;have X:=(S.F s).F J;have av:=(W.F s).F J;rw[aL ci.p 3 (j.W av) rfl];have aw:=bS O X;rw[ka jZ.u aw];refine bZ.range x.lines.length (λi L=>af (λr=>r=m) aR L/\∃D,D.length<=i/\gn L ae m sv gs x.co K (min x.other K) D/\∀t,jH D (min x.other K) t=mC x K i t) (tK aw) ⟨af.refl _ _,[],p8 _,aV,λt=>by rw[DG];rfl⟩ ?_ ?_
 .rintro i L aW hi ⟨a,D,ax,y,Y⟩ aX;obtain⟨p,ac⟩:=aF (l:=x.lines) hi;have ay:=am.2 p (x6 ac);have z:=X.put a Ω;have aY:=a.size;have aZ:=bS O z;refine bI Ω ?_;refine n2 ey.p rfl jZ.u ey.i aZ ac λbE a1=>?_;obtain⟨aS,rfl,az⟩:=Oc a1;refine bB ey.i λbF bG bH aA a2=>?_;have bJ:=aA.size;refine b4 (vs:=[aS,Δ p.2]) ey.i rfl rfl (by intro v A;simp at A;rcases A with rfl|rfl<;>first|exact az.cells.2|rfl) a2 λbK a6 bL aC=>?_;have a7:=aA.put a6 Ω;intro bM Z _ _;have q:=a7.F Z;have z9:=q.size;rw[aL ey.p 0 (aC.W Z) rfl,aL ey.p 1 (aC.W Z) rfl,aG cF.p 1 ((aj.W z).W q) rfl,nj];have bN:=xt P ay.1;refine(uM (az.W q) Ω).Y ?_;rintro bO bP _ ⟨B,bQ,bR,a8⟩;refine⟨.inl B,?_⟩;have bT:=B.size;refine(C2 ((y.W q).W B).is a8.ls).Y ?_;rintro _ bU _ ⟨_,ba⟩;have bb:cC (min p.2 K) K:=⟨E,by have:=E.1;omega,Ω⟩;obtain⟨rfl,aD,D',aE,aH⟩:=ba ⟨ay.1,bb⟩;rw[aO];refine aX _ ⟨(a.F ((q.F B).V _)).F aD,D',by have:=aE.2;omega,gn.put ((y.W q).W B) aD aH,λt=>?_⟩;rw[DI am.1 ac,aE.cost y.is.nodup aH.nodup];by_cases M:t=p.1
  .rw[m3 M,m3 M]
  .rw[m5 M,m5 M,Y]
 .rintro L aW ⟨a,D,ax,y,Y⟩;have z:=X.put a Ω;have bc:=av.put a Ω;have aY:=a.size;refine cc Ω ?_;rw[aL ci.p 0 (j.W bc) rfl];refine(uM ((dQ h1).W z) Ω).Y ?_;rintro ab bX _ ⟨N,bY,b0,C⟩;have z12:=N.size;rw[di (cs:=#[ab,Γ ae]) (by obtain⟨_,_,_,rfl⟩:=dr C.ls;kernel_rfl)];have bd:=((H.F s).F J).put a Ω;refine b4 (vs:=[ab,Γ ae]) cJ.i rfl rfl (by intro v A;simp at A;rcases A with rfl|rfl<;>first|exact C.ls.cells.2|rfl) ((G.W bd).W N) λb1 ad b2 be=>?_;rw[fP cJ.p cJ.i rfl be.range];have bf:=(y.W N).V ad (λhe=>by have he:=he;omega) (λhe=>by have he:=he;omega) (λr e he=>by have he:r=ap:=he;have:=au r e;omega);have bg:=bs C ad λr e he=>by have he:r=ap:=he;have:=(bV C e).1;omega
  refine⟨(z.F N).put ad Ω,_,(x.scope,⟨x.co,K,min x.other K,D⟩),rfl,rfl,?_,rfl,rfl,rfl,rfl,ax,λt=>?_⟩
  .exact⟨[ab],[Γ ae],bW,bW,rfl,λ_ h=>h,λ_ h=>h,λ_ _ h _=>h,r0 bg λr e=>by have:=(bV C e).1;show w.heap.size<=r;omega,
    ⟨ae,m,sv,gs,rfl,bf,by show w.heap.size<=ae;omega,by show w.heap.size<=m;omega,λr e=>by have:=au r e;show w.heap.size<=r;omega⟩⟩
  .rw[Y,DH]
theorem Oe{S R:ah}{f:iv}(h:av.rep rs S R w cs f):av.rep (α:=iv) ro bW R w cs f:=by
 obtain⟨c,d,A,B,rfl,h1,j,_,a,e⟩:=h;exact⟨c,d,bW,bW,rfl,λ_ h=>h,λ_ h=>h,λ_ _ h _=>h,a,e⟩
def uO(k:Int)(a:List cA)(e:List iv):Prop:=e.length=a.length/\∀(i:Nat)x f,a[i]?=σ x->e[i]?=σ f->r4 k x f
theorem Of{e:Nat}{m:Bool}{S R:ah}{W d9 am:x1}{K:Int}{q:List cA}{aD:x4->Prop}(aE:ag w e cF [W,Δ K,d9,.slice ν 0 0])(aX:av.rep m S R w [am] (show List jI from q.map iV))(aY:∀r,S r\/R r->r≠e)(aZ:∀x∈q,uN K x)(bO:q.length<=256)(a1:∀I z,∀s:List iv,af (λr=>r=e) w I->ag I e cF [W,Δ K,d9,z]->Seen (λr=>w.heap.size<=r) I [z] s->uO K q s->aD I):
  bZ (Δ 0) w λao E a2=>
   ab x8 (aN .lss aj rs rs ao (Δ (q.length:Int))) E λa6=>
   Split a6 (ab x8 (Z0 kv am ao) E λa7=>
   ab x8 (u5 ci a7) E λa8=>
   aH x8 (P7 ci ro (.tuple #[])) E λx ba=>
   aH x8 (n9 ci x a8) ba λ(_:Unit)bb=>
   eH bb λC=>
   ab x8 (bR (Γ e)) C λG=>
   ab x8 (u7 cF G 3) C λH=>
   ab x8 (u5 dP H) C λap=>
   ab x8 (u5 ci x) C λbc=>
   al x8 wG [(Γ e),bc] C λbd J=>
    (Ext C J\/cE x8 (u5 dP H) ap J/\cE x8 (u7 cF G 3) H J/\cE x8 (bR (Γ e)) G J/\True)/\
   aH x8 (X2 dP 1 #[(0,bd)]) J λbe L=>
    (Ext C L\/cE x8 (u5 dP H) ap L/\cE x8 (u7 cF G 3) H L/\cE x8 (bR (Γ e)) G L/\True)/\
    aH x8 (Y0 #[dP,dP] dP #[ap,be]) L λbf aq=>
     ab x8 (bR (Γ e)) aq λbg=>
     ab x8 (u7 cF bg 3) aq λbh=>
     aH x8 (n9 dP bh bf) aq λ(_:Unit)aI=>
     ab x8 (aN .add aj rs ro ao (Δ 1)) aI λbi=>
   a2 bi aI) (aD E):=by
 have bQ:=aE.lt;have bT:(q.map iV).length=q.length:=Ξ
 refine bZ.range q.length (λi U=>af (λr=>r=e) w U/\∃z,∃s:List iv,∃A R':ah,ag U e cF [W,Δ K,d9,z]/\bJ A R' U [z] s/\(∀r,A r->w.heap.size<=r/\r<U.heap.size)/\(∀r,R' r->w.heap.size<=r/\¬A r/\r<U.heap.size)/\uO K (q.take i) s) Ω
  ⟨af.refl _ _,_,[],bW,bW,aE,iM,λ_ h=>h.elim,λ_ h=>h.elim,rfl,λi x f h=>by simp at h⟩ ?_ ?_
 rotate_left
 .rintro U bj ⟨M,z,s,A,R',N,au,B,O,X⟩;rw[o6]at X;rw[aR,ak];refine⟨λh=>Ω,λ_=>a1 U z s M N (rr au λr _ h=>?_) X⟩;exact h.elim (λh=>(B r h).1) λh=>(O r h).1
 rintro i U bj hi ⟨M,z,s,A,R',N,au,B,O,aJ,X⟩ bk;obtain⟨x,aw⟩:=aF (l:=q) hi;have bl:=aZ x (x6 aw);have bU:=M.size;rw[o8]at aJ;have bm:av.rep m S R U [am] (show List jI from q.map iV):=av.V aX M λr _ h he=>aY r h he;refine bI Ω ?_;refine n2 (α:=jI) (a:=iV x) ci.p rfl kv.u ci.i bm (by show(q.map iV)[i]?=_;rw[v8,aw];rfl) λcs ax=>?_;have aK:cs.length=4:=av.len ax;have bn:Seen (λr=>S r\/R r) U cs (iV x):=rr ax λr _ h=>h;refine bB ci.i λan aa bV aL bo=>?_;have bX:=aL.size;refine b4 (vs:=cs) ci.i aK rfl (av.one ax) bo λbp br bY bs=>?_;have bt:Ext U bp:=aL.put br Ω;intro Y aM _ _;have P:=bt.F aM;have z4:=P.size;rw[aG cF.p 3 (N.W P) rfl,bA ci.p ci.i aK (bs.W aM).range];refine(Od (N.W P) (bS bn P) bl).Y ?_;rintro _ Z _ ⟨ac,cd,f,rfl,b0,aP,bu⟩;have z5:=ac.size;refine⟨.inl ac,?_⟩;have aQ:=Oe aP;have bw:=P.F ac;refine lM (α:=iv) (a:=f) (cs:=cd) (A:=bW) (R:=fC Y.heap.size) dP.u cJ.i Φ (by
  obtain⟨c,d,b1,b2,he,_,_,_,ad,bx⟩:=aP;have ad:av.rep (α:=Λ) rs bW _ Z c f.1:=ad;obtain⟨u,rfl⟩:=V6.1 (show c.length=1 from av.len ad);obtain⟨b3,bP,b5,b6,rfl,_⟩:=bx;obtain⟨_,_,_,rfl⟩:=nx ad;cases he;rfl) aQ λu ay ae _ hu=>?_
 have b7:=ae.size;refine⟨.inl (ac.F ae),?_⟩;have az:=bw.F ae;have bz:bJ A (λr=>R' r\/(Y.heap.size<=r/\r<Z.heap.size)) ay [z] s:=bS (av.Y au (λ_ _ h=>h) λ_ _ h=>.inl h) az;have bC:bJ bW (λr=>R' r\/(Y.heap.size<=r/\r<Z.heap.size)) ay cd f:=bS (av.Y aQ (λ_ _ h=>h) λr y h=>.inr ⟨h,y⟩) ae;refine pg (α:=iv) (a:=f) (A:=bW) dP.u cJ.i rfl bz hu bC (λr _ aS h=>?_) Ω Ω λaU bD aA aB=>?_
 .rcases h with h|h|h
  .exact h
  .exact (O r h).2.1 aS
  .have:=(B r aS).2;omega
 have b8:=aB.size;rw[bL,aT cF.p rfl];have bE:=(N.W az).V aB (λhe=>by have:=(B _ he).1;omega);refine bq (g:=e) (o:=3) dP.i (rt aA) (gY aA) bE Ξ λbF aV b9 aC=>?_;have aC:ag bF e cF [W,Δ K,d9,aU]:=aC;rw[aO];have bG:=n0 aA;refine bk _ ⟨(iO (M.F (az.V _)) aB λr y he=>by have:=(B _ he).1;omega).F aV,aU,s++[f],λr=>((A r\/bW r\/ay.heap.size<=r)/\r<bD.heap.size),λr=>R' r\/(Y.heap.size<=r/\r<Z.heap.size),aC,av.V bG aV λr _ h he=>?_,λr y=>?_,λr y=>?_,?_,λj bH bK ai Q=>?_⟩
 .have he:r=e:=he;rcases h with h|h|h
  .rcases h.1 with h1|h1|h1
   .have:=(B _ h1).1;omega
   .exact h1
   .omega
  .have:=(O r h).1;omega
  .omega
 .have ca:=y.2;rcases y.1 with h1|h1|h1
  .have:=(B _ h1).1;omega
  .exact h1.elim
  .omega
 .rcases y with y|y
  .have aW:=O r y;refine⟨aW.1,λh=>?_,Ω⟩;rcases h.1 with h1|h1|h1
   .exact aW.2.1 h1
   .exact h1
   .omega
  .refine⟨Ω,λh=>?_,Ω⟩;rcases h.1 with h1|h1|h1
   .have:=(B _ h1).2;omega
   .exact h1
   .omega
 .rw[r9,o8,aJ];simp;omega
 .have bM:=(x5.1 Q).1;rw[r9,U2]at bM;rw[Y7 Ω]at ai;by_cases bN:j<s.length
  .rw[Y2 bN]at Q;exact X j bH bK (by rw[Y7 Ω];exact ai) Q
  .rw[Z7 Ω,show j-s.length=0 by omega]at Q;rw[show j=i by omega,aw]at ai;cases Q;cases ai;exact bu
def mD(w:x4)(h:Nat)(f:b5):Prop:=∃d9 a gz,∃e:List iv,ag w h cF [b6 f.name,Δ f.k,d9,a]/\aA .i64 aj w gz d9 f.co/\Seen eT w [a] e/\uO f.k f.d7 e
theorem mD.W{e:Nat}{f:b5}(h:mD w e f)(a:Ext w I):mD I e f:=by
 obtain⟨d9,j,gz,p,h1,q,r,s⟩:=h;exact⟨d9,j,gz,p,h1.W a,q.W a,bS r a,s⟩
def DS(w:x4)(h:Option b5)(v:x1)(I:x4):Prop:=Ext w I/\match h with
 |none=>∃n e:Int,v= .tuple #[.pointer ν,Δ n,Δ e]/\e≠0
 |some f=>∃a,∃n:Int,v= .tuple #[Γ a,Δ n,Δ 0]/\mD I a f
structure Og(clean:Bool)(so:Option aJ)(name:Λ)(k:Int)(co:Λ)(acc:List jI)(res:Option b5):Prop where
 qA:∀s,so=σ s->s.d8=[]->clean=ro->s.big=rs->∃fs,acc=fs.map iV/\res=σ ⟨name,k,co,fs⟩/\(∀x∈fs,uN k x)/\fs.length<=256/\co.length<=1000000
 bad:res≠ν->∃s,so=σ s/\s.d8=[]/\clean=ro/\s.big=rs
theorem Oh{g:Nat}{A B S R:ah}{m N:Bool}{so:Option aJ}{name:Λ}{acc:List jI}{L:Option b5}{d9 aF p:x1}{pl:Λ}{Q:x1->x4->Prop}(aI:iU w g gs A B N so)(P:Og N so name k co acc L)(bp:aM .i64 w d9 co)(bq:∀r,lc d9 r->r≠g/\r≠gs)(br:av.rep m S R w [aF] acc)(a8:∀r,S r\/R r->r≠g/\r≠gs/\r<w.heap.size)(cY:so=ν->True)(cZ:g<w.heap.size)(c0:gs<w.heap.size)(bs:af (λr=>w0.heap.size<=r) w0 w)(c1:w0.heap.size<=g)(c2:w0.heap.size<=gs)(ac:aM .u8 w0 p pl)(ae:∀v I,DS w0 L v I->Q v I):
  cv (α:=x4->Prop) (λ(j:x4)=>
  ab x8 (bR (Γ g)) j λbt=>
  ab x8 (u7 cB bt 1) j λbu=>
  ab x8 (u7 fb bu 0) j λbw=>
  ab x8 (u5 kZ bw) j λbx=>
  ab x8 (aN .neq kZ rs ro bx (Δ 0)) j λbz=>
  Split bz (eH j λG=>
   ab x8 (bR (Γ g)) G λbA=>
   ab x8 (u7 cB bA 1) G λbB=>
   ab x8 (u7 fb bB 2) G λbC=>
   ab x8 (u5 aj bC) G λbD=>
   ab x8 (bR (Γ g)) G λbE=>
   ab x8 (u7 cB bE 1) G λbG=>
   ab x8 (u7 fb bG 0) G λbI=>
   ab x8 (u5 kZ bI) G λbJ=>
   Q (.tuple #[(.pointer ν),bD,bJ]) G)
   (ab x8 (bR (Γ g)) j λbK=>
   ab x8 (u7 cB bK 1) j λbM=>
   ab x8 (u7 fb bM 1) j λbN=>
   ab x8 (u5 kZ bN) j λbO=>
   ab x8 (aN .neq kZ rs ro bO (Δ 0)) j λbP=>
   Split bP (eH j λH=>
   ab x8 (bR (Γ g)) H λbQ=>
   ab x8 (u7 cB bQ 1) H λbT=>
   ab x8 (u7 fb bT 3) H λbU=>
   ab x8 (u5 aj bU) H λbV=>
   ab x8 (bR (Γ g)) H λbW=>
   ab x8 (u7 cB bW 1) H λbX=>
   ab x8 (u7 fb bX 1) H λbY=>
   ab x8 (u5 kZ bY) H λb0=>
   Q (.tuple #[(.pointer ν),bV,b0]) H)
   (al x8 AO [d9] j λb1 ba=>
  ab x8 (Instr.build cF #[(0,b6 name),(1,Δ k),(2,b1)]) ba λb2=>
  aH x8 (Instr.box cF b2) ba λW bb=>
  ab x8 (V7 #[kv] aj #[aF]) bb λb3=>
  bZ (Δ 0) bb λaK X b4=>
   ab x8 (aN .lss aj rs rs aK b3) X λb7=>
   Split b7 (ab x8 (Z0 kv aF aK) X λb8=>
   ab x8 (u5 ci b8) X λb9=>
   aH x8 (P7 ci ro (.tuple #[])) X λx ca=>
   aH x8 (n9 ci x b9) ca λ(_:Unit)cb=>
   eH cb λO=>
   ab x8 (bR W) O λai=>
   ab x8 (u7 cF ai 3) O λam=>
   ab x8 (u5 dP am) O λaL=>
   ab x8 (u5 ci x) O λcc=>
   al x8 wG [W,cc] O λcd an=>
    (Ext O an\/cE x8 (u5 dP am) aL an/\cE x8 (u7 cF ai 3) am an/\cE x8 (bR W) ai an/\True)/\
   aH x8 (X2 dP 1 #[(0,cd)]) an λce ao=>
    (Ext O ao\/cE x8 (u5 dP am) aL ao/\cE x8 (u7 cF ai 3) am ao/\cE x8 (bR W) ai ao/\True)/\
    aH x8 (Y0 #[dP,dP] dP #[aL,ce]) ao λcf aO=>
     ab x8 (bR W) aO λcg=>
     ab x8 (u7 cF cg 3) aO λch=>
     aH x8 (n9 dP ch cf) aO λ(_:Unit)bc=>
     ab x8 (aN .add aj rs ro aK (Δ 1)) bc λcj=>
   b4 cj bc)
    (ab x8 (V7 #[cQ] aj #[p]) X λck=>
  Q (.tuple #[W,ck,(Δ 0)]) X)))) λax=>
 al x8 mj [(Γ g)] w λcl ap=>
 Split cl (ab x8 (bR (Γ g)) ap λcm=>
  ab x8 (u7 cB cm 0) ap λcn=>
  ab x8 (u5 tE cn) ap λcp=>
  al x8 wF [cp] ap λaP M=>
  ab x8 (Y8 aP 0) M λc3=>
  ab x8 (Y8 aP 1) M λbd=>
  ab x8 (Y8 aP 2) M λaQ=>
  ab x8 (aN .eql kZ rs ro aQ (Δ 0)) M λcq=>
  Split cq (al x8 oU [(Γ g),(Δ 4),bd] M λc4 cr=>
  ax cr)
  (ab x8 (aN .eql kZ rs ro aQ (Δ 11)) M λct=>
  Split ct (al x8 oU [(Γ g),aQ,bd] M λc5 cu=>
   ax cu)
   (ax M)))
  (ax ap):=by
 refine cW (λj=>af (λr=>r=g\/r=gs) w j/\∃(e big J K m1:Int)(sv:x1),ag j g cB (jm gs e big J K m1 sv)/\((e≠0/\L=ν)\/(e=0/\∃s,so=σ s/\s.d8=[]/\N=ro/\(s.big=ro↔big≠0)))) ?_ ?_
 rotate_left
 .intro ay aR;refine(Ds aI).Y ?_;rintro _ U _ ⟨rfl,aq⟩;cases so with
  |none=>
   rw[show(ν:Option aJ).isSome=rs from rfl,aX];obtain⟨e,big,J,K,m1,sv,y,aS⟩:=aI.W aq;refine aR _ ⟨aq.V _,e,big,J,K,m1,sv,y,.inl ⟨aS,?_⟩⟩;cases C:L with
   |none=>rfl
   |some f=>obtain⟨s,h,_⟩:=P.bad (by rw[C];simp);cases h
  |some s=>
   rw[show(σ s:Option aJ).isSome=ro from rfl,bH];have cw:=aI.W aq;obtain⟨az,cz,cA,big,J,K,m1,sv,y,aS,cC⟩:=id cw;rw[aG cB.p 0 y rfl];refine(rJ cz).Y ?_;rintro v aa _ ⟨Y,Z⟩;have cD:(s.d8≠[]\/N=rs)->L=ν:=λq=>by
    cases C:L with
    |none=>rfl
    |some f=>
     obtain⟨s',h,au,be,_⟩:=P.bad (by rw[C];simp);cases h;rcases q with q|q
     .exact m6 au q
     .rw[q]at be;cases be
   have aA:∀E,af (λr=>r=g) aa E->fg E g gs A B->(s.d8≠[]\/N=rs)->ay E:=λE aw aA q=>by
    obtain⟨_,e,big,J,K,m1,sv,l,cG,cH,_⟩:=aA;exact aR _ ⟨((aq.V _).F (Y.Y λr _ h=>.inr h)).F (aw.Y λr _ h=>.inl h),e,big,J,K,m1,sv,cG,.inl ⟨cH.1,cD q⟩⟩
   have aU:=y.V Y az.1;have bf:=av.V cC Y λr _ h au=>by
    have au:r=gs:=au;subst au;rcases h with h|h
    .exact az.2.2.1 h
    .exact h.1 (.inr (.inl rfl))
   have bg:s.m2.length<=100000:=by have:=cA.2.2;omega
   cases ad:s.d8 with
   |cons t l=>
    rw[ad]at Z;obtain⟨c6,n,rfl⟩:=Z;rw[fQ,fR,fS,bk,ak];refine⟨λ_=>?_,λh=>m6 rfl h⟩;refine(uh (az.V Y) aU bf Ω bg).Y ?_;rintro _ E _ ⟨aw,aV⟩;exact aA E aw aV (.inl (by rw[ad];simp))
   |nil=>
    rw[ad]at Z;obtain⟨n,rfl⟩:=Z;rw[fQ,fR,fS,bk,ak];refine⟨λh=>by cases N<;>simp at h,λ_=>?_⟩;rw[bk,ak];cases aB:N with
    |true=>
     subst aB;refine⟨λh=>by simp at h,λ_=>aR _ ⟨(aq.V _).F (Y.Y λr _ h=>.inr h),0,big,J,K,m1,sv,aU,.inr ⟨rfl,s,rfl,ad,rfl,aS.1⟩⟩⟩
    |false=>
     subst aB;refine⟨λ_=>?_,λh=>m6 rfl h⟩;refine(uh (az.V Y) aU bf Ξ bg).Y ?_;rintro _ E _ ⟨aw,aV⟩;exact aA E aw aV (.inr rfl)
 .rintro U ⟨aC,e,big,J,K,m1,sv,y,cI⟩;have c7:=aC.size;have aW:=(bs.W λr C h=>Ω).then aC (λr C h=>by rcases h with h|h<;>omega);rw[bL,aT cB.p rfl,aT fb.p rfl,aD Ψ (y.cell rfl),bF,ak];rcases cI with⟨he,aZ⟩|⟨rfl,s,rfl,ad,aB,bh⟩
  .refine⟨λ_=>?_,λh=>m6 he h⟩;intro aa z _ _;rw[bL,aT cB.p rfl,aT fb.p rfl,aD Ψ ((y.W z).cell rfl),bL,aT cB.p rfl,aT fb.p rfl,aD Ψ ((y.W z).cell rfl)];rw[aZ]at ae;exact ae _ _ ⟨aW.F z,J,e,rfl,he⟩
  .refine⟨λh=>m6 rfl h,λ_=>?_⟩;rw[bL,aT cB.p rfl,aT fb.p rfl,aD Ψ (y.cell rfl),bF,ak];refine⟨λq=>?_,λq=>?_⟩
   .have aZ:L=ν:=by
     cases C:L with
     |none=>rfl
     |some f=>
      obtain⟨s',h,_,_,bi⟩:=P.bad (by rw[C];simp);cases h;rw[bh.2 q]at bi;cases bi
    intro aa z _ _;rw[bL,aT cB.p rfl,aT fb.p rfl,aD Ψ ((y.W z).cell rfl),bL,aT cB.p rfl,aT fb.p rfl,aD Ψ ((y.W z).cell rfl)];rw[aZ]at ae;exact ae _ _ ⟨aW.F z,K,big,rfl,q⟩
   .have cJ:s.big=rs:=by
     cases cK:s.big with
     |false=>rfl
     |true=>exact m6 (bh.1 cK) q
    obtain⟨bj,rfl,rfl,cL,cM,cN⟩:=P.qA s rfl ad aB cJ;have cO:=jk bp aC λr C a n c Z P=>by
     have:=bq r ⟨a,n,c,Z,P⟩;exact C.elim this.1 this.2
    refine(uM cO cN).Y ?_;rintro a1 aa _ ⟨z,gz,c8,a2⟩;have c9:=z.size;rw[di (cs:=#[b6 name,Δ k,a1,.slice ν 0 0]) (by obtain⟨_,_,_,rfl⟩:=dr a2.ls;kernel_rfl)];refine bo λa6 E da a7 aE=>?_;have aE:ag E a6 cF [b6 name,Δ k,a1,.slice ν 0 0]:=by obtain⟨_,_,_,rfl⟩:=dr a2.ls;exact aE
    have bl:=bS (bS (av.V br aC λr _ h he=>by have:=a8 r h;exact he.elim this.1 this.2.1) z) a7;have cP:(bj.map iV).length=bj.length:=Ξ
    rw[ka kv.u bl,cP];refine Of aE bl (λr h=>by have:=a8 r h;omega) cL cM λdb cR cS cT cU cV cX=>?_;have dc:=aE.lt;have z3:=a7.size;have bm:=a7.then cT (λr C h=>by have h:r=a6:=h;omega);have bn:=(aW.F z).F bm;rw[aY cQ.u (ac.W bn)];exact ae _ _ ⟨bn,a6,_,rfl,a1,cR,gz,cS,cU,a2.W bm,ky cV,cX⟩
theorem DT{α:Type}{f:List α->aJ->Option (α×aJ)}{acc:List α}{s:aJ}:fD f (n+1) acc (σ s)=match f acc s with
  |none=>ν
  |some (a,s')=>fD f n (acc++[a]) (σ s'):=by
 show cT f (n+1) acc s=_;simp only[cT];cases f acc s<;>rfl
theorem Oi{g:Nat}{A B:ah}{s:Option aJ}{E:Bool}{most:Int}{P:x1->x4->Prop}(h:ds w g gs A B E s)(aw:(N:Int)<=az)(Q:∀d9 I l so gz,af (bK g gs A) w I->ds I g gs A B E so->aA .i64 au I gz d9 l->w.heap.size<=gz->l.length<=100001->(∀q,fD (gL most) N [] s=σ q->so=σ q.2/\l=q.1)->(fD (gL most) N [] s=ν->so=ν)->P d9 I):
 cb (.slice ν 0 0) (Δ 0) w λco i G k=>
  cv (α:=x1->x4->Prop) (λ(aB:x1)(R:x4)=>
   Split aB (al x8 oT [Γ g,(Δ 1),Δ most] R λS x=>
  ab x8 (Y8 S 0) x λW=>
  ab x8 (Y8 S 1) x λaC=>
  ab x8 (aN .gtr au rs ro W (Δ 32)) x λaD=>
  al x8 rl [Γ g,aD,aC] x λbo aE=>
  aH x8 (X2 ax 1 #[(0,W)]) aE λaF aG=>
  aH x8 (Y0 #[ax,ax] ax #[co,aF]) aG λaI X=>
  ab x8 (aN .add au rs ro i (Δ 1)) X λaK=>
  k aI aK X) (P co R)) λay=>
  ab x8 (aN .lss au rs rs i (Δ (N:Int))) G λaL=>
  Split aL (al x8 mj [Γ g] G λaM aP=>
  ay aM aP)
   (ay (.bool rs) G):=by
 obtain⟨bp,Y,bq,aQ,aS⟩:=h.side;have ae:∀r,bK g gs A r->r<w.heap.size:=aQ;unfold az at aw;generalize aT:fD (gL most) N [] s=Z at Q;refine⟨λout H U=>∃(i:Nat)(l:Λ)(so:Option aJ)(gz:Nat),H=Δ (i:Int)/\i<=N/\af (bK g gs A) w U/\aA .i64 au U gz out l/\w.heap.size<=gz/\ds U g gs A B E so/\Z=fD (gL most) (N-i) l so/\l.length<=100001/\∀st,so=σ st->l.length+st.d8.length<=100000,
  λ_ H _=>N-(bU H).toNat,⟨0,[],s,w.heap.size,rfl,X7 _,af.refl _ _,aA.nil _ _ _ _,p8 _,h,aT.symm,Ξ,λst aU=>?_⟩,?_⟩
 .subst aU;have:=h.words;simpa using this
 rintro out _ U ⟨i,l,so,gz,rfl,br,J,ac,aW,ad,y,aY,ag⟩;refine aV (λv ai=>Ext U ai/\((v= .bool ro/\i<N/\∃st,so=σ st)\/(v= .bool rs/\(so=ν\/i=N)))) ?_ ?_
 rotate_left
 .intro ay K;rw[aR,ak];refine⟨λaZ=>?_,λbt=>K _ _ ⟨Ext.refl _,.inr ⟨rfl,.inr Ω⟩⟩⟩;refine(qD ad).Y ?_;rintro _ ai _ ⟨rfl,aj⟩;cases so with
  |none=>exact K _ _ ⟨aj,.inr ⟨rfl,.inl rfl⟩⟩
  |some st=>exact K _ _ ⟨aj,.inl ⟨rfl,Ω,st,rfl⟩⟩
 rintro _ aa ⟨p,a1⟩;have am:=ac.W p;have an:=ad.W p;rcases a1 with⟨rfl,aZ,st,rfl⟩|⟨rfl,a2⟩
 rotate_left
 .rw[aX];have ao:Z=so.map λst=>(l,st):=by
   rcases a2 with rfl|rfl
   .exact y
   .rw[W8]at y;rw[y];cases so<;>rfl
  refine Q out aa l so gz (J.F (p.V _)) an am aW aY (λq f=>?_) λap=>?_
  .rw[ao]at f;cases so with
   |none=>cases f
   |some st=>cases f;exact⟨rfl,rfl⟩
  .rw[ao]at ap;cases so with
   |none=>rfl
   |some st=>cases ap
 rw[bH];have ag:=ag st rfl;refine(nw an).Y ?_;rintro _ bx _ ⟨L,z,at_,rfl,a6,bz⟩;obtain⟨M,a7⟩:=L.of;rw[bu,bw,bO];refine(rY a7).Y ?_;rintro _ bA _ L;obtain⟨O,a8⟩:=L.of;refine eB ax.u au.i rfl λa ga ba bB C bb=>?_;have bC:=J.size;have bD:=p.size;have z3:=M.size;have z4:=O.size;have z5:=C.size;have aq:∀r,lc out r->¬bK g gs A r:=λr j bc=>by have:=ae r bc;have:=(bV ac j).1;omega
 have bd:=bs (bs am M aq) O aq;refine kx ax.u au.i rfl (bd.W C) bb.ls Θ Θ λbE be bg bF bh av=>?_;rw[aO,li Ω Ω];have bi:af (bK g gs A) w ba:=((((J.F (p.V _)).F M).F O).F (C.V _));have bj:af (bK g gs A) w bg:=iO bi av λr j he=>by have he:r=gz:=he;omega
 have bk:∀r,bK g gs A r->¬(λr=>r=gz) r:=λr j he=>by have:=ae r j;have he:r=gz:=he;omega
 have bm:∀r,cS g gs A B r->¬(λr=>r=gz) r:=λr j he=>by have:=aS r j.2;have he:r=gz:=he;omega
 refine⟨⟨i+1,l++[z],_,be,rfl,Ω,bj,bh,Ω,(a8.W C).V av bk bm,?_,Θ,λbG bn=>?_⟩,by simp only[bU];omega⟩
 .rw[y,show N-i=(N-(i+1))+1 by omega,DT];unfold gL;cases f:bl 1 most st with
  |none=>have e:bf 1 most (σ st)=ν:=f;rw[e];rfl
  |some q=>
   have e:bf 1 most (σ st)=σ q:=f;have:=a6 q e;subst this;rw[e];rfl
 .obtain⟨bI,Y,rfl⟩:=X0.1 bn;obtain⟨q,f,rfl⟩:=X0.1 Y;have h1:=(dH f).1;simp only[r9,U2];show l.length+1+q.2.d8.length<=100000;omega
theorem Oj{acc:List (Λ×Int)}{s s':aJ}{a:Λ×Int}(h:eN co acc s=σ (a,s')):s'.m1=s.m1/\s'.big=s.big:=by
 obtain⟨_,_,_,e⟩:=qv h;exact⟨e.eqs.1,e.eqs.2.1⟩
theorem Ol{s s':aJ}{l:List (Λ×Int)}(hi:ea s)(h:dZ co s=σ (l,s')):ea s'/\(s.big=ro->s'.big=ro):=by
 have e:=Dp co (σ s);rw[show ke co (σ s)=dZ co s from rfl,h]at e;cases p:bf (-az) az (σ s)with
 |none=>rw[p]at e;cases e
 |some q=>
  obtain⟨n,s1⟩:=q;rw[p]at e;simp only at e;have h1:=(dH p).eqs;have w:ea s1:=λf=>by rw[h1.1];rw[h1.2.1]at f;exact hi f
  split at e
  .cases J:s1.m2[(-n-1).toNat]? with
   |none=>rw[J]at e;cases e
   |some q=>
    obtain⟨z,e0⟩:=q;rw[J]at e;simp only at e;split at e
    .cases e;exact⟨w,λf=>by rw[h1.2.1];exact f⟩
    .cases e
  .have:=lR (λacc t=>t.m1=(ld n s1).m1/\t.big=(ld n s1).big) (λacc t a bn ⟨r,j⟩ g=>by
    have:=Oj g;exact⟨by rw[this.1,r],by rw[this.2,j]⟩) n.toNat [] _ l s' ⟨rfl,rfl⟩ e.symm
   obtain⟨⟨r,j⟩,_⟩:=this;refine⟨λf=>by rw[r];rw[j]at f;exact NF n s1 f,λf=>?_⟩;rw[j];show(s1.big||_)=ro;rw[h1.2.1,f];rfl
theorem Om{all:Λ}{s s':aJ}{x:cA}(hi:ea s)(h:dq all s=σ (x,s')):ea s'/\s'.d8.length<s.d8.length:=by
 unfold dq at h;cases p:bl (-az) az s with
 |none=>rw[p]at h;cases h
 |some q=>
 obtain⟨a,s1⟩:=q;rw[p]at h;simp only at h;have t0:=dH p;cases h1:ff all.length a.natAbs s1 with
 |none=>rw[h1]at h;cases h
 |some q=>
 obtain⟨sc,f⟩:=q;rw[h1]at h;simp only at h;obtain⟨r,_⟩:=xn h1;generalize sc.map (λv=>all.getD v.toNat 0)=co at h;cases w:bl 0 az (bj (decide (6<a.natAbs)||dy co) f)with
 |none=>rw[w]at h;cases h
 |some q=>
 obtain⟨other,y⟩:=q;rw[w]at h;simp only at h;have z:=dH w;have E:ea y:=λe=>by
  rw[z.eqs.1];rw[z.eqs.2.1]at e;have e:(f.big||_)=rs:=e;have B:=(U4.1 e).1;show f.m1<=16384;rw[r.eqs.1,t0.eqs.1];rw[r.eqs.2.1,t0.eqs.2.1]at B;exact hi B
 cases j:dZ co y with
 |none=>rw[j]at h;cases h
 |some q=>
 obtain⟨lines,A⟩:=q;rw[j]at h;simp only[X4,S7]at h;obtain⟨_,rfl⟩:=h;have F:=Ol E j;have I:=Dw j;have J:=t0.1;have K:=r.1;have L:f.d8.length=y.d8.length+1:=z.1;have C:∀t:aJ,t.m1=A.m1/\t.big=A.big/\t.d8=A.d8->ea t/\t.d8.length<s.d8.length:=λt ⟨G,H,a3⟩=>⟨λe=>by rw[G];rw[H]at e;exact F.1 e,by rw[a3];omega⟩;split
 .exact C _ ⟨rfl,rfl,rfl⟩
 .exact C _ ⟨rfl,rfl,rfl⟩
theorem On{S R:ah}{x:jI}(h:av.rep rs S R w cs x):av.rep (α:=jI) ro bW R w cs x/\(x1.agg cs.toArray).cells=cs.toArray:=by
 obtain⟨j,d1,r,s,rfl,_,_,_,h1,p,d2,z,A,rfl,_,_,_,a,q,d3,B,C,rfl,_,_,_,f,e⟩:=h;have h1:=h1;have a:=a;have f:=f;have e:=e;refine⟨⟨j,_,bW,bW,rfl,λ_ h=>h,λ_ h=>h,λ_ _ h _=>h,h1,p,_,bW,bW,rfl,λ_ h=>h,λ_ h=>h,λ_ _ h _=>h,a,q,d3,bW,bW,rfl,λ_ h=>h,λ_ h=>h,λ_ _ h _=>h,f,e⟩,?_⟩;obtain⟨u,rfl⟩:=V6.1 (show j.length=1 from av.len h1);obtain⟨v,rfl⟩:=V6.1 (show p.length=1 from av.len a);obtain⟨y,rfl⟩:=V6.1 (show d3.length=1 from av.len e);obtain⟨_,_,_,rfl⟩:=nx h1;obtain⟨_,_,_,rfl⟩:=nx a;obtain⟨_,_,_,rfl⟩:=nx e;subst f;rfl
theorem Oo{g c:Nat}{A B:ah}{o:Option aJ}{Q:Bool}{P:x1}{all:Λ}{aD:x1->x4->Prop}(aE:iU w g gs A B Q o)(hi:∀s,o=σ s->ea s)(br:(c:Int)<=az)(bs:aM .i64 w P all)(aF:∀r,lc P r->r≠g/\r≠gs/\r<w.heap.size/\(o≠ν->¬A r))(bt:o≠ν->∀z∈all,1<=z/\z<=az)(bu:all.length<=100001)(bw:fs w)(h1:1<w0.heap.size/\(o≠ν->cS g gs A B 1))(aG:af (λr=>w0.heap.size<=r) w0 w)(bx:w0.heap.size<=g)(bz:w0.heap.size<=gs)(ck:g<w.heap.size/\gs<w.heap.size)(bA:o≠ν->∀r,A r->w0.heap.size<=r)(aI:∀L I acc so aK y aL aP,af (λr=>w0.heap.size<=r) w0 I->w.heap.size<=I.heap.size->iU I g gs aK y Q so->av.rep (α:=List jI) ro aL aP I [L] acc->(∀r,aL r\/aP r->r≠g/\r≠gs/\r<I.heap.size)->aM .i64 I P all->
   (∀q,fD (λ_ s=>dq all s) c [] o=σ q->so=σ q.2/\acc=q.1.map iV)->(fD (λ_ s=>dq all s) c [] o=ν->so=ν)->aD L I):
 cb (.slice ν 0 0) (Δ 0) w λd7 aQ ai bB=>
  cv (α:=x1->x4->Prop) (λ(bC:x1)(aS:x4)=>
   Split bC (al x8 AN [Γ g,P] aS λbD bE=>
  aH x8 (X2 kv 1 #[(0,bD)]) bE λbF bG=>
  aH x8 (Y0 #[kv,kv] kv #[d7,bF]) bG λbI aT=>
  ab x8 (aN .add au rs ro aQ (Δ 1)) aT λbL=>
  bB bI bL aT) (aD d7 aS)) λaU=>
  ab x8 (aN .lss au rs rs aQ (Δ (c:Int))) ai λbM=>
  Split bM (al x8 mj [Γ g] ai λbN bO=>
  aU bN bO)
   (aU (.bool rs) ai):=by
 unfold az at br;generalize f:fD (λ_ s=>dq all s) c [] o=aY at aI;have aZ:∀s,o=σ s->o≠ν:=λs h=>by rw[h];simp
 refine⟨λL aj U=>∃(i:Nat)(acc:List jI)(C:List cA)(so:Option aJ)(p K E M:ah),aj=Δ (i:Int)/\i<=c/\af (λr=>w0.heap.size<=r) w0 U/\w.heap.size<=U.heap.size/\iU U g gs p K Q so/\av.rep ro E M U [L] acc/\
   aM .i64 U P all/\fs U/\aY=fD (λ_ s=>dq all s) (c-i) C so/\(∀r,E r->w.heap.size<=r/\r<U.heap.size)/\(∀r,M r->r≠g/\r≠gs/\¬E r)/\
   ∀s,so=σ s->acc=C.map iV/\ea s/\C.length+s.d8.length<=100000/\o≠ν/\(∀r,p r->A r\/w.heap.size<=r)/\(∀r,p r->w0.heap.size<=r)/\(∀r,B r->K r)/\(∀r,E r->¬K r/\¬p r)/\(∀r,M r->cS g gs p K r),
  λ_ aj _=>c-(bU aj).toNat,⟨0,[],[],o,A,B,bW,bW,rfl,X7 _,aG,p8 _,aE,iM,bs,bw,f.symm,λ_ h=>h.elim,λ_ h=>h.elim,λs J=>⟨rfl,hi s J,?_,aZ s J,λr e=>.inl e,bA (aZ s J),λr e=>e,λ_ h=>h.elim,λ_ h=>h.elim⟩⟩,?_⟩
 .subst J;have am:eo w g gs A B s Q:=aE;have:=am.2.1.words.1;simpa using this
 rintro L _ U ⟨i,acc,C,so,p,K,E,M,rfl,cl,bP,cm,a1,bQ,an,a2,Z,x,bR,a6⟩;refine aV (λv a7=>Ext U a7/\((v= .bool ro/\i<c/\∃st,so=σ st)\/(v= .bool rs/\(so=ν\/i=c)))) ?_ ?_
 rotate_left
 .intro ay ao;rw[aR,ak];refine⟨λa8=>?_,λcn=>ao _ _ ⟨Ext.refl _,.inr ⟨rfl,.inr Ω⟩⟩⟩;refine(Ds a1).Y ?_;rintro _ a7 _ ⟨rfl,ba⟩;cases so with
  |none=>exact ao _ _ ⟨ba,.inr ⟨rfl,.inl rfl⟩⟩
  |some st=>exact ao _ _ ⟨ba,.inl ⟨rfl,Ω,st,rfl⟩⟩
 rintro _ aa ⟨H,bT⟩;have cp:=H.size;have S:=a1.W H;have bb:=bS bQ H;have bc:af (λr=>w0.heap.size<=r) w0 aa:=bP.F (H.V _);rcases bT with⟨rfl,a8,st,rfl⟩|⟨rfl,bV⟩
 rotate_left
 .rw[aX];have bd:aY=so.map λst=>(C,st):=by
   rcases bV with rfl|rfl
   .exact Z
   .rw[W8]at Z;rw[Z];cases so<;>rfl
  refine aI L aa acc so p K E (λr=>M r/\r<aa.heap.size) bc Ω S (av.Y bb (λ_ _ h=>h) λr e h=>⟨h,e⟩) (λr e=>?_) (an.W H) (λq G=>?_) λbe=>?_
  .rcases e with e|e
   .have:=x r e;exact⟨Ω,Ω,Ω⟩
   .have:=bR r e.1;exact⟨this.1,this.2.1,e.2⟩
  .rw[bd]at G;cases so with
   |none=>cases G
   |some st=>cases G;exact⟨rfl,(a6 _ rfl).1⟩
  .rw[bd]at be;cases so with
   |none=>rfl
   |some st=>cases be
 rw[bH];obtain⟨rfl,bf,cq,ac,bg,ap,bh,ad,bi⟩:=a6 st rfl;have S:=S;obtain⟨cr,ct,cu,cw,cz⟩:=S.1;have bX:=h1.2 ac;have bj:cS g gs p K 1:=⟨λf=>by
  rcases f with f|f|f
  .omega
  .omega
  .have:=ap 1 f;omega,bh 1 bX.2⟩
 have bk:∀r,lc P r->¬bK g gs p r/\r<aa.heap.size:=λr e=>by
  obtain⟨bY,bZ,b0,b1⟩:=aF r e;refine⟨λf=>?_,Ω⟩;rcases f with f|f|f
  .exact bY f
  .exact bZ f
  .rcases bg r f with h|h
   .exact b1 ac h
   .omega
 refine(NQ S bf (an.W H) bk (bt ac) bu (a2.W H) bj).Y ?_;rintro _ cB _ ⟨aK,y,cs,b2,rfl,cC,W,X,aq,bl,bm,b3,b4⟩;have z3:=W.size;obtain⟨bn,b5⟩:=On b3;refine lM (α:=jI) (R:=cS g gs aK y) kv.u ci.i Φ b5 bn λu aw N _ hu=>?_;have z4:=N.size;have b6:∀r,r<aa.heap.size->E r\/M r->¬bK g gs p r:=λr e h f=>by
  rcases h with h|h
  .have j:=x r h;rcases f with f|f|f
   .omega
   .omega
   .exact (ad r h).2 f
  .exact (bi r h).1 f
 have b7:∀r,r<aa.heap.size->cS g gs p K r->cS g gs aK y r:=λr e h=>⟨λf=>h.1 (f.imp id (Or.imp id λf=>(X r f).elim id λaW=>Ω)),bl r h.2⟩;have b8:bJ E (cS g gs aK y) aw [L] (C.map iV):=bS (av.V (av.Y (R':=λr=>cS g gs aK y r/\M r) bb (λ_ _ h=>h) λr e h=>⟨b7 r e (bi r h),h⟩) W λr e h=>b6 r e (h.imp id λh=>h.2) |> λh=>h) N |> λh=>av.Y h (λ_ _ h=>h) λ_ _ h=>h.1;have ae:∀r,E r->¬y r:=λr h ag=>by
  have j:=x r h;rcases(aq r ag).1 with O|O
  .exact (ad r h).1 O
  .have ax:=(x r h).2;omega
 have cD:(C.map iV).length=C.length:=Ξ
 refine pg kv.u ci.i rfl b8 hu (bS bn N) (λr _ b9 h=>?_) Ω Ω λcE aA ca Y=>?_
 .rcases h with h|h
  .exact h
  .exact ae r b9 h.2
 have z5:=Y.size;rw[aO,li Ω Ω];have cc:af (λr=>w0.heap.size<=r) w0 aw:=(bc.F (W.Y λr _ f=>by
  rcases f with rfl|rfl|f
  .exact bx
  .exact bz
  .exact ap r f)).F (N.V _)
 have z0:=aG.size;have cd:af (λr=>w0.heap.size<=r) w0 aA:=cc.F (Y.Y λr _ h=>by have:=(x r h).1;omega);have ce:=(jk (an.W H) W λr e a n c aB aC=>(bk r ⟨a,n,c,aB,aC⟩).1 e).W N;have cf:=jk ce Y λr e a n c aB aC=>by
  have b0:=(aF r ⟨a,n,c,aB,aC⟩).2.2.1;have:=(x r e).1;omega
 have cg:=(((a2.W H).V W bj.1).W N).V Y λh=>by have:=(x 1 h).1;omega
 have bo:iU aA g gs aK y Q ((dq all st).map (·.2)):=by
  refine iU.V (bm.W N) Y (λh=>by have:=x _ h;omega) (λr e cF h=>?_) (λr e h=>ae r h e.2);have j:=x r h;rcases e with rfl|rfl|e
  .omega
  .omega
  .rcases X r e with O|O
   .exact (ad r h).2 O
   .omega
 have ch:=n0 ca;refine⟨⟨i+1,(C.map iV)++[b2],C++((dq all st).map (·.1)).toList,(dq all st).map (·.2),aK,y,λr=>(E r\/bW r\/aw.heap.size<=r)/\r<aA.heap.size,cS g gs aK y,rfl,Ω,cd,Ω,bo,ch,cf,cg,?_,λr e=>⟨?_,e.2⟩,λr e=>⟨λh=>e.1 (.inl h),λh=>e.1 (.inr (.inl h)),λh=>?_⟩,λs' cj=>?_⟩,by simp only[bU];omega⟩
 .rw[Z,show c-i=(c-(i+1))+1 by omega,DT];cases G:dq all st with
  |none=>rfl
  |some q=>rfl
 .rcases e.1 with h|h|h
  .exact (x r h).1
  .exact h.elim
  .omega
 .rcases h.1 with j|j|j
  .exact ae r j e.2
  .exact j
  .have:=(aq r e.2).2;omega
 .obtain⟨q,G,rfl⟩:=X0.1 cj;have j:=Om bf G;have O:=b4 q G;refine⟨?_,j.1,?_,ac,λr e=>?_,λr e=>?_,λr e=>bl r (bh r e),λr e=>⟨λag=>?_,λbp=>?_⟩,λr e=>e⟩
  .rw[G,O];simp
  .rw[G];simp only[Y3,o9,r9,U2];omega
  .rcases X r e with h|h
   .exact bg r h
   .exact .inr Ω
  .rcases X r e with h|h
   .exact ap r h
   .omega
  .rcases e.1 with j|j|j
   .exact ae r j ag
   .exact j
   .have:=(aq r ag).2;omega
  .have cG:=bo;have bq:=bm;rw[G]at bq;have am:=bq;have a8:=am.1.2.2.2.1 r (.inr (.inr bp));rcases e.1 with j|j|j
   .rcases X r bp with ax|ax
    .exact (ad r j).2 ax
    .have:=(x r j).2;omega
   .exact j
   .omega
theorem ea.num{lo hi n:Int}{s s':aJ}(e:ea s)(h:bl lo hi s=σ (n,s')):ea s':=λa=>by
 have h1:=(dH h).eqs;rw[h1.1];rw[h1.2.1]at a;exact e a
theorem ea.big{b:Bool}{s:aJ}(h:ea s):ea (bj b s):=λa=>by
 have a:(s.big||b)=rs:=a;exact h (U4.1 a).1
theorem ea.word{w:Λ}{s s':aJ}(h:ea s)(hw:dY s=σ (w,s')):ea s':=λa=>by
 have h1:=(ue hw).2;rw[h1]at a ⊢;exact h a
theorem Oq{most:Int}{s s':aJ}(hi:ea s)(hm:most<=az)(h:cT (gL most) N [] s=σ (l,s')):ea s'/\(∀z∈l,1<=z/\z<=az)/\l.length+s'.d8.length<=s.d8.length:=by
 have:=lR (λacc t=>ea t/\(∀z∈acc,1<=z/\z<=az)/\acc.length+t.d8.length<=s.d8.length) (λacc t a bn ⟨h1,j,w⟩ g=>by
  unfold gL at g;cases e:bl 1 most t with
  |none=>rw[e]at g;cases g
  |some q=>
   obtain⟨z,p⟩:=q;rw[e]at g;simp only[X4,S7]at g;obtain⟨rfl,rfl⟩:=g;have y:=(jl e).1;have A:=(dH e).1;refine⟨(h1.num e).big,λx f=>?_,?_⟩
   .rcases j4.1 f with f|f
    .exact j x f
    .rw[j6.1 f];omega
   .simp only[r9,U2];show acc.length+1+p.d8.length<=_;omega) N [] s l s' ⟨hi,λz r=>(by cases r),Ξ⟩ h
 exact this.1
theorem Ot{s0:aJ}{name:Λ}{n most cnt:Int}{so6:Option aJ}(h1:∀q,dY s0=σ q->name=q.1)(p:∀q,bf 1 az (((dY s0).map (·.2)).map (bj (decide (64<(name.length:Int)))))=σ q->n=q.1)(j:∀q,bf 1 az (((bf 1 az (((dY s0).map (·.2)).map (bj (decide (64<(name.length:Int)))))).map (·.2)).map (bj (decide (64<n))))=σ q->most=q.1)(h:∀q,bf 0 az ((bf 1 az (((bf 1 az (((dY s0).map (·.2)).map (bj (decide (64<(name.length:Int)))))).map (·.2)).map (bj (decide (64<n))))).map (·.2))=σ q->cnt=q.1)(f:∀q,bf 1 az (((bf 0 az ((bf 1 az (((bf 1 az (((dY s0).map (·.2)).map (bj (decide (64<(name.length:Int)))))).map (·.2)).map (bj (decide (64<n))))).map (·.2))).map (·.2)).map (bj (decide (256<cnt))))=σ q->k=q.1)(e:∀q,fD (gL most) n.toNat [] (((bf 1 az (((bf 0 az ((bf 1 az (((bf 1 az (((dY s0).map (·.2)).map (bj (decide (64<(name.length:Int)))))).map (·.2)).map (bj (decide (64<n))))).map (·.2))).map (·.2)).map (bj (decide (256<cnt))))).map (·.2)).map (bj (decide (2147483648<k))))=σ q->so6=σ q.2/\co=q.1)(a:fD (gL most) n.toNat [] (((bf 1 az (((bf 0 az ((bf 1 az (((bf 1 az (((dY s0).map (·.2)).map (bj (decide (64<(name.length:Int)))))).map (·.2)).map (bj (decide (64<n))))).map (·.2))).map (·.2)).map (bj (decide (256<cnt))))).map (·.2)).map (bj (decide (2147483648<k))))=ν->so6=ν):
  jA s0=(fD (λ_ s=>dq co s) cnt.toNat [] so6).map λq=>((⟨name,k,co,q.1⟩:b5),q.2):=by
 unfold jA;cases z:dY s0 with
 |none=>
  rw[z]at a;rw[a rfl];rfl
 |some L=>
 obtain⟨Y,s1⟩:=L;rw[z]at h1 p j h f e a;have:=h1 _ rfl;subst this;have M:decide (64<(name.length:Int))=decide (64<name.length):=by rw[U9,ne,ne];omega
 rw[M]at p j h f e a;simp only[Y3]at p j h f e a ⊢;generalize bj (decide (64<name.length)) s1=w at*;cases A:bl 1 az w with
 |none=>
  rw[show bf 1 az (σ w)=ν from A]at a;rw[a rfl];rfl
 |some N=>
 obtain⟨O,B⟩:=N;rw[show bf 1 az (σ w)=σ (O,B)from A]at p j h f e a;have:=p _ rfl;subst this;simp only[Y3]at j h f e a ⊢;generalize bj (decide (64<n)) B=x at*;cases C:bl 1 az x with
 |none=>
  rw[show bf 1 az (σ x)=ν from C]at a;rw[a rfl];rfl
 |some P=>
 obtain⟨Q,r⟩:=P;rw[show bf 1 az (σ x)=σ (Q,r)from C]at j h f e a;have:=j _ rfl;subst this;simp only[Y3]at h f e a ⊢;cases E:bl 0 az r with
 |none=>
  rw[show bf 0 az (σ r)=ν from E]at a;rw[a rfl];rfl
 |some R=>
 obtain⟨S,F⟩:=R;rw[show bf 0 az (σ r)=σ (S,F)from E]at h f e a;have:=h _ rfl;subst this;simp only[Y3]at f e a ⊢;generalize bj (decide (256<cnt)) F=y at*;cases G:bl 1 az y with
 |none=>
  rw[show bf 1 az (σ y)=ν from G]at a;rw[a rfl];rfl
 |some T=>
 obtain⟨U,H⟩:=T;rw[show bf 1 az (σ y)=σ (U,H)from G]at f e a;have:=f _ rfl;subst this;simp only[Y3]at e a ⊢;generalize bj (decide (2147483648<k)) H=V at*;cases I:cT (gL most) n.toNat [] V with
 |none=>
  rw[a I];rfl
 |some W=>
 obtain⟨Z,K⟩:=W;obtain⟨J,X⟩:=e _ I;subst X;rw[J];simp only;show _=T0 _ (cT (λ_ s=>dq co s) cnt.toNat [] K);cases cT (λ_ s=>dq co s) cnt.toNat [] K<;>rfl
theorem Ou{f:b5}(a:fp N f)(q:N<=60000):∀x∈f.d7,uN f.k x:=λx h=>by
 obtain⟨h1,j,r⟩:=a.d7 x h;refine⟨a.k,⟨?_,λz e=>?_⟩,h1.other,h1.lines,by have:=h1.len;omega,Ω⟩
 .rw[h1.co,u9];exact j
 .rw[h1.co]at e;obtain⟨v,p,rfl⟩:=j0.1 e;have:=h1.scope.2 v p;refine a.co.2.2 _ ?_;rw[u4,x7 Ω];exact Q4 _
theorem Ov{p:x1}{pl:Λ}(ac:aM .u8 w p pl)(aI:Bytes pl)(bJ:pl.length<=60000)(ae:fs w):al x8 Ip [p] w (DS w (gZ pl)):=by
 have aL:1<w.heap.size:=by
  have:=ae 0 (.int .u64 1) rfl;obtain⟨c,e,f,aN,_⟩:=wS this;exact(j9.1 aN).1
 have bL:az=4611686018427387904:=rfl;refine aB func59 ?_;rw[aY cQ.u ac,bO,ak];refine⟨λh=>Ω,λ_=>?_⟩;refine(B1 ac aI Ω).Y ?_;rintro _ U _ ⟨ag,gs,rfl,bM,aO,Q⟩;rw[di (cs:=#[Γ gs,Δ 0,Δ 0,Δ 0,Δ 0,Δ 0,.slice ν 0 0]) Ψ];refine bo λg aa bN R ai=>?_;have bP:=ag.size;have bQ:=R.size;have aP:=ai.lt;have bR:gs<U.heap.size:=Q.2.2.2.1.lt;have bS:=rv _ pl (p8 _);let s0:aJ:=⟨(lex pl).1,0,rs,[]⟩;let B0:ah:=λr=>r<U.heap.size;have aQ:eo aa g gs bW B0 s0 (lex pl).2:=by
  refine⟨⟨Ω,λh=>h,λh=>h,λr j=>?_,λr j=>by have j:r<U.heap.size:=j;omega⟩,⟨aO,pl,0,Q.W R,λr j=>?_,by rw[List.drop_zero]⟩,⟨by show(0:Int)<=0;omega,by show(0:Int)<=az;omega,by show(([]:List (Λ×List (Λ×Int))).length+(lex pl).1.length<=100000);simp;omega⟩,0,0,0,0,.slice ν 0 0,ai,⟨by simp[s0],λ_=>rfl⟩,iM (α:=lS)⟩
  .rcases j with rfl|rfl|j
   .exact aP
   .omega
   .exact j.elim
  .obtain⟨_,_,_,L,ba,hm⟩:=Q;have G:=bV hm j;have H:=b8 hm L Φ j;exact⟨λB=>by
    rcases B with B|B|B
    .omega
    .exact H B
    .exact B,by show r<U.heap.size;omega⟩
 have S:∀r,bK g gs bW r->w.heap.size<=r:=λr j=>by
  rcases j with rfl|rfl|j
  .omega
  .omega
  .exact j.elim
 refine(CH aQ).Y ?_;rintro _ bT _ ⟨A,name,bU,rfl,bX,bY,aR⟩;obtain⟨aS,aT⟩:=gk.of A;rw[bu,bw,po c6.u,bO];refine(rY aT).Y ?_;rintro _ bZ _ A;obtain⟨aU,aV⟩:=A.of;refine(nw (lo:=1) (hi:=az) aV).Y ?_;rintro _ b0 _ ⟨A,n,b1,rfl,aj,aW⟩;obtain⟨aX,aZ⟩:=A.of;rw[bu,bw,bO];refine(rY aZ).Y ?_;rintro _ b2 _ A;obtain⟨a1,a2⟩:=A.of;refine(nw (lo:=1) (hi:=az) a2).Y ?_;rintro _ b3 _ ⟨A,most,b4,rfl,am,a6⟩;obtain⟨a7,a8⟩:=A.of;rw[bu,bw];refine(nw (lo:=0) (hi:=az) a8).Y ?_;rintro _ b6 _ ⟨A,cnt,b7,rfl,an,bb⟩;obtain⟨bc,bd⟩:=A.of;rw[bu,bw,bO];refine(rY bd).Y ?_;rintro _ b9 _ A;obtain⟨be,bg⟩:=A.of;refine(nw (lo:=1) (hi:=az) bg).Y ?_;rintro _ ca _ ⟨A,k,cb,rfl,hk,cc⟩;obtain⟨bh,bi⟩:=A.of;rw[bu,bw,bO];refine(rY bi).Y ?_;rintro _ ao _ A;obtain⟨bk,W⟩:=A.of;have ap:af (bK g gs bW) aa ao:=(((((((aS.F aU).F aX).F a1).F a7).F bc).F be).F bh).F bk;have X:∀{lo:Int}{o:Option aJ}{x:Int},0<=lo->lo<=1->(∀q,bf lo az o=σ q->x=q.1)->(bf lo az o=ν->x=0)->0<=x/\x<=az:=λ{lo o x}cd h1 J bl=>by
  cases a:bf lo az o with
  |none=>rw[bl a];omega
  |some q=>
   have G:=oe (n:=q.1) (s':=q.2) a;rw[J q a];omega
 have ce:=X Ω Ω aj aW;have cf:=X Ω Ω an bb;have cg:=X Ω Ω am a6;obtain⟨N,bm⟩:∃N:Nat,n=(N:Int):=⟨n.toNat,Ω⟩;obtain⟨C,bn⟩:∃C:Nat,cnt=(C:Int):=⟨cnt.toNat,Ω⟩;have bp:n.toNat=N:=Ω
 have bq:cnt.toNat=C:=Ω
 have br:ea s0:=λ_=>by show(0:Int)<=16384;omega
 have M:∀{o:Option aJ}{b:Bool},(∀s,o=σ s->ea s)->∀s,o.map (bj b)=σ s->ea s:=λh s J=>by
  obtain⟨t,Y,rfl⟩:=X0.1 J;exact(h t Y).big
 have O:∀{o:Option aJ}{lo hi:Int},(∀s,o=σ s->ea s)->∀s,(bf lo hi o).map (·.2)=σ s->ea s:=λ{o lo hi}h s J=>by
  obtain⟨q,a,rfl⟩:=X0.1 J;cases o with
  |none=>cases a
  |some t=>exact(h t rfl).num (n:=q.1) (s':=q.2) a
 have bs:∀s,(dY s0).map (·.2)=σ s->ea s:=λs J=>by
  obtain⟨q,a,rfl⟩:=X0.1 J;exact br.word (w:=q.1) (s':=q.2) a
 have aq:=M (b:=decide (2147483648<k)) (O (lo:=1) (hi:=az) (M (b:=decide (256<cnt)) (O (lo:=0) (hi:=az) (O (lo:=1) (hi:=az) (M (b:=decide (64<n)) (O (lo:=1) (hi:=az) (M (b:=decide (64<(name.length:Int))) bs)))))));have y:=λ(co:Λ)(so6:Option aJ)=>Ot (s0:=s0) (name:=name) (co:=co) (n:=n) (most:=most) (cnt:=cnt) (k:=k) (so6:=so6) aR aj am an hk;rw[bp]at y;generalize ch:T0 (bj (decide (2147483648<k))) (T0 (λx=>x.2) (bf 1 az (T0 (bj (decide (256<cnt))) (T0 (λx=>x.2) (bf 0 az (T0 (λx=>x.2) (bf 1 az (T0 (bj (decide (64<n))) (T0 (λx=>x.2) (bf 1 az (T0 (bj (decide (64<(name.length:Int)))) (T0 (λx=>x.2) (dY s0)))))))))))))=au at aq W y;rw[bm];refine Oi W Ω λd9 Z co so6 gz bt av aw ci bx ax ay=>?_;have y:=y co so6 ax ay;rw[bq]at y;have ab:af (bK g gs bW) aa Z:=ap.F bt;have z12:=ab.size;have aA:=ag.F R;have bz:af (λr=>w.heap.size<=r) w Z:=(aA.V _).F (ab.Y λr _ h=>S r h);have cj:=av.side;have facts:∀K,so6=σ K->ea K/\(∀z∈co,1<=z/\z<=az)/\co.length<=100000:=λK ad=>by
  cases a:fD (gL most) N [] au with
  |none=>rw[ay a]at ad;cases ad
  |some q=>
   obtain⟨G,H⟩:=ax q a;cases ad.symm.F G;subst H;cases au with
   |none=>cases a
   |some bA=>
    obtain⟨bB,bC,ck⟩:=Oq (aq bA rfl) Ω a;exact⟨bB,bC,by have:=W.words;omega⟩
 rw[bn];have aC:∀r,lc d9 r->ao.heap.size<=r/\r<Z.heap.size:=λr j=>by have:=bV aw j;omega
 have cl:=ap.size;refine Oo av.q (λs J=>(facts s J).1) Ω aw.ls (λr j=>?_) (λP=>?_) bx ((ae.W aA).V ab λB=>by have:=S 1 B;omega) ⟨aL,λ_=>⟨λB=>by have:=S 1 B;omega,by show 1<U.heap.size;omega⟩⟩
  bz Ω Ω ⟨Ω,Ω⟩ (λ_ r h=>h.elim) λcm cn acc so aK cp cq cr aD ct bD bE bF bG aE bH=>?_
 .have:=aC r j;exact⟨Ω,Ω,Ω,λ_ h=>h⟩
 .cases aF:so6 with
  |none=>exact m6 aF P
  |some K=>exact(facts K aF).2.1
 have cu:=aD.size;have E:gZ pl=match jA s0 with
   |none=>ν
   |some (f,s)=>if s.d8=[]/\(lex pl).2=ro/\s.big=rs then σ f else ν:=by
  unfold gZ;rw[m5 Ω];have e:jA ⟨(lex pl).1,0,rs,[]⟩=jA s0:=rfl;rw[e];cases jA s0<;>rfl
 refine Oh bD ⟨λs J Y bI L=>?_,λP=>?_⟩ bG (λr j=>by have:=aC r j;exact⟨Ω,Ω⟩) bE bF (λ_=>trivial) Ω Ω aD Ω Ω ac λv I h=>h
 .cases a:fD (λ_ s=>dq co s) C [] so6 with
  |none=>rw[bH a]at J;cases J
  |some q=>
   obtain⟨G,H⟩:=aE q a;cases J.symm.F G;rw[a]at y;have y:jA s0=σ ((⟨name,k,co,q.1⟩:b5),q.2):=y;have aG:=(CE rfl y L).1;rw[y]at E;simp only at E;rw[m3 ⟨Y,bI,L⟩]at E;exact⟨q.1,H,E,Ou aG (by show(lex pl).1.length<=60000;omega),aG.mw,Ω⟩
 .cases a:fD (λ_ s=>dq co s) C [] so6 with
  |none=>
   rw[a]at y;have y:=y;rw[y]at E;exact m6 E P
  |some q=>
   obtain⟨G,H⟩:=aE q a;rw[a]at y;have y:jA s0=σ ((⟨name,k,co,q.1⟩:b5),q.2):=y;rw[y]at E;simp only at E;by_cases aH:q.2.d8=[]/\(lex pl).2=ro/\q.2.big=rs
   .exact⟨q.2,G,aH⟩
   .rw[m5 aH]at E;exact m6 E P
theorem xL(s t cs:Λ):∃e,tP s t cs= .tuple #[Δ (br s cs t),Δ e]:=by
 unfold tP br;cases cz s t 0 with
 |none=>exact⟨3,rfl⟩
 |some n=>exact⟨0,rfl⟩
theorem Ow:al x8 A5 [sv] w λr I=>Ext w I/\∃g,r= .func (.func qb) #[] #[Γ g]/\w.heap.size<=g/\ag I g aq sv.cells.toList:=by
 refine aB func235 ?_;refine bo λg U f a e=>?_;rw[lK];exact⟨a,g,rfl,Ω,e⟩
theorem Ox{f:Q9}{cap:Array x1}{B:Nat->List x1->x4->Prop}{e:x4->Prop}{L:Λ}(P:oO x8 f cap.toList n B e)(C:∀k vs w,B k vs w->∃x,L[k]?=σ x/\vs=[Δ x])(he:∀a b,af (λr=>w.heap.size<=r) a b->e a->e b)(Q:e w)(R:n=L.length)(ao:L.length<=1000000):
  al x8 II [.slice ν 0 0,.func (.func f) #[] cap] w λv I=>Ext w I/\∃g,w.heap.size<=g/\aA .i64 aj I g v L:=by
 refine iK func81 ?_;refine bo λgs U ap E p=>?_;have p:=p;have au:=p.lt;have G:∀{a b:x4},Ext a b->e a->e b:=λj=>he _ _ (j.V _);refine kX.old ⟨Nat,rs,f,cap,0,_,_,e,λk I=>af (λr=>w.heap.size<=r) w I/\∃v g,gs<g/\ag I gs aq [v]/\aA .i64 aj I g v (L.take k),λ_ _ _=>False,rfl,P.s,?_,λ_ _ j h=>G j h,
  λ_ _ _ j h=>⟨h.1.F (j.V _),by obtain⟨v,g,h1,S,W⟩:=h.2;exact⟨v,g,h1,S.W j,W.W j⟩⟩,λ_ _ _ _ _ h=>h,G E Q,⟨E.V _,_,gs+1,Ω,p,aA.nil _ _ _ _⟩,?_,?_,λ_ _ h=>h.elim,λ_ _ _ h=>h.elim⟩
 .rintro k vs av I ⟨_,_,h⟩;obtain⟨x,_,rfl⟩:=C k vs I h;rfl
 .rintro a k _ aa hX ⟨hk,rfl,Y⟩ ⟨Z,v,g,ab,H,q⟩;obtain⟨x,j,ac⟩:=C k _ aa Y;cases ac;intro aw y _ _;have J:=H.W y;rw[aD Ψ (J.cell rfl)];refine eB aq.u aj.i rfl λa ga ax ay z ad=>?_;have az:(L.take k).length<=1000000:=Θ
  refine kx aq.u aj.i rfl ((q.W y).W z) ad.ls (by simp only[Z4,Q7];omega) (by simp only[Z4,Q7];omega) λae ah aB aC A K=>?_;have aE:=H.lt;have aF:=y.size;have aG:=z.size;refine bq aq.i A.ls.cells.1 A.ls.cells.2 (((J.W z).V K Ω)) Ξ λai M aH ak=>?_;have N:af (λr=>w.heap.size<=r) aa ai:=(((y.F z).V _).F (K.Y λr _ h=>by show w.heap.size<=r;omega)).F (M.Y λr _ h=>by show w.heap.size<=r;omega);refine⟨he _ _ N hX,⟨Z.F N,ae,ah,Ω,ak,?_⟩,λh=>by cases h⟩;rw[r8,j];exact A.V M (λ_=>Ω)
 .rintro k aI hk ⟨am,v,g,ab,an,q⟩;have hk:=hk;subst hk;rw[aD Ψ (an.cell rfl)];intro aJ O _;rw[R,o6]at q;exact⟨(am.W λr aK h=>by have:w.heap.size<=r:=h;omega).F O,g,Ω,q.W O⟩
theorem DU{f:Q9}{cap:Array x1}{j:Nat->List x1->x4->Prop}{e:x4->Prop}{L:Λ}(p:oO x8 f cap.toList n j e)(q:∀k vs w,j k vs w->∃x,L[k]?=σ x/\vs=[Δ x])(he:∀a b,af (λr=>w.heap.size<=r) a b->e a->e b)(s:e w)(y:n=L.length)(z:L.length<=1000000):
  al x8 H7 [.func (.func f) #[] cap] w λv I=>Ext w I/\∃g,w.heap.size<=g/\aA .i64 aj I g v L:=by
 refine aB func34 ?_;exact(Ox p q he s y z).Y λ_ _ _ h=>h
theorem Oy{x:Int}:al x8 cmp_Less_int [Δ x,Δ y] w λv I=>v= .bool (decide (x<y))/\Ext w I:=by
 refine aB func315 ?_;refine aV (λv U=>v= .bool (decide (x<y))/\Ext w U) (λ_ _ h=>h) λay a=>?_;have e:∀{z:Int}{w:x4},al x8 cmp_isNaN_int [Δ z] w λv I=>v= .bool rs/\Ext w I:=λ{z w}=>by
  refine aB func247 ?_;simp only[bF];exact⟨Ξ,Ext.refl _⟩
 refine e.Y ?_;rintro _ aa _ ⟨rfl,f⟩;rw[aX];simp only[aR];exact a _ _ ⟨rfl,f⟩
theorem Oz{P:V5}{t:p9}{cx cy:Bool}{k:o7}{a b:Int}:cE P (aN .sub t cx cy (.int k a) (.int k b)) (.int k (k.wrap (a-b))) w:=λI _=>by simp[aN,eqGuard,binOp,Op.intArith]
theorem OA{g:Nat}(h:aA .i64 aj w g sv l)(an:l.length<=1000000):
  al x8 KZ [sv,Δ 0,Δ l.length] w λ_ I=>af (λr=>r=g) w I/\∃m,m.Perm l/\m.Pairwise (·<= ·)/\aA .i64 aj I g sv m:=by
 refine aB func309 ?_;simp only[aO];refine⟨λt U=>∃(i:Nat)(m:Λ),t=Δ i/\1<=i/\(i<=l.length\/i=1)/\m.Perm l/\rI m i/\af (λr=>r=g) w U/\aA .i64 aj U g sv m,λt _=>l.length+1-(bU t).toNat,
  ⟨1,l,by congr 1,Ω,.inr rfl,.refl _,λp q x y h1 S=>Ω,af.refl _ _,h⟩,?_⟩
 rintro _ U ⟨i,m,rfl,ao,ap,z,J,K,hm⟩;have W:=z.length_eq;simp only[aR,ak];refine⟨λX=>?_,λau=>?_⟩
 .have X:i<l.length:=Ω
  refine⟨λt aa=>∃(j:Nat)(m:Λ),t=Δ j/\j<=i/\m.Perm l/\qt m i j/\af (λr=>r=g) w aa/\aA .i64 aj aa g sv m,λt _=>(bU t).toNat,⟨i,m,rfl,p8 _,z,Mi J,K,hm⟩,?_⟩;rintro _ aa ⟨j,m,rfl,Y,z,E,L,hm⟩;have W:=z.length_eq;refine aV (λv M=>Ext aa M/\∃c,v= .bool c/\(c=ro->0<j/\∃a b,m[j-1]?=σ a/\m[j]?=σ b/\b<a)/\(c=rs->j=0\/0<j/\∃a b,m[j-1]?=σ a/\m[j]?=σ b/\a<=b)) ?_ ?_
  .rintro _ M ⟨B,c,rfl,Z,ab⟩;rw[bY];refine⟨λh=>?_,λh=>?_⟩
   .obtain⟨A,a,b,f,s,G⟩:=Z h;intro av N _ _;have C:=(hm.W B).W N;have e:W6.wrap ((j:Int)-1)=((j-1:Nat):Int):=by rw[li Ω Ω];omega
    simp only[dp,e];rw[bi aq.u aj.i Ψ C.ls f,bi aq.u aj.i Ψ C.ls s,jB rfl aq.u aj.i C Ω];refine jC aj.i C Ω λac ad aw O=>⟨.inr ⟨by have:=Oz (P:=x8) (w:=ac) (t:=aj) (cx:=rs) (cy:=ro) (k:=.i64) (a:=(j:Int)) (b:=1);rwa [e]at this,trivial⟩,?_⟩;rw[jB rfl aq.u aj.i O Θ];refine jC aj.i O Θ λax ae az ag=>?_;refine⟨⟨j-1,_,rfl,Ω,(swap_perm Ω f s).F z,Ml E A Y f s G,((L.F ((B.F N).V _)).F ad).F ae,ag⟩,?_⟩;simp only[bU];omega
   .simp only[aO];rw[li Ω Ω];refine⟨⟨i+1,m,rfl,Ω,.inl Ω,z,?_,L.F (B.V _),hm.W B⟩,?_⟩
    .rcases ab h with rfl|⟨A,a,b,f,s,G⟩
     .exact Mj E
     .exact Mk E A f s G
    .simp only[bU];omega
  .intro ay Q aC H _ _;have R:=hm.W H;simp only[bO,ak];refine⟨λA=>?_,λA=>Q _ _ ⟨H,rs,rfl,(λh=>by cases h),λ_=>.inl Ω⟩⟩;have e:W6.wrap ((j:Int)-1)=((j-1:Nat):Int):=by rw[li Ω Ω];omega
   obtain⟨b,s⟩:=aF (l:=m) (i:=j) Ω;obtain⟨a,f⟩:=aF (l:=m) (i:=j-1) Ω;rw[bi aq.u aj.i Ψ R.ls s];simp only[dp,e];rw[bi aq.u aj.i Ψ R.ls f];refine Oy.Y ?_;rintro _ aD _ ⟨rfl,ah⟩;refine Q _ _ ⟨H.F ah,_,rfl,λh=>⟨Ω,a,b,f,s,by simpa using h⟩,λh=>.inr ⟨Ω,a,b,f,s,by simpa using h⟩⟩
 .refine⟨K,m,z,Mm λp q x y h1 S ai am=>J p q x y h1 Ω ai am,hm⟩
theorem OB{P:V5}{t:p9}{k:o7}{s:ByteArray}{i:Nat}{K:x1->Prop}(a:P.underlying t=σ .string)(hi:i<s.size)(e:∀b:Nat,b<256->K (.int .u8 b)):
  ab P (Instr.index t (.string s) (.int k (i:Int))) w K:=by
 have f:s[i]?=σ s[i]:=by simp[hi]
 have:ab P (Instr.index t (.string s) (.int k (i:Int))) w K=K (.int .u8 s[i].toNat):=ab.of λI _=>by
  simp[Instr.index,asIntOf,run_underlying a,hi]
 rw[this];exact e _ (UInt8.toNat_lt _)
theorem OC(a:n<256):al x8 Ku [.int .u64 (n:Int)] w λv I=>(∃r,v=Δ r)/\Ext w I:=by
 refine aB func246 ?_;refine al.Y (K:=λv I=>(∃r,v=Δ r)/\Ext w I) ?_ (λ_ _ _ h=>h);refine aB func283 ?_;simp only[cv,cH,ak];refine⟨λh=>Ω,λ_=>⟨λh=>Ω,λ_=>⟨λh=>Ω,λ_=>?_⟩⟩⟩;rw[fB fz.u cK.u,wrap_u8 Ω Ω];refine OB c6.u (by exact S3 a Φ) λb e=>?_;rw[fB cK.u aj.u];simp only[aO];exact⟨⟨_,rfl⟩,Ext.refl _⟩
theorem OD{g:Nat}(h:aA .i64 aj w g sv l)(f:l.length<=12):
  al x8 KH [sv] w λ_ I=>af (λr=>r=g) w I/\∃m,m.Perm l/\m.Pairwise (·<= ·)/\aA .i64 aj I g sv m:=by
 refine aB func269 ?_;rw[aY aq.u h.ls,fB aj.u qd.u,lm Ω Ω];refine(OC Ω).Y ?_;rintro _ U _ ⟨⟨r,rfl⟩,e⟩;refine al.Y (K:=λ_ I=>af (λr=>r=g) U I/\∃m,m.Perm l/\m.Pairwise (·<= ·)/\aA .i64 aj I g sv m) ?_ (λ_ _ _ h=>⟨(e.V _).F h.1,h.2⟩);refine aB func294 ?_;refine⟨λa b _ _ _ aa=>a=Δ 0/\b=Δ l.length/\U=aa,λ_ _ _ _ _ _=>0,⟨rfl,rfl,rfl⟩,?_⟩;rintro _ _ _ _ _ _ ⟨rfl,rfl,rfl⟩;simp only[dp,nh,ak];rw[li Ω Ω];refine⟨λ_=>?_,λh=>Ω⟩;refine(OA (h.W e) Ω).Y ?_;exact λ_ _ _ h=>h
theorem OE{f:Q9}{cap:Array x1}{j:Nat->List x1->x4->Prop}{e:x4->Prop}{L:Λ}(p:oO x8 f cap.toList n j e)(q:∀k vs w,j k vs w->∃x,L[k]?=σ x/\vs=[Δ x])(he:∀a b,af (λr=>w.heap.size<=r) a b->e a->e b)(s:e w)(y:n=L.length)(z:L.length<=12):
  al x8 A4 [.func (.func f) #[] cap] w λv I=>Ext w I/\∃g m,w.heap.size<=g/\m.Perm L/\m.Pairwise (·<= ·)/\aA .i64 aj I g v m:=by
 refine aB func234 ?_;refine(DU p q he s y Ω).Y ?_;rintro v U _ ⟨A,g,B,C⟩;refine(OD C z).Y ?_;rintro _ aa _ ⟨E,m,h1,G,H⟩;exact⟨A.then E (by rintro r J rfl;omega),g,m,B,h1,G,H⟩
theorem DV{x:Int}(h:aM .i64 w sv l):
  al x8 A6 [sv,Δ x] w λv I=>Ext w I/\∃r:Int,v=Δ r/\∀i:Nat,l[i]?=σ x->(r=i↔ ∀j,j<i->l[j]? ≠σ x):=by
 refine aB func236 ?_;rw[aY aq.u h];refine cb.range l.length (λi _ U=>Ext w U/\∀j,j<i->l[j]? ≠σ x) h.le ⟨Ext.refl _,λj p=>Ω⟩ ?_ ?_
 .rintro i _ U k hi ⟨a,e⟩ hk;simp only[aR,ak];refine⟨λ_=>?_,λh=>Ω⟩;obtain⟨y,f⟩:=aF (l:=l) hi;rw[bi aq.u aj.i Ψ (h.W a) f];simp only[bk,ak,aO];refine⟨λhe=>⟨a,i,rfl,λq s=>?_⟩,λhe=>hk _ _ ⟨a,λj p=>?_⟩⟩
  .subst he;refine⟨λB=>by
              have:i=q:=Ω
              subst this;exact e,λz=>?_⟩
   rcases Nat.lt_trichotomy i q with h1|h1|h1
   .exact m6 f (z i h1)
   .omega
   .exact m6 s (e q h1)
  .by_cases A:j=i
   .subst A;rw[f];intro h;exact he (Z6 h).symm
   .exact e j Ω
 .rintro _ U k ⟨a,e⟩;simp only[aR,ak];refine⟨λh=>Ω,λ_=>⟨a,-1,rfl,λi hi=>?_⟩⟩;exact m6 hi (e i (x5.1 hi).1)
theorem OF{g:Nat}(p:ag w0 g aq [sv])(e:aM .i64 w0 sv l):
  oO x8 qb [Γ g] l.length (λk vs _=>∃x,l[k]?=σ x/\vs=[Δ x]) (λw=>Ext w0 w):=by
 refine⟨qb.enters,λy ay B w C _ q a r=>?_⟩;refine qg func270 ?_;rw[aD Ψ ((p.W a).cell rfl),aY aq.u (e.W a)];refine bZ.range l.length (λi aa=>ay i aa/\Ext w0 aa) e.le ⟨r,a⟩ ?_ ?_
 .rintro i aa k hi ⟨f,j⟩ hk;simp only[aR,ak];refine⟨λ_=>?_,λh=>Ω⟩;obtain⟨x,a⟩:=aF (l:=l) hi;rw[bi aq.u aj.i Ψ (e.W j) a];refine⟨rfl,(q i _ aa hi j ⟨x,a,rfl⟩ f).Y ?_⟩;rintro _ E (⟨rfl,s,z⟩|⟨rfl,A⟩)
  .simp only[bC,X1,aX,aO];exact hk _ ⟨z.1,s⟩
  .simp only[bC,W7,bH];exact .inr ⟨i,hi,A⟩
 .rintro aa k ⟨f,_⟩;simp only[aR,ak];exact⟨λh=>Ω,λ_=>.inl f⟩
theorem xM(h:aM .i64 w sv l)(j:l.length<=12)(p:∀v I g m,Ext w I->w.heap.size<=g->m.Perm l->m.Pairwise (·<= ·)->aA .i64 aj I g v m->K v I):
  al x8 A5 [sv] w λt U=>al x8 A4 [t] U K:=by
 refine Ow.Y ?_;rintro _ U _ ⟨f,g,rfl,B,e⟩;have e:ag U g aq [sv]:=by rw[h.cells.1]at e;exact e
 refine(OE (OF e (h.W f)) (λ_ _ _ h=>h) (λa b q s=>s.then q (λr C h=>Ω)) (Ext.refl _) rfl j).Y ?_;rintro v aa _ ⟨x,y,m,E,h1,z,A⟩;have:=f.size;exact p v aa y m (f.F x) Ω h1 z A
def OG(w:x4)(ai:Λ)(k:Int)(cs a:Λ)(v:x1)(I:x4):Prop:=
 Ext w I/\
  (¬Good a ai.length->v= .tuple #[.pointer ν,Δ 1])/\
  (Good a ai.length->∃e f h,v= .tuple #[Γ e,Δ 0]/\dj I e f h (e3 ai a) k (ps ai cs a))
theorem OH{g bH:Nat}{Y:x1}{cs z:Λ}(h:dj w g bH sv ai k cs)(hk:right k)(P:aM .i64 w Y z)(ck:z.length<=12)(ac:Good z ai.length->aQ (e3 ai z)<=4096):
  al x8 Kn [Γ g,Y] w (OG w ai k cs z):=by
 have az:=h;have cl:=h.2.2.1;have cm:=P.cells;refine iK func237 ?_;refine bo λg1 U c6 bI C=>?_;refine bo λbJ aa c7 a2 A=>?_;have s1:=bI.size;have c8:=a2.size;have c9:=C.lt;have da:=A.lt;have a6:=bI.F a2;have C:=C.W a2;have A:ag aa bJ aq [Y]:=by rw[cm.1]at A;exact A
 rw[aD Ψ (C.cell rfl),cR fc.u];simp only[Z3,aX];rw[aD Ψ (A.cell rfl)];have cn:=P.W a6;have sub:∀{w:x4}{g:Nat}{sv:x1}{k:Int}{a7:x1},ag w g cZ [sv,Δ k,a7]->w.rangeAt g (0+0) [sv]:=λJ=>pj J (by
  intro j v a8
  match j,a8 with
  |0,a8=>exact a8)
 refine xM cn ck λdf cp c0 m bK db ba cq hm=>?_;have cr:=ba.length_eq;rw[aY aq.u hm.ls];have ct:=a6.F bK;refine lG.range m.length (λi _ _ bb=>Ext cp bb/\∀j,j<i->m[j]?=σ (j:Int)) Ω ⟨Ext.refl _,λj bc=>Ω⟩ ?_ ?_
 .rintro i _ _ bb Z hi ⟨ab,bd⟩ ad;simp only[aR,ak];refine⟨λ_=>?_,λh=>Ω⟩;obtain⟨y,ae⟩:=aF (l:=m) hi;rw[bi aq.u aj.i Ψ (hm.ls.W ab) ae];simp only[bF,ak,aO];refine⟨λah dc cu _=>⟨(ct.F ab).F cu,λ_=>rfl,λbe=>?_⟩,λhe=>ad _ _ _ ⟨ab,λj bc=>?_⟩⟩
  .have:=Cn be ba cq i hi;rw[ae]at this;exact m6 (Z6 this).symm ah
  .by_cases cw:j=i
   .subst cw;rw[ae];congr 1;omega
   .exact bd j Ω
 .rintro _ _ bb Z ⟨ab,bd⟩;simp only[aR,ak,eH];refine⟨λh=>Ω,λ_ dd cz _ _=>?_⟩;have E:=Mn bd ba;have am:=(bK.F ab).F cz;have aB:=a6.F am;have C:=C.W am;have A:=A.W am;have cA:=P.W aB;have cB:=az.W aB;have dg:=am.size;obtain⟨⟨a7,gs,J,aC,bM⟩,_⟩:=id cB;rw[aD Ψ (A.cell rfl),aY aq.u cA,aD Ψ (C.cell rfl),bL,aT cZ.p rfl,bA (cs:=[sv]) bD.p bD.i rfl (sub J)];refine(CN aC.ls).Y ?_;rintro _ dh _ ⟨rfl,K⟩;refine⟨.inl K,?_⟩;simp only[bF,ak];refine⟨λah di cC _=>⟨(aB.F K).F cC,λ_=>rfl,λbe=>m6 (by rw[be.1]) ah⟩,λdk=>?_⟩;have bf:z.length=ai.length:=Ω
  have E:Good z ai.length:=by rw[<-bf,<-cr];exact E
  have dl:=am.F K;have bg:=aB.F K;have C:=C.W K;have A:=A.W K;have bN:=P.W bg;rw[aD Ψ (A.cell rfl),aY aq.u bN];refine k3 aq.u aj.i Ω Ω λgz cD dm Q bO=>?_;have cE:=aA.of (n:=z.length) (b0.full bO Ξ (by simp[maxLen];omega));generalize (x1.slice (σ ⟨gz,0,ν⟩) z.length z.length)=cF at*;have dn:=K.size;have dp:=Q.size;have dq:=bO.lt;rw[aD Ψ ((A.W Q).cell rfl),aY aq.u (bN.W Q)];have bP:=bg.F Q;have aE:(e3 ai z).length=z.length:=uc _ _;refine bZ.range z.length (λi aH=>af (λr=>r=gz) cD aH/\aA .i64 aj aH gz cF (upto (e3 ai z) 0 i)) Ω ⟨af.refl _ _,by rw[rE,aE];exact cE⟩ ?_ ?_
  .rintro i aH Z hi ⟨L,aI⟩ ad;simp only[aR,ak];refine⟨λ_=>?_,λh=>Ω⟩;have an:=bP.then L (by rintro r M rfl;omega);have aJ:=Q.then L (by rintro r M rfl;omega);obtain⟨p,bh⟩:=aF (l:=z) hi;obtain⟨⟨a7,gs,J,aC,bM⟩,_⟩:=az.W an;rw[bi aq.u aj.i Ψ (P.W an) bh,aD Ψ ((C.W aJ).cell rfl),bL,aT cZ.p rfl,bA (cs:=[sv]) bD.p bD.i rfl (sub J)];refine(rN aC.ls).Y ?_;rintro _ dr _ ⟨rfl,bQ⟩;have bR:=aI.W bQ;have cG:(upto (e3 ai z) 0 i).length=z.length:=by rw[rD,aE]
   rw[jB rfl aq.u aj.i bR Ω];refine jC aj.i bR Ω λds cH _ bS=>?_;simp only[aO];have h1:=(E.2 i p bh).1;have ao:(e3 ai z)[i]?=σ (jn ai p):=by
    unfold e3 jn;rw[v8,bh,m3 h1.1];rfl
   rw[rG ao]at bS;exact ad _ ⟨(L.F (bQ.V _)).F cH,bS⟩
  .rintro aH Z ⟨L,aI⟩;simp only[aR,ak];refine⟨λh=>Ω,λ_=>?_⟩;have an:=bP.then L (by rintro r M rfl;omega);have aJ:=Q.then L (by rintro r M rfl;omega);rw[<-aE,rF]at aI;obtain⟨⟨a7,gs,J,aC,bM⟩,_⟩:=az.W an;rw[aD Ψ ((C.W aJ).cell rfl),aG cZ.p 1 J rfl];have aK:=cl.Mp E rfl;have bT:=ac E;have dt:=prod_bound aK;refine(w1 aI.ls).Y ?_;rintro _ bU _ ⟨bV,_,_,_,cI⟩;obtain⟨ap,G,R,rfl,du,dv,dw,aL⟩:=cI aK bT ⟨hk,Ω,by have:=hk.1;omega⟩;obtain⟨N,aN⟩:∃N:Nat,(aQ (e3 ai z)).toNat=N:=⟨_,rfl⟩;rw[aN]at aL;rw[bu,bw];refine bB fc.i λbW dx dy bX av=>?_;refine bq fc.i rfl rfl av (by simp[x1.cells]) λdz cJ dA av=>?_;have dC:=L.size;have dD:=bV.size;have dE:=bX.size;have bj:=bX.then cJ (by rintro r M rfl;omega);have bY:=bV.F bj;have cK:=aL.W bj;have dF:=av.lt;obtain⟨⟨bk,b1,b2,b3,cL⟩,⟨b4,b5,_⟩,_,dG⟩:=id cK;have dH:0<N:=Ω
   have dI:ap<bU.heap.size:=by obtain⟨⟨_,_,q,_⟩,_⟩:=id aL;exact q.lt
   have dJ:G<bU.heap.size:=by obtain⟨⟨_,_,_,_,q⟩,_⟩:=id aL;exact uK q Θ
   rw[aD Ψ (av.cell rfl),bL,aT cZ.p rfl,bA (cs:=[R]) bD.p bD.i rfl (sub b2)];refine uo.Y ?_;rintro _ O _ ⟨H,aP,rfl,dK,b6⟩;have dL:=bj.size;have dM:=H.size;let S:Nat->Prop:=λr=>r=G;let W:=ps ai cs z;have bl:W.length=N:=by simp only[W];rw[Ct,aN]
   let cM:x4->Prop:=λI=>ag I g1 fc [Γ g]/\ag I bJ aq [Y]/\ag I bW fc [Γ ap]/\ag I ap cZ [R,Δ k,bk]/\
    dj I g bH sv ai k cs/\aM .i64 I Y z/\aA .i64 aj I b1 R (e3 ai z)/\ag I aP bD [R]/\O.heap.size<=I.heap.size
   have facts:∀{a:x4},af S O a->cM a:=by
    intro a B;have bm:=(aJ.F bY).F H;have bn:=bm.put B Ω;have b7:=bg.F bn;refine⟨C.W bn,A.W bn,(av.W H).V B (by show¬(bW=G);omega),(b2.W H).V B (by show¬(ap=G);exact b4),az.W b7,P.W b7,bs (b3.W H) B (λr M he=>b5 ((show r=G from he)▸M)),
     b6.V B (by show¬(aP=G);omega),B.size⟩
   have b8:=um (g:=aP) (B0:=O.heap.size) (sv:=R) aK;rw[aN]at b8;refine nR.old ⟨Nat,rs,mi,#[Γ aP],0,_,_,_,λq I=>af S O I/\aA .i64 au I G bk (upto W 0 q),λ_ _ _=>False,rfl,b8.s,
    ?_,λ_ _ B h=>⟨h.1.W B,h.2.1.W B,Y9 h.2.2 B.size⟩,λ_ _ _ B h=>⟨h.1.F (B.V S),h.2.W B⟩,λ_ _ _ _ _ h=>h,⟨b6,(b3.W H).ls,p8 _⟩,⟨af.refl _ _,?_⟩,?_,?_,λ_ _ h=>h.elim,λ_ _ _ h=>h.elim⟩
   .rintro _ _ _ _ ⟨_,_,_,_,rfl,_⟩;rfl
   .rw[rE,bl];exact cL.W H
   .rintro _ aS q _ dN ⟨_,_,dO⟩ ⟨ao,rfl,dP,gt,cN,dQ,cO⟩ ⟨aU,cP⟩;cases cN;let x:=de (e3 ai z) (q:Int);have b9:x.length=z.length:=by simp only[x];rw[kB,aE]
    intro cQ X _ _;have ca:=cO.W X;rw[aY aq.u ca.ls];refine k3 aq.u aj.i (by rw[kB];omega) (by rw[kB];omega) λgo cS dR bp cb=>?_;have cT:=aA.of (n:=(de (e3 ai z) (q:Int)).length) (b0.full cb Ξ (by rw[kB];simp[maxLen];omega));generalize (x1.slice (σ ⟨go,0,ν⟩) (de (e3 ai z) (q:Int)).length (de (e3 ai z) (q:Int)).length)=cU at*;have dS:=aU.size;have dT:=X.size;have dU:=bp.size;have lo:=cb.lt;have cV:af S O cS:=aU.F ((X.F bp).V S);have f:=facts cV;rw[aD Ψ (f.2.1.cell rfl),aY aq.u f.2.2.2.2.2.1];refine bZ.range z.length (λj aV=>Ext cQ aV/\∃y:Λ,y.length=z.length/\aA .i64 aj aV go cU y/\∀(i:Nat)(p:Int),i<j->z[i]?=σ p->y[p.toNat]?=x[i]?) Ω
     ⟨bp,_,by simp[b9,x],cT,λi p hi=>Ω⟩ ?_ ?_
    .rintro j aV Z bc ⟨aw,y,bt,aW,bx⟩ ad;simp only[aR,ak];refine⟨λ_=>?_,λh=>Ω⟩;have f:=facts (aU.F ((X.F aw).V S));obtain⟨p,aZ⟩:=aF (l:=z) bc;obtain⟨u,hu⟩:=aF (l:=x) (i:=j) Ω;have dV:=(E.2 j p aZ).1;rw[bi aq.u aj.i Ψ f.2.2.2.2.2.1 aZ,bi aq.u aj.i Ψ (ca.W aw).ls hu,jB (i:=p.toNat) Ω aq.u aj.i aW Ω];refine jC aj.i aW Ω λdW cW dX cX=>?_;simp only[aO];refine ad _ ⟨aw.then cW (by rintro r M rfl;omega),_,by simpa using bt,cX,λi a1 hi ay=>?_⟩;by_cases cc:i=j
     .subst cc;rw[aZ]at ay;cases ay;rw[l9 Ω,hu]
     .have dY:=(E.2 i a1 ay).1;have ah:p.toNat≠a1.toNat:=λhe=>by
       have:p=a1:=Ω
       subst this;exact cc (E.inj ay aZ)
      rw[Z9 ah];exact bx i a1 Ω ay
    .rintro aV Z ⟨aw,y,bt,aW,bx⟩;simp only[aR,ak];refine⟨λh=>Ω,λ_ cY cd _ _=>?_⟩;have ae:=Cr E (by rw[b9,bf]) (by rw[bt,bf]) λi p ce=>bx i p (x5.1 ce).1 ce;have cf:=aw.F cd;have cg:af S O cY:=aU.F ((X.F cf).V S);obtain⟨f1,f2,f3,f4,f5,f6,f7,f8,f9⟩:=facts cg;rw[aD Ψ (f3.cell rfl),aG cZ.p 2 f4 rfl,aD Ψ (f1.cell rfl)];refine(w2 f5 (aW.ls.W cd)).Y ?_;rintro _ dZ _ ⟨rfl,bz⟩;refine⟨.inl bz,?_⟩;obtain⟨e,he⟩:=xL ai y cs;rw[he,bu,bw];have c1:=cg.F (bz.V S);have ch:=(cP.W ((X.F cf).F bz));have cG:(upto W 0 q).length=N:=by rw[rD,bl]
     rw[jB rfl ax.u au.i ch Ω];refine jC au.i ch Ω λc2 c3 ea ci=>?_;have cj:af S O c2:=c1.F (c3.Y λr _ h=>h);obtain⟨f1,f2,f3,f4,f5,f6,f7,f8,f9⟩:=facts cj;have c4:W[q]?=σ (br ai cs y):=by
      simp only[W,ps];rw[v8,List.getElem?_range (by rw[aN];exact ao),ae];rfl
     rw[rG c4]at ci;exact⟨⟨f8,f7.ls,f9⟩,⟨cj,ci⟩,λh=>by cases h⟩
   .rintro q eb ao ⟨bC,bE⟩;rw[show q=N from ao]at bE;have f:=facts bC;rw[aD Ψ (f.2.2.1.cell rfl)];intro ec bG _;obtain⟨f1,f2,f3,f4,f5,f6,f7,f8,f9⟩:=facts (bC.F (bG.V S));rw[<-bl,rF]at bE;have bm:=(an.F bY).F H;refine⟨(bm.put bC Ω).F bG,λc5=>m6 E c5,λ_=>⟨ap,G,R,rfl,⟨bk,b1,f4,f7,bE.W bG⟩,⟨b4,b5,bT⟩,aK,Ct _ _ _⟩⟩
def iw(l:Λ):Prop:=∀(i j:Nat)(x y:Int),i<j->l[i]?=σ x->l[j]?=σ y->x<y
theorem iw.inj(h:iw l){i:Nat}{x:Int}(hi:l[i]?=σ x)(a:l[j]?=σ x):i=j:=by
 rcases Nat.lt_trichotomy i j with h1|h1|h1
 .have:=h i j x x h1 hi a;omega
 .exact h1
 .have:=h j i x x h1 a hi;omega
def dedup(l:Λ):Nat->Λ
 |0=>[]
 |j+1=>if 0<j/\l[j]?=l[j-1]? then dedup l j else dedup l j++[l.getD j 0]
theorem DW(l:Λ):∀j,(dedup l j).length<=j
 |0=>p8 _
 |j+1=>by
  have:=DW l j;unfold dedup;split
  .omega
  .simp;omega
theorem xN(a:0<j)(h:l[j]?=l[j-1]?):dedup l (j+1)=dedup l j:=by
 rw[dedup,m3 ⟨a,h⟩]
theorem xO{x:Int}(e:l[j]?=σ x)(h:0<j->l[j]? ≠l[j-1]?):dedup l (j+1)=dedup l j++[x]:=by
 rw[dedup,m5 (λa=>h a.1 a.2),u4,e];rfl
theorem uP{l:Λ}:∀{j:Nat},j<=l.length->(∀i,i<j->0<i->l[i]? ≠l[i-1]?)->dedup l j=l.take j
 |0,_,_=>by simp[dedup]
 |j+1,f,h=>by
  have a:l[j]?=σ l[j]:=x7 Ω;rw[xO a (h j Ω),uP Ω (λi hi e=>h i Ω e),r8,a];rfl
theorem DX{l:Λ}(J:l.Pairwise (·<= ·)):∀{j:Nat},j<=l.length->(iw (dedup l j)/\∀x,x∈dedup l j↔x∈l.take j)
 |0,_=>⟨λi j x y _ h=>by simp[dedup]at h,λx=>by simp[dedup]⟩
 |j+1,I=>by
  obtain⟨h1,q⟩:=DX J (j:=j) Ω;have f:l[j]?=σ l[j]:=x7 Ω;by_cases p:0<j/\l[j]?=l[j-1]?
  .rw[xN p.1 p.2];refine⟨h1,λx=>?_⟩;rw[q,r8,f];simp only[o9,j4,j6];refine⟨.inl,λh=>h.elim id λhe=>?_⟩;subst he;have s:(l.take j)[j-1]?=σ l[j]:=by rw[Y7 Ω,<-p.2,f]
   exact x6 s
  .have w:0<j->l[j]? ≠l[j-1]?:=λB he=>p ⟨B,he⟩;rw[xO f w];have C:∀x∈dedup l j,x<l[j]:=λx E=>by
    obtain⟨i,hi,he⟩:=List.getElem_of_mem ((q x).1 E);have K:i<j:=by rw[o8]at hi;omega
    rw[List.getElem_take]at he;subst he;have s:l[i]<=l[j-1]:=by
     by_cases z:i=j-1
     .subst z;exact S8 _
     .exact U8.1 J i (j-1) Ω Ω Ω
    have z:=U8.1 J (j-1) j Ω Ω Ω;have A:=w Ω;rw[f,x7 (show j-1<l.length by omega)]at A;have L:l[j]≠l[j-1]:=λh=>A (by rw[h]);omega
   refine⟨λa b x y F r e=>?_,λx=>?_⟩
   .have G:=(x5.1 e).1;simp only[r9,Z4,Q7]at G;rw[Y2 Ω]at r;by_cases H:b=(dedup l j).length
    .subst H;rw[Z7 (p8 _),W8]at e;simp at e;subst e;exact C x (x6 r)
    .rw[Y2 Ω]at e;exact h1 a b x y F r e
   .rw[r8,f];simp only[o9,j4,j6,q]
def r5(l:Λ):Prop:=∀(j:Nat)(x:Int),l[j]?=σ x->0<=x/\(0<j->∀y,l[j-1]?=σ y->y<x)
theorem r5.up(h:r5 l):iw l:=by
 intro i j x y r f;induction j generalizing y with
 |zero=>omega
 |succ j p=>
  intro e;have s:=(x5.1 e).1;obtain⟨z,a⟩:∃z,l[j]?=σ z:=⟨_,x7 (show j<l.length by omega)⟩;have h1:=(h (j+1) y e).2 Ω z (by simpa using a);by_cases q:i=j
  .subst q;rw[f]at a;cases a;exact h1
  .have:=p z Ω a;omega
theorem OI(h:iw l)(e:∀x∈l,0<=x):r5 l:=λj x a=>⟨e x (x6 a),λp y f=>h (j-1) j y x Ω f a⟩
theorem DY{g H:Nat}{cL:x1}{cs:Λ}(h:dj w g H sv ai k cs)(a:aM .i64 w cL l):
  al x8 Ko [Γ g,cL] w λv I=>Ext w I/\∃c,v= .bool c/\(c=ro↔l.length=ai.length/\r5 l):=by
 obtain⟨⟨a7,gs,J,hm,q⟩,_⟩:=h;have sub:w.rangeAt g (0+0) [sv]:=pj J (by
  intro j v r
  match j,r with
  |0,r=>exact r)
 refine aB func238 ?_;rw[aY aq.u a,bL,aT cZ.p rfl,bA (cs:=[sv]) bD.p bD.i rfl sub];refine(CN hm.ls).Y ?_;rintro _ U _ ⟨rfl,s⟩;simp only[bF,ak];refine⟨λK=>⟨s,rs,rfl,(λh=>by cases h),λh=>m6 (by rw[h.1]) K⟩,λE=>?_⟩;have E:l.length=ai.length:=Ω
 rw[aY aq.u (a.W s)];refine cb.range l.length (λi _ aa=>Ext w aa/\∀(j:Nat)(x:Int),j<i->l[j]?=σ x->0<=x/\(0<j->∀y,l[j-1]?=σ y->y<x)) a.le ⟨s,λj x L=>Ω⟩ ?_ ?_
 .rintro i _ aa M hi ⟨e,z⟩ N;simp only[aR,ak];refine⟨λ_=>?_,λh=>Ω⟩;obtain⟨x,f⟩:=aF (l:=l) hi;have V:=a.le;rw[bi aq.u aj.i Ψ (a.W e) f];refine aV (λv O=>aa=O/\∃c,v= .bool c/\(c=rs↔0<=x/\(0<i->∀y,l[i-1]?=σ y->y<x))) ?_ ?_
  .rintro _ _ ⟨rfl,c,rfl,q⟩;rw[bY];simp only[aO];refine⟨λP=>⟨e,rs,rfl,(λh=>by cases h),λh=>?_⟩,λQ=>N _ _ ⟨e,λj R L A=>?_⟩⟩
   .have:=q.2 (h.2 i x f);rw[P]at this;cases this
   .by_cases S:j=i
    .subst S;rw[f]at A;cases A;exact q.1 Q
    .exact z j R Ω A
  .intro ay B;simp only[aR,bO,dp,ak];refine⟨λW=>B _ _ ⟨rfl,ro,rfl,(λh=>by cases h),λh=>Ω⟩,λX=>⟨λY=>?_,λZ=>B _ _ ⟨rfl,rs,rfl,λ_=>⟨Ω,λh=>Ω⟩,λ_=>rfl⟩⟩⟩;obtain⟨y,C⟩:∃y,l[i-1]?=σ y:=⟨_,x7 (show i-1<l.length by omega)⟩;rw[li Ω Ω,gI (i:=i-1) Ω aq.u aj.i Ψ (a.W e) C];simp only[cH];refine B _ _ ⟨rfl,_,rfl,?_⟩;rw[decide_eq_false_iff_not];refine⟨λh=>⟨Ω,λ_ ab G=>by rw[C]at G;cases G;omega⟩,λh=>by have:=h.2 Ω y C;omega⟩
 .rintro _ aa M ⟨e,z⟩;simp only[aR,ak];exact⟨λh=>Ω,λ_=>⟨e,ro,rfl,λ_=>⟨E,λj x f=>z j x (x5.1 f).1 f⟩,λ_=>rfl⟩⟩
def iW(l:Λ)(x:Int):Int:=if x∈l then(l.idxOf x:Int)else-1
theorem DZ{i:Nat}{x:Int}(h:iw l)(hi:l[i]?=σ x):iW l x=i:=by
 have hm:x∈l:=x6 hi;have a:=List.idxOf_lt_length_of_mem hm;have e:=h.inj (by rw[x7 a,List.getElem_idxOf a]) hi;unfold iW;rw[m3 hm,e]
theorem OJ{x:Int}(h:x∉l):iW l x= -1:=m5 h
theorem xP{x:Int}(h:aM .i64 w sv l)(hu:iw l):
  al x8 A6 [sv,Δ x] w λv I=>v=Δ (iW l x)/\Ext w I:=by
 refine aB func236 ?_;rw[aY aq.u h];refine cb.range l.length (λi _ U=>Ext w U/\∀j,j<i->l[j]? ≠σ x) h.le ⟨Ext.refl _,λj p=>Ω⟩ ?_ ?_
 .rintro i _ U k hi ⟨a,e⟩ hk;simp only[aR,ak];refine⟨λ_=>?_,λh=>Ω⟩;obtain⟨y,f⟩:=aF (l:=l) hi;rw[bi aq.u aj.i Ψ (h.W a) f];simp only[bk,ak,aO];refine⟨λhe=>⟨?_,a⟩,λhe=>hk _ _ ⟨a,λj p=>?_⟩⟩
  .subst he;rw[DZ hu f]
  .by_cases q:j=i
   .subst q;rw[f];intro h;exact he (Z6 h).symm
   .exact e j Ω
 .rintro _ U k ⟨a,e⟩;simp only[aR,ak];refine⟨λh=>Ω,λ_=>⟨?_,a⟩⟩;rw[OJ];intro hm;obtain⟨i,hi,he⟩:=List.getElem_of_mem hm;exact e i hi (by rw[x7 hi,he])
def gp(x d6 scope:Λ):Λ:=scope.map λp=>x.getD (d6.idxOf p) 0
theorem OK(x d6 scope:Λ):(gp x d6 scope).length=scope.length:=by simp[gp]
theorem D0{dD q:x1}{x d6:Λ}(B:aM .i64 w dD x)(C:aM .i64 w q d6)(J:aM .i64 w sv scope)(hu:iw d6)(E:∀p∈scope,p∈d6)(P:x.length=d6.length)(Q:scope.length<=1000):
  al x8 Kt [dD,q,sv] w λv I=>Ext w I/\∃g,w.heap.size<=g/\aA .i64 aj I g v (gp x d6 scope):=by
 refine aB func243 ?_;rw[aY aq.u J];refine k3 aq.u aj.i Ω Ω λgz U R s G=>?_;have H:=aA.of (n:=scope.length) (b0.full G Ξ (by simp[maxLen];omega));generalize (x1.slice (σ ⟨gz,0,ν⟩) scope.length scope.length)=K at*;rw[aY aq.u (J.W s)];have j:=OK x d6 scope;refine bZ.range scope.length (λi aa=>Ext w aa/\aA .i64 aj aa gz K (upto (gp x d6 scope) 0 i)) Ω ⟨s,by rw[rE,j];exact H⟩ ?_ ?_
 .rintro i aa L hi ⟨a,hm⟩ M;simp only[aR,ak];refine⟨λ_=>?_,λh=>Ω⟩;obtain⟨p,ac⟩:=aF (l:=scope) hi;have y:=E p (x6 ac);have S:=List.idxOf_lt_length_of_mem y;rw[bi aq.u aj.i Ψ (J.W a) ac];refine(xP (C.W a) hu).Y ?_;rintro _ V _ ⟨rfl,f⟩;have e:iW d6 p=(d6.idxOf p:Int):=m3 y;obtain⟨u,z⟩:∃u,x[d6.idxOf p]?=σ u:=⟨_,x7 Ω⟩;have W:(upto (gp x d6 scope) 0 i).length=scope.length:=by rw[rD,j]
  rw[gI (i:=d6.idxOf p) e aq.u aj.i Ψ (B.W (a.F f)) z,jB rfl aq.u aj.i (hm.W f) Ω];refine jC aj.i (hm.W f) Ω λX N _ A=>?_;simp only[aO];have O:(gp x d6 scope)[i]?=σ u:=by
   unfold gp;rw[v8,ac,Y3,u4,z];rfl
  rw[rG O]at A;exact M _ ⟨(a.F f).then N (by rintro r Y rfl;omega),A⟩
 .rintro aa L ⟨a,hm⟩;simp only[aR,ak];refine⟨λh=>Ω,λ_=>⟨a,gz,Ω,?_⟩⟩;rw[<-j,rF]at hm;exact hm
theorem D1(j:t≠[])(hw:∀b∈t,bT b=ro):lex t=([t],ro):=by
 cases t with
 |nil=>exact m6 rfl j
 |cons b q=>
  have a:q.dropWhile bT=[]:=by
   have:∀(q:Λ),(∀x∈q,bT x=ro)->q.dropWhile bT=[]/\q.takeWhile bT=q:=λq a=>by
    induction q with
    |nil=>simp
    |cons x q e=>
     have:=e λy f=>a y (.tail _ f);simp[a x (.head _),this.1,this.2]
   exact(this q λx h=>hw x (.tail _ h)).1
  have p:q.takeWhile bT=q:=by
   have:∀(q:Λ),(∀x∈q,bT x=ro)->q.takeWhile bT=q:=λq a=>by
    induction q with
    |nil=>simp
    |cons x q e=>simp[a x (.head _),e λy f=>a y (.tail _ f)]
   exact this q λx h=>hw x (.tail _ h)
  rw[BS (hw b (.head _)),a,p]
theorem D2{p:x1}(h:aM .u8 w p l)(e:Bytes l)(f:l.length<=100000):al x8 AL [p] w λv I=>Ext w I/\∃g R,v=Γ g/\w.heap.size<=g/\iP I g R (lex l).1 (lex l).2/\¬R g:=by
 refine(B1 h e f).Y ?_;rintro _ U _ ⟨j,g,rfl,q,s,a⟩;obtain⟨h1,z,A,x,ba,hm⟩:=id a;exact⟨j,g,λr=>r≠g,rfl,q,⟨s,l,0,a,λr y=>b8 hm x Φ y,by rw[List.drop_zero]⟩,λh=>h rfl⟩
theorem OL{p:x1}(h:aM .u8 w p t)(x:Bytes t)(y:t.length<=100000)(z:t≠[])(hw:∀b∈t,bT b=ro):al x8 KF [p] w λv I=>Ext w I/\∃n:Int,v= .tuple #[Δ 1,Δ n,Δ 0]:=by
 have A:=D1 z hw;refine aB func266 ?_;refine(D2 h x y).Y ?_;rintro _ U _ ⟨B,g,R,rfl,G,j,H⟩;rw[A]at j;refine⟨λ_ _ _ a aa=>af (λr=>r=g) U aa/\((a=Δ 0/\iP aa g R [t] ro)\/(a=Δ 1/\iP aa g R [] ro)),λ_ _ _ a _=>1-(bU a).toNat,⟨af.refl _ _,.inl ⟨rfl,j⟩⟩,?_⟩;rintro _ _ _ _ aa ⟨q,⟨rfl,e⟩|⟨rfl,e⟩⟩
 .refine (rJ e).Y ?_;rintro v C _ ⟨f,E,n,rfl⟩;rw[fQ,fR,fS,bk,ak];refine⟨λ_=>?_,λh=>m6 rfl h⟩;rw[aO,li Ω Ω];exact⟨⟨q.F f,.inr ⟨rfl,E⟩⟩,by simp[bU]⟩
 .refine (rJ e).Y ?_;rintro v C _ ⟨f,n,rfl⟩;rw[fQ,fR,fS,bk,ak];refine⟨λh=>by simp at h,λ_=>?_⟩;rw[bk,ak];refine⟨λh=>by simp at h,λ_=>?_⟩;have s:=B.then (q.F f) (λr J he=>by have he:r=g:=he;omega);rw[aY cQ.u (h.W s)];exact⟨s,_,rfl⟩
theorem OM(a:Bytes t)(e:t.length<=100000)(f:t≠[])(hw:∀b∈t,bT b=ro):al x8 Ki [b6 t] w λv I=>v= .bool ro/\Ext w I:=by
 have x:=D1 f hw;refine aB func228 ?_;refine w8 c6.u cQ.u cK.u a Ω λbv U j y _=>?_;refine(OL y a e f hw).Y ?_;rintro _ aa _ ⟨p,n,rfl⟩;rw[fQ,fR,fS];refine w8 c6.u cQ.u cK.u a Ω λJ K q z _=>?_;refine(D2 z a e).Y ?_;rintro _ L _ ⟨A,g,R,rfl,M,s,N⟩;rw[x]at s;refine(rJ s).Y ?_;rintro _ B _ ⟨C,_,m,rfl⟩;rw[fQ,fR,fS];have E:=(((j.F p).F (q.F A))).then C (λr O he=>by
  have he:r=g:=he;have:=j.size;have:=p.size;have:=q.size;omega)
 refine aV (λv G=>B=G/\v= .bool ro) ?_ ?_
 .rintro _ _ ⟨rfl,rfl⟩;exact⟨rfl,E⟩
 .intro ay H;rw[bk,ak];refine⟨λ_=>?_,λh=>m6 rfl h⟩;rw[bk,ak];refine⟨λ_=>?_,λh=>m6 rfl h⟩;rw[BO a a];exact H _ _ ⟨rfl,by rw[m7 rfl]⟩
theorem ON{x:Int}:al x8 wL [Δ x] w λv I=>v= .bool (decide (¬jz x))/\Ext w I:=by
 refine aB func227 ?_;refine aV (λv U=>w=U/\v= .bool (decide (¬jz x))) ?_ ?_
 .rintro _ _ ⟨rfl,rfl⟩;exact⟨rfl,Ext.refl _⟩
 .intro ay e;rw[aR,ak];refine⟨λh=>e _ _ ⟨rfl,by rw[m7];intro a;have:=a.1;omega⟩,λh=>?_⟩;rw[bO];refine e _ _ ⟨rfl,?_⟩;congr 1;rw[U9,ne,ne];exact⟨λf a=>by have:=a.2;omega,λf=>by
   by_cases j:32<x
   .exact j
   .exact m6 ⟨Ω,Ω⟩ f⟩
theorem OO(h:aM .i64 w sv l)(f:∀x∈l,jz x):
  al x8 wK [sv,.func (.func wL) #[] #[]] w λv I=>v= .bool rs/\Ext w I:=by
 refine aB func225 ?_;refine al.Y (K:=λv I=>v=Δ (-1)/\Ext w I) ?_ ?_
 .refine aB func139 ?_;rw[aY aq.u h];refine cb.range l.length (λ_ _ U=>Ext w U) h.le (Ext.refl _) ?_ ?_
  .rintro i _ U k hi a hk;refine bI Ω ?_;obtain⟨x,e⟩:=aF (l:=l) hi;rw[bi aq.u aj.i Ψ (h.W a) e];show al x8 wL [Δ x] U _;refine ON.Y ?_;rintro _ aa _ ⟨rfl,j⟩;rw[ak];refine⟨λp=>m6 (f x (x6 e)) p,λ_=>?_⟩;rw[aO];exact hk _ _ (a.F j)
  .rintro _ U k a;rw[aR,ak];exact⟨λh=>Ω,λ_=>⟨rfl,a⟩⟩
 .rintro _ U _ ⟨rfl,a⟩;rw[cH];exact⟨rfl,a⟩
theorem uQ{m:Bool}{S R:ah}{d:iv}(h:av.rep m S R w cs d):∃sv g a aS gs,cs=[sv,Γ g]/\aM .i64 w sv d.1/\gn w g a aS gs d.2.ai d.2.k d.2.o d.2.D:=by
 obtain⟨c,e,A,B,rfl,_,_,_,h1,f⟩:=h;have h1:=h1;obtain⟨u,rfl⟩:=V6.1 (show c.length=1 from av.len h1);obtain⟨g,m,sv,gs,rfl,j,_⟩:=f;exact⟨u,g,m,sv,gs,rfl,dQ h1,j⟩
theorem OP{W:Nat}{f:b5}{d:iv}{x:cA}{m:Bool}{S R:ah}(am:mD w W f)(ao:fp N f)(ap:x∈f.d7)(au:r4 f.k x d)(aw:av.rep m S R w cs d):
  al x8 KG [Γ W,.agg cs.toArray] w λv I=>v= .bool ro/\Ext w I:=by
 obtain⟨d9,aM,gz,aN,X,Y,_,_⟩:=am;obtain⟨sv,ae,aP,aS,gs,rfl,s,K⟩:=uQ aw;obtain⟨ax,Z,az,aQ,aT,aU⟩:=au;obtain⟨G,aW,aZ⟩:=ao.d7 x ap;rw[ax]at s;refine aB func268 ?_;refine bo λan U a1 A H=>?_;have H:ag U an cJ [sv,Γ ae]:=by obtain⟨_,_,_,rfl⟩:=dr s;exact H
 refine aV (λv aa=>Ext U aa/\v= .bool rs) ?_ ?_
 rotate_left
 .intro ay L;intro aa q _ _;have z:=H.W q;rw[aL cJ.p 1 z rfl,cR e1.u];simp only[Z3,aX];rw[aL cJ.p 1 z rfl,aG cF.p 1 (X.W (A.F q)) rfl];refine(M0 (K.W (A.F q)).is).Y ?_;rintro _ B _ ⟨rfl,a⟩;refine⟨.inl a,?_⟩;rw[bF,ak];refine⟨λh=>m6 az h,λ_=>?_⟩;have C:=z.W a;have M:=q.F a;rw[aL cJ.p 1 C rfl,aL cJ.p 0 C rfl,aY aq.u (s.W (A.F M))];refine(M1 (K.W (A.F M)).is).Y ?_;rintro _ J _ ⟨rfl,e⟩;refine⟨.inl e,?_⟩;rw[bF];refine L _ _ ⟨M.F e,?_⟩;rw[ms];intro h;exact h (by rw[Z,G.co,u9])
 rintro _ aa ⟨q,rfl⟩;rw[aX];have z:=H.W q;have O:=A.F q;rw[aL cJ.p 0 z rfl,aY aq.u (s.W O)];refine cb.range x.scope.length (λ_ _ B=>Ext aa B) Ω (Ext.refl _) ?_ ?_
 rotate_left
 .rintro _ B k a;rw[aR,ak];exact⟨λh=>Ω,λ_=>⟨rfl,O.F a⟩⟩
 rintro i _ B k hi a hk;obtain⟨v,E⟩:=aF (l:=x.scope) hi;have a2:=G.scope.2 v (x6 E);have P:=O.F a;have C:=z.W a;have ab:=X.W P;have aA:f.co[v.toNat]?=σ (f.co.getD v.toNat 0):=by
  rw[u4,x7 Ω];rfl
 refine bI Ω ?_;rw[bi aq.u aj.i Ψ (s.W P) E];refine aV (λb J=>Ext B J/\b= .bool rs) ?_ ?_
 .rintro _ J ⟨e,rfl⟩;rw[aX,aO];exact hk _ _ (a.F e)
 .intro ay L;intro J e _ _;have Q:=P.F e;refine cc Ω ?_;rw[aG cF.p 2 (ab.W e) rfl,aY aq.u (Y.ls.W Q),cH,ak];refine⟨λh=>Ω,λ_=>?_⟩;rw[aL cJ.p 0 (C.W e) rfl];refine(DV (s.W Q)).Y ?_;rintro _ a6 _ ⟨ac,r,rfl,aC⟩;have aE:r=(i:Int):=(aC i E).2 λj a7 aH=>by have:=lU G.scope.1 aH E;omega
  subst aE;have ad:=Q.F ac;have V:=e.F ac;rw[bF,ak];refine⟨λh=>m6 rfl h,λ_=>?_⟩;rw[aL cJ.p 1 (C.W V) rfl,aG cF.p 2 (ab.W V) rfl];refine qm (y:=v) (i:=v.toNat) Ω aq.u aj.i (Y.ls.W ad) aA λb o aI=>?_;rw[aD Ψ aI];refine(xu (K.W ad).is).Y ?_;rintro a8 ba _ ⟨af,bb,bc,aJ⟩;refine⟨.inl af,?_⟩;have aK:d.2.ai[i]?=σ (f.co.getD v.toNat 0):=by
   rw[Z,G.co,v8,E];rfl
  rw[bi aq.u aj.i Ψ aJ.ls aK,bF];exact L _ _ ⟨V.F af,by rw[ms (λh=>h rfl)]⟩
theorem OQ{f:b5}{d:iv}{x:cA}{m:Bool}{S R:ah}(q:mD w j f)(r:fp N f)(s:x∈f.d7)(y:r4 f.k x d)(a:av.rep m S R w cs d):
  al x8 wM [Γ j,.agg cs.toArray] w λv I=>v= .bool rs/\Ext w I:=by
 refine aB func231 ?_;refine bo λan U C e h=>?_;have z:cs.length=2:=av.len a;have h:ag U an cJ cs:=by
  obtain⟨sv,ae,E,aS,gs,rfl,A,G⟩:=uQ a;obtain⟨_,_,_,rfl⟩:=dr A;exact h
 rw[bA cJ.p cJ.i z h.range];refine(OP (q.W e) r s y (bS a e)).Y ?_;rintro _ aa _ ⟨rfl,B⟩;rw[bC];exact⟨rfl,e.F B⟩
theorem OR{f:b5}{r:x1}{e:List iv}{m:Bool}{S R:ah}(A:mD w j f)(B:fp N f)(q:av.rep m S R w [r] e)(s:uO f.k f.d7 e):
  al x8 Kk [r,.func (.func wM) #[Γ j] #[]] w λv I=>v= .bool rs/\Ext w I:=by
 refine aB func230 ?_;refine al.Y (K:=λv I=>v=Δ (-1)/\Ext w I) ?_ ?_
 .refine aB func267 ?_;rw[ka dP.u q];refine cb.range e.length (λ_ _ U=>Ext w U) (tK q) (Ext.refl _) ?_ ?_
  .rintro i _ U k hi a hk;refine bI Ω ?_;obtain⟨d,y⟩:=aF (l:=e) hi;obtain⟨x,z⟩:∃x,f.d7[i]?=σ x:=⟨_,x7 (by have:=s.1;omega)⟩;refine n2 (α:=iv) cJ.p rfl dP.u cJ.i (bS q a) y λcs C=>?_;show al x8 wM [Γ j,.agg cs.toArray] U _;refine(OQ (A.W a) B (x6 z) (s.2 i x d z y) C).Y ?_;rintro _ aa _ ⟨rfl,E⟩;rw[aX,aO];exact hk _ _ (a.F E)
  .rintro _ U k a;rw[aR,ak];exact⟨λh=>Ω,λ_=>⟨rfl,a⟩⟩
 .rintro _ U _ ⟨rfl,a⟩;rw[cH];exact⟨rfl,a⟩
def nA(a:List cA):Nat:=(a.map λx=>x.lines.length).sum
theorem OS{af:Nat}{f:b5}(ag:mD w af f)(r:fp N f)(be:N<=60000)(V:f.name≠[]/\∀b∈f.name,bT b=ro):
  al x8 JN [Γ af] w λv I=>Ext w I/\∃e:Int,v=Δ e/\(nA f.d7<=16384->e=0):=by
 obtain⟨d9,bf,gz,y,A,W,X,B⟩:=id ag;have bg:=r.name;have aD:Bytes f.name:=λb aE=>by
  have:=rc (V.2 b aE);omega
 refine aB func182 ?_;rw[cR wO.u];simp only[Z3,aX];refine aV (λv U=>Ext w U/\v= .bool rs) ?_ ?_
 rotate_left
 .intro ay s;rw[aG cF.p 0 A rfl];refine(OM aD Ω V.1 V.2).Y ?_;rintro _ U _ ⟨rfl,q⟩;rw[bC,X1,aX];rw[aG cF.p 2 (A.W q) rfl,aY aq.u (W.ls.W q),bk,ak];refine⟨λh=>by have:=r.co.1;omega,λ_=>?_⟩;rw[aG cF.p 2 (A.W q) rfl];refine(OO (W.ls.W q) r.co.2.2).Y ?_;rintro _ aa _ ⟨rfl,C⟩;have ah:=q.F C;rw[aX,aG cF.p 1 (A.W ah) rfl];refine Bu.Y ?_;rintro _ E _ ⟨rfl,G⟩;have M:=ah.F G;rw[m7 (show right f.k from r.k),bC,X1,aX,aG cF.p 3 (A.W M) rfl,lK];refine(OR (ag.W M) r (bS X M) B).Y ?_;rintro _ am _ ⟨rfl,aH⟩;exact s _ _ ⟨M.F aH,rfl⟩
 rintro _ U ⟨q,rfl⟩;rw[aX];have O:=A.W q;refine aV (λv aa=>U=aa/\v= .bool rs) ?_ ?_
 rotate_left
 .intro ay s;rw[aG cF.p 0 O rfl,po c6.u,bO,ak];refine⟨λh=>Ω,λ_=>?_⟩;rw[aG cF.p 2 O rfl,aY aq.u (W.ls.W q),bO,ak];refine⟨λh=>by have:=r.co.2.1;omega,λ_=>?_⟩;rw[aG cF.p 3 O rfl,ka dP.u (bS X q),bO];exact s _ _ ⟨rfl,by rw[ms];have:=r.mw;have:=B.1;omega⟩
 rintro _ _ ⟨rfl,rfl⟩;have ao:=bS X q;rw[aG cF.p 3 O rfl,ka dP.u ao];refine⟨λaI aJ Y aa=>∃i n:Nat,Y=Δ (i:Int)/\i<=y.length/\aI=Δ (n:Int)/\aJ= .bool rs/\Ext U aa/\n<=nA (f.d7.take i)/\n<=i*60000,λ_ _ Y _=>y.length-(bU Y).toNat,
  ⟨0,0,rfl,X7 _,rfl,rfl,Ext.refl _,X7 _,Ω⟩,?_⟩
 rintro _ _ _ aa ⟨i,n,rfl,hi,rfl,rfl,C,aK,bh⟩;have bj:y.length<=256:=by rw[B.1];exact r.mw
 rw[aR,ak];refine⟨λap=>?_,λbl=>?_⟩
 .have ap:i<y.length:=Ω
  obtain⟨d,av⟩:=aF (l:=y) ap;obtain⟨x,Z⟩:∃x,f.d7[i]?=σ x:=⟨_,x7 (by have:=B.1;omega)⟩;have P:=B.2 i x d Z av;obtain⟨Q,aM,aN⟩:=r.d7 x (x6 Z);have bm:=Q.len;refine jv (λa b E=>Ext aa E/\a=Δ ((n+d.2.D.length:Nat):Int)/\b= .bool rs) ?_ ?_
  .rintro _ _ E ⟨G,rfl,rfl⟩;rw[aO,li Ω Ω];have aP:=P.2.2.2.2.1;refine⟨⟨i+1,n+d.2.D.length,rfl,Ω,rfl,rfl,C.F G,?_,?_⟩,by simp only[bU];omega⟩
   .have e:nA (f.d7.take (i+1))=nA (f.d7.take i)+x.lines.length:=by
     unfold nA;rw[r8,Z,o9,Z5,List.sum_append,T3,List.map_nil,Q2,List.sum_nil,Nat.add_zero]
    omega
   .have:(i+1)*60000=i*60000+60000:=Ω
    have bn:d.2.D.length<=60000:=Ω
    omega
  .intro ay s;refine n2 (α:=iv) cJ.p rfl dP.u cJ.i (bS ao C) av λcs aQ=>?_;obtain⟨sv,ae,bo,aS,gs,rfl,aT,aw⟩:=uQ aQ;refine bB cJ.i λan E bp G aU=>?_;refine b4 (vs:=[sv,Γ ae]) cJ.i rfl rfl (by intro v R;simp at R;rcases R with rfl|rfl<;>first|exact aT.cells.2|rfl) aU λam aW bq az=>?_;have ab:Ext aa am:=G.put aW Ω;rw[aL cJ.p 1 az rfl];refine(MZ (aw.W ab).is).Y ?_;rintro _ br _ ⟨rfl,ac⟩;have aP:=P.2.2.2.2.1;rw[aO,li Ω Ω,aL cJ.p 1 (az.W ac) rfl];refine(xu ((aw.W ab).W ac).is).Y ?_;rintro bs ad _ ⟨aZ,bt,bu,aC⟩;rw[aY aq.u aC.ls];have bw:d.2.ai.length<=6:=by rw[P.2.1,Q.co,u9];exact aM
   refine cb.range d.2.ai.length (λj out S=>Ext ad S/\∃gr,ad.heap.size<=gr/\aA .i64 au S gr out (d.2.ai.take j)) Ω ⟨Ext.refl _,ad.heap.size,p8 _,aA.nil _ _ _ _⟩ ?_ ?_
   .rintro j out S k a1 ⟨H,gr,a2,J⟩ hk;obtain⟨z,K⟩:=aF (l:=d.2.ai) a1;refine bI Ω ?_;rw[bi aq.u aj.i Ψ (aC.ls.W H) K];refine eB ax.u au.i rfl λa ga a6 bx L a7=>?_;refine kx ax.u au.i rfl (J.W L) a7.ls Θ Θ λbz a8 bA bD ba bb=>?_;have bE:=H.size;have bF:=L.size;rw[aO];refine hk _ _ ⟨(H.F L).put bb Ω,a8,Ω,?_⟩;rw[r8,K];exact ba
   .rintro out S k ⟨H,gr,a2,J⟩;rw[o6]at J;refine cc Ω ?_;rw[aX];have bc:d.2.ai=x.co:=P.2.1;rw[bc]at J;refine(CJ J.ls λz K=>?_).Y ?_
    .rw[Q.co]at K;obtain⟨v,R,rfl⟩:=j0.1 K;have bG:=Q.scope.2 v R;refine(r.co.2.2 _ ?_).1;rw[u4,x7 Ω];exact Q4 _
    .rintro _ a6 _ ⟨rfl,L⟩;refine s _ _ _ ⟨(((ab.F ac).F aZ).F H).F L,by congr 1,by rw[aN]⟩
 .have bd:i=y.length:=Ω
  subst bd;rw[B.1,o6]at aK;refine aV (λv E=>aa=E/\v= .bool (decide (16384<(n:Int)))) ?_ ?_
  .rintro _ _ ⟨rfl,rfl⟩;rw[ak];refine⟨λh=>⟨q.F C,5,rfl,λbH=>Ω⟩,λh=>⟨q.F C,0,rfl,λ_=>rfl⟩⟩
  .intro ay s;rw[aX,bO];exact s _ _ ⟨rfl,rfl⟩
theorem uR:∀{a b:Λ}{i:Nat},(∀(j:Nat)(x y:Int),j<i->a[j]?=σ x->b[j]?=σ y->x=y)->i<=a.length->i<=b.length->jJ a b=jJ (a.drop i) (b.drop i)
 |_,_,0,_,_,_=>Ξ
 |[],_,i+1,_,h,_=>by simp at h
 |_::_,[],i+1,_,_,h=>by simp at h
 |x::a,y::b,i+1,he,h1,e=>by
  have f:=he 0 x y Ω rfl rfl;subst f;simp only[jJ,Int.lt_irrefl,if_false,List.drop_succ_cons];exact uR (λj u v q hu p=>he (j+1) u v Ω hu p) (by simpa using h1) (by simpa using e)
theorem D3{x:Int}:al x8 cmp_isNaN_int [Δ x] w λv I=>v= .bool rs/\Ext w I:=by
 refine aB func247 ?_;simp only[bF];exact⟨Ξ,Ext.refl _⟩
theorem D4{x:Int}:al x8 JU [Δ x,Δ y] w λv I=>v=Δ (if x<y then-1 else if y<x then 1 else 0)/\Ext w I:=by
 refine aB func195 ?_;refine D3.Y ?_;rintro _ U _ ⟨rfl,a⟩;refine D3.Y ?_;rintro _ aa _ ⟨rfl,e⟩;simp only[aX,aR,bO,ak];exact⟨λh=>⟨by rw[m3 h],a.F e⟩,λh=>⟨λf=>⟨by rw[m5 h,m3 f],a.F e⟩,λf=>⟨by rw[m5 h,m5 f],a.F e⟩⟩⟩
theorem OT{b:Λ}(r:aM .i64 w bm a)(z:aM .i64 w bv b):al x8 JV [bm,bv] w λv I=>v=Δ (jJ a b)/\Ext w I:=by
 refine aB func196 ?_;have Z:=r.le;rw[aY aq.u r];refine⟨λ_ A U=>∃i:Nat,A=Δ (i:Int)/\i<=a.length/\i<=b.length/\Ext w U/\∀(j:Nat)(x y:Int),j<i->a[j]?=σ x->b[j]?=σ y->x=y,λ_ A _=>a.length-(bU A).toNat,⟨0,rfl,X7 _,X7 _,Ext.refl _,λj x y O=>Ω⟩,?_⟩;rintro _ _ U ⟨i,rfl,P,Q,f,J⟩;have p:=uR J P Q;simp only[aR,ak];refine⟨λs=>?_,λab=>?_⟩
 .have s:i<a.length:=Ω
  obtain⟨x,B⟩:=aF (l:=a) s;have K:a.drop i=x::a.drop (i+1):=by rw[X8 s,(x5.1 B).2]
  rw[bi aq.u aj.i Ψ (r.W f) B,aY aq.u (z.W f)];simp only[cH,ak];refine⟨λh=>?_,λh=>?_⟩
  .have:b.drop i=[]:=by rw[List.drop_eq_nil_iff];omega
   rw[this,K]at p;exact⟨by rw[p];rfl,f⟩
  have C:i<b.length:=Ω
  obtain⟨y,E⟩:=aF (l:=b) C;have R:b.drop i=y::b.drop (i+1):=by rw[X8 C,(x5.1 E).2]
  rw[bi aq.u aj.i Ψ (z.W f) E];refine D4.Y ?_;rintro _ aa _ ⟨rfl,L⟩;rw[K,R]at p;simp only[jJ]at p;simp only[bF,ak,aO];refine⟨λM=>⟨?_,f.F L⟩,λS=>?_⟩
  .rw[p];by_cases h1:x<y
   .rw[m3 h1,m3 h1]
   .by_cases q:y<x
    .rw[m5 h1,m3 q,m5 h1,m3 q]
    .rw[m5 h1,m5 q]at M;exact m6 rfl M
  .rw[li Ω Ω];refine⟨⟨i+1,rfl,s,C,f.F L,λj V W O G H=>?_⟩,by simp only[bU];omega⟩;by_cases X:j=i
   .subst X;rw[B]at G;rw[E]at H;cases G;cases H;have N:=X5.1 S;by_cases h1:x<y
    .rw[m3 h1]at N;omega
    .by_cases q:y<x
     .rw[m5 h1,m3 q]at N;omega
     .omega
   .exact J j V W Ω G H
 .have Y:i=a.length:=Ω
  subst Y;rw[List.drop_length]at p;rw[aY aq.u (r.W f),aY aq.u (z.W f)];simp only[aR,ak];refine⟨λh=>⟨?_,f⟩,λh=>⟨?_,f⟩⟩
  .obtain⟨y,l,e⟩:∃y l,b.drop a.length=y::l:=⟨_,_,X8 Ω⟩;rw[p,e];rfl
  .have:b.drop a.length=[]:=by rw[List.drop_eq_nil_iff];omega
   rw[p,this];rfl
theorem OU{x:Int}{f:x1}(h:aM .i64 w f [x,y]):al x8 JT [f] w λv I=>v=Δ (if x≠0 then x else y)/\Ext w I:=by
 refine aB func194 ?_;rw[aY aq.u h];refine cb.range 2 (λi _ U=>Ext w U/\(1<=i->x=0)/\(2<=i->y=0)) Ω ⟨Ext.refl _,Ω,Ω⟩ ?_ ?_
 .rintro i _ U k hi ⟨a,h1,e⟩ hk;rw[aR,ak];refine⟨λ_=>?_,λh=>by simp at h;omega⟩
  match i,hi,h1,e,hk with
  |0,_,h1,e,hk=>
   rw[bi aq.u aj.i Ψ (h.W a) rfl,bF,ak];refine⟨λj=>⟨by rw[m3 j],a⟩,λhe=>?_⟩;rw[aO];exact hk _ _ ⟨a,λ_=>X5.1 he,λh=>Ω⟩
  |1,_,h1,e,hk=>
   rw[bi aq.u aj.i Ψ (h.W a) rfl,bF,ak];have p:=h1 (p8 _);refine⟨λj=>⟨by rw[m5 Ω],a⟩,λhe=>?_⟩;rw[aO];exact hk _ _ ⟨a,λ_=>p,λ_=>X5.1 he⟩
 .rintro _ U k ⟨a,h1,e⟩;have p:=h1 Ω;have q:=e Ω;rw[aR,ak];exact⟨λh=>by simp at h,λ_=>⟨by rw[m5 Ω,q],a⟩⟩
structure ct where
 sv:x1
 g:Nat
 sc:Λ
 cs:Λ
def e5(h:ct):List x1:=[h.sv,Γ h.g]
abbrev lh(h:ct):x1:=.agg (e5 h).toArray
def r6(h:ct):Int:=dk h.sc
def kf(w:x4)(a:Nat)(h:ct):Prop:=(∃e,aA .i64 aj w e h.sv h.sc)/\(∀r,lc h.sv r->r≠a)/\lf h.sc
theorem kf.V{a:Nat}{h:ct}(ao:kf w a h)(e:af S w I)(f:∀r,lc h.sv r->¬S r):kf I a h:=by
 obtain⟨⟨j,hm⟩,p⟩:=ao;exact⟨⟨j,bs hm e f⟩,p⟩
theorem kf.one{a:Nat}{h:ct}(ao:kf w a h):∀u∈e5 h,u.oneCell'=ro:=by
 obtain⟨⟨e,hm⟩,_⟩:=ao;intro u hu;simp[e5]at hu;rcases hu with rfl|rfl
 .exact hm.ls.cells.2
 .rfl
def fi(w:x4)(g:Nat)(v:x1)(L:List ct):Prop:=bh e5 2 cY w g v L/\∀h∈L,kf w g h
theorem fi.W{g:Nat}{L:List ct}(h:fi w g v L)(a:Ext w I):fi I g v L:=⟨h.1.W a,λx e=>(h.2 x e).V (a.V λ_=>False) λ_ _ h=>h⟩
theorem fi.at{g:Nat}{L:List ct}(h:fi w g v L){i:Nat}{x:ct}(hi:L[i]?=σ x):kf w g x:=h.2 x (x6 hi)
theorem uS{g:Nat}{L:List ct}{i:Nat}{x:ct}{K:x1->Prop}(a:y=(i:Int))(h:fi w g v L)(hi:L[i]?=σ x):
  ab x8 (Z0 gF v (Δ y)) w (λp=>ab x8 (u5 cY p) w K)=K (lh x):=by
 rw[b7 a gF.u cY.i h.1 (x5.1 hi).1,bA cY.p cY.i rfl (h.1.range hi)]
theorem OV{g:Nat}{L:List ct}{i:Nat}{x:ct}{K:Unit->x4->Prop}(j:y=(i:Int))(h:fi w g v L)(hi:i<L.length)(hk:kf w g x)(q:∀I,af (λr=>hp v r) w I->fi I g v (L.set i x)->K () I):ab x8 (Z0 gF v (Δ y)) w λp=>aH x8 (n9 cY p (lh x)) w K:=by
 rw[b7 j gF.u cY.i h.1 hi];refine ux cY.i h.1 rfl hk.one hi λI e _ aW=>q I e ⟨aW,λz a=>?_⟩;rcases V0 a with a|rfl
 .exact (h.2 z a).V e λr f he=>(h.2 z a).2.1 r f (h.1.lc he).1
 .exact hk.V e λr f he=>hk.2.1 r f (h.1.lc he).1
abbrev OW:x1:=.func (.func AY) #[] #[]
def xQ(a b:ct):Int:=let c:Int:=if(a.sc.length:Int)<b.sc.length then-1 else if(b.sc.length:Int)<a.sc.length then 1 else 0
 if c≠0 then c else jJ a.sc b.sc
theorem OX{a b:ct}(f:lf a.sc)(j:lf b.sc):xQ a b<0↔r6 a<r6 b:=by
 have p:=(xG f j).1;unfold r6 xQ;simp only;generalize q:(if(a.sc.length:Int)<b.sc.length then(-1:Int)else if(b.sc.length:Int)<a.sc.length then 1 else 0)=c;rw[p,<-q];by_cases h1:(a.sc.length:Int)<b.sc.length
 .rw[m3 h1,m3 Ω];exact⟨λ_=>.inl Ω,λ_=>Ω⟩
 .by_cases e:(b.sc.length:Int)<a.sc.length
  .rw[m5 h1,m3 e,m3 Ω];exact⟨λh=>Ω,λh=>by rcases h with h|h<;>omega⟩
  .rw[m5 h1,m5 e,m5 Ω];exact⟨λh=>.inr ⟨Ω,h⟩,λh=>by rcases h with h|h;omega;exact h.2⟩
theorem OY{y:Nat}{a b:ct}(A:kf w y a)(B:kf w y b):al x8 AY [lh a,lh b] w λv I=>Ext w I/\v=Δ (xQ a b):=by
 obtain⟨⟨ga,r⟩,_,L⟩:=A;obtain⟨⟨M,s⟩,_,N⟩:=B;refine aB func193 ?_;refine bo λg1 U O C h=>?_;refine bo λE aa P z j=>?_;have h:ag U g1 cY [a.sv,Γ a.g]:=by
  obtain⟨_,_,_,e⟩:=dr r.ls;simp only[lh,e5,e]at h ⊢;exact h
 have j:ag aa E cY [b.sv,Γ b.g]:=by
  obtain⟨_,_,_,e⟩:=dr s.ls;simp only[lh,e5,e]at j ⊢;exact j
 intro Q x _ _;have f:=(C.F z).F x;have f1:=(h.W z).W x;have f2:=j.W x;rw[aL cY.p 0 f1 rfl,aY aq.u (r.ls.W f),aL cY.p 0 f2 rfl,aY aq.u (s.ls.W f),
  aL cY.p 0 f1 rfl,aL cY.p 0 f2 rfl]
 refine D4.Y ?_;rintro _ R _ ⟨rfl,q⟩;refine⟨.inl q,?_⟩;refine(OT ((r.ls.W f).W q) ((s.ls.W f).W q)).Y ?_;rintro _ S _ ⟨rfl,G⟩;refine w5 (l:=[if(a.sc.length:Int)<b.sc.length then(-1:Int)else if(b.sc.length:Int)<a.sc.length then 1 else 0,jJ a.sc b.sc]) aq.u aj.i Ω rfl Ψ λV W X Y H J=>?_;refine(OU J.ls).Y ?_;rintro _ Z _ ⟨rfl,K⟩;exact⟨((((f.F q).F G).F H).F K),rfl⟩
theorem OZ{g:Nat}{L:List ct}(h:fi w g v L)(C:L.length<65536):
  al x8 JS [v,OW] w λ_ I=>af (λr=>hp v r) w I/\∃M,M.Perm L/\uA r6 M 0 M.length/\fi I g v M:=by
 have j:∀{s:x4}{a:ct},af (λr=>r=g) w s->kf w g a->kf s g a:=λf e=>e.V f λr z he=>e.2.1 r z he;refine(C9 Nb (G:=kf w g) (num:=r6) Ng Nh (λa e=>e.one) (λa _=>rfl) (λa b e A=>OX e.2.2 A.2.2) (Enters.of x8 Ni rfl Ψ) h.1 h.2 C λs a b f e A=>OY (j f e) (j f A)).Y ?_;rintro _ I _ ⟨f,M,ac,hu,hm⟩;have E:af (λr=>r=g) w I:=f.Y λr _ z=>(h.1.lc z).1;exact⟨f,M,ac,λp q x y _ H _ B J=>hu p q x y H B J,hm,λx B=>j E (h.2 x (ac.mem_iff.1 B))⟩
theorem O0{m:Λ}(f:nz l)(j:l.Nodup)(ac:m.Perm l)(J:m.Pairwise (·<= ·)):m=bx l:=by
 refine xH ?_ (xF l) λx=>?_
 .have p:=ac.nodup_iff.2 j;exact(List.Pairwise.and J p).imp λ{a b}h=>by
   obtain⟨h1,e⟩:=h;have e:=e;omega
 .rw[ac.mem_iff,r1 f]
theorem O1(h:∀z∈l,1<=z/\z<=32)(a:dy l=rs):aQ l<=4096:=by
 have:=of_decide_eq_false a;rw[xJ h]at this;omega
theorem O2{f:b5}{d:iv}{x:cA}{m:Bool}{S R:ah}(h:fp N f)(bj:N<=60000)(Q:x∈f.d7)(az:r4 f.k x d)(aC:av.rep m S R w cs d):
  al x8 JO [.agg cs.toArray] w λv I=>Ext w I/\∃sv gs E W X,v= .tuple #[sv,Γ E]/\w.heap.size<=gs/\aA .i64 aj I gs sv (bx x.scope)/\dj I E W X (b1 f.co (bx x.scope)) f.k (jF f.co f.k x).2:=by
 obtain⟨sv,ae,bk,aS,bl,rfl,G,aD⟩:=uQ aC;obtain⟨aE,aG,aH,bm,bn,aI⟩:=az;obtain⟨a,aJ,aK⟩:=h.d7 x Q;have ad:=uG a h.co.2.1;have bp:=a.len;rw[aE]at G;have aM:∀z∈x.co,1<=z/\z<=32:=λz ai=>by
  rw[a.co]at ai;obtain⟨v,aN,rfl⟩:=j0.1 ai;have bq:=a.scope.2 v aN;refine h.co.2.2 _ ?_;rw[u4,x7 Ω];exact Q4 _
 have aP:=O1 aM aK;have Y:=uF ad a.scope.1;have bs:(bx x.scope).length<=6:=by rw[Y.length_eq];exact aJ
 refine aB func183 ?_;refine bo λan U bt ak y=>?_;have y:ag U an cJ [sv,Γ ae]:=by obtain⟨_,_,_,rfl⟩:=dr G;exact y
 rw[aL cJ.p 1 y rfl];refine(DP (aD.W ak).is Ω).Y ?_;rintro _ aa _ ⟨Z,_,A⟩;rw[aG]at A;obtain⟨g,bz,bA,aQ,rfl,bB,bC,A,am⟩:=A aP;rw[aH]at A;rw[bu,bw,aL cJ.p 0 (y.W Z) rfl];have B:=ak.F Z;refine xM (G.W B) Ω λv bD gs bE H bF ac J K=>?_;have aR:=O0 ad a.scope.1 ac J;subst aR;have bG:=B.size;rw[aY aq.u K.ls];refine k3 aq.u aj.i Ω Ω λgo aT bH L ao=>?_;have aU:=aA.of (b0.full (n:=(bx x.scope).length) ao Ξ (by simp[maxLen];omega));rw[aY aq.u (K.ls.W L)];have bJ:=ao.lt;have M:(gm x.scope (bx x.scope)).length=(bx x.scope).length:=by simp[gm]
 have aV:=H.F L;have bK:=B.F aV;refine bZ.range (bx x.scope).length (λi O=>af (λr=>r=go) aT O/\aA .i64 aj O go (.slice (σ ⟨go,0,ν⟩) (bx x.scope).length (bx x.scope).length) ((gm x.scope (bx x.scope)).take i++o4 ((bx x.scope).length-i) 0)) Ω ⟨af.refl _ _,by simpa using aU⟩ ?_ ?_
 .rintro i O k hi ⟨P,C⟩ hk;obtain⟨v,ab⟩:=aF (l:=(bx x.scope)) hi;have q:=L.put P Ω;have aW:=(B.F H).F q;have aX:v∈x.scope:=Y.mem_iff.1 (x6 ab);refine bI Ω ?_;rw[bi aq.u aj.i Ψ (K.ls.W q) ab];have aZ:=(Z.F H).F q;rw[aL cJ.p 0 (y.W aZ) rfl];refine(DV (G.W aW)).Y ?_;rintro _ a1 _ ⟨s,r,rfl,a2⟩;have ap:=qG aX;have a6:=(a2 _ ap).2 λj bL a7=>by have:=lU a.scope.1 a7 ap;omega
  rw[jB rfl aq.u aj.i (C.W s) (by simp[M];omega)];refine jC aj.i (C.W s) (by simp[M];omega) λbM a8 bN au=>?_;rw[aO];refine hk _ ⟨(P.F (s.V _)).F a8,?_⟩;have ba:(gm x.scope (bx x.scope))[i]?=σ r:=by rw[a6];exact DJ ab
  have e:((gm x.scope (bx x.scope)).take i++o4 ((bx x.scope).length-i) 0).set i r=(gm x.scope (bx x.scope)).take (i+1)++o4 ((bx x.scope).length-(i+1)) 0:=by
   have bb:((gm x.scope (bx x.scope)).take i).length=i:=by rw[o8,M];omega
   rw[T4 _ _ Ω,bb,W8,show(bx x.scope).length-i=((bx x.scope).length-(i+1))+1 by omega,List.replicate_succ,List.set_cons_zero,r8,ba,o9,X9];rfl
  rw[e]at au;exact au
 .rintro O k ⟨P,C⟩;have q:=L.put P Ω;have aw:=H.F q;refine cc Ω ?_;rw[W8,List.replicate_zero,W5,j5 Ω]at C;have bc:∀t,dt x.co t->br x.co aQ t=k7 x f.k t:=λt bd=>by rw[am.2 t bd];exact aI t
  obtain⟨ax,be⟩:=N0 h Q am.1 bc;have bf:Good (gm x.scope (bx x.scope)) x.co.length:=by
   rw[a.co,u9];exact uJ a.scope.1 Y
  have bg:=(qF h Q);refine(OH (A.W aw) h.k C.ls (by rw[M];omega) λ_=>?_).Y ?_
  .rw[ax];exact bg.small
  .rintro _ a1 _ ⟨s,_,bh⟩;obtain⟨E,W,X,rfl,ay⟩:=bh bf;rw[bu,bw];rw[ax,be]at ay;exact⟨(B.F aw).F s,v,gs,E,W,X,rfl,Ω,(K.W q).W s,ay⟩
theorem O3{P:V5}{t x f:p9}{k y g o cap:Nat}{z:x1}(h:P.underlying t=σ (.slice e))(hi:aP P e k y z)(A:z.cells.size=k)(h1:∀u∈dX z.cells (n*k),u.oneCell'=ro)(a:ag w g f cs)(H:o+n*k<=cs.length)(p:∀I,af (λr=>r=g) w I->ag I g f (over cs o (dX z.cells (n*k)))->K (.tuple #[]) I):aH P (Y1.clear_ #[t] x #[.slice (σ ⟨g,o,ν⟩) n cap]) w K:=by
 obtain⟨i,hi,J,rfl,B⟩:=hi;have C:∀w,(zeroValue e).run P w= .ok z w:=λw=>by simp[zeroValue,typeInfo,hi,B]
 have E:(Y1.zeroCells z.cells n).toList=dX z.cells (n*k):=by
  unfold Y1.zeroCells dX;rw[A]
 have q:=run_storeCells_cells (P:=P) g o (dX z.cells (n*k)) 0 w (λj F=>by
   rw[qi]at F;rw[Nat.add_zero,a.cell (x7 (show o+j<cs.length by omega))];rfl) (λj _=>a.frozen _ _) h1
 simp only[Nat.add_zero]at q;obtain⟨G,s⟩:=pd (dX z.cells (n*k)) cs o w a;rcases P8 n with rfl|L
 .refine .of (by simp[Y1.clear_,run_underlying h]) (cN.refl _) (p w (af.refl _ _) ?_);rw[Nat.zero_mul,c9 (qi z.cells 0)];exact a
 .obtain⟨m,rfl⟩:∃m,n=m+1:=⟨n-1,Ω⟩;refine .of (by simp[Y1.clear_,run_underlying h,C,E,q]) (s.cu a) (p _ s.V G)
theorem eb{α:Type}{f:α->List x1}{k:Nat}{g:Nat}{L:List α}(h:bh f k e w g v L)(j:hp v r):r=g/\∃cs,ag w g e cs:=by
 obtain⟨_,⟨rfl,_⟩|⟨cap,cs,rfl,p,_⟩⟩:=h.1
 .exact (fq j).elim
 .obtain⟨a,n,c,h1,q⟩:=j;cases h1;exact⟨q.symm,cs,p⟩
theorem D5{α:Type}{f:α->List x1}{k:Nat}{g:Nat}{L:List α}(h:bh f k e w g v L)(a:L≠[]):∃cs n c,v= .slice (σ ⟨g,0,ν⟩) n c/\ag w g e cs:=by
 obtain⟨_,⟨rfl,j⟩|⟨cap,cs,rfl,p,_⟩⟩:=h.1
 .exact m6 (c9 j) a
 .exact⟨cs,_,_,rfl,p⟩
theorem fi.mk{g:Nat}{L:List ct}(h:bh e5 2 cY w g v L)(e:∀x∈L,(∃f,aA .i64 aj w f x.sv x.sc)/\lf x.sc):fi w g v L:=by
 refine⟨h,λx a=>⟨(e x a).1,λr j=>?_,(e x a).2⟩⟩;obtain⟨cs,n,c,_,p⟩:=D5 h (λq=>by rw[q]at a;cases a);obtain⟨⟨f,hm⟩,_⟩:=e x a;exact b8 hm p Φ j
def Sem(w:x4)(k:Int)(co:Λ)(L:List ct):Prop:=∀x∈L,∃a e,dj w x.g a e (b1 co x.sc) k x.cs
theorem xR{g p:Nat}{q:x1}{cs:Λ}(h:dj w g p q ai k cs)(e:af S w I)(f:∀r,S r->∃c,ag w r cY c):dj I g p q ai k cs:=by
 obtain⟨⟨a7,gs,h1,s,x⟩,y⟩:=h;refine⟨⟨a7,gs,h1.V e λJ=>?_,bs s e λr j J=>?_,bs x e λr j J=>?_⟩,y⟩
 .obtain⟨c,a⟩:=f g J;unfold ag at h1 a;rw[h1]at a;have:=(Obj.cells.inj (Z6 a)).2.1;exact m6 this Φ
 .obtain⟨c,a⟩:=f r J;exact b8 s a Φ j rfl
 .obtain⟨c,a⟩:=f r J;exact b8 x a Φ j rfl
theorem Sem.W{L:List ct}(h:Sem w k co L)(a:Ext w I):Sem I k co L:=λx e=>by
 obtain⟨f,j,p⟩:=h x e;exact⟨f,j,p.W a⟩
theorem Sem.row{L M:List ct}{g:Nat}(h:Sem w k co L)(a:fi w g v M)(e:af (λr=>hp v r) w I):Sem I k co L:=λx f=>by
 obtain⟨j,p,q⟩:=h x f;exact⟨j,p,xR q e λr s=>by obtain⟨rfl,c,y⟩:=eb a.1 s;exact⟨c,y⟩⟩
def ee(h:ct):cO:=(h.sc,h.cs)
theorem O4:al x8 wI [Δ c] w λv I=>v= .bool (decide (0<c))/\Ext w I:=by
 refine aB func190 ?_;rw[bO];exact⟨rfl,Ext.refl _⟩
theorem O5(h:aM .i64 w sv l):
  al x8 JQ [sv,.func (.func wI) #[] #[]] w λv I=>v= .bool (l.any λc=>decide (0<c))/\Ext w I:=by
 refine aB func189 ?_;refine al.Y (K:=λv I=>Ext w I/\∃r:Int,v=Δ r/\(0<=r↔ ∃c∈l,0<c)) ?_ ?_
 .refine aB func244 ?_;rw[aY ax.u h];refine cb.range l.length (λi _ U=>Ext w U/\∀c∈l.take i,¬0<c) h.le ⟨Ext.refl _,λc a=>by simp at a⟩ ?_ ?_
  .rintro i _ U k hi ⟨e,f⟩ hk;refine bI Ω ?_;obtain⟨x,j⟩:=aF (l:=l) hi;rw[bi ax.u au.i Ψ (h.W e) j];show al x8 wI [Δ x] U _;refine O4.Y ?_;rintro _ aa _ ⟨rfl,p⟩;rw[ak];refine⟨λac=>⟨e.F p,i,rfl,⟨λ_=>⟨x,x6 j,ac⟩,λ_=>Ω⟩⟩,λq=>?_⟩;rw[aO];refine hk _ _ ⟨e.F p,λc a=>?_⟩;rw[r8,j]at a;rcases j4.1 a with a|a
   .exact f c a
   .simp at a;subst a;exact q
  .rintro _ U k ⟨e,f⟩;rw[o6]at f;rw[aR,ak];exact⟨λh=>Ω,λ_=>⟨e,-1,rfl,⟨λh=>Ω,λ⟨c,a,ac⟩=>m6 ac (f c a)⟩⟩⟩
 .rintro _ U _ ⟨e,r,rfl,s⟩;rw[cH];refine⟨?_,e⟩;congr 1;rw[U9,ne,List.any_eq_true,s];exact⟨λ⟨c,a,ac⟩=>⟨c,a,m7 ac⟩,λ⟨c,a,ac⟩=>⟨c,a,rc ac⟩⟩
theorem D6{h:Nat}{x:ct}{q:x1}(r:kf w h x)(s:dj w x.g j q ai k x.cs):al x8 rm [lh x] w λv I=>v= .bool (!fT (ee x))/\Ext w I:=by
 obtain⟨⟨B,hm⟩,_⟩:=r;refine aB func188 ?_;refine bo λan U C f a=>?_;have a:ag U an cY [x.sv,Γ x.g]:=by
  obtain⟨_,_,_,e⟩:=dr hm.ls;simp only[lh,e5,e]at a ⊢;exact a
 rw[aL cY.p 1 a rfl];refine(oc (s.W f)).Y ?_;rintro E aa _ ⟨y,G,H,z⟩;refine(O5 z.ls).Y ?_;rintro _ J _ ⟨rfl,A⟩;rw[bC];exact⟨rfl,(f.F y).F A⟩
theorem O6{g:Nat}{L:List ct}(h:fi w g v L)(J:Sem w k co L):
  al x8 AV [v,.func (.func rm) #[] #[]] w λr I=>Ext w I/\((r=Δ (-1)/\∀x∈L,fT (ee x)=ro)\/∃i:Nat,r=Δ (i:Int)/\i<L.length/\(∀x∈L.take i,fT (ee x)=ro)/\∀x,L[i]?=σ x->fT (ee x)=rs):=by
 refine aB func184 ?_;rw[dE gF.u h.1];refine cb.range L.length (λi _ U=>Ext w U/\∀x∈L.take i,fT (ee x)=ro) h.1.le ⟨Ext.refl _,λc a=>by simp at a⟩ ?_ ?_
 .rintro i _ U k hi ⟨e,f⟩ hk;refine bI Ω ?_;obtain⟨x,j⟩:=aF (l:=L) hi;rw[uS rfl (h.W e) j];show al x8 rm [lh x] U _;obtain⟨A,B,s⟩:=J x (x6 j);refine(D6 ((h.W e).at j) (s.W e)).Y ?_;rintro _ aa _ ⟨rfl,p⟩;rw[bY];refine⟨λac=>⟨e.F p,.inr ⟨i,rfl,hi,f,λy q=>by rw[j]at q;cases q;simpa using ac⟩⟩,λz=>?_⟩;rw[aO];refine hk _ _ ⟨e.F p,λc a=>?_⟩;rw[r8,j]at a;rcases j4.1 a with a|a
  .exact f c a
  .simp at a;subst a;simpa using z
 .rintro _ U k ⟨e,f⟩;rw[o6]at f;rw[aR,ak];exact⟨λh=>Ω,λ_=>⟨e,.inl ⟨rfl,f⟩⟩⟩
def gq(x:ct):Bool:=fT (ee x)
theorem xS{L:List ct}{x:ct}(a:L[j]?=σ x):(L.take (j+1)).filter gq=if gq x=ro then(L.take j).filter gq++[x]else(L.take j).filter gq:=by
 rw[r8,a,o9,List.filter_append];by_cases h:gq x=ro
 .rw[m3 h];simp[h]
 .rw[m5 h];simp[h]
theorem D7{z:Array x1}(a:0<z.size)(h:∀u∈z.toList,u.oneCell'=ro):∀u∈dX z n,u.oneCell'=ro:=λu hu=>by
 unfold dX at hu;rw[Array.toList_map,j0]at hu;obtain⟨i,_,rfl⟩:=hu;have e:i % z.size<z.size:=Nat.mod_lt _ a;rw[getElem!_pos z (i % z.size) e];exact h _ Ξ
theorem O7{g:Nat}{L:List ct}(h:fi w g v L)(J:Sem w k co L)(bb:L.length<=100000):
  al x8 JR [v,.func (.func rm) #[] #[]] w λf I=>af (λr=>hp v r) w I/\fi I g f (L.filter gq)/\∀r,hp f r->hp v r:=by
 refine aB func191 ?_;refine(O6 h J).Y ?_;rintro r U _ ⟨G,q⟩;rcases q with⟨rfl,P⟩|⟨Q,rfl,aw,P,ax⟩
 .rw[bk,ak];refine⟨λ_=>⟨G.V _,?_,λr q=>q⟩,λh=>m6 rfl h⟩;rw[List.filter_eq_self.2 (show∀x∈L,gq x=ro from P)];exact h.W G
 rw[bk,ak];refine⟨λh=>Ω,λ_=>?_⟩;rw[aO,li Ω Ω];obtain⟨R,ad⟩:=aF (l:=L) aw;refine⟨λS W aa=>∃(i j:Nat)(M:List ct),S=Δ (i:Int)/\W=Δ (j:Int)/\i<j/\j<=L.length/\M.length=L.length/\M.take i=(L.take j).filter gq/\M.drop j=L.drop j/\(∀x∈M,x∈L)/\fi aa g v M/\af (λr=>hp v r) w aa,
  λ_ W _=>L.length-(bU W).toNat,⟨Q,Q+1,L,rfl,by congr 1,Ω,Ω,rfl,?_,rfl,λx s=>s,h.W G,G.V _⟩,?_⟩
 .have az:¬gq R=ro:=by rw[show gq R=rs from ax R ad];simp
  rw[xS ad,m5 az,List.filter_eq_self.2 (show∀x∈L.take Q,gq x=ro from P)]
 rintro _ _ aa ⟨i,j,M,rfl,rfl,bc,bd,ae,A,ag,ah,e,H⟩;have aA:Sem aa k co L:=J.row h H;rw[dE gF.u e.1,aR,ak];refine⟨λX=>?_,λbe=>?_⟩
 .have X:j<L.length:=Ω
  obtain⟨x,s⟩:=aF (l:=L) X;have K:M[j]?=σ x:=by
   have h1:(M.drop j)[0]?=(L.drop j)[0]?:=by rw[ag]
   rw[List.getElem?_drop,List.getElem?_drop,Nat.add_zero]at h1;rw[h1,s]
  have ai:M.drop (j+1)=L.drop (j+1):=by
   have h1:(M.drop j).drop 1=(L.drop j).drop 1:=by rw[ag]
   rw[List.drop_drop,List.drop_drop]at h1;exact h1
  refine aV (λS N=>∃(C:Nat)(z:List ct),S=Δ (C:Int)/\C<j+1/\z.length=L.length/\z.take C=(L.take (j+1)).filter gq/\z.drop (j+1)=L.drop (j+1)/\(∀x∈z,x∈L)/\fi N g v z/\af (λr=>hp v r) w N) ?_ ?_
  .rintro _ N ⟨C,z,rfl,h1,Y,aC,aD,aE,aG,aI⟩;rw[aO,li Ω Ω];exact⟨⟨C,j+1,z,rfl,rfl,h1,X,Y,aC,aD,aE,aG,aI⟩,by simp only[bU];omega⟩
  .intro ay aj;rw[uS rfl e K];refine bB cY.i λan N bf aJ aK=>?_;refine b4 (vs:=e5 x) cY.i rfl rfl (e.at K).one aK λaL aM bg am=>?_;have Z:=aJ.put aM Ω;rw[bA cY.p cY.i rfl am.range];show al x8 rm [lh x] aL _;obtain⟨bh,bi,aN⟩:=aA x (x6 s);refine(D6 ((e.W Z).at K) (aN.W Z)).Y ?_;rintro _ bj _ ⟨rfl,ao⟩;have E:=Z.F ao;rw[bC,Bool.not_not,bY];refine⟨λhk=>?_,λaP=>?_⟩
   .rw[bA cY.p cY.i rfl (am.W ao).range];refine OV rfl (e.W E) Ω ((e.W E).at K) λbl aQ aS=>?_;rw[aO,li Ω Ω];refine aj _ _ ⟨i+1,M.set i x,rfl,Ω,by simp[ae],?_,?_,λy B=>?_,aS,(H.F (E.V _)).F aQ⟩
    .have ac:gq x=ro:=hk;rw[xS s,m3 ac,r8,l9 Ω,o9,List.take_set_of_le (p8 _),A]
    .rw[List.drop_set_of_lt Ω,ai]
    .rcases V0 B with B|rfl
     .exact ah y B
     .exact x6 s
   .have ac:¬gq x=ro:=by rw[show gq x=rs from aP];simp
    exact aj _ _ ⟨i,M,rfl,Ω,ae,by rw[xS s,m5 ac,A],ai,ah,e.W E,H.F (E.V _)⟩
 .have aT:j=L.length:=Ω
  subst aT;rw[o6]at A;obtain⟨⟨bm,aU⟩,ap⟩:=e.1;rcases aU with⟨_,bn⟩|⟨cap,cs,aW,aX,bo,aY,aZ,a1⟩
  .omega
  subst aW;have a2:(ab x8 (U5 gF (.slice (σ ⟨g,0,ν⟩) M.length cap) (σ (Δ (i:Int))) ν ν) aa λa6=>
    aH x8 (Y1.clear_ #[gF] K0 #[a6]) aa λu O=>
    ab x8 (U5 gF (.slice (σ ⟨g,0,ν⟩) M.length cap) ν (σ (Δ (i:Int))) ν) O λa7=>
    (λf I=>af (λr=>hp (.slice (σ ⟨g,0,ν⟩) M.length cap) r) w I/\fi I g f (L.filter gq)/\∀r,hp f r->hp (.slice (σ ⟨g,0,ν⟩) M.length cap) r) a7 O):=by
   rw[gH gF.u cY.i (o3 i _ rfl) j8 e2 Ω Ω (p8 _),m5 Ω];simp only[Y3,T8];refine O3 gF.u cY.i rfl ?_ aX Ω λO aq a8=>?_
   .exact D7 Φ Φ
   rw[gH gF.u cY.i j7 (pa i _ rfl) e2 Ω Ω (p8 _),m5 Ω];simp only[Y3,T8,Nat.zero_mul,W0,Nat.sub_zero];have ba:(dX (x1.agg #[.slice ν 0 0,.pointer ν]).cells ((M.length-i)*2)).length=(M.length-i)*2:=qi _ _;have bp:(M.flatMap e5).length=M.length*2:=gN ap;have au:(L.filter gq).length=i:=by rw[<-A,o8];omega
   have key:(λf I=>af (λr=>hp (.slice (σ ⟨g,0,ν⟩) M.length cap) r) w I/\fi I g f (L.filter gq)/\∀r,hp f r->hp (.slice (σ ⟨g,0,ν⟩) M.length cap) r) (.slice (σ ⟨g,0,ν⟩) (L.filter gq).length cap) O:=by
    refine⟨H.F (aq.Y λr _ he=>⟨_,_,_,rfl,he.symm⟩),⟨⟨⟨gN (λy _=>rfl),.inr ⟨cap,_,rfl,a8,Ω,aY,by rw[nn,aZ],?_⟩⟩,λy _=>rfl⟩,λy B=>?_⟩,λr q=>?_⟩
    .rw[au,<-A,<-rU i ap,<-a1,List.take_take,nZ (by rw[ba];omega),X9,List.take_append_of_le_length (by rw[o8];omega),List.take_take];congr 1;omega
    .have av:y∈M:=by rw[<-A]at B;exact U3 B
     exact(e.2 y av).V aq λr q he=>(e.2 y av).2.1 r q he
    .obtain⟨a,n,c,h1,Y⟩:=q;cases h1;exact⟨_,_,_,rfl,Y⟩
   rw[au]at key;exact key
  exact a2
theorem r7{k:o7}{g cap:Nat}{b:Option Addr}(h:aA k e w g (.slice b n cap) l)(r:0<l.length):
  b=σ ⟨g,0,ν⟩/\n=l.length/\∃cs,ag w g e cs/\n<=cap/\cap<=maxLen/\cs.length=cap/\cs.take n=ints k l:=by
 obtain⟨_,⟨_,h1⟩|⟨s,cs,h1,a,f,j,p,q⟩⟩:=h
 .omega
 .cases h1;exact⟨rfl,rfl,cs,a,f,j,by simpa using p,by simpa using q⟩
theorem O8{g cap:Nat}(h:aA .i64 aj w g (.slice (σ ⟨g,0,ν⟩) n cap) l)(p:j<l.length):aM .i64 w (.slice (σ ⟨g,j,ν⟩) (n-j) (cap-j)) (l.drop j):=by
 obtain⟨_,q,cs,a,h1,r,s,f⟩:=r7 h Ω;have:=LA (o:=j) (k:=n-j) (c:=cap-j) a Ω Ω Ω;refine aM.of (n:=n-j) ?_;have e:(cs.drop j).take (n-j)=ints .i64 (l.drop j):=by
  rw[<-List.drop_take,f,ints,ints,List.map_drop]
 rw[e]at this;exact this
theorem O9{g:Nat}(h:aA .i64 aj w g sv l)(aU:l.length<=1000):
  al x8 Kp [sv] w λv I=>af (λr=>r=g) w I/\aA .i64 aj I g v (dedup l l.length):=by
 refine aB func239 ?_;rw[aY aq.u h.ls];simp only[aR,ak];refine⟨λaW=>⟨af.refl _ _,?_⟩,λaX=>?_⟩
 .rw[uP (p8 _) (λi hi X=>Ω),o6];exact h
 obtain⟨n,s⟩:∃n,l.length=n:=⟨_,rfl⟩;obtain⟨cap,rfl⟩:∃cap,sv= .slice (σ ⟨g,0,ν⟩) n cap:=by
  obtain⟨_,⟨_,h1⟩|⟨ap,cs,h1,_⟩⟩:=id h
  .omega
  .exact⟨ap,by rw[h1,s]⟩
 obtain⟨_,_,_,_,aZ,au,_⟩:=r7 h Ω;refine⟨λ_ t U=>∃j:Nat,t=Δ (j:Int)/\1<=j/\j<=n/\Ext w U/\∀i,i<j->0<i->l[i]? ≠l[i-1]?,λ_ t _=>n-(bU t).toNat,⟨1,rfl,Ω,Ω,Ext.refl _,λi h1 Y=>Ω⟩,?_⟩;rintro a1 _ U ⟨j,rfl,a2,Z,A,J⟩;rw[aY aq.u (h.ls.W A)];simp only[aR,ak,eH];refine⟨λav aa aw _ _=>?_,λa6=>⟨A.V _,?_⟩⟩
 .have av:j<n:=Ω
  have B:=A.F aw;have ab:=h.ls.W B;obtain⟨a,K⟩:=aF (l:=l) (i:=j) Ω;obtain⟨b,L⟩:=aF (l:=l) (i:=j-1) Ω;rw[bi aq.u aj.i Ψ ab K];simp only[dp];rw[li Ω Ω,gI (i:=j-1) Ω aq.u aj.i Ψ ab L];simp only[bk,ak,aO];refine⟨λM=>?_,λM=>?_⟩
  .subst M;rw[gH aq.u aj.i o2 j8 e2 Ω Ω Ω,m5 Ω];have ax:T0 (λx:Addr=>x.add (j*1)) (σ ⟨g,0,ν⟩)=σ ⟨g,j,ν⟩:=by simp[T8]
   rw[ax];have ac:dedup l (j+1)=l.take j:=by rw[xN Ω (by rw[K,L]),uP Ω J]
   refine⟨λN t O=>∃(q e:Nat)(f:Λ),N=Δ (q:Int)/\t=Δ (e:Int)/\1<=e/\j+e<=n/\af (λr=>r=g) w O/\aA .i64 aj O g (.slice (σ ⟨g,0,ν⟩) n cap) f/\f.length=n/\
     q=(dedup l (j+e)).length/\f.take q=dedup l (j+e)/\q<=j+e-1/\∀i,j+e-1<=i->f[i]?=l[i]?,λ_ t _=>n-(bU t).toNat,
    ⟨j,1,l,rfl,rfl,Ω,Ω,B.V _,h.W B,s,by rw[ac,o8];omega,by rw[ac],Ω,λi _=>rfl⟩,?_⟩
   rintro _ _ O ⟨q,e,f,rfl,rfl,a7,a8,P,ad,ae,ag,C,az,E⟩;rw[iL aq.u];simp only[aR,ak,eH];refine⟨λah=>?_,λah=>?_⟩
   .have ah:j+e<n:=Ω
    refine aV (λN Q=>∃(q:Nat)(f:Λ),N=Δ (q:Int)/\af (λr=>r=g) w Q/\aA .i64 aj Q g (.slice (σ ⟨g,0,ν⟩) n cap) f/\f.length=n/\
     q=(dedup l (j+(e+1))).length/\f.take q=dedup l (j+(e+1))/\q<=j+(e+1)-1/\∀i,j+(e+1)-1<=i->f[i]?=l[i]?) ?_ ?_
    .rintro _ Q ⟨q,f,rfl,h1,Y,aC,aD,aE,aG,aH⟩;simp only[aO];rw[li Ω Ω];exact⟨⟨q,e+1,f,rfl,rfl,Ω,Ω,h1,Y,aC,aD,aE,aG,aH⟩,by simp only[bU];omega⟩
    .intro ay ai ba R _ _;have G:=ad.W R;have S:=O8 (j:=j) G Ω;obtain⟨y,H⟩:=aF (l:=l) (i:=j+e) Ω;obtain⟨z,W⟩:=aF (l:=l) (i:=j+e-1) Ω;have am:(f.drop j)[e]?=σ y:=by rw[List.getElem?_drop,E _ Ω,H]
     have aI:(f.drop j)[e-1]?=σ z:=by rw[List.getElem?_drop,E _ Ω,<-W];congr 1;omega
     rw[bi aq.u aj.i Ψ S am];simp only[dp];rw[li Ω Ω,gI (i:=e-1) Ω aq.u aj.i Ψ S aI];simp only[bF,ak,aO];refine⟨λp=>?_,λp=>?_⟩
     .rw[bi aq.u aj.i Ψ S am,jB rfl aq.u aj.i G Ω];refine jC aj.i G Ω λbb aJ bc aK=>?_;rw[li Ω Ω];have an:=xO H (λ_=>by rw[H,W];simpa using p);refine ai _ _ ⟨q+1,_,rfl,(P.F (R.V _)).F aJ,aK,by simpa using ae,?_,?_,Ω,λi hi=>?_⟩
      .rw[<-R5,an];simp;omega
      .rw[<-R5,an,r8,l9 Ω,List.take_set_of_le (p8 _),C];rfl
      .rw[Z9 Ω];exact E i Ω
     .have p:=X5.1 p;have ao:dedup l (j+e+1)=dedup l (j+e):=xN Ω (by rw[H,W,p]);exact ai _ _ ⟨q,f,rfl,P.F (R.V _),G,ae,by rw[<-R5,ao];exact ag,by rw[<-R5,ao];exact C,Ω,λi hi=>E i Ω⟩
   .have hk:j+e=n:=Ω
    rw[hk]at ag C az;obtain⟨_,_,cs,aL,_,_,bd,aM⟩:=r7 ad Ω;simp only[maxLen]at au;rw[gH aq.u aj.i o2 j8 e2 Ω Ω Ω,m5 Ω];have aN:T0 (λx:Addr=>x.add (q*1)) (σ ⟨g,0,ν⟩)=σ ⟨g,q,ν⟩:=by simp[T8]
    rw[aN];refine BI aq.u aj.i rfl rfl aL Ω Ω λbe aP bf aQ=>?_;rw[gH aq.u aj.i j7 pb e2 Ω Ω Ω,m5 Ω];have aS:T0 (λx:Addr=>x.add (0*1)) (σ ⟨g,0,ν⟩)=σ ⟨g,0,ν⟩:=by simp[T8]
    rw[aS,s];refine⟨P.F aP,?_⟩;rw[<-C];refine aA.of (n:=q) ⟨Θ,.inr ⟨cap,_,Ξ,aQ,Ω,by simp only[maxLen];omega,by rw[nn];omega,?_⟩⟩;rw[T5];apply X3;intro i;by_cases hi:i<q
    .rw[Y7 hi,pc _ _ _ Θ,m5 Ω,ints,v8,Y7 hi];have:(cs.take n)[i]?=(ints .i64 f)[i]?:=by rw[aM]
     rw[Y7 Ω,ints,v8]at this;exact this
    .rw[Y4 Θ,Y4 Θ]
  .rw[li Ω Ω];refine⟨⟨j+1,rfl,Ω,Ω,B,λi hi X=>?_⟩,by simp only[bU];omega⟩;by_cases aT:i=j
   .subst aT;rw[K,L];intro he;exact M (Z6 he)
   .exact J i Ω X
 .have Z:j=n:=Ω
  rw[uP (p8 _) (by rw[s,<-Z];exact J),o6];exact h.W A
theorem Pa(z:n<=1000000):al x8 KK [.slice ν 0 0,Δ (n:Int)] w λv I=>Ext w I/\∃g,w.heap.size<=g/\aA .i64 aj I g v []:=by
 refine aB func273 ?_;refine cW (λU=>w=U) ?_ ?_
 .rintro _ rfl;refine aV (λv I=>Ext w I/\∃g,w.heap.size<=g/\aA .i64 aj I g v []) (λ_ _ h=>h) λay a=>?_;rw[BH aq.u,iL aq.u];simp only[dp];have e:W6.wrap (((0:Nat):Int)-((0:Nat):Int))=0:=Φ
  have f:W6.wrap ((n:Int)-0)=n:=by rw[li Ω Ω];omega
  rw[e,f];simp only[bO,ak];refine⟨λh=>?_,λh=>a _ _ ⟨Ext.refl _,w.heap.size,p8 _,aA.nil _ _ _ _⟩⟩;rw[BH aq.u,gH aq.u aj.i j7 pb e2 Ω Ω Ω,m3 rfl];refine Lz (xs:=[]) rfl aq.u aj.u aj.i rfl ⟨rfl,0,0,ν,0,rfl,p8 _,X7 _,λh=>m6 h (Nat.lt_irrefl _),λj v h=>by simp at h⟩ Ω Ω Ω Ω λv g I A p hm=>?_;obtain⟨_,⟨_,B⟩|⟨cap,cs,rfl,q,h1,r,s,C⟩⟩:=hm
  .omega
  rw[iL aq.u,gH aq.u aj.i j7 pb e2 Ω Ω Ω,m5 Ω];have y:T0 (λx:Addr=>x.add (0*1)) (σ ⟨g,0,ν⟩)=σ ⟨g,0,ν⟩:=by simp[T8]
  rw[y];refine a _ _ ⟨p,g,Ω,aA.of (n:=0) ⟨Ξ,.inr ⟨cap,cs,Ξ,q,Ω,r,s,Ξ⟩⟩⟩
 .intro ay a;simp only[aR,ak];exact⟨λh=>Ω,λ_=>a _ rfl⟩
theorem Pb{b:Λ}(E:aM .i64 w bm a)(G:aM .i64 w bv b)(S:a.length<=1000)(V:b.length<=1000)(W:∀v I g,Ext w I->w.heap.size<=g->aA .i64 aj I g v (a++b)->K v I):
  aH x8 (X2 dn 2 #[(0,bm),(1,bv)]) w λt U=>al x8 Kq [t] U K:=by
 obtain⟨⟨H,J,L,X⟩,⟨M,N,O,Y⟩⟩:(∃x n c,bm= .slice x n c)/\(∃x n c,bv= .slice x n c):=by
  obtain⟨_,_,_,x,c,h1,_⟩:=id E;obtain⟨_,_,_,y,d,Z,_⟩:=id G;exact⟨⟨x,_,c,h1⟩,⟨y,_,d,Z⟩⟩
 subst X;subst Y;refine lL dn.u aq.i Ω (cs:=#[.slice H J L,.slice M N O]) Ψ λg U aw q s=>?_;have s:=s;have key:∀i:Nat,i<2->∃v l,[x1.slice H J L,.slice M N O][i]?=σ v/\[a,b][i]?=σ l/\aM .i64 w v l/\l.length<=1000:=λi hi=>by
  match i,hi with
  |0,_=>exact⟨_,_,rfl,rfl,E,S⟩
  |1,_=>exact⟨_,_,rfl,rfl,G,V⟩
 refine aB func240 ?_;rw[iL dn.u];refine cb.range 2 (λi size aa=>Ext U aa/\∃n:Nat,n<=1000*i/\size=Δ (n:Int)) Ω ⟨Ext.refl _,0,Ω,rfl⟩ ?_ ?_
 .rintro i _ aa ab hi ⟨f,n,ac,rfl⟩ ad;simp only[aR,ak];refine⟨λ_=>?_,λh=>Ω⟩;obtain⟨v,l,B,P,C,ae⟩:=key i hi;refine aV (λv Q=>aa=Q/\v=Δ ((n+l.length:Nat):Int)) ?_ ?_
  .rintro _ _ ⟨rfl,rfl⟩;simp only[aO];exact ad _ _ ⟨f,_,Ω,rfl⟩
  .intro ay af;rw[fd dn.u aq.i hi (λ_=>rfl),aD Ψ ((s.W f).cell (by rw[<-B];congr 1;omega)),aY aq.u (C.W (q.F f))];simp only[aO,aR,ak];rw[li Ω Ω];exact⟨λh=>Ω,λ_=>af _ _ ⟨rfl,by congr 1⟩⟩
 .rintro _ aa ab ⟨f,n,ac,rfl⟩;simp only[aR,ak];refine⟨λh=>Ω,λ_=>?_⟩;refine(Pa Ω).Y ?_;rintro v0 Q _ ⟨R,ag,ax,ah⟩;have s1:=q.size;have az:=f.size;have aC:=R.size;have ai:=f.F R;rw[iL dn.u];refine cb.range 2 (λi v z=>Ext U z/\∃p,U.heap.size<=p/\aA .i64 aj z p v (([a,b].take i).flatten)/\(([a,b].take i).flatten).length<=1000*i) Ω ⟨ai,ag,Ω,ah,Ξ⟩ ?_ ?_
  .rintro i v4 z am hi ⟨j,p,an,A,aE⟩ ao;simp only[aR,ak];refine⟨λ_=>?_,λh=>Ω⟩;obtain⟨v,l,B,P,C,ae⟩:=key i hi;rw[fd dn.u aq.i hi (λ_=>rfl),aD Ψ ((s.W j).cell (by rw[<-B];congr 1;omega))];refine kx aq.u aj.i rfl A (C.W (q.F j)) Ω Ω λaF ap aG aI au av=>?_;simp only[aO];have aJ:=j.size;have e:([a,b].take (i+1)).flatten=([a,b].take i).flatten++l:=by rw[r8,P];simp
   refine ao _ _ ⟨j.then av (by rintro r aK rfl;omega),ap,Ω,by rw[e];exact au,by rw[e,r9];omega⟩
  .rintro v4 z am ⟨j,p,an,A,_⟩;simp only[aR,ak];refine⟨λh=>Ω,λ_=>W _ _ p (q.F j) Ω ?_⟩;have e:([a,b].take 2).flatten=a++b:=Ξ
   rw[e]at A;exact A
def qH(s1 a f e d6:Λ):Prop:=∀p∈d6,p∈a->p∈e->jn s1 (iW a p)=jn f (iW e p)
def dI(s1 a e f d6:Λ):Λ:=d6.map λp=>max (jn s1 (iW a p)) (jn e (iW f p))
theorem D8(s1 a e f d6:Λ):(dI s1 a e f d6).length=d6.length:=by simp[dI]
theorem uT{x:Int}:0<=iW l x↔x∈l:=by
 unfold iW;by_cases h:x∈l
 .rw[m3 h];exact⟨λ_=>h,λ_=>Ω⟩
 .rw[m5 h];exact⟨λh=>Ω,λa=>m6 a h⟩
theorem Pc{g ax X az:Nat}{E Y:x1}{s1 f d6 e:Λ}{aC:Int}{aD aE:Λ}(h1:dj w g ax sv s1 k aD)(Z:dj w X az E f aC aE)(q:aM .i64 w Y d6)(aG:aM .i64 w bm a)(G:aM .i64 w bv e)(aH:iw a)(aI:iw e)(bd:d6.length<=1000):
  al x8 Kr [Y,Γ g,bm,Γ X,bv] w λv I=>Ext w I/\
   (¬qH s1 a f e d6->v= .tuple #[.slice ν 0 0,.bool rs])/\
   (qH s1 a f e d6->∃x an,v= .tuple #[x,.bool ro]/\w.heap.size<=an/\aA .i64 aj I an x (dI s1 a f e d6)):=by
 have sub:∀{w:x4}{g:Nat}{sv:x1}{k:Int}{a7:x1},ag w g cZ [sv,Δ k,a7]->w.rangeAt g (0+0) [sv]:=λG=>pj G (by
  intro j v q
  match j,q with
  |0,q=>exact q)
 refine aB func241 ?_;rw[aY aq.u q];refine k3 aq.u aj.i Ω Ω λgz U be ab aJ=>?_;have aK:=aA.of (n:=d6.length) (b0.full aJ Ξ (by simp[maxLen];omega));generalize (x1.slice (σ ⟨gz,0,ν⟩) d6.length d6.length)=aL at*;rw[aY aq.u (q.W ab)];have H:=D8 s1 a f e d6;refine lG.range d6.length (λi _ _ aa=>Ext w aa/\aA .i64 aj aa gz aL (upto (dI s1 a f e d6) 0 i)/\∀(j:Nat)(p:Int),j<i->d6[j]?=σ p->p∈a->p∈e->jn s1 (iW a p)=jn f (iW e p)) Ω
  ⟨ab,by rw[rE,H];exact aK,λj p A=>Ω⟩ ?_ ?_
 .rintro i _ _ aa aN hi ⟨s,hm,J⟩ aP;simp only[aR,ak];refine⟨λ_=>?_,λh=>Ω⟩;obtain⟨p,ac⟩:=aF (l:=d6) hi;rw[bi aq.u aj.i Ψ (q.W s) ac];refine(xP (aG.W s) aH).Y ?_;rintro _ bf _ ⟨rfl,K⟩;refine(xP (G.W (s.F K)) aI).Y ?_;rintro _ aQ _ ⟨rfl,ad⟩;have ae:=(s.F K).F ad;refine aV (λv af=>Ext aQ af/\∃c,v= .bool c/\(c=ro↔p∈a/\p∈e/\jn s1 (iW a p)≠jn f (iW e p))) ?_ ?_
  .rintro _ af ⟨ah,c,rfl,ai⟩;have am:=ae.F ah;rw[bY];refine⟨λaS=>⟨am,λ_=>by first|rfl|trivial,λA=>?_⟩,λaU=>?_⟩
   .obtain⟨y,z,aW⟩:=ai.1 aS;exact m6 (A p (x6 ac) y z) aW
   .simp only[eH];intro bg ao _ _;have L:=am.F ao;obtain⟨⟨a7,gs,M,N,_⟩,_⟩:=h1.W L;obtain⟨⟨aX,aZ,O,P,_⟩,_⟩:=Z.W L;rw[bL,aT cZ.p rfl,bA (cs:=[sv]) bD.p bD.i rfl (sub M),bL,aT cZ.p rfl,bA (cs:=[E]) bD.p bD.i rfl (sub O)];refine(rN N.ls).Y ?_;rintro _ bh _ ⟨rfl,B⟩;refine⟨.inl B,?_⟩;refine(rN (P.ls.W B)).Y ?_;rintro _ bj _ ⟨rfl,ap⟩;have a1:=(L.F B).F ap;have au:=hm.W ((((K.F ad).F ah).F ao).F (B.F ap));have bk:(upto (dI s1 a f e d6) 0 i).length=d6.length:=by rw[rD,H]
    rw[tG,jB rfl aq.u aj.i au Ω];refine jC aj.i au Ω λbl a2 _ av=>?_;simp only[aO];have a6:(dI s1 a f e d6)[i]?=σ (max (jn s1 (iW a p)) (jn f (iW e p))):=by
     unfold dI;rw[v8,ac];rfl
    rw[rG a6]at av;refine aP _ _ _ ⟨a1.then a2 (by rintro r bn rfl;omega),av,λj a8 A Q y z=>?_⟩;by_cases ba:j=i
    .subst ba;rw[ac]at Q;cases Q;refine Decidable.byContradiction λbb=>?_;have:=ai.2 ⟨y,z,bb⟩;rw[aU]at this;cases this
    .exact J j a8 Ω Q y z
  .intro ay R;simp only[eH,cH,ak];intro bo C _ _;refine⟨λS=>⟨λV=>?_,λV=>⟨.inl (Ext.refl _),R _ _ ⟨C,rs,rfl,⟨(λh=>by cases h),λh=>m6 (uT.2 h.2.1) V⟩⟩⟩⟩,λS=>⟨.inl (Ext.refl _),R _ _ ⟨C,rs,rfl,⟨(λh=>by cases h),λh=>m6 (uT.2 h.1) S⟩⟩⟩⟩;have aw:=ae.F C;obtain⟨⟨a7,gs,M,N,_⟩,_⟩:=h1.W aw;obtain⟨⟨aX,aZ,O,P,_⟩,_⟩:=Z.W aw;rw[bL,aT cZ.p rfl,bA (cs:=[sv]) bD.p bD.i rfl (sub M),bL,aT cZ.p rfl,bA (cs:=[E]) bD.p bD.i rfl (sub O)];refine(rN N.ls).Y ?_;rintro _ bp _ ⟨rfl,W⟩;refine⟨.inl W,?_⟩;refine(rN (P.ls.W W)).Y ?_;rintro _ bq _ ⟨rfl,bc⟩;simp only[bF];refine R _ _ ⟨(C.F W).F bc,_,rfl,?_⟩;rw[decide_eq_true_iff];exact⟨λh=>⟨uT.1 S,uT.1 V,h⟩,λh=>h.2.2⟩
 .rintro _ _ aa aN ⟨s,hm,J⟩;simp only[aR,ak];refine⟨λh=>Ω,λ_=>?_⟩;have A:qH s1 a f e d6:=λp ac y z=>by
   obtain⟨i,hi,he⟩:=List.getElem_of_mem ac;exact J i p hi (by rw[x7 hi,he]) y z
  rw[<-H,rF]at hm;exact⟨s,λh=>m6 A h,λ_=>⟨_,gz,rfl,Ω,hm⟩⟩
def xT(a e d6:Λ):Prop:=iw d6/\∀x,x∈d6↔x∈a\/x∈e
def pB(s1 h a e j f d6:Λ)(k:Int):Λ:=
 (W3 (aQ (dI s1 a e f d6)).toNat).map λ(q:Nat)=>min (br s1 h (gp (de (dI s1 a e f d6) q) d6 a)+br e j (gp (de (dI s1 a e f d6) q) d6 f)) k
theorem D9(s1 h a e j f d6:Λ)(k:Int):(pB s1 h a e j f d6 k).length=(aQ (dI s1 a e f d6)).toNat:=by simp[pB]
theorem uU{s cs:Λ}(hk:right k)(h:∀x∈cs,cC x k):cC (br s cs t) k:=by
 have a:cC 0 k:=⟨hk,S8 _,by have:=hk.1;omega⟩;unfold br;split
 .rename_i n _;rw[u4];cases e:cs[n.toNat]? with
  |none=>exact a
  |some x=>exact h x (x6 e)
 .exact a
def Fits(s l:Λ):Prop:=l.length=s.length/\r5 l
def sa(e:Int):x1:=.tuple #[.pointer ν,.slice ν 0 0,Δ e]
def Ea(w:x4)(s1 q a f r e:Λ)(k h:Int)(v:x1)(I:x4):Prop:=
 Ext w I/\(¬(Fits s1 a/\Fits f e)->v=sa 1)/\
  (Fits s1 a/\Fits f e->∃d6,xT a e d6/\(¬qH s1 a f e d6->v=sa 1)/\(qH s1 a f e d6->(k≠h->v=sa 3)/\
   (k=h->¬ca (dI s1 a f e d6)->v=sa 1)/\(k=h->ca (dI s1 a f e d6)->4096<aQ (dI s1 a f e d6)->v=sa 5)/\
   (k=h->ca (dI s1 a f e d6)->aQ (dI s1 a f e d6)<=4096->∃j s x p,v= .tuple #[Γ j,p,Δ 0]/\
    dj I j s x (dI s1 a f e d6) k (pB s1 q a f r e d6 k)/\aM .i64 I p d6)))
theorem Pd{g bM ga bN:Nat}{bO:x1}{s1 z f y:Λ}{bd:Int}{H K:Λ}(h1:dj w g bM sv s1 k H)(av:dj w ga bN bO z bd K)(aw:aM .i64 w bm f)(Q:aM .i64 w bv y)(hk:right k)(cq:∀x∈H,cC x k)(cr:∀x∈K,cC x bd):
  al x8 JP [Γ g,bm,Γ ga,bv] w (Ea w s1 H f z K y k bd):=by
 have ct:=aw.cells;have cu:=Q.cells;have cw:=h1.2.2.1;have cz:=av.2.2.1;have sub:∀{w:x4}{g:Nat}{sv:x1}{k:Int}{a7:x1},ag w g cZ [sv,Δ k,a7]->w.rangeAt g (0+0) [sv]:=λQ=>pj Q (by
  intro j v be
  match j,be with
  |0,be=>exact be)
 refine iK func187 ?_;refine bo λg1 U dE bP G=>?_;refine bo λbQ aa dF bf L=>?_;refine bo λbR dG dH aN M=>?_;refine bo λbS Y dJ az O=>?_;have dK:=G.lt;have dL:=L.lt;have dM:=M.lt;have dN:=O.lt;have dO:=bP.size;have dP:=bf.size;have dQ:=aN.size;have dR:=az.size;have Z:=((bP.F bf).F aN).F az;have G:ag Y g1 fc [Γ g]:=((G.W bf).W aN).W az;have L:ag Y bQ aq [bm]:=by rw[ct.1]at L;exact(L.W aN).W az
 have M:ag Y bR fc [Γ ga]:=M.W az;have O:ag Y bS aq [bv]:=by rw[cu.1]at O;exact O
 refine aV (λv bT=>v= .bool rs/\Y=bT) ?_ ?_
 rotate_left
 .intro ay aO;rw[aD Ψ (G.Qz rfl),cR fc.u];simp only[Z3,aX];rw[aD Ψ (M.cell rfl),cR fc.u];exact aO _ _ ⟨rfl,rfl⟩
 rintro _ _ ⟨rfl,rfl⟩;simp only[aX];refine aV (λv bU=>Ext Y bU/\∃c,v= .bool c/\(c=ro↔¬(Fits s1 f/\Fits z y))) ?_ ?_
 rotate_left
 .intro ay aO;rw[aD Ψ (G.cell rfl),aD Ψ (L.cell rfl)];refine(DY (h1.W Z) (aw.W Z)).Y ?_;rintro _ bT _ ⟨ab,c,rfl,aB⟩;simp only[bC,bY];refine⟨λaP=>aO _ _ ⟨ab,ro,rfl,λ_ h=>?_,λ_=>rfl⟩,λbV=>?_⟩
  .have:=aB.2 h.1;rw[this]at aP;cases aP
  .have cA:c=ro:=by cases c<;>simp_all
   rw[aD Ψ ((M.W ab).cell rfl),aD Ψ ((O.W ab).cell rfl)];refine(DY ((av.W Z).W ab) ((Q.W Z).W ab)).Y ?_;rintro _ dS _ ⟨cB,d,rfl,bW⟩;simp only[bC];refine aO _ _ ⟨ab.F cB,_,rfl,λh ao=>?_,λh=>?_⟩
   .have:=bW.2 ao.2;rw[this]at h;cases h
   .cases d with
    |false=>rfl
    |true=>exact m6 ⟨aB.1 cA,bW.1 rfl⟩ h
 rintro _ bU ⟨aC,c,rfl,aB⟩;have bg:=Z.F aC;rw[bY];refine⟨λaP dT cD _=>⟨bg.F cD,λ_=>rfl,λh=>m6 h (aB.1 aP)⟩,λbV=>?_⟩;have aE:=Classical.byContradiction λh=>by
  have:=aB.2 h;rw[bV]at this;cases this
 obtain⟨⟨dU,cE⟩,dV,cF⟩:=id aE;have dW:=cw.1;have dX:=cz.1;rw[aD Ψ ((L.W aC).cell rfl),aD Ψ ((O.W aC).cell rfl)];refine Pb (aw.W bg) (Q.W bg) Ω Ω λdY dZ ea bX eb cG=>?_;refine xM cG.ls (by rw[r9];omega) λec ed ee m bZ ef b0 cH cI=>?_;have cJ:=b0.length_eq;rw[r9]at cJ;refine(O9 cI Ω).Y ?_;rintro bh eg _ ⟨cK,bi⟩;have eh:=aC.size;have ei:=bX.size;have ej:=bZ.size;have b1:=(bX.F bZ).then cK (by rintro r aR rfl;omega);obtain⟨cM,cN⟩:=DX cH (p8 _);have ek:=DW m m.length;have P:xT f y (dedup m m.length):=⟨cM,λx=>by rw[cN,o6,b0.mem_iff,j4]⟩;generalize dedup m m.length=d6 at*;refine bB aq.i λbc em en b2 cO=>?_;refine bq aq.i bi.ls.cells.1 bi.ls.cells.2 cO (by simp[x1.cells]) λeo cP ep aF=>?_;have er:=b1.size;have es:=b2.size;have bj:=b2.then cP (by rintro r aR rfl;omega);have ad:=(aC.F b1).F bj;have aH:=Z.F ad;have cL:=aF.lt;have b3:=bi.ls.W bj;have aF:=aF;rw[aD Ψ (aF.cell rfl),aD Ψ ((G.W ad).cell rfl),aD Ψ ((L.W ad).cell rfl),aD Ψ ((M.W ad).cell rfl),aD Ψ ((O.W ad).cell rfl)];refine(Pc (h1.W aH) (av.W aH) b3 (aw.W aH) (Q.W aH) cE.up cF.up Ω).Y ?_;rintro et eu _ ⟨aI,cQ,cS⟩;have b4:=aH.F aI;by_cases ae:qH s1 f z y d6
 rotate_left
 .rw[cQ ae,bu,bw];simp only[bC,W7,bH];intro ev cT _;exact⟨b4.F cT,λh=>m6 aE h,λ_=>⟨d6,P,λ_=>rfl,λh=>m6 h ae⟩⟩
 obtain⟨xs,an,rfl,ew,cU⟩:=cS ae;rw[bu,bw];simp only[bC,X1,aX];intro ah ai _ _;have aU:=(ad.F aI).F ai;have am:=b4.F ai;have G:=G.W aU;have L:=L.W aU;have M:=M.W aU;have O:=O.W aU;have cV:=(aF.W aI).W ai;obtain⟨⟨a7,gs,b5,ey,_⟩,_⟩:=h1.W am;obtain⟨⟨ez,eA,cW,eB,_⟩,_⟩:=av.W am;rw[aD Ψ (G.cell rfl),aG cZ.p 1 b5 rfl,aD Ψ (M.cell rfl),aG cZ.p 1 cW rfl];simp only[bF,ak];refine⟨λR eC cX _=>⟨am.F cX,λh=>m6 aE h,λ_=>⟨d6,P,λh=>m6 ae h,λ_=>⟨λ_=>rfl,λh=>m6 h R,λh=>m6 h R,λh=>m6 h R⟩⟩⟩,λR=>?_⟩;have R:=X5.1 R;subst R;rw[aD Ψ (G.cell rfl),aG cZ.p 1 b5 rfl];have cY:=cU.W ai;refine(w1 cY.ls).Y ?_;rintro aS aW _ ⟨b6,c0,c1,_,c2⟩;have eD:=bj.size;have eE:=aI.size;have eF:=ai.size;have eH:=b6.size;obtain⟨aJ,e,rfl,eI,aY⟩:∃(aJ:Option Addr)(e:Int),aS= .tuple #[.pointer aJ,Δ e]/\(e=0->aJ≠ν)/\((e=1/\¬ca (dI s1 f z y d6))\/(e=5/\ca (dI s1 f z y d6)/\4096<aQ (dI s1 f z y d6))\/(e=0/\ca (dI s1 f z y d6)/\aQ (dI s1 f z y d6)<=4096/\
   ∃B A C,aJ=σ ⟨B,0,ν⟩/\ah.heap.size<=B/\ah.heap.size<=A/\(∀r,lc C r->ah.heap.size<=r)/\dj aW B A C (dI s1 f z y d6) k (o4 (aQ (dI s1 f z y d6)).toNat 0))):=by
  by_cases J:ca (dI s1 f z y d6)
  .by_cases ac:aQ (dI s1 f z y d6)<=4096
   .obtain⟨B,A,C,c3,c4,c5,c6,c7⟩:=c2 J ac ⟨hk,Ω,by have:=hk.1;omega⟩;exact⟨_,_,c3,(λ_ h=>by cases h),.inr (.inr ⟨rfl,J,ac,B,A,C,rfl,c4,c5,c6,c7⟩)⟩
   .exact⟨_,_,c1 J Ω,(λh=>Ω),.inr (.inl ⟨rfl,J,Ω⟩)⟩
  .exact⟨_,_,c0 J,(λh=>Ω),.inl ⟨rfl,J⟩⟩
 rw[bu,bw];refine bB fc.i λb7 eJ eK b8 aK=>?_;refine bq fc.i rfl rfl aK (by simp[x1.cells]) λeL c8 eM aK=>?_;have eN:=b8.size;have bk:=b8.then c8 (by rintro r aR rfl;omega);have b9:=b6.F bk;have c9:=am.F b9;have eO:=aK.lt;simp only[bF,ak];refine⟨λda eP db _=>⟨c9.F db,λh=>m6 aE h,λ_=>⟨d6,P,λh=>m6 ae h,λ_=>⟨λh=>m6 rfl h,λ_ J=>?_,λ_ J ac=>?_,λ_ J ac=>?_⟩⟩⟩,λeQ=>?_⟩
 .rcases aY with⟨rfl,_⟩|⟨_,h,_⟩|⟨_,h,_⟩
  .rfl
  .exact m6 h J
  .exact m6 h J
 .rcases aY with⟨_,h⟩|⟨rfl,_⟩|⟨_,_,h,_⟩
  .exact m6 J h
  .rfl
  .omega
 .rcases aY with⟨_,h⟩|⟨_,_,h⟩|⟨h,_⟩
  .exact m6 J h
  .omega
  .exact m6 h da
 obtain⟨aZ,dc,B,A,C,rfl,eR,eS,eU,a1⟩:ca (dI s1 f z y d6)/\aQ (dI s1 f z y d6)<=4096/\
   ∃B A C,aJ=σ ⟨B,0,ν⟩/\ah.heap.size<=B/\ah.heap.size<=A/\(∀r,lc C r->ah.heap.size<=r)/\dj aW B A C (dI s1 f z y d6) k (o4 (aQ (dI s1 f z y d6)).toNat 0):=by
  rcases aY with⟨h,_⟩|⟨h,_⟩|⟨_,h⟩
  .omega
  .omega
  .exact h
 obtain rfl:e=0:=Ω
 have dd:(dI s1 f z y d6).length=d6.length:=D8 _ _ _ _ _;have eV:=prod_bound aZ;obtain⟨N,a2⟩:∃N:Nat,(aQ (dI s1 f z y d6)).toNat=N:=⟨_,rfl⟩;rw[a2]at a1;have eW:0<N:=Ω
 have df:=a1.W bk;obtain⟨⟨bl,cb,cc,cd,dg⟩,⟨ce,cf,_⟩,_,eX⟩:=id df;have eY:B<aW.heap.size:=by obtain⟨⟨_,_,q,_⟩,_⟩:=id a1;exact q.lt
 have eZ:A<aW.heap.size:=by obtain⟨⟨_,_,_,_,q⟩,_⟩:=id a1;exact uK q Θ
 rw[aD Ψ (aK.cell rfl),bL,aT cZ.p rfl,bA (cs:=[C]) bD.p bD.i rfl (sub cc)];refine uo.Y ?_;rintro _ a6 _ ⟨W,a8,rfl,e0,cg⟩;have e1:=bk.size;have e2:=W.size;let S:Nat->Prop:=λr=>r=A;let ap:=pB s1 H f z K y d6 k;have bn:ap.length=N:=by simp only[ap];rw[D9,a2]
 have dh:=(b3.W aI).W ai;let di:x4->Prop:=λI=>ag I g1 fc [Γ g]/\ag I bQ aq [bm]/\ag I bR fc [Γ ga]/\ag I bS aq [bv]/\ag I bc aq [bh]/\aM .i64 I bh d6/\
  ag I b7 fc [Γ B]/\ag I B cZ [C,Δ k,bl]/\dj I g bM sv s1 k H/\dj I ga bN bO z k K/\aM .i64 I bm f/\aM .i64 I bv y/\aA .i64 aj I cb C (dI s1 f z y d6)/\ag I a8 bD [C]/\a6.heap.size<=I.heap.size
 have ch:=b9.F W;have facts:∀{a:x4},af S a6 a->di a:=by
  intro a E;have X:=ch.put E Ω;have ba:=am.F X;exact⟨G.W X,L.W X,M.W X,O.W X,cV.W X,dh.W X,(aK.W W).V E (by show¬(b7=A);omega),(cc.W W).V E (by show¬(B=A);exact ce),h1.W ba,av.W ba,aw.W ba,Q.W ba,
   bs (cd.W W) E (λr aR he=>cf ((show r=A from he)▸aR)),cg.V E (by show¬(a8=A);omega),E.size⟩
 have ci:=um (g:=a8) (B0:=a6.heap.size) (sv:=C) aZ;rw[a2]at ci;refine nR.old ⟨Nat,rs,mi,#[Γ a8],0,_,_,_,λq I=>af S a6 I/\aA .i64 au I A bl (upto ap 0 q),λ_ _ _=>False,rfl,ci.s,
  ?_,λ_ _ E h=>⟨h.1.W E,h.2.1.W E,Y9 h.2.2 E.size⟩,λ_ _ _ E h=>⟨h.1.F (E.V S),h.2.W E⟩,λ_ _ _ _ _ h=>h,⟨cg,(cd.W W).ls,p8 _⟩,⟨af.refl _ _,?_⟩,?_,?_,λ_ _ h=>h.elim,λ_ _ _ h=>h.elim⟩
 .rintro _ _ _ _ ⟨_,_,_,_,rfl,_⟩;rfl
 .rw[rE,bn];exact dg.W W
 .rintro _ aS q _ e3 ⟨_,_,e4⟩ ⟨bp,rfl,e5,gt,dk,e6,cj⟩ ⟨bb,dl⟩;cases dk;let x:=de (dI s1 f z y d6) (q:Int);have ck:x.length=d6.length:=by simp only[x];rw[kB,dd]
  intro e7 dm _ _;intro e8 dn _ _;have bt:=dm.F dn;obtain⟨f1,f2,f3,f4,f5,f6,f7,f8,f9,f10,f11,f12,f13,f14,f15⟩:=facts (bb.F (bt.V S));rw[aD Ψ (f1.cell rfl),aD Ψ (f5.cell rfl),aD Ψ (f2.cell rfl)];refine(D0 (cj.ls.W bt) f6 f11 P.1 (λp ac=>(P.2 p).2 (.inl ac)) ck Ω).Y ?_;rintro e9 fa _ ⟨bx,fb,fd,dp⟩;refine⟨.inl bx,?_⟩;refine(w2 (f9.W bx) dp.ls).Y ?_;rintro _ fe _ ⟨rfl,dq⟩;obtain⟨ff,dr⟩:=xL s1 (gp x d6 f) H;have ds:=dr;rw[ds,bu,bw];intro fg dt _ _;have bz:=((bt.F bx).F dq).F dt;obtain⟨f1,f2,f3,f4,f5,f6,f7,f8,f9,f10,f11,f12,f13,f14,f15⟩:=facts (bb.F (bz.V S));rw[aD Ψ (f3.cell rfl),aD Ψ (f5.cell rfl),aD Ψ (f4.cell rfl)];refine(D0 (cj.ls.W bz) f6 f12 P.1 (λp ac=>(P.2 p).2 (.inr ac)) ck Ω).Y ?_;rintro fh fi _ ⟨bE,fj,fk,du⟩;refine⟨.inl bE,?_⟩;refine(w2 (f10.W bE) du.ls).Y ?_;rintro _ fm _ ⟨rfl,dv⟩;obtain⟨fo,dw⟩:=xL z (gp x d6 y) K;have dx:=dw;rw[dx,bu,bw];intro fp dy _ _;have bG:=((bz.F bE).F dv).F dy;obtain⟨f1,f2,f3,f4,f5,f6,f7,f8,f9,f10,f11,f12,f13,f14,f15⟩:=facts (bb.F (bG.V S));rw[aD Ψ (f7.cell rfl),aG cZ.p 2 f8 rfl,aD Ψ (f7.cell rfl),aG cZ.p 1 f8 rfl];refine CK.Y ?_;rintro _ fq _ ⟨rfl,bI⟩;refine⟨.inl bI,?_⟩;have dz:rM (br s1 H (gp x d6 f)) (br z K (gp x d6 y)) k= .tuple #[Δ (min (br s1 H (gp x d6 f)+br z K (gp x d6 y)) k),Δ 0]:=m3 ⟨uU hk cq,uU hk cr⟩;rw[dz,j3 (v:=Δ (min (br s1 H (gp x d6 f)+br z K (gp x d6 y)) k)) rfl,j3 (v:=Δ 0) rfl];have cl:=dl.W (bG.F bI);have fs:(upto ap 0 q).length=N:=by rw[rD,bn]
  rw[jB rfl ax.u au.i cl Ω];refine jC au.i cl Ω λft dA fu cm=>?_;have cn:=(bb.F ((bG.F bI).V S)).F (dA.Y λr _ h=>h);obtain⟨f1,f2,f3,f4,f5,f6,f7,f8,f9,f10,f11,f12,f13,f14,f15⟩:=facts cn;have dC:ap[q]?=σ (min (br s1 H (gp x d6 f)+br z K (gp x d6 y)) k):=by
   simp only[ap,pB];rw[v8,List.getElem?_range (by rw[a2];exact bp)];rfl
  rw[rG dC]at cm;exact⟨⟨f14,f13.ls,f15⟩,⟨cn,cm⟩,λh=>by cases h⟩
 .rintro q fv bp ⟨cp,bJ⟩;rw[show q=N from bp]at bJ;intro fw bK _ _;obtain⟨f1,f2,f3,f4,f5,f6,f7,f8,f9,f10,f11,f12,f13,f14,f15⟩:=facts (cp.F (bK.V S));rw[aD Ψ (f7.cell rfl),aD Ψ (f5.cell rfl)];intro fx aL _;rw[<-bn,rF]at bJ;have dD:=am.F ch;refine⟨((dD.put cp Ω).F bK).F aL,λh=>m6 aE h,λ_=>⟨d6,P,λh=>m6 ae h,λ_=>⟨λh=>m6 rfl h,λ_ h=>m6 aZ h,λ_ _ h=>Ω,λ_ _ _=>⟨B,A,C,bh,rfl,⟨⟨bl,cb,f8.W aL,f13.W aL,(bJ.W bK).W aL⟩,⟨ce,cf,dc⟩,aZ,D9 _ _ _ _ _ _ _ _⟩,f6.W aL⟩⟩⟩⟩
theorem iw.pair(h:iw l):l.Pairwise (·< ·):=U8.2 λi j hi a e=>h i j _ _ e (x7 hi) (x7 a)
theorem Pe{m:Λ}(e:iw l)(hm:iw m)(h:∀x,x∈l↔x∈m):l=m:=by
 have f:l.Nodup:=e.pair.imp λh=>Ω
 have j:m.Nodup:=hm.pair.imp λh=>Ω
 exact List.Perm.eq_of_pairwise (le:=(·<= ·)) (λa b _ _ h1 p=>Int.le_antisymm h1 p) (e.pair.imp λh=>Int.le_of_lt h) (hm.pair.imp λh=>Int.le_of_lt h) ((List.perm_ext_iff_of_nodup f j).2 h)
theorem Pf{d6:Λ}(h:xT l l d6)(hu:iw l):d6=l:=Pe h.1 hu λx=>by rw[h.2];simp
theorem Eb(h:l.Pairwise (·< ·)):iw l:=λi j x y e f p=>by
 have h1:=x5.1 f;have a:=x5.1 p;have:=U8.1 h i j h1.1 a.1 e;rw[h1.2,a.2]at this;exact this
theorem Pg{x:Λ}(hu:l.Nodup)(h:x.length=l.length):gp x l l=x:=by
 refine X3 λi=>?_;unfold gp;cases a:l[i]? with
 |none=>rw[v8,a,Y4 (by have:=List.getElem?_eq_none_iff.1 a;omega)];rfl
 |some v=>
  have hi:=(x5.1 a).1;rw[v8,a,Y3,r3 hu a,u4,x7 (show i<x.length by omega)];rfl
theorem Ec{s:Λ}(hu:iw l)(h:s.length=l.length):dI s l s l l=s:=by
 refine X3 λi=>?_;unfold dI;cases a:l[i]? with
 |none=>rw[v8,a,Y4 (by have:=List.getElem?_eq_none_iff.1 a;omega)];rfl
 |some v=>
  have hi:=(x5.1 a).1;rw[v8,a,Y3,DZ hu a,Int.max_self,x7 (show i<s.length by omega)];unfold jn;rw[m3 Ω,u4,u6,x7 (show i<s.length by omega)];rfl
theorem Ph{s b:Λ}(hu:l.Pairwise (·< ·))(h:s.length=l.length)(J:dG s)(e:a.length=(aQ s).toNat)(f:b.length=(aQ s).toNat):pB s a l s b l l k=ez k a b:=by
 have j:l.Nodup:=hu.imp λh=>Ω
 unfold pB;rw[Ec (Eb hu) h,N1 J e f];apply List.map_congr_left;intro q _;rw[Pg j (by rw[kB,h])]
theorem Pj{s b:Λ}(hu:l.Pairwise (·< ·))(B:∀x∈l,0<=x)(h:s.length=l.length)(J:ca s)(ac:aQ s<=4096)(C:a.length=(aQ s).toNat)(E:b.length=(aQ s).toNat)(f:Ea w s a l s b l k k v I):
  Ext w I/\∃e j q r,v= .tuple #[Γ e,r,Δ 0]/\dj I e j q s k (ez k a b):=by
 obtain⟨F,_,f⟩:=f;have y:=Eb hu;have z:Fits s l:=⟨h.symm,OI y B⟩;obtain⟨d6,G,_,H⟩:=f ⟨z,z⟩;have K:=Pf G y;subst K;obtain⟨_,_,_,A⟩:=H λp M N O=>rfl;rw[Ec y h,Ph hu h J.2 C E]at A;obtain⟨e,j,q,r,rfl,L,_⟩:=A rfl J ac;exact⟨F,e,j,q,r,rfl,L⟩
theorem Pk{s:Λ}(J:dG s):(bp s).Nodup:=(DO J).imp λ{a b}h he=>by subst he;omega
theorem Pl{s:Λ}{i:Nat}(J:dG s)(hi:(bp s)[i]?=σ t)(a:(bp s)[j]?=σ t):i=j:=lU (Pk J) hi a
theorem Pm{s:Λ}(J:dG s)(h:dt s t):∃j:Nat,(bp s)[j]?=σ t:=X6.1 ((DN J).2 h)
theorem uV{g m:Nat}{d:List (x1×x1)}(h:ag w g e cs)(hm:db w m d)(a:af (λr=>r=m) w I):ag I g e cs:=h.V a (λhe=>uL h hm he)
theorem Ed{g m:Nat}{k:o7}{d:List (x1×x1)}(h:aA k e w g v l)(hm:db w m d)(a:af (λr=>r=m) w I):aA k e I g v l:=bs h a (λ_ f he=>DQ h hm f he)
def uW(cs:Λ)(o:Int):Prop:=o∈cs/\∀d∈cs,cs.count d<cs.count o\/(cs.count d=cs.count o/\o<=d)
theorem Pn{i:Nat}{x:Int}(h:l[i]?=σ x)(y:Int):(l.take (i+1)).count y=(l.take i).count y+if y=x then 1 else 0:=by
 rw[r8,h,List.count_append];congr 1;simp only[o9,List.count_singleton];by_cases a:y=x
 .subst a;simp
 .rw[m5 a,m5 (by simpa using λh=>a h.symm)]
def ig(p:Int×Int):x1×x1:=(Δ p.1,Δ p.2)
theorem sb:Keys x8 au λv=>∃n,v=Δ n:=Keys.int au.u
theorem sd(E:List (Int×Int)):∀p∈E.map ig,∃n,p.1=Δ n:=λp ac=>by
 obtain⟨q,_,rfl⟩:=j0.1 ac;exact⟨_,rfl⟩
def xU(cs:Λ)(E:List (Int×Int)):Prop:=(∀x,x∈E.map (·.1)↔x∈cs)/\∀p∈E,p.2=(cs.count p.1:Nat)
theorem Ee{cs:Λ}{E:List (Int×Int)}(h:xU cs E){x:Int}(a:x∈cs):∃j:Nat,E[j]?=σ (x,((cs.count x:Nat):Int)):=by
 obtain⟨p,ac,rfl⟩:=j0.1 ((h.1 x).2 a);obtain⟨j,e⟩:=X6.1 ac;exact⟨j,by rw[e,<-h.2 p ac]⟩
theorem Ef{cL:x1}{cs:Λ}(h:aM .i64 w cL cs)(av:cs≠[])(bf:cs.length<=1000000):al x8 tC [cL] w λv I=>Ext w I/\∃o,v=Δ o/\uW cs o:=by
 refine aB func250 ?_;refine aH.cu (ur λm U hm V aL bg=>?_);rw[aY ax.u (h.W V)];refine bZ.range cs.length (λi aa=>af (λr=>r=m) U aa/\∃E,db aa m (E.map ig)/\xU (cs.take i) E) Ω ⟨af.refl _ _,[],aL,by simp[xU]⟩ ?_ ?_
 .rintro i aa aN hi ⟨C,E,z,e⟩ aw;obtain⟨x,W⟩:=aF (l:=cs) hi;have G:Ext w aa:=V.put C Ω;have aP:∀y,(cs.take i).count y<=1000000:=λy=>by
   have:=List.count_le_length (a:=y) (l:=cs.take i);rw[o8]at this;omega
  refine bI Ω ?_;rw[bi ax.u au.i Ψ (h.W G) W];have N:=Pn W;have az:∀y,y∈cs.take (i+1)↔y∈cs.take i\/y=x:=λy=>by
   rw[r8,W];simp
  by_cases H:x∈cs.take i
  .obtain⟨j,X⟩:=Ee e H;have O:(E.map ig)[j]?=σ (Δ x,Δ (((cs.take i).count x:Nat):Int)):=by rw[v8,X];rfl
   rw[rO ng.u sb z (sd E) ⟨_,rfl⟩ O];simp only[Bool.false_eq_true,if_false];have:=aP x;rw[aO,li Ω Ω];refine aH.cu (rP ng.u sb z (sd E) ⟨_,rfl⟩ (λP v0 Y Z J ad aQ=>?_) (λY Q=>m6 rfl (Q _ (x6 O))));have aS:=z.uniq Z O rfl;subst aS;rw[aO];have ae:(E.map ig).set P (Δ x,Δ ((((cs.take i).count x:Nat):Int)+1))=(E.set P (x,(((cs.take i).count x:Nat):Int)+1)).map ig:=by rw[T2];rfl
   rw[ae]at J;have aT:=(x5.1 X).1;refine aw _ ⟨C.F ad,_,J,λy=>?_,λp ac=>?_⟩
   .rw[T2,rH (by rw[v8,X];rfl),e.1,az];exact⟨.inl,λh=>h.elim id (λh=>h▸H)⟩
   .obtain⟨q,f⟩:=X6.1 ac;by_cases ag:P=q
    .subst ag;rw[l9 aT]at f;cases f;show _=(((cs.take (i+1)).count x:Nat):Int);rw[N,m3 rfl];omega
    .rw[Z9 ag]at f;have ah:p.1≠x:=λhe=>ag (z.uniq O (show(E.map ig)[q]?=σ (ig p) by rw[v8,f];rfl) (by rw[ig,he]));rw[e.2 p (x6 f),N,m5 ah,Nat.add_zero]
  .have Q:∀p∈E.map ig,p.1≠U6 .i64 x:=λp ac he=>by
    obtain⟨q,f,rfl⟩:=j0.1 ac;have:q.1=x:=by simpa[ig]using he
    exact H ((e.1 x).1 (j0.2 ⟨q,f,this⟩))
   rw[ut ng.u sb ⟨_,_,aj.i⟩ z (sd E) ⟨_,rfl⟩ Q];simp only[Bool.false_eq_true,if_false];rw[aO,li Ω Ω];refine aH.cu (rP ng.u sb z (sd E) ⟨_,rfl⟩ (λP v0 Y Z=>m6 rfl (Q _ (x6 Z))) (λY _ J ad aQ=>?_));rw[aO];have ae:E.map ig++[(U6 .i64 x,U6 .i64 (0+1))]=(E++[(x,1)]).map ig:=by rw[Z5];rfl
   rw[ae]at J;have aU:(cs.take i).count x=0:=List.count_eq_zero.2 H;refine aw _ ⟨C.F ad,_,J,λy=>?_,λp ac=>?_⟩
   .rw[Z5,j4,e.1,az];simp
   .rcases j4.1 ac with ac|ac
    .have ah:=λhe=>H ((e.1 x).1 (j0.2 ⟨p,ac,he⟩));rw[e.2 p ac,N,m5 ah,Nat.add_zero]
    .rw[j6.1 ac];show(1:Int)=(((cs.take (i+1)).count x:Nat):Int);rw[N,m3 rfl,aU];rfl
 rintro aa aN ⟨C,E,z,e⟩;rw[o6]at e;have G:=V.put C Ω;refine cc Ω ?_;refine(MD (h.W G) av).Y ?_;rintro _ aW bh ⟨rfl,ai⟩;have bj:=G.size;have bl:=ai.size;refine aH.cu (CO ng.u (z.W ai) λL bm bn aZ bo a1 bp=>?_);refine⟨λqI B=>∃b A s left aA,qI=Δ b/\b∈cs/\Ext aW B/\iR B L m (E.map ig) left aA/\left=s.map ig/\(A++s).Perm E/\∀p∈A,cs.count p.1<cs.count b\/(cs.count p.1=cs.count b/\b<=p.1),λ_ B=>qB B L,
  ⟨xi cs,[],E,E.map ig,ν,rfl,(Mh av).1,aZ,a1,rfl,List.Perm.refl _,λp ac=>by cases ac⟩,?_⟩
 rintro _ B ⟨b,A,s,left,aA,rfl,am,an,aC,rfl,R,ao⟩;refine CQ aC (λ_=>by show w.heap.size<=L;omega) (λa2=>?_) (λj p ap ac aD bq M=>?_)
 .rw[j3 (v:=.bool rs) rfl,aX];have:s=[]:=List.map_eq_nil_iff.1 a2;subst this;rw[W5]at R;refine⟨(G.F ai).F an,b,rfl,am,λd a6=>?_⟩;obtain⟨q,f,rfl⟩:=j0.1 ((e.1 d).2 a6);exact ao q (R.mem_iff.2 f)
 .rw[j3 (v:=.bool ro) rfl,bH];refine CR M ?_;obtain⟨q,f,rfl⟩:∃q,s[j]?=σ q/\ig q=p:=by
   rw[v8]at ac;exact X0.1 ac
  have aE:=R.mem_iff.1 (j4.2 (.inr (x6 f)));have br:=e.2 q aE;have a7:=(e.1 q.1).1 (j0.2 ⟨q,aE,rfl⟩);obtain⟨a8,ba⟩:=Ee e am;have bb:(E.map ig)[a8]?=σ (Δ b,Δ ((cs.count b:Nat):Int)):=by rw[v8,ba];rfl
  rw[j3 (v:=Δ q.1) rfl,j3 (v:=Δ q.2) rfl];have aG:(A++[q]++s.eraseIdx j).Perm E:=by
   refine List.Perm.trans ?_ R;rw[X9];exact List.Perm.append_left A (xw f)
  have aI:qB ap L<qB B L:=by
   rw[uy M,uy aC];have:=C3 (x5.1 ac).1;omega
  refine aV (λv bc=>ap=bc/\∃r:Bool,v= .bool r/\(r=ro↔(cs.count b<cs.count q.1\/(cs.count q.1=cs.count b/\q.1<b)))) ?_ ?_
  .rintro _ _ ⟨rfl,r,rfl,S⟩;rw[bY];refine⟨λbd=>?_,λaJ=>?_⟩
   .have S:=S.1 bd;refine⟨⟨q.1,A++[q],s.eraseIdx j,_,_,rfl,a7,an.F aD,M,(od ig s j),aG,λp ac=>?_⟩,aI⟩;rcases j4.1 ac with ac|ac
    .have:=ao p ac;omega
    .rw[j6.1 ac];exact .inr ⟨rfl,S8 _⟩
   .have S:¬(cs.count b<cs.count q.1\/(cs.count q.1=cs.count b/\q.1<b)):=λh=>by rw[S.2 h]at aJ;cases aJ
    refine⟨⟨b,A++[q],s.eraseIdx j,_,_,rfl,am,an.F aD,M,(od ig s j),aG,λp ac=>?_⟩,aI⟩;rcases j4.1 ac with ac|ac
    .exact ao p ac
    .rw[j6.1 ac];omega
  .intro ay aq;have aK:∀K:x1->Prop,ab x8 (Instr.lookup ng (.map (σ m)) (Δ b) rs) ap K=K (Δ ((cs.count b:Nat):Int)):=λK=>by
    rw[rO ng.u sb M.map (sd E) ⟨_,rfl⟩ bb];simp
   rw[aK,bO,ak];refine⟨λh1=>aq _ _ ⟨rfl,ro,rfl,⟨λ_=>.inl Ω,λ_=>rfl⟩⟩,λh1=>?_⟩;rw[aK,bk,ak];refine⟨λbe=>?_,λbe=>aq _ _ ⟨rfl,rs,rfl,⟨λh=>(by cases h),λh=>Ω⟩⟩⟩;rw[aR];refine aq _ _ ⟨rfl,_,rfl,?_⟩;rw[ne];omega
theorem Po{g:Nat}{k:o7}{p:p9}(h:aA k e w g v l)(q:ag w j p cs)(x:e≠p)(s:lc v r):r≠j:=by
 obtain⟨rfl,_⟩:=bV h s;obtain⟨_,⟨rfl,_⟩|⟨_,_,_,f,_⟩⟩:=h
 .obtain⟨a,n,c,h,_⟩:=s;cases h
 .rintro rfl;unfold ag at q f;rw[q]at f;injection f with h1;injection h1 with z y;exact x y.symm
def Pp(w:x4)(ai:Λ)(k:Int)(cs:Λ)(v:x1)(I:x4):Prop:=Ext w I/\∃g m o D,v=Γ g/\eU I g m ai k o D/\D.length<=(aQ ai).toNat/\jL ai (jH D o) cs/\uW cs o
theorem Pq{g bO:Nat}{cs:Λ}(h:dj w g bO sv ai k cs)(aF:∀c∈cs,cC c k):al x8 JW [Γ g] w (Pp w ai k cs):=by
 obtain⟨⟨a7,gs,bb,hm,ck⟩,⟨_,_,bc⟩,J,an⟩:=id h;have ac:=prod_bound J;have cl:=J.1;have bd:cs≠[]:=λhe=>by rw[he]at an;simp at an;omega
 refine iK func197 ?_;rw[cR fc.u];simp only[Z3,aX];refine(oc h).Y ?_;rintro cL aa _ ⟨O,cm,cn,aG⟩;refine bB ax.i λao cp cq be bf=>?_;have cr:=bf.lt;refine bq ax.i aG.ls.cells.1 aG.ls.cells.2 bf (by simp[x1.cells]) λap bP ct aq=>?_;have aq:ag ap ao ax [cL]:=aq;have cu:=O.size;have cw:=be.size;have bg:Ext aa ap:=be.put bP Ω;have bh:=aG.W bg;have Z:=O.F bg;refine aV (λu av=>∃a E m o K L,u=Γ a/\Ext ap av/\ag av a e1 [Γ E]/\ap.heap.size<=m/\gn av E m K L ai k o []/\uW cs o) ?_ ?_
 .rintro _ av ⟨a,E,m,o,K,L,rfl,ad,e,cz,A,C⟩;have bQ:=h.W (Z.F ad);have bR:=aq.W ad;have bS:=bh.W ad;refine(qz bQ).Y ?_;rintro _ cA _ ⟨rfl,bT⟩;refine uo.Y ?_;rintro _ aI _ ⟨bU,bj,rfl,cB,bk⟩;have P:=bT.F bU;have bl:=A.W P;have bV:=bR.W P;have bm:=e.W P;have bW:=bS.W P;have bn:=hm.W ((Z.F ad).F P);have Q:=bl.2.2.1;have bX:=(Z.F ad).F P;have cD:=Z.size;have bY:=um (g:=bj) (B0:=aI.heap.size) (sv:=sv) J;refine nR.old ⟨Nat,rs,mi,#[Γ bj],_,_,_,_,λi I=>af (λr=>r=m) aI I/\∃D,D.length<=i/\gn I E m K L ai k o D/\∀(j:Nat)t,(bp ai)[j]?=σ t->jH D o t=if j<i then br ai cs t else o,λ_ _ _=>False,rfl,bY.s,
   ?_,λ_ _ S h=>⟨h.1.W S,h.2.1.W S,Y9 h.2.2 S.size⟩,λ_ _ _ S ⟨h1,D,bZ,b0,bc⟩=>⟨h1.F (S.V _),D,bZ,b0.W S,bc⟩,λ_ _ _ _ _ h=>h,⟨bk,bn.ls,p8 _⟩,⟨af.refl _ _,[],p8 _,bl,λj t _=>by rw[m5 Ω];rfl⟩,?_,?_,λ_ _ h=>h.elim,λ_ _ _ h=>h.elim⟩
  .rintro _ _ _ _ ⟨_,_,_,_,rfl,_⟩;rfl
  .rintro _ aS i _ b1 ⟨cF,cG,b2⟩ ⟨hi,rfl,cH,gt,b3,cI,y⟩ ⟨aw,D,bo,aJ,aK⟩;cases b3;have aL:(bp ai)[i]?=σ (de ai (i:Int)):=qs J.2 Ω;have b4:=xj J.2 hi;generalize de ai (i:Int)=t at*;have bs:=N8 J.2 an aL;intro b5 az _ _;intro b6 b7 _ _;have aA:=az.F b7;have aB:af (λr=>r=m) aI b6:=aw.F (aA.V _);rw[aD Ψ ((uV bm Q aB).cell rfl),aD Ψ ((uV bV Q aB).cell rfl),bi ax.u au.i Ψ (Ed bW Q aB).ls bs];have aN:=aJ.W aA;refine(C2 aN.is (y.W aA).ls).Y ?_;rintro _ cJ _ ⟨_,b8⟩;obtain⟨rfl,aO,D',bt,bx⟩:=b8 ⟨b4,aF _ (x6 bs)⟩;have aP:=aB.F aO;have cK:=bt.2;refine⟨⟨uV bk Q aP,(Ed bn Q aP).ls,Y9 b2 (Y9 aA.size aO.size)⟩,⟨aP,D',Ω,aN.put aO bx,λj s M=>?_⟩,λh=>by cases h⟩;rw[bt.cost aN.is.nodup bx.nodup];by_cases bz:j=i
   .subst bz;rw[aL]at M;cases M;rw[m3 rfl,m3 Ω]
   .rw[m5 (λ(he:s=t)=>bz (Pl J.2 (by rw[<-he];exact M) aL)),aK j s M];by_cases h1:j<i
    .rw[m3 h1,m3 Ω]
    .rw[m5 h1,m5 Ω]
  .rintro i b1 rfl ⟨aw,D,bo,aJ,aK⟩;rw[aD Ψ ((uV bm Q aw).cell rfl)];intro b5 az _;refine⟨(bX.put aw Ω).F az,E,m,o,D,rfl,aJ.is.W az,bo,⟨an,λt b9=>?_⟩,C⟩;obtain⟨j,M⟩:=Pm J.2 b9;have:=(x5.1 M).1;rw[jy J.2]at this;rw[aK j t M,m3 this]
 intro ay bA;intro z ae _ _;have aQ:=Z.F ae;have bC:=ae;have aC:=h.W aQ;have bD:=bh.W ae;have cM:=ae.size;rw[aD Ψ ((aq.W ae).cell rfl)];have bE:∀{a:Nat}{I:x4}{aS:x1}{o:Int},Ext z I->z.heap.size<=a->(∃f,ag I a e1 [f])->aM .i64 I aS ai->uW cs o->
   al x8 qa [aS,Δ k,Δ o] I λB q=>ab x8 (Y8 B 0) q λN=>ab x8 (Y8 B 1) q λ_=>aH x8 (n9 e1 (Γ a) N) q λ(_:Unit)G=>ay (Γ a) G:=by
  rintro a I aS o x p ⟨f,e⟩ y C;refine(CW y).Y ?_;rintro _ q _ ⟨aR,_,_,aT⟩;obtain⟨E,m,rfl,ca,cb,A⟩:=aT J (aF _ C.1);obtain⟨K,L,A⟩:=A.at;rw[bu,bw];have cc:=e.lt;have s':=x.size;refine bq e1.i rfl rfl (e.W aR) Ξ λG bF cN cd=>?_;refine bA _ _ ⟨a,E,m,o,K,L,rfl,((bC.F x).F aR).put bF Ω,cd,Ω,A.V bF (λhe=>by have he:=he;omega) (λhe=>by have he:=he;omega) (λr aU he=>?_),C⟩;exact Po A.2.1 (e.W aR) Φ aU he
 have bG:∀{a:Nat}{I:x4}{aS:x1},Ext z I->z.heap.size<=a->(∃f,ag I a e1 [f])->aM .i64 I aS ai->
   al x8 tC [cL] I λah aa=>al x8 qa [aS,Δ k,ah] aa λB q=>ab x8 (Y8 B 0) q λN=>ab x8 (Y8 B 1) q λ_=>aH x8 (n9 e1 (Γ a) N) q λ(_:Unit)G=>ay (Γ a) G:=by
  rintro a I aS x p ⟨f,e⟩ y;refine(Ef (bD.W x).ls bd Ω).Y ?_;rintro _ aa _ ⟨O,o,rfl,C⟩;exact bE (x.F O) p ⟨f,e.W O⟩ (y.W O) C
 have bH:∀{a:Nat}{I:x4}{aS:x1},Ext z I->z.heap.size<=a->(∃f,ag I a e1 [f])->aM .i64 I aS ai->
   al x8 wN [Γ g] I λaW U=>(Ext z U\/cE x8 (u5 ax (Γ ao)) cL U/\True)/\
    al x8 tC [cL] U λah aa=>al x8 qa [aS,aW,ah] aa λB q=>ab x8 (Y8 B 0) q λN=>ab x8 (Y8 B 1) q λ_=>aH x8 (n9 e1 (Γ a) N) q λ(_:Unit)G=>ay (Γ a) G:=by
  rintro a I aS x p ⟨f,e⟩ y;refine(CL (aC.W x)).Y ?_;rintro _ U _ ⟨rfl,H⟩;exact⟨.inl (x.F H),bG (x.F H) p ⟨f,e.W H⟩ (y.W H)⟩
 have bI:ai.length<=1000:=Ω
 have bJ:∀{a:Nat}{I:x4},Ext z I->z.heap.size<=a->(∃f,ag I a e1 [f])->
   al x8 A7 [.agg #[sv]] I λce w0=>(Ext z w0\/cE x8 (u5 ax (Γ ao)) cL w0/\True)/\
    al x8 wN [Γ g] w0 λaW U=>(Ext z U\/cE x8 (u5 ax (Γ ao)) cL U/\True)/\
    al x8 tC [cL] U λah aa=>al x8 qa [ce,aW,ah] aa λB q=>ab x8 (Y8 B 0) q λN=>ab x8 (Y8 B 1) q λ_=>aH x8 (n9 e1 (Γ a) N) q λ(_:Unit)G=>ay (Γ a) G:=by
  rintro a I x p ⟨f,e⟩;refine(CM (hm.W (aQ.F x)).ls bI).Y ?_;rintro aS U _ ⟨H,_,_,y⟩;exact⟨.inl (x.F H),bH (x.F H) p ⟨f,e.W H⟩ y.ls⟩
 have aj:∀{I:x4}{R:x1->x4->Prop},Ext z I->(∀a ak,z.heap.size<=a->Ext I ak->(∃f,ag ak a e1 [f])->R (Γ a) ak)->aH x8 (P7 e1 ro (.tuple #[])) I R:=λ{I}{R}x cf=>by
  have:=x.size;exact bB e1.i λa ak p cg bb=>cf a ak Ω cg ⟨_,bb⟩
 refine⟨?_,aj (Ext.refl _) λa cO p aE e=>⟨.inl aE,?_⟩⟩
 rotate_left
 .refine (qz (aC.W aE)).Y ?_;rintro _ cP _ ⟨rfl,aY⟩;obtain⟨f,e⟩:=e;exact⟨.inl (aE.F aY),bJ (aE.F aY) p ⟨f,e.W aY⟩⟩
 refine(qz aC).Y ?_;rintro _ cQ _ ⟨rfl,W⟩;refine⟨.inl W,?_,aj W λa cS p bK e=>⟨.inl (W.F bK),bJ (W.F bK) p e⟩⟩;refine(CM (hm.W (aQ.F W)).ls bI).Y ?_;rintro aS cT _ ⟨ch,_,_,y⟩;have X:=W.F ch;refine⟨.inl X,?_,aj X λa cU p aZ e=>⟨.inl (X.F aZ),bH (X.F aZ) p e (y.W aZ).ls⟩⟩;refine(CL (aC.W X)).Y ?_;rintro _ cV _ ⟨rfl,a1⟩;have Y:=X.F a1;refine⟨.inl Y,?_,aj Y λa cW p a2 e=>⟨.inl (Y.F a2),bG (Y.F a2) p e ((y.W a1).W a2).ls⟩⟩;refine(Ef (bD.W Y).ls bd Ω).Y ?_;rintro _ cX _ ⟨bL,o,rfl,C⟩;have am:=Y.F bL;have bM:=(y.W a1).W bL;refine⟨?_,aj am λa cY p a6 e=>⟨.inl (am.F a6),bE (am.F a6) p e (bM.W a6).ls C⟩⟩;refine(CW bM.ls).Y ?_;rintro _ cZ _ ⟨ci,_,_,aT⟩;obtain⟨E,m,rfl,ca,cb,A⟩:=aT J (aF _ C.1);obtain⟨K,L,A⟩:=A.at;rw[bu,bw];have a8:=am.F ci;refine bB e1.i λa c0 p ba e=>?_;refine⟨.inl (a8.F ba),?_⟩;have cc:=e.lt;obtain⟨c1,c2,t3⟩:=A.rL;have c3:=am.size;have c4:=a8.size;refine bq e1.i rfl rfl e (by simp[x1.cells]) λc5 bN c6 cj=>?_;exact bA _ _ ⟨a,E,m,o,K,L,rfl,((bC.F a8).F ba).put bN Ω,cj,Ω,(A.W ba).V bN (λhe=>by have he:=he;omega) (λhe=>by have he:=he;omega) (λr aU he=>by have he:r=a:=he;have:=t3 r aU;omega),C⟩
theorem Eg{acc:List cO}{g:cO}(h:∀x∈acc,x.1≠g.1):jG k acc g=acc++[g]:=by
 unfold jG;rw[m5];intro hm;obtain⟨x,a,he⟩:=j0.1 hm;exact h x a he
theorem Pr{acc:List cO}{g h:cO}{i:Nat}(e:kI acc)(hi:acc[i]?=σ h)(he:h.1=g.1):jG k acc g=acc.set i (h.1,ez k h.2 g.2):=by
 have f:=(x5.1 hi).1;unfold jG;rw[m3 (j0.2 ⟨h,x6 hi,he⟩)];refine X3 λj=>?_;rw[v8,Y6];by_cases a:i=j
 .subst a;rw[hi,Y3,m3 he,m3 rfl,m3 f]
 .rw[m5 a];cases p:acc[j]? with
  |none=>rfl
  |some y=>
   have:y.1≠g.1:=λq=>a (by
    have h1:(acc.map (·.1))[i]?=σ g.1:=by rw[v8,hi,Y3,he]
    have r:(acc.map (·.1))[j]?=σ g.1:=by rw[v8,p,Y3,q]
    exact lU e h1 r)
   rw[Y3,m5 this]
theorem Ps{α β:Type}{f:β->α->β}{b:β}{l:List α}{i:Nat}{x:α}(h:l[i]?=σ x):(l.take (i+1)).foldl f b=f ((l.take i).foldl f b) x:=by
 rw[r8,h,o9,Q0];rfl
def oh(w:x4)(k:Int)(co:Λ)(x:ct):Prop:=(∃a,aA .i64 aj w a x.sv x.sc)/\∃m o D,eU w x.g m (b1 co x.sc) k o D/\D.length<=4096/\jL (b1 co x.sc) (jH D o) x.cs
theorem oh.W{x:ct}(h:oh w k co x)(a:Ext w I):oh I k co x:=by
 obtain⟨⟨e,h1⟩,m,o,D,f,j⟩:=h;exact⟨⟨e,h1.W a⟩,m,o,D,f.W a,j⟩
theorem oh.V{x:ct}(h:oh w k co x)(q:af S w I)(j:∀r,S r->∃e c,ag w r e c/\e≠fO/\e≠aj):oh I k co x:=by
 obtain⟨⟨z,h1⟩,m,o,D,A,B⟩:=h;obtain⟨sv,gs,f⟩:=A.at;have s:∀{g:Nat}{v:x1}{l:Λ},aA .i64 aj w g v l->∀r,lc v r->¬S r:=λhm r C J=>by
  obtain⟨e,c,a,_,p⟩:=j r J;exact b8 hm a (λhe=>p he.symm) C rfl
 refine⟨⟨z,bs h1 q (s h1)⟩,m,o,D,(f.V q (λJ=>?_) (λJ=>?_) (s f.2.1)).is,B⟩
 .obtain⟨e,c,a,p,_⟩:=j _ J;have y:=f.1;unfold ag at y a;rw[y]at a;exact p (Obj.cells.inj (Z6 a)).2.1.symm
 .obtain⟨e,c,a,_,_⟩:=j _ J;exact uL a f.2.2.1 rfl
def se(w:x4)(g:Nat)(v:x1)(k:Int)(co:Λ)(L:List ct):Prop:=bh e5 2 cJ w g v L/\∀x∈L,oh w k co x
theorem se.W{g:Nat}{L:List ct}(h:se w g v k co L)(a:Ext w I):se I g v k co L:=⟨h.1.W a,λx e=>(h.2 x e).W a⟩
def Pt(w:x4)(B a:Nat)(f:b5):Prop:=∃d9 e gz g L,ag w a cF [b6 f.name,Δ f.k,d9,e]/\aA .i64 aj w gz d9 f.co/\se w g e f.k f.co L/\L.map ee=fV f/\B<=a/\(∀r,lc d9 r->B<=r)/\∀x∈L,∀r,lc x.sv r->B<=r
theorem Pu{g ba:Nat}{L:List ct}{q:Λ}(h:fi w g v L)(ac:ag w ba aq [sv])(J:aM .i64 w sv q):
  al x8 AV [v,.func (.func AW) #[] #[Γ ba]] w λr I=>Ext w I/\((r=Δ (-1)/\∀x∈L,x.sc≠q)\/∃i:Nat,r=Δ (i:Int)/\∃x,L[i]?=σ x/\x.sc=q):=by
 refine aB func184 ?_;rw[dE gF.u h.1];refine cb.range L.length (λi _ U=>Ext w U/\∀x∈L.take i,x.sc≠q) h.1.le ⟨Ext.refl _,λc a=>by simp at a⟩ ?_ ?_
 .rintro i _ U k hi ⟨f,s⟩ hk;refine bI Ω ?_;obtain⟨x,y⟩:=aF (l:=L) hi;rw[uS rfl (h.W f) y];show al x8 AW [lh x,Γ ba] U _;obtain⟨⟨C,hm⟩,_⟩:=(h.W f).at y;refine aB func185 ?_;refine bo λan aa E j z=>?_;have z:ag aa an cY [x.sv,Γ x.g]:=by
   obtain⟨_,_,_,e⟩:=dr hm.ls;simp only[lh,e5,e]at z ⊢;exact z
  rw[aL cY.p 0 z rfl,aD Ψ ((ac.W (f.F j)).Qz rfl)];refine(Lh (hm.ls.W j) (J.W (f.F j))).Y ?_;rintro _ G _ ⟨rfl,A⟩;rw[ak];refine⟨λhe=>⟨(f.F j).F A,.inr ⟨i,rfl,x,y,he⟩⟩,λB=>?_⟩;rw[aO];refine hk _ _ ⟨(f.F j).F A,λc a=>?_⟩;rw[r8,y]at a;rcases j4.1 a with a|a
  .exact s c a
  .simp at a;subst a;exact B
 .rintro _ U k ⟨f,s⟩;rw[o6]at s;rw[aR,ak];exact⟨λh=>Ω,λ_=>⟨f,.inl ⟨rfl,s⟩⟩⟩
def eV(f:b5)(i:Nat):List cO:=((f.d7.take i).map (jF f.co f.k)).foldl (jG f.k) []
theorem Eh{f:b5}(a:fp N f)(i:Nat):(∀g∈eV f i,ie f.co f.k g)/\kI (eV f i)/\(eV f i).length<=i:=by
 have:=xI (co:=f.co) (k:=f.k) (by have:=a.k.1;omega) (l:=(f.d7.take i).map (jF f.co f.k)) (acc:=[]) (λh ao=>by cases ao) List.nodup_nil λg j=>by
  obtain⟨x,p,rfl⟩:=j0.1 j;exact qF a (U3 p)
 refine⟨this.1,this.2.1,?_⟩;have e:=this.2.2;rw[Q7,u9,W0,o8]at e;exact Y9 e (Nat.min_le_left _ _)
theorem xV{f:b5}{i:Nat}{x:cA}(h:f.d7[i]?=σ x):eV f (i+1)=jG f.k (eV f i) (jF f.co f.k x):=by
 unfold eV;rw[r8,h,o9,Z5,Q0];rfl
theorem Ei(f:b5):eV f f.d7.length=fU f:=by unfold eV fU;rw[o6]
theorem xW{L:List ct}{i:Nat}{x:ct}{D:List cO}(h:L.map ee=D)(a:L[i]?=σ x):ee x∈D:=by rw[<-h];exact j0.2 ⟨x,x6 a,rfl⟩
def Pv(w:x4)(f:b5)(v:x1)(I:x4):Prop:=Ext w I/\((¬nA f.d7<=16384/\∃e:Int,e≠0/\v= .tuple #[.pointer ν,Δ e])\/∃a,v= .tuple #[Γ a,Δ 0]/\Pt I w.heap.size a f)
theorem uX{g a:Nat}{sc cs:Λ}(hm:aA .i64 aj w g sv sc):∀u∈e5 ⟨sv,a,sc,cs⟩,u.oneCell'=ro:=λu hu=>by
 simp[e5]at hu;rcases hu with rfl|rfl
 .exact hm.ls.cells.2
 .rfl
theorem Pw{bN:Nat}{f:b5}(bO:mD w bN f)(G:fp N f)(bP:N<=60000)(c0:f.name≠[]/\∀b∈f.name,bT b=ro):
  al x8 I4 [Γ bN] w (Pv w f):=by
 have hk:=G.k;refine aB func125 ?_;refine(OS bO G bP c0).Y ?_;rintro _ U _ ⟨aK,e,rfl,he⟩;rw[bF,ak];refine⟨λbQ=>⟨aK,.inl ⟨λh=>bQ (he h),e,bQ,rfl⟩⟩,λen=>?_⟩;have bR:=bO.W aK;obtain⟨d9,aM,gz,bd,bU,c1,be,aN⟩:=id bR;have eo:bd.length<=256:=by rw[aN.1];exact G.mw
 rw[aG cF.p 3 bU rfl,ka dP.u be];refine cb.range bd.length (λi l aa=>∃g L,Ext U aa/\fi aa g l L/\Sem aa f.k f.co L/\L.map ee=eV f i/\(∀r,hp l r->U.heap.size<=r)/\∀x∈L,∀r,lc x.sv r->U.heap.size<=r) (tK be)
  ⟨0,[],Ext.refl _,⟨bh.nil _ _ _ _ _,λx E=>(by cases E)⟩,λx E=>(by cases E),rfl,λr A=>(fq A).elim,λx E=>(by cases E)⟩ ?_ ?_
 .rintro i l aa c2 hi ⟨g,L,X,ax,aP,H,O,az⟩ c3;obtain⟨d,bW⟩:=aF (l:=bd) hi;obtain⟨x,aR⟩:∃x,f.d7[i]?=σ x:=⟨_,x7 (by have:=aN.1;omega)⟩;have bX:=x6 aR;have c4:=aN.2 i x d aR bW;have Y:=qF G bX;obtain⟨c5,c6,ep⟩:=Eh G i;have c7:L.length<=i:=by have bY:=congrArg R6 H;rw[u9]at bY;omega
  refine bI Ω ?_;refine aV (λe0 aS=>∃P Z,Ext U aS/\fi aS P e0 Z/\Sem aS f.k f.co Z/\Z.map ee=eV f (i+1)/\(∀r,hp e0 r->U.heap.size<=r)/\∀x∈Z,∀r,lc x.sv r->U.heap.size<=r) ?_ ?_
  .rintro e0 aS ⟨P,Z,h1,c8,c9,da,db⟩;rw[aO];exact c3 _ _ ⟨P,Z,h1,c8,c9,da,db⟩
  intro ay b0;refine n2 (α:=iv) cJ.p rfl dP.u cJ.i (bS be X) bW λcs bf=>?_;have b2:cs.length=2:=av.len bf;refine bB cJ.i λan er es dc dd=>?_;refine b4 (vs:=cs) cJ.i b2 rfl (av.one bf) dd λde df et dg=>?_;have J:Ext aa de:=dc.put df Ω;rw[bA cJ.p cJ.i b2 dg.range];refine(O2 G bP bX c4 (bS bf J)).Y ?_;rintro _ dh _ ⟨dk,sv,gs,b3,dl,dm,rfl,eu,ab,b9⟩;rw[bu,bw];refine bB aq.i λba ev ew dn dp=>?_;refine bq aq.i ab.ls.cells.1 ab.ls.cells.2 dp (by simp[x1.cells]) λcd dq ey aU=>?_;have bg:Ext dh cd:=dn.put dq Ω;have aU:ag cd ba aq [sv]:=aU;rw[lK];have bi:=(J.F dk).F bg;have eA:=bi.size;have eB:=X.size;refine(Pu (ax.W bi) aU (ab.ls.W bg)).Y ?_;rintro _ eC _ ⟨aW,A⟩;have aX:=bi.F aW;have ce:=bg.F aW;have bj:=ab.W ce;have cf:=b9.W ce;have cg:=aU.W aW;have ch:=ax.W aX;have bk:=aP.W aX;rcases A with⟨rfl,ds⟩|⟨ci,rfl,y,B,aY⟩
  .refine bI Ω ?_;rw[aD Ψ (cg.Qz rfl),di (cs:=#[sv,Γ b3]) (by obtain⟨_,_,_,rfl⟩:=dr ab.ls;kernel_rfl)];let a:ct:=⟨sv,b3,bx x.scope,(jF f.co f.k x).2⟩;have bl:∀u∈e5 a,u.oneCell'=ro:=uX bj;refine iS (f:=e5) (a:=a) gF.u cY.i Ω rfl rfl λeD eE dt eF ad du=>?_;have ah:=ch.W ad;refine jo (f:=e5) (a:=a) gF.u cY.i rfl ah.1 (by simpa using du.sl) bl Ω Ω λaC P eH aE bm aH=>?_;have cj:=bj.W ad;have aZ:∀{r:Nat},hp l r->∃c,ag dt r cY c:=λA=>by
    obtain⟨rfl,c,C⟩:=eb ah.1 A;exact⟨c,C⟩
   refine b0 _ _ ⟨P,L++[a],((X.F aX).F ad).then aH (λr A he=>by have:=O r he;omega),fi.mk aE λz s=>?_,λz s=>?_,?_,λr A=>?_,λz s r A=>?_⟩
   .rcases j4.1 s with s|s
    .have:=(ah.2 z s).V aH λr A he=>(ah.2 z s).2.1 r A (ah.1.lc he).1;exact⟨this.1,this.2.2⟩
    .rw[j6.1 s];exact⟨⟨gs,bs cj aH λr A he=>by obtain⟨c,C⟩:=aZ he;exact b8 cj C Φ A rfl⟩,Y.scope⟩
   .rcases j4.1 s with s|s
    .exact (bk.W ad).row ah aH z s
    .rw[j6.1 s];exact⟨dl,dm,xR (cf.W ad) aH λr A=>aZ A⟩
   .rw[Z5,H,xV aR,Eg]
    .rfl
    .intro c I dv;rw[<-H]at I;obtain⟨z,s,rfl⟩:=j0.1 I;exact ds z s dv
   .rcases bm r A with h|h
    .exact O r h
    .have:=ad.size;have:=aW.size;omega
   .rcases j4.1 s with s|s
    .exact az z s r A
    .rw[j6.1 s]at A;have bY:=(bV ab A).1;have:=J.size;omega
  .refine cc Ω ?_;intro eI Q _ _;have bn:=ch.W Q;have ck:=(x5.1 B).1;obtain⟨dw,dx,a1⟩:=(bk.W Q) y (x6 B);have cl:=cg.W Q;have cm:=bj.W Q;have dy:=cf.W Q;rw[b7 rfl gF.u cY.i bn.1 ck,aT cY.p rfl,aD Ψ (bn.1.range B 1 _ rfl),aD Ψ (cl.Qz rfl),aD Ψ (cl.Qz rfl)];have ai:ie f.co f.k (ee y):=c5 _ (xW H B);rw[aY]at a1;have cn:∀{c:Int},0<=c/\c<=f.k->cC c f.k:=λh=>⟨hk,h.1,h.2⟩;refine(Pd a1 dy cm.ls cm.ls hk (λc I=>cn (ai.jK c I)) (λc I=>cn (Y.jK c I))).Y ?_;intro eJ cp _ dz;have dA:y.cs.length=(aQ (b1 f.co (bx x.scope))).toNat:=by have:=ai.len;rw[show(ee y).1=y.sc from rfl,aY]at this;exact this
   have dC:ca (b1 f.co (bx x.scope)):=b9.2.2.1;obtain⟨bp,cq,cr,cu,eK,rfl,dD⟩:=Pj Y.up (λv dF=>(Y.scope.1 v dF).1) (by simp[b1];rfl) dC Y.small dA Y.len dz;rw[fQ,fR,fS];have R:=bn.W bp;rw[b7 rfl gF.u cY.i R.1 ck,aT cY.p rfl];let a:ct:=⟨y.sv,cq,y.sc,ez f.k y.cs (jF f.co f.k x).2⟩;refine k9 (f:=e5) (j:=1) (a:=y) (a':=a) fc.i rfl rfl R.1 B rfl Ω λdG a2 eL dH=>?_;have aZ:∀{r:Nat},hp l r->∃c,ag cp r cY c:=λA=>by
    obtain⟨rfl,c,C⟩:=eb R.1 A;exact⟨c,C⟩
   refine b0 _ _ ⟨g,L.set ci a,((X.F aX).F (Q.F bp)).then a2 (λr A he=>by have:=O r he;omega),fi.mk dH λz s=>?_,λz s=>?_,?_,O,λz s=>?_⟩
   .have cw:∀z∈L,(∃br,aA .i64 aj dG br z.sv z.sc)/\lf z.sc:=λz s=>by
     have:=(R.2 z s).V a2 λr A he=>(R.2 z s).2.1 r A (R.1.lc he).1;exact⟨this.1,this.2.2⟩
    rcases V0 s with s|rfl
    .exact cw z s
    .exact cw y (x6 B)
   .rcases V0 s with s|rfl
    .exact ((bk.W Q).W bp).row R a2 z s
    .refine⟨cr,cu,xR ?_ a2 λr A=>aZ A⟩;show dj cp cq cr cu (b1 f.co y.sc) f.k _;rw[aY];exact dD
   .rw[T2,H,xV aR,Pr (g:=jF f.co f.k x) c6 (i:=ci) (h:=ee y) (by rw[<-H,v8,B];rfl) aY];rfl
   .rcases V0 s with s|rfl
    .exact az z s
    .exact az y (x6 B)
 .rintro l aa c2 ⟨g,L,X,ax,aP,H,O,az⟩;refine cc Ω ?_;rw[aN.1,Ei]at H;have c7:L.length<=256:=by
   have:=(mB G).2.2;rw[<-H,u9]at this;have:=G.mw;omega
  refine(O7 ax aP Ω).Y ?_;rintro eM cz _ ⟨cA,cB,dI⟩;have dJ:Ext U cz:=X.then cA λr A he=>by have:=O r he;omega
  have dK:Sem cz f.k f.co (L.filter gq):=λz s=>(aP.row ax cA) z (S1.1 s).1;have eN:(L.filter gq).length<=L.length:=Q8 _ _;refine(OZ cB Ω).Y ?_;rintro _ cD _ ⟨cE,M,a6,dL,cG⟩;have dM:Ext U cD:=dJ.then cE λr A he=>by have:=O r (dI r he);omega
  have cH:Sem cD f.k f.co M:=λz s=>(dK.row cB cE) z (a6.mem_iff.1 s);have eO:M.length<=256:=by rw[a6.length_eq];omega
  have dN:∀x∈M,∀r,lc x.sv r->U.heap.size<=r:=λx E=>az x (S1.1 (a6.mem_iff.1 E)).1;have cI:M.map ee=fV f:=by
   refine NX G ?_ ?_
   .refine (a6.map ee).F ?_;rw[<-H,List.filter_map];exact .refl _
   .rw[List.pairwise_map];refine U8.2 λp q ac cK dO=>?_;exact dL p q _ _ (X7 _) dO cK (x7 ac) (x7 cK)
  intro eP a7 _ _;have am:=dM.F a7;have eQ:=bR.W am;have bt:=bU.W am;rw[aG cF.p 0 bt rfl,aG cF.p 1 bt rfl,aG cF.p 2 bt rfl];refine(mr (c1.ls.W am) (by have:=G.co.2.1;omega)).Y ?_;rintro aI cL _ ⟨S,dQ,eR,bz⟩;refine⟨.inl S,?_⟩;rw[di (cs:=#[b6 f.name,Δ f.k,aI,.slice ν 0 0]) (by obtain⟨_,_,_,rfl⟩:=dr bz.ls;kernel_rfl)];refine bo λW dR eS a8 bC=>?_;have bC:ag dR W cF [b6 f.name,Δ f.k,aI,.slice ν 0 0]:=bC;have eU:=(am.F S).F a8;have dS:=((cG.W a7).W S).W a8;have eW:=((cH.W a7).W S).W a8;rw[dE gF.u dS.1];refine bZ.range M.length (λi ao=>∃aM gr K,Ext cL ao/\ag ao W cF [b6 f.name,Δ f.k,aI,aM]/\se ao gr aM f.k f.co K/\K.map ee=(M.take i).map ee/\K.length=i/\(∀r,hp aM r->cL.heap.size<=r)/\∀x∈K,∀r,lc x.sv r->U.heap.size<=r) Ω
   ⟨_,0,[],a8,bC,⟨bh.nil _ _ _ _ _,λx E=>(by cases E)⟩,rfl,rfl,λr A=>(fq A).elim,λx E=>(by cases E)⟩ ?_ ?_
  rotate_left
  .rintro ao dT ⟨aJ,gr,K,ap,au,bD,bb,_,_,bE⟩;rw[o6,cI]at bb;refine cc Ω ?_;have eX:=aK.size;have eY:=am.size;have eZ:=S.size;exact⟨(aK.F (am.F S)).F ap,.inr ⟨W,rfl,aI,aJ,dQ,gr,K,au,bz.W ap,bD,bb,Ω,λr A=>by have:=(bV bz A).1;omega,λx E r A=>by have:=bE x E r A;omega⟩⟩
  rintro i ao dT hi ⟨aJ,gr,K,ap,au,bD,bb,dU,cM,bE⟩ dV;obtain⟨y,B⟩:=aF (l:=M) hi;have cN:=(a7.F S).F ap;have cO:=cG.W cN;have cP:=cO.at B;obtain⟨dw,dx,a1⟩:=(cH.W cN) y (x6 B);have ai:ie f.co f.k (ee y):=uH G _ (xW cI B);refine bI Ω ?_;rw[uS rfl cO B];refine bB cY.i λgy e1 e2 dW dX=>?_;refine b4 (vs:=e5 y) cY.i rfl rfl cP.one dX λdY dZ e3 ea=>?_;have ec:Ext ao dY:=dW.put dZ Ω;intro e4 cQ _ _;have bG:=ec.F cQ;have cR:=ea.W cQ;have ed:=au.W bG;rw[aG cF.p 3 ed rfl,aL cY.p 0 cR rfl,aL cY.p 1 cR rfl];refine(Pq (a1.W bG) λc I=>⟨hk,(ai.jK c I).1,(ai.jK c I).2⟩).Y ?_;rintro _ e6 _ ⟨bH,ae,m,o,D,rfl,ef,eg,eh,_⟩;refine⟨.inl bH,?_⟩;have cS:=bG.F bH;obtain⟨⟨br,cT⟩,_,e7⟩:=cP;have cU:=cT.W cS;rw[di (cs:=#[y.sv,Γ ae]) (by obtain⟨_,_,_,e⟩:=dr cT.ls;rw[e];kernel_rfl)];let a:ct:=⟨y.sv,ae,y.sc,y.cs⟩;have bl:∀u∈e5 a,u.oneCell'=ro:=uX cU;refine iS (f:=e5) (a:=a) dP.u cJ.i Ω rfl rfl λv25 e8 bJ e9 J ei=>?_;refine⟨.inl (bH.F J),?_⟩;have aw:=cS.F J;have bc:=bD.W aw;refine jo (f:=e5) (a:=a) dP.u cJ.i rfl bc.1 (by simpa using ei.sl) bl Ω Ω λaC P ej aE bm cV=>?_;have fa:=ap.size;have fb:=aw.size;have bK:ag ej W cF [b6 f.name,Δ f.k,aI,aJ]:=(au.W aw).V cV λhe=>by
   obtain⟨rfl,c,C⟩:=eb bc.1 he;have h1:=au.W aw;unfold ag at C h1;rw[h1]at C;exact m6 (Obj.cells.inj (Z6 C)).2.1 Φ
  rw[bL,aT cF.p rfl];have cW:aC.cells= #[aC]/\aC.oneCell'=ro:=by
   obtain⟨_,_,_,_,_,rfl,_⟩:=aE.sl;exact⟨rfl,rfl⟩
  refine bq dP.i cW.1 cW.2 bK Ξ λek cX fd em=>?_;rw[aO];have bM:af (λr=>r=W\/hp aJ r) bJ ek:=(cV.Y λr _ h=>.inr h).F (cX.Y λr _ h=>.inl h);have cZ:∀r,(r=W\/hp aJ r)->∃e c,ag bJ r e c/\e≠fO/\e≠aj:=λr A=>by
   rcases A with rfl|A
   .exact⟨_,_,au.W aw,Φ,Φ⟩
   .obtain⟨rfl,c,C⟩:=eb bc.1 A;exact⟨_,c,C,Φ,Φ⟩
  refine dV _ ⟨aC,P,K++[a],?_,em,⟨aE.V cX λr A he=>?_,λz s=>?_⟩,?_,by rw[r9,dU];rfl,λr A=>?_,λz s=>?_⟩
  .exact (ap.F aw).then bM λr A he=>by
    rcases he with rfl|he
    .omega
    .have:=cM r he;omega
  .have he:r=W:=he;subst he;obtain⟨rfl,c,C⟩:=eb aE A;unfold ag at C bK;rw[bK]at C;exact m6 (Obj.cells.inj (Z6 C)).2.1 Φ
  .rcases j4.1 s with s|s
   .exact (bc.2 z s).V bM cZ
   .rw[j6.1 s];refine oh.V (w:=bJ) ⟨⟨br,cU.W J⟩,m,o,D,ef.W J,?_,eh⟩ bM cZ;have:=ai.small;exact Y9 eg (by show(aQ (b1 f.co (ee y).1)).toNat<=4096;omega)
  .rw[Z5,bb,r8,B,Z5];rfl
  .rcases bm r A with h|h
   .exact cM r h
   .omega
  .rcases j4.1 s with s|s
   .exact bE z s
   .rw[j6.1 s];exact dN y (x6 B)
theorem eC{a:p9}{c f:List x1}(h:ag w r e c)(aW:ag w r a f):e=a:=by
 unfold ag at h aW;rw[h]at aW;exact(Obj.cells.inj (Z6 aW)).2.1
theorem cn{α:Type}{f:α->List x1}{k:Nat}{a:p9}{g:Nat}{L:List α}(h:bh f k e w g v L)(p:ag w j a cs)(q:e≠a):¬hp v j:=λr=>by
 obtain⟨rfl,c,s⟩:=eb h r;exact q (eC s p)
structure mE where
 v:x1
 l:Λ
def sf(h:mE):List x1:=[h.v]
def iX(w:x4)(g:Nat)(v:x1)(a1:List mE):Prop:=bh sf 1 ax w g v a1/\∀h∈a1,∃a,aA .i64 au w a h.v h.l
theorem iX.W{g:Nat}{a1:List mE}(h:iX w g v a1)(a:Ext w I):iX I g v a1:=⟨h.1.W a,λx e=>by
 obtain⟨f,hm⟩:=h.2 x e;exact⟨f,hm.W a⟩⟩
theorem iX.sg{g:Nat}{a1:List mE}(h:iX w g v a1)(f:af S w I)(j:∀r,S r->∃e c,ag w r e c/\e≠au):∀h∈a1,∃a,aA .i64 au I a h.v h.l:=λx p=>by
 obtain⟨a,hm⟩:=h.2 x p;exact⟨a,bs hm f λr q J=>by
  obtain⟨e,c,s,y⟩:=j r J;exact b8 hm s (λhe=>y he.symm) q rfl⟩
theorem iX.V{g:Nat}{a1:List mE}(h:iX w g v a1)(p:af S w I)(q:∀r,S r->∃e c,ag w r e c/\e≠au/\e≠ax):iX I g v a1:=
 ⟨h.1.V p λr a J=>by
  obtain⟨e,c,f,_,j⟩:=q r J;exact cn h.1 f (λhe=>j he.symm) a,h.sg p λr a=>by
  obtain⟨e,c,f,j,_⟩:=q r a;exact⟨e,c,f,j⟩⟩
def pC(w:x4)(k:Int)(co:Λ)(x:ct):Prop:=(∃a,aA .i64 aj w a x.sv x.sc)/\∃e f,dj w x.g e f (b1 co x.sc) k x.cs
theorem pC.W{x:ct}(h:pC w k co x)(a:Ext w I):pC I k co x:=by
 obtain⟨⟨e,h1⟩,f,j,p⟩:=h;exact⟨⟨e,h1.W a⟩,f,j,p.W a⟩
theorem Ej{g s:Nat}{x:x1}{cs:Λ}(h:dj w g s x ai k cs)(j:af S w I)(p:∀r,S r->∃e c,ag w r e c/\e≠cZ/\e≠aj/\e≠au):dj I g s x ai k cs:=by
 obtain⟨⟨a7,gs,h1,y,z⟩,A⟩:=h;refine⟨⟨a7,gs,h1.V j λJ=>?_,bs y j λr q J=>?_,bs z j λr q J=>?_⟩,A⟩
 .obtain⟨e,c,a,f,_⟩:=p g J;exact f (eC a h1)
 .obtain⟨e,c,a,_,f,_⟩:=p r J;exact b8 y a (λhe=>f he.symm) q rfl
 .obtain⟨e,c,a,_,_,f⟩:=p r J;exact b8 z a (λhe=>f he.symm) q rfl
theorem pC.V{x:ct}(h:pC w k co x)(a:af S w I)(f:∀r,S r->∃e c,ag w r e c/\e≠cZ/\e≠aj/\e≠au):pC I k co x:=by
 obtain⟨⟨j,h1⟩,p,q,s⟩:=h;refine⟨⟨j,bs h1 a λr y J=>?_⟩,p,q,Ej s a f⟩;obtain⟨e,c,z,_,A,_⟩:=f r J;exact b8 h1 z (λhe=>A he.symm) y rfl
def pD(w:x4)(g:Nat)(v:x1)(k:Int)(co:Λ)(L:List ct):Prop:=bh e5 2 iJ w g v L/\∀x∈L,pC w k co x
theorem pD.W{g:Nat}{L:List ct}(h:pD w g v k co L)(a:Ext w I):pD I g v k co L:=⟨h.1.W a,λx e=>(h.2 x e).W a⟩
theorem pD.V{g:Nat}{L:List ct}(h:pD w g v k co L)(p:af S w I)(q:∀r,S r->∃e c,ag w r e c/\e≠iJ/\e≠cZ/\e≠aj/\e≠au):pD I g v k co L:=
 ⟨h.1.V p λr a J=>by
  obtain⟨e,c,f,j,_⟩:=q r J;exact cn h.1 f (λhe=>j he.symm) a,λx s=>(h.2 x s).V p λr a=>by
  obtain⟨e,c,f,_,j⟩:=q r a;exact⟨e,c,f,j⟩⟩
def gu(w:x4)(h:Nat)(n:aI):Prop:=∃a e f j gr a1 L nm d9 gz fv2,ag w h gg [Γ a,Δ n.zero,e,f]/\ag w a cF [nm,Δ n.k,d9,fv2]/\aA .i64 aj w gz d9 n.co/\
 iX w j e a1/\a1.map (·.l)=n.unary/\pD w gr f n.k n.co L/\L.map ee=n.d7
theorem gu.W{e:Nat}{n:aI}(h:gu w e n)(a:Ext w I):gu I e n:=by
 obtain⟨f,j,p,q,gr,a1,L,nm,d9,gz,fv2,h1,r,s,x,y,z,A⟩:=h;exact⟨f,j,p,q,gr,a1,L,nm,d9,gz,fv2,h1.W a,r.W a,s.W a,x.W a,y,z.W a,A⟩
def sh(w:x4)(B:Nat)(k:Int)(co:Λ)(x:ct):Prop:=(∃f,aA .i64 aj w f x.sv x.sc)/\(∃a e,dj w x.g a e (b1 co x.sc) k x.cs/\B<=a/\∀r,lc e r->B<=r)/\B<=x.g/\∀r,lc x.sv r->B<=r
theorem sh.V{x:ct}(h:sh w B k co x)(a:af S w I)(f:∀r,S r->∃e c,ag w r e c/\e≠cZ/\e≠aj/\e≠au):sh I B k co x:=by
 obtain⟨⟨j,h1⟩,⟨p,q,s,y⟩,z⟩:=h;refine⟨⟨j,bs h1 a λr A J=>?_⟩,⟨p,q,Ej s a f,y⟩,z⟩;obtain⟨e,c,C,_,E,_⟩:=f r J;exact b8 h1 C (λhe=>E he.symm) A rfl
def nB(w:x4)(B g:Nat)(v:x1)(k:Int)(co:Λ)(L:List ct):Prop:=bh e5 2 iJ w g v L/\∀x∈L,sh w B k co x
theorem nB.W{g:Nat}{L:List ct}(h:nB w B g v k co L)(a:Ext w I):nB I B g v k co L:=⟨h.1.W a,λx e=>(h.2 x e).V (a.V λ_=>False) λ_ h=>h.elim⟩
theorem nB.V{g:Nat}{L:List ct}(h:nB w B g v k co L)(p:af S w I)(q:∀r,S r->∃e c,ag w r e c/\e≠iJ/\e≠cZ/\e≠aj/\e≠au):nB I B g v k co L:=
 ⟨h.1.V p λr a J=>by
  obtain⟨e,c,f,j,_⟩:=q r J;exact cn h.1 f (λhe=>j he.symm) a,λx s=>(h.2 x s).V p λr a=>by
  obtain⟨e,c,f,_,j⟩:=q r a;exact⟨e,c,f,j⟩⟩
theorem Ek:∃o:Obj,fL o=rs:=⟨.deferred ν,rfl⟩
theorem ghost(w:x4)(B:Nat):∃w0,Ext w0 w/\af (λr=>r<B) w w0/\∀r o,w0.heap[r]?=σ o->fL o=ro->B<=r:=by
 obtain⟨cu,f⟩:=Ek;have e:∀r,(w.heap.mapIdx λr o=>if r<B then cu else o)[r]?=(w.heap[r]?).map λo=>if r<B then cu else o:=λr=>Ξ
 refine⟨{w with heap:=w.heap.mapIdx λr o=>if r<B then cu else o},⟨Ξ,λr o a J=>?_⟩,⟨Ξ,λr o a J j=>?_⟩,λr o a J=>?_⟩
 .have a:(w.heap.mapIdx λr o=>if r<B then cu else o)[r]?=σ o:=a;rw[e]at a;cases h:w.heap[r]? with
  |none=>rw[h]at a;cases a
  |some o'=>
   rw[h]at a;simp only[Y3,X4]at a;split at a
   .subst a;rw[f]at J;cases J
   .rw[a]
 .show (w.heap.mapIdx λr o=>if r<B then cu else o)[r]?=σ o;rw[e,a,Y3,m5 j]
 .have a:(w.heap.mapIdx λr o=>if r<B then cu else o)[r]?=σ o:=a;rw[e]at a;cases h:w.heap[r]? with
  |none=>rw[h]at a;cases a
  |some o'=>
   rw[h]at a;simp only[Y3,X4]at a;split at a
   .subst a;rw[f]at J;cases J
   .omega
def El(B:Nat)(w:x4)(a:Nat)(n:aI):Prop:=∃w0,gu w0 a n/\Ext w0 w/\∀r o,w0.heap[r]?=σ o->fL o=ro->B<=r
theorem Px{y C gr gz:Nat}{n:aI}{p q nm d9 fv2:x1}{a1:List mE}{L:List ct}(h1:ag w y gg [Γ j,Δ n.zero,p,q])(E:ag w j cF [nm,Δ n.k,d9,fv2])(I:aA .i64 aj w gz d9 n.co)(F:iX w C p a1)(J:a1.map (·.l)=n.unary)(G:nB w B gr q n.k n.co L)(K:L.map ee=n.d7)(M:B<=y)(N:B<=j)(O:∀r,lc d9 r->B<=r)(H:∀r,hp p r\/hp q r->B<=r)(P:∀h∈a1,∀r,lc h.v r->B<=r):El B w y n:=by
 obtain⟨w0,z,a,Q⟩:=ghost w B;have no:∀{r:Nat},B<=r->¬r<B:=λh E=>Ω
 have s:∀{e:p9}{g:Nat}{v:x1}{l:Λ},aA .i64 e w g v l->(∀r,lc v r->B<=r)->aA .i64 e w0 g v l:=λh R=>bs h a λr f=>no (R r f);refine⟨w0,⟨j,p,q,C,gr,a1,L,nm,d9,gz,fv2,h1.V a (no M),E.V a (no N),s I O,⟨F.1.V a λr f=>no (H r (.inl f)),λh ao=>?_⟩,J,⟨G.1.V a λr f=>no (H r (.inr f)),λx z=>?_⟩,K⟩,z,Q⟩
 .obtain⟨A,hm⟩:=F.2 h ao;exact⟨A,s hm (P h ao)⟩
 .obtain⟨⟨A,S⟩,⟨U,W,⟨⟨a7,gs,X,Y,t3⟩,t4⟩,ac,Z⟩,aa,ab⟩:=G.2 x z;exact⟨⟨A,s S ab⟩,U,W,⟨a7,gs,X.V a (no aa),s Y Z,bs t3 a λr f=>no (by have:=(bV t3 f).1;omega)⟩,t4⟩
def kg(n:aI)(g:cO):aI:=match g.1 with
 |[]=>{n with zero:=g.2.getD 0 0}
 |[v]=>{n with unary:=n.unary.set v.toNat g.2}
 |_=>{n with d7:=n.d7++[g]}
def Em(f:b5):aI:=⟨f.k,f.co,0,f.co.map λz=>o4 z.toNat 0,[]⟩
theorem Py(f:b5):cP f=(fV f).foldl kg (Em f):=rfl
def dJ(f:b5)(i:Nat):aI:=((fV f).take i).foldl kg (Em f)
theorem xX{f:b5}{i:Nat}{g:cO}(h:(fV f)[i]?=σ g):dJ f (i+1)=kg (dJ f i) g:=Ps h
theorem uY(f:b5):dJ f (fV f).length=cP f:=by unfold dJ;rw[o6,Py]
theorem Pz(n:aI)(g:cO):(kg n g).k=n.k/\(kg n g).co=n.co/\(kg n g).unary.length=n.unary.length/\(kg n g).d7.length<=n.d7.length+1:=by
 unfold kg;split
 .exact⟨rfl,rfl,rfl,Nat.le_succ _⟩
 .exact⟨rfl,rfl,Ξ,Nat.le_succ _⟩
 .exact⟨rfl,rfl,rfl,Ξ⟩
theorem qJ(f:b5):∀i,(dJ f i).k=f.k/\(dJ f i).co=f.co/\(dJ f i).unary.length=f.co.length/\(dJ f i).d7.length<=i
 |0=>⟨rfl,rfl,by show(f.co.map _).length=_;simp,X7 _⟩
 |i+1=>by
  have a:=qJ f i;cases h:(fV f)[i]? with
  |none=>
   have j:=List.getElem?_eq_none_iff.1 h;have e:dJ f (i+1)=dJ f i:=by unfold dJ;rw[j5 Ω,j5 j]
   rw[e];exact⟨a.1,a.2.1,a.2.2.1,Ω⟩
  |some g=>
   rw[xX h];obtain⟨h1,p,q,r⟩:=Pz (dJ f i) g;exact⟨h1.F a.1,p.F a.2.1,q.F a.2.2.1,Ω⟩
def PA(w:x4)(f:b5)(v:x1)(I:x4):Prop:=Ext w I/\((¬nA f.d7<=16384/\∃e:Int,e≠0/\v= .tuple #[.pointer ν,Δ e])\/∃a,v= .tuple #[Γ a,Δ 0]/\El w.heap.size I a (cP f))
theorem dg{k:Nat}(h:cg w k v n cs):v.cells= #[v]/\v.oneCell'=ro:=by
 obtain⟨_,_,_,_,_,rfl,_⟩:=h;exact⟨rfl,rfl⟩
theorem PB{bU:Nat}{f:b5}(cu:mD w bU f)(R:fp N f)(cw:N<=60000)(cz:f.name≠[]/\∀b∈f.name,bT b=ro):
  al x8 Ir [Γ bU] w (PA w f):=by
 have hk:=R.k;refine aB func61 ?_;refine(Pw cu R cw cz).Y ?_;rintro _ U _ ⟨av,⟨cA,e,he,rfl⟩|⟨aP,rfl,cB⟩⟩
 .rw[bu,bw,bF,ak];exact⟨λ_=>⟨av,.inl ⟨cA,e,he,rfl⟩⟩,λh=>m6 he h⟩
 rw[bu,bw,bF,ak];refine⟨λh=>m6 rfl h,λ_=>?_⟩;obtain⟨d9,cC,gz,dv,M,bb,bc,bW,aR,cD,cE,cG⟩:=id cB;have dw:M.length<=256:=by
  have h1:=(r2 R).2.length_eq;have ah:=(mB R).2.2;have ai:=Q8 fT (fU f);have aS:=R.mw;have dx:M.length=(fV f).length:=by rw[<-aR,u9]
  omega
 have dy:=R.co.2.1;rw[di (cs:=#[Γ aP,Δ 0,.slice ν 0 0,.slice ν 0 0]) Ψ];refine bo λH aa dz bd be=>?_;have be:=be;rw[aG cF.p 2 (bb.W bd) rfl,aY aq.u (bc.ls.W bd)];refine bZ.range f.co.length (λi aw=>∃s G a1,Ext U aw/\ag aw H gg [Γ aP,Δ 0,s,.slice ν 0 0]/\iX aw G s a1/\a1.map (·.l)=(f.co.take i).map (λz=>o4 z.toNat 0)/\(∀r,hp s r->U.heap.size<=r)/\∀h∈a1,∀r,lc h.v r->U.heap.size<=r) Ω
  ⟨_,0,[],bd,be,⟨bh.nil _ _ _ _ _,λx az=>(by cases az)⟩,rfl,λr q=>(fq q).elim,λx az=>(by cases az)⟩ ?_ ?_
 .rintro i aw cH hi ⟨s,G,a1,ab,aU,bf,aC,aV,K⟩ cI;obtain⟨z,B⟩:=aF (l:=f.co) hi;have dA:=R.co.2.2 z (x6 B);have dC:a1.length=i:=by have:=congrArg R6 aC;simp only[u9,o8]at this;omega
  refine bI Ω ?_;rw[bi aq.u aj.i Ψ (bc.ls.W ab) B];intro dD bg _ _;have cK:=aU.W bg;rw[aG gg.p 2 cK rfl];obtain⟨aW,rfl⟩:∃n:Nat,z=n:=⟨z.toNat,Ω⟩;refine k3 ax.u au.i Ω Ω λbX dF dH bj cL=>?_;refine⟨.inl bj,?_⟩;have bY:=aA.of (b0.full (n:=aW) cL Ξ (by simp[maxLen];omega));let a:mE:=⟨.slice (σ ⟨bX,0,ν⟩) aW aW,o4 aW 0⟩;refine iS (f:=sf) (a:=a) ev.u ax.i Ω rfl rfl λdI dK bl dL bm cM=>?_;refine⟨.inl (bj.F bm),?_⟩;have aX:=(bg.F bj).F bm;have aZ:=bf.W aX;refine jo (f:=sf) (a:=a) ev.u ax.i rfl aZ.1 (by simpa using cM.sl) (λu hu=>by rw[j6.1 (show u∈[a.v]from hu)];rfl) Ω Ω λbn bp dM O br b2=>?_;have aE:∀{r:Nat},hp s r->∃c,ag bl r ax c:=λq=>by
   obtain⟨rfl,c,A⟩:=eb aZ.1 q;exact⟨c,A⟩
  have bt:=aU.W aX;have b3:=bt.V b2 λhe=>cn aZ.1 bt Φ he;rw[bL,aT gg.p rfl];refine bq ev.i (dg O.sl).1 (dg O.sl).2 b3 Ξ λcN b9 dN cO=>?_;rw[aO];have bx:af (λr=>hp s r\/r=H) bl cN:=(b2.Y λr _ h=>.inl h).F (b9.Y λr _ h=>.inr h);have S:∀r,(hp s r\/r=H)->∃e c,ag bl r e c/\e≠au:=λr q=>by
   rcases q with q|rfl
   .obtain⟨c,A⟩:=aE q;exact⟨_,c,A,Φ⟩
   .exact⟨_,_,bt,Φ⟩
  have ca:=av.size;have z3:=ab.size;have dO:=aX.size;refine cI _ ⟨bn,bp,a1++[a],(ab.F aX).then bx (λr q he=>?_),cO,⟨O.V b9 λr q he=>?_,λy C=>?_⟩,?_,λr q=>?_,λy C r q=>?_⟩
  .rcases he with he|rfl
   .have:=aV r he;omega
   .omega
  .have he:r=H:=he;subst he;exact cn O b3 Φ q
  .rcases j4.1 C with C|C
   .exact aZ.sg bx S y C
   .rw[j6.1 C];have cb:=bY.W bm;exact⟨bX,bs cb bx λr q J=>by
     obtain⟨e,c,A,cP⟩:=S r J;exact b8 cb A (λhe=>cP he.symm) q rfl⟩
  .rw[Z5,aC,r8,B,o9,Z5];rfl
  .rcases br r q with h|h
   .exact aV r h
   .omega
  .rcases j4.1 C with C|C
   .exact K y C r q
   .rw[j6.1 C]at q;have cQ:=(bV bY q).1;have:=bg.size;omega
 .rintro aw cH ⟨s,G,a1,ab,aU,bf,aC,aV,K⟩;refine cc Ω ?_;rw[o6]at aC;have cR:=bb.W ab;have cS:=bW.W ab;rw[aG cF.p 3 cR rfl,dE dP.u cS.1];refine bZ.range M.length (λi am=>∃s E G gr a1 L,Ext U am/\ag am H gg [Γ aP,Δ (dJ f i).zero,s,E]/\iX am G s a1/\a1.map (·.l)=(dJ f i).unary/\nB am w.heap.size gr E f.k f.co L/\L.map ee=(dJ f i).d7/\(∀r,hp s r\/hp E r->U.heap.size<=r)/\∀h∈a1,∀r,lc h.v r->U.heap.size<=r) Ω
   ⟨s,_,G,0,a1,[],ab,aU,bf,aC,⟨bh.nil _ _ _ _ _,λx az=>(by cases az)⟩,rfl,λr q=>q.elim (aV r) λh=>(fq h).elim,K⟩ ?_ ?_
  rotate_left
  .rintro am cT ⟨s,E,G,gr,a1,L,P,a2,bz,ac,bC,ad,W,K⟩;refine cc Ω ?_;have cU:M.length=(fV f).length:=by rw[<-aR,u9]
   have aH:=qJ f M.length;rw[cU,uY]at a2 ac ad aH;have ca:=av.size;refine⟨av.F P,.inr ⟨H,rfl,Px (gr:=gr) (nm:=b6 f.name) (d9:=d9) (gz:=gz) (fv2:=cC) a2 ?_ ?_ bz ac ?_ ad Ω cD cE (λr q=>by have:=W r q;omega) λh ao r q=>by have:=K h ao r q;omega⟩⟩
   .rw[aH.1];exact bb.W P
   .rw[aH.2.1];exact bc.W P
   .rw[aH.1,aH.2.1];exact bC
  rintro i am cT hi ⟨s,E,G,gr,a1,L,P,a2,bz,ac,bC,ad,W,K⟩ cV;obtain⟨y,C⟩:=aF (l:=M) hi;have cX:(fV f)[i]?=σ (ee y):=by rw[<-aR,v8,C];rfl
  have a6:=uH R _ (xW aR C);have bD:=bW.W P;obtain⟨dQ,dR,dS,dT⟩:=qJ f i;refine bI Ω ?_;refine cW (λaI=>∃s E G gr a1 L,Ext U aI/\ag aI H gg [Γ aP,Δ (dJ f (i+1)).zero,s,E]/\iX aI G s a1/\a1.map (·.l)=(dJ f (i+1)).unary/\nB aI w.heap.size gr E f.k f.co L/\L.map ee=(dJ f (i+1)).d7/\(∀r,hp s r\/hp E r->U.heap.size<=r)/\∀h∈a1,∀r,lc h.v r->U.heap.size<=r) ?_ ?_
  .rintro aI h;rw[aO];exact cV _ h
  intro ay bE;have cY:=bD.2 y (x6 C);obtain⟨⟨c0,bG⟩,m,o,D,c1,dU,c2⟩:=cY;rw[b7 rfl dP.u cJ.i bD.1 hi,bA cJ.p cJ.i rfl (bD.1.range C)];refine bB cJ.i λan dV dW c3 c4=>?_;refine b4 (vs:=e5 y) cJ.i rfl rfl (uX bG) c4 λdX c5 dY cd=>?_;have bH:=c3.put c5 Ω;rw[aL cJ.p 1 cd rfl];refine(DP (c1.W bH) Ω).Y ?_;rintro _ dZ _ ⟨ce,_,ap⟩;obtain⟨g,c6,c7,ea,rfl,ec,c8,ap,da⟩:=ap a6.small;have db:dG (b1 f.co y.sc):=ap.2.2.1.2;have dc:=jL.eq db da c2;subst dc;have X:=bH.F ce;have bJ:=cd.W ce;have bK:=bG.W X;rw[bu,bw,aL cJ.p 0 bJ rfl,aY aq.u bK.ls];have ca:=av.size;have z9:=P.size;have ed:=X.size;have bM:=a2.W X;have bN:=bz.W X;have bO:=bC.W X;have bP:=xX cX;rw[bk,ak];refine⟨λef=>?_,λeg=>?_⟩
  .
   have ae:y.sc=[]:=c9 Ω;have I:dJ f (i+1)={dJ f i with zero:=y.cs.getD 0 0}:=by rw[bP];unfold kg;simp only[ee,ae]
   refine(oc ap).Y ?_;rintro cf dd _ ⟨a7,eh,ei,de⟩;have ej:y.cs.length=1:=by have:=a6.len;simpa[ee,ae,b1,aQ]using this
   have df:y.cs[0]?=σ (y.cs.getD 0 0):=by rw[u4,x7 Ω];rfl
   rw[gI (y:=0) (i:=0) rfl ax.u au.i Ψ de.ls df,bL,aT gg.p rfl];have cg:=bM.W a7;refine bq au.i rfl rfl cg Ξ λek bQ em dh=>?_;have S:∀r,r=H->∃e c,ag dd r e c/\e≠iJ/\e≠cZ/\e≠aj/\e≠au/\e≠ax:=λr q=>by
    subst q;exact⟨_,_,cg,Φ,Φ,Φ,Φ,Φ⟩
   refine bE _ ⟨s,E,G,gr,a1,L,((P.F X).F a7).put bQ Ω,?_,(bN.W a7).V bQ (λr q=>?_),by rw[I];exact ac,(bO.W a7).V bQ (λr q=>?_),by rw[I];exact ad,W,K⟩
   .rw[I];exact dh
   .obtain⟨e,c,A,_,_,_,h1,ah⟩:=S r q;exact⟨e,c,A,h1,ah⟩
   .obtain⟨e,c,A,h1,ah,ai,aS,_⟩:=S r q;exact⟨e,c,A,h1,ah,ai,aS⟩
  rw[bk,ak];refine⟨λh1=>?_,λen=>?_⟩
  .
   obtain⟨v,ae⟩:∃v,y.sc=[v]:=V6.1 Ω;have eo:=a6.scope.1 v (by show v∈y.sc;rw[ae];exact .head _);have ep:=a6.d6 v (by show v∈y.sc;rw[ae];exact .head _);have I:dJ f (i+1)={dJ f i with unary:=(dJ f i).unary.set v.toNat y.cs}:=by rw[bP];unfold kg;simp only[ee,ae]
   intro er Y _ _;have ch:=bM.W Y;have dj:=bJ.W Y;rw[aG gg.p 2 ch rfl,aL cJ.p 0 dj rfl];refine qm rfl aq.u aj.i (bK.ls.W Y) (show y.sc[0]?=σ v by rw[ae];rfl) λb o dk=>?_;rw[aD Ψ dk];refine(oc (ap.W Y)).Y ?_;rintro cf dl _ ⟨aJ,dm,es,aK⟩;refine⟨.inl aJ,?_⟩;have aM:=(bN.W Y).W aJ;have et:a1.length=f.co.length:=by have:=congrArg R6 ac;rw[u9]at this;omega
   obtain⟨u,hu⟩:=aF (l:=a1) (i:=v.toNat) Ω;rw[b7 (i:=v.toNat) Ω ev.u ax.i aM.1 Ω];let a:mE:=⟨cf,y.cs⟩;refine k9 (j:=0) (a:=u) (a':=a) ax.i aK.ls.cells.1 aK.ls.cells.2 aM.1 hu rfl Ω λeu aN ew dn=>?_;have ci:=ch.W aJ;have aE:∀{r:Nat},hp s r->∃c,ag dl r ax c:=λq=>by
    obtain⟨rfl,c,A⟩:=eb aM.1 q;exact⟨c,A⟩
   refine bE _ ⟨s,E,G,gr,a1.set v.toNat a,L,(((P.F X).F Y).F aJ).then aN (λr q he=>by have:=W r (.inl he);omega),?_,⟨dn,λz B=>?_⟩,?_,((bO.W Y).W aJ).V aN (λr q=>?_),by rw[I];exact ad,W,λz B r q=>?_⟩
   .rw[I];exact ci.V aN λhe=>cn aM.1 ci Φ he
   .rcases V0 B with B|rfl
    .exact aM.sg aN (λr q=>by obtain⟨c,A⟩:=aE q;exact⟨_,c,A,Φ⟩) z B
    .exact⟨dm,bs aK aN λr q J=>by
      obtain⟨c,A⟩:=aE J;exact b8 aK A Φ q rfl⟩
   .rw[I,T2,ac]
   .obtain⟨c,A⟩:=aE q;exact⟨_,c,A,Φ,Φ,Φ,Φ⟩
   .rcases V0 B with B|rfl
    .exact K z B r q
    .have cQ:=(bV aK q).1;have:=Y.size;omega
  .
   have I:dJ f (i+1)={dJ f i with d7:=(dJ f i).d7++[ee y]}:=by
    rw[bP];unfold kg;have cj:2<=(ee y).1.length:=by show 2<=y.sc.length;omega
    generalize ee y=g at cj ⊢;obtain⟨sc,cs⟩:=g
    match sc,cj with
    |_::_::_,_=>rfl
   intro ey Z _ _;have ck:=bM.W Z;have dp:=bJ.W Z;have cl:=bK.W Z;rw[aG gg.p 3 ck rfl,aL cJ.p 0 dp rfl,di (cs:=#[y.sv,Γ g]) (by obtain⟨_,_,_,e⟩:=dr bG.ls;rw[e];kernel_rfl)];let a:ct:=⟨y.sv,g,y.sc,y.cs⟩;refine iS (f:=e5) (a:=a) mm.u iJ.i Ω rfl rfl λez eA bR eB Q dq=>?_;refine⟨.inl Q,?_⟩;have a8:=(bO.W Z).W Q;have ds:=(bN.W Z).W Q;have bS:=ck.W Q;have eC:L.length<=256:=by have:=congrArg R6 ad;rw[u9]at this;omega
   refine jo mm.u iJ.i rfl a8.1 (by simpa using dq.sl) (uX (cl.W Q)) Ω Ω λbn bp eD O br cm=>?_;have cp:=bS.V cm λhe=>cn a8.1 bS Φ he;rw[bL,aT gg.p rfl];refine bq mm.i (dg O.sl).1 (dg O.sl).2 cp Ξ λdt cq eE du=>?_;have ba:af (λr=>hp E r\/r=H) bR dt:=(cm.Y λr _ h=>.inl h).F (cq.Y λr _ h=>.inr h);have S:∀r,(hp E r\/r=H)->∃e c,ag bR r e c/\e≠cZ/\e≠aj/\e≠au/\e≠ax:=λr q=>by
    rcases q with q|rfl
    .obtain⟨rfl,c,A⟩:=eb a8.1 q;exact⟨_,c,A,Φ,Φ,Φ,Φ⟩
    .exact⟨_,_,bS,Φ,Φ,Φ,Φ⟩
   have eF:=(Z.F Q).size;refine bE _ ⟨s,bn,G,bp,a1,L++[a],(((P.F X).F Z).F Q).then ba (λr q he=>?_),?_,ds.V ba (λr q=>?_),by rw[I];exact ac,⟨O.V cq λr q he=>?_,λz B=>?_⟩,?_,λr q=>?_,K⟩
   .rcases he with he|rfl
    .have:=W r (.inr he);omega
    .omega
   .rw[I];exact du
   .obtain⟨e,c,A,_,_,ai,aS⟩:=S r q;exact⟨e,c,A,ai,aS⟩
   .have he:r=H:=he;subst he;exact cn O cp Φ q
   .have cr:∀r,(hp E r\/r=H)->∃e c,ag bR r e c/\e≠cZ/\e≠aj/\e≠au:=λr q=>by
     obtain⟨e,c,A,h1,ah,ai,_⟩:=S r q;exact⟨e,c,A,h1,ah,ai⟩
    rcases j4.1 B with B|B
    .exact (a8.2 z B).V ba cr
    .rw[j6.1 B];have eH:=bH.size;refine sh.V ⟨⟨c0,cl.W Q⟩,⟨c6,c7,?_,Ω,λr q=>by have:=c8.2 r q;omega⟩,by show w.heap.size<=g;omega,cG y (x6 C)⟩ ba cr;exact(ap.W Z).W Q
   .rw[I,Z5,ad];rfl
   .rcases q with q|q
    .exact W r (.inl q)
    .rcases br r q with h|h
     .exact W r (.inr h)
     .omega
theorem xY{z:Array x1}{k:Nat}(a:z.size=k):(Y1.zeroCells z n).toList=dX z (n*k):=by
 unfold Y1.zeroCells dX;rw[a]
theorem PC{P:V5}{t p A:p9}{B kn:o7}{b g k m:Nat}{z:x1}{xs:List x1}(Z:y=(m:Int))(N:P.underlying t=σ (.slice e))(O:P.underlying p=σ (.int kn))(hi:aP P e k b z)(C:z.cells.size=k)(aw:0<k)(h1:∀u∈dX z.cells (m*k),u.oneCell'=ro)(h:b0 w g e k v n xs)(aa:0<m)(ab:(n+m)*b<=140737488355328)(ac:n+m<=9223372036854775807)(Q:∀E ad I,b0 I ad e k E (n+m) (xs++dX z.cells (m*k))->(∀r,hp E r->hp v r\/w.heap.size<=r)->af (λr=>hp v r) w I->K E I):aH P (Y0 #[t,p] A #[v,.int B y]) w K:=by
 subst Z;obtain⟨i,hi,F,rfl,R⟩:=hi;obtain⟨S,hm⟩:=h;have ae:=qi z.cells (m*k);have ah:m*i.bytes<=281474976710656:=by
  have:m*i.bytes<=(n+m)*i.bytes:=Y5 _ Ω;omega
 have grow:∀(base:Option Addr)(cap:Nat),v= .slice base n cap->(Y1.firstCells i.size n (.slice base n cap)).run P w.drew= .ok xs.toArray w.drew->cap<n+m->aH P (Y0 #[t,p] A #[v,.int B (m:Int)]) w K:=λbase cap ai aj f=>by
  subst ai;have G:=Lib.run_append_grow_zeros (P:=P) w t p A e i z B kn N O hi R base n cap xs aj m aa Ω f Ω ah (growslice_fits f ab);have T:n+m<=grownCap w (n+m) cap e:=grownCap_ge w _ _ _;have ak:grownCap w (n+m) cap e<=maxLen:=grownCap_le_maxLen w (n+m) cap e (by simpa[maxLen]using ac);have ax:=qi z.cells ((grownCap w (n+m) cap e-(n+m))*k);have ay:(n+m)*k<=grownCap w (n+m) cap e*k:=Y5 _ T;have al:(n+m)*k=n*k+m*k:=U7 _ _ _;have az:(grownCap w (n+m) cap e-(n+m))*k=grownCap w (n+m) cap e*k-(n+m)*k:=Nat.sub_mul _ _ _;refine .of G ((q4 w _ (Nat.le_succ _)).F (q6 _ _)) (Q _ w.heap.size _ ⟨by rw[r9];omega,.inr ⟨_,xs++dX z.cells (m*k)++dX z.cells ((grownCap w (n+m) cap e-(n+m))*k),rfl,?_,T,ak,?_,?_⟩⟩ (λr H=>?_) (((sY w _).F (q5 _ _)).V _))
  .have:=heap_alloc_new w.drew (.cells (xs.toArray++Y1.zeroCells z.cells m++Y1.zeroCells z.cells (grownCap w (n+m) cap e-(n+m))) e);unfold ag;rw[show w.drew.heap.size=w.heap.size from rfl]at this;rw[this];congr 2;apply Array.toList_inj.1;rw[Array.toList_append,Array.toList_append,xY C,xY C]
  .rw[r9,r9];omega
  .rw[List.take_append_of_le_length (by rw[r9];omega),j5 (by rw[r9];omega)]
  .obtain⟨a,am,c,q,s⟩:=H;cases q;exact .inr (by simp at s;omega)
 rcases hm with⟨rfl,an⟩|⟨cap,cs,rfl,x,q,s,J,U⟩
 .subst an;have:xs=[]:=c9 (by simpa using S);subst this;exact grow ν 0 rfl (run_firstCells_none w.drew i.size 0 0 0) Ω
 .by_cases f:n+m<=cap
  .have W:(n+m)*k<=cs.length:=by rw[J];exact Y5 _ f
   have al:(n+m)*k=n*k+m*k:=U7 _ _ _;have L:=run_storeCells_cells (P:=P) g (0+n*k) (dX z.cells (m*k)) 0 w (λj X=>by
    rw[ae]at X;rw[Nat.add_zero,W0,x.cell (x7 (show n*k+j<cs.length by omega))];rfl) (λj _=>x.frozen _ _) h1
   simp only[Nat.add_zero]at L;have hw:W6.wrap (m:Int)=m:=by rw[o7.wrap_i64];omega
   have ao:¬((m:Int)<0):=Ω
   have ap:¬(281474976710656<(m:Int)*(i.bytes:Int)):=by rw[<-Int.natCast_mul];omega
   have M:¬(m*i.size=0):=Nat.mul_ne_zero Ω Ω;have aq:(Y1.zeroCells z.cells m).toList=dX z.cells (m*k):=xY C;have G:(Y0 #[t,p] A #[.slice (σ ⟨g,0,ν⟩) n cap,.int B (m:Int)]).run P w= .ok (.slice (σ ⟨g,0,ν⟩) (n+m) cap) (w.setCells g (0+n*k) (dX z.cells (m*k))):=by
    simp[Y0,run_underlying N,run_underlying O,sizeOf,typeInfo,zeroValue,hi,R,asInt,asIntOf,hw,f,ao,M,ap,aq,Addr.add_lit,F];simp only[W0]at L;rw[L];simp;intro au;exact m6 au (by rw[F]at M;exact M)
   obtain⟨av,Y⟩:=pd (dX z.cells (m*k)) cs (0+n*k) w x;refine .of G (Y.cu x) (Q _ g _ ⟨by rw[r9];omega,.inr ⟨cap,_,rfl,av,f,s,by rw[nn,J],?_⟩⟩ (λr H=>.inl ?_) (Y.V.Y λr _ he=>⟨_,_,_,rfl,he.symm⟩))
   .rw[uw Ω W,nZ (by rw[o8];omega),W0,List.take_take,List.drop_eq_nil_of_le (by rw[o8];omega),W5,Q6 Ω,U]
   .obtain⟨a,am,c,q,s⟩:=H;cases q;exact⟨_,_,_,rfl,s⟩
  .refine grow _ cap rfl ?_ Ω;have W:n*k<=cs.length:=by rw[J];exact Y5 _ q
   refine run_firstCells_some w.drew i.size n _ n cap xs (by rw[F];exact S) λj u hu=>?_;rw[T8,W0];have X:=(x5.1 hu).1;rw[<-U,Y7 Ω]at hu;exact x.cell hu
def iY(c:Cell):List x1:=[Δ c.v,.int .u64 (c.st:Int)]
def lj(o:lP):List x1:=[Δ (o.i:Int),Δ o.c.v,.int .u64 (o.c.st:Int)]
def jM(m:pm):List x1:=[Δ (m.olds:Int),Δ (m.cells:Int),.int .u64 (m.st:Int)]
def c3(w:x4)(ae:Nat)(A:ah)(t:aw):Prop:=A ae/\∃e go c0 a7 a df,ag w ae c8 [a7,a,df,.int .u64 (t.ever:Int)]/\bh iY 2 ej w e a7 t.cells/\bh lj 3 gE w go a t.olds/\bh jM 3 dW w c0 df t.marks/\
 ∀r,hp a7 r\/hp a r\/hp df r->A r
theorem c3.V{S A:ah}{t:aw}(h:c3 w ae A t)(e:af S w I)(f:∀r,A r->¬S r):c3 I ae A t:=by
 obtain⟨p,q,go,c0,a7,s,df,h1,x,y,z,j⟩:=h;exact⟨p,q,go,c0,a7,s,df,h1.V e (f _ p),x.V e λr a=>f r (j r (.inl a)),y.V e λr a=>f r (j r (.inr (.inl a))),z.V e λr a=>f r (j r (.inr (.inr a))),j⟩
theorem c3.W{A:ah}{t:aw}(h:c3 w ae A t)(a:Ext w I):c3 I ae A t:=h.V (a.V λ_=>False) λ_ _ h=>h
theorem c3.Y{A B:ah}{t:aw}(h:c3 w ae A t)(a:∀r,A r->B r):c3 w ae B t:=by
 obtain⟨e,f,go,c0,a7,j,df,h1,p,q,s,x⟩:=h;exact⟨a _ e,f,go,c0,a7,j,df,h1,p,q,s,λr y=>a r (x r y)⟩
def Grow(A:ah)(w:x4)(aK:ah)(I:x4):Prop:=af A w I/\(∀r,aK r->A r\/w.heap.size<=r)/\∀r,A r->aK r
theorem Grow.refl(A:ah)(w:x4):Grow A w A w:=⟨af.refl _ _,λ_ h=>.inl h,λ_ h=>h⟩
theorem Grow.W{A:ah}(h:Ext w I):Grow A w A I:=⟨h.V _,λ_ h=>.inl h,λ_ h=>h⟩
theorem Grow.F{A aK e:ah}{f:x4}(h:Grow A w aK I)(k:Grow aK I e f):Grow A w e f:=
 ⟨⟨Y9 h.1.size k.1.size,λr o a J j=>k.1.aZ r o (h.1.aZ r o a J j) J λp=>(h.2.1 r p).elim j λq=>by
  have:=(j9.1 a).1;omega⟩,λr a=>by
  rcases k.2.1 r a with h1|h1
  .exact h.2.1 r h1
  .have:=h.1.size;exact .inr Ω,λr a=>k.2.2 r (h.2.2 r a)⟩
theorem En{A:ah}{t:aw}(h:c3 w ae A t):al x8 Jv [Γ ae] w λv I=>v=Δ (t.cells.length:Int)/\Ext w I:=by
 obtain⟨e,f,go,c0,a7,j,df,h1,a,q,r,s⟩:=h;refine aB func158 ?_;rw[cR ml.u];simp only[Z3,aX];rw[aG c8.p 0 h1 rfl,dE gV.u a];exact⟨rfl,Ext.refl _⟩
theorem Eo{A:ah}{t:aw}{i:Int}(h:c3 w ae A t):al x8 IN [Γ ae,Δ i] w λv I=>v= .bool (decide (0<=i/\i<t.cells.length))/\Ext w I:=by
 refine aB func87 ?_;refine aV (λv U=>v= .bool (decide (0<=i/\i<t.cells.length))/\Ext w U) (λ_ _ h=>h) ?_;intro ay a;rw[cH,ak];refine⟨λe=>?_,λe=>a _ _ ⟨by rw[ms];omega,Ext.refl _⟩⟩;refine(En h).Y ?_;rintro _ U _ ⟨rfl,f⟩;rw[aR];refine a _ _ ⟨?_,f⟩;congr 1;rw[U9,ne,ne];exact⟨λh=>⟨Ω,h⟩,λh=>h.2⟩
theorem PD{A:ah}{t:aw}{i:Nat}{c:Cell}(h:c3 w ae A t)(j:y=(i:Int))(a:t.cells[i]?=σ c):al x8 AG [Γ ae,Δ y] w λv I=>v=Δ c.v/\Ext w I:=by
 have q:=(x5.1 a).1;refine aB func38 ?_;refine(Eo h).Y ?_;rintro _ U _ ⟨rfl,e⟩;rw[m7 Ω,bC,X1,aX];obtain⟨r,s,go,c0,a7,x,df,h1,f,z,B,C⟩:=h.W e;rw[aG c8.p 0 h1 rfl,b7 j gV.u ej.i f q,aT ej.p rfl,aD Ψ (f.range a 0 _ rfl)];exact⟨rfl,e⟩
theorem mF{A:ah}{t:aw}{i:Nat}{x:Int}(h:c3 w ae A t)(e:y=(i:Int))(a:t.bM[i]?=σ x):al x8 AG [Γ ae,Δ y] w λv I=>v=Δ x/\Ext w I:=by
 unfold aw.bM at a;rw[v8]at a;obtain⟨c,f,rfl⟩:=X0.1 a;exact PD h e f
def mG(t:aw):Prop:=t.cells.length<=100000000/\t.olds.length<=100000000/\t.marks.length<=100000000
theorem qK{q go c0:Nat}{a7 a df:x1}{t:aw}{x:x1}(h1:ag w ae c8 [a7,a,df,x])(f:bh iY 2 ej w q a7 t.cells)(h:bh lj 3 gE w go a t.olds)(j:bh jM 3 dW w c0 df t.marks):
  (¬hp a7 ae/\¬hp a ae/\¬hp df ae)/\(∀r,hp a7 r->¬hp a r/\¬hp df r)/\∀r,hp a r->¬hp a7 r/\¬hp df r:=by
 refine⟨⟨cn f h1 Φ,cn h h1 Φ,cn j h1 Φ⟩,λr p=>?_,λr p=>?_⟩
 .obtain⟨rfl,c,e⟩:=eb f p;exact⟨cn h e Φ,cn j e Φ⟩
 .obtain⟨rfl,c,e⟩:=eb h p;exact⟨cn f e Φ,cn j e Φ⟩
theorem uZ{A:ah}{t:aw}{i:Nat}{x:Int}(h:c3 w ae A t)(bk:y=(i:Int))(N:i<t.cells.length)(av:mG t):al x8 AQ [Γ ae,Δ y,Δ x] w λv I=>v=Δ 0/\∃aK,Grow A w aK I/\c3 I ae aK (t.set i x):=by
 subst bk;obtain⟨c,C⟩:=aF (l:=t.cells) N;refine aB func129 ?_;rw[cR ml.u];simp only[Z3,aX];refine(Eo h).Y ?_;rintro _ U _ ⟨rfl,J⟩;rw[m7 Ω,bC,X1,aX];obtain⟨aW,O,go,c0,a7,P,df,h1,aY,ax,Z,ac⟩:=id (h.W J);have bl:∀{aa:x4}{aK:ah}{bn:aw}{st:Nat}{K:x4->Prop},c3 aa ae aK bn->bn.cells[i]?=σ ⟨c.v,st⟩->
   (∀q,af aK aa q->c3 q ae aK {bn with cells:=bn.cells.set i ⟨x,st⟩}->K q)->
   (ab x8 (bR (Γ ae)) aa λt77=>
   ab x8 (u7 c8 t77 0) aa λbm=>
   ab x8 (u5 gV bm) aa λbo=>
   ab x8 (Z0 gV bo (Δ (i:Int))) aa λbp=>
   ab x8 (u7 ej bp 0) aa λbr=>
   aH x8 (n9 au br (Δ x)) aa λ(_:Unit)q=>
   K q):=by
  intro aa aK bn st K az ad bs;obtain⟨aA,O,go,c0,a7,P,df,E,G,Q,R,S⟩:=az;have bt:=(x5.1 ad).1;rw[aG c8.p 0 E rfl,b7 rfl gV.u ej.i G bt,aT ej.p rfl];obtain⟨⟨W,aC,aE⟩,H,_⟩:=qK E G Q R;refine k9 (f:=iY) (j:=0) (a:=⟨c.v,st⟩) (a':=⟨x,st⟩) au.i rfl rfl G ad rfl Ω λq B bu bw=>?_;exact bs q (B.Y λr _ e=>S r (.inl e)) ⟨aA,O,go,c0,a7,P,df,E.V B W,bw,Q.V B λr e he=>(H r he).1 e,R.V B λr e he=>(H r he).2 e,S⟩
 refine cW (λaa=>∃aK bn st,Grow A U aK aa/\c3 aa ae aK bn/\bn.cells[i]?=σ ⟨c.v,st⟩/\t.set i x={bn with cells:=bn.cells.set i ⟨x,st⟩}) ?_ ?_
 .rintro aa ⟨aK,bn,st,bx,az,ad,aI⟩;refine bl az ad λq B ax=>⟨by trivial,aK,?_,by rw[aI];exact ax⟩;exact(Grow.W J).F (bx.F ⟨B,λ_ h=>.inl h,λ_ h=>h⟩)
 intro ay aJ;rw[aG c8.p 2 h1 rfl,dE jY.u Z,bO,ak];have aZ:∀(hm:t.marks.getLast? =ν\/∃m,t.marks.getLast? =σ m/\¬(c.st<m.st/\i<m.cells)),t.set i x={t with cells:=t.cells.set i ⟨x,c.st⟩}:=λhm=>by
  unfold aw.set;rw[C];rcases hm with hm|⟨m,hm,bz⟩
  .simp only[hm]
  .simp only[hm];rw[m5 bz]
 refine⟨λbZ=>?_,λb0=>aJ _ ⟨A,t,c.st,Grow.refl _ _,h.W J,C,aZ (.inl ?_)⟩⟩
 rotate_left
 .rw[List.getLast?_eq_none_iff];exact c9 Ω
 obtain⟨m,hm⟩:=aF (l:=t.marks) (i:=t.marks.length-1) Ω;have a1:t.marks.getLast? =σ m:=by rw[List.getLast?_eq_getElem?];exact hm
 have b1:=av.2.2;rw[aG c8.p 2 h1 rfl,dp,li Ω Ω,b7 (i:=t.marks.length-1) Ω jY.u dW.i Z Ω,bA dW.p dW.i rfl (Z.range hm)];refine bB dW.i λan aa b2 a2 bD=>?_;refine b4 (vs:=jM m) dW.i rfl rfl (by intro v X;simp[jM]at X;rcases X with rfl|rfl|rfl<;>rfl) bD λq B bu bE=>?_;have a6:=a2.put B Ω;have ai:∀{I:x4},Ext q I->ag I an dW (jM m):=λJ=>bE.W J;refine aV (λv aM=>v= .bool (decide (c.st<m.st/\i<m.cells))/\Ext q aM) ?_ ?_
 rotate_left
 .intro b3 a8;intro aM s _ _;have L:=a6.F s;have ba:=ai s;have M:=aY.W L;rw[aG c8.p 0 (h1.W L) rfl,b7 rfl gV.u ej.i M N,aT ej.p rfl,aD Ψ (M.range C 1 _ rfl),aL dW.p 2 ba rfl,aR,ak];refine⟨λbb=>?_,λbc=>a8 _ _ ⟨by rw[ms];omega,s⟩⟩;rw[aL dW.p 1 ba rfl,aR];refine a8 _ _ ⟨?_,s⟩;congr 1;rw[U9,ne,ne];exact⟨λh=>⟨Ω,Ω⟩,λh=>Ω⟩
 rintro _ aM ⟨rfl,s⟩;have L:=a6.F s;rw[ak];refine⟨λbb=>?_,λbc=>aJ _ ⟨A,t,c.st,Grow.W L,(h.W J).W L,C,aZ (.inr ⟨m,a1,bc⟩)⟩⟩;intro b5 aj _ _;have Y:=L.F aj;have aN:=h1.W Y;have M:=aY.W Y;have bF:=ax.W Y;have bG:=Z.W Y;rw[bL,aT c8.p rfl,aD Ψ (aN.cell rfl),bL,aT c8.p rfl,aD Ψ (aN.cell rfl),b7 rfl gV.u ej.i M N,bA ej.p ej.i rfl (M.range C)];rw[di (cs:=#[Δ (i:Int),Δ c.v,.int .u64 (c.st:Int)]) Ψ];let a:lP:=⟨i,c⟩;have bH:∀u∈lj a,u.oneCell'=ro:=by intro v X;simp[lj]at X;rcases X with rfl|rfl|rfl<;>rfl
 refine iS (f:=lj) (a:=a) iH.u gE.i Ω rfl rfl λb6 b8 bd b9 z bI=>?_;refine⟨.inl z,?_⟩;have be:=Y.F z;have aO:=aN.W z;have bf:=M.W z;have aP:=bF.W z;have bg:=bG.W z;obtain⟨⟨W,aC,aE⟩,H,bJ⟩:=qK aO bf aP bg;refine jo iH.u gE.i rfl aP (by simpa using bI.sl) bH (by have:=av.2.1;omega) (by have:=av.2.1;omega) λbK bM ca am bN bh=>?_;rw[bL,aT c8.p rfl];have bi:=aO.V bh aC;refine bq iH.i (dg am.sl).1 (dg am.sl).2 bi Ξ λao bj cb aQ=>?_;have aQ:=aQ;have ap:af (λr=>hp P r\/r=ae) bd ao:=(bh.Y λr _ h=>.inl h).F (bj.Y λr _ h=>.inr h);have bP:=bf.V ap λr e he=>he.elim (λhe=>(H r e).1 he) λhe=>W (he▸e);have bQ:=bg.V ap λr e he=>he.elim (λhe=>(bJ r he).2 e) λhe=>aE (he▸e);have bS:=am.V bj λr e he=>by
  have he:r=ae:=he;subst he;exact cn am bi Φ e
 have cc:=be.size;have cd:=a2.size;let aS:ah:=λr=>A r\/bd.heap.size<=r;have bT:Grow A U aS ao:=⟨(be.V A).F (ap.Y λr _ he=>he.elim (λhe=>ac r (.inr (.inl he))) λhe=>he▸aW),λr e=>e.imp id λe=>Ω,λr e=>.inl e⟩;have bU:c3 ao ae aS {t with olds:=t.olds++[a]}:=⟨.inl aW,O,bM,c0,a7,bK,df,aQ,bP,bS,bQ,λr e=>by
  rcases e with e|e|e
  .exact .inl (ac r (.inl e))
  .rcases bN r e with h|h
   .exact .inl (ac r (.inr (.inl h)))
   .exact .inr h
  .exact .inl (ac r (.inr (.inr e)))⟩
 have bV:ag ao an dW (jM m):=(ai ((s.F aj).F z)).V ap λhe=>by
  rcases he with he|he
  .obtain⟨rfl,ce,bW⟩:=eb aP he;exact m6 (eC bW (ai ((s.F aj).F z))) Φ
  .subst he;exact m6 (eC aO (ai ((s.F aj).F z))) Φ
 intro cf aU _ _;have bX:=bU.W aU;obtain⟨aA,O,go,c0,a7,P,df,E,G,Q,R,S⟩:=bX;rw[aG c8.p 0 E rfl,aL dW.p 2 (bV.W aU) rfl,b7 rfl gV.u ej.i G N,aT ej.p rfl];obtain⟨⟨W,aC,aE⟩,H,_⟩:=qK E G Q R;refine k9 (a':=⟨c.v,m.st⟩) fz.i rfl rfl G C rfl Ω λcg aq ch bY=>?_;have aI:t.set i x={t with olds:=t.olds++[a],cells:=t.cells.set i ⟨x,m.st⟩}:=by
  unfold aw.set;rw[C];simp only[a1];rw[m3 bb]
 refine aJ _ ⟨aS,{t with olds:=t.olds++[a],cells:=t.cells.set i ⟨c.v,m.st⟩},m.st,bT.F ((Grow.W aU).F ⟨aq.Y λr _ e=>S r (.inl e),λ_ h=>.inl h,λ_ h=>h⟩),⟨aA,O,go,c0,a7,P,df,E.V aq W,bY,Q.V aq λr e he=>(H r he).1 e,R.V aq λr e he=>(H r he).2 e,S⟩,?_,?_⟩
 .show (t.cells.set i _)[i]?=_;rw[l9 N]
 .rw[aI];simp only[List.set_set]
theorem Ep(n:Nat):dX (#[Δ 0,.int .u64 0]:Array x1) (n*2)=(o4 n (⟨0,0⟩:Cell)).flatMap iY:=by
 have:∀n,dX (#[Δ 0,.int .u64 0]:Array x1) (n*2)=(o4 n (⟨0,0⟩:Cell)).flatMap iY:=by
  intro n;apply X3;intro j;have r:((o4 n (⟨0,0⟩:Cell)).flatMap iY).length=n*2:=by simp[iY]
  by_cases p:j<n*2
  .have q:(dX (#[Δ 0,.int .u64 0]:Array x1) (n*2))[j]?=σ (if j % 2=0 then Δ 0 else .int .u64 0):=by
    unfold dX;rw[Q3,Array.getElem?_map,Array.getElem?_range,m3 p];rcases Nat.mod_two_eq_zero_or_one j with h|h<;>simp[h]
   have e:=pw (f:=iY) (k:=2) (L:=o4 n (⟨0,0⟩:Cell)) (i:=j / 2) (j:=j % 2) (a:=⟨0,0⟩) (v:=if j % 2=0 then Δ 0 else .int .u64 0) (λa _=>rfl) (by rw[List.getElem?_replicate,m3 Ω]) (by rcases Nat.mod_two_eq_zero_or_one j with h|h<;>simp[h,iY]);rw[show j / 2*2+j % 2=j by omega]at e;rw[q,e]
  .rw[Y4 (by rw[qi];omega),Y4 Ω]
 exact this n
theorem PE{A:ah}{t:aw}(h:c3 w ae A t)(Q:mG t)(ac:n<=100000000):al x8 J0 [Γ ae,Δ (n:Int)] w λv I=>v=Δ (t.cells.length:Int)/\∃aK,Grow A w aK I/\c3 I ae aK (t.grow n):=by
 refine aB func202 ?_;refine(En h).Y ?_;rintro _ U _ ⟨rfl,f⟩;refine cW (λaa=>∃aK,Grow A w aK aa/\c3 aa ae aK (t.grow n)) (λaa h=>⟨rfl,h⟩) ?_;intro ay y;refine aV (λv aa=>v= .bool (decide (0<n))/\U=aa) ?_ ?_
 rotate_left
 .intro ad R;rw[wT ml.u];simp only[Z3,W7,bH];rw[bO];refine R _ _ ⟨?_,rfl⟩;congr 1;rw[U9,ne,ne];omega
 rintro _ _ ⟨rfl,rfl⟩;rw[ak];refine⟨λB=>?_,λB=>y _ ⟨A,Grow.W f,?_⟩⟩
 rotate_left
 .have:n=0:=Ω
  subst this;have e:t.grow 0=t:=by unfold aw.grow;simp
  rw[e];exact h.W f
 obtain⟨C,ag,go,c0,a7,S,df,h1,E,G,H,j⟩:=id (h.W f);rw[aG c8.p 0 h1 rfl];obtain⟨⟨W,X,Y⟩,J,ai⟩:=qK h1 E G H;have am:=Q.1;refine PC (k:=2) rfl gV.u aj.u ej.i rfl Ω (λu hu=>?_) E.1 B Ω Ω λK L aa M Z N=>?_
 .exact D7 Φ Φ u hu
 rw[bL,aT c8.p rfl];have q:bh iY 2 ej aa L K (t.cells++o4 n ⟨0,0⟩):=by
  refine⟨?_,λ_ _=>rfl⟩;have e:(x1.agg #[Δ 0,.int .u64 0]).cells= #[Δ 0,.int .u64 0]:=rfl;rw[e,Ep]at M;rw[r9,List.length_replicate,List.flatMap_append];exact M
 have O:=h1.V N W;refine bq gV.i (dg q.sl).1 (dg q.sl).2 O Ξ λab P an s=>?_;have s:=s;have x:af (λr=>hp a7 r\/r=ae) U ab:=(N.Y λr _ h=>.inl h).F (P.Y λr _ h=>.inr h);have z:=f.size;refine y _ ⟨λr=>A r\/U.heap.size<=r,(Grow.W f).F ⟨x.Y λr _ he=>he.elim (λhe=>j r (.inl he)) λhe=>he▸C,λr a=>a,λr a=>.inl a⟩,.inl C,L,go,c0,K,S,df,s,q.V P λr a he=>?_,G.V x λr a he=>he.elim (λhe=>(J r he).1 a) λhe=>X (he▸a),H.V x λr a he=>he.elim (λhe=>(J r he).2 a) λhe=>Y (he▸a),λr a=>?_⟩
 .have he:r=ae:=he;subst he;exact cn q O Φ a
 .rcases a with a|a|a
  .exact (Z r a).imp (λh=>j r (.inl h)) id
  .exact .inl (j r (.inr (.inl a)))
  .exact .inl (j r (.inr (.inr a)))
theorem PF(s:n<=1000):al x8 I7 [Δ (n:Int)] w λv I=>Ext w I/\∃ae,v=Γ ae/\c3 I ae (fC w.heap.size) ⟨o4 n ⟨0,0⟩,[],[],0⟩:=by
 refine aB func128 ?_;rw[tG,Int.max_eq_left Ω];refine Bn gV.u ej.i Ω Ω λg U x h f=>?_;rw[di (cs:=#[.slice (σ ⟨g,0,ν⟩) n n,.slice ν 0 0,.slice ν 0 0,.int .u64 0]) Ψ];refine bo λae aa y j q=>?_;have z:=h.size;have e:(x1.agg #[Δ 0,.int .u64 0]).cells= #[Δ 0,.int .u64 0]:=rfl;have f:ag U g ej ((o4 n (⟨0,0⟩:Cell)).flatMap iY):=by rw[<-Ep,<-e];exact f
 have p:bh iY 2 ej U g (.slice (σ ⟨g,0,ν⟩) n n) (o4 n ⟨0,0⟩):=by
  refine⟨?_,λ_ _=>rfl⟩;rw[List.length_replicate];exact b0.full f (by simp[iY]) (by simp[maxLen];omega)
 refine⟨h.F j,ae,rfl,by show w.heap.size<=ae;omega,g,0,0,_,_,_,q,p.W j,bh.nil _ _ _ _ _,bh.nil _ _ _ _ _,λr a=>?_⟩;rcases a with a|a|a
 .have:=(p.lc a).1;show w.heap.size<=r;omega
 .exact (fq a).elim
 .exact (fq a).elim
theorem pf{α β:Type}{f:α->List β}:∀{L:List α}{i j:Nat}{a:α},L[i]?=σ a->j<(f a).length->(L.flatMap f)[((L.take i).flatMap f).length+j]?=(f a)[j]?
 |x::L,0,j,a,h,e=>by
  cases h;rw[List.take_zero,List.flatMap_nil,Q7,W0,W9,Y2 e]
 |x::L,i+1,j,a,h,e=>by
  have h:L[i]?=σ a:=by simpa using h
  rw[List.take_succ_cons,W9,W9,r9,R5,Z7 Ω,R2,pf h e]
theorem xZ{α β:Type}{f:α->List β}:∀{L:List α}{i j:Nat}{a b:α}{x:β},L[i]?=σ a->j<(f a).length->f b=(f a).set j x->(L.flatMap f).set (((L.take i).flatMap f).length+j) x=(L.set i b).flatMap f
 |y::L,0,j,a,b,x,h,e,p=>by
  cases h;rw[List.take_zero,List.flatMap_nil,Q7,W0,W9,List.set_cons_zero,W9,p,List.set_append_left _ _ e]
 |y::L,i+1,j,a,b,x,h,e,p=>by
  have h:L[i]?=σ a:=by simpa using h
  rw[List.take_succ_cons,W9,W9,r9,R5,T4 _ _ Ω,R2,xZ h e p,List.set_cons_succ,W9]
theorem Er{α β:Type}{f:α->List β}{L:List α}{i:Nat}{a:α}(h:L[i]?=σ a)(e:j<(f a).length):((L.take i).flatMap f).length+j<(L.flatMap f).length:=by
 have h1:=pf (f:=f) h e;rw[x7 e]at h1;exact(x5.1 h1).1
structure bz where
 gone:Int
 mask:Int
 un:Λ
structure ch where
 sc:Λ
 ai:Λ
 live:Int
 cs:Λ
structure u0 where
 v:Int
 sc:Λ
 qI:Λ
structure am where
 zero:Int
 d6:List bz
 d7:List ch
 dc:List u0
def gP(x:bz):Λ:=x.gone::x.mask::x.un
def ih(x:ch):Λ:=x.live::x.cs
def jN(s:am):Λ:=[s.zero,(s.d7.length:Int),(s.dc.length:Int)]
def am.cells(s:am):Λ:=jN s++(s.d6.flatMap gP++s.d7.flatMap ih)
def gv(s:am)(i:Nat):Nat:=3+((s.d6.take i).flatMap gP).length
def eW(s:am)(j:Nat):Nat:=3+((s.d6.flatMap gP).length+((s.d7.take j).flatMap ih).length)
theorem PG(s:am):s.cells[0]?=σ s.zero:=rfl
theorem PH(s:am):s.cells[1]?=σ (s.d7.length:Int):=rfl
theorem PI(s:am):s.cells[2]?=σ (s.dc.length:Int):=rfl
theorem qL{s:am}{i:Nat}{x:bz}(h:s.d6[i]?=σ x)(e:j<x.un.length+2):s.cells[gv s i+j]?=(gP x)[j]?:=by
 have a:j<(gP x).length:=e;unfold am.cells gv;rw[R5,Z7 (by simp[jN]),show(jN s).length=3 from rfl,R2,Y2 (Er h a),pf h a]
theorem x0{s:am}{i:Nat}{x:ch}(h:s.d7[i]?=σ x)(a:j<x.cs.length+1):s.cells[eW s i+j]?=(ih x)[j]?:=by
 have e:j<(ih x).length:=a;unfold am.cells eW;rw[R5,R5,Z7 (by simp[jN]),show(jN s).length=3 from rfl,R2,Z7 Ω,R2,pf h e]
theorem PJ(s:am)(c:Int):s.cells.set 0 c=({s with zero:=c}:am).cells:=rfl
theorem Es{s:am}{i:Nat}{x y:bz}(h:s.d6[i]?=σ x)(e:j<x.un.length+2)(f:gP y=(gP x).set j c):s.cells.set (gv s i+j) c=({s with d6:=s.d6.set i y}:am).cells:=by
 have a:j<(gP x).length:=e;unfold am.cells gv;rw[R5,T4 _ _ (by simp[jN]),show(jN s).length=3 from rfl,R2,List.set_append_left _ _ (Er h a),xZ h a f];rfl
theorem PK{s:am}{i:Nat}{x y:ch}(h:s.d7[i]?=σ x)(a:j<x.cs.length+1)(e:ih y=(ih x).set j c):s.cells.set (eW s i+j) c=({s with d7:=s.d7.set i y}:am).cells:=by
 have f:j<(ih x).length:=a;unfold am.cells eW;rw[R5,R5,T4 _ _ (by simp[jN]),show(jN s).length=3 from rfl,R2,T4 _ _ Ω,R2,xZ h f e];show _=jN {s with d7:=s.d7.set i y}++_;unfold jN;rw[o5]
theorem PL{s:am}(x:ch):(s.cells++ih x).set 1 ((s.d7.length+1:Nat):Int)=({s with d7:=s.d7++[x]}:am).cells:=by
 unfold am.cells;simp only[List.flatMap_append,List.flatMap_singleton,jN,r9,U2,X9];rfl
theorem x2(s:am):s.cells.length=3+((s.d6.flatMap gP).length+(s.d7.flatMap ih).length):=by
 unfold am.cells;rw[r9,r9];rfl
def si(a sc:Λ):Λ:=sc.map λv=>a.getD v.toNat 0
def sj(k:Int)(a:Int)(p:bz×Int):Int:=if p.1.gone≠0 then a else min (a+p.1.un.getD p.2.toNat 0) k
def sk(k:Int)(a:Λ)(e:Int)(f:ch):Int:=if f.live≠0 then min (e+br f.ai f.cs (si a f.sc)) k else e
def dropped(mask:Int)(v:Int):Bool:=mask.toNat.testBit v.toNat
def jO(p:bz×Int):Bool:=decide (p.1.gone≠0)|| !dropped p.1.mask p.2
def fW(k:Int)(s:am)(a:Λ):Int:=if(s.d6.zip a).all jO then s.d7.foldl (sk k a) ((s.d6.zip a).foldl (sj k) s.zero)else k
def kh(s:am)(a:Λ):Prop:=a.length=s.d6.length/\∀(i:Nat)x v,s.d6[i]?=σ x->a[i]?=σ v->x.gone≠0\/(0<=v/\v<x.un.length)
structure bd(k:Int)(co:Λ)(s:am):Prop where
 ft:1<=k/\k<=2147483648
 eD:1<=co.length/\co.length<=64/\∀z∈co,1<=z/\z<=32
 zero:0<=s.zero/\s.zero<=k
 d6:s.d6.length=co.length
 var:∀(i:Nat)x z,s.d6[i]?=σ x->co[i]?=σ z->x.un.length=z.toNat/\(∀c∈x.un,0<=c/\c<=k)/\0<=x.mask/\x.mask<4294967296
 d7:∀f∈s.d7,ie co k (f.sc,f.cs)/\f.ai=b1 co f.sc/\2<=f.sc.length
def newVar(u:Λ):bz:=⟨0,0,u⟩
def lX(co:Λ)(g:cO):ch:=⟨g.1,b1 co g.1,1,g.2⟩
def dh(n:aI):am:=⟨n.zero,n.unary.map newVar,n.d7.map (lX n.co),[]⟩
theorem PM{n:aI}(h:lg n):bd n.k n.co (dh n):=by
 refine⟨h.k,h.co,h.zero,by simp[dh,h.lW],λi x z a j=>?_,λf p=>?_⟩
 .have a:(n.unary.map newVar)[i]?=σ x:=a;rw[v8]at a;obtain⟨u,hu,rfl⟩:=X0.1 a;obtain⟨h1,e⟩:=h.unary i z u j hu;exact⟨h1,e,S8 _,by show(0:Int)<_;omega⟩
 .obtain⟨g,q,rfl⟩:=j0.1 p;obtain⟨h1,e⟩:=h.d7 g q;exact⟨h1,rfl,e⟩
theorem x3{a:Nat}{n:aI}(h:gu w a n):al x8 IR [Γ a] w λv I=>v=Δ (n.co.length:Int)/\Ext w I:=by
 obtain⟨j,q,r,s,gr,a1,L,nm,d9,gz,fv2,h1,e,f,x,y,z,A⟩:=h;refine aB func94 ?_;rw[cR nX.u];simp only[Z3,aX];rw[aG gg.p 0 h1 rfl,aG cF.p 2 e rfl,aY aq.u f.ls];exact⟨rfl,Ext.refl _⟩
theorem PN{a:Nat}{n:aI}(h:gu w a n):al x8 Ke [Γ a] w λv I=>v=Δ n.k/\Ext w I:=by
 obtain⟨f,j,q,r,gr,a1,L,nm,d9,gz,fv2,h1,e,s,x,y,z,A⟩:=h;refine aB func219 ?_;rw[cR nX.u];simp only[Z3,aX];rw[aG gg.p 0 h1 rfl,aG cF.p 1 e rfl];exact⟨rfl,Ext.refl _⟩
theorem PO{a:Nat}{n:aI}(h:gu w a n):al x8 I8 [Γ a] w λv I=>v=Δ n.zero/\Ext w I:=by
 obtain⟨e,f,j,q,gr,a1,L,nm,d9,gz,fv2,h1,r,s,x,y,z,A⟩:=h;refine aB func130 ?_;rw[cR nX.u];simp only[Z3,aX];rw[aG gg.p 1 h1 rfl];exact⟨rfl,Ext.refl _⟩
theorem Et{a:Nat}{n:aI}(h:gu w a n):al x8 AS [Γ a] w λv I=>v=Δ (n.d7.length:Int)/\Ext w I:=by
 obtain⟨j,q,r,s,gr,a1,L,nm,d9,gz,fv2,h1,x,y,z,A,e,f⟩:=h;refine aB func133 ?_;rw[cR nX.u];simp only[Z3,aX];rw[aG gg.p 3 h1 rfl,dE mm.u e.1];exact⟨by rw[<-f,u9],Ext.refl _⟩
theorem Eu{s:Nat}{n:aI}{i:Int}(h:gu w s n)(f:lg n):al x8 I9 [Γ s,Δ i] w λv I=>Ext w I/\(¬(0<=i/\i<n.co.length)->v= .slice ν 0 0)/\
  ∀u,0<=i->n.unary[i.toNat]?=σ u->∃g,w.heap.size<=g/\aA .i64 au I g v u:=by
 refine aB func131 ?_;have K:=f.lW;refine aV (λv U=>v= .bool (decide (¬(0<=i/\i<n.co.length)))/\Ext w U) ?_ ?_
 .rintro _ U ⟨rfl,e⟩;rw[ak];refine⟨λC=>⟨e,λ_=>rfl,λu E hu=>?_⟩,λj=>?_⟩
  .have:=(x5.1 hu).1;exact m6 ⟨E,Ω⟩ C
  have j:=X5.1 j;obtain⟨M,N,O,P,gr,a1,L,nm,d9,gz,fv2,h1,Q,R,q,x,S,V⟩:=h.W e;have W:a1.length=n.unary.length:=by rw[<-x,u9]
  obtain⟨a,r⟩:=aF (l:=a1) (i:=i.toNat) Ω;obtain⟨X,hm⟩:=q.2 a (x6 r);rw[aG gg.p 2 h1 rfl,b7 (i:=i.toNat) Ω ev.u ax.i q.1 Ω,aD (o:=i.toNat*1) Ψ (q.1.range r 0 _ rfl)];have y:n.unary[i.toNat]?=σ a.l:=by rw[<-x,v8,r];rfl
  have Y:a.l.length<=32:=by
   obtain⟨z,A⟩:=aF (l:=n.co) (i:=i.toNat) Ω;have Z:=(f.unary i.toNat z a.l A y).1;have ab:=f.co.2.2 z (x6 A);omega
  refine(wY hm.ls Ω).Y ?_;rintro v aa _ ⟨G,g,ac,H⟩;refine⟨e.F G,λJ=>m6 j J,λu _ hu=>⟨g,by have:=e.size;omega,?_⟩⟩;rw[y]at hu;cases hu;exact H
 .intro ay B;rw[aR,ak];refine⟨λad=>B _ _ ⟨by rw[m7];omega,Ext.refl _⟩,λae=>?_⟩;refine(x3 h).Y ?_;rintro _ U _ ⟨rfl,e⟩;rw[cH];refine B _ _ ⟨?_,e⟩;congr 1;rw[U9,ne,ne];omega
theorem Ev{n:aI}{i:Int}(h:gu w j n)(a:lg n):al x8 Iw [Γ j,Δ i] w λv I=>Ext w I/\v=Δ (if 0<=i then n.co.getD i.toNat 0 else 0):=by
 refine aB func67 ?_;refine(Eu h a).Y ?_;rintro v U _ ⟨p,r,s⟩;by_cases e:0<=i/\i<n.co.length
 .have x:=a.lW;obtain⟨u,hu⟩:=aF (l:=n.unary) (i:=i.toNat) Ω;obtain⟨z,f⟩:=aF (l:=n.co) (i:=i.toNat) Ω;obtain⟨g,_,hm⟩:=s u e.1 hu;rw[aY ax.u hm.ls];refine⟨p,?_⟩;have y:=(a.unary i.toNat z u f hu).1;have A:=a.co.2.2 z (x6 f);rw[m3 e.1,u4,f];congr 1;simp only[V9];omega
 .rw[r e,iL ax.u];refine⟨p,?_⟩;by_cases q:0<=i
  .rw[m3 q,u4,Y4 Ω];rfl
  .rw[m5 q];rfl
theorem Ew{a:Nat}{n:aI}{j:Int}(h:gu w a n)(f:∀I,Ext w I->K (.bool (decide (¬(0<=j/\j<n.d7.length)))) I):
  ab x8 (aN .lss aj rs ro (Δ j) (Δ 0)) w λq=>Split q (K (.bool ro) w) (al x8 AS [Γ a] w λr p=>ab x8 (aN .geq aj rs rs (Δ j) r) p λs=>K s p):=by
 rw[aR,ak];refine⟨λy=>?_,λz=>?_⟩
 .have:=f w (Ext.refl _);rw[m7 (show¬(0<=j/\j<n.d7.length) by omega)]at this;exact this
 .refine (Et h).Y ?_;rintro _ U _ ⟨rfl,x⟩;rw[cH];have:=f U x;have e:decide ((n.d7.length:Int)<=j)=decide (¬(0<=j/\j<n.d7.length)):=by
   rw[U9,ne,ne];omega
  rw[<-e]at this;exact this
theorem PP{s:Nat}{n:aI}{g:cO}(h:gu w s n)(z:lg n)(e:n.d7[j]?=σ g):al x8 Jb [Γ s,Δ (j:Int)] w λv I=>Ext w I/\∃gs,w.heap.size<=gs/\aA .i64 aj I gs v g.1:=by
 refine aB func135 ?_;have G:=(x5.1 e).1;refine aV (λv U=>v= .bool (decide (¬(0<=(j:Int)/\(j:Int)<n.d7.length)))/\Ext w U) ?_ λay A=>Ew h λI B=>A _ _ ⟨rfl,B⟩;rintro _ U ⟨rfl,f⟩;rw[ms Ω,aX];obtain⟨H,J,K,M,gr,a1,L,nm,d9,gz,fv2,h1,N,O,P,Q,q,x⟩:=h.W f;have R:L.length=n.d7.length:=by rw[<-x,u9]
 obtain⟨a,r⟩:=aF (l:=L) (i:=j) Ω;have y:ee a=g:=by rw[<-x,v8,r]at e;exact Z6 e
 obtain⟨⟨S,hm⟩,_⟩:=q.2 a (x6 r);rw[aG gg.p 3 h1 rfl,b7 rfl mm.u iJ.i q.1 Ω,aT iJ.p rfl,aD Ψ (q.1.range r 0 _ rfl)];have V:a.sc.length<=6:=by
  have:=(z.d7 g (x6 e)).1.scope.2;rw[<-y]at this;exact this
 refine(mr hm.ls Ω).Y ?_;rintro v aa _ ⟨C,gs,W,E⟩;refine⟨f.F C,gs,by have:=f.size;omega,?_⟩;rw[<-y];exact E
theorem PQ{g C:Nat}{cs:Λ}(h:dj w g C sv ai k cs):al x8 J2 [Γ g] w λv I=>Ext w I/\∃a e,v=Γ a/\w.heap.size<=a/\w.heap.size<=e/\dj I a e sv ai k cs:=by
 obtain⟨⟨a7,gs,E,hm,G⟩,⟨h1,L,ac⟩,J,y⟩:=h;refine aB func204 ?_;rw[cR fc.u];simp only[Z3,aX];intro U f _ _;have r:=E.W f;have M:=prod_bound J;rw[bL,aT cZ.p rfl,bA (cs:=[sv]) bD.p bD.i rfl (pj r (by
  intro j v s
  match j,s with
  |0,s=>exact s)),aG cZ.p 1 r rfl,aG cZ.p 2 r rfl]
 refine(wY (G.ls.W f) Ω).Y ?_;rintro z aa _ ⟨x,e,N,q⟩;refine⟨.inl x,?_⟩;rw[di (cs:=#[sv,Δ k,z]) (by obtain⟨_,_,_,rfl⟩:=dr hm.ls;obtain⟨_,_,_,rfl⟩:=dr q.ls;kernel_rfl)];refine bo λa O P A H=>?_;have Q:=f.size;have R:=x.size;have S:=q;have B:=(f.F x).F A;refine⟨B,a,e,rfl,Ω,Ω,⟨z,gs,H,hm.W B,q.W A⟩,⟨?_,?_,ac⟩,J,y⟩
 .have:=uK q (by rw[y];omega);omega
 .intro K;obtain⟨V,W⟩:=bV hm K;omega
theorem PR{z:Nat}{n:aI}{g:cO}(A:gu w0 z n)(B:Ext w0 w)(f:n.d7[j]?=σ g):al x8 Jc [Γ z,Δ (j:Int)] w λv I=>Ext w I/\∃gt q sv,v=Γ gt/\w.heap.size<=gt/\w.heap.size<=q/\dj I gt q sv (b1 n.co g.1) n.k g.2/\∀r,lc sv r->∃c,ag w0 r aj c:=by
 have h:=A.W B;refine aB func136 ?_;have W:=(x5.1 f).1;refine aV (λv U=>v= .bool (decide (¬(0<=(j:Int)/\(j:Int)<n.d7.length)))/\Ext w U) ?_ λay J=>Ew h λI K=>J _ _ ⟨rfl,K⟩;rintro _ U ⟨rfl,s⟩;rw[ms Ω,aX];have e:=B.F s;obtain⟨X,Y,Z,ab,gr,a1,L,nm,d9,gz,fv2,h1,ac,ad,ae,af,x,C⟩:=A;have ah:L.length=n.d7.length:=by rw[<-C,u9]
 obtain⟨a,y⟩:=aF (l:=L) (i:=j) Ω;have M:ee a=g:=by rw[<-C,v8,y]at f;exact Z6 f
 obtain⟨_,q,N,E⟩:=x.2 a (x6 y);rw[aG gg.p 3 (h1.W e) rfl,b7 rfl mm.u iJ.i (x.1.W e) Ω,aT iJ.p rfl,aD Ψ ((x.1.W e).range y 1 _ rfl)];refine(PQ (E.W e)).Y ?_;rintro v aa _ ⟨O,gt,P,rfl,ai,ak,Q⟩;have am:=s.size;refine⟨s.F O,gt,P,N,rfl,Ω,Ω,?_,λr G=>?_⟩
 .rw[<-M];exact Q
 .obtain⟨⟨_,_,_,hm,_⟩,_⟩:=E;obtain⟨R,_⟩:=bV hm G;rcases hm.2 with⟨S,_⟩|⟨_,cs,_,V,_⟩
  .obtain⟨_,_,_,H,an⟩:=G;rw[S]at H;cases H
  .exact⟨cs,R▸V⟩
structure qM where
 aU:x1
 d9:x1
 at_:Nat
def oi(x:qM):List x1:=[x.aU,x.d9,Δ (x.at_:Int)]
structure sn where
 v:Int
 aU:x1
 bv:x1
def x9(x:sn):List x1:=[Δ x.v,x.aU,x.bv]
def ix(s:am):Λ:=(W3 s.d6.length).map λi=>(gv s i:Int)
def ki(R:ah)(w:x4)(v:x1)(l:Λ):Prop:=(∃g,aA .i64 aj w g v l)/\∀r,lc v r->R r
theorem ki.ls{R:ah}(h:ki R w v l):aM .i64 w v l:=by
 obtain⟨⟨g,h⟩,_⟩:=h;exact h.ls
theorem ki.V{R S:ah}(h:ki R w v l)(f:af S w I)(j:∀r,r<w.heap.size->R r->¬S r):ki R I v l:=by
 obtain⟨⟨g,h1⟩,a⟩:=h;exact⟨⟨g,bs h1 f λr e=>j r (by obtain⟨p,q⟩:=bV h1 e;omega) (a r e)⟩,a⟩
theorem ki.Y{R R':ah}(h:ki R w v l)(a:∀r,R r->R' r):ki R' w v l:=⟨h.1,λr e=>a r (h.2 r e)⟩
def mH(R:ah)(w:x4)(L:List qM)(s:am):Prop:=L.length=s.d7.length/\∀(j:Nat)x f,L[j]?=σ x->s.d7[j]?=σ f->ki R w x.aU f.sc/\ki R w x.d9 f.ai/\x.at_=eW s j
def nC(R:ah)(w:x4)(E:List sn)(s:am):Prop:=E.length=s.dc.length/\∀(j:Nat)x e,E[j]?=σ x->s.dc[j]?=σ e->x.v=e.v/\ki R w x.aU e.sc/\ki R w x.bv e.qI
theorem mH.V{R S:ah}{L:List qM}{s:am}(h:mH R w L s)(a:af S w I)(e:∀r,r<w.heap.size->R r->¬S r):mH R I L s:=⟨h.1,λj x f p q=>by
 obtain⟨h1,y,z⟩:=h.2 j x f p q;exact⟨h1.V a e,y.V a e,z⟩⟩
theorem nC.V{R S:ah}{E:List sn}{s:am}(h:nC R w E s)(a:af S w I)(e:∀r,r<w.heap.size->R r->¬S r):nC R I E s:=⟨h.1,λj x f p q=>by
 obtain⟨h1,y,z⟩:=h.2 j x f p q;exact⟨h1,y.V a e,z.V a e⟩⟩
theorem mH.Y{R R':ah}{L:List qM}{s:am}(h:mH R w L s)(a:∀r,R r->R' r):mH R' w L s:=⟨h.1,λj x f e p=>by
 obtain⟨h1,q,y⟩:=h.2 j x f e p;exact⟨h1.Y a,q.Y a,y⟩⟩
theorem nC.Y{R R':ah}{E:List sn}{s:am}(h:nC R w E s)(a:∀r,R r->R' r):nC R' w E s:=⟨h.1,λj x f e p=>by
 obtain⟨h1,q,y⟩:=h.2 j x f e p;exact⟨h1,q.Y a,y.Y a⟩⟩
theorem sq{a b c:x4}(h:Ext a b)(k:af S b c)(f:∀r o,a.heap[r]?=σ o->fL o=ro->¬S r):Ext a c:=
 ⟨Y9 h.size k.size,λr o e J=>k.aZ r o (h.aZ r o e J) J (f r o e J)⟩
theorem c3.cut{A:ah}{t:aw}(h:c3 w ae A t):c3 w ae (λr=>A r/\r<w.heap.size) t:=by
 obtain⟨s,x,go,c0,a7,y,df,h1,e,f,j,z⟩:=h;refine⟨⟨s,h1.lt⟩,x,go,c0,a7,y,df,h1,e,f,j,λr a=>⟨z r a,?_⟩⟩;rcases a with a|a|a
 .obtain⟨p,q⟩:=e.lc a;omega
 .obtain⟨p,q⟩:=f.lc a;omega
 .obtain⟨p,q⟩:=j.lc a;omega
def eP(w:x4)(ad ae j:Nat)(e f h:x1)(A R:ah)(n:aI)(s:am)(t:aw):Prop:=
 (A ad/\(∀r,A r->¬R r)/\(∀r,R r->r<w.heap.size)/\∀r,A r->r<w.heap.size)/\∃bc p ge,∃(L:List qM)(E:List sn)(a:ah)(w0:x4),
  ag w ad b9 [Γ j,Γ ae,e,f,h]/\(gu w0 j n/\Ext w0 w/\∀r o,w0.heap[r]?=σ o->fL o=ro->R r)/\
  (c3 w ae a t/\(∀r,a r->A r)/\¬a ad/\∀r,lc e r\/hp f r\/hp h r->A r/\¬a r)/\aA .i64 aj w bc e (ix s)/\
  (bh oi 3 dU w p f L/\mH R w L s)/\bh x9 3 gD w ge h E/\nC R w E s
theorem eP.V{S:ah}{y:Nat}{B C F:x1}{A R:ah}{n:aI}{s:am}{t:aw}(h:eP w ad ae y B C F A R n s t)(e:af S w I)(f:∀r,r<w.heap.size->A r\/R r->¬S r):eP I ad ae y B C F A R n s t:=by
 obtain⟨⟨h1,j,X,Y⟩,bc,Z,ge,L,E,aa,w0,G,⟨ab,H,K⟩,⟨ac,p,ag,q⟩,M,⟨N,ai⟩,O,aj⟩:=h;have z:=e.size;refine⟨⟨h1,j,λr a=>by have:=X r a;omega,λr a=>by have:=Y r a;omega⟩,bc,Z,ge,L,E,aa,w0,G.V e (f _ G.lt (.inl h1)),⟨ab,sq H e λr o a ak J=>f r (by have:=H.size;have:=(j9.1 a).1;omega) (.inr (K r o a ak)) J,K⟩,
  ⟨?_,p,ag,q⟩,bs M e λr a J=>f r ?_ (.inl (q r (.inl a)).1) J,⟨N.V e λr a J=>f r ?_ (.inl (q r (.inr (.inl a))).1) J,ai.V e λr a h=>f r a (.inr h)⟩,O.V e λr a J=>f r ?_ (.inl (q r (.inr (.inr a))).1) J,aj.V e λr a h=>f r a (.inr h)⟩
 .obtain⟨P,al,go,c0,a7,an,df,Q,T,U,W,x⟩:=ac;refine⟨P,al,go,c0,a7,an,df,Q.V e (f _ Q.lt (.inl (p _ P))),T.V e λr a J=>?_,U.V e λr a J=>?_,W.V e λr a J=>?_,x⟩
  .exact f r (by obtain⟨h1,j⟩:=T.lc a;omega) (.inl (p _ (x r (.inl a)))) J
  .exact f r (by obtain⟨h1,j⟩:=U.lc a;omega) (.inl (p _ (x r (.inr (.inl a))))) J
  .exact f r (by obtain⟨h1,j⟩:=W.lc a;omega) (.inl (p _ (x r (.inr (.inr a))))) J
 .obtain⟨h1,j⟩:=bV M a;omega
 .obtain⟨h1,j⟩:=N.lc a;omega
 .obtain⟨h1,j⟩:=O.lc a;omega
theorem eP.W{a:Nat}{e f j:x1}{A R:ah}{n:aI}{s:am}{t:aw}(h:eP w ad ae a e f j A R n s t)(p:Ext w I):eP I ad ae a e f j A R n s t:=h.V (p.V λ_=>False) λ_ _ _ h=>h
theorem eP.sr{C:Nat}{F G H:x1}{A R:ah}{n:aI}{s:am}{t:aw}(h:eP w ad ae C F G H A R n s t):∃q,c3 w ae q t/\∀p I bn,Grow q w p I->c3 I ae p bn->∃aK,Grow A w aK I/\eP I ad ae C F G H aK R n s bn:=by
 obtain⟨⟨h1,f,K,M⟩,bc,Y,ge,L,E,q,w0,N,⟨Z,aa,O⟩,⟨ab,j,P,x⟩,Q,⟨S,ac⟩,T,af⟩:=h;refine⟨q,ab,λU I bn y ag=>?_⟩;have W:=ag.cut;have e:Grow q w (λr=>U r/\r<I.heap.size) I:=⟨y.1,λr a=>y.2.1 r a.1,λr a=>⟨y.2.2 r a,by have:=M r (j r a);have:=y.1.size;omega⟩⟩;obtain⟨p,X⟩:∃B:ah,B=λr=>U r/\r<I.heap.size:=⟨_,rfl⟩;rw[<-X]at W e;have ai:∀r,p r->r<I.heap.size:=λr h=>by rw[X]at h;exact h.2
 refine⟨λr=>A r\/p r,⟨e.1.Y λr _ a=>j r a,λr a=>?_,λr a=>.inl a⟩,⟨.inl h1,λr a z=>?_,λr a=>?_,λr a=>?_⟩,bc,Y,ge,L,E,p,w0,N.V e.1 P,⟨Z,sq aa e.1 λr o a aj J=>f r (j r J) (O r o a aj),O⟩,
  ⟨W,λr a=>.inr a,λa=>?_,λr a=>⟨.inl (x r a).1,λak=>?_⟩⟩,bs Q e.1 λr a J=>(x r (.inl a)).2 J,⟨S.V e.1 λr a J=>(x r (.inr (.inl a))).2 J,ac.V e.1 λr _ a J=>f r (j r J) a⟩,T.V e.1 λr a J=>(x r (.inr (.inr a))).2 J,af.V e.1 λr _ a J=>f r (j r J) a⟩
 .rcases a with a|a
  .exact .inl a
  .exact (e.2.1 r a).imp (j r) id
 .have:=K r z;rcases a with a|a
  .exact f r a z
  .rcases e.2.1 r a with h|h
   .exact f r (j r h) z
   .omega
 .have:=K r a;have:=e.1.size;omega
 .rcases a with a|a
  .have:=M r a;have:=e.1.size;omega
  .exact ai r a
 .rcases e.2.1 _ a with h|h
  .exact P h
  .have:=N.lt;omega
 .rcases e.2.1 r ak with h|h
  .exact (x r a).2 h
  .rcases a with a|a|a
   .obtain⟨h1,f⟩:=bV Q a;omega
   .obtain⟨h1,f⟩:=S.lc a;omega
   .obtain⟨h1,f⟩:=T.lc a;omega
def StateM(w:x4)(ad ae:Nat)(A R:ah)(n:aI)(s:am)(t:aw):Prop:=∃a e f h,eP w ad ae a e f h A R n s t
theorem StateM.V{S:ah}{A R:ah}{n:aI}{s:am}{t:aw}(h:StateM w ad ae A R n s t)(a:af S w I)(e:∀r,r<w.heap.size->A r\/R r->¬S r):StateM I ad ae A R n s t:=by
 obtain⟨f,j,p,q,h⟩:=h;exact⟨f,j,p,q,h.V a e⟩
theorem StateM.W{A R:ah}{n:aI}{s:am}{t:aw}(h:StateM w ad ae A R n s t)(a:Ext w I):StateM I ad ae A R n s t:=h.V (a.V λ_=>False) λ_ _ _ h=>h
theorem StateM.sr{A R:ah}{n:aI}{s:am}{t:aw}(h:StateM w ad ae A R n s t):∃a,c3 w ae a t/\∀e I bn,Grow a w e I->c3 I ae e bn->∃aK,Grow A w aK I/\StateM I ad ae aK R n s bn:=by
 obtain⟨f,j,p,q,h⟩:=h;obtain⟨a,h1,r⟩:=h.sr;exact⟨a,h1,λe I bn x y=>by
  obtain⟨aK,z,B⟩:=r e I bn x y;exact⟨aK,z,f,j,p,q,B⟩⟩
def mI(s s':am):Prop:=ix s'=ix s/\s'.d7.length=s.d7.length/\(∀(j:Nat)a,s'.d7[j]?=σ a->∃f,s.d7[j]?=σ f/\a.sc=f.sc/\a.ai=f.ai/\eW s' j=eW s j)/\s'.dc=s.dc
theorem eP.same{a:Nat}{e p q:x1}{A R:ah}{n:aI}{s s':am}{t:aw}(h:eP w ad ae a e p q A R n s t)(J:mI s s'):eP w ad ae a e p q A R n s' t:=by
 obtain⟨ao,bc,y,ge,L,E,z,w0,B,C,F,G,⟨H,r⟩,I,K⟩:=h;obtain⟨M,N,O,P⟩:=J;refine⟨ao,bc,y,ge,L,E,z,w0,B,C,F,by rw[M];exact G,⟨H,r.1.F N.symm,λj x Q S T=>?_⟩,I,?_⟩
 .obtain⟨f,U,V,W,X⟩:=O j Q T;rw[V,W,X];exact r.2 j x f S U
 .unfold nC;rw[P];exact K
theorem StateM.same{A R:ah}{n:aI}{s s':am}{t:aw}(h:StateM w ad ae A R n s t)(J:mI s s'):StateM w ad ae A R n s' t:=by
 obtain⟨a,e,f,j,h⟩:=h;exact⟨a,e,f,j,h.same J⟩
theorem u1{α β:Type}{f:α->List β}:∀{L:List α}{i j:Nat}{a b:α},L[i]?=σ a->(f b).length=(f a).length->(((L.set i b).take j).flatMap f).length=((L.take j).flatMap f).length
 |[],_,_,_,_,h,_=>by simp at h
 |x::L,0,j,a,b,h,e=>by
  cases h;cases j with
  |zero=>rfl
  |succ j=>simp[e]
 |x::L,i+1,j,a,b,h,e=>by
  have h:L[i]?=σ a:=by simpa using h
  cases j with
  |zero=>rfl
  |succ j=>
   rw[List.set_cons_succ,List.take_succ_cons,List.take_succ_cons,W9,W9,r9,r9,u1 h e]
theorem Ex(s:am)(c:Int):mI s {s with zero:=c}:=⟨rfl,rfl,λj f h=>⟨f,h,rfl,rfl,rfl⟩,rfl⟩
theorem Ey{s:am}{i:Nat}{x y:bz}(a:s.d6[i]?=σ x)(p:y.un.length=x.un.length):mI s {s with d6:=s.d6.set i y}:=by
 have e:(gP y).length=(gP x).length:=by simp[gP,p]
 refine⟨?_,rfl,λj f h=>⟨f,h,rfl,rfl,?_⟩,rfl⟩
 .unfold ix;rw[show({s with d6:=s.d6.set i y}:am).d6.length=s.d6.length from o5];apply List.map_congr_left;intro j _;unfold gv;rw[u1 a e]
 .unfold eW;have:=u1 (j:=s.d6.length) a e;rw[j5 Ξ,j5 (p8 _)]at this;show 3+(((s.d6.set i y).flatMap gP).length+_)=_;rw[this]
theorem PS{s:am}{i:Nat}{x y:ch}(a:s.d7[i]?=σ x)(q:y.cs.length=x.cs.length)(h1:y.sc=x.sc)(r:y.ai=x.ai):mI s {s with d7:=s.d7.set i y}:=by
 have w:(ih y).length=(ih x).length:=by simp[ih,q]
 refine⟨rfl,o5,λj f h=>?_,rfl⟩;have h:(s.d7.set i y)[j]?=σ f:=h;have e:eW {s with d7:=s.d7.set i y} j=eW s j:=by
  unfold eW;show 3+(_+(((s.d7.set i y).take j).flatMap ih).length)=_;rw[u1 a w]
 by_cases p:i=j
 .subst p;rw[l9 (x5.1 a).1]at h;cases h;exact⟨x,a,h1,r,e⟩
 .rw[Z9 p]at h;exact⟨f,h,rfl,rfl,e⟩
theorem aw.ya(t:aw)(i:Nat)(x:Int):(t.set i x).marks=t.marks:=by
 unfold aw.set;cases t.cells[i]? with
 |none=>rfl
 |some c=>
  simp only;cases t.marks.getLast? with
  |none=>rfl
  |some m=>simp only;split<;>rfl
theorem aw.Ez(t:aw)(i:Nat)(x:Int):(t.set i x).ever=t.ever:=by
 unfold aw.set;cases t.cells[i]? with
 |none=>rfl
 |some c=>
  simp only;cases t.marks.getLast? with
  |none=>rfl
  |some m=>simp only;split<;>rfl
theorem aw.EA(t:aw)(i:Nat)(x:Int):(t.set i x).cells.length=t.cells.length:=by
 have h:=congrArg R6 (aw.rx (t:=t) (i:=i) (x:=x));rw[o5]at h;unfold aw.bM at h;rwa [u9,u9]at h
theorem aw.EB(t:aw)(i:Nat)(x:Int):(t.set i x).olds.length<=t.olds.length+1:=by
 unfold aw.set;cases t.cells[i]? with
 |none=>exact Nat.le_succ _
 |some c=>
  simp only;cases t.marks.getLast? with
  |none=>exact Nat.le_succ _
  |some m=>simp only;split<;>simp
theorem aw.yb{t:aw}(h:t.marks=[])(i:Nat)(x:Int):(t.set i x).olds=t.olds:=by
 unfold aw.set;cases t.cells[i]? with
 |none=>rfl
 |some c=>simp only[h,List.getLast?_nil]
def fX(t:aw)(l:Λ):Nat->aw
 |0=>t.grow l.length
 |i+1=>(fX t l i).set (t.cells.length+i) (l.getD i 0)
def oj(t:aw)(l:Λ):aw:=fX t l l.length
theorem ss(t:aw)(l:Λ):∀i,(fX t l i).marks=t.marks
 |0=>rfl
 |i+1=>(aw.ya _ _ _).F (ss t l i)
theorem EC(t:aw)(l:Λ):∀i,(fX t l i).ever=t.ever
 |0=>rfl
 |i+1=>(aw.Ez _ _ _).F (EC t l i)
theorem yc(t:aw)(l:Λ):∀i,(fX t l i).cells.length=t.cells.length+l.length
 |0=>by simp[fX,aw.grow]
 |i+1=>(aw.EA _ _ _).F (yc t l i)
theorem yd(t:aw)(l:Λ):∀i,(fX t l i).olds.length<=t.olds.length+i
 |0=>p8 _
 |i+1=>by have:=aw.EB (fX t l i) (t.cells.length+i) (l.getD i 0);have:=yd t l i;show(aw.set _ _ _).olds.length<=_;omega
theorem ED{t:aw}(h:t.marks=[])(l:Λ):∀i,(fX t l i).olds=t.olds
 |0=>rfl
 |i+1=>(aw.yb ((ss t l i).F h) _ _).F (ED h l i)
theorem EE(t:aw)(l:Λ):∀i,i<=l.length->(fX t l i).bM=t.bM++(l.take i++o4 (l.length-i) 0)
 |0,_=>by rw[List.take_zero,List.nil_append];exact aw.Lw
 |i+1,h=>by
  have a:=EE t l i Ω;show(aw.set _ _ _).bM=_;have e:t.bM.length=t.cells.length:=by simp[aw.bM]
  rw[aw.rx,a,T4 _ _ Ω,e,R2,T4 _ _ (by rw[o8];omega),o8,Q6 Ω,W8,show l.length-i=(l.length-(i+1))+1 by omega,List.replicate_succ,List.set_cons_zero,r8,u4,x7 (show i<l.length by omega)];simp only[o9,V9,X9,List.singleton_append]
theorem EF(t:aw)(l:Λ):(oj t l).bM=t.bM++l:=by
 unfold oj;rw[EE t l _ (p8 _),o6,W8,List.replicate_zero,W5]
theorem eJ.fX{h:List aw}{t:aw}(hk:eJ t h)(l:Λ):∀i,eJ (fX t l i) h
 |0=>hk.grow
 |i+1=>(eJ.fX hk l i).set
theorem iT{s:Go.Sem x1}{x:x1}(h:ab x8 s w (λv=>v=x)):cE x8 s x w:=by
 obtain⟨v,h,rfl⟩:=h;exact h
theorem u2{off:Nat}{z:Nat}{a:p9}{x:x1}(f:ag w ad e cs)(ac:∀(K:x1->Prop),ab x8 (u7 b9 (Γ ad) z) w K=K (.pointer (σ ⟨ad,0+off,ν⟩)))(h:k2 x8 a=ro)(j:cs[0+off]?=σ x):
  cE x8 (u5 a (.pointer (σ ⟨ad,0+off,ν⟩))) x w/\cE x8 (u7 b9 (Γ ad) z) (.pointer (σ ⟨ad,0+off,ν⟩)) w/\cE x8 (bR (Γ ad)) (Γ ad) w/\True:=
 ⟨kD h (f.cell j),iT (by rw[ac]),iT (by rw[bL]),trivial⟩
def EG(w:x4)(r:Nat):Prop:=∃e c,ag w r e c/\(e=c8\/e=ej\/e=gE\/e=dW\/e=b9\/e=dU\/e=gD)
def er(w:x4)(r:Nat):Prop:=EG w r\/∀o,w.heap[r]?=σ o->fL o≠ro
theorem ol{U:x4}(hk:∀o,w.heap[r]?=σ o->fL o=ro->¬er w r->U.heap[r]?=σ o)(h:er U r):er w r:=by
 by_cases a:er w r
 .exact a
 .refine m6 (.inr λo j J=>?_) a;have h1:=hk o j J a;rcases h with⟨e,c,f,he⟩|p
  .refine a (.inl ⟨e,c,?_,he⟩);unfold ag at f ⊢;rw[h1]at f;rw[j];exact f
  .exact p o h1 J
theorem jp{U aa:x4}(a:Ext w U)(e:af (er U) U aa):af (er w) w aa:=(a.V _).F (e.Y λr _ h=>ol (λo f J _=>a.aZ r o f J) h)
theorem u3{U aa:x4}(h:af (er w) w U)(a:af (er U) U aa):af (er w) w aa:=h.F (a.Y λr _ e=>ol (λo f J j=>h.aZ r o f J j) e)
theorem c3.min{A:ah}{t:aw}(h:c3 w ae A t):c3 w ae (λr=>A r/\EG w r) t:=by
 obtain⟨q,s,go,c0,a7,x,df,h1,f,j,p,y⟩:=h;refine⟨⟨q,_,_,h1,.inl rfl⟩,s,go,c0,a7,x,df,h1,f,j,p,λr a=>⟨y r a,?_⟩⟩;rcases a with a|a|a
 .obtain⟨rfl,c,e⟩:=eb f a;exact⟨_,c,e,.inr (.inl rfl)⟩
 .obtain⟨rfl,c,e⟩:=eb j a;exact⟨_,c,e,.inr (.inr (.inl rfl))⟩
 .obtain⟨rfl,c,e⟩:=eb p a;exact⟨_,c,e,.inr (.inr (.inr (.inl rfl)))⟩
theorem eP.pE{p q x:x1}{A R:ah}{n:aI}{s:am}{t:aw}(h:eP w ad ae j p q x A R n s t):∃a,c3 w ae a t/\∀y I bn,Grow a w y I->c3 I ae y bn->af (er w) w I/\∃aK,Grow A w aK I/\eP I ad ae j p q x aK R n s bn:=by
 obtain⟨a,z,B⟩:=h.sr;refine⟨_,z.min,λC U bn e E=>⟨e.1.Y λr _ h=>.inl h.2,?_⟩⟩;exact B (λr=>a r\/C r) U _ ⟨e.1.Y λr _ h=>h.1,λr f=>f.elim .inl λh=>(e.2.1 r h).imp (λh=>h.1) id,λr f=>.inl f⟩ (E.Y λr h=>.inr h)
theorem EH{y:Nat}{z B C:x1}{A R:ah}{n:aI}{s:am}{t:aw}{cL:x1}(h:eP w ad ae y z B C A R n s t)(G:aM .i64 w cL l)(Q:∀r,lc cL r->¬A r)(aJ:t.cells.length+l.length<=100000000)(aL:t.olds.length+l.length<=100000000)(hm:t.marks.length<=100000000):
  al x8 AR [Γ ad,cL] w λv I=>v=Δ (t.cells.length:Int)/\af (er w) w I/\∃aK,Grow A w aK I/\eP I ad ae y z B C aK R n s (oj t l):=by
 refine aB func132 ?_;obtain⟨_,bc,S,ge,L,E,_,w0,H,_⟩:=id h;obtain⟨V,J,K⟩:=h.pE;rw[aG b9.p 1 H rfl,aY ax.u G];refine(PE J ⟨Ω,Ω,hm⟩ Ω).Y ?_;rintro _ U _ ⟨rfl,W,X,Y⟩;obtain⟨Z,ab,N,ac⟩:=K W U _ X Y;have O:∀{aK:ah}{I:x4},Grow A w aK I->aM .i64 I cL l:=λag=>jk G ag.1 λr ai a aj c an ao=>Q r ⟨a,aj,c,an,ao⟩ ai;rw[aY ax.u (O N)];have ap:=G.le;refine bZ.range l.length (λi aa=>af (er w) w aa/\∃f,Grow A w f aa/\eP aa ad ae y z B C f R n s (fX t l i)) ap ⟨Z,ab,N,ac⟩ ?_ ?_
 .rintro i aa k hi ⟨M,f,j,q⟩ hk;refine bI Ω ?_;obtain⟨x,P⟩:=aF (l:=l) hi;rw[bi ax.u au.i Ψ (O j) P];obtain⟨_,bc,S,ge,L,E,_,w0,H,_⟩:=id q;obtain⟨V,J,K⟩:=q.pE;have aN:=yc t l i;have aP:=yd t l i;have aq:=ss t l i;rw[aG b9.p 1 H rfl,aO,li Ω Ω];refine(uZ (i:=t.cells.length+i) J Ω Ω ⟨Ω,Ω,by rw[aq];exact hm⟩).Y ?_;rintro _ av _ ⟨rfl,ay,az,aA⟩;obtain⟨aC,aD,aE,aH⟩:=K ay av _ az aA;rw[aO];refine hk _ ⟨u3 M aC,aD,j.F aE,?_⟩;have e:fX t l (i+1)=(fX t l i).set (t.cells.length+i) x:=by
   show(fX t l i).set _ (l.getD i 0)=_;rw[u4,P];rfl
  rw[e];exact aH
 .rintro aa k ⟨M,f,j,q⟩;rw[aR,ak];exact⟨λh=>Ω,λ_=>⟨rfl,M,f,j,q⟩⟩
end Go.Proofs.YtnhkbjhpbbobaaaGreatDoor
