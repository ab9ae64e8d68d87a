/- own texts, made small by a tool (wip/ holds them as they were written): no statement of the seat. -/
import Derived.Test.YtgbkinibgjmodaaGreatDoorZc
set_option linter.unusedVariables false
set_option linter.unusedSimpArgs false
set_option linter.unnecessarySimpa false
open Array renaming getElem?_eq_some_iff→l7,getElem?_toList→U7
open BitVec renaming ofInt→W6
open Bool renaming not_true→Y1,not_false→X0,eq_iff_iff→X8,and_eq_true→U1,or_eq_false_iff→U5
open Decidable renaming not_not→X2
open Go renaming Value→x4,World→x5,Builtin→u7,TypeId→o6,IntKind→o8,Program→X1,Oper→U8
open Go.Addr renaming add_mid→V9
open Go.Builtin renaming len_→u6,append_→r9
open Go.Instr renaming loadAt→x1,fieldAt→x2,indexAt→x7,storeAt→x8,extract→u5,buildSlice→u9,alloc→n9,sliceAt→c7,build→Z0,box→Z2,index→Y0,lookup→V3,makeSlice→V8
open Go.IntKind renaming i64→Y9,u64→V0
open Go.Op renaming unary→Z5
open Go.Proofs.Tryz renaming prog→y0
open Go.Result renaming andThen→Y4
open Go.Sem renaming run_bind→Y2,run_pure→Y6
open Go.Sort renaming Holds→U4
open Go.Value renaming int→X4
open Int renaming toNat_natCast→c9
open List renaming getElem?_eq_getElem→x3,getElem?_eq_some_iff→x6,mem_of_getElem?→u4,getElem?_map→r8,getD_eq_getElem?_getD→p8,replicate→p9,take_add_one→o3,length_map→o4,length_append→o5,mem_singleton→o9,mem_append→n0,take_length→l5,length_take→l6,mem_map→l9,take_of_length_le→j0,map_append→j4,eq_nil_of_length_eq_zero→j9,length_cons→c8,getElem?_append_left→Z1,getElem?_append_right→Z4,getElem?_take_of_lt→Z6,getElem?_eq_none→Z8,mem_iff_getElem?→Y5,getElem?_set→Y7,drop_eq_getElem_cons→Y8,flatMap_cons→X5,ext_getElem?→X6,range→X7,length_set→W0,pairwise_iff_getElem→W5,length→W8,append_assoc→W9,mem_or_eq_of_mem_set→V1,set_append_right→V2,length_eq_one_iff→V6,getElem?_set_self→V7,append_nil→U3,mem_cons→U6,length_singleton→T0,getElem_mem→T1
open Nat renaming le_refl→o7,zero_le→Z9,le_trans→Y3,mul_le_mul_right→X3,sub_self→W3,add_mul→W7,zero_add→V5,mul_one→U9
open Option renaming toList_some→j5,some→j6,map_some→b6,isNone_some→b8,map_eq_some_iff→Z3,map→X9,getD_some→V4
open Option.some renaming inj→b9,injEq→Z7
open Prod.mk renaming injEq→U2
namespace Go.Proofs.YtgbkinibgjmodaaGreatDoor
open Go Go.Vc Go.RowKit Go.Proofs Go.Proofs.Tryz
set_option maxRecDepth 100000
theorem xJ {α:Type} [DecidableEq α]:∀ {a b:List α},a.Nodup→b.Nodup→(∀ x,x∈a↔x∈b)→a.Perm b
 |[],b,_,_,h=>by
  cases b with
  |nil=>exact .refl _
  |cons y b=>exact absurd ((h y).2 (.head _)) (by simp)
 |x::a,b,O,I,h=>by
  have U:=(h x).1 (.head _);have J:=List.nodup_cons.1 O;refine .trans ?_ (List.perm_cons_erase U).symm;refine .cons x (xJ J.2 (I.erase x) fun y=>?_);rw[I.mem_erase_iff];refine⟨fun E=>⟨fun he=>J.1 (he▸E),(h y).1 (.tail _ E)⟩,fun⟨V,E⟩=>?_⟩;rcases U6.1 ((h y).2 E) with he|hm
  ·exact absurd he V
  ·exact hm
theorem rC {l:List Int} (h:ik l) (E:l.Nodup):(bd l).Perm l:=xJ (xD l) E fun _=>pX h
theorem tD:∀ {l:List Int},(∀ z∈l,1≤z∧z≤32)→l.map (fun z=>min z 4097)=l
 |[],_=>rfl
 |z::l,h=>by
  have I:=h z (.head _);rw[List.map_cons,tD fun x E=>h x (.tail _ E)];congr 1;omega
theorem Dl {x:ca} {k:Int} {t:List Int} (J:0≤k) (O:0≤x.other) (E:∀ p∈x.lines,0≤p.2):0≤hC x k t∧hC x k t≤k:=by
 unfold hC;cases I:x.lines.find? (fun p=>decide (p.1=t)) with
 |none=>simp only;omega
 |some p=>have:=E p (List.mem_of_find?_eq_some I);simp only;omega
theorem rD {all:List Int} {N:Nat} {x:ca} (h:rf all N x) (I:all.length≤64):ik x.scope:=fun v E=>by
 have:=h.scope.2 v E;omega
theorem nl {N:Nat} {f:bS} {x:ca} (E:eh N f) (W:x∈f.funs):ey f.sizes f.k (fR f.sizes f.k x):=by
 obtain⟨h1,X,J⟩:=E.funs x W;have Y:=E.sizes.2.1;have O:=rD h1 Y;have I:=rC O h1.scope.1;have U:∀ v∈bd x.scope,0≤v∧v<f.sizes.length:=fun v hm=>h1.scope.2 v ((pX O).1 hm);have Z:=nk E.sizes.2.2 U;have aa:aG (bF f.sizes (bd x.scope))=aG x.sizes:=by rw[h1.sizes];exact Dh (I.map _)
 refine⟨⟨Dg _,?_⟩,tz _,fun v hm=>(U v hm).2,?_,?_,fun c ab=>?_⟩
 ·show (bd x.scope).length≤6;rw[I.length_eq];exact X
 ·show ((bG _).map _).length=_;rw[o4,iN Z];rfl
 ·show aG (bF f.sizes (bd x.scope))≤4096;have ac:∀ z∈x.sizes,1≤z∧z≤32:=fun z V=>by
   rw[h1.sizes] at V;exact nk E.sizes.2.2 (fun v hm=>h1.scope.2 v hm) z V
  unfold cS at J;rw[tD ac,decide_eq_false_iff_not] at J;rw[aa];omega
 ·obtain⟨t,_,rfl⟩:=l9.1 ab;exact Dl (by have:=E.k.1;omega) h1.other fun p I=>(h1.lines.2 p I).2
theorem iX {N:Nat} {f:bS} (E:eh N f):(∀ g∈ev f,ey f.sizes f.k g)∧gH (ev f)∧(ev f).length≤f.funs.length:=by
 have:=tC (sizes:=f.sizes) (k:=f.k) (by have:=E.k.1;omega) (l:=f.funs.map (fR f.sizes f.k)) (acc:=[]) (fun h J=>by cases J) List.nodup_nil fun g O=>by
  obtain⟨x,U,rfl⟩:=l9.1 O;exact nl E U
 refine⟨this.1,this.2.1,?_⟩;have I:=this.2.2;rw[List.length_nil,o4,V5] at I;exact I
theorem xK {sizes:List Int} {k:Int} {l:List ch} (E:∀ g∈l,ey sizes k g) (I:gH l):l.Pairwise fun a b=>cD a.1≠cD b.1:=by
 have h1:l.Pairwise fun a b=>a.1≠b.1:=by
  unfold gH List.Nodup at I;rwa [List.pairwise_map] at I
 exact h1.imp_of_mem fun {a b} J O U he=>U ((tA (E a J).scope (E b O).scope).2 he)
theorem pY {N:Nat} {f:bS} (I:eh N f):(eG f).Pairwise (fun a b=>cD a.1<cD b.1)∧(eG f).Perm ((ev f).filter eF):=by
 obtain⟨h1,J,_⟩:=iX I;have O:∀ g∈(ev f).filter eF,ey f.sizes f.k g:=fun g U=>h1 g (List.mem_filter.1 U).1;have V:gH ((ev f).filter eF):=(List.Sublist.map _ List.filter_sublist).nodup J;have:=xI ((ev f).filter eF) [] List.Pairwise.nil (xK O V) fun a W=>by cases W
 refine⟨this.1,?_⟩;have E:=this.2;rw[List.nil_append] at E;exact E
theorem rE {N:Nat} {f:bS} (E:eh N f):∀ g∈eG f,ey f.sizes f.k g:=fun g I=>(iX E).1 g (List.mem_filter.1 ((pY E).2.mem_iff.1 I)).1
theorem Dm {N:Nat} {f:bS} (E:eh N f) {M:List ch} (I:M.Perm ((ev f).filter eF)) (O:M.Pairwise fun a b=>cD a.1≤cD b.1):M=eG f:=by
 obtain⟨h1,J⟩:=pY E;have U:gH ((ev f).filter eF):=(List.Sublist.map _ List.filter_sublist).nodup (iX E).2.1;have V:gH M:=(I.map (fun g:ch=>g.1)).nodup_iff.2 U;have W:∀ g∈M,ey f.sizes f.k g:=fun g X=>(iX E).1 g (List.mem_filter.1 (I.mem_iff.1 X)).1;have Y:=xK W V;refine tB (f:=fun g:ch=>cD g.1) ?_ h1 fun x=>by rw[I.mem_iff,J.mem_iff]
 exact O.imp₂ (fun a b h1 J=>Int.lt_iff_le_and_ne.2 ⟨h1,J⟩) Y
structure hI (n:bY):Prop where
 k:1≤n.k∧n.k≤2147483648
 sizes:1≤n.sizes.length∧n.sizes.length≤64∧ ∀ z∈n.sizes,1≤z∧z≤32
 zero:0≤n.zero∧n.zero≤n.k
 il:n.unary.length=n.sizes.length
 unary:∀ (i:Nat) (z:Int) (u:List Int),n.sizes[i]? =some z→n.unary[i]? =some u→u.length=z.toNat∧ ∀ c∈u,0≤c∧c≤n.k
 funs:∀ g∈n.funs,ey n.sizes n.k g∧2≤g.1.length
theorem Dn (z:Int):aG [z]=z:=by simp[aG]
theorem rF:∀ {l:List ch} {n:bY},hI n→(∀ g∈l,ey n.sizes n.k g)→hI (l.foldl (fun n g=>match g.1 with
 |[]=>{n with zero:=g.2.getD 0 0}
 |[v]=>{n with unary:=n.unary.set v.toNat g.2}
 |_=>{n with funs:=n.funs++[g]}) n)∧(l.foldl (fun n g=>match g.1 with
 |[]=>{n with zero:=g.2.getD 0 0}
 |[v]=>{n with unary:=n.unary.set v.toNat g.2}
 |_=>{n with funs:=n.funs++[g]}) n).sizes=n.sizes
 |[],n,h,_=>⟨h,rfl⟩
 |g::l,n,h,O=>by
  have E:=O g (.head _);have J:∀ x∈l,ey n.sizes n.k x:=fun x I=>O x (.tail _ I);rw[List.foldl_cons];obtain⟨sc,cs⟩:=g
  match sc,E with
  |[],E=>
   have V:=E.len;refine rF (n:={n with zero:=cs.getD 0 0}) ⟨h.k,h.sizes,?_,h.il,h.unary,h.funs⟩ J;have h1:cs.length=1:=by simpa[bF,aG] using V
   have W:cs[0]? =some (cs.getD 0 0):=by rw[p8,x3 (by omega)];rfl
   exact E.hh _ (u4 W)
  |[v],E=>
   have Y:=E.scope.1 v (.head _);have Z:=E.vars v (.head _);refine rF (n:={n with unary:=n.unary.set v.toNat cs}) ⟨h.k,h.sizes,h.zero,by show (n.unary.set _ _).length=_;rw[W0];exact h.il,fun i z u U hu=>?_,h.funs⟩ J;by_cases hi:v.toNat=i
   ·subst hi;have aa:=h.il;rw[V7 (by omega)] at hu;cases hu;have X:bF n.sizes [v]=[z]:=by
     simp only[bF,List.map_cons,List.map_nil];rw[p8,U];rfl
    refine⟨?_,E.hh⟩;have:=E.len;rw[X,Dn] at this;exact this
   ·rw[List.getElem?_set_ne hi] at hu;exact h.unary i z u U hu
  |a::b::r,E=>
   refine rF (n:={n with funs:=n.funs++[(a::b::r,cs)]}) ⟨h.k,h.sizes,h.zero,h.il,h.unary,fun x I=>?_⟩ J;rcases n0.1 I with I|I
   ·exact h.funs x I
   ·rw[o9.1 I];exact⟨E,by simp⟩
theorem xL {N:Nat} {f:bS} (E:eh N f):hI (dq f)∧(dq f).sizes=f.sizes:=by
 unfold dq;have J:=E.sizes;refine rF (n:=⟨f.k,f.sizes,0,f.sizes.map fun z=>p9 z.toNat 0,[]⟩) ⟨E.k,J,⟨by show (0:Int)≤0;omega,by show (0:Int)≤f.k;have:=E.k.1;omega⟩,by simp,fun i z u h1 I=>?_,fun g O=>by cases O⟩ (rE E);have I:(f.sizes.map fun z=>p9 z.toNat (0:Int))[i]? =some u:=I;have h1:f.sizes[i]? =some z:=h1;rw[r8,h1] at I;cases I;refine⟨by simp,fun c U=>?_⟩;rw[(List.mem_replicate.1 U).2];have:=E.k.1;exact⟨Int.le_refl _,by show (0:Int)≤f.k;omega⟩
def iY (x:ca) (k:Int) (i:Nat) (t:List Int):Int:=match (x.lines.take i).find? (fun p=>decide (p.1=t)) with
 |some p=>min p.2 k
 |none=>min x.other k
theorem xM (x:ca) (k:Int) (t:List Int):iY x k 0 t=min x.other k:=by simp[iY]
theorem xN (x:ca) (k:Int) (t:List Int):iY x k x.lines.length t=hC x k t:=by
 unfold iY hC;rw[l5];cases x.lines.find? (fun p=>decide (p.1=t)) <;> rfl
theorem xO {x:ca} {k:Int} {i:Nat} {p:List Int×Int} (X:(x.lines.map (·.1)).Nodup) (hi:x.lines[i]? =some p) (t:List Int):iY x k (i+1) t=if t=p.1 then min p.2 k else iY x k i t:=by
 unfold iY;rw[o3,hi,j5,List.find?_append];by_cases E:t=p.1
 ·subst E;have Y:(x.lines.take i).find? (fun q=>decide (q.1=p.1))=none:=by
   rw[List.find?_eq_none];intro q I he;have he:q.1=p.1:=by simpa using he
   obtain⟨j,J⟩:=Y5.1 I;have O:j<i:=by have:=(x6.1 J).1;rw[l6] at this;omega
   rw[Z6 O] at J;have U:=x6.1 J;have V:=x6.1 hi;have W:=W5.1 X j i (by rw[o4];exact U.1) (by rw[o4];exact V.1) O;rw[List.getElem_map,List.getElem_map,U.2,V.2] at W;exact W he
  rw[Y,if_pos rfl];simp
 ·rw[if_neg E];have:[p].find? (fun q=>decide (q.1=t))=none:=by
   rw[List.find?_eq_none];intro q I he;rw[o9.1 I] at he;exact E (of_decide_eq_true he).symm
  rw[this,Option.or_none]
theorem nm {l:List Int} {v:Int} (h:v∈l):l[l.idxOf v]? =some v:=by
 have:=List.idxOf_lt_length_iff.2 h;rw[x3 this,List.getElem_idxOf this]
theorem pZ {l:List Int} {i:Nat} {v:Int} (O:l.Nodup) (h:l[i]? =some v):l.idxOf v=i:=by
 have hm:=u4 h;have h1:=nm hm;have E:=x6.1 h1;have I:=x6.1 h;rcases Nat.lt_trichotomy (l.idxOf v) i with J|he|J
 ·exact absurd (E.2.trans I.2.symm) (W5.1 O _ _ E.1 I.1 J)
 ·exact he
 ·exact absurd (I.2.trans E.2.symm) (W5.1 O _ _ I.1 E.1 J)
def eR (scope E:List Int):List Int:=E.map fun v=>((scope.idxOf v:Nat):Int)
theorem rG {scope I:List Int} (W:scope.Nodup) (E:I.Perm scope):Good (eR scope I) scope.length:=by
 have U:I.Nodup:=E.nodup_iff.2 W;refine⟨by simp[eR,E.length_eq],fun i p J=>?_⟩;unfold eR at J;rw[r8] at J;obtain⟨v,V,rfl⟩:=Z3.1 J;have hm:v∈scope:=E.mem_iff.1 (u4 V);have Z:=List.idxOf_lt_length_iff.2 hm;refine⟨⟨by omega,by omega⟩,fun j aa O=>?_⟩;unfold eR at O;rw[r8] at O;obtain⟨u,hu,he⟩:=Z3.1 O;have X:u∈scope:=E.mem_iff.1 (u4 hu);have e:scope.idxOf u=scope.idxOf v:=by omega
 have h1:=nm X;rw[e,nm hm] at h1;have Y:v=u:=b9 h1;subst Y;have ab:=pZ U hu;have ac:=pZ U V;omega
theorem xP {scope E:List Int} {j:Nat} {v:Int} (I:E[j]? =some v):(eR scope E)[j]? =some ((scope.idxOf v:Nat):Int):=by
 unfold eR;rw[r8,I];rfl
theorem Do {sizes scope E:List Int} (U:scope.Nodup) (J:E.Perm scope):dA (bF sizes scope) (eR scope E)=bF sizes E:=by
 refine X6 fun j=>?_;cases I:E[j]? with
 |none=>
  have O:=List.getElem?_eq_none_iff.1 I;rw[Z8 (by rw[ra];simp[eR];exact O),Z8 (by simp[bF];exact O)]
 |some v=>
  have hm:v∈scope:=J.mem_iff.1 (u4 I);have V:=rG U J;rw[ws V (by simp[bF]) (xP I),c9];unfold bF;rw[r8,r8,nm hm,I]
theorem xQ {scope E t:List Int} (U:scope.Nodup) (I:E.Perm scope) (V:t.length=scope.length):jy (eR scope E) t=m9 scope E t:=by
 have W:=rG U I;refine (wr W V (by simp[m9]) fun j p J=>?_).symm;unfold eR at J;rw[r8] at J;obtain⟨v,O,rfl⟩:=Z3.1 J;have hm:v∈scope:=I.mem_iff.1 (u4 O);have X:E.Nodup:=I.nodup_iff.2 U;have Y:=(x6.1 O).1;have Z:=I.length_eq;unfold m9;rw[c9,r8,nm hm,b6,pZ X O,p8,x3 (show j<t.length by omega)];rfl
theorem Dp {N:Nat} {f:bS} {x:ca} {cs:List Int} (J:eh N f) (Y:x∈f.funs) (af:cs.length=(aG x.sizes).toNat) (Z:∀ t,cM x.sizes t→cn x.sizes cs t=hC x f.k t):
  dA x.sizes (eR x.scope (bd x.scope))=bF f.sizes (bd x.scope)∧lw x.sizes cs (eR x.scope (bd x.scope))=(fR f.sizes f.k x).2:=by
 obtain⟨h1,ag,ah⟩:=J.funs x Y;have U:=rD h1 J.sizes.2.1;have E:=rC U h1.scope.1;have V:x.sizes=bF f.sizes x.scope:=h1.sizes;have O:dA x.sizes (eR x.scope (bd x.scope))=bF f.sizes (bd x.scope):=by rw[V];exact Do h1.scope.1 E
 have aa:=rG h1.scope.1 E;have ab:∀ v∈bd x.scope,0≤v∧v<f.sizes.length:=fun v hm=>h1.scope.2 v ((pX U).1 hm);have I:dG (bF f.sizes (bd x.scope)):=nk J.sizes.2.2 ab;refine⟨O,?_⟩;have ac:x.sizes.length=x.scope.length:=by rw[V];simp[bF]
 unfold lw;rw[O];show _=(bG (bF f.sizes (bd x.scope))).map fun t=>hC x f.k (m9 x.scope (bd x.scope) t);refine X6 fun q=>?_;rw[r8,r8];have ai:=jx I;by_cases W:q<(aG (bF f.sizes (bd x.scope))).toNat
 ·have ad:=q7 I (i:=q) (by omega);rw[ad,List.getElem?_range W];simp only[b6];have ae:=ta I W;have X:(cv (bF f.sizes (bd x.scope)) q).length=x.scope.length:=by rw[hc];simp[bF,E.length_eq]
  rw[xQ h1.scope.1 E X,Z];have:=BP (s:=x.sizes) aa ac (by rw[O];exact ae);rw[xQ h1.scope.1 E X] at this;exact this
 ·rw[Z8 (by simp;omega),Z8 (by rw[iN I];omega)];rfl
theorem Dq {an:List Int} {k:Int} {E I:List Int} (J:dG an) (h1:E.length=(aG an).toNat) (O:I.length=(aG an).toNat):
  di k E I=(X7 (aG an).toNat).map fun(q:Nat)=>min (cn an E (cv an q)+cn an I (cv an q)) k:=by
 conv=>lhs;rw[q9 J h1,q9 J O]
 unfold di;rw[List.zipWith_map,List.zipWith_self]
theorem Dr {I m:Nat} {d:List (x4×x4)} {KS:List (List Int)} {w:x5} (U:ak w I dC [.map (some m)]) (hm:cw w m d) (V:d.map (·.1)=KS.map dj) (J:nh KS) (ac:KS.length<65536):
  O y0 oP [.func (.func gw) #[] #[.pointer (some ⟨I,0,none⟩)],xf] w fun v w'=>Ext w w'∧ ∃ g M,M.Perm KS∧rx e2 M 0 M.length∧lz w' g v M:=by
 apply oP.enter;refine (Cx U hm V (fun ks h=>(J ks h).1) (by omega)).mono ?_;rintro v ad _ ⟨W,g,L,X,E,Y⟩;refine (CK Y (J.perm E) (by rw[E.length_eq];omega)).mono ?_;rintro _ ae _ ⟨Z,M,aa,hu,ab⟩;exact⟨W.then Z (fun r af h=>by have:=X r h;omega),g,M,aa.trans E,hu,ab⟩
theorem xR {α β:Type} {f:α→β}:∀ {M:List β} {D:List α},M.Perm (D.map f)→ ∃ L:List α,L.Perm D∧L.map f=M
 |[],D,h=>by
  have h1:=h.length_eq;simp at h1;have:D=[]:=j9 h1.symm;exact⟨[],by rw[this],rfl⟩
 |x::M,D,h=>by
  have E:x∈D.map f:=h.mem_iff.1 (.head _);obtain⟨p,I,rfl⟩:=l9.1 E;obtain⟨A,B,rfl⟩:=List.append_of_mem I;have J:(f p::M).Perm (f p::(A++B).map f):=h.trans (by
   rw[j4,List.map_cons,j4];exact List.perm_middle)
  obtain⟨L,O,U⟩:=xR (List.Perm.cons_inv J);exact⟨p::L,(O.cons p).trans List.perm_middle.symm,by rw[List.map_cons,U]⟩
theorem xS {w:x5} {g n:Nat} {ks:List Int} {cs:List x4} (V:ks.length=6) (W:n≤6) (I:cs=ints .i8 ks) (J:ak w g bh cs):aH .i8 w (.slice (some (if 6=0 then⟨g,0,none⟩ else⟨g,0+0*1,none⟩)) (n-0) (6-0)) (ks.take n):=by
 subst I;rw[if_neg (by omega)];unfold aH;have O:(ks.take n).length=n:=by rw[l6];omega
 rw[O];refine⟨by simp;omega,g,0,_,6,rfl,by omega,by simp[maxLen],fun _=>rfl,fun j v E=>?_⟩;have U:=(x6.1 E).1;refine J.range j v ?_;rw[ints,List.map_take,Z6 (by simp[ints] at U;omega)] at E;exact E
def Ds (D L:Told):Prop:=L.Perm D∧rx (fun p=>e2 (pad p.1)) L 0 L.length
set_option maxHeartbeats 1600000 in
theorem Dt {w:x5} {g m:Nat} {an:List Int} {k o:Int} {D:Told} (h:dM w g m an k o D) (bp:D.length<65536):O y0 oD [.pointer (some ⟨g,0,none⟩)] w fun v w'=>Ext w w'∧ ∃ L:Told,Ds D L∧dv (dS w.heap.size) br w' [v] L:=by
 obtain⟨⟨sv,gs,aE,hm⟩,bq,ao,b9,aS⟩:=id h;have bt:nh (D.map fun p=>pad p.1):=fun ks bu=>by
  obtain⟨p,bw,rfl⟩:=l9.1 bu;exact pN ao (aS p bw).1
 apply oD.enter;rw[cZ b5.u];simp only[b8,aT];rw[az,ah cL.p rfl,ai (by kernel_rfl) (aE.cell (o:=0+3) rfl)];refine Cv.mono ?_;rintro _ ca _ ⟨aF,cb,rfl,cc,bx⟩;refine (Dr (KS:=D.map fun p=>pad p.1) bx (bq.ext aF) (by rw[List.map_map,List.map_map];rfl) bt (by simpa using bp)).mono ?_;rintro cd ae _ ⟨aU,ce,M,bz,bA,aV⟩;obtain⟨L,aG,ap⟩:=xR bz;have aW:M.length=L.length:=by rw[←ap];simp
 have cg:=aG.length_eq;have ch:=aF.size;have ci:=aU.size;have aX:=aF.trans aU;rw[dZ et.u aV];refine a8.range L.length (fun i out E=>Ext ae E∧dv (dS ae.heap.size) br E [out] (L.take i)) (by omega) ⟨Ext.refl _,by rw[List.take_zero];exact h8⟩ ?_ ?_
 rotate_left
 ·rintro out E bB ⟨Z,av⟩;rw[aW];simp only[au,ag];refine⟨fun h=>by omega,fun _=>⟨aX.trans Z,L,⟨aG,fun p q x y h1 bC cj bD bF=>?_⟩,?_⟩⟩
  ·exact bA p q (pad x.1) (pad y.1) h1 bC (by omega) (by rw[←ap,r8,bD];rfl) (by rw[←ap,r8,bF];rfl)
  ·rw[l5] at av;exact ax.mono av (fun r _ h=>by have h:ae.heap.size≤r:=h;show w.heap.size≤r;omega) fun _ _ h=>h
 rintro i out E bB hi ⟨Z,av⟩ bG;obtain⟨⟨t,c⟩,aH⟩:∃ p,L[i]? =some p:=⟨_,x3 hi⟩;have aI:(t,c)∈D:=aG.mem_iff.1 (u4 aH);have aJ:=(aS _ aI).1;have aY:=tm ao aJ;have aL:t.length=an.length:=aY.1;have aZ:=ao.1;have bH:iT (pad t):=pN ao aJ;have aw:=bH.1;have bJ:M[i]? =some (pad t):=by rw[←ap,r8,aH];rfl
 rw[aW];simp only[au,ag];refine⟨fun _=>?_,fun h=>by omega⟩;rw[CJ rfl (aV.ext Z) bJ];refine bO bh.i fun a1 ck cl a2 a6=>?_;refine pM aw rfl a6 fun bK bL cm ay=>?_;have cn:=a2.size;have cp:=a6.lt;have bM:Ext E bK:=a2.then bL (fun r aA he=>by have he:r=a1:=he;omega);intro a7 af _ _;have aM:=bM.trans af;have aN:=(aX.trans Z).trans aM;have ba:=h.ext aN;obtain⟨⟨cq,cr,ct,cu⟩,cw,_⟩:=id ba;have cz:=aM.size;rw[az,ah cL.p rfl,ai (by kernel_rfl) ((aE.ext aN).cell (o:=0+3) rfl),ly aw (ay.ext af).range];refine Co ba aJ (fun I bN=>?_) (fun bP=>absurd rfl (bP _ aI));have bQ:I=c:=by
  have:=w1 h.nodup bN aI rfl;exact congrArg Prod.snd this
 subst bQ;simp only[Bool.false_eq_true,if_false];rw[cW (cs:=#[.slice none 0 0,.int .i64 I]) (by kernel_rfl)];refine bO dn.i fun V cA cB aP bb=>?_;refine⟨.inl aP,?_⟩;refine b4 (vs:=[.slice none 0 0,.int .i64 I]) dn.i rfl rfl (by intro v bd;simp at bd;rcases bd with rfl|rfl <;> rfl) bb fun aa bR cC be=>?_;have cD:=aP.size;have cE:=bb.lt;have aB:Ext a7 aa:=aP.then bR (fun r aA he=>by have he:r=V:=he;omega);have bf:=aM.trans aB;have bg:=aN.trans aB;rw[az,ah cL.p rfl,ai (by kernel_rfl) ((aE.ext bg).cell (o:=0+0) rfl),aO ab.u (hm.ls.ext bg)];rw[qR bh.u dz.i (l:=0) (h:=an.length) (m:=6) h3 (lh _ _ rfl) eY (by omega) (by omega) (by omega)];have bi:=xS aw aZ rfl ((ay.ext af).ext aB);rw[←aL,wV] at bi;rw[←aL,aO fm.u bi];have bS:=(ay.ext af).ext aB;have cF:a1<a7.heap.size:=(ay.ext af).lt;have cG:V<aa.heap.size:=be.lt;refine bc.range t.length (fun j U=>aj (fun r=>r=V∨aa.heap.size≤r) aa U∧ ∃ W ac,aa.heap.size≤ac∧ak U V dn [W,.int .i64 I]∧aq .i64 J U ac W (t.take j)) (by omega) ⟨aj.refl _ _,_,aa.heap.size,o7 _,be,aq.nil _ _ _ _⟩ ?_ ?_
 ·rintro j U bT bU ⟨X,W,ac,bV,aC,aD⟩ bW;obtain⟨x,aQ⟩:∃ x,t[j]? =some x:=⟨_,x3 bU⟩;have cH:=aY.2 x (u4 aQ);have cI:Ext E U:=bf.then X (fun r aA he=>by rcases he with rfl|he <;> omega);have bj:=xS aw aZ rfl (bS.ad X (fun he=>by rcases he with he|he <;> omega));rw[←aL,wV] at bj;simp only[au,ag];refine⟨fun _=>?_,fun h=>by omega⟩;rw[bm fm.u dz.i (by kernel_rfl) bj aQ,ah dn.p rfl,ai (by kernel_rfl) (aC.cell (o:=0+0) rfl),fc dz.u J.u,wrap_i64 (by omega) (by omega)];refine dW ab.u J.i rfl fun a cJ bX cK Y bY=>?_;refine hb ab.u J.i rfl (aD.ext Y) bY.ls (by simp;omega) (by simp;omega) fun bk bl bZ cM al am=>?_;have b1:=X.size;have b2:=Y.size;have cN:=am.size;rw[ah dn.p rfl];refine bE (g:=V) (o:=0) ab.i al.ls.cells.1 al.ls.cells.2 ((aC.ext Y).ad am (fun he=>by have he:V=ac:=he;omega)) (by simp) fun cO bn cP b3=>?_;simp only[aK];refine bW _ ⟨((X.trans (Y.ad _)).trans (am.mono fun r _ he=>.inr (by have he:r=ac:=he;omega))).trans (bn.mono fun r _ he=>.inl he),bk,bl,by omega,b3,?_⟩;rw[o3,aQ];exact al.ad bn (fun _ he=>by have he:bl=V:=he;omega)
 ·rintro U bT ⟨X,W,ac,bV,aC,aD⟩;simp only[au,ag];refine⟨fun h=>by omega,fun _=>?_⟩;rw[l5] at aD;rw[bI dn.p dn.i rfl aC.range];have b1:=X.size;have b6:Ext E U:=bf.then X (fun r aA he=>by rcases he with rfl|he <;> omega);have bo:dv (dS E.heap.size) br U [W,.int .i64 I] (t,I):=⟨[W],[.int .i64 I],dS E.heap.size,br,rfl,fun _ h=>h,fun _ h=>h.elim,fun _ _ _ h=>h,ax.mono (mT aD) (fun r _ h=>by subst h;show E.heap.size≤r;omega) (fun _ _ h=>h),rfl⟩;refine lm (α:=List Int×Int) (a:=(t,I)) (cs:=[W,.int .i64 I]) (A:=dS E.heap.size) (R:=br) hx.u dn.i (by decide) rfl bo fun u bX Y _ b7=>?_;have aR:=b6.trans Y;have b2:=aR.size;refine mS (α:=List Int×Int) (a:=(t,I)) (A:=dS E.heap.size) hx.u dn.i rfl (c0 (ke av) aR) b7 (c0 bo Y) (fun r _ h h'=>?_) (by simp;omega) (by simp;omega) fun bk bZ al am=>?_
  ·rcases h' with h'|h'
   ·have:=h.2;have:E.heap.size≤r:=h';omega
   ·exact h'
  simp only[aK];have cQ:=Z.size;refine bG _ _ ⟨(Z.trans aR).then am (fun r aA h=>by have h:=h.1;have h:ae.heap.size≤r:=h;omega),?_⟩;rw[o3,aH];refine ax.mono al (fun r _ h=>?_) fun _ _ h=>h;show ae.heap.size≤r;rcases h with h|h|h
  ·exact h.1
  ·have h:E.heap.size≤r:=h;omega
  ·omega
theorem xT {s t:List Int} (E:dG s):t∈bG s↔cM s t:=by
 refine⟨fun h=>?_,fun⟨n,h⟩=>u4 (q5 E h)⟩;obtain⟨i,hi⟩:=Y5.1 h;exact⟨_,s8 E hi⟩
theorem xU:∀ {s:List Int},dG s→(bG s).Pairwise fun a b=>e2 a<e2 b
 |[],_=>by simp[bG]
 |k::s,O=>by
  have Y:=xU O.tail;have I:∀ t∈bG s,0≤e2 t∧e2 t<32 ^ s.length:=fun t U=>by
   have Z:=(xT O.tail).1 U;have h1:=lv.1 Z;have W:=rv t fun x V=>by
    obtain⟨i,hi,rfl⟩:=List.getElem_of_mem V;obtain⟨a,E⟩:∃ a,s[i]? =some a:=⟨_,x3 (by omega)⟩;have ab:=h1.2 i a _ E (x3 hi);have ac:=(O.tail a (u4 E)).2;omega
   rw[h1.1];exact W
  have J:∀ t∈bG s,t.length=s.length:=fun t U=>sR U;show ((X7 k.toNat).flatMap fun(v:Nat)=>(bG s).map fun t=>(v:Int)::t).Pairwise _;rw[List.pairwise_flatMap];refine⟨fun v _=>?_,?_⟩
  ·rw[List.pairwise_map];refine Y.imp_of_mem fun {a b} E I h=>?_;simp only[e2,J a E,J b I];omega
  ·refine List.pairwise_lt_range.imp fun {u v} ad x V y aa=>?_;obtain⟨a,E,rfl⟩:=l9.1 V;obtain⟨b,X,rfl⟩:=l9.1 aa;simp only[e2,J a E,J b X];have h1:=I a E;have W:=I b X;have:=Int.mul_le_mul_of_nonneg_right (show (u:Int)+1≤v by omega) (show (0:Int)≤32 ^ s.length by have:=tq s.length;omega);rw[Int.add_mul,Int.one_mul] at this;omega
theorem Du {D L:Told} {o:Int} (J:(D.map (·.1)).Nodup) (E:L.Perm D) (t:List Int):gk L o t=gk D o t:=by
 have U:(L.map (·.1)).Nodup:=(E.map (·.1)).nodup_iff.2 J;by_cases he:∃ p∈D,p.1=t
 ·obtain⟨p,O,rfl⟩:=he;rw[pO J (c:=p.2) O,pO U (c:=p.2) (E.mem_iff.2 O)]
 ·rw[pP fun p h1 I=>he ⟨p,h1,I⟩,pP fun p h1 I=>he ⟨p,E.mem_iff.1 h1,I⟩]
def gn (an:List Int) (f:List Int→Int) (cs:List Int):Prop:=cs.length=(aG an).toNat∧ ∀ t,cM an t→cn an cs t=f t
theorem gn.eq {an:List Int} {f:List Int→Int} {cs E:List Int} (O:dG an) (h1:gn an f cs) (I:gn an f E):cs=E:=BF O h1.1 I.1 fun t J=>by rw[h1.2 t J,I.2 t J]
theorem gn.congr {an:List Int} {f E:List Int→Int} {cs:List Int} (h:gn an f cs) (he:∀ t,cM an t→f t=E t):gn an E cs:=⟨h.1,fun t I=>by rw[h.2 t I,he t I]⟩
theorem tE {an t:List Int} (I:dG an) (h:cM an t):∃ n:Nat,cg an t 0=some (n:Int)∧n<(aG an).toNat:=by
 obtain⟨n,E⟩:=h;have:=iM I E;simp only[Int.zero_mul,Int.zero_add,Int.one_mul] at this;exact⟨n.toNat,by rw[E];congr 1;omega,by omega⟩
theorem Dv {an:List Int} (E:dG an) (c:Int):gn an (fun _=>c) (p9 (aG an).toNat c):=⟨by simp,fun t I=>by
 obtain⟨n,J,O⟩:=tE E I;unfold cn;rw[J];simp only[c9,p8,List.getElem?_replicate,O,if_true,V4]⟩
theorem gn.put {an t:List Int} {f:List Int→Int} {cs:List Int} {k c:Int} (E:dG an) (h:gn an f cs) (V:cM an t) (W:cF c k):gn an (fun s=>if s=t then c else f s) (qX an t k c cs):=by
 obtain⟨n,J,X⟩:=tE E V;unfold qX;rw[J];simp only[W,if_true,c9];refine⟨by simp[h.1],fun s U=>?_⟩;obtain⟨m,hm,Y⟩:=tE E U;have I:=h.2 s U;unfold cn at I ⊢;rw[hm] at I ⊢;simp only[c9] at I ⊢;by_cases he:s=t
 ·subst he;rw[J] at hm;have O:n=m:=by have:=b9 hm;omega
  subst O;rw[if_pos rfl,p8,V7 (by rw[h.1];exact X)];rfl
 ·rw[if_neg he,p8,List.getElem?_set_ne (fun O=>he ?_),←p8,I];subst O;rw[←wk E hm,←wk E J]
def Dw (w:x5) (an:List Int) (k o:Int) (D:Told) (v:x4) (w':x5):Prop:=Ext w w'∧(4096<aG an→v= .tuple #[.pointer none,.int .i64 5])∧
 (aG an≤4096→ ∃ g E sv cs,v= .tuple #[.pointer (some ⟨g,0,none⟩),.int .i64 0]∧w.heap.size≤g∧w.heap.size≤E∧cG w' g E sv an k cs∧gn an (gk D o) cs)
set_option maxHeartbeats 1600000 in
theorem xV {w:x5} {g m:Nat} {an:List Int} {k o:Int} {D:Told} (h:dM w g m an k o D) (aE:D.length<65536):O y0 mj [.pointer (some ⟨g,0,none⟩)] w (Dw w an k o D):=by
 obtain⟨⟨sv,gs,aF,hm⟩,bn,V,aH,aI⟩:=id h;have ao:=h.nodup;apply mj.enter;rw[cZ b5.u];simp only[b8,aT];intro bo E _ _;have ab:=aF.ext E;rw[az,ah cL.p rfl,ai (by kernel_rfl) (ab.cell (o:=0+0) rfl),az,ah cL.p rfl,ai (by kernel_rfl) (ab.cell (o:=0+1) rfl),az,ah cL.p rfl,ai (by kernel_rfl) (ab.cell (o:=0+2) rfl)];refine (sU (hm.ls.ext E)).mono ?_;rintro _ ap _ ⟨W,_,aJ,_,aL⟩;by_cases X:aG an≤4096
 rotate_left
 ·have:=aJ V (by omega);subst this;rw[aC (v:=.pointer none) rfl,aC (v:=.int .i64 5) rfl];simp only[bN,ag];exact⟨fun _=>⟨E.trans W,fun _=>rfl,fun h=>absurd h X⟩,fun h=>by simp at h⟩
 obtain⟨ac,I,aq,rfl,bp,bq,_,av⟩:=aL V X aH;rw[aC (v:=.pointer (some ⟨ac,0,none⟩)) rfl,aC (v:=.int .i64 0) rfl];simp only[bN,ag];refine⟨fun h=>absurd rfl h,fun _=>?_⟩;have br:=E.size;have bt:=W.size;refine (Dt ((h.ext E).ext W) aE).mono ?_;rintro bu aN _ ⟨ae,L,Y,aw⟩;have bw:=ae.size;have bx:I<ap.heap.size:=by
  obtain⟨⟨aM,bz,_,_,aO⟩,⟨_,_,bA⟩,aP,aQ⟩:=id av;have bB:=jx aP.2;obtain⟨_,⟨_,aR⟩|⟨cap,cs,_,aS,_⟩⟩:=aO
  ·rw[aQ] at aR;omega
  ·exact aS.lt
 have bC:=Y.1.length_eq;rw[h9 hx.u aw];refine bc.range L.length (fun i J=>aj (fun r=>r=I) aN J∧ ∃ cs,cG J ac I aq an k cs∧gn an (gk (L.take i) o) cs) (by omega) ⟨aj.refl _ _,_,av.ext ae,by rw[List.take_zero];exact Dv V.2 o⟩ ?_ ?_
 ·rintro i J aU hi ⟨Z,cs,af,aa⟩ aV;simp only[au,ag];refine⟨fun _=>?_,fun h=>by omega⟩;obtain⟨⟨t,c⟩,U⟩:∃ p,L[i]? =some p:=⟨_,x3 hi⟩;have aW:(t,c)∈D:=Y.1.mem_iff.1 (u4 U);obtain⟨aX,aY,aZ⟩:=aI _ aW;have a1:=ax.ad aw Z fun r ay a2 he=>by
   have he:r=I:=he;rcases a2 with h|h
   ·have h:ap.heap.size≤r:=h;omega
   ·exact h
  refine mR (α:=List Int×Int) dn.p rfl hx.u dn.i a1 U fun us a6=>?_;obtain⟨bD,a7,A,B,rfl,bE,bF,_,h1,a8⟩:=a6;have ba:a7=[.int .i64 c]:=a8;subst ba;obtain⟨bb,rfl,_⟩:=id h1;have hu:=kh h1;refine bO dn.i fun bd bG bH be aA=>?_;refine b4 (vs:=[bb,.int .i64 c]) dn.i rfl rfl (by intro v aB;simp at aB;rcases aB with rfl|rfl;exact hu.cells.2;rfl) aA fun bf bg bI aD=>?_;have bJ:=aA.lt;have ak:Ext J bf:=be.then bg (fun r ay he=>by have he:r=bd:=he;omega);rw[ah dn.p rfl,ai (by kernel_rfl) (aD.cell (o:=0+0) rfl),ah dn.p rfl,ai (by kernel_rfl) (aD.cell (o:=0+1) rfl)];refine (AU (af.ext ak) (hu.ext ak)).mono ?_;rintro _ bK _ ⟨rfl,bh,bi⟩;simp only[aK];refine aV _ ⟨(Z.trans (ak.ad _)).trans bh,_,bi,(aa.put V.2 aX aY).congr fun s bL=>?_⟩;rw[o3,U];have al:(L.map (·.1)).Nodup:=(Y.1.map (·.1)).nodup_iff.2 ao;have bj:∀ p∈L.take i,p.1≠t:=fun p X he=>by
   obtain⟨j,am⟩:=Y5.1 X;have bk:j<i:=by have:=(x6.1 am).1;rw[l6] at this;omega
   rw[Z6 bk] at am;have:=ii al (i:=j) (j:=i) (x:=t) (by rw[r8,am,b6,he]) (by rw[r8,U];rfl);omega
  have bl:((L.take i).map (·.1)).Nodup:=by rw[List.map_take];exact (List.take_sublist _ _).nodup al
  have bm:((L.take i++[(t,c)]).map (·.1)).Nodup:=by
   have e:L.take i++[(t,c)]=L.take (i+1):=by rw[o3,U];rfl
   rw[e,List.map_take];exact (List.take_sublist _ _).nodup al
  exact ((w2 bj aZ).cost bl bm s).symm
 ·rintro J aU ⟨Z,cs,af,aa⟩;simp only[au,ag];refine⟨fun h=>by omega,fun _=>?_⟩;rw[l5] at aa;exact⟨((E.trans W).trans ae).then Z (fun r ay he=>by have he:r=I:=he;omega),fun h=>by omega,fun _=>⟨ac,I,aq,cs,rfl,by omega,by omega,af,aa.congr fun s _=>Du ao Y.1 s⟩⟩
theorem Dx {s cs t:List Int} (E:dG s) (I:cs.length=(aG s).toNat) {i:Nat} (h:(bG s)[i]? =some t):cs[i]? =some (cn s cs t):=by
 have hi:=(x6.1 h).1;rw[iN E,←I] at hi;unfold cn;rw[s8 E h];simp only[c9,p8,x3 hi,V4]
theorem rH {k:o8} {e:o6} {w:x5} {g:Nat} {v:x4} {l:List Int} (h:aq k e w g v l) (I:0<l.length):g<w.heap.size:=by
 obtain⟨_,⟨_,h1⟩|⟨_,_,_,E,_⟩⟩:=h
 ·omega
 ·exact E.lt
def eJ (w:x5) (g m:Nat) (sv:x4) (gs:Nat) (an:List Int) (k o:Int) (D:Told):Prop:=
 ak w g cL [sv,.int .i64 k,.int .i64 o,.map (some m)]∧aq .i64 J w gs sv an∧cw w m (D.map hD)∧bR an∧cF o k∧ ∀ p∈D,cM an p.1∧cF p.2 k∧p.2≠o
theorem eJ.is {w:x5} {g m gs:Nat} {sv:x4} {an:List Int} {k o:Int} {D:Told} (h:eJ w g m sv gs an k o D):dM w g m an k o D:=⟨⟨sv,gs,h.1,h.2.1⟩,h.2.2⟩
theorem dM.at {w:x5} {g m:Nat} {an:List Int} {k o:Int} {D:Told} (h:dM w g m an k o D):∃ sv gs,eJ w g m sv gs an k o D:=by
 obtain⟨⟨sv,gs,h1,E⟩,I⟩:=h;exact⟨sv,gs,h1,E,I⟩
theorem eJ.ext {w w':x5} {g m gs:Nat} {sv:x4} {an:List Int} {k o:Int} {D:Told} (h:eJ w g m sv gs an k o D) (E:Ext w w'):eJ w' g m sv gs an k o D:=by
 obtain⟨h1,I,J,O⟩:=h;exact⟨h1.ext E,I.ext E,J.ext E,O⟩
theorem eJ.ad {S:Nat→Prop} {w w':x5} {g m gs:Nat} {sv:x4} {an:List Int} {k o:Int} {D:Told} (h:eJ w g m sv gs an k o D) (E:aj S w w') (I:¬S g) (hm:¬S m) (J:∀ r,leads sv r→¬S r):eJ w' g m sv gs an k o D:=by
 obtain⟨h1,O,U,V⟩:=h;exact⟨h1.ad E I,bp O E J,U.ad E hm,V⟩
theorem rI {w:x5} {g m:Nat} {e:o6} {cs:List x4} {d:List (x4×x4)} (h:ak w g e cs) (hm:cw w m d):g≠m:=by
 rintro rfl;obtain⟨E,c,h1,_⟩:=hm;unfold ak at h;rw[h1] at h;cases h
theorem xW {w:x5} {g m:Nat} {k:o8} {e:o6} {v:x4} {l:List Int} {d:List (x4×x4)} (h:aq k e w g v l) (hm:cw w m d) {r:Nat} (E:leads v r):r≠m:=by
 obtain⟨rfl,_⟩:=bX h E;obtain⟨_,⟨rfl,_⟩|⟨_,_,_,I,_⟩⟩:=h
 ·obtain⟨a,n,c,h,_⟩:=E;cases h
 ·exact rI I hm
theorem eJ.put {w w':x5} {g m gs:Nat} {sv:x4} {an:List Int} {k o:Int} {D E:Told} (h:eJ w g m sv gs an k o D) (I:aj (fun r=>r=m) w w') (h':dM w' g m an k o E):eJ w' g m sv gs an k o E:=
 ⟨h.1.ad I (fun he=>rI h.1 h.2.2.1 he),bp h.2.1 I (fun r J he=>xW h.2.1 h.2.2.1 J he),h'.2⟩
theorem eJ.pH {w:x5} {g m gs:Nat} {sv:x4} {an:List Int} {k o:Int} {D:Told} (h:eJ w g m sv gs an k o D):g<w.heap.size∧m<w.heap.size∧ ∀ r,leads sv r→r<w.heap.size:=
 ⟨h.1.lt,h.2.2.1.lt,fun r E=>by obtain⟨rfl,I⟩:=bX h.2.1 E;exact I⟩
instance (s t:List Int):Decidable (cM s t):=decidable_of_iff ((cg s t 0).isSome=true) ⟨fun h=>by
 cases E:cg s t 0 with
 |none=>rw[E] at h;cases h
 |some n=>exact⟨n,E⟩,fun⟨n,h⟩=>by rw[h];rfl⟩
theorem rJ {sv:x4} {l:List Int} {w:x5} (h:aH .i64 w sv l) (am:l.length≤1000000):O y0 jo [sv] w fun v w'=>Ext w w'∧ ∃ g,w.heap.size≤g∧aq .i64 J w' g v l:=by
 apply jo.enter;rw[aO af.u h];refine hz (k:=.i64) ab.u J.i (by omega) (by omega) fun g W ao V X=>?_;have aa:aq .i64 J W g (.slice (some ⟨g,0,none⟩) l.length l.length) (p9 l.length 0):=by
  have:=bL.full (k:=1) (n:=l.length) X (by simp) (by simp[maxLen];omega);exact aq.of this
 rw[aO af.u (h.ext V)];have ap:=X.lt;refine bc.range l.length (fun i E=>aj (fun r=>r=g) W E∧aq .i64 J E g (.slice (some ⟨g,0,none⟩) l.length l.length) (l.take i++p9 (l.length-i) 0)) h.le ⟨aj.refl _ _,by simpa using aa⟩ ?_ ?_
 rotate_left
 ·rintro E ac ⟨U,I⟩;rw[au,ag];rw[l5,W3,List.replicate_zero,U3] at I;exact⟨fun h=>by omega,fun _=>⟨V.then U (fun r ad he=>by have he:r=g:=he;omega),g,by omega,I⟩⟩
 rintro i E ac hi ⟨U,I⟩ ah;obtain⟨x,Y⟩:∃ x,l[i]? =some x:=⟨_,x3 hi⟩;have ai:Ext w E:=V.then U (fun r ad he=>by have he:r=g:=he;omega);rw[au,ag];refine⟨fun _=>?_,fun h=>by omega⟩;rw[bm af.u ae.i (by kernel_rfl) (h.ext ai) Y];rw[gB rfl ab.u J.i I (by simp;omega)];refine gC J.i I (by simp;omega) fun av ak aw Z=>?_;rw[aK];refine ah _ ⟨U.trans ak,?_⟩;have e:(l.take i++p9 (l.length-i) 0).set i x=l.take (i+1)++p9 (l.length-(i+1)) 0:=by
  have al:(l.take i).length=i:=by rw[l6];omega
  rw[V2 _ _ (by omega),al,W3,show l.length-i=(l.length-(i+1))+1 by omega,List.replicate_succ,List.set_cons_zero,o3,Y,j5,W9];rfl
 rw[e] at Z;exact Z
def Dy (w:x5) (l:List Int) (k o:Int) (v:x4) (w':x5):Prop:=
 Ext w w'∧(¬bR l→v= .tuple #[.pointer none,.int .i64 1])∧(bR l→¬cF o k→v= .tuple #[.pointer none,.int .i64 3])∧
  (bR l→cF o k→ ∃ g m sv gs,v= .tuple #[.pointer (some ⟨g,0,none⟩),.int .i64 0]∧w.heap.size≤g∧w.heap.size≤m∧(∀ r,leads sv r→w.heap.size≤r)∧eJ w' g m sv gs l k o [])
theorem Dz {sv:x4} {l:List Int} {k o:Int} {w:x5} (h:aH .i64 w sv l):O y0 fz [sv,.int .i64 k,.int .i64 o] w (Dy w l k o):=by
 apply fz.enter;refine aZ (fun v Y=>Ext w Y∧ ∃ c,v= .bool c∧(c=true↔¬bR l)) ?_ ?_
 ·rintro _ Y ⟨J,c,rfl,U⟩;rw[cE];refine⟨fun Z=>⟨J,fun _=>rfl,fun h=>absurd h (U.1 Z),fun h=>absurd h (U.1 Z)⟩,fun ae=>?_⟩;have E:bR l:=Classical.byContradiction fun h=>by have:=U.2 h;rw[ae] at this;cases this
  have am:=E.1;refine ln.mono ?_;rintro _ af _ ⟨rfl,I⟩;by_cases hi:cF o k
  rotate_left
  ·simp only[hi,decide_false,b3,X0,bP];exact⟨J.trans I,fun h=>absurd E h,fun _ _=>rfl,fun _ h=>absurd h hi⟩
  simp only[hi,decide_true,b3,Y1,aT];refine (jv ((h.ext J).ext I) (by omega)).mono ?_;rintro aa ao _ ⟨ac,ah,ap,hm⟩;have aq:=hm.ls.cells;refine rn fun m au av V ai=>?_;rw[cW (cs:=#[aa,.int .i64 k,.int .i64 o,.map (some m)]) (by obtain⟨_,_,_,_,_,rfl,_⟩:=hm.ls;kernel_rfl)];refine ce fun g aw ax W aj=>?_;have ay:=J.size;have az:=I.size;have aA:=ac.size;have aB:=V.size;exact⟨((((J.trans I).trans ac).trans V).trans W),fun h=>absurd E h,fun _ h=>absurd hi h,fun _ _=>⟨g,m,aa,ah,rfl,by omega,by omega,fun r ak=>by have:=(bX hm ak).1;omega,aj,(hm.ext V).ext W,ai.ext W,E,hi,fun p al=>by cases al⟩⟩
 ·intro aC ad;rw[aO ab.u h];simp only[bV,ag];refine⟨fun aD=>ad _ _ ⟨Ext.refl _,true,rfl,fun _ E=>by have:=E.1;omega,fun _=>rfl⟩,fun aE=>?_⟩;refine (wW h).mono ?_;rintro _ af _ ⟨rfl,I⟩;refine ad _ _ ⟨I,_,rfl,?_⟩;rw[decide_eq_true_eq];exact⟨fun X E=>X E.2,fun X E=>X ⟨by omega,E⟩⟩
structure xX where
 an:List Int
 k:Int
 o:Int
 D:Told
instance G2:ax xX where
 n:=1
 rep _ _ R w cs a:=∃ g m sv gs,cs=[.pointer (some ⟨g,0,none⟩)]∧eJ w g m sv gs a.an a.k a.o a.D∧R g∧R m∧ ∀ r,leads sv r→R r
 len:=by rintro _ _ _ _ _ _ ⟨_,_,_,_,rfl,_⟩;rfl
 one:=by rintro _ _ _ _ _ _ ⟨_,_,_,_,rfl,_⟩ u hu;simp at hu;subst hu;rfl
 ad:=by
  rintro _ _ R T w w' _ a ⟨g,m,sv,gs,rfl,h1,I,J,O⟩ Z U;obtain⟨V,W,X⟩:=h1.pH;exact⟨g,m,sv,gs,rfl,h1.ad Z (U g V (.inr I)) (U m W (.inr J)) fun r E=>U r (X r E) (.inr (O r E)),I,J,O⟩
 mono:=by
  rintro _ _ _ R R' w _ a ⟨g,m,sv,gs,rfl,h1,I,J,O⟩ _ Y;obtain⟨V,W,X⟩:=h1.pH;exact⟨g,m,sv,gs,rfl,h1,Y g V I,Y m W J,fun r E=>Y r (X r E) (O r E)⟩
 fL:=by
  rintro _ _ R w _ a ⟨g,m,sv,gs,rfl,h1,I,J,O⟩;exact⟨g,m,sv,gs,rfl,h1,.inr I,.inr J,fun r E=>.inr (O r E)⟩
abbrev fr:Type:=Rd (List Int)×xX
def p0 (k:Int) (x:ca) (f:fr):Prop:=f.1=x.scope∧f.2.an=x.sizes∧f.2.k=k∧f.2.o=min x.other k∧f.2.D.length≤x.lines.length∧ ∀ t,gk f.2.D f.2.o t=hC x k t
theorem DA {m:Bool} {S R:av} {w:x5} {cs:List x4} {x:ca} (h:ax.rep m S R w cs (fq x)):∃ a6 aw bK,cs=[a6,aw,.int .i64 x.other,bK]∧ax.rep (α:=List Int) false br R w [a6] x.scope∧ax.rep (α:=List Int) false br R w [aw] x.sizes∧ax.rep (α:=List (List Int×Int)) false br R w [bK] x.lines:=by
 obtain⟨O,d1,W,X,rfl,_,_,_,h1,U,d2,Y,Z,rfl,_,_,_,E,V,d3,aa,ab,rfl,_,_,_,J,I⟩:=h;have h1:ax.rep (α:=List Int) false br R w O x.scope:=h1;have E:ax.rep (α:=List Int) false br R w U x.sizes:=E;have J:V=[.int .i64 x.other]:=J;have I:ax.rep (α:=List (List Int×Int)) false br R w d3 x.lines:=I;obtain⟨u,rfl⟩:=V6.1 (show O.length=1 from ax.len h1);obtain⟨v,rfl⟩:=V6.1 (show U.length=1 from ax.len E);obtain⟨y,rfl⟩:=V6.1 (show d3.length=1 from ax.len I);subst J;exact⟨u,v,y,rfl,h1,E,I⟩
theorem DB {m:Bool} {S R:av} {w:x5} {cs:List x4} {p:List Int×Int} (h:ax.rep m S R w cs p):∃ I,cs=[I,.int .i64 p.2]∧aH .i64 w I p.1:=by
 obtain⟨J,d1,O,U,rfl,_,_,_,h1,E⟩:=h;obtain⟨u,rfl⟩:=V6.1 (show J.length=1 from ax.len h1);have E:d1=[.int .i64 p.2]:=E;subst E;exact⟨u,rfl,kh h1⟩
structure rK (k:Int) (x:ca):Prop where
 k:right k
 sizes:bR x.sizes
 other:0≤x.other
 lines:km x.sizes x.lines
 len:x.lines.length≤60000
 scope:x.scope.length≤100001
theorem c6 {k:o8} {w:x5} {v:x4} {l:List Int} (h:aH k w v l):∃ a n c,v= .slice a n c:=by
 obtain⟨_,b,o,base,cap,rfl,_⟩:=h;exact⟨_,_,_,rfl⟩
set_option maxHeartbeats 4000000 in
theorem DC {w:x5} {aP:Nat} {bj bk bl:x4} {K:Int} {R:av} {cs:List x4} {x:ca} (aQ:ak w aP bf [bj,.int .i64 K,bk,bl]) (bm:Seen R w cs (fq x)) (bn:rK K x):
  O y0 kW [.pointer (some ⟨aP,0,none⟩),.agg cs.toArray] w fun v w'=>Ext w w'∧ ∃ aD,∃ f:fr,v= .agg aD.toArray∧aD.length=2∧Seen (dS w.heap.size) w' aD f∧p0 K x f:=by
 obtain⟨a6,aw,bK,rfl,h1,aR,aE⟩:=DA bm;obtain⟨af,aF,bW,aS,bY,bZ⟩:=bn;have b1:x.sizes.length≤6:=aF.1;apply kW.enter;refine ce fun bo aT b2 aU V=>?_;have V:ak aT bo be [a6,aw,.int .i64 x.other,bK]:=by
  obtain⟨_,_,_,rfl⟩:=jA h1;obtain⟨_,_,_,rfl⟩:=jA aR;obtain⟨_,_,_,rfl⟩:=jA aE;exact V
 refine bO bg.i fun W aV b3 aG al=>?_;have al:ak aV W bg [.slice none 0 0,.pointer none]:=al;intro b5 am _ _;have aH:=(aU.trans aG).trans am;have aI:=aG.trans am;have b6:=aU.size;have b7:=aG.size;have z3:=am.size;have b8:=al.lt;have aW:=aQ.ext aH;rw[ah be.p rfl,ai (by kernel_rfl) ((V.ext aI).cell (o:=0+1) rfl),az,ah bf.p rfl,ai (by kernel_rfl) (aW.cell (o:=0+1) rfl),
  ah be.p rfl,ai (by kernel_rfl) ((V.ext aI).cell (o:=0+2) rfl),az,ah bf.p rfl,ai (by kernel_rfl) (aW.cell (o:=0+1) rfl),kb]
 refine (rJ ((kh aR).ext aH) (by omega)).mono ?_;rintro b9 cb _ ⟨Y,cc,cd,bq⟩;refine⟨.inl Y,?_⟩;have z4:=Y.size;have bt:cF (min x.other K) K:=⟨af,by have:=af.1;omega,by omega⟩;refine (Dz bq.ls).mono ?_;rintro _ bu _ ⟨ao,_,_,bw⟩;obtain⟨ay,m,sv,gs,rfl,cg,ch,aX,bx⟩:=bw aF bt;rw[aC (v:=.pointer (some ⟨ay,0,none⟩)) rfl,aC (v:=.int .i64 0) rfl];have z5:=ao.size;have aJ:=(aH.trans Y).trans ao;have aY:=(aI.trans Y).trans ao;rw[ah be.p rfl,ai (by kernel_rfl) ((V.ext aY).cell (o:=0+3) rfl)];have aZ:=c0 aE aJ;rw[h9 ef.u aZ];refine bc.range x.lines.length (fun i I=>aj (fun r=>r=m) bu I∧ ∃ D,D.length≤i∧eJ I ay m sv gs x.sizes K (min x.other K) D∧ ∀ t,gk D (min x.other K) t=iY x K i t) (qV aZ) ⟨aj.refl _ _,[],o7 _,bx,fun t=>by rw[xM];rfl⟩ ?_ ?_
 ·rintro i I bz hi ⟨U,D,a1,Z,aL⟩ bA;obtain⟨p,aM⟩:∃ p,x.lines[i]? =some p:=⟨_,x3 hi⟩;have a2:=aS.2 p (u4 aM);have aa:Ext w I:=aJ.then U (fun r E he=>by have he:r=m:=he;omega);have bB:=U.size;have bC:ax.rep (α:=List (List Int×Int)) false br R I [bK] x.lines:=c0 aE aa;rw[au,ag];refine⟨fun _=>?_,fun h=>by omega⟩;refine mR cB.p rfl ef.u cB.i bC aM fun ci bD=>?_;obtain⟨bE,rfl,a7⟩:=DB bD;refine bO cB.i fun bF cj ck a8 bG=>?_;have cl:=a8.size;refine b4 (vs:=[bE,.int .i64 p.2]) cB.i rfl rfl (by intro v ab;simp at ab;rcases ab with rfl|rfl <;> first|exact a7.cells.2|rfl) bG fun bH bI cm ba=>?_;have bJ:Ext I bH:=a8.then bI (fun r E he=>by have he:r=bF:=he;omega);intro cn aN _ _;have X:=bJ.trans aN;have z9:=X.size;rw[ah cB.p rfl,ai (by kernel_rfl) ((ba.ext aN).cell (o:=0+0) rfl),ah cB.p rfl,ai (by kernel_rfl) ((ba.ext aN).cell (o:=0+1) rfl),az,ah bf.p rfl,ai (by kernel_rfl) (((aQ.ext aa).ext X).cell (o:=0+1) rfl),kb];have cp:=tm aF a2.1;refine (rJ (a7.ext X) (by omega)).mono ?_;rintro cq cr _ ⟨ac,ct,cu,bL⟩;refine⟨.inl ac,?_⟩;have cw:=ac.size;refine (w5 (c:=min p.2 K) ((Z.ext X).ext ac).is bL.ls).mono ?_;rintro _ cz _ ⟨_,bM⟩;have bN:cF (min p.2 K) K:=⟨af,by have:=af.1;omega,by omega⟩;obtain⟨rfl,bb,bP,bd,bh⟩:=bM ⟨a2.1,bN⟩;rw[aK];refine bA _ ⟨(U.trans ((X.trans ac).ad _)).trans bb,bP,by have:=bd.2;omega,eJ.put ((Z.ext X).ext ac) bb bh,fun t=>?_⟩;rw[xO aS.1 aM,bd.cost Z.is.nodup bh.nodup];by_cases ap:t=p.1
  ·rw[if_pos ap,if_pos ap]
  ·rw[if_neg ap,if_neg ap,aL]
 ·rintro I bz ⟨U,D,a1,Z,aL⟩;have aa:Ext w I:=aJ.then U (fun r E he=>by have he:r=m:=he;omega);have bQ:Ext aT I:=aY.then U (fun r E he=>by have he:r=m:=he;omega);have bB:=U.size;rw[au,ag];refine⟨fun h=>by omega,fun _=>?_⟩;rw[ah be.p rfl,ai (by kernel_rfl) ((V.ext bQ).cell (o:=0+0) rfl)];refine (rJ ((kh h1).ext aa) (by omega)).mono ?_;rintro aA cA _ ⟨aB,bR,cC,ae⟩;have z12:=aB.size;rw[cW (cs:=#[aA,.pointer (some ⟨ay,0,none⟩)]) (by obtain⟨_,_,_,rfl⟩:=c6 ae.ls;kernel_rfl)];have bS:Ext aV I:=((am.trans Y).trans ao).then U (fun r E he=>by have he:r=m:=he;omega);refine b4 (vs:=[aA,.pointer (some ⟨ay,0,none⟩)]) bg.i rfl rfl (by intro v ab;simp at ab;rcases ab with rfl|rfl <;> first|exact ae.ls.cells.2|rfl) ((al.ext bS).ext aB) fun bi aO cD bT=>?_;rw[eN bg.p bg.i rfl bT.range];have bU:eJ bi ay m sv gs x.sizes K (min x.other K) D:=(Z.ext aB).ad aO (fun he=>by have he:ay=W:=he;omega) (fun he=>by have he:m=W:=he;omega) (fun r E he=>by have he:r=W:=he;have:=aX r E;omega);have bV:aq .i64 J bi bR aA x.scope:=bp ae aO fun r E he=>by have he:r=W:=he;have:=(bX ae E).1;omega
  refine⟨(aa.trans aB).then aO (fun r E he=>by have he:r=W:=he;omega),_,(x.scope,⟨x.sizes,K,min x.other K,D⟩),rfl,rfl,?_,rfl,rfl,rfl,rfl,a1,fun t=>?_⟩
  ·exact⟨[aA],[.pointer (some ⟨ay,0,none⟩)],br,br,rfl,fun _ h=>h,fun _ h=>h,fun _ _ h _=>h,pW bV fun r E=>by have:=(bX ae E).1;show w.heap.size≤r;omega,
    ⟨ay,m,sv,gs,rfl,bU,by show w.heap.size≤ay;omega,by show w.heap.size≤m;omega,fun r E=>by have:=aX r E;show w.heap.size≤r;omega⟩⟩
  ·rw[aL,xN]
theorem DD {S R:av} {w:x5} {cs:List x4} {f:fr} (h:ax.rep false S R w cs f):ax.rep (α:=fr) true br R w cs f:=by
 obtain⟨c,d,A,B,rfl,h1,J,_,E,I⟩:=h;exact⟨c,d,br,br,rfl,fun _ h=>h,fun _ h=>h,fun _ _ h _=>h,E,I⟩
def rL (k:Int) (E:List ca) (I:List fr):Prop:=I.length=E.length∧ ∀ (i:Nat) x f,E[i]? =some x→I[i]? =some f→p0 k x f
set_option maxHeartbeats 4000000 in
theorem DE {w:x5} {E:Nat} {m:Bool} {S R:av} {aE aw aN:x4} {K:Int} {V:List ca} {a1:x5→Prop} (a2:ak w E bf [aE,.int .i64 K,aw,.slice none 0 0])
  (bn:ax.rep m S R w [aN] (show List fF from V.map fq)) (bo:∀ r,S r∨R r→r≠E) (bp:∀ x∈V,rK K x) (cd:V.length≤256)
  (bq:∀ w' Z,∀ W:List fr,aj (fun r=>r=E) w w'→ak w' E bf [aE,.int .i64 K,aw,Z]→Seen (fun r=>w.heap.size≤r) w' [Z] W→rL K V W→a1 w'):
  bc (.int .i64 0) w fun aO ae bt=>
   I y0 (U .lss J false false aO (.int .i64 (V.length:Int))) ae fun bu=>
   Split bu (I y0 (x7 fb aN aO) ae fun bw=>
   I y0 (x1 be bw) ae fun bx=>
   aa y0 (n9 be true (.tuple #[])) ae fun x bz=>
   aa y0 (x8 be x bx) bz fun(_:Unit) bA=>
   aQ bA fun ac=>
   I y0 (am (.pointer (some ⟨E,0,none⟩))) ac fun af=>
   I y0 (x2 bf af 3) ac fun ao=>
   I y0 (x1 bJ ao) ac fun aP=>
   I y0 (x1 be x) ac fun bB=>
   O y0 kW [(.pointer (some ⟨E,0,none⟩)),bB] ac fun bC ap=>
    (Ext ac ap∨al y0 (x1 bJ ao) aP ap∧al y0 (x2 bf af 3) ao ap∧al y0 (am (.pointer (some ⟨E,0,none⟩))) af ap∧True)∧
   aa y0 (u9 bJ 1 #[(0,bC)]) ap fun bD aq=>
    (Ext ac aq∨al y0 (x1 bJ ao) aP aq∧al y0 (x2 bf af 3) ao aq∧al y0 (am (.pointer (some ⟨E,0,none⟩))) af aq∧True)∧
    aa y0 (r9 #[bJ,bJ] bJ #[aP,bD]) aq fun bF aR=>
     I y0 (am (.pointer (some ⟨E,0,none⟩))) aR fun bG=>
     I y0 (x2 bf bG 3) aR fun bH=>
     aa y0 (x8 bJ bH bF) aR fun(_:Unit) a6=>
     I y0 (U .add J false true aO (.int .i64 1)) a6 fun bK=>
   bt bK a6) (a1 ae):=by
 have ce:=a2.lt;have cg:(V.map fq).length=V.length:=by simp
 refine bc.range V.length (fun i X=>aj (fun r=>r=E) w X∧ ∃ Z,∃ W:List fr,∃ A R':av,ak X E bf [aE,.int .i64 K,aw,Z]∧dv A R' X [Z] W∧(∀ r,A r→w.heap.size≤r∧r<X.heap.size)∧(∀ r,R' r→w.heap.size≤r∧¬A r∧r<X.heap.size)∧rL K (V.take i) W) (by omega)
  ⟨aj.refl _ _,_,[],br,br,a2,h8,fun _ h=>h.elim,fun _ h=>h.elim,rfl,fun i x f h=>by simp at h⟩ ?_ ?_
 rotate_left
 ·rintro X bL ⟨ay,Z,W,A,R',aA,aS,ab,aB,aF⟩;rw[l5] at aF;rw[au,ag];refine⟨fun h=>by omega,fun _=>bq X Z W ay aA (qT aS fun r _ h=>?_) aF⟩;exact h.elim (fun h=>(ab r h).1) fun h=>(aB r h).1
 rintro i X bL hi ⟨ay,Z,W,A,R',aA,aS,ab,aB,a7,aF⟩ bM;obtain⟨x,aT⟩:∃ x,V[i]? =some x:=⟨_,x3 hi⟩;have bN:=bp x (u4 aT);have ch:=ay.size;rw[l6] at a7;have bP:ax.rep m S R X [aN] (show List fF from V.map fq):=ax.ad bn ay fun r _ h he=>bo r h he;rw[au,ag];refine⟨fun _=>?_,fun h=>by omega⟩;refine mR (α:=fF) (a:=fq x) be.p rfl fb.u be.i bP (by show (V.map fq)[i]? =_;rw[r8,aT];rfl) fun cs aU=>?_;have a8:cs.length=4:=ax.len aU;have bQ:Seen (fun r=>S r∨R r) X cs (fq x):=qT aU fun r _ h=>h;refine bO be.i fun bR ci cj ba bS=>?_;have ck:=ba.size;refine b4 (vs:=cs) be.i a8 rfl (ax.one aU) bS fun bT bU cl bV=>?_;have bW:Ext X bT:=ba.then bU (fun r Y he=>by have he:r=bR:=he;omega);intro aG bb _ _;have aC:=bW.trans bb;have z4:=aC.size;rw[az,ah bf.p rfl,ai (by kernel_rfl) ((aA.ext aC).cell (o:=0+3) rfl),bI be.p be.i a8 (bV.ext bb).range];refine (DC (aA.ext aC) (c0 bQ aC) bN).mono ?_;rintro _ aH _ ⟨aI,bd,f,rfl,cm,bh,bX⟩;have z5:=aI.size;refine⟨.inl aI,?_⟩;have bi:=DD bh;have bY:=aC.trans aI;refine lm (α:=fr) (a:=f) (cs:=bd) (A:=br) (R:=dS aG.heap.size) bJ.u bg.i (by decide) (by
  obtain⟨c,d,cn,cp,he,_,_,_,aJ,bZ⟩:=bh;have aJ:ax.rep (α:=List Int) false br _ aH c f.1:=aJ;obtain⟨u,rfl⟩:=V6.1 (show c.length=1 from ax.len aJ);obtain⟨cq,cr,ct,cu,rfl,_⟩:=bZ;obtain⟨_,_,_,rfl⟩:=jA aJ;cases he;rfl) bi fun u aV aL _ hu=>?_
 have cw:=aL.size;refine⟨.inl (aI.trans aL),?_⟩;have aW:=bY.trans aL;have b1:dv A (fun r=>R' r∨(aG.heap.size≤r∧r<aH.heap.size)) aV [Z] W:=c0 (ax.mono aS (fun _ _ h=>h) fun _ _ h=>.inl h) aW;have b2:dv br (fun r=>R' r∨(aG.heap.size≤r∧r<aH.heap.size)) aV bd f:=c0 (ax.mono bi (fun _ _ h=>h) fun r Y h=>.inr ⟨h,Y⟩) aL;refine mS (α:=fr) (a:=f) (A:=br) bJ.u bg.i rfl b1 hu b2 (fun r _ bj h=>?_) (by omega) (by omega) fun bk b3 aX aY=>?_
 ·rcases h with h|h|h
  ·exact h
  ·exact (aB r h).2.1 bj
  ·have:=(ab r bj).2;omega
 have cz:=aY.size;rw[az,ah bf.p rfl];have b5:=(aA.ext aW).ad aY (fun he=>by have:=(ab _ he).1;omega);refine bE (g:=E) (o:=3) bJ.i (qU aX) (sO aX) b5 (by simp) fun b6 bl cA aZ=>?_;have aZ:ak b6 E bf [aE,.int .i64 K,aw,bk]:=aZ;rw[aK];have b7:=ke aX;refine bM _ ⟨(fB (ay.trans (aW.ad _)) aY fun r Y he=>by have:=(ab _ he).1;omega).trans bl,bk,W++[f],fun r=>((A r∨br r∨aV.heap.size≤r)∧r<b3.heap.size),fun r=>R' r∨(aG.heap.size≤r∧r<aH.heap.size),aZ,ax.ad b7 bl fun r _ h he=>?_,fun r Y=>?_,fun r Y=>?_,?_,fun j b8 b9 aM aD=>?_⟩
 ·have he:r=E:=he;rcases h with h|h|h
  ·rcases h.1 with h1|h1|h1
   ·have:=(ab _ h1).1;omega
   ·exact h1
   ·omega
  ·have:=(aB r h).1;omega
  ·omega
 ·have cB:=Y.2;rcases Y.1 with h1|h1|h1
  ·have:=(ab _ h1).1;omega
  ·exact h1.elim
  ·omega
 ·rcases Y with Y|Y
  ·have bm:=aB r Y;refine⟨bm.1,fun h=>?_,by omega⟩;rcases h.1 with h1|h1|h1
   ·exact bm.2.1 h1
   ·exact h1
   ·omega
  ·refine⟨by omega,fun h=>?_,by omega⟩;rcases h.1 with h1|h1|h1
   ·have:=(ab _ h1).2;omega
   ·exact h1
   ·omega
 ·rw[o5,l6,a7];simp;omega
 ·have cb:=(x6.1 aD).1;rw[o5,T0] at cb;rw[Z6 (by omega)] at aM;by_cases cc:j<W.length
  ·rw[Z1 cc] at aD;exact aF j b8 b9 (by rw[Z6 (by omega)];exact aM) aD
  ·rw[Z4 (by omega),show j-W.length=0 by omega] at aD;rw[show j=i by omega,aT] at aM;cases aD;cases aM;exact bX
def iZ (w:x5) (O:Nat) (f:bS):Prop:=∃ aw E U,∃ I:List fr,ak w O bf [bu f.name,.int .i64 f.k,aw,E]∧aq .i64 J w U aw f.sizes∧Seen lk w [E] I∧rL f.k f.funs I
theorem iZ.ext {w w':x5} {I:Nat} {f:bS} (h:iZ w I f) (E:Ext w w'):iZ w' I f:=by
 obtain⟨aw,J,O,U,h1,V,W,X⟩:=h;exact⟨aw,J,O,U,h1.ext E,V.ext E,c0 W E,X⟩
def xY (w:x5) (res:Option bS) (v:x4) (w':x5):Prop:=Ext w w'∧match res with
 |none=>∃ n e:Int,v= .tuple #[.pointer none,.int .i64 n,.int .i64 e]∧e≠0
 |some f=>∃ E,∃ n:Int,v= .tuple #[.pointer (some ⟨E,0,none⟩),.int .i64 n,.int .i64 0]∧iZ w' E f
structure DF (clean:Bool) (so:Option aA) (name:List Int) (k:Int) (sizes:List Int) (acc:List fF) (res:Option bS):Prop where
 ne:∀ s,so=some s→s.toks=[]→clean=true→s.big=false→ ∃ fs,acc=fs.map fq∧res=some ⟨name,k,sizes,fs⟩∧(∀ x∈fs,rK k x)∧fs.length≤256∧sizes.length≤1000000
 bad:res≠none→ ∃ s,so=some s∧s.toks=[]∧clean=true∧s.big=false
set_option maxHeartbeats 8000000 in
theorem DG {w0 w:x5} {g gs:Nat} {A B S R:av} {m clean:Bool} {so:Option aA} {name sizes:List Int} {k:Int} {acc:List fF} {res:Option bS} {aw aU p:x4} {bM:List Int} {Q:x4→x5→Prop}
  (a7:fp w g gs A B clean so) (aq:DF clean so name k sizes acc res) (bO:aH .i64 w aw sizes) (bR:∀ r,leads aw r→r≠g∧r≠gs) (bT:ax.rep m S R w [aU] acc) (bw:∀ r,S r∨R r→r≠g∧r≠gs∧r<w.heap.size)
  (dm:so=none→True) (dn:g<w.heap.size) (dp:gs<w.heap.size) (bU:aj (fun r=>w0.heap.size≤r) w0 w) (dq:w0.heap.size≤g) (dr:w0.heap.size≤gs) (bV:aH .u8 w0 p bM)
  (aG:∀ v w',xY w0 res v w'→Q v w'):
  aB (α:=x5→Prop) (fun(E:x5)=>
  I y0 (am (.pointer (some ⟨g,0,none⟩))) E fun bW=>
  I y0 (x2 bi bW 1) E fun bX=>
  I y0 (x2 cQ bX 0) E fun bY=>
  I y0 (x1 cb bY) E fun bZ=>
  I y0 (U .neq cb false true bZ (.int .i64 0)) E fun b1=>
  Split b1 (aQ E fun ab=>
   I y0 (am (.pointer (some ⟨g,0,none⟩))) ab fun b2=>
   I y0 (x2 bi b2 1) ab fun b3=>
   I y0 (x2 cQ b3 2) ab fun b4=>
   I y0 (x1 J b4) ab fun b5=>
   I y0 (am (.pointer (some ⟨g,0,none⟩))) ab fun b6=>
   I y0 (x2 bi b6 1) ab fun b7=>
   I y0 (x2 cQ b7 0) ab fun b8=>
   I y0 (x1 cb b8) ab fun b9=>
   Q (.tuple #[(.pointer none),b5,b9]) ab)
   (I y0 (am (.pointer (some ⟨g,0,none⟩))) E fun ca=>
   I y0 (x2 bi ca 1) E fun cc=>
   I y0 (x2 cQ cc 1) E fun cd=>
   I y0 (x1 cb cd) E fun cg=>
   I y0 (U .neq cb false true cg (.int .i64 0)) E fun ch=>
   Split ch (aQ E fun ac=>
   I y0 (am (.pointer (some ⟨g,0,none⟩))) ac fun ci=>
   I y0 (x2 bi ci 1) ac fun cj=>
   I y0 (x2 cQ cj 3) ac fun ck=>
   I y0 (x1 J ck) ac fun cl=>
   I y0 (am (.pointer (some ⟨g,0,none⟩))) ac fun cm=>
   I y0 (x2 bi cm 1) ac fun cn=>
   I y0 (x2 cQ cn 1) ac fun cp=>
   I y0 (x1 cb cp) ac fun cq=>
   Q (.tuple #[(.pointer none),cl,cq]) ac)
   (O y0 jo [aw] E fun cr bx=>
  I y0 (Z0 bf #[(0,bu name),(1,.int .i64 k),(2,cr)]) bx fun ct=>
  aa y0 (Z2 bf ct) bx fun au bz=>
  I y0 (u6 #[fb] J #[aU]) bz fun cu=>
  bc (.int .i64 0) bz fun a8 ay cw=>
   I y0 (U .lss J false false a8 cu) ay fun cz=>
   Split cz (I y0 (x7 fb aU a8) ay fun cA=>
   I y0 (x1 be cA) ay fun cB=>
   aa y0 (n9 be true (.tuple #[])) ay fun x cC=>
   aa y0 (x8 be x cB) cC fun(_:Unit) cD=>
   aQ cD fun ap=>
   I y0 (am au) ap fun aI=>
   I y0 (x2 bf aI 3) ap fun aJ=>
   I y0 (x1 bJ aJ) ap fun ba=>
   I y0 (x1 be x) ap fun cE=>
   O y0 kW [au,cE] ap fun cF aK=>
    (Ext ap aK∨al y0 (x1 bJ aJ) ba aK∧al y0 (x2 bf aI 3) aJ aK∧al y0 (am au) aI aK∧True)∧
   aa y0 (u9 bJ 1 #[(0,cF)]) aK fun cG aL=>
    (Ext ap aL∨al y0 (x1 bJ aJ) ba aL∧al y0 (x2 bf aI 3) aJ aL∧al y0 (am au) aI aL∧True)∧
    aa y0 (r9 #[bJ,bJ] bJ #[ba,cG]) aL fun cI bb=>
     I y0 (am au) bb fun cJ=>
     I y0 (x2 bf cJ 3) bb fun cK=>
     aa y0 (x8 bJ cK cI) bb fun(_:Unit) bA=>
     I y0 (U .add J false true a8 (.int .i64 1)) bA fun cL=>
   cw cL bA)
    (I y0 (u6 #[aV] J #[p]) ay fun cM=>
  Q (.tuple #[au,cM,(.int .i64 0)]) ay)))) fun aW=>
 O y0 ed [(.pointer (some ⟨g,0,none⟩))] w fun cN aM=>
 Split cN (I y0 (am (.pointer (some ⟨g,0,none⟩))) aM fun cO=>
  I y0 (x2 bi cO 0) aM fun cP=>
  I y0 (x1 k5 cP) aM fun cR=>
  O y0 iI [cR] aM fun bd ao=>
  I y0 (u5 bd 0) ao fun ds=>
  I y0 (u5 bd 1) ao fun bB=>
  I y0 (u5 bd 2) ao fun bg=>
  I y0 (U .eql cb false true bg (.int .i64 0)) ao fun cS=>
  Split cS (O y0 fk [(.pointer (some ⟨g,0,none⟩)),(.int .i64 4),bB] ao fun dt cT=>
  aW cT)
  (I y0 (U .eql cb false true bg (.int .i64 11)) ao fun cU=>
  Split cU (O y0 fk [(.pointer (some ⟨g,0,none⟩)),bg,bB] ao fun du cV=>
   aW cV)
   (aW ao)))
  (aW aM):=by
 refine dF (fun E=>aj (fun r=>r=g∨r=gs) w E∧ ∃ (e big ae af told:Int) (sv:x4),ak E g bi (eH gs e big ae af told sv)∧((e≠0∧res=none)∨(e=0∧ ∃ s,so=some s∧s.toks=[]∧clean=true∧(s.big=true↔big≠0)))) ?_ ?_
 rotate_left
 ·intro cX bh;refine (xy a7).mono ?_;rintro _ aX _ ⟨rfl,aN⟩;cases so with
  |none=>
   rw[show (none:Option aA).isSome=false from rfl,aT];obtain⟨e,big,ae,af,told,sv,W,bj⟩:=a7.ext aN;refine bh _ ⟨aN.ad _,e,big,ae,af,told,sv,W,.inl ⟨bj,?_⟩⟩;cases Z:res with
   |none=>rfl
   |some f=>obtain⟨s,h,_⟩:=aq.bad (by rw[Z];simp);cases h
  |some s=>
   rw[show (some s:Option aA).isSome=true from rfl,bP];have cY:cH aX g gs A B s clean:=a7.ext aN;obtain⟨aY,cZ,c1,big,ae,af,told,sv,W,bj,c2⟩:=id cY;rw[az,ah bi.p rfl,ai (by kernel_rfl) (W.cell (o:=0+0) rfl)];refine (pF cZ).mono ?_;rintro v aP _ ⟨aD,aE⟩;have c3:(s.toks≠[]∨clean=false)→res=none:=fun V=>by
    cases Z:res with
    |none=>rfl
    |some f=>
     obtain⟨s',h,aR,bC,_⟩:=aq.bad (by rw[Z];simp);cases h;rcases V with V|V
     ·exact absurd aR V
     ·rw[V] at bC;cases bC
   have aZ:∀ X,aj (fun r=>r=g) aP X→dH X g gs A B→(s.toks≠[]∨clean=false)→cX X:=fun X aS aZ V=>by
    obtain⟨_,e,big,ae,af,told,sv,l,c4,c5,_⟩:=aZ;exact bh _ ⟨((aN.ad _).trans (aD.mono fun r _ h=>.inr h)).trans (aS.mono fun r _ h=>.inl h),e,big,ae,af,told,sv,c4,.inl ⟨c5.1,c3 V⟩⟩
   have bk:=W.ad aD aY.1;have bD:=ax.ad c2 aD fun r _ h aR=>by
    have aR:r=gs:=aR;subst aR;rcases h with h|h
    ·exact aY.2.2.1 h
    ·exact h.1 (.inr (.inl rfl))
   have bE:s.shared.length≤100000:=by have:=c1.2.2;omega
   cases aF:s.toks with
   |cons t l=>
    rw[aF] at aE;obtain⟨dv,n,rfl⟩:=aE;rw[aC (v:=bu t) rfl,aC (v:=.int .i64 n) rfl,aC (v:=.int .i64 0) rfl,bQ,ag];refine⟨fun _=>?_,fun h=>absurd rfl h⟩;refine (rh (aY.ad aD) bk bD (by omega) bE).mono ?_;rintro _ X _ ⟨aS,bl⟩;exact aZ X aS bl (.inl (by rw[aF];simp))
   |nil=>
    rw[aF] at aE;obtain⟨n,rfl⟩:=aE;rw[aC (v:=bu []) rfl,aC (v:=.int .i64 n) rfl,aC (v:=.int .i64 (if clean then 2 else 11)) rfl,bQ,ag];refine⟨fun h=>by cases clean <;> simp at h,fun _=>?_⟩;rw[bQ,ag];cases a1:clean with
    |true=>
     subst a1;refine⟨fun h=>by simp at h,fun _=>bh _ ⟨(aN.ad _).trans (aD.mono fun r _ h=>.inr h),0,big,ae,af,told,sv,bk,.inr ⟨rfl,s,rfl,aF,rfl,bj.1⟩⟩⟩
    |false=>
     subst a1;refine⟨fun _=>?_,fun h=>absurd rfl h⟩;refine (rh (aY.ad aD) bk bD (by simp) bE).mono ?_;rintro _ X _ ⟨aS,bl⟩;exact aZ X aS bl (.inr rfl)
 ·rintro aX ⟨a2,e,big,ae,af,told,sv,W,c7⟩;have dw:=a2.size;have bm:Ext w0 aX:=(bU.ext fun r Z h=>by omega).then a2 (fun r Z h=>by rcases h with h|h <;> omega);rw[az,ah bi.p rfl,ah cQ.p rfl,ai (by kernel_rfl) (W.cell (o:=0+1+0) rfl),bN,ag];rcases c7 with⟨he,bn⟩|⟨rfl,s,rfl,aF,a1,bF⟩
  ·refine⟨fun _=>?_,fun h=>absurd he h⟩;intro aP Y _ _;rw[az,ah bi.p rfl,ah cQ.p rfl,ai (by kernel_rfl) ((W.ext Y).cell (o:=0+1+2) rfl),az,ah bi.p rfl,ah cQ.p rfl,ai (by kernel_rfl) ((W.ext Y).cell (o:=0+1+0) rfl)];rw[bn] at aG;exact aG _ _ ⟨bm.trans Y,ae,e,rfl,he⟩
  ·refine⟨fun h=>absurd rfl h,fun _=>?_⟩;rw[az,ah bi.p rfl,ah cQ.p rfl,ai (by kernel_rfl) (W.cell (o:=0+1+1) rfl),bN,ag];refine⟨fun V=>?_,fun V=>?_⟩
   ·have bn:res=none:=by
     cases Z:res with
     |none=>rfl
     |some f=>
      obtain⟨s',h,_,_,bG⟩:=aq.bad (by rw[Z];simp);cases h;rw[bF.2 V] at bG;cases bG
    intro aP Y _ _;rw[az,ah bi.p rfl,ah cQ.p rfl,ai (by kernel_rfl) ((W.ext Y).cell (o:=0+1+3) rfl),az,ah bi.p rfl,ah cQ.p rfl,ai (by kernel_rfl) ((W.ext Y).cell (o:=0+1+1) rfl)];rw[bn] at aG;exact aG _ _ ⟨bm.trans Y,af,big,rfl,V⟩
   ·have c8:s.big=false:=by
     cases c9:s.big with
     |false=>rfl
     |true=>exact absurd (bF.1 c9) V
    obtain⟨bo,rfl,rfl,da,db,dc⟩:=aq.ne s rfl aF a1 c8;have dd:aH .i64 aX aw sizes:=hB bO a2 fun r Z a n c aE aq=>by
     have:=bR r ⟨a,n,c,aE,aq⟩;exact Z.elim this.1 this.2
    refine (rJ dd dc).mono ?_;rintro bp aP _ ⟨Y,de,dx,bq⟩;have dy:=Y.size;rw[cW (cs:=#[bu name,.int .i64 k,bp,.slice none 0 0]) (by obtain⟨_,_,_,rfl⟩:=c6 bq.ls;kernel_rfl)];refine ce fun br X dz bt a6=>?_;have a6:ak X br bf [bu name,.int .i64 k,bp,.slice none 0 0]:=by obtain⟨_,_,_,rfl⟩:=c6 bq.ls;exact a6
    have bH:ax.rep m S R X [aU] (show List fF from bo.map fq):=c0 (c0 (ax.ad bT a2 fun r _ h he=>by have:=bw r h;exact he.elim this.1 this.2.1) Y) bt;have df:(bo.map fq).length=bo.length:=by simp
    rw[h9 fb.u bH,df];refine DE a6 bH (fun r h=>by have:=bw r h;omega) da db fun bI dg dh di dj dk dl=>?_;have dA:=a6.lt;have z3:=bt.size;have bK:Ext aP bI:=bt.then di (fun r Z h=>by have h:r=br:=h;omega);have bL:Ext w0 bI:=(bm.trans Y).trans bK;rw[aO aV.u (bV.ext bL)];exact aG _ _ ⟨bL,br,_,rfl,bp,dg,de,dh,dj,bq.ext bK,AB dk,dl⟩
theorem xZ {α:Type} {f:List α→aA→Option (α×aA)} {n:Nat} {acc:List α} {s:aA}:ew f (n+1) acc (some s)=match f acc s with
  |none=>none
  |some (a,s')=>ew f n (acc++[a]) (some s'):=by
 show ck f (n+1) acc s=_;simp only[ck];cases f acc s <;> rfl
set_option maxHeartbeats 4000000 in
theorem DH {w:x5} {g gs N:Nat} {A B:av} {s:Option aA} {clean:Bool} {most:Int} {az:x4→x5→Prop} (h:cN w g gs A B clean s) (aY:(N:Int)≤ap)
  (aD:∀ aw w' l so E,aj (bt g gs A) w w'→cN w' g gs A B clean so→aq .i64 ae w' E aw l→w.heap.size≤E→l.length≤100001→(∀ q,ew (eO most) N [] s=some q→so=some q.2∧l=q.1)→(ew (eO most) N [] s=none→so=none)→az aw w'):
 a8 (.slice none 0 0) (.int .i64 0) w fun sizes i ac k=>
  aB (α:=x4→x5→Prop) (fun(a1:x4) (aE:x5)=>
   Split a1 (O y0 eB [.pointer (some ⟨g,0,none⟩),(.int .i64 1),.int .i64 most] aE fun aF Y=>
  I y0 (u5 aF 0) Y fun aG=>
  I y0 (u5 aF 1) Y fun a2=>
  I y0 (U .gtr ae false true aG (.int .i64 32)) Y fun a6=>
  O y0 fx [.pointer (some ⟨g,0,none⟩),a6,a2] Y fun bN ba=>
  aa y0 (u9 af 1 #[(0,aG)]) ba fun bb bc=>
  aa y0 (r9 #[af,af] af #[sizes,bb]) bc fun bd aH=>
  I y0 (U .add ae false true i (.int .i64 1)) aH fun be=>
  k bd be aH) (az sizes aE)) fun ah=>
  I y0 (U .lss ae false false i (.int .i64 (N:Int))) ac fun bf=>
  Split bf (O y0 ed [.pointer (some ⟨g,0,none⟩)] ac fun bg bh=>
  ah bg bh)
   (ah (.bool false) ac):=by
 obtain⟨bO,aI,bQ,bi,bj⟩:=h.side;have ay:∀ r,bt g gs A r→r<w.heap.size:=bi;unfold ap at aY;generalize bk:ew (eO most) N [] s=aJ at aD;refine⟨fun out ai W=>∃ (i:Nat) (l:List Int) (so:Option aA) (E:Nat),ai= .int .i64 (i:Int)∧i≤N∧aj (bt g gs A) w W∧aq .i64 ae W E out l∧w.heap.size≤E∧cN W g gs A B clean so∧aJ=ew (eO most) (N-i) l so∧l.length≤100001∧ ∀ st,so=some st→l.length+st.toks.length≤100000,
  fun _ ai _=>N-(bM ai).toNat,⟨0,[],s,w.heap.size,rfl,Z9 _,aj.refl _ _,aq.nil _ _ _ _,o7 _,h,bk.symm,by simp,fun st bl=>?_⟩,?_⟩
 ·subst bl;have:=h.words;simpa using this
 rintro out _ W ⟨i,l,so,E,rfl,bR,ak,aL,bm,aM,Z,bn,aN⟩;refine aZ (fun v aO=>Ext W aO∧((v= .bool true∧i<N∧ ∃ st,so=some st)∨(v= .bool false∧(so=none∨i=N)))) ?_ ?_
 rotate_left
 ·intro ah al;rw[au,ag];refine⟨fun bo=>?_,fun bS=>al _ _ ⟨Ext.refl _,.inr ⟨rfl,.inr (by omega)⟩⟩⟩;refine (ni aM).mono ?_;rintro _ aO _ ⟨rfl,aP⟩;cases so with
  |none=>exact al _ _ ⟨aP,.inr ⟨rfl,.inl rfl⟩⟩
  |some st=>exact al _ _ ⟨aP,.inl ⟨rfl,by omega,st,rfl⟩⟩
 rintro _ bq ⟨X,br⟩;have aQ:=aL.ext X;have aR:=aM.ext X;rcases br with⟨rfl,bo,st,rfl⟩|⟨rfl,bu⟩
 rotate_left
 ·rw[aT];have aS:aJ=so.map fun st=>(l,st):=by
   rcases bu with rfl|rfl
   ·exact Z
   ·rw[W3] at Z;rw[Z];cases so <;> rfl
  refine aD out bq l so E (ak.trans (X.ad _)) aR aQ bm bn (fun q J=>?_) fun aV=>?_
  ·rw[aS] at J;cases so with
   |none=>cases J
   |some st=>cases J;exact⟨rfl,rfl⟩
  ·rw[aS] at aV;cases so with
   |none=>rfl
   |some st=>cases aV
 rw[bP];have aN:=aN st rfl;refine (jz (s:=some st) aR).mono ?_;rintro _ bT _ ⟨am,z,at_,rfl,bw,bU⟩;obtain⟨ao,bx⟩:=am.of;rw[aC (v:=.int .i64 z) rfl,aC (v:=.int .i64 at_) rfl,bV];refine (pU bx).mono ?_;rintro _ bW _ am;obtain⟨ax,bz⟩:=am.of;refine dW af.u ae.i rfl fun a bY bA bZ ab bB=>?_;have b1:=ak.size;have b2:=X.size;have z3:=ao.size;have z4:=ax.size;have z5:=ab.size;have aW:∀ r,leads out r→¬bt g gs A r:=fun r V bC=>by have:=ay r bC;have:=(bX aL V).1;omega
 have bD:=bp (bp aQ ao aW) ax aW;refine hb af.u ae.i rfl (bD.ext ab) bB.ls (by simp;omega) (by simp;omega) fun b3 bE bF b4 bG aX=>?_;rw[aK,wrap_i64 (by omega) (by omega)];have bH:aj (bt g gs A) w bA:=((((ak.trans (X.ad _)).trans ao).trans ax).trans (ab.ad _));have bI:aj (bt g gs A) w bF:=fB bH aX fun r V he=>by have he:r=E:=he;omega
 have bJ:∀ r,bt g gs A r→¬(fun r=>r=E) r:=fun r V he=>by have:=ay r V;have he:r=E:=he;omega
 have bK:∀ r,cd g gs A B r→¬(fun r=>r=E) r:=fun r V he=>by have:=bj r V.2;have he:r=E:=he;omega
 refine⟨⟨i+1,l++[z],_,bE,rfl,by omega,bI,bG,by omega,(bz.ext ab).ad aX bJ bK,?_,by simp;omega,fun b5 bL=>?_⟩,by simp only[bM];omega⟩
 ·rw[Z,show N-i=(N-(i+1))+1 by omega,xZ];unfold eO;cases J:a7 1 most st with
  |none=>have e:aU 1 most (some st)=none:=J;rw[e];rfl
  |some q=>
   have e:aU 1 most (some st)=some q:=J;have:=bw q e;subst this;rw[e];rfl
 ·obtain⟨b6,aI,rfl⟩:=Z3.1 bL;obtain⟨q,J,rfl⟩:=Z3.1 aI;have h1:=(c3 (n:=q.1) (s':=q.2) J).1;simp only[o5,T0];show l.length+1+q.2.toks.length≤100000;omega
theorem DI {sizes:List Int} {acc:List (List Int×Int)} {s s':aA} {a:List Int×Int} (h:df sizes acc s=some (a,s')):s'.told=s.told∧s'.big=s.big:=by
 obtain⟨_,_,_,E⟩:=m8 h;exact⟨E.eqs.1,E.eqs.2.1⟩
theorem DJ {sizes:List Int} {s s':aA} {l:List (List Int×Int)} (hi:dh s) (h:dg sizes s=some (l,s')):dh s'∧(s.big=true→s'.big=true):=by
 have e:=xv sizes (some s);rw[show gG sizes (some s)=dg sizes s from rfl,h] at e;cases O:aU (-ap) ap (some s) with
 |none=>rw[O] at e;cases e
 |some q=>
  obtain⟨n,I⟩:=q;rw[O] at e;simp only at e;have h1:=(c3 (n:=n) (s':=I) O).eqs;have W:dh I:=fun E=>by rw[h1.1];rw[h1.2.1] at E;exact hi E
  split at e
  ·cases V:I.shared[(-n-1).toNat]? with
   |none=>rw[V] at e;cases e
   |some q=>
    obtain⟨z,l'⟩:=q;rw[V] at e;simp only at e;split at e
    ·cases e;exact⟨W,fun E=>by rw[h1.2.1];exact E⟩
    ·cases e
  ·have:=ig (f:=df sizes) (fun acc t=>t.told=(hG n I).told∧t.big=(hG n I).big) (fun acc t a X ⟨U,J⟩ g=>by
    have:=DI g;exact⟨by rw[this.1,U],by rw[this.2,J]⟩) n.toNat [] _ l s' ⟨rfl,rfl⟩ e.symm
   obtain⟨⟨U,J⟩,_⟩:=this;refine⟨fun E=>by rw[U];rw[J] at E;exact C4 n I E,fun E=>?_⟩;rw[J];show (I.big||_)=true;rw[h1.2.1,E];rfl
theorem DK {all:List Int} {s s':aA} {x:ca} (hi:dh s) (h:cC all s=some (x,s')):dh s'∧s'.toks.length<s.toks.length:=by
 unfold cC at h;cases O:a7 (-ap) ap s with
 |none=>rw[O] at h;cases h
 |some q=>
 obtain⟨a,ab⟩:=q;rw[O] at h;simp only at h;have t0:=c3 O;cases h1:dY all.length a.natAbs ab with
 |none=>rw[h1] at h;cases h
 |some q=>
 obtain⟨sc,I⟩:=q;rw[h1] at h;simp only at h;obtain⟨U,_⟩:=te h1;generalize sc.map (fun v=>all.getD v.toNat 0)=sizes at h;cases V:a7 0 ap (aY (decide (6<a.natAbs)||cS sizes) I) with
 |none=>rw[V] at h;cases h
 |some q=>
 obtain⟨other,W⟩:=q;rw[V] at h;simp only at h;have X:=c3 V;have ac:dh W:=fun E=>by
  rw[X.eqs.1];rw[X.eqs.2.1] at E;have E:(I.big||_)=false:=E;have Z:=(U5.1 E).1;show I.told≤16384;rw[U.eqs.1,t0.eqs.1];rw[U.eqs.2.1,t0.eqs.2.1] at Z;exact hi Z
 cases J:dg sizes W with
 |none=>rw[J] at h;cases h
 |some q=>
 obtain⟨lines,Y⟩:=q;rw[J] at h;simp only[Z7,U2] at h;obtain⟨_,rfl⟩:=h;have ad:=DJ ac J;have ag:=xC J;have ah:=t0.1;have ai:=U.1;have aj:I.toks.length=W.toks.length+1:=X.1;have aa:∀ t:aA,t.told=Y.told∧t.big=Y.big∧t.toks=Y.toks→dh t∧t.toks.length<s.toks.length:=fun t ⟨ae,af,a3⟩=>⟨fun E=>by rw[ae];rw[af] at E;exact ad.1 E,by rw[a3];omega⟩;split
 ·exact aa _ ⟨rfl,rfl,rfl⟩
 ·exact aa _ ⟨rfl,rfl,rfl⟩
theorem DL {S R:av} {w:x5} {cs:List x4} {x:fF} (h:ax.rep false S R w cs x):ax.rep (α:=fF) true br R w cs x∧(x4.agg cs.toArray).cells=cs.toArray:=by
 obtain⟨O,d1,W,X,rfl,_,_,_,h1,U,d2,Y,Z,rfl,_,_,_,E,V,d3,aa,ab,rfl,_,_,_,J,I⟩:=h;have h1:ax.rep (α:=List Int) false br R w O x.1:=h1;have E:ax.rep (α:=List Int) false br R w U x.2.1:=E;have J:V=[.int .i64 x.2.2.1]:=J;have I:ax.rep (α:=List (List Int×Int)) false br R w d3 x.2.2.2:=I;refine⟨⟨O,_,br,br,rfl,fun _ h=>h,fun _ h=>h,fun _ _ h _=>h,h1,U,_,br,br,rfl,fun _ h=>h,fun _ h=>h,fun _ _ h _=>h,E,V,d3,br,br,rfl,fun _ h=>h,fun _ h=>h,fun _ _ h _=>h,J,I⟩,?_⟩;obtain⟨u,rfl⟩:=V6.1 (show O.length=1 from ax.len h1);obtain⟨v,rfl⟩:=V6.1 (show U.length=1 from ax.len E);obtain⟨y,rfl⟩:=V6.1 (show d3.length=1 from ax.len I);obtain⟨_,_,_,rfl⟩:=jA h1;obtain⟨_,_,_,rfl⟩:=jA E;obtain⟨_,_,_,rfl⟩:=jA I;subst J;rfl
set_option maxHeartbeats 8000000 in
theorem DM {w0 w:x5} {g gs c:Nat} {A B:av} {o:Option aA} {clean:Bool} {al:x4} {all:List Int} {a6:x4→x5→Prop} (a7:fp w g gs A B clean o) (hi:∀ s,o=some s→dh s) (bO:(c:Int)≤ap)
  (bQ:aH .i64 w al all) (ba:∀ r,leads al r→r≠g∧r≠gs∧r<w.heap.size∧(o≠none→¬A r)) (bR:o≠none→ ∀ z∈all,1≤z∧z≤ap) (bS:all.length≤100001) (bT:eI w) (h1:1<w0.heap.size∧(o≠none→cd g gs A B 1))
  (bb:aj (fun r=>w0.heap.size≤r) w0 w) (bU:w0.heap.size≤g) (bV:w0.heap.size≤gs) (cK:g<w.heap.size∧gs<w.heap.size) (bW:o≠none→ ∀ r,A r→w0.heap.size≤r)
  (bc:∀ am w' acc so Y W bd bf,aj (fun r=>w0.heap.size≤r) w0 w'→w.heap.size≤w'.heap.size→fp w' g gs Y W clean so→ax.rep (α:=List fF) true bd bf w' [am] acc→(∀ r,bd r∨bf r→r≠g∧r≠gs∧r<w'.heap.size)→aH .i64 w' al all→
   (∀ q,ew (fun _ s=>cC all s) c [] o=some q→so=some q.2∧acc=q.1.map fq)→(ew (fun _ s=>cC all s) c [] o=none→so=none)→a6 am w'):
 a8 (.slice none 0 0) (.int .i64 0) w fun funs bg aP bX=>
  aB (α:=x4→x5→Prop) (fun(bY:x4) (bh:x5)=>
   Split bY (O y0 mg [.pointer (some ⟨g,0,none⟩),al] bh fun bZ b1=>
  aa y0 (u9 fb 1 #[(0,bZ)]) b1 fun b2 b3=>
  aa y0 (r9 #[fb,fb] fb #[funs,b2]) b3 fun b4 bi=>
  I y0 (U .add ae false true bg (.int .i64 1)) bi fun b5=>
  bX b4 b5 bi) (a6 funs bh)) fun bj=>
  I y0 (U .lss ae false false bg (.int .i64 (c:Int))) aP fun b7=>
  Split b7 (O y0 ed [.pointer (some ⟨g,0,none⟩)] aP fun b8 b9=>
  bj b8 b9)
   (bj (.bool false) aP):=by
 unfold ap at bO;generalize J:ew (fun _ s=>cC all s) c [] o=bk at bc;have bl:∀ s,o=some s→o≠none:=fun s h=>by rw[h];simp
 refine⟨fun am aQ ah=>∃ (i:Nat) (acc:List fF) (ac:List ca) (so:Option aA) (X ai Z ao:av),aQ= .int .i64 (i:Int)∧i≤c∧aj (fun r=>w0.heap.size≤r) w0 ah∧w.heap.size≤ah.heap.size∧fp ah g gs X ai clean so∧ax.rep true Z ao ah [am] acc∧
   aH .i64 ah al all∧eI ah∧bk=ew (fun _ s=>cC all s) (c-i) ac so∧(∀ r,Z r→w.heap.size≤r∧r<ah.heap.size)∧(∀ r,ao r→r≠g∧r≠gs∧¬Z r)∧
   ∀ s,so=some s→acc=ac.map fq∧dh s∧ac.length+s.toks.length≤100000∧o≠none∧(∀ r,X r→A r∨w.heap.size≤r)∧(∀ r,X r→w0.heap.size≤r)∧(∀ r,B r→ai r)∧(∀ r,Z r→¬ai r∧¬X r)∧(∀ r,ao r→cd g gs X ai r),
  fun _ aQ _=>c-(bM aQ).toNat,⟨0,[],[],o,A,B,br,br,rfl,Z9 _,bb,o7 _,a7,h8,bQ,bT,J.symm,fun _ h=>h.elim,fun _ h=>h.elim,fun s aG=>⟨rfl,hi s aG,?_,bl s aG,fun r E=>.inl E,bW (bl s aG),fun r E=>E,fun _ h=>h.elim,fun _ h=>h.elim⟩⟩,?_⟩
 ·subst aG;have aR:cH w g gs A B s clean:=a7;have:=aR.2.1.words.1;simpa using this
 rintro am _ ah ⟨i,acc,ac,so,X,ai,Z,ao,rfl,cL,cb,cM,bm,cc,aS,bn,aI,ab,ce,bo⟩;refine aZ (fun v bp=>Ext ah bp∧((v= .bool true∧i<c∧ ∃ st,so=some st)∨(v= .bool false∧(so=none∨i=c)))) ?_ ?_
 rotate_left
 ·intro cN aU;rw[au,ag];refine⟨fun bq=>?_,fun cO=>aU _ _ ⟨Ext.refl _,.inr ⟨rfl,.inr (by omega)⟩⟩⟩;refine (xy bm).mono ?_;rintro _ bp _ ⟨rfl,bu⟩;cases so with
  |none=>exact aU _ _ ⟨bu,.inr ⟨rfl,.inl rfl⟩⟩
  |some st=>exact aU _ _ ⟨bu,.inl ⟨rfl,by omega,st,rfl⟩⟩
 rintro _ aq ⟨ak,cg⟩;have cP:=ak.size;have aC:=bm.ext ak;have bw:=c0 cc ak;have bx:aj (fun r=>w0.heap.size≤r) w0 aq:=cb.trans (ak.ad _);rcases cg with⟨rfl,bq,st,rfl⟩|⟨rfl,ch⟩
 rotate_left
 ·rw[aT];have bz:bk=so.map fun st=>(ac,st):=by
   rcases ch with rfl|rfl
   ·exact aI
   ·rw[W3] at aI;rw[aI];cases so <;> rfl
  refine bc am aq acc so X ai Z (fun r=>ao r∧r<aq.heap.size) bx (by omega) aC (ax.mono bw (fun _ _ h=>h) fun r E h=>⟨h,E⟩) (fun r E=>?_) (aS.ext ak) (fun q af=>?_) fun bA=>?_
  ·rcases E with E|E
   ·have:=ab r E;exact⟨by omega,by omega,by omega⟩
   ·have:=ce r E.1;exact⟨this.1,this.2.1,E.2⟩
  ·rw[bz] at af;cases so with
   |none=>cases af
   |some st=>cases af;exact⟨rfl,(bo _ rfl).1⟩
  ·rw[bz] at bA;cases so with
   |none=>rfl
   |some st=>cases bA
 rw[bP];obtain⟨rfl,bB,cQ,aJ,bC,aV,bD,aL,bE⟩:=bo st rfl;have aC:cH aq g gs X ai st clean:=aC;obtain⟨cR,cS,cT,cU,cV⟩:=aC.1;have ci:=h1.2 aJ;have bF:cd g gs X ai 1:=⟨fun J=>by
  rcases J with J|J|J
  ·omega
  ·omega
  ·have:=aV 1 J;omega,bD 1 ci.2⟩
 have bG:∀ r,leads al r→¬bt g gs X r∧r<aq.heap.size:=fun r E=>by
  obtain⟨cj,ck,cl,cm⟩:=ba r E;refine⟨fun J=>?_,by omega⟩;rcases J with J|J|J
  ·exact cj J
  ·exact ck J
  ·rcases bC r J with h|h
   ·exact cm aJ h
   ·omega
 refine (Df aC bB (aS.ext ak) bG (bR aJ) bS (bn.ext ak) bF).mono ?_;rintro _ cn _ ⟨Y,W,cs,aW,rfl,cW,aD,aE,aX,bH,bI,cp,cq⟩;have z3:=aD.size;obtain⟨bJ,cr⟩:=DL cp;refine lm (α:=fF) (a:=aW) (cs:=cs) (A:=br) (R:=cd g gs Y W) fb.u be.i (by decide) cr bJ fun u aM aw _ hu=>?_;have z4:=aw.size;have ct:∀ r,r<aq.heap.size→Z r∨ao r→¬bt g gs X r:=fun r E h J=>by
  rcases h with h|h
  ·have V:=ab r h;rcases J with J|J|J
   ·omega
   ·omega
   ·exact (aL r h).2 J
  ·exact (bE r h).1 J
 have cu:∀ r,r<aq.heap.size→cd g gs X ai r→cd g gs Y W r:=fun r E h=>⟨fun J=>h.1 (J.imp id (Or.imp id fun J=>(aE r J).elim id fun h'=>by omega)),bH r h.2⟩;have cw:dv Z (cd g gs Y W) aM [am] (ac.map fq):=c0 (ax.ad (ax.mono (S':=Z) (R':=fun r=>cd g gs Y W r∧ao r) bw (fun _ _ h=>h) fun r E h=>⟨cu r E (bE r h),h⟩) aD fun r E h=>ct r E (h.imp id fun h=>h.2) |> fun h=>h) aw |> fun h=>ax.mono h (fun _ _ h=>h) fun _ _ h=>h.1;have aN:∀ r,Z r→¬W r:=fun r h aO=>by
  have V:=ab r h;rcases (aX r aO).1 with ay|ay
  ·exact (aL r h).1 ay
  ·have aY:=(ab r h).2;omega
 have cX:(ac.map fq).length=ac.length:=by simp
 refine mS (α:=fF) (a:=aW) (A:=br) fb.u be.i rfl cw hu (c0 bJ aw) (fun r _ cz h=>?_) (by omega) (by omega) fun cY az cA aF=>?_
 ·rcases h with h|h
  ·exact h
  ·exact aN r cz h.2
 have z5:=aF.size;rw[aK,wrap_i64 (by omega) (by omega)];have cB:aj (fun r=>w0.heap.size≤r) w0 aM:=(bx.trans (aD.mono fun r _ J=>by
  rcases J with rfl|rfl|J
  ·exact bU
  ·exact bV
  ·exact aV r J)).trans (aw.ad _)
 have z0:=bb.size;have cD:aj (fun r=>w0.heap.size≤r) w0 az:=cB.trans (aF.mono fun r _ h=>by have:=(ab r h).1;omega);have cE:aH .i64 aM al all:=(hB (aS.ext ak) aD fun r E a n c a1 a2=>(bG r ⟨a,n,c,a1,a2⟩).1 E).ext aw;have cF:aH .i64 az al all:=hB cE aF fun r E a n c a1 a2=>by
  have cl:=(ba r ⟨a,n,c,a1,a2⟩).2.2.1;have:=(ab r E).1;omega
 have cG:eI az:=(((bn.ext ak).ad aD bF.1).ext aw).ad aF fun h=>by have:=(ab 1 h).1;omega
 have bK:fp az g gs Y W clean ((cC all st).map (·.2)):=by
  refine fp.ad (bI.ext aw) aF (fun h=>by have:=ab _ h;omega) (fun r E cZ h=>?_) (fun r E h=>aN r h E.2);have V:=ab r h;rcases E with rfl|rfl|E
  ·omega
  ·omega
  ·rcases aE r E with ay|ay
   ·exact (aL r h).2 ay
   ·omega
 have cI:=ke cA;refine⟨⟨i+1,(ac.map fq)++[aW],ac++((cC all st).map (·.1)).toList,(cC all st).map (·.2),Y,W,fun r=>(Z r∨br r∨aM.heap.size≤r)∧r<az.heap.size,cd g gs Y W,rfl,by omega,cD,by omega,bK,cI,cF,cG,?_,fun r E=>⟨?_,E.2⟩,fun r E=>⟨fun h=>E.1 (.inl h),fun h=>E.1 (.inr (.inl h)),fun h=>?_⟩,fun s' cJ=>?_⟩,by simp only[bM];omega⟩
 ·rw[aI,show c-i=(c-(i+1))+1 by omega,xZ];cases af:cC all st with
  |none=>rfl
  |some q=>rfl
 ·rcases E.1 with h|h|h
  ·exact (ab r h).1
  ·exact h.elim
  ·omega
 ·rcases h.1 with V|V|V
  ·exact aN r V E.2
  ·exact V
  ·have:=(aX r E.2).2;omega
 ·obtain⟨q,af,rfl⟩:=Z3.1 cJ;have V:=DK (s':=q.2) (x:=q.1) bB af;have ay:=cq q af;refine⟨?_,V.1,?_,aJ,fun r E=>?_,fun r E=>?_,fun r E=>bH r (bD r E),fun r E=>⟨fun aO=>?_,fun bL=>?_⟩,fun r E=>E⟩
  ·rw[af,ay];simp
  ·rw[af];simp only[b6,j5,o5,T0];omega
  ·rcases aE r E with h|h
   ·exact bC r h
   ·exact .inr (by omega)
  ·rcases aE r E with h|h
   ·exact aV r h
   ·omega
  ·rcases E.1 with V|V|V
   ·exact aN r V aO
   ·exact V
   ·have:=(aX r aO).2;omega
  ·have c1:fp az g gs Y W clean ((cC all st).map (·.2)):=bK;have bN:=bI;rw[af] at bN;have aR:cH cn g gs Y W q.2 clean:=bN;have bq:=aR.1.2.2.2.1 r (.inr (.inr bL));rcases E.1 with V|V|V
   ·rcases aE r bL with aY|aY
    ·exact (aL r V).2 aY
    ·have:=(ab r V).2;omega
   ·exact V
   ·omega
theorem dh.num {lo hi n:Int} {s s':aA} (I:dh s) (h:a7 lo hi s=some (n,s')):dh s':=fun E=>by
 have h1:=(c3 h).eqs;rw[h1.1];rw[h1.2.1] at E;exact I E
theorem dh.big {b:Bool} {s:aA} (h:dh s):dh (aY b s):=fun E=>by
 have E:(s.big||b)=false:=E;exact h (U5.1 E).1
theorem dh.word {w:List Int} {s s':aA} (h:dh s) (hw:de s=some (w,s')):dh s':=fun E=>by
 have h1:=(re hw).2;rw[h1] at E ⊢;exact h E
theorem DN {most:Int} {N:Nat} {s s':aA} {l:List Int} (hi:dh s) (hm:most≤ap) (h:ck (eO most) N [] s=some (l,s')):dh s'∧(∀ z∈l,1≤z∧z≤ap)∧l.length+s'.toks.length≤s.toks.length:=by
 have:=ig (f:=eO most) (fun acc t=>dh t∧(∀ z∈acc,1≤z∧z≤ap)∧acc.length+t.toks.length≤s.toks.length) (fun acc t a V ⟨h1,J,W⟩ g=>by
  unfold eO at g;cases E:a7 1 most t with
  |none=>rw[E] at g;cases g
  |some q=>
   obtain⟨z,O⟩:=q;rw[E] at g;simp only[Z7,U2] at g;obtain⟨rfl,rfl⟩:=g;have X:=(fQ E).1;have Y:=(c3 E).1;refine⟨(h1.num E).big,fun x I=>?_,?_⟩
   ·rcases n0.1 I with I|I
    ·exact J x I
    ·rw[o9.1 I];omega
   ·simp only[o5,T0];show acc.length+1+O.toks.length≤_;omega) N [] s l s' ⟨hi,fun z U=>(by cases U),by simp⟩ h
 exact this.1
theorem DO {s0:aA} {name sizes:List Int} {n most cnt k:Int} {so6:Option aA}
  (h1:∀ q,de s0=some q→name=q.1)
  (V:∀ q,aU 1 ap (((de s0).map (·.2)).map (aY (decide (64<(name.length:Int)))))=some q→n=q.1)
  (U:∀ q,aU 1 ap (((aU 1 ap (((de s0).map (·.2)).map (aY (decide (64<(name.length:Int)))))).map (·.2)).map (aY (decide (64<n))))=some q→most=q.1)
  (O:∀ q,aU 0 ap ((aU 1 ap (((aU 1 ap (((de s0).map (·.2)).map (aY (decide (64<(name.length:Int)))))).map (·.2)).map (aY (decide (64<n))))).map (·.2))=some q→cnt=q.1)
  (J:∀ q,aU 1 ap (((aU 0 ap ((aU 1 ap (((aU 1 ap (((de s0).map (·.2)).map (aY (decide (64<(name.length:Int)))))).map (·.2)).map (aY (decide (64<n))))).map (·.2))).map (·.2)).map (aY (decide (256<cnt))))=some q→k=q.1)
  (I:∀ q,ew (eO most) n.toNat [] (((aU 1 ap (((aU 0 ap ((aU 1 ap (((aU 1 ap (((de s0).map (·.2)).map (aY (decide (64<(name.length:Int)))))).map (·.2)).map (aY (decide (64<n))))).map (·.2))).map (·.2)).map (aY (decide (256<cnt))))).map (·.2)).map (aY (decide (2147483648<k))))=some q→so6=some q.2∧sizes=q.1)
  (E:ew (eO most) n.toNat [] (((aU 1 ap (((aU 0 ap ((aU 1 ap (((aU 1 ap (((de s0).map (·.2)).map (aY (decide (64<(name.length:Int)))))).map (·.2)).map (aY (decide (64<n))))).map (·.2))).map (·.2)).map (aY (decide (256<cnt))))).map (·.2)).map (aY (decide (2147483648<k))))=none→so6=none):
  fP s0=(ew (fun _ s=>cC sizes s) cnt.toNat [] so6).map fun q=>((⟨name,k,sizes,q.1⟩:bS),q.2):=by
 unfold fP;cases aa:de s0 with
 |none=>
  rw[aa] at E;rw[E rfl];rfl
 |some ak=>
 obtain⟨aF,al⟩:=ak;rw[aa] at h1 V U O J I E;have:=h1 _ rfl;subst this;have am:decide (64<(name.length:Int))=decide (64<name.length):=by rw[X8,decide_eq_true_eq,decide_eq_true_eq];omega
 rw[am] at V U O J I E;simp only[b6] at V U O J I E ⊢;generalize aY (decide (64<name.length)) al=X at*;cases ab:a7 1 ap X with
 |none=>
  rw[show aU 1 ap (some X)=none from ab] at E;rw[E rfl];rfl
 |some ao=>
 obtain⟨aq,ac⟩:=ao;rw[show aU 1 ap (some X)=some (aq,ac) from ab] at V U O J I E;have:=V _ rfl;subst this;simp only[b6] at U O J I E ⊢;generalize aY (decide (64<n)) ac=Y at*;cases ad:a7 1 ap Y with
 |none=>
  rw[show aU 1 ap (some Y)=none from ad] at E;rw[E rfl];rfl
 |some au=>
 obtain⟨av,W⟩:=au;rw[show aU 1 ap (some Y)=some (av,W) from ad] at U O J I E;have:=U _ rfl;subst this;simp only[b6] at O J I E ⊢;cases ae:a7 0 ap W with
 |none=>
  rw[show aU 0 ap (some W)=none from ae] at E;rw[E rfl];rfl
 |some aw=>
 obtain⟨ax,af⟩:=aw;rw[show aU 0 ap (some W)=some (ax,af) from ae] at O J I E;have:=O _ rfl;subst this;simp only[b6] at J I E ⊢;generalize aY (decide (256<cnt)) af=Z at*;cases ag:a7 1 ap Z with
 |none=>
  rw[show aU 1 ap (some Z)=none from ag] at E;rw[E rfl];rfl
 |some ay=>
 obtain⟨az,ah⟩:=ay;rw[show aU 1 ap (some Z)=some (az,ah) from ag] at J I E;have:=J _ rfl;subst this;simp only[b6] at I E ⊢;generalize aY (decide (2147483648<k)) ah=aB at*;cases ai:ck (eO most) n.toNat [] aB with
 |none=>
  rw[E ai];rfl
 |some aC=>
 obtain⟨aG,aj⟩:=aC;obtain⟨aD,aE⟩:=I _ ai;subst aE;rw[aD];simp only;show _=X9 _ (ck (fun _ s=>cC sizes s) cnt.toNat [] aj);cases ck (fun _ s=>cC sizes s) cnt.toNat [] aj <;> rfl
theorem DP {N:Nat} {f:bS} (E:eh N f) (V:N≤60000):∀ x∈f.funs,rK f.k x:=fun x J=>by
 obtain⟨h1,O,W⟩:=E.funs x J;refine⟨E.k,⟨?_,fun z I=>?_⟩,h1.other,h1.lines,by have:=h1.len;omega,by omega⟩
 ·rw[h1.sizes,o4];exact O
 ·rw[h1.sizes] at I;obtain⟨v,U,rfl⟩:=l9.1 I;have:=h1.scope.2 v U;refine E.sizes.2.2 _ ?_;rw[p8,x3 (by omega)];exact T1 _
set_option maxHeartbeats 8000000 in
theorem DQ {w:x5} {p:x4} {V:List Int} (al:aH .u8 w p V) (bb:Bytes V) (cc:V.length≤60000) (aE:eI w):O y0 nS [p] w (xY w (fd V)):=by
 have bc:1<w.heap.size:=by
  have:=aE 0 (.int .u64 1) rfl;obtain⟨c,e,f,bd,_⟩:=sG this;exact (l7.1 bd).1
 have cd:ap=4611686018427387904:=rfl;apply nS.enter;rw[aO aV.u al,bV,ag];refine⟨fun h=>by omega,fun _=>?_⟩;refine (vY al bb (by omega)).mono ?_;rintro _ ab _ ⟨aF,gs,rfl,cg,be,am⟩;rw[cW (cs:=#[.pointer (some ⟨gs,0,none⟩),.int .i64 0,.int .i64 0,.int .i64 0,.int .i64 0,.int .i64 0,.slice none 0 0]) (by kernel_rfl)];refine ce fun g ae ch ao aG=>?_;have ci:=aF.size;have cj:=ao.size;have bf:=aG.lt;have ck:gs<ab.heap.size:=am.2.2.2.1.lt;have cl:=ps _ V (o7 _);let s0:aA:=⟨(lex V).1,0,false,[]⟩;let B0:av:=fun r=>r<ab.heap.size;have bg:cH ae g gs br B0 s0 (lex V).2:=by
  refine⟨⟨by omega,fun h=>h,fun h=>h,fun r I=>?_,fun r I=>by have I:r<ab.heap.size:=I;omega⟩,⟨be,V,0,am.ext ao,fun r I=>?_,by rw[List.drop_zero]⟩,⟨by show (0:Int)≤0;omega,by show (0:Int)≤ap;omega,by show (([]:List (List Int×List (List Int×Int))).length+(lex V).1.length≤100000);simp;omega⟩,0,0,0,0,.slice none 0 0,aG,⟨by simp[s0],fun _=>rfl⟩,h8 (α:=gE)⟩
  ·rcases I with rfl|rfl|I
   ·exact bf
   ·omega
   ·exact I.elim
  ·obtain⟨_,_,_,af,cm,hm⟩:=am;have Z:=bX hm I;have aa:=bW hm af (by decide) I;exact⟨fun X=>by
    rcases X with X|X|X
    ·omega
    ·exact aa X
    ·exact X,by show r<ab.heap.size;omega⟩
 have aq:∀ r,bt g gs br r→w.heap.size≤r:=fun r I=>by
  rcases I with rfl|rfl|I
  ·omega
  ·omega
  ·exact I.elim
 refine (wJ bg).mono ?_;rintro _ cn _ ⟨U,name,bh,rfl,cp,cq,bi⟩;obtain⟨bj,bk⟩:=eP.of U;rw[aC (v:=bu name) rfl,aC (v:=.int .i64 bh) rfl,lr a1.u,bV];refine (pU bk).mono ?_;rintro _ cr _ U;obtain⟨bl,bm⟩:=U.of;refine (jz (lo:=1) (hi:=ap) bm).mono ?_;rintro _ ct _ ⟨U,n,bn,rfl,aI,bo⟩;obtain⟨bp,bq⟩:=U.of;rw[aC (v:=.int .i64 n) rfl,aC (v:=.int .i64 bn) rfl,bV];refine (pU bq).mono ?_;rintro _ cu _ U;obtain⟨bw,bx⟩:=U.of;refine (jz (lo:=1) (hi:=ap) bx).mono ?_;rintro _ cw _ ⟨U,most,bz,rfl,aJ,bA⟩;obtain⟨bB,bC⟩:=U.of;rw[aC (v:=.int .i64 most) rfl,aC (v:=.int .i64 bz) rfl];refine (jz (lo:=0) (hi:=ap) bC).mono ?_;rintro _ cz _ ⟨U,cnt,bD,rfl,aK,bE⟩;obtain⟨bF,bG⟩:=U.of;rw[aC (v:=.int .i64 cnt) rfl,aC (v:=.int .i64 bD) rfl,bV];refine (pU bG).mono ?_;rintro _ cA _ U;obtain⟨bH,bI⟩:=U.of;refine (jz (lo:=1) (hi:=ap) bI).mono ?_;rintro _ cB _ ⟨U,k,bJ,rfl,bK,cD⟩;obtain⟨bL,bM⟩:=U.of;rw[aC (v:=.int .i64 k) rfl,aC (v:=.int .i64 bJ) rfl,bV];refine (pU bM).mono ?_;rintro _ aL _ U;obtain⟨bN,au⟩:=U.of;have aM:aj (bt g gs br) ae aL:=(((((((bj.trans bl).trans bp).trans bw).trans bB).trans bF).trans bH).trans bL).trans bN;have ax:∀ {lo:Int} {o:Option aA} {x:Int},0≤lo→lo≤1→(∀ q,aU lo ap o=some q→x=q.1)→(aU lo ap o=none→x=0)→0≤x∧x≤ap:=fun {lo o x} cE h1 W bO=>by
  cases E:aU lo ap o with
  |none=>rw[bO E];omega
  |some q=>
   have Z:=kq (n:=q.1) (s':=q.2) E;rw[W q E];omega
 have cF:=ax (by omega) (by omega) aI bo;have cG:=ax (by omega) (by omega) aK bE;have cI:=ax (by omega) (by omega) aJ bA;obtain⟨N,bP⟩:∃ N:Nat,n=(N:Int):=⟨n.toNat,by omega⟩;obtain⟨C,bQ⟩:∃ C:Nat,cnt=(C:Int):=⟨cnt.toNat,by omega⟩;have bR:n.toNat=N:=by omega
 have bT:cnt.toNat=C:=by omega
 have bU:dh s0:=fun _=>by show (0:Int)≤16384;omega
 have ah:∀ {o:Option aA} {b:Bool},(∀ s,o=some s→dh s)→ ∀ s,o.map (aY b)=some s→dh s:=fun h s W=>by
  obtain⟨t,ay,rfl⟩:=Z3.1 W;exact (h t ay).big
 have ai:∀ {o:Option aA} {lo hi:Int},(∀ s,o=some s→dh s)→ ∀ s,(aU lo hi o).map (·.2)=some s→dh s:=fun {o lo hi} h s W=>by
  obtain⟨q,E,rfl⟩:=Z3.1 W;cases o with
  |none=>cases E
  |some t=>exact (h t rfl).num (n:=q.1) (s':=q.2) E
 have bY:∀ s,(de s0).map (·.2)=some s→dh s:=fun s W=>by
  obtain⟨q,E,rfl⟩:=Z3.1 W;exact bU.word (w:=q.1) (s':=q.2) E
 have aN:=ah (b:=decide (2147483648<k)) (ai (lo:=1) (hi:=ap) (ah (b:=decide (256<cnt)) (ai (lo:=0) (hi:=ap) (ai (lo:=1) (hi:=ap) (ah (b:=decide (64<n)) (ai (lo:=1) (hi:=ap) (ah (b:=decide (64<(name.length:Int))) bY)))))));have J:=fun(sizes:List Int) (so6:Option aA)=>DO (s0:=s0) (name:=name) (sizes:=sizes) (n:=n) (most:=most) (cnt:=cnt) (k:=k) (so6:=so6) bi aI aJ aK bK;rw[bR] at J;generalize cJ:X9 (aY (decide (2147483648<k))) (X9 (fun x=>x.2) (aU 1 ap (X9 (aY (decide (256<cnt))) (X9 (fun x=>x.2) (aU 0 ap (X9 (fun x=>x.2) (aU 1 ap (X9 (aY (decide (64<n))) (X9 (fun x=>x.2) (aU 1 ap (X9 (aY (decide (64<(name.length:Int)))) (X9 (fun x=>x.2) (de s0)))))))))))))=aP at aN au J;rw[bP];refine DH (N:=N) (most:=most) au (by omega) fun aw az sizes so6 cK bZ aQ aR cL b1 aS aT=>?_;have J:=J sizes so6 aS aT;rw[bT] at J;have aB:aj (bt g gs br) ae az:=aM.trans bZ;have z12:=aB.size;have aW:Ext w ae:=aF.trans ao;have b2:aj (fun r=>w.heap.size≤r) w az:=(aW.ad _).trans (aB.mono fun r _ h=>aq r h);have cM:=aQ.side;have aX:∀ ac,so6=some ac→dh ac∧(∀ z∈sizes,1≤z∧z≤ap)∧sizes.length≤100000:=fun ac aD=>by
  cases E:ew (eO most) N [] aP with
  |none=>rw[aT E] at aD;cases aD
  |some q=>
   obtain⟨Z,aa⟩:=aS q E;cases aD.symm.trans Z;subst aa;cases aP with
   |none=>cases E
   |some b3=>
    obtain⟨b4,b5,cN⟩:=DN (l:=q.1) (s':=q.2) (aN b3 rfl) (by omega) E;exact⟨b4,b5,by have:=au.words;omega⟩
 rw[bQ];have aZ:∀ r,leads aw r→aL.heap.size≤r∧r<az.heap.size:=fun r I=>by have:=bX aR I;omega
 have cO:=aM.size;refine DM (w0:=w) (c:=C) (all:=sizes) aQ.q (fun s W=>(aX s W).1) (by omega) aR.ls (fun r I=>?_) (fun ak=>?_) b1 ((aE.ext aW).ad aB fun X=>by have:=aq 1 X;omega) ⟨bc,fun _=>⟨fun X=>by have:=aq 1 X;omega,by show 1<ab.heap.size;omega⟩⟩
  b2 (by omega) (by omega) ⟨by omega,by omega⟩ (fun _ r h=>h.elim) fun cP cQ acc so cR cS cT cU a2 cV b6 b7 b8 b9 a6 ca=>?_
 ·have:=aZ r I;exact⟨by omega,by omega,by omega,fun _ h=>h⟩
 ·cases a7:so6 with
  |none=>exact absurd a7 ak
  |some ac=>exact (aX ac a7).2.1
 have cX:=a2.size;have Y:fd V=match fP s0 with
   |none=>none
   |some (f,s)=>if s.toks=[]∧(lex V).2=true∧s.big=false then some f else none:=by
  unfold fd;rw[if_neg (by omega)];have e:fP ⟨(lex V).1,0,false,[]⟩=fP s0:=rfl;rw[e];cases fP s0 <;> rfl
 refine DG (w0:=w) (sizes:=sizes) (res:=fd V) b6 ⟨fun s W ay cb af=>?_,fun ak=>?_⟩ b9 (fun r I=>by have:=aZ r I;exact⟨by omega,by omega⟩) b7 b8 (fun _=>trivial) (by omega) (by omega) a2 (by omega) (by omega) al fun v w' h=>h
 ·cases E:ew (fun _ s=>cC sizes s) C [] so6 with
  |none=>rw[ca E] at W;cases W
  |some q=>
   obtain⟨Z,aa⟩:=a6 q E;cases W.symm.trans Z;rw[E] at J;have J:fP s0=some ((⟨name,k,sizes,q.1⟩:bS),q.2):=J;have a8:=(wG rfl J af).1;rw[J] at Y;simp only at Y;rw[if_pos ⟨ay,cb,af⟩] at Y;exact⟨q.1,aa,Y,DP a8 (by show (lex V).1.length≤60000;omega),a8.iR,by omega⟩
 ·cases E:ew (fun _ s=>cC sizes s) C [] so6 with
  |none=>
   rw[E] at J;have J:fP s0=none:=J;rw[J] at Y;exact absurd Y ak
  |some q=>
   obtain⟨Z,aa⟩:=a6 q E;rw[E] at J;have J:fP s0=some ((⟨name,k,sizes,q.1⟩:bS),q.2):=J;rw[J] at Y;simp only at Y;by_cases ba:q.2.toks=[]∧(lex V).2=true∧q.2.big=false
   ·exact⟨q.2,Z,ba⟩
   ·rw[if_neg ba] at Y;exact absurd Y ak
theorem tF (s t cs:List Int):∃ e,mV s t cs= .tuple #[.int .i64 (cn s cs t),.int .i64 e]:=by
 unfold mV cn;cases cg s t 0 with
 |none=>exact⟨3,rfl⟩
 |some n=>exact⟨0,rfl⟩
theorem DR {sv:x4} {w:x5}:O y0 j7 [sv] w fun r w'=>Ext w w'∧ ∃ g,r= .func (.func h2) #[] #[.pointer (some ⟨g,0,none⟩)]∧w.heap.size≤g∧ak w' g ab sv.cells.toList:=by
 apply j7.enter;refine ce fun g J U E I=>?_;rw[pm];exact⟨E,g,rfl,by omega,I⟩
theorem DS {f:FuncId} {cap:Array x4} {n:Nat} {aa:Nat→List x4→x5→Prop} {E:x5→Prop} {L:List Int} {w:x5} (av:nH y0 f cap.toList n aa E) (ac:∀ k vs w,aa k vs w→ ∃ x,L[k]? =some x∧vs=[.int .i64 x])
  (hE:∀ a b,aj (fun r=>w.heap.size≤r) a b→E a→E b) (aw:E w) (ax:n=L.length) (aN:L.length≤1000000):
  O y0 mo [.slice none 0 0,.func (.func f) #[] cap] w fun v w'=>Ext w w'∧ ∃ g,w.heap.size≤g∧aq .i64 J w' g v L:=by
 apply mo.enter;refine ce fun gs ay aO ae U=>?_;have U:ak ay gs ab [.slice none 0 0]:=U;have aP:=U.lt;have af:∀ {a b:x5},Ext a b→E a→E b:=fun I=>hE _ _ (I.ad _);refine⟨Nat,false,f,cap,0,_,_,E,fun k w'=>aj (fun r=>w.heap.size≤r) w w'∧ ∃ v g,gs<g∧ak w' gs ab [v]∧aq .i64 J w' g v (L.take k),fun _ _ _=>False,rfl,av.s,?_,fun _ _ I h=>af I h,
  fun _ _ _ I h=>⟨h.1.trans (I.ad _),by obtain⟨v,g,h1,az,aA⟩:=h.2;exact⟨v,g,h1,az.ext I,aA.ext I⟩⟩,fun _ _ _ _ _ h=>h,af ae aw,⟨ae.ad _,_,gs+1,by omega,U,aq.nil _ _ _ _⟩,?_,?_,fun _ _ h=>h.elim,fun _ _ _ h=>h.elim⟩
 ·rintro k vs aQ w' ⟨_,_,h⟩;obtain⟨x,_,rfl⟩:=ac k vs w' h;rfl
 ·rintro a k _ ag haB ⟨V,rfl,aC⟩ ⟨aD,v,g,aE,ah,W⟩;obtain⟨x,I,aF⟩:=ac k _ ag aC;cases aF;intro aR X _ _;have al:=ah.ext X;rw[ai (by kernel_rfl) (al.cell (o:=0) rfl)];refine dW ab.u J.i rfl fun a aS aT aU Y aG=>?_;have aV:(L.take k).length≤1000000:=by simp;omega
  refine hb ab.u J.i rfl ((W.ext X).ext Y) aG.ls (by simp only[c8,List.length_nil];omega) (by simp only[c8,List.length_nil];omega) fun aH aI aW aX Z am=>?_;have aY:=ah.lt;have aZ:=X.size;have a1:=Y.size;refine bE ab.i Z.ls.cells.1 Z.ls.cells.2 (((al.ext Y).ad am (by omega))) (by simp) fun aJ ao a2 aK=>?_;have ap:aj (fun r=>w.heap.size≤r) ag aJ:=(((X.trans Y).ad _).trans (am.mono fun r _ h=>by show w.heap.size≤r;omega)).trans (ao.mono fun r _ h=>by show w.heap.size≤r;omega);refine⟨hE _ _ ap haB,⟨aD.trans ap,aH,aI,by omega,aK,?_⟩,fun h=>by cases h⟩;rw[o3,I];exact Z.ad ao (fun _=>by omega)
 ·rintro k a6 V ⟨aL,v,g,aE,aM,W⟩;have V:k=n:=V;subst V;rw[ai (by kernel_rfl) (aM.cell (o:=0) rfl)];intro a7 au _;rw[ax,l5] at W;exact⟨(aL.ext fun r a8 h=>by have:w.heap.size≤r:=h;omega).trans au,g,by omega,W.ext au⟩
theorem DT {f:FuncId} {cap:Array x4} {n:Nat} {I:Nat→List x4→x5→Prop} {E:x5→Prop} {L:List Int} {w:x5} (U:nH y0 f cap.toList n I E) (V:∀ k vs w,I k vs w→ ∃ x,L[k]? =some x∧vs=[.int .i64 x])
  (hE:∀ a b,aj (fun r=>w.heap.size≤r) a b→E a→E b) (W:E w) (X:n=L.length) (Y:L.length≤1000000):
  O y0 n3 [.func (.func f) #[] cap] w fun v w'=>Ext w w'∧ ∃ g,w.heap.size≤g∧aq .i64 J w' g v L:=by
 apply n3.enter;exact (DS U V hE W X Y).mono fun _ _ _ h=>h
theorem DU {x y:Int} {w:x5}:O y0 cmp_Less_int [.int .i64 x,.int .i64 y] w fun v w'=>v= .bool (decide (x<y))∧Ext w w':=by
 apply cmp_Less_int.enter;refine aZ (fun v E=>v= .bool (decide (x<y))∧Ext w E) (fun _ _ h=>h) fun V I=>?_;have J:∀ {z:Int} {w:x5},O y0 cmp_isNaN_int [.int .i64 z] w fun v w'=>v= .bool false∧Ext w w':=fun {z w}=>by
  apply cmp_isNaN_int.enter;simp only[bN];exact⟨by simp,Ext.refl _⟩
 refine J.mono ?_;rintro _ W _ ⟨rfl,U⟩;rw[aT];simp only[au];exact I _ _ ⟨rfl,U⟩
theorem DV {P:X1} {w:x5} {t:o6} {cx cy:Bool} {k:o8} {a b:Int}:al P (U .sub t cx cy (.int k a) (.int k b)) (.int k (k.wrap (a-b))) w:=fun w' _=>by simp[U,eqGuard,binOp,Op.intArith]
theorem DW {sv:x4} {l:List Int} {g:Nat} {w:x5} (h:aq .i64 J w g sv l) (aI:l.length≤1000000):
  O y0 pf [sv,.int .i64 0,.int .i64 l.length] w fun _ w'=>aj (fun r=>r=g) w w'∧ ∃ m,m.Perm l∧m.Pairwise (·≤ ·)∧aq .i64 J w' g sv m:=by
 apply pf.enter;simp only[aK];refine⟨fun t Z=>∃ (i:Nat) (m:List Int),t= .int .i64 i∧1≤i∧(i≤l.length∨i=1)∧m.Perm l∧pE m i∧aj (fun r=>r=g) w Z∧aq .i64 J Z g sv m,fun t _=>l.length+1-(bM t).toNat,
  ⟨1,l,by congr 1,by omega,.inr rfl,.refl _,fun p q x y h1 av=>by omega,aj.refl _ _,h⟩,?_⟩
 rintro _ Z ⟨i,m,rfl,aJ,aL,U,af,ah,hm⟩;have aw:=U.length_eq;simp only[au,ag];refine⟨fun ax=>?_,fun aM=>?_⟩
 ·have ax:i<l.length:=by omega
  refine⟨fun t W=>∃ (j:Nat) (m:List Int),t= .int .i64 j∧j≤i∧m.Perm l∧m4 m i j∧aj (fun r=>r=g) w W∧aq .i64 J W g sv m,fun t _=>(bM t).toNat,⟨i,m,rfl,o7 _,U,BH af,ah,hm⟩,?_⟩;rintro _ W ⟨j,m,rfl,ay,U,aa,ai,hm⟩;have aw:=U.length_eq;refine aZ (fun v ak=>Ext W ak∧ ∃ c,v= .bool c∧(c=true→0<j∧ ∃ a b,m[j-1]? =some a∧m[j]? =some b∧b<a)∧(c=false→j=0∨0<j∧ ∃ a b,m[j-1]? =some a∧m[j]? =some b∧a≤b)) ?_ ?_
  ·rintro _ ak ⟨X,c,rfl,az,aA⟩;rw[cE];refine⟨fun h=>?_,fun h=>?_⟩
   ·obtain⟨V,a,b,E,I,ac⟩:=az h;intro aN al _ _;have Y:=(hm.ext X).ext al;have e:Y9.wrap ((j:Int)-1)=((j-1:Nat):Int):=by rw[wrap_i64 (by omega) (by omega)];omega
    simp only[dD,e];rw[bm ab.u J.i (by kernel_rfl) Y.ls E,bm ab.u J.i (by kernel_rfl) Y.ls I,gB rfl ab.u J.i Y (by omega)];refine gC J.i Y (by omega) fun aB aC aO am=>⟨.inr ⟨by have:=DV (P:=y0) (w:=aB) (t:=J) (cx:=false) (cy:=true) (k:=.i64) (a:=(j:Int)) (b:=1);rwa [e] at this,trivial⟩,?_⟩;rw[gB rfl ab.u J.i am (by simp;omega)];refine gC J.i am (by simp;omega) fun aP aD aQ aE=>?_;refine⟨⟨j-1,_,rfl,by omega,(swap_perm (by omega) E I).trans U,BK aa V ay E I ac,((ai.trans ((X.trans al).ad _)).trans aC).trans aD,aE⟩,?_⟩;simp only[bM];omega
   ·simp only[aK];rw[wrap_i64 (by omega) (by omega)];refine⟨⟨i+1,m,rfl,by omega,.inl (by omega),U,?_,ai.trans (X.ad _),hm.ext X⟩,?_⟩
    ·rcases aA h with rfl|⟨V,a,b,E,I,ac⟩
     ·exact BI aa
     ·exact BJ aa V E I ac
    ·simp only[bM];omega
  ·intro aR ao aS ae _ _;have ap:=hm.ext ae;simp only[bV,ag];refine⟨fun V=>?_,fun V=>ao _ _ ⟨ae,false,rfl,(fun h=>by cases h),fun _=>.inl (by omega)⟩⟩;have e:Y9.wrap ((j:Int)-1)=((j-1:Nat):Int):=by rw[wrap_i64 (by omega) (by omega)];omega
   obtain⟨b,I⟩:∃ b,m[j]? =some b:=⟨_,x3 (by omega)⟩;obtain⟨a,E⟩:∃ a,m[j-1]? =some a:=⟨_,x3 (by omega)⟩;rw[bm ab.u J.i (by kernel_rfl) ap.ls I];simp only[dD,e];rw[bm ab.u J.i (by kernel_rfl) ap.ls E];refine DU.mono ?_;rintro _ aT _ ⟨rfl,aF⟩;refine ao _ _ ⟨ae.trans aF,_,rfl,fun h=>⟨by omega,a,b,E,I,by simpa using h⟩,fun h=>.inr ⟨by omega,a,b,E,I,by simpa using h⟩⟩
 ·refine⟨ah,m,U,BL fun p q x y h1 av aG aH=>af p q x y h1 (by omega) aG aH,hm⟩
theorem DX {P:X1} {w:x5} {t:o6} {k:o8} {s:ByteArray} {i:Nat} {K:x4→Prop} (E:P.underlying t=some .string) (hi:i<s.size) (J:∀ b:Nat,b<256→K (.int .u8 b)):
  I P (Y0 t (.string s) (.int k (i:Int))) w K:=by
 have O:s[i]? =some s[i]:=by simp[hi]
 have:I P (Y0 t (.string s) (.int k (i:Int))) w K=K (.int .u8 s[i].toNat):=I.of fun w' _=>by
  simp[Y0,asIntOf,run_underlying E,hi]
 rw[this];exact J _ (UInt8.toNat_lt _)
theorem DY {n:Nat} {w:x5} (E:n<256):O y0 oj [.int .u64 (n:Int)] w fun v w'=>(∃ r,v= .int .i64 r)∧Ext w w':=by
 apply oj.enter;refine O.mono (K:=fun v w'=>(∃ r,v= .int .i64 r)∧Ext w w') ?_ (fun _ _ _ h=>h);apply kZ.enter;simp only[aB,cV,ag];refine⟨fun h=>by omega,fun _=>⟨fun h=>by omega,fun _=>⟨fun h=>by omega,fun _=>?_⟩⟩⟩;rw[fc bD.u bb.u,wrap_u8 (by omega) (by omega)];refine DX a1.u (by exact Nat.lt_of_lt_of_le E (by decide)) fun b I=>?_;rw[fc bb.u J.u];simp only[aK];exact⟨⟨_,rfl⟩,Ext.refl _⟩
theorem DZ {sv:x4} {l:List Int} {g:Nat} {w:x5} (h:aq .i64 J w g sv l) (V:l.length≤12):
  O y0 oW [sv] w fun _ w'=>aj (fun r=>r=g) w w'∧ ∃ m,m.Perm l∧m.Pairwise (·≤ ·)∧aq .i64 J w' g sv m:=by
 apply oW.enter;rw[aO ab.u h.ls,fc J.u hv.u,wrap_u64 (by omega) (by omega)];refine (DY (n:=l.length) (by omega)).mono ?_;rintro _ E _ ⟨⟨r,rfl⟩,I⟩;refine O.mono (K:=fun _ w'=>aj (fun r=>r=g) E w'∧ ∃ m,m.Perm l∧m.Pairwise (·≤ ·)∧aq .i64 J w' g sv m) ?_ (fun _ _ _ h=>⟨(I.ad _).trans h.1,h.2⟩);apply mK.enter;refine⟨fun a b _ _ _ U=>a= .int .i64 0∧b= .int .i64 l.length∧E=U,fun _ _ _ _ _ _=>0,⟨rfl,rfl,rfl⟩,?_⟩;rintro _ _ _ _ _ _ ⟨rfl,rfl,rfl⟩;simp only[dD,pk,ag];rw[wrap_i64 (by omega) (by omega)];refine⟨fun _=>?_,fun h=>by omega⟩;refine (DW (h.ext I) (by omega)).mono ?_;exact fun _ _ _ h=>h
theorem D0 {f:FuncId} {cap:Array x4} {n:Nat} {I:Nat→List x4→x5→Prop} {E:x5→Prop} {L:List Int} {w:x5} (U:nH y0 f cap.toList n I E) (V:∀ k vs w,I k vs w→ ∃ x,L[k]? =some x∧vs=[.int .i64 x])
  (hE:∀ a b,aj (fun r=>w.heap.size≤r) a b→E a→E b) (W:E w) (X:n=L.length) (Y:L.length≤12):
  O y0 j3 [.func (.func f) #[] cap] w fun v w'=>Ext w w'∧ ∃ g m,w.heap.size≤g∧m.Perm L∧m.Pairwise (·≤ ·)∧aq .i64 J w' g v m:=by
 apply j3.enter;refine (DT U V hE W X (by omega)).mono ?_;rintro v af _ ⟨Z,g,aa,ab⟩;refine (DZ ab Y).mono ?_;rintro _ ag _ ⟨ac,m,h1,ad,ae⟩;exact⟨Z.then ac (by rintro r ah rfl;omega),g,m,aa,h1,ad,ae⟩
theorem x0 {sv:x4} {l:List Int} {x:Int} {w:x5} (h:aH .i64 w sv l):
  O y0 hZ [sv,.int .i64 x] w fun v w'=>Ext w w'∧ ∃ r:Int,v= .int .i64 r∧ ∀ i:Nat,l[i]? =some x→(r=i↔ ∀ j,j<i→l[j]? ≠some x):=by
 apply hZ.enter;rw[aO ab.u h];refine a8.range l.length (fun i _ U=>Ext w U∧ ∀ j,j<i→l[j]? ≠some x) h.le ⟨Ext.refl _,fun j W=>by omega⟩ ?_ ?_
 ·rintro i _ U k hi ⟨E,I⟩ X;simp only[au,ag];refine⟨fun _=>?_,fun h=>by omega⟩;obtain⟨y,V⟩:∃ y,l[i]? =some y:=⟨_,x3 hi⟩;rw[bm ab.u J.i (by kernel_rfl) (h.ext E) V];simp only[bQ,ag,aK];refine⟨fun he=>⟨E,i,rfl,fun q Y=>?_⟩,fun he=>X _ _ ⟨E,fun j W=>?_⟩⟩
  ·subst he;refine⟨fun ac=>by
              have:i=q:=by omega
              subst this;exact I,fun Z=>?_⟩
   rcases Nat.lt_trichotomy i q with h1|h1|h1
   ·exact absurd V (Z i h1)
   ·omega
   ·exact absurd Y (I q h1)
  ·by_cases aa:j=i
   ·subst aa;rw[V];intro h;exact he (b9 h).symm
   ·exact I j (by omega)
 ·rintro _ U k ⟨E,I⟩;simp only[au,ag];refine⟨fun h=>by omega,fun _=>⟨E,-1,rfl,fun i hi=>?_⟩⟩;exact absurd hi (I i (x6.1 hi).1)
theorem D1 {g:Nat} {sv:x4} {l:List Int} {w0:x5} (W:ak w0 g ab [sv]) (O:aH .i64 w0 sv l):
  nH y0 h2 [.pointer (some ⟨g,0,none⟩)] l.length (fun k vs _=>∃ x,l[k]? =some x∧vs=[.int .i64 x]) (fun w=>Ext w0 w):=by
 refine⟨h2.enters,fun y X af w ah _ Y E Z=>?_⟩;apply h2.enter;rw[ai (by kernel_rfl) ((W.ext E).cell (o:=0) rfl),aO ab.u (O.ext E)];refine bc.range l.length (fun i I=>X i I∧Ext w0 I) O.le ⟨Z,E⟩ ?_ ?_
 ·rintro i I k hi ⟨U,V⟩ aa;simp only[au,ag];refine⟨fun _=>?_,fun h=>by omega⟩;obtain⟨x,E⟩:∃ x,l[i]? =some x:=⟨_,x3 hi⟩;rw[bm ab.u J.i (by kernel_rfl) (O.ext V) E];refine⟨rfl,(Y i _ I hi V ⟨x,E,rfl⟩ U).mono ?_⟩;rintro _ aj (⟨rfl,ac,ad⟩|⟨rfl,ae⟩)
  ·simp only[b3,Y1,aT,aK];exact aa _ ⟨ad.1,ac⟩
  ·simp only[b3,X0,bP];exact .inr ⟨i,hi,ae⟩
 ·rintro I k ⟨U,_⟩;simp only[au,ag];exact⟨fun h=>by omega,fun _=>.inl U⟩
theorem tG {sv:x4} {l:List Int} {w:x5} {K:x4→x5→Prop} (h:aH .i64 w sv l) (V:l.length≤12)
  (W:∀ v w' g m,Ext w w'→w.heap.size≤g→m.Perm l→m.Pairwise (·≤ ·)→aq .i64 J w' g v m→K v w'):
  O y0 j7 [sv] w fun t I=>O y0 j3 [t] I K:=by
 refine DR.mono ?_;rintro _ I _ ⟨U,g,rfl,af,E⟩;have E:ak I g ab [sv]:=by rw[h.cells.1] at E;exact E
 refine (D0 (D1 E (h.ext U)) (fun _ _ _ h=>h) (fun a b X Y=>Y.then X (fun r ag h=>by omega)) (Ext.refl _) rfl V).mono ?_;rintro v Z _ ⟨aa,ac,m,ah,h1,ad,ae⟩;have:=U.size;exact W v Z ac m (U.trans aa) (by omega) h1 ad ae
def D2 (w:x5) (an:List Int) (k:Int) (cs E:List Int) (v:x4) (w':x5):Prop:=
 Ext w w'∧
  (¬Good E an.length→v= .tuple #[.pointer none,.int .i64 1])∧
  (Good E an.length→ ∃ I J O,v= .tuple #[.pointer (some ⟨I,0,none⟩),.int .i64 0]∧cG w' I J O (dA an E) k (lw an cs E))
set_option maxHeartbeats 1000000 in
theorem D3 {w:x5} {g bV:Nat} {sv aD:x4} {an:List Int} {k:Int} {cs E:List Int} (h:cG w g bV sv an k cs) (bW:right k) (ap:aH .i64 w aD E) (cL:E.length≤12) (cM:Good E an.length→aG (dA an E)≤4096):
  O y0 mF [.pointer (some ⟨g,0,none⟩),aD] w (D2 w an k cs E):=by
 have aY:=h;have cN:=h.2.2.1;have cO:=ap.cells;apply mF.enter;refine ce fun bX dr ds bY V=>?_;refine ce fun bZ b1 dt bk I=>?_;have du:=bY.size;have dv:=bk.size;have dw:=V.lt;have dx:=I.lt;have bl:=bY.trans bk;have V:ak b1 bX bA [.pointer (some ⟨g,0,none⟩)]:=V.ext bk;have I:ak b1 bZ ab [aD]:=by rw[cO.1] at I;exact I
 rw[ai (by kernel_rfl) (V.cell (o:=0) rfl),cZ bA.u];simp only[b8,aT];rw[ai (by kernel_rfl) (I.cell (o:=0) rfl)];have cP:=ap.ext bl;have sub:∀ {w:x5} {g:Nat} {sv:x4} {k:Int} {aM:x4},ak w g bq [sv,.int .i64 k,aM]→w.rangeAt g (0+0) [sv]:=fun al=>lp al (by
  intro j v bn
  match j,bn with
  |0,bn=>exact bn)
 refine tG cP cL fun dy cQ dz m b2 dB bo cR hm=>?_;have cS:=bo.length_eq;rw[aO ab.u hm.ls];have cT:=bl.trans b2;refine hV.range m.length (fun i _ _ br=>Ext cQ br∧ ∀ j,j<i→m[j]? =some (j:Int)) (by omega) ⟨Ext.refl _,fun j bt=>by omega⟩ ?_ ?_
 ·rintro i _ _ br aE hi ⟨aF,bu⟩ aI;simp only[au,ag];refine⟨fun _=>?_,fun h=>by omega⟩;obtain⟨y,aL⟩:∃ y,m[i]? =some y:=⟨_,x3 hi⟩;rw[bm ab.u J.i (by kernel_rfl) (hm.ls.ext aF) aL];simp only[bN,ag,aK];refine⟨fun aN dC cU _=>⟨(cT.trans aF).trans cU,fun _=>rfl,fun bw=>?_⟩,fun he=>aI _ _ _ ⟨aF,fun j bt=>?_⟩⟩
  ·have:=wn bw bo cR i hi;rw[aL] at this;exact absurd (b9 this).symm aN
  ·by_cases cV:j=i
   ·subst cV;rw[aL];congr 1;omega
   ·exact bu j (by omega)
 ·rintro _ _ br aE ⟨aF,bu⟩;simp only[au,ag,aQ];refine⟨fun h=>by omega,fun _ dD cW _ _=>?_⟩;have W:Good E m.length:=BM bu bo;have aP:=(b2.trans aF).trans cW;have aZ:=bl.trans aP;have V:=V.ext aP;have I:=I.ext aP;have cX:=ap.ext aZ;have cY:=aY.ext aZ;have dE:=aP.size;obtain⟨⟨aM,gs,al,a1,b3⟩,_⟩:=id cY;rw[ai (by kernel_rfl) (I.cell (o:=0) rfl),aO ab.u cX,ai (by kernel_rfl) (V.cell (o:=0) rfl),az,ah bq.p rfl,bI (cs:=[sv]) aJ.p aJ.i rfl (sub al)];refine (wP a1.ls).mono ?_;rintro _ a2 _ ⟨rfl,am⟩;refine⟨.inl am,?_⟩;simp only[bN,ag];refine⟨fun aN dF c0 _=>⟨(aZ.trans am).trans c0,fun _=>rfl,fun bw=>absurd (by rw[bw.1]) aN⟩,fun dG=>?_⟩;have bx:E.length=an.length:=by omega
  have W:Good E an.length:=by rw[←bx,←cS];exact W
  have dH:=aP.trans am;have bz:=aZ.trans am;have V:=V.ext am;have I:=I.ext am;have b4:=ap.ext bz;rw[ai (by kernel_rfl) (I.cell (o:=0) rfl),aO ab.u b4];refine hz ab.u J.i (by omega) (by omega) fun aR b5 dI av b6=>?_;have c1:aq .i64 J b5 aR (.slice (some ⟨aR,0,none⟩) E.length E.length) (p9 E.length 0):=aq.of (n:=E.length) (bL.full b6 (by simp) (by simp[maxLen];omega));generalize (x4.slice (some ⟨aR,0,none⟩) E.length E.length)=c2 at*;have dJ:=am.size;have dK:=av.size;have dL:=b6.lt;rw[ai (by kernel_rfl) ((I.ext av).cell (o:=0) rfl),aO ab.u (b4.ext av)];have b7:=bz.trans av;have a6:(dA an E).length=E.length:=ra _ _;refine bc.range E.length (fun i aa=>aj (fun r=>r=aR) b5 aa∧aq .i64 J aa aR c2 (upto (dA an E) 0 i)) (by omega) ⟨aj.refl _ _,by rw[pB,a6];exact c1⟩ ?_ ?_
  ·rintro i aa aE hi ⟨ao,a7⟩ aI;simp only[au,ag];refine⟨fun _=>?_,fun h=>by omega⟩;have aS:Ext w aa:=b7.then ao (by rintro r Y rfl;omega);have a8:Ext a2 aa:=av.then ao (by rintro r Y rfl;omega);obtain⟨p,bB⟩:∃ p,E[i]? =some p:=⟨_,x3 hi⟩;obtain⟨⟨aM,gs,al,a1,b3⟩,_⟩:=aY.ext aS;rw[bm ab.u J.i (by kernel_rfl) (ap.ext aS) bB,ai (by kernel_rfl) ((V.ext a8).cell (o:=0) rfl),az,ah bq.p rfl,bI (cs:=[sv]) aJ.p aJ.i rfl (sub al)];refine (pJ a1.ls).mono ?_;rintro _ dM _ ⟨rfl,ca⟩;have cb:=a7.ext ca;have c3:(upto (dA an E) 0 i).length=E.length:=by rw[pA,a6]
   rw[gB rfl ab.u J.i cb (by omega)];refine gC J.i cb (by omega) fun dN c4 _ cc=>?_;simp only[aK];have h1:=(W.2 i p bB).1;have aU:(dA an E)[i]? =some (fS an p):=by
    unfold dA fS;rw[r8,bB,if_pos h1.1];rfl
   rw[pD aU] at cc;exact aI _ ⟨(ao.trans (ca.ad _)).trans c4,cc⟩
  ·rintro aa aE ⟨ao,a7⟩;simp only[au,ag];refine⟨fun h=>by omega,fun _=>?_⟩;have aS:Ext w aa:=b7.then ao (by rintro r Y rfl;omega);have a8:Ext a2 aa:=av.then ao (by rintro r Y rfl;omega);rw[←a6,pC] at a7;obtain⟨⟨aM,gs,al,a1,b3⟩,_⟩:=aY.ext aS;rw[ai (by kernel_rfl) ((V.ext a8).cell (o:=0) rfl),az,ah bq.p rfl,ai (by kernel_rfl) (al.cell (o:=0+1) rfl)];have ba:bR (dA an E):=cN.BO W rfl;have cd:=cM W;have dO:=prod_bound ba;refine (sU a7.ls).mono ?_;rintro _ bC _ ⟨cg,_,_,_,c5⟩;obtain⟨aw,X,ax,rfl,dP,dQ,dR,bb⟩:=c5 ba cd ⟨bW,by omega,by have:=bW.1;omega⟩;obtain⟨N,bd⟩:∃ N:Nat,(aG (dA an E)).toNat=N:=⟨_,rfl⟩;rw[bd] at bb;rw[aC (v:=.pointer (some ⟨aw,0,none⟩)) rfl,aC (v:=.int .i64 0) rfl];refine bO bA.i fun ch dS dT ci aV=>?_;refine bE bA.i rfl rfl aV (by simp[x4.cells]) fun c6 c7 dU aV=>?_;have dV:=ao.size;have dW:=cg.size;have dX:=ci.size;have bD:Ext bC c6:=ci.then c7 (by rintro r Y rfl;omega);have cj:=cg.trans bD;have c8:=bb.ext bD;have dY:=aV.lt;obtain⟨⟨bF,ck,cl,cm,c9⟩,⟨cp,cq,_⟩,_,dZ⟩:=id c8;have ea:0<N:=by omega
   have eb:aw<bC.heap.size:=by obtain⟨⟨_,_,q,_⟩,_⟩:=id bb;exact q.lt
   have ec:X<bC.heap.size:=by obtain⟨⟨_,_,_,_,q⟩,_⟩:=id bb;exact rH q (by simp;omega)
   rw[ai (by kernel_rfl) (aV.cell (o:=0) rfl),az,ah bq.p rfl,bI (cs:=[ax]) aJ.p aJ.i rfl (sub cl)];refine tk.mono ?_;rintro _ Z _ ⟨ac,be,rfl,ed,cr⟩;have ee:=bD.size;have ef:=ac.size;let S:Nat→Prop:=fun r=>r=X;let ay:=lw an cs E;have bG:ay.length=N:=by simp only[ay];rw[wu,bd]
   let da:x5→Prop:=fun w'=>ak w' bX bA [.pointer (some ⟨g,0,none⟩)]∧ak w' bZ ab [aD]∧ak w' ch bA [.pointer (some ⟨aw,0,none⟩)]∧ak w' aw bq [ax,.int .i64 k,bF]∧
    cG w' g bV sv an k cs∧aH .i64 w' aD E∧aq .i64 J w' ck ax (dA an E)∧ak w' be aJ [ax]∧Z.heap.size≤w'.heap.size
   have aA:∀ {a:x5},aj S Z a→da a:=by
    intro a U;have bH:Ext a2 Z:=(a8.trans cj).trans ac;have bJ:Ext a2 a:=bH.then U (fun r Y he=>by have he:r=X:=he;omega);have ct:Ext w a:=bz.trans bJ;refine⟨V.ext bJ,I.ext bJ,(aV.ext ac).ad U (by show ¬(ch=X);omega),(cl.ext ac).ad U (by show ¬(aw=X);exact cp),aY.ext ct,ap.ext ct,bp (cm.ext ac) U (fun r Y he=>cq ((show r=X from he)▸Y)),
     cr.ad U (by show ¬(be=X);omega),U.size⟩
   have cu:=tj (g:=be) (B0:=Z.heap.size) (sv:=ax) ba;rw[bd] at cu;refine⟨Nat,false,gv,#[.pointer (some ⟨be,0,none⟩)],0,_,_,_,fun q w'=>aj S Z w'∧aq .i64 ae w' X bF (upto ay 0 q),fun _ _ _=>False,rfl,cu.s,
    ?_,fun _ _ U h=>⟨h.1.ext U,h.2.1.ext U,Y3 h.2.2 U.size⟩,fun _ _ _ U h=>⟨h.1.trans (U.ad S),h.2.ext U⟩,fun _ _ _ _ _ h=>h,⟨cr,(cm.ext ac).ls,o7 _⟩,⟨aj.refl _ _,?_⟩,?_,?_,fun _ _ h=>h.elim,fun _ _ _ h=>h.elim⟩
   ·rintro _ _ _ _ ⟨_,_,_,_,rfl,_⟩;rfl
   ·rw[pB,bG];exact c9.ext ac
   ·rintro _ eg q _ eh ⟨_,_,ei⟩ ⟨aU,rfl,ej,ek,db,em,dc⟩ ⟨bf,dd⟩;cases db;let x:=cv (dA an E) (q:Int);have cw:x.length=E.length:=by simp only[x];rw[hc,a6]
    intro de aB _ _;have cz:=dc.ext aB;rw[aO ab.u cz.ls];refine hz ab.u J.i (by rw[hc];omega) (by rw[hc];omega) fun go cA en bK cB=>?_;have df:aq .i64 J cA go (.slice (some ⟨go,0,none⟩) (cv (dA an E) (q:Int)).length (cv (dA an E) (q:Int)).length) (p9 (cv (dA an E) (q:Int)).length 0):=aq.of (n:=(cv (dA an E) (q:Int)).length) (bL.full cB (by simp) (by rw[hc];simp[maxLen];omega));generalize (x4.slice (some ⟨go,0,none⟩) (cv (dA an E) (q:Int)).length (cv (dA an E) (q:Int)).length)=dg at*;have eo:=bf.size;have ep:=aB.size;have er:=bK.size;have lo:=cB.lt;have dh:aj S Z cA:=bf.trans ((aB.trans bK).ad S);have f:=aA dh;rw[ai (by kernel_rfl) (f.2.1.cell (o:=0) rfl),aO ab.u f.2.2.2.2.2.1];refine bc.range E.length (fun j bg=>Ext de bg∧ ∃ y:List Int,y.length=E.length∧aq .i64 J bg go dg y∧ ∀ (i:Nat) (p:Int),i<j→E[i]? =some p→y[p.toNat]? =x[i]?) (by omega)
     ⟨bK,_,by simp[cw,x],df,fun i p hi=>by omega⟩ ?_ ?_
    ·rintro j bg aE bt ⟨aW,y,bM,bh,bP⟩ aI;simp only[au,ag];refine⟨fun _=>?_,fun h=>by omega⟩;have f:=aA (bf.trans ((aB.trans aW).ad S));obtain⟨p,bi⟩:∃ p,E[j]? =some p:=⟨_,x3 bt⟩;obtain⟨u,hu⟩:∃ u,x[j]? =some u:=⟨_,x3 (by omega)⟩;have es:=(W.2 j p bi).1;rw[bm ab.u J.i (by kernel_rfl) f.2.2.2.2.2.1 bi,bm ab.u J.i (by kernel_rfl) (cz.ext aW).ls hu,gB (i:=p.toNat) (by omega) ab.u J.i bh (by omega)];refine gC J.i bh (by omega) fun et di eu dj=>?_;simp only[aK];refine aI _ ⟨aW.then di (by rintro r Y rfl;omega),_,by simpa using bM,dj,fun i bj hi aX=>?_⟩;by_cases cC:i=j
     ·subst cC;rw[bi] at aX;cases aX;rw[V7 (by omega),hu]
     ·have ev:=(W.2 i bj aX).1;have aN:p.toNat≠bj.toNat:=fun he=>by
       have:p=bj:=by omega
       subst this;exact cC (W.inj aX bi)
      rw[List.getElem?_set_ne aN];exact bP i bj (by omega) aX
    ·rintro bg aE ⟨aW,y,bM,bh,bP⟩;simp only[au,ag];refine⟨fun h=>by omega,fun _ dk cD _ _=>?_⟩;have aL:y=jy E x:=wr W (by rw[cw,bx]) (by rw[bM,bx]) fun i p cE=>bP i p (x6.1 cE).1 cE;have cF:=aW.trans cD;have cH:aj S Z dk:=bf.trans ((aB.trans cF).ad S);obtain⟨f1,f2,f3,f4,f5,f6,f7,f8,f9⟩:=aA cH;rw[ai (by kernel_rfl) (f3.cell (o:=0) rfl),az,ah bq.p rfl,ai (by kernel_rfl) (f4.cell (o:=0+2) rfl),ai (by kernel_rfl) (f1.cell (o:=0) rfl)];refine (sV f5 (bh.ls.ext cD)).mono ?_;rintro _ ew _ ⟨rfl,bQ⟩;refine⟨.inl bQ,?_⟩;obtain⟨e,he⟩:=tF an y cs;rw[he,aC (v:=.int .i64 (cn an cs y)) rfl,aC (v:=.int .i64 e) rfl];have dl:=cH.trans (bQ.ad S);have cI:=(dd.ext ((aB.trans cF).trans bQ));have c3:(upto ay 0 q).length=N:=by rw[pA,bG]
     rw[gB rfl af.u ae.i cI (by omega)];refine gC ae.i cI (by omega) fun dm dn ey cJ=>?_;have cK:aj S Z dm:=dl.trans (dn.mono fun r _ h=>h);obtain⟨f1,f2,f3,f4,f5,f6,f7,f8,f9⟩:=aA cK;have dp:ay[q]? =some (cn an cs y):=by
      simp only[ay,lw];rw[r8,List.getElem?_range (by rw[bd];exact aU),aL];rfl
     rw[pD dp] at cJ;exact⟨⟨f8,f7.ls,f9⟩,⟨cK,cJ⟩,fun h=>by cases h⟩
   ·rintro q ez aU ⟨bS,bT⟩;rw[show q=N from aU] at bT;have f:=aA bS;rw[ai (by kernel_rfl) (f.2.2.1.cell (o:=0) rfl)];intro eA bU _;obtain⟨f1,f2,f3,f4,f5,f6,f7,f8,f9⟩:=aA (bS.trans (bU.ad S));rw[←bG,pC] at bT;have bH:Ext w Z:=(aS.trans cj).trans ac;refine⟨(bH.then bS (fun r Y he=>by have he:r=X:=he;omega)).trans bU,fun dq=>absurd W dq,fun _=>⟨aw,X,ax,rfl,⟨bF,ck,f4,f7,bT.ext bU⟩,⟨cp,cq,cd⟩,ba,wu _ _ _⟩⟩
def fs (l:List Int):Prop:=∀ (i j:Nat) (x y:Int),i<j→l[i]? =some x→l[j]? =some y→x<y
theorem fs.inj {l:List Int} (h:fs l) {i j:Nat} {x:Int} (hi:l[i]? =some x) (E:l[j]? =some x):i=j:=by
 rcases Nat.lt_trichotomy i j with h1|h1|h1
 ·have:=h i j x x h1 hi E;omega
 ·exact h1
 ·have:=h j i x x h1 E hi;omega
def dedup (l:List Int):Nat→List Int
 |0=>[]
 |j+1=>if 0<j∧l[j]? =l[j-1]? then dedup l j else dedup l j++[l.getD j 0]
theorem x9 (l:List Int):∀ j,(dedup l j).length≤j
 |0=>o7 _
 |j+1=>by
  have:=x9 l j;unfold dedup;split
  ·omega
  ·simp;omega
theorem tH {l:List Int} {j:Nat} (E:0<j) (h:l[j]? =l[j-1]?):dedup l (j+1)=dedup l j:=by
 rw[dedup,if_pos ⟨E,h⟩]
theorem tI {l:List Int} {j:Nat} {x:Int} (I:l[j]? =some x) (h:0<j→l[j]? ≠l[j-1]?):dedup l (j+1)=dedup l j++[x]:=by
 rw[dedup,if_neg (fun E=>h E.1 E.2),p8,I];rfl
theorem rM {l:List Int}:∀ {j:Nat},j≤l.length→(∀ i,i<j→0<i→l[i]? ≠l[i-1]?)→dedup l j=l.take j
 |0,_,_=>by simp[dedup]
 |j+1,J,h=>by
  have E:l[j]? =some l[j]:=x3 (by omega);rw[tI E (h j (by omega)),rM (by omega) (fun i hi I=>h i (by omega) I),o3,E];rfl
theorem ya {l:List Int} (O:l.Pairwise (·≤ ·)):∀ {j:Nat},j≤l.length→(fs (dedup l j)∧ ∀ x,x∈dedup l j↔x∈l.take j)
 |0,_=>⟨fun i j x y _ h=>by simp[dedup] at h,fun x=>by simp[dedup]⟩
 |j+1,ag=>by
  obtain⟨h1,U⟩:=ya O (j:=j) (by omega);have I:l[j]? =some l[j]:=x3 (by omega);by_cases J:0<j∧l[j]? =l[j-1]?
  ·rw[tH J.1 J.2];refine⟨h1,fun x=>?_⟩;rw[U,o3,I];simp only[j5,n0,o9];refine⟨.inl,fun h=>h.elim id fun he=>?_⟩;subst he;have W:(l.take j)[j-1]? =some l[j]:=by rw[Z6 (by omega),←J.2,I]
   exact u4 W
  ·have X:0<j→l[j]? ≠l[j-1]?:=fun aa he=>J ⟨aa,he⟩;rw[tI I X];have ab:∀ x∈dedup l j,x<l[j]:=fun x ac=>by
    obtain⟨i,hi,he⟩:=List.getElem_of_mem ((U x).1 ac);have ah:i<j:=by rw[l6] at hi;omega
    rw[List.getElem_take] at he;subst he;have W:l[i]≤l[j-1]:=by
     by_cases Y:i=j-1
     ·subst Y;exact Int.le_refl _
     ·exact W5.1 O i (j-1) (by omega) (by omega) (by omega)
    have Y:=W5.1 O (j-1) j (by omega) (by omega) (by omega);have Z:=X (by omega);rw[I,x3 (show j-1<l.length by omega)] at Z;have ai:l[j]≠l[j-1]:=fun h=>Z (by rw[h]);omega
   refine⟨fun a b x y ad V E=>?_,fun x=>?_⟩
   ·have ae:=(x6.1 E).1;simp only[o5,c8,List.length_nil] at ae;rw[Z1 (by omega)] at V;by_cases af:b=(dedup l j).length
    ·subst af;rw[Z4 (o7 _),W3] at E;simp at E;subst E;exact ab x (u4 V)
    ·rw[Z1 (by omega)] at E;exact h1 a b x y ad V E
   ·rw[o3,I];simp only[j5,n0,o9,U]
def p1 (l:List Int):Prop:=∀ (j:Nat) (x:Int),l[j]? =some x→0≤x∧(0<j→ ∀ y,l[j-1]? =some y→y<x)
theorem p1.up {l:List Int} (h:p1 l):fs l:=by
 intro i j x y V J;induction j generalizing y with
 |zero=>omega
 |succ j O=>
  intro I;have W:=(x6.1 I).1;obtain⟨z,E⟩:∃ z,l[j]? =some z:=⟨_,x3 (show j<l.length by omega)⟩;have h1:=(h (j+1) y I).2 (by omega) z (by simpa using E);by_cases U:i=j
  ·subst U;rw[J] at E;cases E;exact h1
  ·have:=O z (by omega) E;omega
theorem D4 {l:List Int} (h:fs l) (I:∀ x∈l,0≤x):p1 l:=fun j x E=>⟨I x (u4 E),fun O y J=>h (j-1) j y x (by omega) J E⟩
theorem yb {w:x5} {g aj:Nat} {sv ae:x4} {an l:List Int} {k:Int} {cs:List Int} (h:cG w g aj sv an k cs) (E:aH .i64 w ae l):
  O y0 mG [.pointer (some ⟨g,0,none⟩),ae] w fun v w'=>Ext w w'∧ ∃ c,v= .bool c∧(c=true↔l.length=an.length∧p1 l):=by
 obtain⟨⟨aM,gs,ak,hm,W⟩,_⟩:=h;have sub:w.rangeAt g (0+0) [sv]:=lp ak (by
  intro j v X
  match j,X with
  |0,X=>exact X)
 apply mG.enter;rw[aO ab.u E,az,ah bq.p rfl,bI (cs:=[sv]) aJ.p aJ.i rfl sub];refine (wP hm.ls).mono ?_;rintro _ aA _ ⟨rfl,Y⟩;simp only[bN,ag];refine⟨fun al=>⟨Y,false,rfl,(fun h=>by cases h),fun h=>absurd (by rw[h.1]) al⟩,fun af=>?_⟩;have af:l.length=an.length:=by omega
 rw[aO ab.u (E.ext Y)];refine a8.range l.length (fun i _ V=>Ext w V∧ ∀ (j:Nat) (x:Int),j<i→l[j]? =some x→0≤x∧(0<j→ ∀ y,l[j-1]? =some y→y<x)) E.le ⟨Y,fun j x am=>by omega⟩ ?_ ?_
 ·rintro i _ V ao hi ⟨I,Z⟩ ap;simp only[au,ag];refine⟨fun _=>?_,fun h=>by omega⟩;obtain⟨x,U⟩:∃ x,l[i]? =some x:=⟨_,x3 hi⟩;have aB:=E.le;rw[bm ab.u J.i (by kernel_rfl) (E.ext I) U];refine aZ (fun v aq=>V=aq∧ ∃ c,v= .bool c∧(c=false↔0≤x∧(0<i→ ∀ y,l[i-1]? =some y→y<x))) ?_ ?_
  ·rintro _ _ ⟨rfl,c,rfl,W⟩;rw[cE];simp only[aK];refine⟨fun av=>⟨I,false,rfl,(fun h=>by cases h),fun h=>?_⟩,fun aw=>ap _ _ ⟨I,fun j ax am aa=>?_⟩⟩
   ·have:=W.2 (h.2 i x U);rw[av] at this;cases this
   ·by_cases ay:j=i
    ·subst ay;rw[U] at aa;cases aa;exact W.1 aw
    ·exact Z j ax (by omega) aa
  ·intro aC ac;simp only[au,bV,dD,ag];refine⟨fun aD=>ac _ _ ⟨rfl,true,rfl,(fun h=>by cases h),fun h=>by omega⟩,fun aE=>⟨fun aF=>?_,fun aG=>ac _ _ ⟨rfl,false,rfl,fun _=>⟨by omega,fun h=>by omega⟩,fun _=>rfl⟩⟩⟩;obtain⟨y,ad⟩:∃ y,l[i-1]? =some y:=⟨_,x3 (show i-1<l.length by omega)⟩;rw[wrap_i64 (by omega) (by omega),eE (i:=i-1) (by omega) ab.u J.i (by kernel_rfl) (E.ext I) ad];simp only[cV];refine ac _ _ ⟨rfl,_,rfl,?_⟩;rw[decide_eq_false_iff_not];refine⟨fun h=>⟨by omega,fun _ aI ai=>by rw[ad] at ai;cases ai;omega⟩,fun h=>by have:=h.2 (by omega) y ad;omega⟩
 ·rintro _ V ao ⟨I,Z⟩;simp only[au,ag];exact⟨fun h=>by omega,fun _=>⟨I,true,rfl,fun _=>⟨af,fun j x U=>Z j x (x6.1 U).1 U⟩,fun _=>rfl⟩⟩
def fG (l:List Int) (x:Int):Int:=if x∈l then (l.idxOf x:Int) else-1
theorem yc {l:List Int} {i:Nat} {x:Int} (h:fs l) (hi:l[i]? =some x):fG l x=i:=by
 have hm:x∈l:=u4 hi;have E:=List.idxOf_lt_length_of_mem hm;have I:l.idxOf x=i:=h.inj (by rw[x3 E,List.getElem_idxOf E]) hi;unfold fG;rw[if_pos hm,I]
theorem D5 {l:List Int} {x:Int} (h:x∉l):fG l x= -1:=if_neg h
theorem tJ {sv:x4} {l:List Int} {x:Int} {w:x5} (h:aH .i64 w sv l) (hu:fs l):
  O y0 hZ [sv,.int .i64 x] w fun v w'=>v= .int .i64 (fG l x)∧Ext w w':=by
 apply hZ.enter;rw[aO ab.u h];refine a8.range l.length (fun i _ I=>Ext w I∧ ∀ j,j<i→l[j]? ≠some x) h.le ⟨Ext.refl _,fun j W=>by omega⟩ ?_ ?_
 ·rintro i _ I k hi ⟨E,U⟩ X;simp only[au,ag];refine⟨fun _=>?_,fun h=>by omega⟩;obtain⟨y,V⟩:∃ y,l[i]? =some y:=⟨_,x3 hi⟩;rw[bm ab.u J.i (by kernel_rfl) (h.ext E) V];simp only[bQ,ag,aK];refine⟨fun he=>⟨?_,E⟩,fun he=>X _ _ ⟨E,fun j W=>?_⟩⟩
  ·subst he;rw[yc hu V]
  ·by_cases Y:j=i
   ·subst Y;rw[V];intro h;exact he (b9 h).symm
   ·exact U j (by omega)
 ·rintro _ I k ⟨E,U⟩;simp only[au,ag];refine⟨fun h=>by omega,fun _=>⟨?_,E⟩⟩;rw[D5];intro hm;obtain⟨i,hi,he⟩:=List.getElem_of_mem hm;exact U i hi (by rw[x3 hi,he])
def dN (x vars scope:List Int):List Int:=scope.map fun p=>x.getD (vars.idxOf p) 0
theorem D6 (x vars scope:List Int):(dN x vars scope).length=scope.length:=by simp[dN]
theorem yd {w:x5} {Z aa sv:x4} {x vars scope:List Int} (ah:aH .i64 w Z x) (ai:aH .i64 w aa vars) (W:aH .i64 w sv scope) (hu:fs vars) (aj:∀ p∈scope,p∈vars) (ay:x.length=vars.length) (az:scope.length≤1000):
  O y0 mH [Z,aa,sv] w fun v w'=>Ext w w'∧ ∃ g,w.heap.size≤g∧aq .i64 J w' g v (dN x vars scope):=by
 apply mH.enter;rw[aO ab.u W];refine hz ab.u J.i (by omega) (by omega) fun I ak aA ac al=>?_;have am:aq .i64 J ak I (.slice (some ⟨I,0,none⟩) scope.length scope.length) (p9 scope.length 0):=aq.of (n:=scope.length) (bL.full al (by simp) (by simp[maxLen];omega));generalize (x4.slice (some ⟨I,0,none⟩) scope.length scope.length)=ao at*;rw[aO ab.u (W.ext ac)];have X:=D6 x vars scope;refine bc.range scope.length (fun i U=>Ext w U∧aq .i64 J U I ao (upto (dN x vars scope) 0 i)) (by omega) ⟨ac,by rw[pB,X];exact am⟩ ?_ ?_
 ·rintro i U ap hi ⟨E,hm⟩ av;simp only[au,ag];refine⟨fun _=>?_,fun h=>by omega⟩;obtain⟨p,Y⟩:∃ p,scope[i]? =some p:=⟨_,x3 hi⟩;have ad:=aj p (u4 Y);have aB:=List.idxOf_lt_length_of_mem ad;rw[bm ab.u J.i (by kernel_rfl) (W.ext E) Y];refine (tJ (ai.ext E) hu).mono ?_;rintro _ aC _ ⟨rfl,V⟩;have e:fG vars p=(vars.idxOf p:Int):=if_pos ad;obtain⟨u,ae⟩:∃ u,x[vars.idxOf p]? =some u:=⟨_,x3 (by omega)⟩;have aD:(upto (dN x vars scope) 0 i).length=scope.length:=by rw[pA,X]
  rw[eE (i:=vars.idxOf p) e ab.u J.i (by kernel_rfl) (ah.ext (E.trans V)) ae,gB rfl ab.u J.i (hm.ext V) (by omega)];refine gC J.i (hm.ext V) (by omega) fun aE aw _ af=>?_;simp only[aK];have ax:(dN x vars scope)[i]? =some u:=by
   unfold dN;rw[r8,Y,b6,p8,ae];rfl
  rw[pD ax] at af;exact av _ ⟨(E.trans V).then aw (by rintro r aF rfl;omega),af⟩
 ·rintro U ap ⟨E,hm⟩;simp only[au,ag];refine⟨fun h=>by omega,fun _=>⟨E,I,by omega,?_⟩⟩;rw[←X,pC] at hm;exact hm
theorem ye {t:List Int} (U:t≠[]) (hw:∀ b∈t,bC b=true):lex t=([t],true):=by
 cases t with
 |nil=>exact absurd rfl U
 |cons b q=>
  have E:q.dropWhile bC=[]:=by
   have:∀ (q:List Int),(∀ x∈q,bC x=true)→q.dropWhile bC=[]∧q.takeWhile bC=q:=fun q E=>by
    induction q with
    |nil=>simp
    |cons x q I=>
     have:=I fun y J=>E y (.tail _ J);simp[E x (.head _),this.1,this.2]
   exact (this q fun x O=>hw x (.tail _ O)).1
  have V:q.takeWhile bC=q:=by
   have:∀ (q:List Int),(∀ x∈q,bC x=true)→q.takeWhile bC=q:=fun q E=>by
    induction q with
    |nil=>simp
    |cons x q I=>simp[E x (.head _),I fun y J=>E y (.tail _ J)]
   exact this q fun x O=>hw x (.tail _ O)
  rw[vQ (hw b (.head _)),E,V]
theorem yf {w:x5} {p:x4} {l:List Int} (h:aH .u8 w p l) (I:Bytes l) (J:l.length≤100000):O y0 jV [p] w fun v w'=>Ext w w'∧ ∃ g R,v= .pointer (some ⟨g,0,none⟩)∧w.heap.size≤g∧fC w' g R (lex l).1 (lex l).2∧¬R g:=by
 refine (vY h I J).mono ?_;rintro _ Z _ ⟨U,g,rfl,V,W,E⟩;obtain⟨h1,aa,ab,X,ac,hm⟩:=id E;exact⟨U,g,fun r=>r≠g,rfl,V,⟨W,l,0,E,fun r Y=>bW hm X (by decide) Y,by rw[List.drop_zero]⟩,fun h=>h rfl⟩
theorem D7 {w:x5} {p:x4} {t:List Int} (h:aH .u8 w p t) (Z:Bytes t) (aa:t.length≤100000) (ab:t≠[]) (hw:∀ b∈t,bC b=true):O y0 oU [p] w fun v w'=>Ext w w'∧ ∃ n:Int,v= .tuple #[.int .i64 1,.int .i64 n,.int .i64 0]:=by
 have ac:=ye ab hw;apply oU.enter;refine (yf h Z aa).mono ?_;rintro _ ad _ ⟨ae,g,R,rfl,ah,V,ai⟩;rw[ac] at V;refine⟨fun _ _ _ E I=>aj (fun r=>r=g) ad I∧((E= .int .i64 0∧fC I g R [t] true)∨(E= .int .i64 1∧fC I g R [] true)),fun _ _ _ E _=>1-(bM E).toNat,⟨aj.refl _ _,.inl ⟨rfl,V⟩⟩,?_⟩;rintro _ _ _ _ I ⟨W,⟨rfl,J⟩|⟨rfl,J⟩⟩
 ·refine (pF J).mono ?_;rintro v X _ ⟨U,af,n,rfl⟩;rw[aC (v:=bu t) rfl,aC (v:=.int .i64 n) rfl,aC (v:=.int .i64 0) rfl,bQ,ag];refine⟨fun _=>?_,fun h=>absurd rfl h⟩;rw[aK,wrap_i64 (by omega) (by omega)];exact⟨⟨W.trans U,.inr ⟨rfl,af⟩⟩,by simp[bM]⟩
 ·refine (pF J).mono ?_;rintro v X _ ⟨U,n,rfl⟩;rw[aC (v:=bu []) rfl,aC (v:=.int .i64 n) rfl,aC (v:=.int .i64 (if true then 2 else 11)) rfl,bQ,ag];refine⟨fun h=>by simp at h,fun _=>?_⟩;rw[bQ,ag];refine⟨fun h=>by simp at h,fun _=>?_⟩;have Y:Ext w X:=ae.then (W.trans U) (fun r ak he=>by have he:r=g:=he;omega);rw[aO aV.u (h.ext Y)];exact⟨Y,_,rfl⟩
theorem D8 {w:x5} {t:List Int} (E:Bytes t) (I:t.length≤100000) (J:t≠[]) (hw:∀ b∈t,bC b=true):O y0 oI [bu t] w fun v w'=>v= .bool true∧Ext w w':=by
 have Z:=ye J hw;apply oI.enter;refine s3 a1.u aV.u bb.u E (by omega) fun bv ai U aa _=>?_;refine (D7 aa E I J hw).mono ?_;rintro _ aj _ ⟨V,n,rfl⟩;rw[aC (v:=.int .i64 1) rfl,aC (v:=.int .i64 n) rfl,aC (v:=.int .i64 0) rfl];refine s3 a1.u aV.u bb.u E (by omega) fun ak al W ab _=>?_;refine (yf ab E I).mono ?_;rintro _ am _ ⟨ac,g,R,rfl,ao,X,ap⟩;rw[Z] at X;refine (pF X).mono ?_;rintro _ Y _ ⟨ad,_,m,rfl⟩;rw[aC (v:=bu t) rfl,aC (v:=.int .i64 m) rfl,aC (v:=.int .i64 0) rfl];have ae:Ext w Y:=(((U.trans V).trans (W.trans ac))).then ad (fun r aq he=>by
  have he:r=g:=he;have:=U.size;have:=V.size;have:=W.size;omega)
 refine aZ (fun v af=>Y=af∧v= .bool true) ?_ ?_
 ·rintro _ _ ⟨rfl,rfl⟩;exact⟨rfl,ae⟩
 ·intro au ah;rw[bQ,ag];refine⟨fun _=>?_,fun h=>absurd rfl h⟩;rw[bQ,ag];refine⟨fun _=>?_,fun h=>absurd rfl h⟩;rw[vM E E];exact ah _ _ ⟨rfl,by rw[decide_eq_true rfl]⟩
theorem D9 {x:Int} {w:x5}:O y0 k1 [.int .i64 x] w fun v w'=>v= .bool (decide (¬gg x))∧Ext w w':=by
 apply k1.enter;refine aZ (fun v U=>w=U∧v= .bool (decide (¬gg x))) ?_ ?_
 ·rintro _ _ ⟨rfl,rfl⟩;exact⟨rfl,Ext.refl _⟩
 ·intro W I;rw[au,ag];refine⟨fun h=>I _ _ ⟨rfl,by rw[decide_eq_true];intro E;have:=E.1;omega⟩,fun h=>?_⟩;rw[bV];refine I _ _ ⟨rfl,?_⟩;congr 1;rw[X8,decide_eq_true_eq,decide_eq_true_eq];exact⟨fun J E=>by have:=E.2;omega,fun J=>by
   by_cases V:32<x
   ·exact V
   ·exact absurd ⟨by omega,by omega⟩ J⟩
theorem Ea {sv:x4} {l:List Int} {w:x5} (h:aH .i64 w sv l) (V:∀ x∈l,gg x):
  O y0 h0 [sv,.func (.func k1) #[] #[]] w fun v w'=>v= .bool false∧Ext w w':=by
 apply h0.enter;refine O.mono (K:=fun v w'=>v= .int .i64 (-1)∧Ext w w') ?_ ?_
 ·apply jX.enter;rw[aO ab.u h];refine a8.range l.length (fun _ _ I=>Ext w I) h.le (Ext.refl _) ?_ ?_
  ·rintro i _ I k hi E W;rw[au,ag];refine⟨fun _=>?_,fun h=>by omega⟩;obtain⟨x,U⟩:∃ x,l[i]? =some x:=⟨_,x3 hi⟩;rw[bm ab.u J.i (by kernel_rfl) (h.ext E) U];show O y0 k1 [.int .i64 x] I _;refine D9.mono ?_;rintro _ Z _ ⟨rfl,X⟩;rw[ag];refine⟨fun Y=>absurd (V x (u4 U)) Y,fun _=>?_⟩;rw[aK];exact W _ _ (E.trans X)
  ·rintro _ I k E;rw[au,ag];exact⟨fun h=>by omega,fun _=>⟨rfl,E⟩⟩
 ·rintro _ I _ ⟨rfl,E⟩;rw[cV];exact⟨rfl,E⟩
theorem rN {m:Bool} {S R:av} {w:x5} {cs:List x4} {d:fr} (h:ax.rep m S R w cs d):∃ sv g E I gs,cs=[sv,.pointer (some ⟨g,0,none⟩)]∧aH .i64 w sv d.1∧eJ w g E I gs d.2.an d.2.k d.2.o d.2.D:=by
 obtain⟨c,e,A,B,rfl,_,_,_,h1,J⟩:=h;have h1:ax.rep (α:=List Int) false br R w c d.1:=h1;obtain⟨u,rfl⟩:=V6.1 (show c.length=1 from ax.len h1);obtain⟨g,m,sv,gs,rfl,O,_⟩:=J;exact⟨u,g,m,sv,gs,rfl,kh h1,O⟩
set_option maxHeartbeats 4000000 in
theorem Eb {N:Nat} {w:x5} {aB:Nat} {f:bS} {cs:List x4} {d:fr} {x:ca} {m:Bool} {S R:av} (aL:iZ w aB f) (aM:eh N f) (aN:x∈f.funs) (aP:p0 f.k x d) (aQ:ax.rep m S R w cs d):
  O y0 oV [.pointer (some ⟨aB,0,none⟩),.agg cs.toArray] w fun v w'=>v= .bool true∧Ext w w':=by
 obtain⟨aw,bb,bc,bd,aC,aD,_,_⟩:=aL;obtain⟨sv,ay,be,bh,gs,rfl,V,aj⟩:=rN aQ;obtain⟨aR,aE,aS,bi,bj,bk⟩:=aP;obtain⟨ac,bl,bn⟩:=aM.funs x aN;rw[aR] at V;apply oV.enter;refine ce fun aU aF bo X ad=>?_;have ad:ak aF aU bg [sv,.pointer (some ⟨ay,0,none⟩)]:=by obtain⟨_,_,_,rfl⟩:=c6 V;exact ad
 refine aZ (fun v ae=>Ext aF ae∧v= .bool false) ?_ ?_
 rotate_left
 ·intro aV al;intro ae U _ _;have W:=ad.ext U;rw[ah bg.p rfl,ai (by kernel_rfl) (W.cell (o:=0+1) rfl),cZ b5.u];simp only[b8,aT];rw[ah bg.p rfl,ai (by kernel_rfl) (W.cell (o:=0+1) rfl),az,ah bf.p rfl,ai (by kernel_rfl) ((aC.ext (X.trans U)).cell (o:=0+1) rfl)];refine (Cq (aj.ext (X.trans U)).is).mono ?_;rintro _ Y _ ⟨rfl,E⟩;refine⟨.inl E,?_⟩;rw[bN,ag];refine⟨fun h=>absurd aS h,fun _=>?_⟩;have Z:=W.ext E;have am:=U.trans E;rw[ah bg.p rfl,ai (by kernel_rfl) (Z.cell (o:=0+1) rfl),ah bg.p rfl,ai (by kernel_rfl) (Z.cell (o:=0+0) rfl),aO ab.u (V.ext (X.trans am))];refine (Cr (aj.ext (X.trans am)).is).mono ?_;rintro _ af _ ⟨rfl,I⟩;refine⟨.inl I,?_⟩;rw[bN];refine al _ _ ⟨am.trans I,?_⟩;rw[decide_eq_false];intro h;exact h (by rw[aE,ac.sizes,o4])
 rintro _ ae ⟨U,rfl⟩;rw[aT];have W:=ad.ext U;have ao:=X.trans U;rw[ah bg.p rfl,ai (by kernel_rfl) (W.cell (o:=0+0) rfl),aO ab.u (V.ext ao)];refine a8.range x.scope.length (fun _ _ Y=>Ext ae Y) (by omega) (Ext.refl _) ?_ ?_
 rotate_left
 ·rintro _ Y k E;rw[au,ag];exact⟨fun h=>by omega,fun _=>⟨rfl,ao.trans E⟩⟩
 rintro i _ Y k hi E aW;obtain⟨v,aa⟩:∃ v,x.scope[i]? =some v:=⟨_,x3 hi⟩;have bp:=ac.scope.2 v (u4 aa);have ap:=ao.trans E;have Z:=W.ext E;have aG:=aC.ext ap;have aX:f.sizes[v.toNat]? =some (f.sizes.getD v.toNat 0):=by
  rw[p8,x3 (by omega)];rfl
 rw[au,ag];refine⟨fun _=>?_,fun h=>by omega⟩;rw[bm ab.u J.i (by kernel_rfl) (V.ext ap) aa];refine aZ (fun b af=>Ext Y af∧b= .bool false) ?_ ?_
 ·rintro _ af ⟨I,rfl⟩;rw[aT,aK];exact aW _ _ (E.trans I)
 ·intro aV al;intro af I _ _;have aq:=ap.trans I;rw[au,ag];refine⟨fun h=>by omega,fun _=>?_⟩;rw[az,ah bf.p rfl,ai (by kernel_rfl) ((aG.ext I).cell (o:=0+2) rfl),aO ab.u (aD.ls.ext aq),cV,ag];refine⟨fun h=>by omega,fun _=>?_⟩;rw[ah bg.p rfl,ai (by kernel_rfl) ((Z.ext I).cell (o:=0+0) rfl)];refine (x0 (V.ext aq)).mono ?_;rintro _ bq _ ⟨aH,r,rfl,aY⟩;have a1:r=(i:Int):=(aY i aa).2 fun j br a2=>by have:=ii ac.scope.1 a2 aa;omega
  subst a1;have aI:=aq.trans aH;have aA:=I.trans aH;rw[bN,ag];refine⟨fun h=>absurd rfl h,fun _=>?_⟩;rw[ah bg.p rfl,ai (by kernel_rfl) ((Z.ext aA).cell (o:=0+1) rfl),az,ah bf.p rfl,ai (by kernel_rfl) ((aG.ext aA).cell (o:=0+2) rfl)];refine q4 (y:=v) (i:=v.toNat) (by omega) ab.u J.i (aD.ls.ext aI) aX fun b o a6=>?_;rw[ai (by kernel_rfl) a6];refine (tn (aj.ext aI).is).mono ?_;rintro bt bu _ ⟨aJ,bw,bx,a7⟩;refine⟨.inl aJ,?_⟩;have ba:d.2.an[i]? =some (f.sizes.getD v.toNat 0):=by
   rw[aE,ac.sizes,r8,aa];rfl
  rw[bm ab.u J.i (by kernel_rfl) a7.ls ba,bN];exact al _ _ ⟨aA.trans aJ,by rw[decide_eq_false (fun h=>h rfl)]⟩
theorem Ec {N:Nat} {w:x5} {U:Nat} {f:bS} {cs:List x4} {d:fr} {x:ca} {m:Bool} {S R:av} (V:iZ w U f) (W:eh N f) (X:x∈f.funs) (Y:p0 f.k x d) (E:ax.rep m S R w cs d):
  O y0 k2 [.pointer (some ⟨U,0,none⟩),.agg cs.toArray] w fun v w'=>v= .bool false∧Ext w w':=by
 apply k2.enter;refine ce fun Z aa ae I J=>?_;have ab:cs.length=2:=ax.len E;have J:ak aa Z bg cs:=by
  obtain⟨sv,ay,af,ag,gs,rfl,ac,ah⟩:=rN E;obtain⟨_,_,_,rfl⟩:=c6 ac;exact J
 rw[bI bg.p bg.i ab J.range];refine (Eb (V.ext I) W X Y (c0 E I)).mono ?_;rintro _ ai _ ⟨rfl,ad⟩;rw[b3];exact⟨rfl,I.trans ad⟩
theorem Ed {N:Nat} {w:x5} {U:Nat} {f:bS} {W:x4} {J:List fr} {m:Bool} {S R:av} (aa:iZ w U f) (ab:eh N f) (V:ax.rep m S R w [W] J) (X:rL f.k f.funs J):
  O y0 oJ [W,.func (.func k2) #[.pointer (some ⟨U,0,none⟩)] #[]] w fun v w'=>v= .bool false∧Ext w w':=by
 apply oJ.enter;refine O.mono (K:=fun v w'=>v= .int .i64 (-1)∧Ext w w') ?_ ?_
 ·apply qG.enter;rw[h9 bJ.u V];refine a8.range J.length (fun _ _ I=>Ext w I) (qV V) (Ext.refl _) ?_ ?_
  ·rintro i _ I k hi E ac;rw[au,ag];refine⟨fun _=>?_,fun h=>by omega⟩;obtain⟨d,Y⟩:∃ d,J[i]? =some d:=⟨_,x3 hi⟩;obtain⟨x,Z⟩:∃ x,f.funs[i]? =some x:=⟨_,x3 (by have:=X.1;omega)⟩;refine mR (α:=fr) bg.p rfl bJ.u bg.i (c0 V E) Y fun cs ad=>?_;show O y0 k2 [.pointer (some ⟨U,0,none⟩),.agg cs.toArray] I _;refine (Ec (aa.ext E) ab (u4 Z) (X.2 i x d Z Y) ad).mono ?_;rintro _ af _ ⟨rfl,ae⟩;rw[aT,aK];exact ac _ _ (E.trans ae)
  ·rintro _ I k E;rw[au,ag];exact⟨fun h=>by omega,fun _=>⟨rfl,E⟩⟩
 ·rintro _ I _ ⟨rfl,E⟩;rw[cV];exact⟨rfl,E⟩
def jB (E:List ca):Nat:=(E.map fun x=>x.lines.length).sum
set_option maxHeartbeats 4000000 in
theorem Ee {N:Nat} {w:x5} {aN:Nat} {f:bS} (aP:iZ w aN f) (I:eh N f) (bE:N≤60000) (aD:f.name≠[]∧ ∀ b∈f.name,bC b=true):
  O y0 oy [.pointer (some ⟨aN,0,none⟩)] w fun v w'=>Ext w w'∧ ∃ e:Int,v= .int .i64 e∧(jB f.funs≤16384→e=0):=by
 obtain⟨aw,bF,bG,W,X,aE,aF,Y⟩:=id aP;have bH:=I.name;have a2:Bytes f.name:=fun b a6=>by
  have:=of_decide_eq_true (aD.2 b a6);omega
 apply oy.enter;rw[cZ mO.u];simp only[b8,aT];refine aZ (fun v ac=>Ext w ac∧v= .bool false) ?_ ?_
 rotate_left
 ·intro aG V;rw[az,ah bf.p rfl,ai (by kernel_rfl) (X.cell (o:=0+0) rfl)];refine (D8 a2 (by omega) aD.1 aD.2).mono ?_;rintro _ ac _ ⟨rfl,E⟩;rw[b3,Y1,aT];rw[az,ah bf.p rfl,ai (by kernel_rfl) ((X.ext E).cell (o:=0+2) rfl),aO ab.u (aE.ls.ext E),bQ,ag];refine⟨fun h=>by have:=I.sizes.1;omega,fun _=>?_⟩;rw[az,ah bf.p rfl,ai (by kernel_rfl) ((X.ext E).cell (o:=0+2) rfl)];refine (Ea (aE.ls.ext E) I.sizes.2.2).mono ?_;rintro _ U _ ⟨rfl,Z⟩;have aQ:=E.trans Z;rw[aT,az,ah bf.p rfl,ai (by kernel_rfl) ((X.ext aQ).cell (o:=0+1) rfl)];refine vv.mono ?_;rintro _ aa _ ⟨rfl,ad⟩;have ap:=aQ.trans ad;rw[decide_eq_true (show right f.k from I.k),b3,Y1,aT,az,ah bf.p rfl,ai (by kernel_rfl) ((X.ext ap).cell (o:=0+3) rfl),pm];refine (Ed (aP.ext ap) I (c0 aF ap) Y).mono ?_;rintro _ aR _ ⟨rfl,a7⟩;exact V _ _ ⟨ap.trans a7,rfl⟩
 rintro _ ac ⟨E,rfl⟩;rw[aT];have av:=X.ext E;refine aZ (fun v U=>ac=U∧v= .bool false) ?_ ?_
 rotate_left
 ·intro aG V;rw[az,ah bf.p rfl,ai (by kernel_rfl) (av.cell (o:=0+0) rfl),lr a1.u,bV,ag];refine⟨fun h=>by omega,fun _=>?_⟩;rw[az,ah bf.p rfl,ai (by kernel_rfl) (av.cell (o:=0+2) rfl),aO ab.u (aE.ls.ext E),bV,ag];refine⟨fun h=>by have:=I.sizes.2.1;omega,fun _=>?_⟩;rw[az,ah bf.p rfl,ai (by kernel_rfl) (av.cell (o:=0+3) rfl),h9 bJ.u (c0 aF E),bV];exact V _ _ ⟨rfl,by rw[decide_eq_false];have:=I.iR;have:=Y.1;omega⟩
 rintro _ _ ⟨rfl,rfl⟩;have aS:=c0 aF E;rw[az,ah bf.p rfl,ai (by kernel_rfl) (av.cell (o:=0+3) rfl),h9 bJ.u aS];refine⟨fun ba bb aH U=>∃ i n:Nat,aH= .int .i64 (i:Int)∧i≤W.length∧ba= .int .i64 (n:Int)∧bb= .bool false∧Ext ac U∧n≤jB (f.funs.take i)∧n≤i*60000,fun _ _ aH _=>W.length-(bM aH).toNat,
  ⟨0,0,rfl,Z9 _,rfl,rfl,Ext.refl _,Z9 _,by omega⟩,?_⟩
 rintro _ _ _ U ⟨i,n,rfl,hi,rfl,rfl,Z,bc,bI⟩;have bK:W.length≤256:=by rw[Y.1];exact I.iR
 rw[au,ag];refine⟨fun aU=>?_,fun bL=>?_⟩
 ·have aU:i<W.length:=by omega
  obtain⟨d,aV⟩:∃ d,W[i]? =some d:=⟨_,x3 aU⟩;obtain⟨x,aI⟩:∃ x,f.funs[i]? =some x:=⟨_,x3 (by have:=Y.1;omega)⟩;have ax:=Y.2 i x d aI aV;obtain⟨aA,bd,be⟩:=I.funs x (u4 aI);have bN:=aA.len;refine h6 (fun a b aa=>Ext U aa∧a= .int .i64 ((n+d.2.D.length:Nat):Int)∧b= .bool false) ?_ ?_
  ·rintro _ _ aa ⟨ad,rfl,rfl⟩;rw[aK,wrap_i64 (by omega) (by omega)];have bh:=ax.2.2.2.2.1;refine⟨⟨i+1,n+d.2.D.length,rfl,by omega,rfl,rfl,Z.trans ad,?_,?_⟩,by simp only[bM];omega⟩
   ·have e:jB (f.funs.take (i+1))=jB (f.funs.take i)+x.lines.length:=by
     unfold jB;rw[o3,aI,j5,j4,List.sum_append,List.map_cons,List.map_nil,List.sum_cons,List.sum_nil,Nat.add_zero]
    omega
   ·have:(i+1)*60000=i*60000+60000:=by omega
    have bP:d.2.D.length≤60000:=by omega
    omega
  ·intro aG V;refine mR (α:=fr) bg.p rfl bJ.u bg.i (c0 aS Z) aV fun cs bi=>?_;obtain⟨sv,ay,bR,bT,gs,rfl,bj,aW⟩:=rN bi;refine bO bg.i fun bk aa bU ad bl=>?_;refine b4 (vs:=[sv,.pointer (some ⟨ay,0,none⟩)]) bg.i rfl rfl (by intro v aB;simp at aB;rcases aB with rfl|rfl <;> first|exact bj.cells.2|rfl) bl fun aR bn bW aX=>?_;have aJ:Ext U aR:=ad.then bn (fun r bo he=>by have he:r=bk:=he;omega);rw[ah bg.p rfl,ai (by kernel_rfl) (aX.cell (o:=0+1) rfl)];refine (Cp (aW.ext aJ).is).mono ?_;rintro _ bX _ ⟨rfl,aL⟩;have bh:=ax.2.2.2.2.1;rw[aK,wrap_i64 (by omega) (by omega),ah bg.p rfl,ai (by kernel_rfl) ((aX.ext aL).cell (o:=0+1) rfl)];refine (tn ((aW.ext aJ).ext aL).is).mono ?_;rintro bY aM _ ⟨bp,bZ,b1,aY⟩;rw[aO ab.u aY.ls];have b2:d.2.an.length≤6:=by rw[ax.2.1,aA.sizes,o4];exact bd
   refine a8.range d.2.an.length (fun j out aC=>Ext aM aC∧ ∃ aj,aM.heap.size≤aj∧aq .i64 ae aC aj out (d.2.an.take j)) (by omega) ⟨Ext.refl _,aM.heap.size,o7 _,aq.nil _ _ _ _⟩ ?_ ?_
   ·rintro j out aC k bq ⟨ak,aj,br,al⟩ bt;obtain⟨z,am⟩:∃ z,d.2.an[j]? =some z:=⟨_,x3 bq⟩;rw[au,ag];refine⟨fun _=>?_,fun h=>by omega⟩;rw[bm ab.u J.i (by kernel_rfl) (aY.ls.ext ak) am];refine dW af.u ae.i rfl fun a b5 bu b6 ao bw=>?_;refine hb af.u ae.i rfl (al.ext ao) bw.ls (by simp;omega) (by simp;omega) fun b7 bx b9 ca bz bA=>?_;have cb:=ak.size;have cc:=ao.size;rw[aK];refine bt _ _ ⟨(ak.trans ao).then bA (fun r bo he=>by have he:r=aj:=he;omega),bx,by omega,?_⟩;rw[o3,am];exact bz
   ·rintro out aC k ⟨ak,aj,br,al⟩;rw[l5] at al;rw[au,ag];refine⟨fun h=>by omega,fun _=>?_⟩;rw[aT];have bB:d.2.an=x.sizes:=ax.2.1;rw[bB] at al;refine (wL al.ls fun z am=>?_).mono ?_
    ·rw[aA.sizes] at am;obtain⟨v,aB,rfl⟩:=l9.1 am;have cd:=aA.scope.2 v aB;refine (I.sizes.2.2 _ ?_).1;rw[p8,x3 (by omega)];exact T1 _
    ·rintro _ bu _ ⟨rfl,ao⟩;refine V _ _ _ ⟨(((aJ.trans aL).trans bp).trans ak).trans ao,by congr 1,by rw[be]⟩
 ·have bD:i=W.length:=by omega
  subst bD;rw[Y.1,l5] at bc;refine aZ (fun v aa=>U=aa∧v= .bool (decide (16384<(n:Int)))) ?_ ?_
  ·rintro _ _ ⟨rfl,rfl⟩;rw[ag];refine⟨fun h=>⟨E.trans Z,5,rfl,fun ce=>by omega⟩,fun h=>⟨E.trans Z,0,rfl,fun _=>rfl⟩⟩
  ·intro aG V;rw[aT,bV];exact V _ _ ⟨rfl,rfl⟩
theorem rO:∀ {a b:List Int} {i:Nat},(∀ (j:Nat) (x y:Int),j<i→a[j]? =some x→b[j]? =some y→x=y)→i≤a.length→i≤b.length→eQ a b=eQ (a.drop i) (b.drop i)
 |_,_,0,_,_,_=>by simp
 |[],_,i+1,_,h,_=>by simp at h
 |_::_,[],i+1,_,_,h=>by simp at h
 |x::a,y::b,i+1,he,h1,E=>by
  have I:=he 0 x y (by omega) rfl rfl;subst I;simp only[eQ,Int.lt_irrefl,if_false,List.drop_succ_cons];exact rO (fun j u v O hu J=>he (j+1) u v (by omega) hu J) (by simpa using h1) (by simpa using E)
theorem yg {x:Int} {w:x5}:O y0 cmp_isNaN_int [.int .i64 x] w fun v w'=>v= .bool false∧Ext w w':=by
 apply cmp_isNaN_int.enter;simp only[bN];exact⟨by simp,Ext.refl _⟩
theorem yh {x y:Int} {w:x5}:O y0 md [.int .i64 x,.int .i64 y] w fun v w'=>v= .int .i64 (if x<y then-1 else if y<x then 1 else 0)∧Ext w w':=by
 apply md.enter;refine yg.mono ?_;rintro _ U _ ⟨rfl,E⟩;refine yg.mono ?_;rintro _ V _ ⟨rfl,I⟩;simp only[aT,au,bV,ag];exact⟨fun h=>⟨by rw[if_pos h],E.trans I⟩,fun h=>⟨fun J=>⟨by rw[if_neg h,if_pos J],E.trans I⟩,fun J=>⟨by rw[if_neg h,if_neg J],E.trans I⟩⟩⟩
theorem Ef {af bv:x4} {a b:List Int} {w:x5} (V:aH .i64 w af a) (X:aH .i64 w bv b):O y0 oC [af,bv] w fun v w'=>v= .int .i64 (eQ a b)∧Ext w w':=by
 apply oC.enter;have aB:=V.le;rw[aO ab.u V];refine⟨fun _ Y ah=>∃ i:Nat,Y= .int .i64 (i:Int)∧i≤a.length∧i≤b.length∧Ext w ah∧ ∀ (j:Nat) (x y:Int),j<i→a[j]? =some x→b[j]? =some y→x=y,fun _ Y _=>a.length-(bM Y).toNat,⟨0,rfl,Z9 _,Z9 _,Ext.refl _,fun j x y ao=>by omega⟩,?_⟩;rintro _ _ ah ⟨i,rfl,ap,aq,E,ai⟩;have I:eQ a b=eQ (a.drop i) (b.drop i):=rO ai ap aq;simp only[au,ag];refine⟨fun W=>?_,fun aC=>?_⟩
 ·have W:i<a.length:=by omega
  obtain⟨x,Z⟩:∃ x,a[i]? =some x:=⟨_,x3 W⟩;have aj:a.drop i=x::a.drop (i+1):=by rw[Y8 W,(x6.1 Z).2]
  rw[bm ab.u J.i (by kernel_rfl) (V.ext E) Z,aO ab.u (X.ext E)];simp only[cV,ag];refine⟨fun h=>?_,fun h=>?_⟩
  ·have:b.drop i=[]:=by rw[List.drop_eq_nil_iff];omega
   rw[this,aj] at I;exact⟨by rw[I];rfl,E⟩
  have aa:i<b.length:=by omega
  obtain⟨y,ac⟩:∃ y,b[i]? =some y:=⟨_,x3 aa⟩;have av:b.drop i=y::b.drop (i+1):=by rw[Y8 aa,(x6.1 ac).2]
  rw[bm ab.u J.i (by kernel_rfl) (X.ext E) ac];refine yh.mono ?_;rintro _ aD _ ⟨rfl,ak⟩;rw[aj,av] at I;simp only[eQ] at I;simp only[bN,ag,aK];refine⟨fun al=>⟨?_,E.trans ak⟩,fun aw=>?_⟩
  ·rw[I];by_cases h1:x<y
   ·rw[if_pos h1,if_pos h1]
   ·by_cases U:y<x
    ·rw[if_neg h1,if_pos U,if_neg h1,if_pos U]
    ·rw[if_neg h1,if_neg U] at al;exact absurd rfl al
  ·rw[wrap_i64 (by omega) (by omega)];refine⟨⟨i+1,rfl,W,aa,E.trans ak,fun j ax ay ao ad ae=>?_⟩,by simp only[bM];omega⟩;by_cases az:j=i
   ·subst az;rw[Z] at ad;rw[ac] at ae;cases ad;cases ae;have am:=X2.1 aw;by_cases h1:x<y
    ·rw[if_pos h1] at am;omega
    ·by_cases U:y<x
     ·rw[if_neg h1,if_pos U] at am;omega
     ·omega
   ·exact ai j ax ay (by omega) ad ae
 ·have aA:i=a.length:=by omega
  subst aA;rw[List.drop_length] at I;rw[aO ab.u (V.ext E),aO ab.u (X.ext E)];simp only[au,ag];refine⟨fun h=>⟨?_,E⟩,fun h=>⟨?_,E⟩⟩
  ·obtain⟨y,l,e⟩:∃ y l,b.drop a.length=y::l:=⟨_,_,Y8 (by omega)⟩;rw[I,e];rfl
  ·have:b.drop a.length=[]:=by rw[List.drop_eq_nil_iff];omega
   rw[I,this];rfl
theorem Eg {x y:Int} {W:x4} {w:x5} (h:aH .i64 w W [x,y]):O y0 n2 [W] w fun v w'=>v= .int .i64 (if x≠0 then x else y)∧Ext w w':=by
 apply n2.enter;rw[aO ab.u h];refine a8.range 2 (fun i _ V=>Ext w V∧(1≤i→x=0)∧(2≤i→y=0)) (by omega) ⟨Ext.refl _,by omega,by omega⟩ ?_ ?_
 ·rintro i _ V k hi ⟨E,h1,I⟩ U;rw[au,ag];refine⟨fun _=>?_,fun h=>by simp at h;omega⟩
  match i,hi,h1,I,U with
  |0,_,h1,I,U=>
   rw[bm (i:=0) ab.u J.i (by kernel_rfl) (h.ext E) rfl,bN,ag];refine⟨fun X=>⟨by rw[if_pos X],E⟩,fun he=>?_⟩;rw[aK];exact U _ _ ⟨E,fun _=>X2.1 he,fun h=>by omega⟩
  |1,_,h1,I,U=>
   rw[bm (i:=1) ab.u J.i (by kernel_rfl) (h.ext E) rfl,bN,ag];have Y:=h1 (o7 _);refine⟨fun X=>⟨by rw[if_neg (by omega)],E⟩,fun he=>?_⟩;rw[aK];exact U _ _ ⟨E,fun _=>Y,fun _=>X2.1 he⟩
 ·rintro _ V k ⟨E,h1,I⟩;have Y:=h1 (by omega);have Z:=I (by omega);rw[au,ag];exact⟨fun h=>by simp at h,fun _=>⟨by rw[if_neg (by omega),Z],E⟩⟩
structure cj where
 sv:x4
 g:Nat
 sc:List Int
 cs:List Int
def dO (h:cj):List x4:=[h.sv,.pointer (some ⟨h.g,0,none⟩)]
abbrev hJ (h:cj):x4:=.agg (dO h).toArray
def p2 (h:cj):Int:=cD h.sc
def gI (w:x5) (E:Nat) (h:cj):Prop:=(∃ I,aq .i64 J w I h.sv h.sc)∧(∀ r,leads h.sv r→r≠E)∧hg h.sc
theorem gI.ad {S:Nat→Prop} {w w':x5} {E:Nat} {h:cj} (I:gI w E h) (J:aj S w w') (O:∀ r,leads h.sv r→¬S r):gI w' E h:=by
 obtain⟨⟨U,hm⟩,V⟩:=I;exact⟨⟨U,bp hm J O⟩,V⟩
theorem gI.one {w:x5} {E:Nat} {h:cj} (I:gI w E h):∀ u∈dO h,u.oneCell'=true:=by
 obtain⟨⟨J,hm⟩,_⟩:=I;intro u hu;simp[dO] at hu;rcases hu with rfl|rfl
 ·exact hm.ls.cells.2
 ·rfl
def eb (w:x5) (g:Nat) (v:x4) (L:List cj):Prop:=aW dO 2 bB w g v L∧ ∀ h∈L,gI w g h
theorem eb.ext {w w':x5} {g:Nat} {v:x4} {L:List cj} (h:eb w g v L) (E:Ext w w'):eb w' g v L:=⟨h.1.ext E,fun x I=>(h.2 x I).ad (E.ad fun _=>False) fun _ _ h=>h⟩
theorem eb.at {w:x5} {g:Nat} {v:x4} {L:List cj} (h:eb w g v L) {i:Nat} {x:cj} (hi:L[i]? =some x):gI w g x:=h.2 x (u4 hi)
theorem rP {w:x5} {g:Nat} {v:x4} {L:List cj} {i:Nat} {y:Int} {x:cj} {K:x4→Prop} (E:y=(i:Int)) (h:eb w g v L) (hi:L[i]? =some x):
  I y0 (x7 cX v (.int .i64 y)) w (fun p=>I y0 (x1 bB p) w K)=K (hJ x):=by
 rw[cI E cX.u bB.i h.1 (x6.1 hi).1,bI bB.p bB.i rfl (h.1.range hi)]
theorem Eh {w:x5} {g:Nat} {v:x4} {L:List cj} {i:Nat} {y:Int} {x:cj} {K:Unit→x5→Prop} (V:y=(i:Int)) (h:eb w g v L) (hi:i<L.length) (J:gI w g x)
  (W:∀ w',aj (fun r=>leadsTo v r) w w'→eb w' g v (L.set i x)→K () w'):I y0 (x7 cX v (.int .i64 y)) w fun p=>aa y0 (x8 bB p (hJ x)) w K:=by
 rw[cI V cX.u bB.i h.1 hi];refine Cs (f:=dO) bB.i h.1 rfl J.one hi fun w' O _ h'=>W w' O ⟨h',fun z E=>?_⟩;rcases V1 E with E|rfl
 ·exact (h.2 z E).ad O fun r U he=>(h.2 z E).2.1 r U (h.1.leads he).1
 ·exact J.ad O fun r U he=>J.2.1 r U (h.1.leads he).1
abbrev Ei:x4:=.func (.func mz) #[] #[]
def rQ (a b:cj):Int:=let c:Int:=if (a.sc.length:Int)<b.sc.length then-1 else if (b.sc.length:Int)<a.sc.length then 1 else 0
 if c≠0 then c else eQ a.sc b.sc
theorem Ej {a b:cj} (I:hg a.sc) (J:hg b.sc):rQ a b<0↔p2 a<p2 b:=by
 have O:=(tA I J).1;unfold p2 rQ;simp only;generalize U:(if (a.sc.length:Int)<b.sc.length then (-1:Int) else if (b.sc.length:Int)<a.sc.length then 1 else 0)=c;rw[O,←U];by_cases h1:(a.sc.length:Int)<b.sc.length
 ·rw[if_pos h1,if_pos (by omega)];exact⟨fun _=>.inl (by omega),fun _=>by omega⟩
 ·by_cases E:(b.sc.length:Int)<a.sc.length
  ·rw[if_neg h1,if_pos E,if_pos (by omega)];exact⟨fun h=>by omega,fun h=>by rcases h with h|h <;> omega⟩
  ·rw[if_neg h1,if_neg E,if_neg (by omega)];exact⟨fun h=>.inr ⟨by omega,h⟩,fun h=>by rcases h with h|h;omega;exact h.2⟩
theorem Ek {w:x5} {Z:Nat} {a b:cj} (ac:gI w Z a) (ad:gI w Z b):O y0 mz [hJ a,hJ b] w fun v w'=>Ext w w'∧v= .int .i64 (rQ a b):=by
 obtain⟨⟨au,W⟩,_,av⟩:=ac;obtain⟨⟨aw,X⟩,_,ax⟩:=ad;apply mz.enter;refine ce fun ae af ay ag I=>?_;refine ce fun aj al az aa U=>?_;have I:ak af ae bB [a.sv,.pointer (some ⟨a.g,0,none⟩)]:=by
  obtain⟨_,_,_,e⟩:=c6 W.ls;simp only[hJ,dO,e] at I ⊢;exact I
 have U:ak al aj bB [b.sv,.pointer (some ⟨b.g,0,none⟩)]:=by
  obtain⟨_,_,_,e⟩:=c6 X.ls;simp only[hJ,dO,e] at U ⊢;exact U
 intro aA Y _ _;have E:=(ag.trans aa).trans Y;have f1:=(I.ext aa).ext Y;have f2:=U.ext Y;rw[ah bB.p rfl,ai (by kernel_rfl) (f1.cell (o:=0+0) rfl),aO ab.u (W.ls.ext E),ah bB.p rfl,ai (by kernel_rfl) (f2.cell (o:=0+0) rfl),aO ab.u (X.ls.ext E),
  ah bB.p rfl,ai (by kernel_rfl) (f1.cell (o:=0+0) rfl),ah bB.p rfl,ai (by kernel_rfl) (f2.cell (o:=0+0) rfl)]
 refine yh.mono ?_;rintro _ aB _ ⟨rfl,V⟩;refine⟨.inl V,?_⟩;refine (Ef ((W.ls.ext E).ext V) ((X.ls.ext E).ext V)).mono ?_;rintro _ aC _ ⟨rfl,am⟩;refine q3 (l:=[if (a.sc.length:Int)<b.sc.length then (-1:Int) else if (b.sc.length:Int)<a.sc.length then 1 else 0,eQ a.sc b.sc]) ab.u J.i (by omega) rfl (by kernel_rfl) fun aD aE aF aG ao ap=>?_;refine (Eg ap.ls).mono ?_;rintro _ aH _ ⟨rfl,aq⟩;exact⟨((((E.trans V).trans am).trans ao).trans aq),rfl⟩
theorem El {w:x5} {g:Nat} {v:x4} {L:List cj} (h:eb w g v L) (Z:L.length<65536):
  O y0 u2 [v,Ei] w fun _ w'=>aj (fun r=>leadsTo v r) w w'∧ ∃ M,M.Perm L∧rx p2 M 0 M.length∧eb w' g v M:=by
 have J:∀ {U:x5} {a:cj},aj (fun r=>r=g) w U→gI w g a→gI U g a:=fun I E=>E.ad I fun r V he=>E.2.1 r V he;refine (xe CC (G:=gI w g) (num:=p2) (cf:=rQ) (cap:=#[]) CG CH (fun a E=>E.one) (fun a _=>rfl) (fun a b E W=>Ej E.2.2 W.2.2) (Enters.of y0 CI rfl (by kernel_rfl)) h.1 h.2 Z fun U a b I E W=>Ek (J I E) (J I W)).mono ?_;rintro _ w' _ ⟨I,M,Y,hu,hm⟩;have aa:aj (fun r=>r=g) w w':=I.mono fun r _ V=>(h.1.leads V).1;exact⟨I,M,Y,fun p q x y _ ab _ X ac=>hu p q x y ab X ac,hm,fun x X=>J aa (h.2 x (Y.mem_iff.1 X))⟩
theorem Em {l m:List Int} (J:ik l) (O:l.Nodup) (E:m.Perm l) (U:m.Pairwise (·≤ ·)):m=bd l:=by
 refine tB (f:=fun x=>x) ?_ (tz l) fun x=>?_
 ·have V:m.Nodup:=E.nodup_iff.2 O;exact (List.Pairwise.and U V).imp fun {a b} h=>by
   obtain⟨h1,I⟩:=h;have I:a≠b:=I;omega
 ·rw[E.mem_iff,pX J]
theorem En {l:List Int} (h:∀ z∈l,1≤z∧z≤32) (E:cS l=false):aG l≤4096:=by
 have:=of_decide_eq_false E;rw[tD h] at this;omega
set_option maxHeartbeats 4000000 in
theorem Eo {N:Nat} {w:x5} {f:bS} {cs:List x4} {d:fr} {x:ca} {m:Bool} {S R:av} (U:eh N f) (bI:N≤60000) (aw:x∈f.funs) (aV:p0 f.k x d) (aW:ax.rep m S R w cs d):
  O y0 oz [.agg cs.toArray] w fun v w'=>Ext w w'∧ ∃ sv gs X az aA,v= .tuple #[sv,.pointer (some ⟨X,0,none⟩)]∧w.heap.size≤gs∧aq .i64 J w' gs sv (bd x.scope)∧cG w' X az aA (bF f.sizes (bd x.scope)) f.k (fR f.sizes f.k x).2:=by
 obtain⟨sv,ay,bJ,bK,bM,rfl,ae,aX⟩:=rN aW;obtain⟨aY,aZ,a1,bN,bO,a2⟩:=aV;obtain⟨E,a6,a7⟩:=U.funs x aw;have aG:=rD E U.sizes.2.1;have bP:=E.len;rw[aY] at ae;have a8:∀ z∈x.sizes,1≤z∧z≤32:=fun z aH=>by
  rw[E.sizes] at aH;obtain⟨v,ba,rfl⟩:=l9.1 aH;have bQ:=E.scope.2 v ba;refine U.sizes.2.2 _ ?_;rw[p8,x3 (by omega)];exact T1 _
 have bb:=En a8 a7;have aB:=rC aG E.scope.1;have bR:(bd x.scope).length≤6:=by rw[aB.length_eq];exact a6
 apply oz.enter;refine ce fun be aI bT aJ Y=>?_;have Y:ak aI be bg [sv,.pointer (some ⟨ay,0,none⟩)]:=by obtain⟨_,_,_,rfl⟩:=c6 ae;exact Y
 rw[ah bg.p rfl,ai (by kernel_rfl) (Y.cell (o:=0+1) rfl)];refine (xV (aX.ext aJ).is (by omega)).mono ?_;rintro _ bf _ ⟨aD,_,Z⟩;rw[aZ] at Z;obtain⟨g,bU,bV,bh,rfl,bW,bX,Z,aL⟩:=Z bb;rw[a1] at Z;rw[aC (v:=.pointer (some ⟨g,0,none⟩)) rfl,aC (v:=.int .i64 0) rfl,ah bg.p rfl,ai (by kernel_rfl) ((Y.ext aD).cell (o:=0+0) rfl)];have aa:=aJ.trans aD;refine tG (ae.ext aa) (by omega) fun v aM gs bY af bZ bi bj al=>?_;have bk:=Em aG E.scope.1 bi bj;subst bk;have b1:=aa.size;rw[aO ab.u al.ls];refine hz (k:=.i64) ab.u J.i (by omega) (by omega) fun go aN b2 am aP=>?_;have bl:aq .i64 J aN go (.slice (some ⟨go,0,none⟩) (bd x.scope).length (bd x.scope).length) (p9 (bd x.scope).length 0):=aq.of (bL.full (k:=1) (n:=(bd x.scope).length) aP (by simp) (by simp[maxLen];omega));rw[aO ab.u (al.ls.ext am)];have b3:=aP.lt;have ao:(eR x.scope (bd x.scope)).length=(bd x.scope).length:=by simp[eR]
 have bn:=af.trans am;have b4:=aa.trans bn;refine bc.range (bd x.scope).length (fun i I=>aj (fun r=>r=go) aN I∧aq .i64 J I go (.slice (some ⟨go,0,none⟩) (bd x.scope).length (bd x.scope).length) ((eR x.scope (bd x.scope)).take i++p9 ((bd x.scope).length-i) 0)) (by omega) ⟨aj.refl _ _,by simpa using bl⟩ ?_ ?_
 ·rintro i I k hi ⟨ap,ac⟩ bo;obtain⟨v,aE⟩:∃ v,(bd x.scope)[i]? =some v:=⟨_,x3 hi⟩;have V:Ext aM I:=am.then ap (fun r aF he=>by have he:r=go:=he;omega);have bp:Ext w I:=(aa.trans af).trans V;have bq:v∈x.scope:=aB.mem_iff.1 (u4 aE);rw[au,ag];refine⟨fun _=>?_,fun h=>by omega⟩;rw[bm ab.u J.i (by kernel_rfl) (al.ls.ext V) aE];have br:Ext aI I:=(aD.trans af).trans V;rw[ah bg.p rfl,ai (by kernel_rfl) ((Y.ext br).cell (o:=0+0) rfl)];refine (x0 (ae.ext bp)).mono ?_;rintro _ bt _ ⟨W,r,rfl,aF⟩;have aQ:=nm bq;have bu:r=((x.scope.idxOf v:Nat):Int):=(aF _ aQ).2 fun j b5 bw=>by have:=ii E.scope.1 bw aQ;omega
  rw[gB rfl ab.u J.i (ac.ext W) (by simp[ao];omega)];refine gC J.i (ac.ext W) (by simp[ao];omega) fun b6 bx b7 aR=>?_;rw[aK];refine bo _ ⟨(ap.trans (W.ad _)).trans bx,?_⟩;have bz:(eR x.scope (bd x.scope))[i]? =some r:=by rw[bu];exact xP aE
  have e:((eR x.scope (bd x.scope)).take i++p9 ((bd x.scope).length-i) 0).set i r=(eR x.scope (bd x.scope)).take (i+1)++p9 ((bd x.scope).length-(i+1)) 0:=by
   have bA:((eR x.scope (bd x.scope)).take i).length=i:=by rw[l6,ao];omega
   rw[V2 _ _ (by omega),bA,W3,show (bd x.scope).length-i=((bd x.scope).length-(i+1))+1 by omega,List.replicate_succ,List.set_cons_zero,o3,bz,j5,W9];rfl
  rw[e] at aR;exact aR
 ·rintro I k ⟨ap,ac⟩;have V:Ext aM I:=am.then ap (fun r aF he=>by have he:r=go:=he;omega);have aS:Ext bf I:=af.trans V;rw[au,ag];refine⟨fun h=>by omega,fun _=>?_⟩;rw[W3,List.replicate_zero,U3,j0 (by omega)] at ac;have bB:∀ t,cM x.sizes t→cn x.sizes bh t=hC x f.k t:=fun t bC=>by rw[aL.2 t bC];exact a2 t
  obtain⟨aT,bD⟩:=Dp U aw aL.1 bB;have bE:Good (eR x.scope (bd x.scope)) x.sizes.length:=by
   rw[E.sizes,o4];exact rG E.scope.1 aB
  have bG:=(nl U aw);refine (D3 (Z.ext aS) U.k ac.ls (by rw[ao];omega) fun _=>?_).mono ?_
  ·rw[aT];exact bG.small
  ·rintro _ bt _ ⟨W,_,bH⟩;obtain⟨X,az,aA,rfl,aU⟩:=bH bE;rw[aC (v:=.pointer (some ⟨X,0,none⟩)) rfl,aC (v:=.int .i64 0) rfl];rw[aT,bD] at aU;exact⟨(aa.trans aS).trans W,v,gs,X,az,aA,rfl,by omega,(al.ext V).ext W,aU⟩
theorem Ep {P:X1} {w:x5} {t ty e I:o6} {k W g o n cap:Nat} {z:x4} {cs:List x4} {K:x4→x5→Prop} (J:P.underlying t=some (.slice e)) (hi:aI P e k W z) (X:z.cells.size=k) (h1:∀ u∈dd z.cells (n*k),u.oneCell'=true)
  (E:ak w g I cs) (af:o+n*k≤cs.length) (O:∀ w',aj (fun r=>r=g) w w'→ak w' g I (over cs o (dd z.cells (n*k)))→K (.tuple #[]) w'):aa P (u7.clear_ #[t] ty #[.slice (some ⟨g,o,none⟩) n cap]) w K:=by
 obtain⟨i,hi,ag,rfl,Y⟩:=hi;have Z:∀ w,(zeroValue e).run P w= .ok z w:=fun w=>by simp[zeroValue,typeInfo,hi,Y]
 have ab:(u7.zeroCells z.cells n).toList=dd z.cells (n*k):=by
  unfold u7.zeroCells dd;rw[X]
 have U:=run_storeCells_cells (P:=P) g o (dd z.cells (n*k)) 0 w (fun j ac=>by
   rw[mQ] at ac;rw[Nat.add_zero,E.cell (x3 (show o+j<cs.length by omega))];rfl) (fun j _=>E.frozen _ _) h1
 simp only[Nat.add_zero] at U;obtain⟨ae,V⟩:=li (dd z.cells (n*k)) cs o w E;rcases Nat.eq_zero_or_pos n with rfl|ah
 ·refine .of (v:=.tuple #[]) (w':=w) (by simp[u7.clear_,run_underlying J]) (cP.refl _) (O w (aj.refl _ _) ?_);rw[Nat.zero_mul,j9 (mQ z.cells 0)];exact E
 ·obtain⟨m,rfl⟩:∃ m,n=m+1:=⟨n-1,by omega⟩;refine .of (v:=.tuple #[]) (w':=_) (by simp[u7.clear_,run_underlying J,Z,ab,U]) (V.db E) (O _ V.ad ae)
theorem dr {α:Type} {f:α→List x4} {k:Nat} {e:o6} {w:x5} {g:Nat} {v:x4} {L:List α} (h:aW f k e w g v L) {r:Nat} (E:leadsTo v r):r=g∧ ∃ cs,ak w g e cs:=by
 obtain⟨_,⟨rfl,_⟩|⟨cap,cs,rfl,I,_⟩⟩:=h.1
 ·exact (dI E).elim
 ·obtain⟨a,n,c,h1,J⟩:=E;cases h1;exact⟨J.symm,cs,I⟩
theorem Er {α:Type} {f:α→List x4} {k:Nat} {e:o6} {w:x5} {g:Nat} {v:x4} {L:List α} (h:aW f k e w g v L) (E:L≠[]):∃ cs n c,v= .slice (some ⟨g,0,none⟩) n c∧ak w g e cs:=by
 obtain⟨_,⟨rfl,I⟩|⟨cap,cs,rfl,J,_⟩⟩:=h.1
 ·exact absurd (j9 I) E
 ·exact⟨cs,_,_,rfl,J⟩
theorem eb.mk {w:x5} {g:Nat} {v:x4} {L:List cj} (h:aW dO 2 bB w g v L) (I:∀ x∈L,(∃ O,aq .i64 J w O x.sv x.sc)∧hg x.sc):eb w g v L:=by
 refine⟨h,fun x E=>⟨(I x E).1,fun r U=>?_,(I x E).2⟩⟩;obtain⟨cs,n,c,_,V⟩:=Er h (fun W=>by rw[W] at E;cases E);obtain⟨⟨O,hm⟩,_⟩:=I x E;exact bW hm V (by decide) U
def Sem (w:x5) (k:Int) (sizes:List Int) (L:List cj):Prop:=∀ x∈L,∃ E I,cG w x.g E I (bF sizes x.sc) k x.cs
theorem tK {w w':x5} {S:Nat→Prop} {g V:Nat} {W:x4} {an cs:List Int} {k:Int} (h:cG w g V W an k cs) (J:aj S w w') (O:∀ r,S r→ ∃ c,ak w r bB c):cG w' g V W an k cs:=by
 obtain⟨⟨aM,gs,h1,X,Y⟩,Z⟩:=h;refine⟨⟨aM,gs,h1.ad J fun I=>?_,bp X J fun r U I=>?_,bp Y J fun r U I=>?_⟩,Z⟩
 ·obtain⟨c,E⟩:=O g I;unfold ak at h1 E;rw[h1] at E;have:=(Obj.cells.inj (b9 E)).2.1;exact absurd this (by decide)
 ·obtain⟨c,E⟩:=O r I;exact bW X E (by decide) U rfl
 ·obtain⟨c,E⟩:=O r I;exact bW Y E (by decide) U rfl
theorem Sem.ext {w w':x5} {k:Int} {sizes:List Int} {L:List cj} (h:Sem w k sizes L) (E:Ext w w'):Sem w' k sizes L:=fun x I=>by
 obtain⟨J,O,U⟩:=h x I;exact⟨J,O,U.ext E⟩
theorem Sem.row {w w':x5} {k:Int} {sizes:List Int} {L M:List cj} {g:Nat} {v:x4} (h:Sem w k sizes L) (E:eb w g v M) (I:aj (fun r=>leadsTo v r) w w'):Sem w' k sizes L:=fun x J=>by
 obtain⟨O,U,V⟩:=h x J;exact⟨O,U,tK V I fun r W=>by obtain⟨rfl,c,X⟩:=dr E.1 W;exact⟨c,X⟩⟩
def dk (h:cj):ch:=(h.sc,h.cs)
theorem Es {c:Int} {w:x5}:O y0 kY [.int .i64 c] w fun v w'=>v= .bool (decide (0<c))∧Ext w w':=by
 apply kY.enter;rw[bV];exact⟨rfl,Ext.refl _⟩
theorem Et {sv:x4} {l:List Int} {w:x5} (h:aH .i64 w sv l):
  O y0 oA [sv,.func (.func kY) #[] #[]] w fun v w'=>v= .bool (l.any fun c=>decide (0<c))∧Ext w w':=by
 apply oA.enter;refine O.mono (K:=fun v w'=>Ext w w'∧ ∃ r:Int,v= .int .i64 r∧(0≤r↔ ∃ c∈l,0<c)) ?_ ?_
 ·apply qD.enter;rw[aO af.u h];refine a8.range l.length (fun i _ U=>Ext w U∧ ∀ c∈l.take i,¬0<c) h.le ⟨Ext.refl _,fun c E=>by simp at E⟩ ?_ ?_
  ·rintro i _ U k hi ⟨I,V⟩ Y;rw[au,ag];refine⟨fun _=>?_,fun h=>by omega⟩;obtain⟨x,W⟩:∃ x,l[i]? =some x:=⟨_,x3 hi⟩;rw[bm af.u ae.i (by kernel_rfl) (h.ext I) W];show O y0 kY [.int .i64 x] U _;refine Es.mono ?_;rintro _ ab _ ⟨rfl,X⟩;rw[ag];refine⟨fun J=>⟨I.trans X,i,rfl,⟨fun _=>⟨x,u4 W,J⟩,fun _=>by omega⟩⟩,fun Z=>?_⟩;rw[aK];refine Y _ _ ⟨I.trans X,fun c E=>?_⟩;rw[o3,W] at E;rcases n0.1 E with E|E
   ·exact V c E
   ·simp at E;subst E;exact Z
  ·rintro _ U k ⟨I,V⟩;rw[l5] at V;rw[au,ag];exact⟨fun h=>by omega,fun _=>⟨I,-1,rfl,⟨fun h=>by omega,fun⟨c,E,J⟩=>absurd J (V c E)⟩⟩⟩
 ·rintro _ U _ ⟨I,r,rfl,aa⟩;rw[cV];refine⟨?_,I⟩;congr 1;rw[X8,decide_eq_true_eq,List.any_eq_true,aa];exact⟨fun⟨c,E,J⟩=>⟨c,E,decide_eq_true J⟩,fun⟨c,E,J⟩=>⟨c,E,of_decide_eq_true J⟩⟩
theorem yi {w:x5} {J U:Nat} {x:cj} {V:x4} {an:List Int} {k:Int} (W:gI w J x) (X:cG w x.g U V an k x.cs):O y0 jp [hJ x] w fun v w'=>v= .bool (!eF (dk x))∧Ext w w':=by
 obtain⟨⟨ad,hm⟩,_⟩:=W;apply jp.enter;refine ce fun Y Z ae I E=>?_;have E:ak Z Y bB [x.sv,.pointer (some ⟨x.g,0,none⟩)]:=by
  obtain⟨_,_,_,e⟩:=c6 hm.ls;simp only[hJ,dO,e] at E ⊢;exact E
 rw[ah bB.p rfl,ai (by kernel_rfl) (E.cell (o:=0+1) rfl)];refine (ko (X.ext I)).mono ?_;rintro af ag _ ⟨aa,aj,al,ab⟩;refine (Et ab.ls).mono ?_;rintro _ am _ ⟨rfl,ac⟩;rw[b3];exact⟨rfl,(I.trans aa).trans ac⟩
theorem Eu {w:x5} {g:Nat} {v:x4} {L:List cj} {k:Int} {sizes:List Int} (h:eb w g v L) (Y:Sem w k sizes L):
  O y0 jZ [v,.func (.func jp) #[] #[]] w fun r w'=>Ext w w'∧((r= .int .i64 (-1)∧ ∀ x∈L,eF (dk x)=true)∨ ∃ i:Nat,r= .int .i64 (i:Int)∧i<L.length∧(∀ x∈L.take i,eF (dk x)=true)∧ ∀ x,L[i]? =some x→eF (dk x)=false):=by
 apply jZ.enter;rw[dZ cX.u h.1];refine a8.range L.length (fun i _ V=>Ext w V∧ ∀ x∈L.take i,eF (dk x)=true) h.1.le ⟨Ext.refl _,fun c E=>by simp at E⟩ ?_ ?_
 ·rintro i _ V k hi ⟨I,J⟩ Z;rw[au,ag];refine⟨fun _=>?_,fun h=>by omega⟩;obtain⟨x,U⟩:∃ x,L[i]? =some x:=⟨_,x3 hi⟩;rw[rP rfl (h.ext I) U];show O y0 jp [hJ x] V _;obtain⟨ad,ae,aa⟩:=Y x (u4 U);refine (yi ((h.ext I).at U) (aa.ext I)).mono ?_;rintro _ af _ ⟨rfl,W⟩;rw[cE];refine⟨fun ab=>⟨I.trans W,.inr ⟨i,rfl,hi,J,fun y X=>by rw[U] at X;cases X;simpa using ab⟩⟩,fun ac=>?_⟩;rw[aK];refine Z _ _ ⟨I.trans W,fun c E=>?_⟩;rw[o3,U] at E;rcases n0.1 E with E|E
  ·exact J c E
  ·simp at E;subst E;simpa using ac
 ·rintro _ V k ⟨I,J⟩;rw[l5] at J;rw[au,ag];exact⟨fun h=>by omega,fun _=>⟨I,.inl ⟨rfl,J⟩⟩⟩
def eS (x:cj):Bool:=eF (dk x)
theorem tL {L:List cj} {j:Nat} {x:cj} (E:L[j]? =some x):(L.take (j+1)).filter eS=if eS x=true then (L.take j).filter eS++[x] else (L.take j).filter eS:=by
 rw[o3,E,j5,List.filter_append];by_cases h:eS x=true
 ·rw[if_pos h];simp[h]
 ·rw[if_neg h];simp[h]
theorem yj {z:Array x4} {n:Nat} (E:0<z.size) (h:∀ u∈z.toList,u.oneCell'=true):∀ u∈dd z n,u.oneCell'=true:=fun u hu=>by
 unfold dd at hu;rw[Array.toList_map,l9] at hu;obtain⟨i,_,rfl⟩:=hu;have I:i % z.size<z.size:=Nat.mod_lt _ E;rw[getElem!_pos z (i % z.size) I];exact h _ (by simp)
set_option maxHeartbeats 4000000 in
theorem Ev {w:x5} {g:Nat} {v:x4} {L:List cj} {k:Int} {sizes:List Int} (h:eb w g v L) (az:Sem w k sizes L) (bo:L.length≤100000):
  O y0 oB [v,.func (.func jp) #[] #[]] w fun J w'=>aj (fun r=>leadsTo v r) w w'∧eb w' g J (L.filter eS)∧ ∀ r,leadsTo J r→leadsTo v r:=by
 apply oB.enter;refine (Eu h az).mono ?_;rintro r bp _ ⟨ae,U⟩;rcases U with⟨rfl,am⟩|⟨af,rfl,aO,am,aP⟩
 ·rw[bQ,ag];refine⟨fun _=>⟨ae.ad _,?_,fun r U=>U⟩,fun h=>absurd rfl h⟩;rw[List.filter_eq_self.2 (show ∀ x∈L,eS x=true from am)];exact h.ext ae
 rw[bQ,ag];refine⟨fun h=>by omega,fun _=>?_⟩;rw[aK,wrap_i64 (by omega) (by omega)];obtain⟨ao,aA⟩:∃ x,L[af]? =some x:=⟨_,x3 aO⟩;refine⟨fun ap aq V=>∃ (i j:Nat) (M:List cj),ap= .int .i64 (i:Int)∧aq= .int .i64 (j:Int)∧i<j∧j≤L.length∧M.length=L.length∧M.take i=(L.take j).filter eS∧M.drop j=L.drop j∧(∀ x∈M,x∈L)∧eb V g v M∧aj (fun r=>leadsTo v r) w V,
  fun _ aq _=>L.length-(bM aq).toNat,⟨af,af+1,L,rfl,by congr 1,by omega,by omega,rfl,?_,rfl,fun x W=>W,h.ext ae,ae.ad _⟩,?_⟩
 ·have aQ:¬eS ao=true:=by rw[show eS ao=false from aP ao aA];simp
  rw[tL aA,if_neg aQ,List.filter_eq_self.2 (show ∀ x∈L.take af,eS x=true from am)]
 rintro _ _ V ⟨i,j,M,rfl,rfl,bq,br,aB,Y,aC,aD,E,ah⟩;have aR:Sem V k sizes L:=az.row h ah;rw[dZ cX.u E.1,au,ag];refine⟨fun av=>?_,fun bt=>?_⟩
 ·have av:j<L.length:=by omega
  obtain⟨x,W⟩:∃ x,L[j]? =some x:=⟨_,x3 av⟩;have ai:M[j]? =some x:=by
   have h1:(M.drop j)[0]? =(L.drop j)[0]?:=by rw[aC]
   rw[List.getElem?_drop,List.getElem?_drop,Nat.add_zero] at h1;rw[h1,W]
  have aE:M.drop (j+1)=L.drop (j+1):=by
   have h1:(M.drop j).drop 1=(L.drop j).drop 1:=by rw[aC]
   rw[List.drop_drop,List.drop_drop] at h1;exact h1
  refine aZ (fun ap ak=>∃ (ab:Nat) (X:List cj),ap= .int .i64 (ab:Int)∧ab<j+1∧X.length=L.length∧X.take ab=(L.take (j+1)).filter eS∧X.drop (j+1)=L.drop (j+1)∧(∀ x∈X,x∈L)∧eb ak g v X∧aj (fun r=>leadsTo v r) w ak) ?_ ?_
  ·rintro _ ak ⟨ab,X,rfl,h1,aw,aS,aT,aU,aV,aW⟩;rw[aK,wrap_i64 (by omega) (by omega)];exact⟨⟨ab,j+1,X,rfl,rfl,h1,av,aw,aS,aT,aU,aV,aW⟩,by simp only[bM];omega⟩
  ·intro bu aF;rw[rP rfl E ai];refine bO bB.i fun aX ak bw aY a1=>?_;refine b4 (vs:=dO x) bB.i rfl rfl (E.at ai).one a1 fun aG a2 bx aH=>?_;have ax:Ext V aG:=aY.then a2 (fun r U he=>by have he:r=aX:=he;omega);rw[bI bB.p bB.i rfl aH.range];show O y0 jp [hJ x] aG _;obtain⟨bz,bA,a6⟩:=aR x (u4 W);refine (yi ((E.ext ax).at ai) (a6.ext ax)).mono ?_;rintro _ bC _ ⟨rfl,aI⟩;have ac:=ax.trans aI;rw[b3,Bool.not_not,cE];refine⟨fun a7=>?_,fun a8=>?_⟩
   ·rw[bI bB.p bB.i rfl (aH.ext aI).range];refine Eh rfl (E.ext ac) (by omega) ((E.ext ac).at ai) fun bD ba bb=>?_;rw[aK,wrap_i64 (by omega) (by omega)];refine aF _ _ ⟨i+1,M.set i x,rfl,by omega,by simp[aB],?_,?_,fun y Z=>?_,bb,(ah.trans (ac.ad _)).trans ba⟩
    ·have ay:eS x=true:=a7;rw[tL W,if_pos ay,o3,V7 (by omega),j5,List.take_set_of_le (o7 _),Y]
    ·rw[List.drop_set_of_lt (by omega),aE]
    ·rcases V1 Z with Z|rfl
     ·exact aD y Z
     ·exact u4 W
   ·have ay:¬eS x=true:=by rw[show eS x=false from a8];simp
    exact aF _ _ ⟨i,M,rfl,by omega,aB,by rw[tL W,if_neg ay,Y],aE,aD,E.ext ac,ah.trans (ac.ad _)⟩
 ·have bc:j=L.length:=by omega
  subst bc;rw[l5] at Y;obtain⟨⟨bE,bd⟩,aJ⟩:=E.1;rcases bd with⟨_,bF⟩|⟨cap,cs,be,bf,bG,bg,bh,bi⟩
  ·omega
  subst be;have bj:(I y0 (c7 cX (.slice (some ⟨g,0,none⟩) M.length cap) (some (.int .i64 (i:Int))) none none) V fun bk=>
    aa y0 (u7.clear_ #[cX] qJ #[bk]) V fun u al=>
    I y0 (c7 cX (.slice (some ⟨g,0,none⟩) M.length cap) none (some (.int .i64 (i:Int))) none) al fun bl=>
    (fun J w'=>aj (fun r=>leadsTo (.slice (some ⟨g,0,none⟩) M.length cap) r) w w'∧eb w' g J (L.filter eS)∧ ∀ r,leadsTo J r→leadsTo (.slice (some ⟨g,0,none⟩) M.length cap) r) bl al):=by
   rw[gz (l:=i) (h:=M.length) (m:=cap) cX.u bB.i (lg i _ rfl) h4 eY (by omega) (by omega) (o7 _),if_neg (by omega)];simp only[b6,V9];refine Ep (g:=g) (o:=0+i*2) (n:=M.length-i) (k:=2) cX.u bB.i rfl ?_ bf (by omega) fun al aL bm=>?_
   ·exact yj (by decide) (by decide)
   rw[gz (l:=0) (h:=i) (m:=cap) cX.u bB.i h3 (lh i _ rfl) eY (by omega) (by omega) (o7 _),if_neg (by omega)];simp only[b6,V9,Nat.zero_mul,V5,Nat.sub_zero];have bn:(dd (x4.agg #[.slice none 0 0,.pointer none]).cells ((M.length-i)*2)).length=(M.length-i)*2:=mQ _ _;have bH:(M.flatMap dO).length=M.length*2:=gl aJ;have aM:(L.filter eS).length=i:=by rw[←Y,l6];omega
   have key:(fun J w'=>aj (fun r=>leadsTo (.slice (some ⟨g,0,none⟩) M.length cap) r) w w'∧eb w' g J (L.filter eS)∧ ∀ r,leadsTo J r→leadsTo (.slice (some ⟨g,0,none⟩) M.length cap) r) (.slice (some ⟨g,0,none⟩) (L.filter eS).length cap) al:=by
    refine⟨ah.trans (aL.mono fun r _ he=>⟨_,_,_,rfl,he.symm⟩),⟨⟨⟨gl (k:=2) (fun y _=>rfl),.inr ⟨cap,_,rfl,bm,by omega,bg,by rw[mP,bh],?_⟩⟩,fun y _=>rfl⟩,fun y Z=>?_⟩,fun r U=>?_⟩
    ·rw[aM,←Y,←pQ i aJ,←bi,List.take_take,kd (by rw[bn];omega),W9,List.take_append_of_le_length (by rw[l6];omega),List.take_take];congr 1;omega
    ·have aN:y∈M:=by rw[←Y] at Z;exact List.mem_of_mem_take Z
     exact (E.2 y aN).ad aL fun r U he=>(E.2 y aN).2.1 r U he
    ·obtain⟨a,n,c,h1,aw⟩:=U;cases h1;exact⟨_,_,_,rfl,aw⟩
   rw[aM] at key;exact key
  exact bj
theorem tM {k:o8} {e:o6} {w:x5} {g n cap:Nat} {b:Option Addr} {l:List Int} (h:aq k e w g (.slice b n cap) l) (V:0<l.length):
  b=some ⟨g,0,none⟩∧n=l.length∧ ∃ cs,ak w g e cs∧n≤cap∧cap≤maxLen∧cs.length=cap∧cs.take n=ints k l:=by
 obtain⟨_,⟨_,h1⟩|⟨W,cs,h1,E,I,J,O,U⟩⟩:=h
 ·omega
 ·cases h1;exact⟨rfl,rfl,cs,E,I,J,by simpa using O,by simpa using U⟩
theorem Ew {w:x5} {g n cap j:Nat} {l:List Int} (h:aq .i64 J w g (.slice (some ⟨g,0,none⟩) n cap) l) (O:j<l.length):aH .i64 w (.slice (some ⟨g,j,none⟩) (n-j) (cap-j)) (l.drop j):=by
 obtain⟨_,U,cs,E,h1,V,W,I⟩:=tM h (by omega);have:=A4 (o:=j) (k:=n-j) (c:=cap-j) E (by omega) (by omega) (by omega);refine aH.of (n:=n-j) ?_;have e:(cs.drop j).take (n-j)=ints .i64 (l.drop j):=by
  rw[←List.drop_take,I,ints,ints,List.map_drop]
 rw[e] at this;exact this
set_option maxHeartbeats 1000000 in
theorem Ex {sv:x4} {l:List Int} {g:Nat} {w:x5} (h:aq .i64 J w g sv l) (bg:l.length≤1000):
  O y0 oL [sv] w fun v w'=>aj (fun r=>r=g) w w'∧aq .i64 J w' g v (dedup l l.length):=by
 apply oL.enter;rw[aO ab.u h.ls];simp only[au,ag];refine⟨fun bh=>⟨aj.refl _ _,?_⟩,fun bi=>?_⟩
 ·rw[rM (o7 _) (fun i hi ax=>by omega),l5];exact h
 obtain⟨n,V⟩:∃ n,l.length=n:=⟨_,rfl⟩;obtain⟨cap,rfl⟩:∃ cap,sv= .slice (some ⟨g,0,none⟩) n cap:=by
  obtain⟨_,⟨_,h1⟩|⟨aM,cs,h1,_⟩⟩:=id h
  ·omega
  ·exact⟨aM,by rw[h1,V]⟩
 obtain⟨_,_,_,_,bj,aN,_⟩:=tM h (by omega);refine⟨fun _ t ay=>∃ j:Nat,t= .int .i64 (j:Int)∧1≤j∧j≤n∧Ext w ay∧ ∀ i,i<j→0<i→l[i]? ≠l[i-1]?,fun _ t _=>n-(bM t).toNat,⟨1,rfl,by omega,by omega,Ext.refl _,fun i h1 az=>by omega⟩,?_⟩;rintro bk _ ay ⟨j,rfl,bl,aA,W,ae⟩;rw[aO ab.u (h.ls.ext W)];simp only[au,ag,aQ];refine⟨fun aP bn aR _ _=>?_,fun bo=>⟨W.ad _,?_⟩⟩
 ·have aP:j<n:=by omega
  have X:=W.trans aR;have aB:=h.ls.ext X;obtain⟨a,af⟩:∃ a,l[j]? =some a:=⟨_,x3 (by omega)⟩;obtain⟨b,ah⟩:∃ b,l[j-1]? =some b:=⟨_,x3 (by omega)⟩;rw[bm ab.u J.i (by kernel_rfl) aB af];simp only[dD];rw[wrap_i64 (by omega) (by omega),eE (i:=j-1) (by omega) ab.u J.i (by kernel_rfl) aB ah];simp only[bQ,ag,aK];refine⟨fun ai=>?_,fun ai=>?_⟩
  ·subst ai;rw[gz ab.u J.i (l:=j) (h:=n) (m:=cap) qO h4 eY (by omega) (by omega) (by omega),if_neg (by omega)];have aS:X9 (fun x:Addr=>x.add (j*1)) (some ⟨g,0,none⟩)=some ⟨g,j,none⟩:=by simp[V9]
   rw[aS];have aC:dedup l (j+1)=l.take j:=by rw[tH (by omega) (by rw[af,ah]),rM (by omega) ae]
   refine⟨fun ak t al=>∃ (q E:Nat) (I:List Int),ak= .int .i64 (q:Int)∧t= .int .i64 (E:Int)∧1≤E∧j+E≤n∧aj (fun r=>r=g) w al∧aq .i64 J al g (.slice (some ⟨g,0,none⟩) n cap) I∧I.length=n∧
     q=(dedup l (j+E)).length∧I.take q=dedup l (j+E)∧q≤j+E-1∧ ∀ i,j+E-1≤i→I[i]? =l[i]?,fun _ t _=>n-(bM t).toNat,
    ⟨j,1,l,rfl,rfl,by omega,by omega,X.ad _,h.ext X,V,by rw[aC,l6];omega,by rw[aC],by omega,fun i _=>rfl⟩,?_⟩
   rintro _ _ al ⟨q,E,I,rfl,rfl,bp,bq,am,aD,aE,aF,Y,aT,Z⟩;rw[gf ab.u];simp only[au,ag,aQ];refine⟨fun aG=>?_,fun aG=>?_⟩
   ·have aG:j+E<n:=by omega
    refine aZ (fun ak ao=>∃ (q:Nat) (I:List Int),ak= .int .i64 (q:Int)∧aj (fun r=>r=g) w ao∧aq .i64 J ao g (.slice (some ⟨g,0,none⟩) n cap) I∧I.length=n∧
     q=(dedup l (j+(E+1))).length∧I.take q=dedup l (j+(E+1))∧q≤j+(E+1)-1∧ ∀ i,j+(E+1)-1≤i→I[i]? =l[i]?) ?_ ?_
    ·rintro _ ao ⟨q,I,rfl,h1,az,aU,aV,aW,aX,aY⟩;simp only[aK];rw[wrap_i64 (by omega) (by omega)];exact⟨⟨q,E+1,I,rfl,rfl,by omega,by omega,h1,az,aU,aV,aW,aX,aY⟩,by simp only[bM];omega⟩
    ·intro br aH bt ap _ _;have aa:=aD.ext ap;have av:=Ew (j:=j) aa (by omega);obtain⟨y,ac⟩:∃ y,l[j+E]? =some y:=⟨_,x3 (by omega)⟩;obtain⟨z,aw⟩:∃ z,l[j+E-1]? =some z:=⟨_,x3 (by omega)⟩;have aI:(I.drop j)[E]? =some y:=by rw[List.getElem?_drop,Z _ (by omega),ac]
     have a1:(I.drop j)[E-1]? =some z:=by rw[List.getElem?_drop,Z _ (by omega),←aw];congr 1;omega
     rw[bm ab.u J.i (by kernel_rfl) av aI];simp only[dD];rw[wrap_i64 (by omega) (by omega),eE (i:=E-1) (by omega) ab.u J.i (by kernel_rfl) av a1];simp only[bN,ag,aK];refine⟨fun U=>?_,fun U=>?_⟩
     ·rw[bm ab.u J.i (by kernel_rfl) av aI,gB rfl ab.u J.i aa (by omega)];refine gC J.i aa (by omega) fun bu a2 bw a6=>?_;rw[wrap_i64 (by omega) (by omega)];have aJ:dedup l (j+E+1)=dedup l (j+E)++[y]:=tI ac (fun _=>by rw[ac,aw];simpa using U);refine aH _ _ ⟨q+1,_,rfl,(am.trans (ap.ad _)).trans a2,a6,by simpa using aE,?_,?_,by omega,fun i hi=>?_⟩
      ·rw[←Nat.add_assoc,aJ];simp;omega
      ·rw[←Nat.add_assoc,aJ,o3,V7 (by omega),List.take_set_of_le (o7 _),Y];rfl
      ·rw[List.getElem?_set_ne (by omega)];exact Z i (by omega)
     ·have U:y=z:=X2.1 U;have aL:dedup l (j+E+1)=dedup l (j+E):=tH (by omega) (by rw[ac,aw,U]);exact aH _ _ ⟨q,I,rfl,am.trans (ap.ad _),aa,aE,by rw[←Nat.add_assoc,aL];exact aF,by rw[←Nat.add_assoc,aL];exact Y,by omega,fun i hi=>Z i (by omega)⟩
   ·have a7:j+E=n:=by omega
    rw[a7] at aF Y aT;obtain⟨_,_,cs,a8,_,_,bx,ba⟩:=tM aD (by omega);simp only[maxLen] at aN;rw[gz ab.u J.i (l:=q) (h:=n) (m:=cap) qO h4 eY (by omega) (by omega) (by omega),if_neg (by omega)];have bb:X9 (fun x:Addr=>x.add (q*1)) (some ⟨g,0,none⟩)=some ⟨g,q,none⟩:=by simp[V9]
    rw[bb];refine A5 ab.u J.i rfl rfl a8 (by omega) (by omega) fun bz bc bA bd=>?_;rw[gz ab.u J.i (l:=0) (h:=q) (m:=cap) h3 qP eY (by omega) (by omega) (by omega),if_neg (by omega)];have be:X9 (fun x:Addr=>x.add (0*1)) (some ⟨g,0,none⟩)=some ⟨g,0,none⟩:=by simp[V9]
    rw[be,V];refine⟨am.trans bc,?_⟩;rw[←Y];refine aq.of (n:=q) ⟨by simp;omega,.inr ⟨cap,_,by simp,bd,by omega,by simp only[maxLen];omega,by rw[mP];omega,?_⟩⟩;rw[U9];apply X6;intro i;by_cases hi:i<q
    ·rw[Z6 hi,pn _ _ _ (by simp;omega),if_neg (by omega),ints,r8,Z6 hi];have:(cs.take n)[i]? =(ints .i64 I)[i]?:=by rw[ba]
     rw[Z6 (by omega),ints,r8] at this;exact this
    ·rw[Z8 (by simp;omega),Z8 (by simp;omega)]
  ·rw[wrap_i64 (by omega) (by omega)];refine⟨⟨j+1,rfl,by omega,by omega,X,fun i hi ax=>?_⟩,by simp only[bM];omega⟩;by_cases bf:i=j
   ·subst bf;rw[af,ah];intro he;exact ai (b9 he)
   ·exact ae i (by omega) ax
 ·have aA:j=n:=by omega
  rw[rM (o7 _) (by rw[V,←aA];exact ae),l5];exact h.ext W
theorem Ey {n:Nat} {w:x5} (ad:n≤1000000):O y0 oX [.slice none 0 0,.int .i64 (n:Int)] w fun v w'=>Ext w w'∧ ∃ g,w.heap.size≤g∧aq .i64 J w' g v []:=by
 apply oX.enter;refine dF (fun I=>w=I) ?_ ?_
 ·rintro _ rfl;refine aZ (fun v w'=>Ext w w'∧ ∃ g,w.heap.size≤g∧aq .i64 J w' g v []) (fun _ _ h=>h) fun U E=>?_;rw[vI ab.u,gf ab.u];simp only[dD];have V:Y9.wrap (((0:Nat):Int)-((0:Nat):Int))=0:=by decide
  have W:Y9.wrap ((n:Int)-0)=n:=by rw[wrap_i64 (by omega) (by omega)];omega
  rw[V,W];simp only[bV,ag];refine⟨fun h=>?_,fun h=>E _ _ ⟨Ext.refl _,w.heap.size,o7 _,aq.nil _ _ _ _⟩⟩;rw[vI ab.u,gz ab.u J.i (l:=0) (h:=0) (m:=0) h3 qP eY (by omega) (by omega) (by omega),if_pos rfl];refine A3 (k:=n) (xs:=[]) rfl ab.u J.u J.i rfl ⟨rfl,0,0,none,0,rfl,o7 _,Z9 _,fun h=>absurd h (Nat.lt_irrefl _),fun j v h=>by simp at h⟩ (by omega) (by omega) (by omega) (by omega) fun v g w' ae X hm=>?_;obtain⟨_,⟨_,af⟩|⟨cap,cs,rfl,Y,h1,Z,aa,ah⟩⟩:=hm
  ·omega
  rw[gf ab.u,gz ab.u J.i (l:=0) (h:=0) (m:=cap) h3 qP eY (by omega) (by omega) (by omega),if_neg (by omega)];have ac:X9 (fun x:Addr=>x.add (0*1)) (some ⟨g,0,none⟩)=some ⟨g,0,none⟩:=by simp[V9]
  rw[ac];refine E _ _ ⟨X,g,by omega,aq.of (n:=0) ⟨by simp,.inr ⟨cap,cs,by simp,Y,by omega,Z,aa,by simp⟩⟩⟩
 ·intro U E;simp only[au,ag];exact⟨fun h=>by omega,fun _=>E _ rfl⟩
set_option maxHeartbeats 1000000 in
theorem Ez {ad bv:x4} {a b:List Int} {w:x5} {K:x4→x5→Prop} (av:aH .i64 w ad a) (aw:aH .i64 w bv b) (aA:a.length≤1000) (aB:b.length≤1000)
  (aC:∀ v w' g,Ext w w'→w.heap.size≤g→aq .i64 J w' g v (a++b)→K v w'):
  aa y0 (u9 cq 2 #[(0,ad),(1,bv)]) w fun t E=>O y0 oM [t] E K:=by
 obtain⟨⟨ae,af,ah,aD⟩,⟨aj,al,am,aE⟩⟩:(∃ x n c,ad= .slice x n c)∧(∃ x n c,bv= .slice x n c):=by
  obtain⟨_,_,_,x,c,h1,_⟩:=id av;obtain⟨_,_,_,y,d,aF,_⟩:=id aw;exact⟨⟨x,_,c,h1⟩,⟨y,_,d,aF⟩⟩
 subst aD;subst aE;refine h5 cq.u ab.i (by omega) (cs:=#[.slice ae af ah,.slice aj al am]) (by kernel_rfl) fun g E aX W X=>?_;have X:ak E g ab [.slice ae af ah,.slice aj al am]:=X;have key:∀ i:Nat,i<2→ ∃ v l,[x4.slice ae af ah,.slice aj al am][i]? =some v∧[a,b][i]? =some l∧aH .i64 w v l∧l.length≤1000:=fun i hi=>by
  match i,hi with
  |0,_=>exact⟨_,_,rfl,rfl,av,aA⟩
  |1,_=>exact⟨_,_,rfl,rfl,aw,aB⟩
 apply oM.enter;rw[gf cq.u];refine a8.range 2 (fun i size Y=>Ext E Y∧ ∃ n:Nat,n≤1000*i∧size= .int .i64 (n:Int)) (by omega) ⟨Ext.refl _,0,by omega,rfl⟩ ?_ ?_
 ·rintro i _ Y aG hi ⟨I,n,aI,rfl⟩ aJ;simp only[au,ag];refine⟨fun _=>?_,fun h=>by omega⟩;obtain⟨v,l,ao,ax,ap,aL⟩:=key i hi;refine aZ (fun v ay=>Y=ay∧v= .int .i64 ((n+l.length:Nat):Int)) ?_ ?_
  ·rintro _ _ ⟨rfl,rfl⟩;simp only[aK];exact aJ _ _ ⟨I,_,by omega,rfl⟩
  ·intro aY aM;rw[gy (b:=g) (o:=0) cq.u ab.i hi (fun _=>rfl),ai (by kernel_rfl) ((X.ext I).cell (o:=0+i*1) (by rw[←ao];congr 1;omega)),aO ab.u (ap.ext (W.trans I))];simp only[aK,au,ag];rw[wrap_i64 (by omega) (by omega)];exact⟨fun h=>by omega,fun _=>aM _ _ ⟨rfl,by congr 1⟩⟩
 ·rintro _ Y aG ⟨I,n,aI,rfl⟩;simp only[au,ag];refine⟨fun h=>by omega,fun _=>?_⟩;refine (Ey (n:=n) (by omega)).mono ?_;rintro v0 ay _ ⟨az,aN,a1,aP⟩;have a2:=W.size;have a6:=I.size;have a7:=az.size;have aQ:=I.trans az;rw[gf cq.u];refine a8.range 2 (fun i v Z=>Ext E Z∧ ∃ V,E.heap.size≤V∧aq .i64 J Z V v (([a,b].take i).flatten)∧(([a,b].take i).flatten).length≤1000*i) (by omega) ⟨aQ,aN,by omega,aP,by simp⟩ ?_ ?_
  ·rintro i v4 Z aR hi ⟨U,V,aS,ac,ba⟩ aT;simp only[au,ag];refine⟨fun _=>?_,fun h=>by omega⟩;obtain⟨v,l,ao,ax,ap,aL⟩:=key i hi;rw[gy (b:=g) (o:=0) cq.u ab.i hi (fun _=>rfl),ai (by kernel_rfl) ((X.ext U).cell (o:=0+i*1) (by rw[←ao];congr 1;omega))];refine hb ab.u J.i rfl ac (ap.ext (W.trans U)) (by omega) (by omega) fun bb aU bc bd aV aW=>?_;simp only[aK];have be:=U.size;have e:([a,b].take (i+1)).flatten=([a,b].take i).flatten++l:=by rw[o3,ax];simp
   refine aT _ _ ⟨U.then aW (by rintro r bf rfl;omega),aU,by omega,by rw[e];exact aV,by rw[e,o5];omega⟩
  ·rintro v4 Z aR ⟨U,V,aS,ac,_⟩;simp only[au,ag];refine⟨fun h=>by omega,fun _=>aC _ _ V (W.trans U) (by omega) ?_⟩;have e:([a,b].take 2).flatten=a++b:=by simp
   rw[e] at ac;exact ac
def nn (J E O I vars:List Int):Prop:=∀ p∈vars,p∈E→p∈I→fS J (fG E p)=fS O (fG I p)
def cT (E I J O vars:List Int):List Int:=vars.map fun p=>max (fS E (fG I p)) (fS J (fG O p))
theorem yk (E I J O vars:List Int):(cT E I J O vars).length=vars.length:=by simp[cT]
theorem rR {l:List Int} {x:Int}:0≤fG l x↔x∈l:=by
 unfold fG;by_cases h:x∈l
 ·rw[if_pos h];exact⟨fun _=>h,fun _=>by omega⟩
 ·rw[if_neg h];exact⟨fun h=>by omega,fun E=>absurd E h⟩
set_option maxHeartbeats 1000000 in
theorem EA {w:x5} {g a8 aG ba:Nat} {sv aj aI aL bv:x4} {U V vars E I:List Int} {k bb:Int} {bc bd:List Int} (h1:cG w g a8 sv U k bc) (aN:cG w aG ba aj V bb bd) (W:aH .i64 w aI vars) (be:aH .i64 w aL E) (al:aH .i64 w bv I) (bf:fs E) (bg:fs I) (bF:vars.length≤1000):
  O y0 oN [aI,.pointer (some ⟨g,0,none⟩),aL,.pointer (some ⟨aG,0,none⟩),bv] w fun v w'=>Ext w w'∧
   (¬nn U E V I vars→v= .tuple #[.slice none 0 0,.bool false])∧
   (nn U E V I vars→ ∃ x aP,v= .tuple #[x,.bool true]∧w.heap.size≤aP∧aq .i64 J w' aP x (cT U E V I vars)):=by
 have sub:∀ {w:x5} {g:Nat} {sv:x4} {k:Int} {aM:x4},ak w g bq [sv,.int .i64 k,aM]→w.rangeAt g (0+0) [sv]:=fun al=>lp al (by
  intro j v W
  match j,W with
  |0,W=>exact W)
 apply oN.enter;rw[aO ab.u W];refine hz ab.u J.i (by omega) (by omega) fun ac bh bG aR bi=>?_;have bj:aq .i64 J bh ac (.slice (some ⟨ac,0,none⟩) vars.length vars.length) (p9 vars.length 0):=aq.of (n:=vars.length) (bL.full bi (by simp) (by simp[maxLen];omega));generalize (x4.slice (some ⟨ac,0,none⟩) vars.length vars.length)=bk at*;rw[aO ab.u (W.ext aR)];have am:=yk U E V I vars;refine hV.range vars.length (fun i _ _ ae=>Ext w ae∧aq .i64 J ae ac bk (upto (cT U E V I vars) 0 i)∧ ∀ (j:Nat) (p:Int),j<i→vars[j]? =some p→p∈E→p∈I→fS U (fG E p)=fS V (fG I p)) (by omega)
  ⟨aR,by rw[pB,am];exact bj,fun j p ad=>by omega⟩ ?_ ?_
 ·rintro i _ _ ae bl hi ⟨X,hm,ao⟩ bn;simp only[au,ag];refine⟨fun _=>?_,fun h=>by omega⟩;obtain⟨p,Y⟩:∃ p,vars[i]? =some p:=⟨_,x3 hi⟩;rw[bm ab.u J.i (by kernel_rfl) (W.ext X) Y];refine (tJ (be.ext X) bf).mono ?_;rintro _ bH _ ⟨rfl,ap⟩;refine (tJ (al.ext (X.trans ap)) bg).mono ?_;rintro _ bo _ ⟨rfl,aS⟩;have aT:=(X.trans ap).trans aS;refine aZ (fun v aU=>Ext bo aU∧ ∃ c,v= .bool c∧(c=true↔p∈E∧p∈I∧fS U (fG E p)≠fS V (fG I p))) ?_ ?_
  ·rintro _ aU ⟨aV,c,rfl,aW⟩;have aX:=aT.trans aV;rw[cE];refine⟨fun bp=>⟨aX,fun _=>by first|rfl|trivial,fun ad=>?_⟩,fun br=>?_⟩
   ·obtain⟨Z,aa,bt⟩:=aW.1 bp;exact absurd (ad p (u4 Y) Z aa) bt
   ·simp only[aQ];intro bJ aY _ _;have av:=aX.trans aY;obtain⟨⟨aM,gs,aw,ax,_⟩,_⟩:=h1.ext av;obtain⟨⟨bu,bw,ay,aA,_⟩,_⟩:=aN.ext av;rw[az,ah bq.p rfl,bI (cs:=[sv]) aJ.p aJ.i rfl (sub aw),az,ah bq.p rfl,bI (cs:=[aj]) aJ.p aJ.i rfl (sub ay)];refine (pJ ax.ls).mono ?_;rintro _ bK _ ⟨rfl,af⟩;refine⟨.inl af,?_⟩;refine (pJ (aA.ls.ext af)).mono ?_;rintro _ bM _ ⟨rfl,a1⟩;have bx:=(av.trans af).trans a1;have a2:=hm.ext ((((ap.trans aS).trans aV).trans aY).trans (af.trans a1));have bO:(upto (cT U E V I vars) 0 i).length=vars.length:=by rw[pA,am]
    rw[sI,gB rfl ab.u J.i a2 (by omega)];refine gC J.i a2 (by omega) fun bP bz _ a6=>?_;simp only[aK];have bA:(cT U E V I vars)[i]? =some (max (fS U (fG E p)) (fS V (fG I p))):=by
     unfold cT;rw[r8,Y];rfl
    rw[pD bA] at a6;refine bn _ _ _ ⟨bx.then bz (by rintro r bQ rfl;omega),a6,fun j bB ad aB Z aa=>?_⟩;by_cases bC:j=i
    ·subst bC;rw[Y] at aB;cases aB;refine Decidable.byContradiction fun bD=>?_;have:=aW.2 ⟨Z,aa,bD⟩;rw[br] at this;cases this
    ·exact ao j bB (by omega) aB Z aa
  ·intro bR aC;simp only[aQ,cV,ag];intro bS ai _ _;refine⟨fun aD=>⟨fun aE=>?_,fun aE=>⟨.inl (Ext.refl _),aC _ _ ⟨ai,false,rfl,⟨(fun h=>by cases h),fun h=>absurd (rR.2 h.2.1) aE⟩⟩⟩⟩,fun aD=>⟨.inl (Ext.refl _),aC _ _ ⟨ai,false,rfl,⟨(fun h=>by cases h),fun h=>absurd (rR.2 h.1) aD⟩⟩⟩⟩;have a7:=aT.trans ai;obtain⟨⟨aM,gs,aw,ax,_⟩,_⟩:=h1.ext a7;obtain⟨⟨bu,bw,ay,aA,_⟩,_⟩:=aN.ext a7;rw[az,ah bq.p rfl,bI (cs:=[sv]) aJ.p aJ.i rfl (sub aw),az,ah bq.p rfl,bI (cs:=[aj]) aJ.p aJ.i rfl (sub ay)];refine (pJ ax.ls).mono ?_;rintro _ bT _ ⟨rfl,aF⟩;refine⟨.inl aF,?_⟩;refine (pJ (aA.ls.ext aF)).mono ?_;rintro _ bU _ ⟨rfl,bE⟩;simp only[bN];refine aC _ _ ⟨(ai.trans aF).trans bE,_,rfl,?_⟩;rw[decide_eq_true_iff];exact⟨fun h=>⟨rR.1 aD,rR.1 aE,h⟩,fun h=>h.2.2⟩
 ·rintro _ _ ae bl ⟨X,hm,ao⟩;simp only[au,ag];refine⟨fun h=>by omega,fun _=>?_⟩;have ad:nn U E V I vars:=fun p Y Z aa=>by
   obtain⟨i,hi,he⟩:=List.getElem_of_mem Y;exact ao i p hi (by rw[x3 hi,he]) Z aa
  rw[←am,pC] at hm;exact⟨X,fun h=>absurd ad h,fun _=>⟨_,ac,rfl,by omega,hm⟩⟩
def tN (E I vars:List Int):Prop:=fs vars∧ ∀ x,x∈vars↔x∈E∨x∈I
def lE (E U I J V O vars:List Int) (k:Int):List Int:=
 (X7 (aG (cT E I J O vars)).toNat).map fun(q:Nat)=>min (cn E U (dN (cv (cT E I J O vars) q) vars I)+cn J V (dN (cv (cT E I J O vars) q) vars O)) k
theorem yl (E U I J V O vars:List Int) (k:Int):(lE E U I J V O vars k).length=(aG (cT E I J O vars)).toNat:=by simp[lE]
theorem ym {s cs t:List Int} {k:Int} (E:right k) (h:∀ x∈cs,cF x k):cF (cn s cs t) k:=by
 have I:cF 0 k:=⟨E,Int.le_refl _,by have:=E.1;omega⟩;unfold cn;split
 ·rename_i n _;rw[p8];cases J:cs[n.toNat]? with
  |none=>exact I
  |some x=>exact h x (u4 J)
 ·exact I
def Fits (s l:List Int):Prop:=l.length=s.length∧p1 l
def p3 (e:Int):x4:=.tuple #[.pointer none,.slice none 0 0,.int .i64 e]
def yn (w:x5) (J X E O Y I:List Int) (k U:Int) (v:x4) (w':x5):Prop:=
 Ext w w'∧(¬(Fits J E∧Fits O I)→v=p3 1)∧
  (Fits J E∧Fits O I→ ∃ vars,tN E I vars∧(¬nn J E O I vars→v=p3 1)∧(nn J E O I vars→(k≠U→v=p3 3)∧
   (k=U→¬bR (cT J E O I vars)→v=p3 1)∧(k=U→bR (cT J E O I vars)→4096<aG (cT J E O I vars)→v=p3 5)∧
   (k=U→bR (cT J E O I vars)→aG (cT J E O I vars)≤4096→ ∃ V Z aa W,v= .tuple #[.pointer (some ⟨V,0,none⟩),W,.int .i64 0]∧
    cG w' V Z aa (cT J E O I vars) k (lE J X E O Y I vars k)∧aH .i64 w' W vars)))
set_option maxHeartbeats 1000000 in
theorem EB {w:x5} {g bX aS bY:Nat} {sv bZ aU bv:x4} {U V E I:List Int} {k bf:Int} {Z aa:List Int} (h1:cG w g bX sv U k Z) (aV:cG w aS bY bZ V bf aa) (aW:aH .i64 w aU E) (ax:aH .i64 w bv I)
  (bg:right k) (cU:∀ x∈Z,cF x k) (cV:∀ x∈aa,cF x bf):
  O y0 my [.pointer (some ⟨g,0,none⟩),aU,.pointer (some ⟨aS,0,none⟩),bv] w (yn w U Z E V aa I k bf):=by
 have cW:=aW.cells;have cX:=ax.cells;have cY:=h1.2.2.1;have c0:=aV.2.2.1;have sub:∀ {w:x5} {g:Nat} {sv:x4} {k:Int} {aM:x4},ak w g bq [sv,.int .i64 k,aM]→w.rangeAt g (0+0) [sv]:=fun ax=>lp ax (by
  intro j v bx
  match j,bx with
  |0,bx=>exact bx)
 apply my.enter;refine ce fun b1 ed ee b2 am=>?_;refine ce fun b4 ef eg bz ao=>?_;refine ce fun b5 eh ei bh ap=>?_;refine ce fun b6 aE ej aX au=>?_;have ek:=am.lt;have em:=ao.lt;have en:=ap.lt;have eo:=au.lt;have ep:=b2.size;have er:=bz.size;have es:=bh.size;have et:=aX.size;have aF:=((b2.trans bz).trans bh).trans aX;have am:ak aE b1 bA [.pointer (some ⟨g,0,none⟩)]:=((am.ext bz).ext bh).ext aX;have ao:ak aE b4 ab [aU]:=by rw[cW.1] at ao;exact (ao.ext bh).ext aX
 have ap:ak aE b5 bA [.pointer (some ⟨aS,0,none⟩)]:=ap.ext aX;have au:ak aE b6 ab [bv]:=by rw[cX.1] at au;exact au
 refine aZ (fun v b7=>v= .bool false∧aE=b7) ?_ ?_
 rotate_left
 ·intro c1 bi;rw[ai (by kernel_rfl) (am.cell (o:=0) rfl),cZ bA.u];simp only[b8,aT];rw[ai (by kernel_rfl) (ap.cell (o:=0) rfl),cZ bA.u];exact bi _ _ ⟨rfl,rfl⟩
 rintro _ _ ⟨rfl,rfl⟩;simp only[aT];refine aZ (fun v bB=>Ext aE bB∧ ∃ c,v= .bool c∧(c=true↔¬(Fits U E∧Fits V I))) ?_ ?_
 rotate_left
 ·intro c1 bi;rw[ai (by kernel_rfl) (am.cell (o:=0) rfl),ai (by kernel_rfl) (ao.cell (o:=0) rfl)];refine (yb (h1.ext aF) (aW.ext aF)).mono ?_;rintro _ b7 _ ⟨aI,c,rfl,aY⟩;simp only[b3,cE];refine⟨fun bj=>bi _ _ ⟨aI,true,rfl,fun _ h=>?_,fun _=>rfl⟩,fun b9=>?_⟩
  ·have:=aY.2 h.1;rw[this] at bj;cases bj
  ·have c2:c=true:=by cases c <;> simp_all
   rw[ai (by kernel_rfl) ((ap.ext aI).cell (o:=0) rfl),ai (by kernel_rfl) ((au.ext aI).cell (o:=0) rfl)];refine (yb ((aV.ext aF).ext aI) ((ax.ext aF).ext aI)).mono ?_;rintro _ eu _ ⟨c3,d,rfl,ca⟩;simp only[b3];refine bi _ _ ⟨aI.trans c3,_,rfl,fun h c4=>?_,fun h=>?_⟩
   ·have:=ca.2 c4.2;rw[this] at h;cases h
   ·cases d with
    |false=>rfl
    |true=>exact absurd ⟨aY.1 c2,ca.1 rfl⟩ h
 rintro _ bB ⟨a1,c,rfl,aY⟩;have bC:=aF.trans a1;rw[cE];refine⟨fun bj ev c5 _=>⟨bC.trans c5,fun _=>rfl,fun h=>absurd h (aY.1 bj)⟩,fun b9=>?_⟩;have a2:Fits U E∧Fits V I:=Classical.byContradiction fun h=>by
  have:=aY.2 h;rw[b9] at this;cases this
 obtain⟨⟨ew,c6⟩,ey,c7⟩:=id a2;have ez:=cY.1;have eA:=c0.1;rw[ai (by kernel_rfl) ((ao.ext a1).cell (o:=0) rfl),ai (by kernel_rfl) ((au.ext a1).cell (o:=0) rfl)];refine Ez (aW.ext bC) (ax.ext bC) (by omega) (by omega) fun eB eC eD cb eE c8=>?_;refine tG c8.ls (by rw[o5];omega) fun eF eG eH m cc eI cd c9 da=>?_;have db:=cd.length_eq;rw[o5] at db;refine (Ex da (by omega)).mono ?_;rintro bk cg _ ⟨dc,bD⟩;have eJ:=a1.size;have eK:=cb.size;have eL:=cc.size;have ch:Ext bB cg:=(cb.trans cc).then dc (by rintro r aK rfl;omega);obtain⟨dd,de⟩:=ya c9 (j:=m.length) (o7 _);have eM:=x9 m m.length;have av:tN E I (dedup m m.length):=⟨dd,fun x=>by rw[de,l5,cd.mem_iff,n0]⟩;generalize dedup m m.length=vars at*;refine bO ab.i fun cj eN eO ck df=>?_;refine bE ab.i bD.ls.cells.1 bD.ls.cells.2 df (by simp[x4.cells]) fun cl dg eP a6=>?_;have eQ:=ch.size;have eR:=ck.size;have bF:Ext cg cl:=ck.then dg (by rintro r aK rfl;omega);have aL:=(a1.trans ch).trans bF;have a7:=aF.trans aL;have eS:=a6.lt;have cm:=bD.ls.ext bF;have a6:ak cl cj ab [bk]:=a6;rw[ai (by kernel_rfl) (a6.cell (o:=0) rfl),ai (by kernel_rfl) ((am.ext aL).cell (o:=0) rfl),ai (by kernel_rfl) ((ao.ext aL).cell (o:=0) rfl),ai (by kernel_rfl) ((ap.ext aL).cell (o:=0) rfl),ai (by kernel_rfl) ((au.ext aL).cell (o:=0) rfl)];refine (EA (h1.ext a7) (aV.ext a7) cm (aW.ext a7) (ax.ext a7) c6.up c7.up (by omega)).mono ?_;rintro ci eT _ ⟨a8,dh,di⟩;have cp:=a7.trans a8;by_cases aN:nn U E V I vars
 rotate_left
 ·rw[dh aN,aC (v:=.slice none 0 0) rfl,aC (v:=.bool false) rfl];simp only[b3,X0,bP];intro eU dj _;exact⟨cp.trans dj,fun h=>absurd a2 h,fun _=>⟨vars,av,fun _=>rfl,fun h=>absurd h aN⟩⟩
 obtain⟨xs,eV,rfl,eW,dk⟩:=di aN;rw[aC (v:=xs) rfl,aC (v:=.bool true) rfl];simp only[b3,Y1,aT];intro ay aO _ _;have bl:=(aL.trans a8).trans aO;have aP:=cp.trans aO;have am:=am.ext bl;have ao:=ao.ext bl;have ap:=ap.ext bl;have au:=au.ext bl;have dl:=(a6.ext a8).ext aO;obtain⟨⟨aM,gs,cq,eX,_⟩,_⟩:=h1.ext aP;obtain⟨⟨eY,eZ,dm,e0,_⟩,_⟩:=aV.ext aP;rw[ai (by kernel_rfl) (am.cell (o:=0) rfl),az,ah bq.p rfl,ai (by kernel_rfl) (cq.cell (o:=0+1) rfl),ai (by kernel_rfl) (ap.cell (o:=0) rfl),az,ah bq.p rfl,ai (by kernel_rfl) (dm.cell (o:=0+1) rfl)];simp only[bN,ag];refine⟨fun aA e1 dn _=>⟨aP.trans dn,fun h=>absurd a2 h,fun _=>⟨vars,av,fun h=>absurd aN h,fun _=>⟨fun _=>rfl,fun h=>absurd h aA,fun h=>absurd h aA,fun h=>absurd h aA⟩⟩⟩,fun aA=>?_⟩;have aA:k=bf:=X2.1 aA;subst aA;rw[ai (by kernel_rfl) (am.cell (o:=0) rfl),az,ah bq.p rfl,ai (by kernel_rfl) (cq.cell (o:=0+1) rfl)];have dp:=dk.ext aO;refine (sU dp.ls).mono ?_;rintro cr ba _ ⟨ct,dq,dr,_,ds⟩;have e2:=bF.size;have e3:=a8.size;have e4:=aO.size;have e5:=ct.size;obtain⟨aQ,e,rfl,e6,bm⟩:∃ (aQ:Option Addr) (e:Int),cr= .tuple #[.pointer aQ,.int .i64 e]∧(e=0→aQ≠none)∧((e=1∧¬bR (cT U E V I vars))∨(e=5∧bR (cT U E V I vars)∧4096<aG (cT U E V I vars))∨(e=0∧bR (cT U E V I vars)∧aG (cT U E V I vars)≤4096∧
   ∃ X W Y,aQ=some ⟨X,0,none⟩∧ay.heap.size≤X∧ay.heap.size≤W∧(∀ r,leads Y r→ay.heap.size≤r)∧cG ba X W Y (cT U E V I vars) k (p9 (aG (cT U E V I vars)).toNat 0))):=by
  by_cases ac:bR (cT U E V I vars)
  ·by_cases aw:aG (cT U E V I vars)≤4096
   ·obtain⟨X,W,Y,dt,du,dv,dw,dx⟩:=ds ac aw ⟨bg,by omega,by have:=bg.1;omega⟩;exact⟨_,_,dt,(fun _ h=>by cases h),.inr (.inr ⟨rfl,ac,aw,X,W,Y,rfl,du,dv,dw,dx⟩)⟩
   ·exact⟨_,_,dr ac (by omega),(fun h=>by omega),.inr (.inl ⟨rfl,ac,by omega⟩)⟩
  ·exact⟨_,_,dq ac,(fun h=>by omega),.inl ⟨rfl,ac⟩⟩
 rw[aC (v:=.pointer aQ) rfl,aC (v:=.int .i64 e) rfl];refine bO bA.i fun cu e7 e8 cw bb=>?_;refine bE bA.i rfl rfl bb (by simp[x4.cells]) fun dy dz e9 bb=>?_;have fa:=cw.size;have bG:Ext ba dy:=cw.then dz (by rintro r aK rfl;omega);have cz:=ct.trans bG;have dA:=aP.trans cz;have fb:=bb.lt;simp only[bN,ag];refine⟨fun dB fc dC _=>⟨dA.trans dC,fun h=>absurd a2 h,fun _=>⟨vars,av,fun h=>absurd aN h,fun _=>⟨fun h=>absurd rfl h,fun _ ac=>?_,fun _ ac aw=>?_,fun _ ac aw=>?_⟩⟩⟩,fun fd=>?_⟩
 ·rcases bm with⟨rfl,_⟩|⟨_,h,_⟩|⟨_,h,_⟩
  ·rfl
  ·exact absurd h ac
  ·exact absurd h ac
 ·rcases bm with⟨_,h⟩|⟨rfl,_⟩|⟨_,_,h,_⟩
  ·exact absurd ac h
  ·rfl
  ·omega
 ·rcases bm with⟨_,h⟩|⟨_,_,h⟩|⟨h,_⟩
  ·exact absurd ac h
  ·omega
  ·exact absurd h dB
 obtain⟨bn,dD,X,W,Y,rfl,fe,ff,fg,bo⟩:bR (cT U E V I vars)∧aG (cT U E V I vars)≤4096∧
   ∃ X W Y,aQ=some ⟨X,0,none⟩∧ay.heap.size≤X∧ay.heap.size≤W∧(∀ r,leads Y r→ay.heap.size≤r)∧cG ba X W Y (cT U E V I vars) k (p9 (aG (cT U E V I vars)).toNat 0):=by
  rcases bm with⟨h,_⟩|⟨h,_⟩|⟨_,h⟩
  ·omega
  ·omega
  ·exact h
 obtain rfl:e=0:=by omega
 have dE:(cT U E V I vars).length=vars.length:=yk _ _ _ _ _;have fh:=prod_bound bn;obtain⟨N,br⟩:∃ N:Nat,(aG (cT U E V I vars)).toNat=N:=⟨_,rfl⟩;rw[br] at bo;have fi:0<N:=by omega
 have dF:=bo.ext bG;obtain⟨⟨bH,cA,cB,cC,dG⟩,⟨cD,cH,_⟩,_,fj⟩:=id dF;have fk:X<ba.heap.size:=by obtain⟨⟨_,_,q,_⟩,_⟩:=id bo;exact q.lt
 have fl:W<ba.heap.size:=by obtain⟨⟨_,_,_,_,q⟩,_⟩:=id bo;exact rH q (by simp;omega)
 rw[ai (by kernel_rfl) (bb.cell (o:=0) rfl),az,ah bq.p rfl,bI (cs:=[Y]) aJ.p aJ.i rfl (sub cB)];refine tk.mono ?_;rintro _ bc _ ⟨aB,bt,rfl,fm,cI⟩;have fo:=bG.size;have fp:=aB.size;let S:Nat→Prop:=fun r=>r=W;let aR:=lE U Z E V aa I vars k;have bJ:aR.length=N:=by simp only[aR];rw[yl,br]
 have dH:=(cm.ext a8).ext aO;let dI:x5→Prop:=fun w'=>ak w' b1 bA [.pointer (some ⟨g,0,none⟩)]∧ak w' b4 ab [aU]∧ak w' b5 bA [.pointer (some ⟨aS,0,none⟩)]∧ak w' b6 ab [bv]∧ak w' cj ab [bk]∧aH .i64 w' bk vars∧
  ak w' cu bA [.pointer (some ⟨X,0,none⟩)]∧ak w' X bq [Y,.int .i64 k,bH]∧cG w' g bX sv U k Z∧cG w' aS bY bZ V k aa∧aH .i64 w' aU E∧aH .i64 w' bv I∧aq .i64 J w' cA Y (cT U E V I vars)∧ak w' bt aJ [Y]∧bc.heap.size≤w'.heap.size
 have cJ:=cz.trans aB;have bd:∀ {a:x5},aj S bc a→dI a:=by
  intro a al;have aD:Ext ay a:=cJ.then al (fun r aK he=>by have he:r=W:=he;omega);have bu:=aP.trans aD;exact⟨am.ext aD,ao.ext aD,ap.ext aD,au.ext aD,dl.ext aD,dH.ext aD,(bb.ext aB).ad al (by show ¬(cu=W);omega),(cB.ext aB).ad al (by show ¬(X=W);exact cD),h1.ext bu,aV.ext bu,aW.ext bu,ax.ext bu,
   bp (cC.ext aB) al (fun r aK he=>cH ((show r=W from he)▸aK)),cI.ad al (by show ¬(bt=W);omega),al.size⟩
 have cK:=tj (g:=bt) (B0:=bc.heap.size) (sv:=Y) bn;rw[br] at cK;refine⟨Nat,false,gv,#[.pointer (some ⟨bt,0,none⟩)],0,_,_,_,fun q w'=>aj S bc w'∧aq .i64 ae w' W bH (upto aR 0 q),fun _ _ _=>False,rfl,cK.s,
  ?_,fun _ _ al h=>⟨h.1.ext al,h.2.1.ext al,Y3 h.2.2 al.size⟩,fun _ _ _ al h=>⟨h.1.trans (al.ad S),h.2.ext al⟩,fun _ _ _ _ _ h=>h,⟨cI,(cC.ext aB).ls,o7 _⟩,⟨aj.refl _ _,?_⟩,?_,?_,fun _ _ h=>h.elim,fun _ _ _ h=>h.elim⟩
 ·rintro _ _ _ _ ⟨_,_,_,_,rfl,_⟩;rfl
 ·rw[pB,bJ];exact dG.ext aB
 ·rintro _ cr q _ fq ⟨_,_,fr⟩ ⟨bK,rfl,fs,ft,dJ,fu,cL⟩ ⟨bw,dK⟩;cases dJ;let x:=cv (cT U E V I vars) (q:Int);have cM:x.length=vars.length:=by simp only[x];rw[hc,dE]
  intro fv dL _ _;intro fw dM _ _;have bL:=dL.trans dM;obtain⟨f1,f2,f3,f4,f5,f6,f7,f8,f9,f10,f11,f12,f13,f14,f15⟩:=bd (bw.trans (bL.ad S));rw[ai (by kernel_rfl) (f1.cell (o:=0) rfl),ai (by kernel_rfl) (f5.cell (o:=0) rfl),ai (by kernel_rfl) (f2.cell (o:=0) rfl)];refine (yd (cL.ls.ext bL) f6 f11 av.1 (fun p aw=>(av.2 p).2 (.inl aw)) cM (by omega)).mono ?_;rintro fx fy _ ⟨bM,fz,fA,dO⟩;refine⟨.inl bM,?_⟩;refine (sV (f9.ext bM) dO.ls).mono ?_;rintro _ fB _ ⟨rfl,dP⟩;obtain⟨cN,dQ⟩:=tF U (dN x vars E) Z;have dR:mV U (dN (cv (cT U E V I vars) (q:Int)) vars E) Z= .tuple #[.int .i64 (cn U Z (dN x vars E)),.int .i64 cN]:=dQ;rw[dR,aC (v:=.int .i64 (cn U Z (dN x vars E))) rfl,aC (v:=.int .i64 cN) rfl];intro fC dS _ _;have bQ:=((bL.trans bM).trans dP).trans dS;obtain⟨f1,f2,f3,f4,f5,f6,f7,f8,f9,f10,f11,f12,f13,f14,f15⟩:=bd (bw.trans (bQ.ad S));rw[ai (by kernel_rfl) (f3.cell (o:=0) rfl),ai (by kernel_rfl) (f5.cell (o:=0) rfl),ai (by kernel_rfl) (f4.cell (o:=0) rfl)];refine (yd (cL.ls.ext bQ) f6 f12 av.1 (fun p aw=>(av.2 p).2 (.inr aw)) cM (by omega)).mono ?_;rintro fD fE _ ⟨bS,fF,fG,dT⟩;refine⟨.inl bS,?_⟩;refine (sV (f10.ext bS) dT.ls).mono ?_;rintro _ fH _ ⟨rfl,dU⟩;obtain⟨cO,dV⟩:=tF V (dN x vars I) aa;have dW:mV V (dN (cv (cT U E V I vars) (q:Int)) vars I) aa= .tuple #[.int .i64 (cn V aa (dN x vars I)),.int .i64 cO]:=dV;rw[dW,aC (v:=.int .i64 (cn V aa (dN x vars I))) rfl,aC (v:=.int .i64 cO) rfl];intro fI dX _ _;have bT:=((bQ.trans bS).trans dU).trans dX;obtain⟨f1,f2,f3,f4,f5,f6,f7,f8,f9,f10,f11,f12,f13,f14,f15⟩:=bd (bw.trans (bT.ad S));rw[ai (by kernel_rfl) (f7.cell (o:=0) rfl),az,ah bq.p rfl,ai (by kernel_rfl) (f8.cell (o:=0+2) rfl),ai (by kernel_rfl) (f7.cell (o:=0) rfl),az,ah bq.p rfl,ai (by kernel_rfl) (f8.cell (o:=0+1) rfl)];refine wM.mono ?_;rintro _ fJ _ ⟨rfl,bU⟩;refine⟨.inl bU,?_⟩;have dY:pI (cn U Z (dN x vars E)) (cn V aa (dN x vars I)) k= .tuple #[.int .i64 (min (cn U Z (dN x vars E)+cn V aa (dN x vars I)) k),.int .i64 0]:=if_pos ⟨ym bg cU,ym bg cV⟩;rw[dY,aC (v:=.int .i64 (min (cn U Z (dN x vars E)+cn V aa (dN x vars I)) k)) rfl,aC (v:=.int .i64 0) rfl];have cP:=dK.ext (bT.trans bU);have fK:(upto aR 0 q).length=N:=by rw[pA,bJ]
  rw[gB rfl af.u ae.i cP (by omega)];refine gC ae.i cP (by omega) fun dZ ea fL cQ=>?_;have cR:aj S bc dZ:=(bw.trans ((bT.trans bU).ad S)).trans (ea.mono fun r _ h=>h);obtain⟨f1,f2,f3,f4,f5,f6,f7,f8,f9,f10,f11,f12,f13,f14,f15⟩:=bd cR;have eb:aR[q]? =some (min (cn U Z (dN x vars E)+cn V aa (dN x vars I)) k):=by
   simp only[aR,lE];rw[r8,List.getElem?_range (by rw[br];exact bK)];rfl
  rw[pD eb] at cQ;exact⟨⟨f14,f13.ls,f15⟩,⟨cR,cQ⟩,fun h=>by cases h⟩
 ·rintro q fM bK ⟨cS,bV⟩;rw[show q=N from bK] at bV;intro fN bW _ _;obtain⟨f1,f2,f3,f4,f5,f6,f7,f8,f9,f10,f11,f12,f13,f14,f15⟩:=bd (cS.trans (bW.ad S));rw[ai (by kernel_rfl) (f7.cell (o:=0) rfl),ai (by kernel_rfl) (f5.cell (o:=0) rfl)];intro fO be _;rw[←bJ,pC] at bV;have ec:=aP.trans cJ;refine⟨((ec.then cS (fun r aK he=>by have he:r=W:=he;omega)).trans bW).trans be,fun h=>absurd a2 h,fun _=>⟨vars,av,fun h=>absurd aN h,fun _=>⟨fun h=>absurd rfl h,fun _ h=>absurd bn h,fun _ _ h=>by omega,fun _ _ _=>⟨X,W,Y,bk,rfl,⟨⟨bH,cA,f8.ext be,f13.ext be,(bV.ext bW).ext be⟩,⟨cD,cH,dD⟩,bn,yl _ _ _ _ _ _ _ _⟩,f6.ext be⟩⟩⟩⟩
theorem fs.pair {l:List Int} (h:fs l):l.Pairwise (·< ·):=W5.2 fun i j hi E I=>h i j _ _ I (x3 hi) (x3 E)
theorem EC {l m:List Int} (E:fs l) (hm:fs m) (h:∀ x,x∈l↔x∈m):l=m:=by
 have I:l.Nodup:=E.pair.imp fun h=>by omega
 have J:m.Nodup:=hm.pair.imp fun h=>by omega
 exact List.Perm.eq_of_pairwise (le:=(·≤ ·)) (fun a b _ _ h1 O=>Int.le_antisymm h1 O) (E.pair.imp fun h=>Int.le_of_lt h) (hm.pair.imp fun h=>Int.le_of_lt h) ((List.perm_ext_iff_of_nodup I J).2 h)
theorem ED {l vars:List Int} (h:tN l l vars) (hu:fs l):vars=l:=EC h.1 hu fun x=>by rw[h.2];simp
theorem yo {l:List Int} (h:l.Pairwise (·< ·)):fs l:=fun i j x y I J O=>by
 have h1:=x6.1 J;have E:=x6.1 O;have:=W5.1 h i j h1.1 E.1 I;rw[h1.2,E.2] at this;exact this
theorem EE {x l:List Int} (hu:l.Nodup) (h:x.length=l.length):dN x l l=x:=by
 refine X6 fun i=>?_;unfold dN;cases E:l[i]? with
 |none=>rw[r8,E,Z8 (by have:=List.getElem?_eq_none_iff.1 E;omega)];rfl
 |some v=>
  have hi:=(x6.1 E).1;rw[r8,E,b6,pZ hu E,p8,x3 (show i<x.length by omega)];rfl
theorem yp {s l:List Int} (hu:fs l) (h:s.length=l.length):cT s l s l l=s:=by
 refine X6 fun i=>?_;unfold cT;cases E:l[i]? with
 |none=>rw[r8,E,Z8 (by have:=List.getElem?_eq_none_iff.1 E;omega)];rfl
 |some v=>
  have hi:=(x6.1 E).1;rw[r8,E,b6,yc hu E,Int.max_self,x3 (show i<s.length by omega)];unfold fS;rw[if_pos (by omega),p8,c9,x3 (show i<s.length by omega)];rfl
theorem EF {s l a b:List Int} {k:Int} (hu:l.Pairwise (·< ·)) (h:s.length=l.length) (E:dG s) (I:a.length=(aG s).toNat) (J:b.length=(aG s).toNat):lE s a l s b l l k=di k a b:=by
 have O:l.Nodup:=hu.imp fun h=>by omega
 unfold lE;rw[yp (yo hu) h,Dq E I J];apply List.map_congr_left;intro q _;rw[EE O (by rw[hc,h])]
theorem EG {w w':x5} {s l a b:List Int} {k:Int} {v:x4} (hu:l.Pairwise (·< ·)) (Z:∀ x∈l,0≤x) (h:s.length=l.length) (W:bR s) (aa:aG s≤4096) (ab:a.length=(aG s).toNat) (ac:b.length=(aG s).toNat) (I:yn w s a l s b l k k v w'):
  Ext w w'∧ ∃ E J O U,v= .tuple #[.pointer (some ⟨E,0,none⟩),U,.int .i64 0]∧cG w' E J O s k (di k a b):=by
 obtain⟨ad,_,I⟩:=I;have V:=yo hu;have X:Fits s l:=⟨h.symm,D4 V Z⟩;obtain⟨vars,ae,_,af⟩:=I ⟨X,X⟩;have ag:=ED ae V;subst ag;obtain⟨_,_,_,Y⟩:=af fun p ai aj ak=>rfl;rw[yp V h,EF hu h W.2 ab ac] at Y;obtain⟨E,J,O,U,rfl,ah,_⟩:=Y rfl W aa;exact⟨ad,E,J,O,U,rfl,ah⟩
theorem EH {s:List Int} (E:dG s):(bG s).Nodup:=(xU E).imp fun {a b} h he=>by subst he;omega
theorem EI {s t:List Int} {i j:Nat} (E:dG s) (hi:(bG s)[i]? =some t) (I:(bG s)[j]? =some t):i=j:=ii (EH E) hi I
theorem EJ {s t:List Int} (E:dG s) (h:cM s t):∃ j:Nat,(bG s)[j]? =some t:=Y5.1 ((xT E).2 h)
theorem EK {P:X1} {w:x5} {t:o6} {cx cy:Bool} {a b:Bool} {K:x4→Prop} (E:P.underlying t=some .bool):I P (U .eql t cx cy (.bool a) (.bool b)) w K=K (.bool (a == b)):=
 sH (fun _=>rfl) rfl fun w' _=>run_equalIn_bool' (P:=P) (w:=w') 9999 t a b E
theorem rS {w w':x5} {g m:Nat} {e:o6} {cs:List x4} {d:List (x4×x4)} (h:ak w g e cs) (hm:cw w m d) (E:aj (fun r=>r=m) w w'):ak w' g e cs:=h.ad E (fun he=>rI h hm he)
theorem yq {w w':x5} {g m:Nat} {k:o8} {e:o6} {v:x4} {l:List Int} {d:List (x4×x4)} (h:aq k e w g v l) (hm:cw w m d) (E:aj (fun r=>r=m) w w'):aq k e w' g v l:=bp h E (fun _ I he=>xW h hm I he)
def rT (cs:List Int) (o:Int):Prop:=o∈cs∧ ∀ d∈cs,cs.count d<cs.count o∨(cs.count d=cs.count o∧o≤d)
theorem EL {l:List Int} {i:Nat} {x:Int} (h:l[i]? =some x) (y:Int):(l.take (i+1)).count y=(l.take i).count y+if y=x then 1 else 0:=by
 rw[o3,h,List.count_append];congr 1;simp only[j5,List.count_singleton];by_cases E:y=x
 ·subst E;simp
 ·rw[if_neg E,if_neg (by simpa using fun h=>E h.symm)]
def fh (p:Int×Int):x4×x4:=(.int .i64 p.1,.int .i64 p.2)
theorem p4:Keys y0 ae fun v=>∃ n,v= .int .i64 n:=Keys.int ae.u
theorem p5 (E:List (Int×Int)):∀ p∈E.map fh,∃ n,p.1= .int .i64 n:=fun p I=>by
 obtain⟨q,_,rfl⟩:=l9.1 I;exact⟨_,rfl⟩
def tO (cs:List Int) (E:List (Int×Int)):Prop:=(∀ x,x∈E.map (·.1)↔x∈cs)∧ ∀ p∈E,p.2=(cs.count p.1:Nat)
theorem yr {cs:List Int} {E:List (Int×Int)} (h:tO cs E) {x:Int} (J:x∈cs):∃ j:Nat,E[j]? =some (x,((cs.count x:Nat):Int)):=by
 obtain⟨p,I,rfl⟩:=l9.1 ((h.1 x).2 J);obtain⟨j,O⟩:=Y5.1 I;exact⟨j,by rw[O,←h.2 p I]⟩
set_option maxHeartbeats 1600000 in
theorem ys {w:x5} {aR:x4} {cs:List Int} (h:aH .i64 w aR cs) (aS:cs≠[]) (bz:cs.length≤1000000):O y0 ht [aR] w fun v w'=>Ext w w'∧ ∃ o,v= .int .i64 o∧rT cs o:=by
 apply ht.enter;refine aa.db (rn fun m ba hm ay bb bA=>?_);rw[aO af.u (h.ext ay)];refine bc.range cs.length (fun i ab=>aj (fun r=>r=m) ba ab∧ ∃ U,cw ab m (U.map fh)∧tO (cs.take i) U) (by omega) ⟨aj.refl _ _,[],bb,by simp[tO]⟩ ?_ ?_
 ·rintro i ab bd hi ⟨ah,U,Y,V⟩ aU;obtain⟨x,az⟩:∃ x,cs[i]? =some x:=⟨_,x3 hi⟩;have ai:Ext w ab:=ay.then ah (fun r ac he=>by have he:r=m:=he;omega);have be:∀ y,(cs.take i).count y≤1000000:=fun y=>by
   have:=List.count_le_length (a:=y) (l:=cs.take i);rw[l6] at this;omega
  rw[au,ag];refine⟨fun _=>?_,fun h=>by omega⟩;rw[bm af.u ae.i (by kernel_rfl) (h.ext ai) az];have aq:=EL az;have aV:∀ y,y∈cs.take (i+1)↔y∈cs.take i∨y=x:=fun y=>by
   rw[o3,az];simp
  by_cases ak:x∈cs.take i
  ·obtain⟨j,aA⟩:=yr V ak;have av:(U.map fh)[j]? =some (.int .i64 x,.int .i64 (((cs.take i).count x:Nat):Int)):=by rw[r8,aA];rfl
   rw[pK gd.u p4 Y (p5 U) ⟨_,rfl⟩ av];simp only[Bool.false_eq_true,if_false];have:=be x;rw[aK,wrap_i64 (by omega) (by omega)];refine aa.db (pL gd.u p4 Y (p5 U) ⟨_,rfl⟩ (fun al v0 aB aD am aE bf=>?_) (fun aB aw=>absurd rfl (aw _ (u4 av))));have bg:al=j:=Y.uniq aD av rfl;subst bg;rw[aK];have aF:(U.map fh).set al (.int .i64 x,.int .i64 ((((cs.take i).count x:Nat):Int)+1))=(U.set al (x,(((cs.take i).count x:Nat):Int)+1)).map fh:=by rw[List.map_set];rfl
   rw[aF] at am;have bh:=(x6.1 aA).1;refine aU _ ⟨ah.trans aE,_,am,fun y=>?_,fun p E=>?_⟩
   ·rw[List.map_set,BD (by rw[r8,aA];rfl),V.1,aV];exact⟨.inl,fun h=>h.elim id (fun h=>h▸ak)⟩
   ·obtain⟨q,W⟩:=Y5.1 E;by_cases aG:al=q
    ·subst aG;rw[V7 bh] at W;cases W;show _=(((cs.take (i+1)).count x:Nat):Int);rw[aq,if_pos rfl];omega
    ·rw[List.getElem?_set_ne aG] at W;have aI:p.1≠x:=fun he=>aG (Y.uniq av (show (U.map fh)[q]? =some (fh p) by rw[r8,W];rfl) (by rw[fh,he]));rw[V.2 p (u4 W),aq,if_neg aI,Nat.add_zero]
  ·have aw:∀ p∈U.map fh,p.1≠X4 .i64 x:=fun p E he=>by
    obtain⟨q,W,rfl⟩:=l9.1 E;have:q.1=x:=by simpa[fh] using he
    exact ak ((V.1 x).1 (l9.2 ⟨q,W,this⟩))
   rw[rp gd.u p4 ⟨_,_,J.i⟩ Y (p5 U) ⟨_,rfl⟩ aw];simp only[Bool.false_eq_true,if_false];rw[aK,wrap_i64 (by omega) (by omega)];refine aa.db (pL gd.u p4 Y (p5 U) ⟨_,rfl⟩ (fun al v0 aB aD=>absurd rfl (aw _ (u4 aD))) (fun aB _ am aE bf=>?_));rw[aK];have aF:U.map fh++[(X4 .i64 x,X4 .i64 (0+1))]=(U++[(x,1)]).map fh:=by rw[j4];rfl
   rw[aF] at am;have bi:(cs.take i).count x=0:=List.count_eq_zero.2 ak;refine aU _ ⟨ah.trans aE,_,am,fun y=>?_,fun p E=>?_⟩
   ·rw[j4,n0,V.1,aV];simp
   ·rcases n0.1 E with E|E
    ·have aI:p.1≠x:=fun he=>ak ((V.1 x).1 (l9.2 ⟨p,E,he⟩));rw[V.2 p E,aq,if_neg aI,Nat.add_zero]
    ·rw[o9.1 E];show (1:Int)=(((cs.take (i+1)).count x:Nat):Int);rw[aq,if_pos rfl,bi];rfl
 rintro ab bd ⟨ah,U,Y,V⟩;rw[l5] at V;have ai:Ext w ab:=ay.then ah (fun r ac he=>by have he:r=m:=he;omega);rw[au,ag];refine⟨fun h=>by omega,fun _=>?_⟩;refine (B3 (h.ext ai) aS).mono ?_;rintro _ bj bB ⟨rfl,aJ⟩;have bC:=ai.size;have bD:=aJ.size;refine aa.db (wQ gd.u (Y.ext aJ) fun ao bE bF bk bG bl bH=>?_);refine⟨fun hy ad=>∃ b Z X left aW,hy= .int .i64 b∧b∈cs∧Ext bj ad∧fE ad ao m (U.map fh) left aW∧left=X.map fh∧(Z++X).Perm U∧ ∀ p∈Z,cs.count p.1<cs.count b∨(cs.count p.1=cs.count b∧b≤p.1),fun _ ad=>ng ad ao,
  ⟨s9 cs,[],U,U.map fh,none,rfl,(BG aS).1,bk,bl,rfl,List.Perm.refl _,fun p E=>by cases E⟩,?_⟩
 rintro _ ad ⟨b,Z,X,left,aW,rfl,aL,aM,aX,rfl,ax,aN⟩;refine wS aX (fun _=>by show w.heap.size≤ao;omega) (fun bn=>?_) (fun j p aP E aY bI ap=>?_)
 ·rw[aC (v:=.bool false) rfl,aT];have:X=[]:=List.map_eq_nil_iff.1 bn;subst this;rw[U3] at ax;refine⟨(ai.trans aJ).trans aM,b,rfl,aL,fun d bo=>?_⟩;obtain⟨q,W,rfl⟩:=l9.1 ((V.1 d).2 bo);exact aN q (ax.mem_iff.2 W)
 ·rw[aC (v:=.bool true) rfl,bP];refine wT ap ?_;obtain⟨q,W,rfl⟩:∃ q,X[j]? =some q∧fh q=p:=by
   rw[r8] at E;exact Z3.1 E
  have a1:q∈U:=ax.mem_iff.1 (n0.2 (.inr (u4 W)));have bJ:=V.2 q a1;have bp:q.1∈cs:=(V.1 q.1).1 (l9.2 ⟨q,a1,rfl⟩);obtain⟨bq,br⟩:=yr V aL;have bt:(U.map fh)[bq]? =some (.int .i64 b,.int .i64 ((cs.count b:Nat):Int)):=by rw[r8,br];rfl
  rw[aC (v:=.int .i64 q.1) rfl,aC (v:=.int .i64 q.2) rfl];have a2:(Z++[q]++X.eraseIdx j).Perm U:=by
   refine List.Perm.trans ?_ ax;rw[W9];exact List.Perm.append_left Z (tp W)
  have a6:ng aP ao<ng ad ao:=by
   rw[ru ap,ru aX];have:=w8 (x6.1 E).1;omega
  refine aZ (fun v bu=>aP=bu∧ ∃ r:Bool,v= .bool r∧(r=true↔(cs.count b<cs.count q.1∨(cs.count q.1=cs.count b∧q.1<b)))) ?_ ?_
  ·rintro _ _ ⟨rfl,r,rfl,ac⟩;rw[cE];refine⟨fun bw=>?_,fun a7=>?_⟩
   ·have ac:=ac.1 bw;refine⟨⟨q.1,Z++[q],X.eraseIdx j,_,_,rfl,bp,aM.trans aY,ap,(kp fh X j),a2,fun p E=>?_⟩,a6⟩;rcases n0.1 E with E|E
    ·have:=aN p E;omega
    ·rw[o9.1 E];exact .inr ⟨rfl,Int.le_refl _⟩
   ·have ac:¬(cs.count b<cs.count q.1∨(cs.count q.1=cs.count b∧q.1<b)):=fun h=>by rw[ac.2 h] at a7;cases a7
    refine⟨⟨b,Z++[q],X.eraseIdx j,_,_,rfl,aL,aM.trans aY,ap,(kp fh X j),a2,fun p E=>?_⟩,a6⟩;rcases n0.1 E with E|E
    ·exact aN p E
    ·rw[o9.1 E];omega
  ·intro bK aQ;have a8:∀ K:x4→Prop,I y0 (V3 gd (.map (some m)) (.int .i64 b) false) aP K=K (.int .i64 ((cs.count b:Nat):Int)):=fun K=>by
    rw[pK gd.u p4 ap.map (p5 U) ⟨_,rfl⟩ bt];simp
   rw[a8,bV,ag];refine⟨fun h1=>aQ _ _ ⟨rfl,true,rfl,⟨fun _=>.inl (by omega),fun _=>rfl⟩⟩,fun h1=>?_⟩;rw[a8,bQ,ag];refine⟨fun bx=>?_,fun bx=>aQ _ _ ⟨rfl,false,rfl,⟨fun h=>(by cases h),fun h=>by omega⟩⟩⟩;rw[au];refine aQ _ _ ⟨rfl,_,rfl,?_⟩;rw[decide_eq_true_eq];omega
theorem EM {w:x5} {g I:Nat} {k:o8} {e J:o6} {v:x4} {l:List Int} {cs:List x4} (h:aq k e w g v l) (O:ak w I J cs) (V:e≠J) {r:Nat} (U:leads v r):r≠I:=by
 obtain⟨rfl,_⟩:=bX h U;obtain⟨_,⟨rfl,_⟩|⟨_,_,_,E,_⟩⟩:=h
 ·obtain⟨a,n,c,h,_⟩:=U;cases h
 ·rintro rfl;unfold ak at O E;rw[O] at E;injection E with h1;injection h1 with X W;exact V W.symm
def EN (w:x5) (an:List Int) (k:Int) (cs:List Int) (v:x4) (w':x5):Prop:=Ext w w'∧ ∃ g m o D,v= .pointer (some ⟨g,0,none⟩)∧dM w' g m an k o D∧D.length≤(aG an).toNat∧gn an (gk D o) cs∧rT cs o
set_option maxHeartbeats 4000000 in
theorem EO {w:x5} {g cb:Nat} {sv:x4} {an cs:List Int} {k:Int} (h:cG w g cb sv an k cs) (bc:∀ c∈cs,cF c k):O y0 mA [.pointer (some ⟨g,0,none⟩)] w (EN w an k cs):=by
 obtain⟨⟨aM,gs,bB,hm,cS⟩,⟨_,_,bC⟩,ag,aV⟩:=id h;have cT:=prod_bound ag;have cU:=ag.1;have bD:cs≠[]:=fun he=>by rw[he] at aV;simp at aV;omega
 apply mA.enter;rw[cZ bA.u];simp only[b8,aT];refine (ko h).mono ?_;rintro aw aq _ ⟨aD,cV,cW,bd⟩;refine bO af.i fun aL cX cY bF bH=>?_;have c0:=bH.lt;refine bE af.i bd.ls.cells.1 bd.ls.cells.2 bH (by simp[x4.cells]) fun aW cc c1 aX=>?_;have aX:ak aW aL af [aw]:=aX;have c2:=aD.size;have c3:=bF.size;have bI:Ext aq aW:=bF.then cc (fun r ax he=>by have he:r=aL:=he;omega);have bJ:=bd.ext bI;have aN:=aD.trans bI;refine aZ (fun u aY=>∃ E Z m o ay az,u= .pointer (some ⟨E,0,none⟩)∧Ext aW aY∧ak aY E b5 [.pointer (some ⟨Z,0,none⟩)]∧aW.heap.size≤m∧eJ aY Z m ay az an k o []∧rT cs o) ?_ ?_
 ·rintro _ aY ⟨E,Z,m,o,ay,az,rfl,aO,J,c4,ah,ao⟩;have cd:=h.ext (aN.trans aO);have ce:=aX.ext aO;have cg:=bJ.ext aO;refine (nc cd).mono ?_;rintro _ c5 _ ⟨rfl,ch⟩;refine tk.mono ?_;rintro _ be _ ⟨ci,bK,rfl,c6,bL⟩;have aE:=ch.trans ci;have bM:=ah.ext aE;have cj:=ce.ext aE;have bN:=J.ext aE;have ck:=cg.ext aE;have bP:=hm.ext ((aN.trans aO).trans aE);have aF:=bM.2.2.1;have cl:=(aN.trans aO).trans aE;have c7:=aN.size;have cm:=tj (g:=bK) (B0:=be.heap.size) (sv:=sv) ag;refine⟨Nat,false,gv,#[.pointer (some ⟨bK,0,none⟩)],_,_,_,_,fun i w'=>aj (fun r=>r=m) be w'∧ ∃ D,D.length≤i∧eJ w' Z m ay az an k o D∧ ∀ (j:Nat) t,(bG an)[j]? =some t→gk D o t=if j<i then cn an cs t else o,fun _ _ _=>False,rfl,cm.s,
   ?_,fun _ _ aG h=>⟨h.1.ext aG,h.2.1.ext aG,Y3 h.2.2 aG.size⟩,fun _ _ _ aG ⟨h1,D,cp,cq,bC⟩=>⟨h1.trans (aG.ad _),D,cp,cq.ext aG,bC⟩,fun _ _ _ _ _ h=>h,⟨bL,bP.ls,o7 _⟩,⟨aj.refl _ _,[],o7 _,bM,fun j t _=>by rw[if_neg (by omega)];rfl⟩,?_,?_,fun _ _ h=>h.elim,fun _ _ _ h=>h.elim⟩
  ·rintro _ _ _ _ ⟨_,_,_,_,rfl,_⟩;rfl
  ·rintro _ Y i _ cr ⟨c8,c9,ct⟩ ⟨hi,rfl,da,db,cu,dc,ab⟩ ⟨a1,D,bQ,bf,bg⟩;cases cu;have bh:(bG an)[i]? =some (cv an (i:Int)):=q7 ag.2 (by omega);have cw:cM an (cv an (i:Int)):=ta ag.2 hi;generalize cv an (i:Int)=t at*;have bR:=Dx ag.2 aV bh;intro cz a2 _ _;intro cA cB _ _;have a6:=a2.trans cB;have a7:aj (fun r=>r=m) be cA:=a1.trans (a6.ad _);rw[ai (by kernel_rfl) ((rS bN aF a7).cell (o:=0) rfl),ai (by kernel_rfl) ((rS cj aF a7).cell (o:=0) rfl),bm af.u ae.i (by kernel_rfl) (yq ck aF a7).ls bR];have bi:=bf.ext a6;refine (w5 bi.is (ab.ext a6).ls (c:=cn an cs t)).mono ?_;rintro _ dd _ ⟨_,cC⟩;obtain⟨rfl,bj,cD,bS,bT⟩:=cC ⟨cw,bc _ (u4 bR)⟩;have bk:=a7.trans bj;have de:=bS.2;refine⟨⟨rS bL aF bk,(yq bP aF bk).ls,Y3 ct (Y3 a6.size bj.size)⟩,⟨bk,cD,by omega,bi.put bj bT,fun j s aA=>?_⟩,fun h=>by cases h⟩;rw[bS.cost bi.is.nodup bT.nodup];by_cases bU:j=i
   ·subst bU;rw[bh] at aA;cases aA;rw[if_pos rfl,if_pos (by omega)]
   ·rw[if_neg (fun(he:s=t)=>bU (EI ag.2 (by rw[←he];exact aA) bh)),bg j s aA];by_cases h1:j<i
    ·rw[if_pos h1,if_pos (by omega)]
    ·rw[if_neg h1,if_neg (by omega)]
  ·rintro i cr rfl ⟨a1,D,bQ,bf,bg⟩;rw[ai (by kernel_rfl) ((rS bN aF a1).cell (o:=0) rfl)];intro cz a2 _;refine⟨(cl.then a1 (fun r ax he=>by have he:r=m:=he;omega)).trans a2,Z,m,o,D,rfl,bf.is.ext a2,bQ,⟨aV,fun t cE=>?_⟩,ao⟩;obtain⟨j,aA⟩:=EJ ag.2 cE;have:=(x6.1 aA).1;rw[iN ag.2] at this;rw[bg j t aA,if_pos this]
 intro a8 bV;intro ac aP _ _;have bl:=aN.trans aP;have bW:=aP;have ba:=h.ext bl;have bX:=bJ.ext aP;have df:=aP.size;rw[ai (by kernel_rfl) ((aX.ext aP).cell (o:=0) rfl)];have bY:∀ {E:Nat} {w':x5} {Y:x4} {o:Int},Ext ac w'→ac.heap.size≤E→(∃ U,ak w' E b5 [U])→aH .i64 w' Y an→rT cs o→
   O y0 fz [Y,.int .i64 k,.int .i64 o] w' fun am W=>I y0 (u5 am 0) W fun aB=>I y0 (u5 am 1) W fun _=>aa y0 (x8 b5 (.pointer (some ⟨E,0,none⟩)) aB) W fun(_:Unit) au=>a8 (.pointer (some ⟨E,0,none⟩)) au:=by
  rintro E w' Y o X V ⟨U,J⟩ ab ao;refine (wY ab).mono ?_;rintro _ W _ ⟨bn,_,_,bo⟩;obtain⟨Z,m,rfl,cH,cI,ah⟩:=bo ag (bc _ ao.1);obtain⟨ay,az,ah⟩:=ah.at;rw[aC (v:=.pointer (some ⟨Z,0,none⟩)) rfl,aC (v:=.int .i64 0) rfl];have cJ:=J.lt;have s':=X.size;refine bE b5.i rfl rfl (J.ext bn) (by simp) fun au bZ dg cK=>?_;refine bV _ _ ⟨E,Z,m,o,ay,az,rfl,((bW.trans X).trans bn).then bZ (fun r ax he=>by have he:r=E:=he;omega),cK,by omega,ah.ad bZ (fun he=>by have he:Z=E:=he;omega) (fun he=>by have he:m=E:=he;omega) (fun r ax he=>?_),ao⟩;exact EM ah.2.1 (J.ext bn) (by decide) ax he
 have b1:∀ {E:Nat} {w':x5} {Y:x4},Ext ac w'→ac.heap.size≤E→(∃ U,ak w' E b5 [U])→aH .i64 w' Y an→
   O y0 ht [aw] w' fun aQ aq=>O y0 fz [Y,.int .i64 k,aQ] aq fun am W=>I y0 (u5 am 0) W fun aB=>I y0 (u5 am 1) W fun _=>aa y0 (x8 b5 (.pointer (some ⟨E,0,none⟩)) aB) W fun(_:Unit) au=>a8 (.pointer (some ⟨E,0,none⟩)) au:=by
  rintro E w' Y X V ⟨U,J⟩ ab;refine (ys (bX.ext X).ls bD (by omega)).mono ?_;rintro _ aq _ ⟨aD,o,rfl,ao⟩;exact bY (X.trans aD) V ⟨U,J.ext aD⟩ (ab.ext aD) ao
 have b2:∀ {E:Nat} {w':x5} {Y:x4},Ext ac w'→ac.heap.size≤E→(∃ U,ak w' E b5 [U])→aH .i64 w' Y an→
   O y0 iG [.pointer (some ⟨g,0,none⟩)] w' fun bp ap=>(Ext ac ap∨al y0 (x1 af (.pointer (some ⟨aL,0,none⟩))) aw ap∧True)∧
    O y0 ht [aw] ap fun aQ aq=>O y0 fz [Y,bp,aQ] aq fun am W=>I y0 (u5 am 0) W fun aB=>I y0 (u5 am 1) W fun _=>aa y0 (x8 b5 (.pointer (some ⟨E,0,none⟩)) aB) W fun(_:Unit) au=>a8 (.pointer (some ⟨E,0,none⟩)) au:=by
  rintro E w' Y X V ⟨U,J⟩ ab;refine (wN (ba.ext X)).mono ?_;rintro _ ap _ ⟨rfl,av⟩;exact⟨.inl (X.trans av),b1 (X.trans av) V ⟨U,J.ext av⟩ (ab.ext av)⟩
 have b3:an.length≤1000:=by omega
 have b4:∀ {E:Nat} {w':x5},Ext ac w'→ac.heap.size≤E→(∃ U,ak w' E b5 [U])→
   O y0 jU [.agg #[sv]] w' fun cL w0=>(Ext ac w0∨al y0 (x1 af (.pointer (some ⟨aL,0,none⟩))) aw w0∧True)∧
    O y0 iG [.pointer (some ⟨g,0,none⟩)] w0 fun bp ap=>(Ext ac ap∨al y0 (x1 af (.pointer (some ⟨aL,0,none⟩))) aw ap∧True)∧
    O y0 ht [aw] ap fun aQ aq=>O y0 fz [cL,bp,aQ] aq fun am W=>I y0 (u5 am 0) W fun aB=>I y0 (u5 am 1) W fun _=>aa y0 (x8 b5 (.pointer (some ⟨E,0,none⟩)) aB) W fun(_:Unit) au=>a8 (.pointer (some ⟨E,0,none⟩)) au:=by
  rintro E w' X V ⟨U,J⟩;refine (wO (hm.ext (bl.trans X)).ls b3).mono ?_;rintro Y ap _ ⟨av,_,_,ab⟩;exact⟨.inl (X.trans av),b2 (X.trans av) V ⟨U,J.ext av⟩ ab.ls⟩
 have aR:∀ {w':x5} {R:x4→x5→Prop},Ext ac w'→(∀ E aS,ac.heap.size≤E→Ext w' aS→(∃ U,ak aS E b5 [U])→R (.pointer (some ⟨E,0,none⟩)) aS)→aa y0 (n9 b5 true (.tuple #[])) w' R:=fun {w'} {R} X cN=>by
  have:=X.size;exact bO b5.i fun E aS V cO bB=>cN E aS (by omega) cO ⟨_,bB⟩
 refine⟨?_,aR (Ext.refl _) fun E dh V bb J=>⟨.inl bb,?_⟩⟩
 rotate_left
 ·refine (nc (ba.ext bb)).mono ?_;rintro _ di _ ⟨rfl,bq⟩;obtain⟨U,J⟩:=J;exact⟨.inl (bb.trans bq),b4 (bb.trans bq) V ⟨U,J.ext bq⟩⟩
 refine (nc ba).mono ?_;rintro _ dj _ ⟨rfl,aI⟩;refine⟨.inl aI,?_,aR aI fun E dk V b6 J=>⟨.inl (aI.trans b6),b4 (aI.trans b6) V J⟩⟩;refine (wO (hm.ext (bl.trans aI)).ls b3).mono ?_;rintro Y dl _ ⟨cP,_,_,ab⟩;have aJ:=aI.trans cP;refine⟨.inl aJ,?_,aR aJ fun E dm V br J=>⟨.inl (aJ.trans br),b2 (aJ.trans br) V J (ab.ext br).ls⟩⟩;refine (wN (ba.ext aJ)).mono ?_;rintro _ dn _ ⟨rfl,bt⟩;have aK:=aJ.trans bt;refine⟨.inl aK,?_,aR aK fun E dp V bu J=>⟨.inl (aK.trans bu),b1 (aK.trans bu) V J ((ab.ext bt).ext bu).ls⟩⟩;refine (ys (bX.ext aK).ls bD (by omega)).mono ?_;rintro _ dq _ ⟨b7,o,rfl,ao⟩;have aU:=aK.trans b7;have b9:=(ab.ext bt).ext b7;refine⟨?_,aR aU fun E dr V bw J=>⟨.inl (aU.trans bw),bY (aU.trans bw) V J (b9.ext bw).ls ao⟩⟩;refine (wY b9.ls).mono ?_;rintro _ ds _ ⟨cQ,_,_,bo⟩;obtain⟨Z,m,rfl,cH,cI,ah⟩:=bo ag (bc _ ao.1);obtain⟨ay,az,ah⟩:=ah.at;rw[aC (v:=.pointer (some ⟨Z,0,none⟩)) rfl,aC (v:=.int .i64 0) rfl];have bx:=aU.trans cQ;refine bO b5.i fun E dt V bz J=>?_;refine⟨.inl (bx.trans bz),?_⟩;have cJ:=J.lt;obtain⟨du,dv,t3⟩:=ah.pH;have dw:=aU.size;have dx:=bx.size;refine bE b5.i rfl rfl J (by simp[x4.cells]) fun dy ca dz cR=>?_;exact bV _ _ ⟨E,Z,m,o,ay,az,rfl,((bW.trans bx).trans bz).then ca (fun r ax he=>by have he:r=E:=he;omega),cR,by omega,(ah.ext bz).ad ca (fun he=>by have he:Z=E:=he;omega) (fun he=>by have he:m=E:=he;omega) (fun r ax he=>by have he:r=E:=he;have:=t3 r ax;omega),ao⟩
theorem yt {k:Int} {acc:List ch} {g:ch} (h:∀ x∈acc,x.1≠g.1):gj k acc g=acc++[g]:=by
 unfold gj;rw[if_neg];intro hm;obtain⟨x,E,he⟩:=l9.1 hm;exact h x E he
theorem EP {k:Int} {acc:List ch} {g h:ch} {i:Nat} (I:gH acc) (hi:acc[i]? =some h) (he:h.1=g.1):gj k acc g=acc.set i (h.1,di k h.2 g.2):=by
 have J:=(x6.1 hi).1;unfold gj;rw[if_pos (l9.2 ⟨h,u4 hi,he⟩)];refine X6 fun j=>?_;rw[r8,Y7];by_cases E:i=j
 ·subst E;rw[hi,b6,if_pos he,if_pos rfl,if_pos J]
 ·rw[if_neg E];cases O:acc[j]? with
  |none=>rfl
  |some y=>
   have:y.1≠g.1:=fun U=>E (by
    have h1:(acc.map (·.1))[i]? =some g.1:=by rw[r8,hi,b6,he]
    have V:(acc.map (·.1))[j]? =some g.1:=by rw[r8,O,b6,U]
    exact ii I h1 V)
   rw[b6,if_neg this]
theorem EQ {α β:Type} {f:β→α→β} {b:β} {l:List α} {i:Nat} {x:α} (h:l[i]? =some x):(l.take (i+1)).foldl f b=f ((l.take i).foldl f b) x:=by
 rw[o3,h,j5,List.foldl_append];rfl
def kr (w:x5) (k:Int) (sizes:List Int) (x:cj):Prop:=(∃ E,aq .i64 J w E x.sv x.sc)∧ ∃ m o D,dM w x.g m (bF sizes x.sc) k o D∧D.length≤4096∧gn (bF sizes x.sc) (gk D o) x.cs
theorem kr.ext {w w':x5} {k:Int} {sizes:List Int} {x:cj} (h:kr w k sizes x) (E:Ext w w'):kr w' k sizes x:=by
 obtain⟨⟨I,h1⟩,m,o,D,J,O⟩:=h;exact⟨⟨I,h1.ext E⟩,m,o,D,J.ext E,O⟩
theorem kr.ad {w w':x5} {S:Nat→Prop} {k:Int} {sizes:List Int} {x:cj} (h:kr w k sizes x) (W:aj S w w') (U:∀ r,S r→ ∃ e c,ak w r e c∧e≠cL∧e≠J):kr w' k sizes x:=by
 obtain⟨⟨Z,h1⟩,m,o,D,aa,ab⟩:=h;obtain⟨sv,gs,O⟩:=aa.at;have X:∀ {g:Nat} {v:x4} {l:List Int},aq .i64 J w g v l→ ∀ r,leads v r→¬S r:=fun hm r ac I=>by
  obtain⟨e,c,E,_,V⟩:=U r I;exact bW hm E (fun he=>V he.symm) ac rfl
 refine⟨⟨Z,bp h1 W (X h1)⟩,m,o,D,(O.ad W (fun I=>?_) (fun I=>?_) (X O.2.1)).is,ab⟩
 ·obtain⟨e,c,E,V,_⟩:=U _ I;have Y:=O.1;unfold ak at Y E;rw[Y] at E;exact V (Obj.cells.inj (b9 E)).2.1.symm
 ·obtain⟨e,c,E,_,_⟩:=U _ I;exact rI E O.2.2.1 rfl
def p6 (w:x5) (g:Nat) (v:x4) (k:Int) (sizes:List Int) (L:List cj):Prop:=aW dO 2 bg w g v L∧ ∀ x∈L,kr w k sizes x
theorem p6.ext {w w':x5} {g:Nat} {v:x4} {k:Int} {sizes:List Int} {L:List cj} (h:p6 w g v k sizes L) (E:Ext w w'):p6 w' g v k sizes L:=⟨h.1.ext E,fun x I=>(h.2 x I).ext E⟩
def ER (w:x5) (I:Nat) (f:bS):Prop:=∃ aw E O g L,ak w I bf [bu f.name,.int .i64 f.k,aw,E]∧aq .i64 J w O aw f.sizes∧p6 w g E f.k f.sizes L∧L.map dk=eG f
theorem ES {w:x5} {g Z:Nat} {v sv:x4} {L:List cj} {U:List Int} (h:eb w g v L) (ac:ak w Z ab [sv]) (ad:aH .i64 w sv U):
  O y0 jZ [v,.func (.func mw) #[] #[.pointer (some ⟨Z,0,none⟩)]] w fun r w'=>Ext w w'∧((r= .int .i64 (-1)∧ ∀ x∈L,x.sc≠U)∨ ∃ i:Nat,r= .int .i64 (i:Int)∧ ∃ x,L[i]? =some x∧x.sc=U):=by
 apply jZ.enter;rw[dZ cX.u h.1];refine a8.range L.length (fun i _ V=>Ext w V∧ ∀ x∈L.take i,x.sc≠U) h.1.le ⟨Ext.refl _,fun c E=>by simp at E⟩ ?_ ?_
 ·rintro i _ V k hi ⟨I,W⟩ ae;rw[au,ag];refine⟨fun _=>?_,fun h=>by omega⟩;obtain⟨x,X⟩:∃ x,L[i]? =some x:=⟨_,x3 hi⟩;rw[rP rfl (h.ext I) X];show O y0 mw [hJ x,.pointer (some ⟨Z,0,none⟩)] V _;obtain⟨⟨am,hm⟩,_⟩:=(h.ext I).at X;apply mw.enter;refine ce fun af aj ao J Y=>?_;have Y:ak aj af bB [x.sv,.pointer (some ⟨x.g,0,none⟩)]:=by
   obtain⟨_,_,_,e⟩:=c6 hm.ls;simp only[hJ,dO,e] at Y ⊢;exact Y
  rw[ah bB.p rfl,ai (by kernel_rfl) (Y.cell (o:=0+0) rfl),ai (by kernel_rfl) ((ac.ext (I.trans J)).cell (o:=0) rfl)];refine (AL (hm.ls.ext J) (ad.ext (I.trans J))).mono ?_;rintro _ ap _ ⟨rfl,aa⟩;rw[ag];refine⟨fun he=>⟨(I.trans J).trans aa,.inr ⟨i,rfl,x,X,he⟩⟩,fun al=>?_⟩;rw[aK];refine ae _ _ ⟨(I.trans J).trans aa,fun c E=>?_⟩;rw[o3,X] at E;rcases n0.1 E with E|E
  ·exact W c E
  ·simp at E;subst E;exact al
 ·rintro _ V k ⟨I,W⟩;rw[l5] at W;rw[au,ag];exact⟨fun h=>by omega,fun _=>⟨I,.inl ⟨rfl,W⟩⟩⟩
def dP (f:bS) (i:Nat):List ch:=((f.funs.take i).map (fR f.sizes f.k)).foldl (gj f.k) []
theorem yu {N:Nat} {f:bS} (E:eh N f) (i:Nat):(∀ g∈dP f i,ey f.sizes f.k g)∧gH (dP f i)∧(dP f i).length≤i:=by
 have:=tC (sizes:=f.sizes) (k:=f.k) (by have:=E.k.1;omega) (l:=(f.funs.take i).map (fR f.sizes f.k)) (acc:=[]) (fun h J=>by cases J) List.nodup_nil fun g O=>by
  obtain⟨x,U,rfl⟩:=l9.1 O;exact nl E (List.mem_of_mem_take U)
 refine⟨this.1,this.2.1,?_⟩;have I:=this.2.2;rw[List.length_nil,o4,V5,l6] at I;exact Y3 I (Nat.min_le_left _ _)
theorem tP {f:bS} {i:Nat} {x:ca} (h:f.funs[i]? =some x):dP f (i+1)=gj f.k (dP f i) (fR f.sizes f.k x):=by
 unfold dP;rw[o3,h,j5,j4,List.foldl_append];rfl
theorem yv (f:bS):dP f f.funs.length=ev f:=by unfold dP ev;rw[l5]
theorem tQ {L:List cj} {i:Nat} {x:cj} {D:List ch} (h:L.map dk=D) (E:L[i]? =some x):dk x∈D:=by rw[←h];exact l9.2 ⟨x,u4 E,rfl⟩
def ET (w:x5) (f:bS) (v:x4) (w':x5):Prop:=Ext w w'∧((¬jB f.funs≤16384∧ ∃ e:Int,e≠0∧v= .tuple #[.pointer none,.int .i64 e])∨ ∃ E,v= .tuple #[.pointer (some ⟨E,0,none⟩),.int .i64 0]∧ER w' E f)
theorem rU {sv:x4} {g E:Nat} {w:x5} {sc cs:List Int} (hm:aq .i64 J w g sv sc):∀ u∈dO ⟨sv,E,sc,cs⟩,u.oneCell'=true:=fun u hu=>by
 simp[dO] at hu;rcases hu with rfl|rfl
 ·exact hm.ls.cells.2
 ·rfl
set_option maxHeartbeats 8000000 in
theorem EU {N:Nat} {w:x5} {b7:Nat} {f:bS} (b8:iZ w b7 f) (W:eh N f) (ca:N≤60000) (dd:f.name≠[]∧ ∀ b∈f.name,bC b=true):
  O y0 og [.pointer (some ⟨b7,0,none⟩)] w (ET w f):=by
 have bq:=W.k;apply og.enter;refine (Ee b8 W ca dd).mono ?_;rintro _ ao _ ⟨br,e,rfl,he⟩;rw[bN,ag];refine⟨fun cb=>⟨br,.inl ⟨fun h=>cb (he h),e,cb,rfl⟩⟩,fun eJ=>?_⟩;have cc:=b8.ext br;obtain⟨aw,aX,eK,bt,cd,de,bw,aY⟩:=id cc;have eL:bt.length≤256:=by rw[aY.1];exact W.iR
 rw[az,ah bf.p rfl,ai (by kernel_rfl) (cd.cell (o:=0+3) rfl),h9 bJ.u bw];refine a8.range bt.length (fun i l ap=>∃ g L,Ext ao ap∧eb ap g l L∧Sem ap f.k f.sizes L∧L.map dk=dP f i∧ ∀ r,leadsTo l r→ao.heap.size≤r) (qV bw)
  ⟨0,[],Ext.refl _,⟨aW.nil _ _ _ _ _,fun x aM=>(by cases aM)⟩,fun x aM=>(by cases aM),rfl,fun r E=>(dI E).elim⟩ ?_ ?_
 ·rintro i l ap df hi ⟨g,L,av,aN,a1,X,Z⟩ dg;obtain⟨d,cg⟩:∃ d,bt[i]? =some d:=⟨_,x3 hi⟩;obtain⟨x,a2⟩:∃ x,f.funs[i]? =some x:=⟨_,x3 (by have:=aY.1;omega)⟩;have ch:=u4 a2;have dh:=aY.2 i x d a2 cg;have aA:=nl W ch;obtain⟨dj,dl,eM⟩:=yu W i;have dm:L.length≤i:=by have dn:=congrArg W8 X;rw[o4] at dn;omega
  rw[au,ag];refine⟨fun _=>?_,fun h=>by omega⟩;refine aZ (fun l' a6=>∃ aa aO,Ext ao a6∧eb a6 aa l' aO∧Sem a6 f.k f.sizes aO∧aO.map dk=dP f (i+1)∧ ∀ r,leadsTo l' r→ao.heap.size≤r) ?_ ?_
  ·rintro l' a6 ⟨aa,aO,h1,dp,dq,ds,dt⟩;rw[aK];exact dg _ _ ⟨aa,aO,h1,dp,dq,ds,dt⟩
  intro eN ci;refine mR (α:=fr) bg.p rfl bJ.u bg.i (c0 bw av) cg fun cs bx=>?_;have ck:cs.length=2:=ax.len bx;refine bO bg.i fun du eO eP dv dw=>?_;refine b4 (vs:=cs) bg.i ck rfl (ax.one bx) dw fun dx dy eQ dz=>?_;have ac:Ext ap dx:=dv.then dy (fun r E he=>by have he:r=du:=he;omega);rw[bI bg.p bg.i ck dz.range];refine (Eo W ca ch dh (c0 bx ac)).mono ?_;rintro _ dA _ ⟨dB,sv,gs,bz,dC,dD,rfl,eR,aP,cl⟩;rw[aC (v:=sv) rfl,aC (v:=.pointer (some ⟨bz,0,none⟩)) rfl];refine bO ab.i fun cm eT eU dE dF=>?_;refine bE ab.i aP.ls.cells.1 aP.ls.cells.2 dF (by simp[x4.cells]) fun cn dG eV a7=>?_;have bD:Ext dA cn:=dE.then dG (fun r E he=>by have he:r=cm:=he;omega);have a7:ak cn cm ab [sv]:=a7;rw[pm];have bG:=(ac.trans dB).trans bD;have eW:=bG.size;have eX:=av.size;refine (ES (aN.ext bG) a7 (aP.ls.ext bD)).mono ?_;rintro _ eY _ ⟨ba,E⟩;have bb:=bG.trans ba;have cp:=bD.trans ba;have bH:=aP.ext cp;have cq:=cl.ext cp;have cr:=a7.ext ba;have ct:=aN.ext bb;have bK:=a1.ext bb;rcases E with⟨rfl,dH⟩|⟨cu,rfl,y,V,be⟩
  ·rw[au,ag];refine⟨fun _=>?_,fun h=>by omega⟩;rw[ai (by kernel_rfl) (cr.cell (o:=0) rfl),cW (cs:=#[sv,.pointer (some ⟨bz,0,none⟩)]) (by obtain⟨_,_,_,rfl⟩:=c6 aP.ls;kernel_rfl)];let a:cj:=⟨sv,bz,bd x.scope,(fR f.sizes f.k x).2⟩;have bL:∀ u∈dO a,u.oneCell'=true:=rU bH;refine ff (f:=dO) (a:=a) cX.u bB.i (by omega) rfl rfl fun eZ e0 dJ e1 aB dK=>?_;have aD:=ct.ext aB;refine fo (f:=dO) (a:=a) cX.u bB.i rfl aD.1 (by simpa using dK.sl) bL (by omega) (by omega) fun aQ aa e2 aR bM aS=>?_;have cw:=bH.ext aB;have bh:∀ {r:Nat},leadsTo l r→ ∃ c,ak dJ r bB c:=fun E=>by
    obtain⟨rfl,c,U⟩:=dr aD.1 E;exact⟨c,U⟩
   refine ci _ _ ⟨aa,L++[a],((av.trans bb).trans aB).then aS (fun r E he=>by have:=Z r he;omega),eb.mk aR fun z I=>?_,fun z I=>?_,?_,fun r E=>?_⟩
   ·rcases n0.1 I with I|I
    ·have:=(aD.2 z I).ad aS fun r E he=>(aD.2 z I).2.1 r E (aD.1.leads he).1;exact⟨this.1,this.2.2⟩
    ·rw[o9.1 I];exact⟨⟨gs,bp cw aS fun r E he=>by obtain⟨c,U⟩:=bh he;exact bW cw U (by decide) E rfl⟩,aA.scope⟩
   ·rcases n0.1 I with I|I
    ·exact (bK.ext aB).row aD aS z I
    ·rw[o9.1 I];exact⟨dC,dD,tK (cq.ext aB) aS fun r E=>bh E⟩
   ·rw[j4,X,tP a2,yt]
    ·rfl
    ·intro c Y dL;rw[←X] at Y;obtain⟨z,I,rfl⟩:=l9.1 Y;exact dH z I dL
   ·rcases bM r E with h|h
    ·exact Z r h
    ·have:=aB.size;have:=ba.size;omega
  ·rw[au,ag];refine⟨fun h=>by omega,fun _=>?_⟩;intro e3 ae _ _;have bP:=ct.ext ae;have cz:=(x6.1 V).1;obtain⟨dM,dN,bi⟩:=(bK.ext ae) y (u4 V);have cA:=cr.ext ae;have cB:=bH.ext ae;have dQ:=cq.ext ae;rw[cI rfl cX.u bB.i bP.1 cz,ah bB.p rfl,ai (by kernel_rfl) (bP.1.range V 1 _ rfl),ai (by kernel_rfl) (cA.cell (o:=0) rfl),ai (by kernel_rfl) (cA.cell (o:=0) rfl)];have aE:ey f.sizes f.k (dk y):=dj _ (tQ X V);rw[be] at bi;have cC:∀ {c:Int},0≤c∧c≤f.k→cF c f.k:=fun h=>⟨bq,h.1,h.2⟩;refine (EB bi dQ cB.ls cB.ls bq (fun c Y=>cC (aE.hh c Y)) (fun c Y=>cC (aA.hh c Y))).mono ?_;intro e4 cD _ dR;have dS:y.cs.length=(aG (bF f.sizes (bd x.scope))).toNat:=by have:=aE.len;rw[show (dk y).1=y.sc from rfl,be] at this;exact this
   have dT:bR (bF f.sizes (bd x.scope)):=cl.2.2.1;obtain⟨bQ,bT,cE,cH,dU,rfl,dV⟩:=EG aA.up (fun v dW=>(aA.scope.1 v dW).1) (by simp[bF];rfl) dT aA.small dS aA.len dR;rw[aC (v:=.pointer (some ⟨bT,0,none⟩)) rfl,aC (v:=dU) rfl,aC (v:=.int .i64 0) rfl];have af:=bP.ext bQ;rw[cI rfl cX.u bB.i af.1 cz,ah bB.p rfl];let a:cj:=⟨y.sv,bT,y.sc,di f.k y.cs (fR f.sizes f.k x).2⟩;refine nf (f:=dO) (j:=1) (a:=y) (a':=a) bA.i rfl rfl af.1 V rfl (by omega) fun dX bj e5 dY=>?_;have bh:∀ {r:Nat},leadsTo l r→ ∃ c,ak cD r bB c:=fun E=>by
    obtain⟨rfl,c,U⟩:=dr af.1 E;exact⟨c,U⟩
   refine ci _ _ ⟨g,L.set cu a,((av.trans bb).trans (ae.trans bQ)).then bj (fun r E he=>by have:=Z r he;omega),eb.mk dY fun z I=>?_,fun z I=>?_,?_,Z⟩
   ·have cJ:∀ z∈L,(∃ bU,aq .i64 J dX bU z.sv z.sc)∧hg z.sc:=fun z I=>by
     have:=(af.2 z I).ad bj fun r E he=>(af.2 z I).2.1 r E (af.1.leads he).1;exact⟨this.1,this.2.2⟩
    rcases V1 I with I|rfl
    ·exact cJ z I
    ·exact cJ y (u4 V)
   ·rcases V1 I with I|rfl
    ·exact ((bK.ext ae).ext bQ).row af bj z I
    ·refine⟨cE,cH,tK ?_ bj fun r E=>bh E⟩;show cG cD bT cE cH (bF f.sizes y.sc) f.k _;rw[be];exact dV
   ·rw[List.map_set,X,tP a2,EP (g:=fR f.sizes f.k x) dl (i:=cu) (h:=dk y) (by rw[←X,r8,V];rfl) be];rfl
 ·rintro l ap df ⟨g,L,av,aN,a1,X,Z⟩;rw[au,ag];refine⟨fun h=>by omega,fun _=>?_⟩;rw[aY.1,yv] at X;have dm:L.length≤256:=by
   have:=(iX W).2.2;rw[←X,o4] at this;have:=W.iR;omega
  refine (Ev aN a1 (by omega)).mono ?_;rintro e6 cK _ ⟨cM,cN,ea⟩;have ec:Ext ao cK:=av.then cM fun r E he=>by have:=Z r he;omega
  have ed:Sem cK f.k f.sizes (L.filter eS):=fun z I=>(a1.row aN cM) z (List.mem_filter.1 I).1;have e7:(L.filter eS).length≤L.length:=List.length_filter_le _ _;refine (El cN (by omega)).mono ?_;rintro _ cO _ ⟨cP,M,bV,ee,cQ⟩;have ef:Ext ao cO:=ec.then cP fun r E he=>by have:=Z r (ea r he);omega
  have cR:Sem cO f.k f.sizes M:=fun z I=>(ed.row cN cP) z (bV.mem_iff.1 I);have e8:M.length≤256:=by rw[bV.length_eq];omega
  have cS:M.map dk=eG f:=by
   refine Dm W ?_ ?_
   ·refine (bV.map dk).trans ?_;rw[←X,List.filter_map];exact .refl _
   ·rw[List.pairwise_map];refine W5.2 fun p q eg cT ei=>?_;exact ee p q _ _ (Z9 _) ei cT (x3 eg) (x3 cT)
  intro e9 bk _ _;have aT:=ef.trans bk;have fa:=cc.ext aT;have bX:=cd.ext aT;rw[az,ah bf.p rfl,ai (by kernel_rfl) (bX.cell (o:=0+0) rfl),az,ah bf.p rfl,ai (by kernel_rfl) (bX.cell (o:=0+1) rfl),az,ah bf.p rfl,ai (by kernel_rfl) (bX.cell (o:=0+2) rfl)];refine (jv (de.ls.ext aT) (by have:=W.sizes.2.1;omega)).mono ?_;rintro aU cU _ ⟨aF,ej,fb,cV⟩;refine⟨.inl aF,?_⟩;rw[cW (cs:=#[bu f.name,.int .i64 f.k,aU,.slice none 0 0]) (by obtain⟨_,_,_,rfl⟩:=c6 cV.ls;kernel_rfl)];refine ce fun al ek fc bl bY=>?_;have bY:ak ek al bf [bu f.name,.int .i64 f.k,aU,.slice none 0 0]:=bY;have fd:=(aT.trans aF).trans bl;have em:=((cQ.ext bk).ext aF).ext bl;have fe:=((cR.ext bk).ext aF).ext bl;rw[dZ cX.u em.1];refine bc.range M.length (fun i aH=>∃ aX bm am,Ext cU aH∧ak aH al bf [bu f.name,.int .i64 f.k,aU,aX]∧p6 aH bm aX f.k f.sizes am∧am.map dk=(M.take i).map dk∧am.length=i∧ ∀ r,leadsTo aX r→cU.heap.size≤r) (by omega)
   ⟨_,0,[],bl,bY,⟨aW.nil _ _ _ _ _,fun x aM=>(by cases aM)⟩,rfl,rfl,fun r E=>(dI E).elim⟩ ?_ ?_
  rotate_left
  ·rintro aH en ⟨aV,bm,am,aI,aJ,bZ,bn,_,_⟩;rw[l5,cS] at bn;rw[au,ag];refine⟨fun h=>by omega,fun _=>?_⟩;exact⟨(br.trans (aT.trans aF)).trans aI,.inr ⟨al,rfl,aU,aV,ej,bm,am,aJ,cV.ext aI,bZ,bn⟩⟩
  rintro i aH en hi ⟨aV,bm,am,aI,aJ,bZ,bn,eo,cY⟩ ep;obtain⟨y,V⟩:∃ y,M[i]? =some y:=⟨_,x3 hi⟩;have cZ:=(bk.trans aF).trans aI;have c1:=cQ.ext cZ;have c2:=c1.at V;obtain⟨dM,dN,bi⟩:=(cR.ext cZ) y (u4 V);have aE:ey f.sizes f.k (dk y):=rE W _ (tQ cS V);rw[au,ag];refine⟨fun _=>?_,fun h=>by omega⟩;rw[rP rfl c1 V];refine bO bB.i fun er fg fh es et=>?_;refine b4 (vs:=dO y) bB.i rfl rfl c2.one et fun eu ev fi ew=>?_;have ez:Ext aH eu:=es.then ev (fun r E he=>by have he:r=er:=he;omega);intro fj c3 _ _;have b1:=ez.trans c3;have c4:=ew.ext c3;have eA:=aJ.ext b1;rw[az,ah bf.p rfl,ai (by kernel_rfl) (eA.cell (o:=0+3) rfl),ah bB.p rfl,ai (by kernel_rfl) (c4.cell (o:=0+0) rfl),ah bB.p rfl,ai (by kernel_rfl) (c4.cell (o:=0+1) rfl)];refine (EO (bi.ext b1) fun c Y=>⟨bq,(aE.hh c Y).1,(aE.hh c Y).2⟩).mono ?_;rintro _ fk _ ⟨b2,ay,m,o,D,rfl,eB,eC,eD,_⟩;refine⟨.inl b2,?_⟩;have c5:=b1.trans b2;obtain⟨⟨bU,c7⟩,_,fl⟩:=c2;have c8:=c7.ext c5;rw[cW (cs:=#[y.sv,.pointer (some ⟨ay,0,none⟩)]) (by obtain⟨_,_,_,e⟩:=c6 c7.ls;rw[e];kernel_rfl)];let a:cj:=⟨y.sv,ay,y.sc,y.cs⟩;have bL:∀ u∈dO a,u.oneCell'=true:=rU c8;refine ff (f:=dO) (a:=a) bJ.u bg.i (by omega) rfl rfl fun v25 fm b3 fp ac eE=>?_;refine⟨.inl (b2.trans ac),?_⟩;have aL:=c5.trans ac;have bo:=bZ.ext aL;refine fo (f:=dO) (a:=a) bJ.u bg.i rfl bo.1 (by simpa using eE.sl) bL (by omega) (by omega) fun aQ aa eF aR bM c9=>?_;have fq:=aI.size;have fs:=aL.size;have b5:ak eF al bf [bu f.name,.int .i64 f.k,aU,aV]:=(aJ.ext aL).ad c9 fun he=>by
   obtain⟨rfl,c,U⟩:=dr bo.1 he;have h1:=aJ.ext aL;unfold ak at U h1;rw[h1] at U;exact absurd (Obj.cells.inj (b9 U)).2.1 (by decide)
  rw[az,ah bf.p rfl];have da:aQ.cells= #[aQ]∧aQ.oneCell'=true:=by
   obtain⟨_,_,_,_,_,rfl,_⟩:=aR.sl;exact⟨rfl,rfl⟩
  refine bE bJ.i da.1 da.2 b5 (by simp) fun eH db ft eI=>?_;rw[aK];have b6:aj (fun r=>r=al∨leadsTo aV r) b3 eH:=(c9.mono fun r _ h=>.inr h).trans (db.mono fun r _ h=>.inl h);have dc:∀ r,(r=al∨leadsTo aV r)→ ∃ e c,ak b3 r e c∧e≠cL∧e≠J:=fun r E=>by
   rcases E with rfl|E
   ·exact⟨_,_,aJ.ext aL,by decide,by decide⟩
   ·obtain⟨rfl,c,U⟩:=dr bo.1 E;exact⟨_,c,U,by decide,by decide⟩
  refine ep _ ⟨aQ,aa,am++[a],?_,eI,⟨aR.ad db fun r E he=>?_,fun z I=>?_⟩,?_,by rw[o5,eo];rfl,fun r E=>?_⟩
  ·exact (aI.trans aL).then b6 fun r E he=>by
    rcases he with rfl|he
    ·omega
    ·have:=cY r he;omega
  ·have he:r=al:=he;subst he;obtain⟨rfl,c,U⟩:=dr aR E;unfold ak at U b5;rw[b5] at U;exact absurd (Obj.cells.inj (b9 U)).2.1 (by decide)
  ·rcases n0.1 I with I|I
   ·exact (bo.2 z I).ad b6 dc
   ·rw[o9.1 I];refine kr.ad (w:=b3) ⟨⟨bU,c8.ext ac⟩,m,o,D,eB.ext ac,?_,eD⟩ b6 dc;have:=aE.small;exact Y3 eC (by show (aG (bF f.sizes (dk y).1)).toNat≤4096;omega)
  ·rw[j4,bn,o3,V,j4];rfl
  ·rcases bM r E with h|h
   ·exact cY r h
   ·omega
theorem eK {w:x5} {r:Nat} {e E:o6} {c I:List x4} (h:ak w r e c) (h':ak w r E I):e=E:=by
 unfold ak at h h';rw[h] at h';exact (Obj.cells.inj (b9 h')).2.1
theorem cp {α:Type} {f:α→List x4} {k:Nat} {e E:o6} {w:x5} {g I:Nat} {v:x4} {L:List α} {cs:List x4} (h:aW f k e w g v L) (J:ak w I E cs) (O:e≠E):¬leadsTo v I:=fun U=>by
 obtain⟨rfl,c,V⟩:=dr h U;exact O (eK V J)
structure e4 where
 v:x4
 l:List Int
def hK (h:e4):List x4:=[h.v]
def fH (w:x5) (g:Nat) (v:x4) (E:List e4):Prop:=aW hK 1 af w g v E∧ ∀ h∈E,∃ I,aq .i64 ae w I h.v h.l
theorem fH.ext {w w':x5} {g:Nat} {v:x4} {E:List e4} (h:fH w g v E) (I:Ext w w'):fH w' g v E:=⟨h.1.ext I,fun x J=>by
 obtain⟨O,hm⟩:=h.2 x J;exact⟨O,hm.ext I⟩⟩
theorem fH.p7 {w w':x5} {g:Nat} {v:x4} {I:List e4} {S:Nat→Prop} (h:fH w g v I) (J:aj S w w') (O:∀ r,S r→ ∃ e c,ak w r e c∧e≠ae):∀ h∈I,∃ E,aq .i64 ae w' E h.v h.l:=fun x U=>by
 obtain⟨E,hm⟩:=h.2 x U;exact⟨E,bp hm J fun r V W=>by
  obtain⟨e,c,X,Y⟩:=O r W;exact bW hm X (fun he=>Y he.symm) V rfl⟩
theorem fH.ad {w w':x5} {g:Nat} {v:x4} {O:List e4} {S:Nat→Prop} (h:fH w g v O) (U:aj S w w') (V:∀ r,S r→ ∃ e c,ak w r e c∧e≠ae∧e≠af):fH w' g v O:=
 ⟨h.1.ad U fun r E W=>by
  obtain⟨e,c,I,_,J⟩:=V r W;exact cp h.1 I (fun he=>J he.symm) E,h.p7 U fun r E=>by
  obtain⟨e,c,I,J,_⟩:=V r E;exact⟨e,c,I,J⟩⟩
def kt (w:x5) (k:Int) (sizes:List Int) (x:cj):Prop:=(∃ E,aq .i64 J w E x.sv x.sc)∧ ∃ I O,cG w x.g I O (bF sizes x.sc) k x.cs
theorem kt.ext {w w':x5} {k:Int} {sizes:List Int} {x:cj} (h:kt w k sizes x) (E:Ext w w'):kt w' k sizes x:=by
 obtain⟨⟨I,h1⟩,J,O,U⟩:=h;exact⟨⟨I,h1.ext E⟩,J,O,U.ext E⟩
theorem EV {w w':x5} {S:Nat→Prop} {g X:Nat} {Y:x4} {an cs:List Int} {k:Int} (h:cG w g X Y an k cs) (U:aj S w w') (V:∀ r,S r→ ∃ e c,ak w r e c∧e≠bq∧e≠J∧e≠ae):cG w' g X Y an k cs:=by
 obtain⟨⟨aM,gs,h1,Z,aa⟩,ab⟩:=h;refine⟨⟨aM,gs,h1.ad U fun E=>?_,bp Z U fun r W E=>?_,bp aa U fun r W E=>?_⟩,ab⟩
 ·obtain⟨e,c,I,O,_⟩:=V g E;exact O (eK I h1)
 ·obtain⟨e,c,I,_,O,_⟩:=V r E;exact bW Z I (fun he=>O he.symm) W rfl
 ·obtain⟨e,c,I,_,_,O⟩:=V r E;exact bW aa I (fun he=>O he.symm) W rfl
theorem kt.ad {w w':x5} {S:Nat→Prop} {k:Int} {sizes:List Int} {x:cj} (h:kt w k sizes x) (E:aj S w w') (I:∀ r,S r→ ∃ e c,ak w r e c∧e≠bq∧e≠J∧e≠ae):kt w' k sizes x:=by
 obtain⟨⟨O,h1⟩,U,V,W⟩:=h;refine⟨⟨O,bp h1 E fun r X Y=>?_⟩,U,V,EV W E I⟩;obtain⟨e,c,Z,_,aa,_⟩:=I r Y;exact bW h1 Z (fun he=>aa he.symm) X rfl
def jC (w:x5) (g:Nat) (v:x4) (k:Int) (sizes:List Int) (L:List cj):Prop:=aW dO 2 fl w g v L∧ ∀ x∈L,kt w k sizes x
theorem jC.ext {w w':x5} {g:Nat} {v:x4} {k:Int} {sizes:List Int} {L:List cj} (h:jC w g v k sizes L) (E:Ext w w'):jC w' g v k sizes L:=⟨h.1.ext E,fun x I=>(h.2 x I).ext E⟩
theorem jC.ad {w w':x5} {g:Nat} {v:x4} {k:Int} {sizes:List Int} {L:List cj} {S:Nat→Prop} (h:jC w g v k sizes L) (U:aj S w w') (V:∀ r,S r→ ∃ e c,ak w r e c∧e≠fl∧e≠bq∧e≠J∧e≠ae):jC w' g v k sizes L:=
 ⟨h.1.ad U fun r E W=>by
  obtain⟨e,c,I,O,_⟩:=V r W;exact cp h.1 I (fun he=>O he.symm) E,fun x X=>(h.2 x X).ad U fun r E=>by
  obtain⟨e,c,I,_,O⟩:=V r E;exact⟨e,c,I,O⟩⟩
def eT (w:x5) (V:Nat) (n:bY):Prop:=∃ E I O W X U L Y aw Z aa,ak w V cK [.pointer (some ⟨E,0,none⟩),.int .i64 n.zero,I,O]∧ak w E bf [Y,.int .i64 n.k,aw,aa]∧aq .i64 J w Z aw n.sizes∧
 fH w W I U∧U.map (·.l)=n.unary∧jC w X O n.k n.sizes L∧L.map dk=n.funs
theorem eT.ext {w w':x5} {I:Nat} {n:bY} (h:eT w I n) (E:Ext w w'):eT w' I n:=by
 obtain⟨J,O,U,V,W,X,L,Y,aw,Z,aa,h1,ab,ac,ad,ae,af,ag⟩:=h;exact⟨J,O,U,V,W,X,L,Y,aw,Z,aa,h1.ext E,ab.ext E,ac.ext E,ad.ext E,ae,af.ext E,ag⟩
def gJ (n:bY) (g:ch):bY:=match g.1 with
 |[]=>{n with zero:=g.2.getD 0 0}
 |[v]=>{n with unary:=n.unary.set v.toNat g.2}
 |_=>{n with funs:=n.funs++[g]}
def yw (f:bS):bY:=⟨f.k,f.sizes,0,f.sizes.map fun z=>p9 z.toNat 0,[]⟩
theorem EW (f:bS):dq f=(eG f).foldl gJ (yw f):=rfl
def c4 (f:bS) (i:Nat):bY:=((eG f).take i).foldl gJ (yw f)
theorem tR {f:bS} {i:Nat} {g:ch} (h:(eG f)[i]? =some g):c4 f (i+1)=gJ (c4 f i) g:=EQ h
theorem rV (f:bS):c4 f (eG f).length=dq f:=by unfold c4;rw[l5,EW]
theorem EX (n:bY) (g:ch):(gJ n g).k=n.k∧(gJ n g).sizes=n.sizes∧(gJ n g).unary.length=n.unary.length∧(gJ n g).funs.length≤n.funs.length+1:=by
 unfold gJ;split
 ·exact⟨rfl,rfl,rfl,Nat.le_succ _⟩
 ·exact⟨rfl,rfl,by simp,Nat.le_succ _⟩
 ·exact⟨rfl,rfl,rfl,by simp⟩
theorem no (f:bS):∀ i,(c4 f i).k=f.k∧(c4 f i).sizes=f.sizes∧(c4 f i).unary.length=f.sizes.length∧(c4 f i).funs.length≤i
 |0=>⟨rfl,rfl,by show (f.sizes.map _).length=_;simp,Z9 _⟩
 |i+1=>by
  have E:=no f i;cases I:(eG f)[i]? with
  |none=>
   have J:=List.getElem?_eq_none_iff.1 I;have e:c4 f (i+1)=c4 f i:=by unfold c4;rw[j0 (by omega),j0 J]
   rw[e];exact⟨E.1,E.2.1,E.2.2.1,by omega⟩
  |some g=>
   rw[tR I];obtain⟨h1,O,U,V⟩:=EX (c4 f i) g;exact⟨h1.trans E.1,O.trans E.2.1,U.trans E.2.2.1,by omega⟩
def EY (w:x5) (f:bS) (v:x4) (w':x5):Prop:=Ext w w'∧((¬jB f.funs≤16384∧ ∃ e:Int,e≠0∧v= .tuple #[.pointer none,.int .i64 e])∨ ∃ E,v= .tuple #[.pointer (some ⟨E,0,none⟩),.int .i64 0]∧eT w' E (dq f))
theorem cJ {k n:Nat} {w:x5} {v:x4} {cs:List x4} (h:b7 w k v n cs):v.cells= #[v]∧v.oneCell'=true:=by
 obtain⟨_,_,_,_,_,rfl,_⟩:=h;exact⟨rfl,rfl⟩
set_option maxHeartbeats 8000000 in
theorem EZ {N:Nat} {w:x5} {cb:Nat} {f:bS} (cF:iZ w cb f) (ap:eh N f) (cG:N≤60000) (cH:f.name≠[]∧ ∀ b∈f.name,bC b=true):
  O y0 nU [.pointer (some ⟨cb,0,none⟩)] w (EY w f):=by
 have dJ:=ap.k;apply nU.enter;refine (EU cF ap cG cH).mono ?_;rintro _ aM _ ⟨a2,⟨cL,e,he,rfl⟩|⟨aB,rfl,cM⟩⟩
 ·rw[aC (v:=.pointer none) rfl,aC (v:=.int .i64 e) rfl,bN,ag];exact⟨fun _=>⟨a2,.inl ⟨cL,e,he,rfl⟩⟩,fun h=>absurd he h⟩
 rw[aC (v:=.pointer (some ⟨aB,0,none⟩)) rfl,aC (v:=.int .i64 0) rfl,bN,ag];refine⟨fun h=>absurd rfl h,fun _=>?_⟩;obtain⟨aw,cN,cO,dK,M,br,bt,cc,a6⟩:=id cM;have dL:M.length≤256:=by
  have h1:=(pY ap).2.length_eq;have aN:=(iX ap).2.2;have aP:=List.length_filter_le eF (ev f);have a7:=ap.iR;have dM:M.length=(eG f).length:=by rw[←a6,o4]
  omega
 have dN:=ap.sizes.2.1;rw[cW (cs:=#[.pointer (some ⟨aB,0,none⟩),.int .i64 0,.slice none 0 0,.slice none 0 0]) (by kernel_rfl)];refine ce fun X cP dP bw bx=>?_;have bx:ak cP X cK [.pointer (some ⟨aB,0,none⟩),.int .i64 0,.slice none 0 0,.slice none 0 0]:=bx;rw[az,ah bf.p rfl,ai (by kernel_rfl) ((br.ext bw).cell (o:=0+2) rfl),aO ab.u (bt.ls.ext bw)];refine bc.range f.sizes.length (fun i aS=>∃ I Y V,Ext aM aS∧ak aS X cK [.pointer (some ⟨aB,0,none⟩),.int .i64 0,I,.slice none 0 0]∧fH aS Y I V∧V.map (·.l)=(f.sizes.take i).map (fun z=>p9 z.toNat 0)∧ ∀ r,leadsTo I r→aM.heap.size≤r) (by omega)
  ⟨_,0,[],bw,bx,⟨aW.nil _ _ _ _ _,fun x bz=>(by cases bz)⟩,rfl,fun r E=>(dI E).elim⟩ ?_ ?_
 ·rintro i aS cQ hi ⟨I,Y,V,aD,a8,bA,aT,ba⟩ cR;obtain⟨z,Z⟩:∃ z,f.sizes[i]? =some z:=⟨_,x3 hi⟩;have dQ:=ap.sizes.2.2 z (u4 Z);have dR:V.length=i:=by have:=congrArg W8 aT;simp only[o4,l6] at this;omega
  rw[au,ag];refine⟨fun _=>?_,fun h=>by omega⟩;rw[bm ab.u J.i (by kernel_rfl) (bt.ls.ext aD) Z];intro dS cd _ _;have cS:=a8.ext cd;rw[az,ah cK.p rfl,ai (by kernel_rfl) (cS.cell (o:=0+2) rfl)];obtain⟨aE,rfl⟩:∃ n:Nat,z=n:=⟨z.toNat,by omega⟩;refine hz (k:=.i64) af.u ae.i (by omega) (by omega) fun bb cT dT bB cU=>?_;refine⟨.inl bB,?_⟩;have cV:aq .i64 ae cT bb (.slice (some ⟨bb,0,none⟩) aE aE) (p9 aE 0):=aq.of (bL.full (k:=1) (n:=aE) cU (by simp) (by simp[maxLen];omega));let a:e4:=⟨.slice (some ⟨bb,0,none⟩) aE aE,p9 aE 0⟩;refine ff (f:=hK) (a:=a) bZ.u af.i (by omega) rfl rfl fun dU dV bD dW bG cX=>?_;refine⟨.inl (bB.trans bG),?_⟩;have bd:=(cd.trans bB).trans bG;have be:=bA.ext bd;refine fo (f:=hK) (a:=a) bZ.u af.i rfl be.1 (by simpa using cX.sl) (fun u hu=>by rw[o9.1 (show u∈[a.v] from hu)];rfl) (by omega) (by omega) fun bH bK dX al bM cg=>?_;have aU:∀ {r:Nat},leadsTo I r→ ∃ c,ak bD r af c:=fun E=>by
   obtain⟨rfl,c,U⟩:=dr be.1 E;exact⟨c,U⟩
  have bP:=a8.ext bd;have ch:=bP.ad cg fun he=>cp be.1 bP (by decide) he;rw[az,ah cK.p rfl];refine bE bZ.i (cJ al.sl).1 (cJ al.sl).2 ch (by simp) fun cY ci dY cZ=>?_;rw[aK];have bR:aj (fun r=>leadsTo I r∨r=X) bD cY:=(cg.mono fun r _ h=>.inl h).trans (ci.mono fun r _ h=>.inr h);have av:∀ r,(leadsTo I r∨r=X)→ ∃ e c,ak bD r e c∧e≠ae:=fun r E=>by
   rcases E with E|rfl
   ·obtain⟨c,U⟩:=aU E;exact⟨_,c,U,by decide⟩
   ·exact⟨_,_,bP,by decide⟩
  have c0:=a2.size;have z3:=aD.size;have ea:=bd.size;refine cR _ ⟨bH,bK,V++[a],(aD.trans bd).then bR (fun r E he=>?_),cZ,⟨al.ad ci fun r E he=>?_,fun y ac=>?_⟩,?_,fun r E=>?_⟩
  ·rcases he with he|rfl
   ·have:=ba r he;omega
   ·omega
  ·have he:r=X:=he;subst he;exact cp al ch (by decide) E
  ·rcases n0.1 ac with ac|ac
   ·exact be.p7 bR av y ac
   ·rw[o9.1 ac];have ck:=cV.ext bG;exact⟨bb,bp ck bR fun r E bT=>by
     obtain⟨e,c,U,c1⟩:=av r bT;exact bW ck U (fun he=>c1 he.symm) E rfl⟩
  ·rw[j4,aT,o3,Z,j5,j4];rfl
  ·rcases bM r E with h|h
   ·exact ba r h
   ·omega
 ·rintro aS cQ ⟨I,Y,V,aD,a8,bA,aT,ba⟩;rw[au,ag];refine⟨fun h=>by omega,fun _=>?_⟩;rw[l5] at aT;have c2:=br.ext aD;have c3:=cc.ext aD;rw[az,ah bf.p rfl,ai (by kernel_rfl) (c2.cell (o:=0+3) rfl),dZ bJ.u c3.1];refine bc.range M.length (fun i aF=>∃ I W Y ax V L,Ext aM aF∧ak aF X cK [.pointer (some ⟨aB,0,none⟩),.int .i64 (c4 f i).zero,I,W]∧fH aF Y I V∧V.map (·.l)=(c4 f i).unary∧jC aF ax W f.k f.sizes L∧L.map dk=(c4 f i).funs∧ ∀ r,leadsTo I r∨leadsTo W r→aM.heap.size≤r) (by omega)
   ⟨I,_,Y,0,V,[],aD,a8,bA,aT,⟨aW.nil _ _ _ _ _,fun x bz=>(by cases bz)⟩,rfl,fun r E=>E.elim (ba r) fun h=>(dI h).elim⟩ ?_ ?_
  rotate_left
  ·rintro aF c5 ⟨I,W,Y,ax,V,L,am,bh,bU,aH,bV,aI,_⟩;rw[au,ag];refine⟨fun h=>by omega,fun _=>?_⟩;have c7:M.length=(eG f).length:=by rw[←a6,o4]
   have aV:=no f M.length;rw[c7,rV] at bh aH aI aV;refine⟨a2.trans am,.inr ⟨X,rfl,aB,I,W,Y,ax,V,L,bu f.name,aw,cO,cN,bh,?_,?_,bU,aH,?_,aI⟩⟩
   ·rw[aV.1];exact br.ext am
   ·rw[aV.2.1];exact bt.ext am
   ·rw[aV.1,aV.2.1];exact bV
  rintro i aF c5 hi ⟨I,W,Y,ax,V,L,am,bh,bU,aH,bV,aI,aQ⟩ c8;obtain⟨y,ac⟩:∃ y,M[i]? =some y:=⟨_,x3 hi⟩;have c9:(eG f)[i]? =some (dk y):=by rw[←a6,r8,ac];rfl
  have bi:ey f.sizes f.k (dk y):=rE ap _ (tQ a6 ac);have bX:=cc.ext am;obtain⟨eb,ec,ed,ee⟩:=no f i;rw[au,ag];refine⟨fun _=>?_,fun h=>by omega⟩;refine dF (fun aX=>∃ I W Y ax V L,Ext aM aX∧ak aX X cK [.pointer (some ⟨aB,0,none⟩),.int .i64 (c4 f (i+1)).zero,I,W]∧fH aX Y I V∧V.map (·.l)=(c4 f (i+1)).unary∧jC aX ax W f.k f.sizes L∧L.map dk=(c4 f (i+1)).funs∧ ∀ r,leadsTo I r∨leadsTo W r→aM.heap.size≤r) ?_ ?_
  ·rintro aX h;rw[aK];exact c8 _ h
  intro ef bY;have da:=bX.2 y (u4 ac);obtain⟨⟨db,b1⟩,m,o,D,dc,eg,dd⟩:=da;rw[cI rfl bJ.u bg.i bX.1 hi,bI bg.p bg.i rfl (bX.1.range ac)];refine bO bg.i fun de ei ej df dg=>?_;refine b4 (vs:=dO y) bg.i rfl rfl (rU b1) dg fun dh di ek cl=>?_;have cm:Ext aF dh:=df.then di (fun r E he=>by have he:r=de:=he;omega);rw[ah bg.p rfl,ai (by kernel_rfl) (cl.cell (o:=0+1) rfl)];refine (xV (dc.ext cm) (by omega)).mono ?_;rintro _ em _ ⟨cn,_,aR⟩;obtain⟨g,dj,dl,dm,rfl,en,eo,aR,dn⟩:=aR bi.small;have dp:dG (bF f.sizes y.sc):=aR.2.2.1.2;have dq:dm=y.cs:=gn.eq dp dn dd;subst dq;have ay:=cm.trans cn;have b2:=cl.ext cn;have b3:=b1.ext ay;rw[aC (v:=.pointer (some ⟨g,0,none⟩)) rfl,aC (v:=.int .i64 0) rfl,ah bg.p rfl,ai (by kernel_rfl) (b2.cell (o:=0+0) rfl),aO ab.u b3.ls];have c0:=a2.size;have z9:=am.size;have ep:=ay.size;have b5:=bh.ext ay;have b6:=bU.ext ay;have b7:=bV.ext ay;have b8:=tR c9;rw[bQ,ag];refine⟨fun es=>?_,fun et=>?_⟩
  ·
   have aJ:y.sc=[]:=j9 (by omega);have aa:c4 f (i+1)={c4 f i with zero:=y.cs.getD 0 0}:=by rw[b8];unfold gJ;simp only[dk,aJ]
   refine (ko aR).mono ?_;rintro cq ds _ ⟨bj,eu,ew,dt⟩;have ez:y.cs.length=1:=by have:=bi.len;simpa[dk,aJ,bF,aG] using this
   have du:y.cs[0]? =some (y.cs.getD 0 0):=by rw[p8,x3 (by omega)];rfl
   rw[eE (y:=0) (i:=0) rfl af.u ae.i (by kernel_rfl) dt.ls du,az,ah cK.p rfl];have cr:=b5.ext bj;refine bE ae.i rfl rfl cr (by simp) fun eA b9 eB dv=>?_;have av:∀ r,r=X→ ∃ e c,ak ds r e c∧e≠fl∧e≠bq∧e≠J∧e≠ae∧e≠af:=fun r E=>by
    subst E;exact⟨_,_,cr,by decide,by decide,by decide,by decide,by decide⟩
   refine bY _ ⟨I,W,Y,ax,V,L,((am.trans ay).trans bj).then b9 (fun r E he=>by have he:r=X:=he;omega),?_,(b6.ext bj).ad b9 (fun r E=>?_),by rw[aa];exact aH,(b7.ext bj).ad b9 (fun r E=>?_),by rw[aa];exact aI,aQ⟩
   ·rw[aa];exact dv
   ·obtain⟨e,c,U,_,_,_,h1,aN⟩:=av r E;exact⟨e,c,U,h1,aN⟩
   ·obtain⟨e,c,U,h1,aN,aP,a7,_⟩:=av r E;exact⟨e,c,U,h1,aN,aP,a7⟩
  rw[bQ,ag];refine⟨fun h1=>?_,fun eC=>?_⟩
  ·
   obtain⟨v,aJ⟩:∃ v,y.sc=[v]:=V6.1 (by omega);have eD:=bi.scope.1 v (by show v∈y.sc;rw[aJ];exact .head _);have eH:=bi.vars v (by show v∈y.sc;rw[aJ];exact .head _);have aa:c4 f (i+1)={c4 f i with unary:=(c4 f i).unary.set v.toNat y.cs}:=by rw[b8];unfold gJ;simp only[dk,aJ]
   intro eI aL _ _;have ct:=b5.ext aL;have dw:=b2.ext aL;rw[az,ah cK.p rfl,ai (by kernel_rfl) (ct.cell (o:=0+2) rfl),ah bg.p rfl,ai (by kernel_rfl) (dw.cell (o:=0+0) rfl)];refine q4 (y:=0) (i:=0) rfl ab.u J.i (b3.ls.ext aL) (show y.sc[0]? =some v by rw[aJ];rfl) fun b o dx=>?_;rw[ai (by kernel_rfl) dx];refine (ko (aR.ext aL)).mono ?_;rintro cq dy _ ⟨aY,dz,eJ,bk⟩;refine⟨.inl aY,?_⟩;have aZ:=(b6.ext aL).ext aY;have eK:V.length=f.sizes.length:=by have:=congrArg W8 aH;rw[o4] at this;omega
   obtain⟨u,hu⟩:∃ u,V[v.toNat]? =some u:=⟨_,x3 (by omega)⟩;rw[cI (i:=v.toNat) (by omega) bZ.u af.i aZ.1 (by omega)];let a:e4:=⟨cq,y.cs⟩;refine nf (f:=hK) (j:=0) (a:=u) (a':=a) af.i bk.ls.cells.1 bk.ls.cells.2 aZ.1 hu rfl (by omega) fun eL a1 eM dA=>?_;have cu:=ct.ext aY;have aU:∀ {r:Nat},leadsTo I r→ ∃ c,ak dy r af c:=fun E=>by
    obtain⟨rfl,c,U⟩:=dr aZ.1 E;exact⟨c,U⟩
   refine bY _ ⟨I,W,Y,ax,V.set v.toNat a,L,(((am.trans ay).trans aL).trans aY).then a1 (fun r E he=>by have:=aQ r (.inl he);omega),?_,⟨dA,fun z Z=>?_⟩,?_,((b7.ext aL).ext aY).ad a1 (fun r E=>?_),by rw[aa];exact aI,aQ⟩
   ·rw[aa];exact cu.ad a1 fun he=>cp aZ.1 cu (by decide) he
   ·rcases V1 Z with Z|rfl
    ·exact aZ.p7 a1 (fun r E=>by obtain⟨c,U⟩:=aU E;exact⟨_,c,U,by decide⟩) z Z
    ·exact⟨dz,bp bk a1 fun r E bT=>by
      obtain⟨c,U⟩:=aU bT;exact bW bk U (by decide) E rfl⟩
   ·rw[aa,List.map_set,aH]
   ·obtain⟨c,U⟩:=aU E;exact⟨_,c,U,by decide,by decide,by decide,by decide⟩
  ·
   have aa:c4 f (i+1)={c4 f i with funs:=(c4 f i).funs++[dk y]}:=by
    rw[b8];unfold gJ;have cw:2≤(dk y).1.length:=by show 2≤y.sc.length;omega
    generalize dk y=g at cw ⊢;obtain⟨sc,cs⟩:=g
    match sc,cw with
    |_::_::_,_=>rfl
   intro eN aA _ _;have cz:=b5.ext aA;have dB:=b2.ext aA;have cA:=b3.ext aA;rw[az,ah cK.p rfl,ai (by kernel_rfl) (cz.cell (o:=0+3) rfl),ah bg.p rfl,ai (by kernel_rfl) (dB.cell (o:=0+0) rfl),cW (cs:=#[y.sv,.pointer (some ⟨g,0,none⟩)]) (by obtain⟨_,_,_,e⟩:=c6 b1.ls;rw[e];kernel_rfl)];let a:cj:=⟨y.sv,g,y.sc,y.cs⟩;refine ff (f:=dO) (a:=a) er.u fl.i (by omega) rfl rfl fun eO eP bl eQ ao dC=>?_;refine⟨.inl ao,?_⟩;have bn:=(b7.ext aA).ext ao;have dD:=(b6.ext aA).ext ao;have ca:=cz.ext ao;have eR:L.length≤256:=by have:=congrArg W8 aI;rw[o4] at this;omega
   refine fo (f:=dO) (a:=a) er.u fl.i rfl bn.1 (by simpa using dC.sl) (rU (cA.ext ao)) (by omega) (by omega) fun bH bK eS al bM cB=>?_;have cC:=ca.ad cB fun he=>cp bn.1 ca (by decide) he;rw[az,ah cK.p rfl];refine bE er.i (cJ al.sl).1 (cJ al.sl).2 cC (by simp) fun dE cD eT dH=>?_;have bo:aj (fun r=>leadsTo W r∨r=X) bl dE:=(cB.mono fun r _ h=>.inl h).trans (cD.mono fun r _ h=>.inr h);have av:∀ r,(leadsTo W r∨r=X)→ ∃ e c,ak bl r e c∧e≠bq∧e≠J∧e≠ae∧e≠af:=fun r E=>by
    rcases E with E|rfl
    ·obtain⟨rfl,c,U⟩:=dr bn.1 E;exact⟨_,c,U,by decide,by decide,by decide,by decide⟩
    ·exact⟨_,_,ca,by decide,by decide,by decide,by decide⟩
   have eU:=(aA.trans ao).size;refine bY _ ⟨I,bH,Y,bK,V,L++[a],(((am.trans ay).trans aA).trans ao).then bo (fun r E he=>?_),?_,dD.ad bo (fun r E=>?_),by rw[aa];exact aH,⟨al.ad cD fun r E he=>?_,fun z Z=>?_⟩,?_,fun r E=>?_⟩
   ·rcases he with he|rfl
    ·have:=aQ r (.inr he);omega
    ·omega
   ·rw[aa];exact dH
   ·obtain⟨e,c,U,_,_,aP,a7⟩:=av r E;exact⟨e,c,U,aP,a7⟩
   ·have he:r=X:=he;subst he;exact cp al cC (by decide) E
   ·have cE:∀ r,(leadsTo W r∨r=X)→ ∃ e c,ak bl r e c∧e≠bq∧e≠J∧e≠ae:=fun r E=>by
     obtain⟨e,c,U,h1,aN,aP,_⟩:=av r E;exact⟨e,c,U,h1,aN,aP⟩
    rcases n0.1 Z with Z|Z
    ·exact (bn.2 z Z).ad bo cE
    ·rw[o9.1 Z];refine kt.ad (w:=bl) ⟨⟨db,cA.ext ao⟩,dj,dl,?_⟩ bo cE;exact (aR.ext aA).ext ao
   ·rw[aa,j4,aI];rfl
   ·rcases E with E|E
    ·exact aQ r (.inl E)
    ·rcases bM r E with h|h
     ·exact aQ r (.inr h)
     ·omega
theorem tS {z:Array x4} {k n:Nat} (E:z.size=k):(u7.zeroCells z n).toList=dd z (n*k):=by
 unfold u7.zeroCells dd;rw[E]
theorem E0 {P:X1} {w:x5} {t I ty e:o6} {V kn:o8} {b g n k m:Nat} {y:Int} {z v:x4} {xs:List x4} {K:x4→x5→Prop} (aw:y=(m:Int)) (ag:P.underlying t=some (.slice e)) (ah:P.underlying I=some (.int kn)) (hi:aI P e k b z) (W:z.cells.size=k)
  (aP:0<k) (h1:∀ u∈dd z.cells (m*k),u.oneCell'=true) (h:bL w g e k v n xs) (ax:0<m) (ay:(n+m)*b≤140737488355328) (az:n+m≤9223372036854775807)
  (ai:∀ X aA w',bL w' aA e k X (n+m) (xs++dd z.cells (m*k))→(∀ r,leadsTo X r→leadsTo v r∨w.heap.size≤r)→aj (fun r=>leadsTo v r) w w'→K X w'):aa P (r9 #[t,I] ty #[v,.int V y]) w K:=by
 subst aw;obtain⟨i,hi,Y,rfl,al⟩:=hi;obtain⟨am,hm⟩:=h;have aB:=mQ z.cells (m*k);have aC:m*i.bytes≤281474976710656:=by
  have:m*i.bytes≤(n+m)*i.bytes:=X3 _ (by omega);omega
 have grow:∀ (base:Option Addr) (cap:Nat),v= .slice base n cap→(u7.firstCells i.size n (.slice base n cap)).run P w.drew= .ok xs.toArray w.drew→cap<n+m→aa P (r9 #[t,I] ty #[v,.int V (m:Int)]) w K:=fun base cap aD aE E=>by
  subst aD;have Z:=Lib.run_append_grow_zeros (P:=P) w t I ty e i z V kn ag ah hi al base n cap xs aE m ax (by omega) E (by omega) aC (growslice_fits E ay);have ao:n+m≤grownCap w (n+m) cap e:=grownCap_ge w _ _ _;have aF:grownCap w (n+m) cap e≤maxLen:=grownCap_le_maxLen w (n+m) cap e (by simpa[maxLen] using az);have aQ:=mQ z.cells ((grownCap w (n+m) cap e-(n+m))*k);have aR:(n+m)*k≤grownCap w (n+m) cap e*k:=X3 _ ao;have aG:(n+m)*k=n*k+m*k:=W7 _ _ _;have aS:(grownCap w (n+m) cap e-(n+m))*k=grownCap w (n+m) cap e*k-(n+m)*k:=Nat.sub_mul _ _ _;refine .of Z ((nv w _ (Nat.le_succ _)).trans (nx _ _)) (ai _ w.heap.size _ ⟨by rw[o5];omega,.inr ⟨_,xs++dd z.cells (m*k)++dd z.cells ((grownCap w (n+m) cap e-(n+m))*k),rfl,?_,ao,aF,?_,?_⟩⟩ (fun r ab=>?_) (((qj w _).trans (nw _ _)).ad _))
  ·have:=heap_alloc_new w.drew (.cells (xs.toArray++u7.zeroCells z.cells m++u7.zeroCells z.cells (grownCap w (n+m) cap e-(n+m))) e);unfold ak;rw[show w.drew.heap.size=w.heap.size from rfl] at this;rw[this];congr 2;apply Array.toList_inj.1;rw[Array.toList_append,Array.toList_append,tS W,tS W]
  ·rw[o5,o5];omega
  ·rw[List.take_append_of_le_length (by rw[o5];omega),j0 (by rw[o5];omega)]
  ·obtain⟨a,aH,c,J,O⟩:=ab;cases J;exact .inr (by simp at O;omega)
 rcases hm with⟨rfl,aJ⟩|⟨cap,cs,rfl,U,J,O,ac,ap⟩
 ·subst aJ;have:xs=[]:=j9 (by simpa using am);subst this;exact grow none 0 rfl (run_firstCells_none w.drew i.size 0 0 0) (by omega)
 ·by_cases E:n+m≤cap
  ·have aq:(n+m)*k≤cs.length:=by rw[ac];exact X3 _ E
   have aG:(n+m)*k=n*k+m*k:=W7 _ _ _;have ae:=run_storeCells_cells (P:=P) g (0+n*k) (dd z.cells (m*k)) 0 w (fun j au=>by
    rw[aB] at au;rw[Nat.add_zero,V5,U.cell (x3 (show n*k+j<cs.length by omega))];rfl) (fun j _=>U.frozen _ _) h1
   simp only[Nat.add_zero] at ae;have hw:Y9.wrap (m:Int)=m:=by rw[o8.wrap_i64];omega
   have aK:¬((m:Int)<0):=by omega
   have aL:¬(281474976710656<(m:Int)*(i.bytes:Int)):=by rw[←Int.natCast_mul];omega
   have af:¬(m*i.size=0):=Nat.mul_ne_zero (by omega) (by omega);have aM:(u7.zeroCells z.cells m).toList=dd z.cells (m*k):=tS W;have Z:(r9 #[t,I] ty #[.slice (some ⟨g,0,none⟩) n cap,.int V (m:Int)]).run P w= .ok (.slice (some ⟨g,0,none⟩) (n+m) cap) (w.setCells g (0+n*k) (dd z.cells (m*k))):=by
    simp[r9,run_underlying ag,run_underlying ah,sizeOf,typeInfo,zeroValue,hi,al,asInt,asIntOf,hw,E,aK,af,aL,aM,Addr.add_lit,Y];simp only[V5] at ae;rw[ae];simp;intro aN;exact absurd aN (by rw[Y] at af;exact af)
   obtain⟨aO,av⟩:=li (dd z.cells (m*k)) cs (0+n*k) w U;refine .of Z (av.db U) (ai _ g _ ⟨by rw[o5];omega,.inr ⟨cap,_,rfl,aO,E,O,by rw[mP,ac],?_⟩⟩ (fun r ab=>.inl ?_) (av.ad.mono fun r _ he=>⟨_,_,_,rfl,he.symm⟩))
   ·rw[w7 (by omega) aq,kd (by rw[l6];omega),V5,List.take_take,List.drop_eq_nil_of_le (by rw[l6];omega),U3,Nat.min_eq_left (by omega),ap]
   ·obtain⟨a,aH,c,J,O⟩:=ab;cases J;exact⟨_,_,_,rfl,O⟩
  ·refine grow _ cap rfl ?_ (by omega);have aq:n*k≤cs.length:=by rw[ac];exact X3 _ J
   refine run_firstCells_some w.drew i.size n _ n cap xs (by rw[Y];exact am) fun j u hu=>?_;rw[V9,V5];have au:=(x6.1 hu).1;rw[←ap,Z6 (by omega)] at hu;exact U.cell hu
def gp (c:Cell):List x4:=[.int .i64 c.v,.int .u64 (c.st:Int)]
def lF (o:iP):List x4:=[.int .i64 (o.i:Int),.int .i64 o.c.v,.int .u64 (o.c.st:Int)]
def lG (m:q1):List x4:=[.int .i64 (m.olds:Int),.int .i64 (m.cells:Int),.int .u64 (m.st:Int)]
def c5 (w:x5) (ay:Nat) (A:av) (t:aP):Prop:=A ay∧ ∃ J go O aM E I,ak w ay cR [aM,E,I,.int .u64 (t.kj:Int)]∧aW gp 2 dc w J aM t.cells∧aW lF 3 gY w go E t.olds∧aW lG 3 dE w O I t.marks∧
 ∀ r,leadsTo aM r∨leadsTo E r∨leadsTo I r→A r
theorem c5.ad {S A:av} {w w':x5} {ay:Nat} {t:aP} (h:c5 w ay A t) (I:aj S w w') (J:∀ r,A r→¬S r):c5 w' ay A t:=by
 obtain⟨U,V,go,W,aM,X,Y,h1,Z,aa,ab,O⟩:=h;exact⟨U,V,go,W,aM,X,Y,h1.ad I (J _ U),Z.ad I fun r E=>J r (O r (.inl E)),aa.ad I fun r E=>J r (O r (.inr (.inl E))),ab.ad I fun r E=>J r (O r (.inr (.inr E))),O⟩
theorem c5.ext {A:av} {w w':x5} {ay:Nat} {t:aP} (h:c5 w ay A t) (E:Ext w w'):c5 w' ay A t:=h.ad (E.ad fun _=>False) fun _ _ h=>h
theorem c5.mono {A B:av} {w:x5} {ay:Nat} {t:aP} (h:c5 w ay A t) (E:∀ r,A r→B r):c5 w ay B t:=by
 obtain⟨I,J,go,O,aM,U,V,h1,W,X,Y,Z⟩:=h;exact⟨E _ I,J,go,O,aM,U,V,h1,W,X,Y,fun r aa=>E r (Z r aa)⟩
def Grow (A:av) (w:x5) (E:av) (w':x5):Prop:=aj A w w'∧(∀ r,E r→A r∨w.heap.size≤r)∧ ∀ r,A r→E r
theorem Grow.refl (A:av) (w:x5):Grow A w A w:=⟨aj.refl _ _,fun _ h=>.inl h,fun _ h=>h⟩
theorem Grow.ext {A:av} {w w':x5} (h:Ext w w'):Grow A w A w':=⟨h.ad _,fun _ h=>.inl h,fun _ h=>h⟩
theorem Grow.trans {A I J:av} {w w' O:x5} (h:Grow A w I w') (k:Grow I w' J O):Grow A w J O:=
 ⟨⟨Y3 h.1.size k.1.size,fun r o E U V=>k.1.bw r o (h.1.bw r o E U V) U fun W=>(h.2.1 r W).elim V fun X=>by
  have:=(l7.1 E).1;omega⟩,fun r E=>by
  rcases k.2.1 r E with h1|h1
  ·exact h.2.1 r h1
  ·have:=h.1.size;exact .inr (by omega),fun r E=>k.2.2 r (h.2.2 r E)⟩
theorem yx {w:x5} {ay:Nat} {A:av} {t:aP} (h:c5 w ay A t):O y0 mD [.pointer (some ⟨ay,0,none⟩)] w fun v w'=>v= .int .i64 (t.cells.length:Int)∧Ext w w':=by
 obtain⟨I,J,go,U,aM,V,W,h1,E,X,Y,Z⟩:=h;apply mD.enter;rw[cZ ep.u];simp only[b8,aT];rw[az,ah cR.p rfl,ai (by kernel_rfl) (h1.cell (o:=0+0) rfl),dZ dm.u E];exact⟨rfl,Ext.refl _⟩
theorem yy {w:x5} {ay:Nat} {A:av} {t:aP} {i:Int} (h:c5 w ay A t):O y0 ml [.pointer (some ⟨ay,0,none⟩),.int .i64 i] w fun v w'=>v= .bool (decide (0≤i∧i<t.cells.length))∧Ext w w':=by
 apply ml.enter;refine aZ (fun v E=>v= .bool (decide (0≤i∧i<t.cells.length))∧Ext w E) (fun _ _ h=>h) ?_;intro V I;rw[cV,ag];refine⟨fun J=>?_,fun J=>I _ _ ⟨by rw[decide_eq_false];omega,Ext.refl _⟩⟩;refine (yx h).mono ?_;rintro _ E _ ⟨rfl,U⟩;rw[au];refine I _ _ ⟨?_,U⟩;congr 1;rw[X8,decide_eq_true_eq,decide_eq_true_eq];exact⟨fun h=>⟨by omega,h⟩,fun h=>h.2⟩
theorem E1 {w:x5} {ay:Nat} {A:av} {t:aP} {i:Nat} {y:Int} {c:Cell} (h:c5 w ay A t) (U:y=(i:Int)) (E:t.cells[i]? =some c):O y0 hr [.pointer (some ⟨ay,0,none⟩),.int .i64 y] w fun v w'=>v= .int .i64 c.v∧Ext w w':=by
 have V:=(x6.1 E).1;apply hr.enter;refine (yy h).mono ?_;rintro _ W _ ⟨rfl,I⟩;rw[decide_eq_true (by omega),b3,Y1,aT];obtain⟨X,Y,go,Z,aM,aa,ab,h1,J,ac,ad,ae⟩:=h.ext I;rw[az,ah cR.p rfl,ai (by kernel_rfl) (h1.cell (o:=0+0) rfl),cI U dm.u dc.i J V,ah dc.p rfl,ai (by kernel_rfl) (J.range E 0 _ rfl)];exact⟨rfl,I⟩
theorem lH {w:x5} {ay:Nat} {A:av} {t:aP} {i:Nat} {y x:Int} (h:c5 w ay A t) (I:y=(i:Int)) (E:t.b1[i]? =some x):O y0 hr [.pointer (some ⟨ay,0,none⟩),.int .i64 y] w fun v w'=>v= .int .i64 x∧Ext w w':=by
 unfold aP.b1 at E;rw[r8] at E;obtain⟨c,J,rfl⟩:=Z3.1 E;exact E1 h I J
def ku (t:aP):Prop:=t.cells.length≤100000000∧t.olds.length≤100000000∧t.marks.length≤100000000
theorem rW {w:x5} {ay X go Y:Nat} {aM E I:x4} {t:aP} {x:x4} (h1:ak w ay cR [aM,E,I,x]) (O:aW gp 2 dc w X aM t.cells) (U:aW lF 3 gY w go E t.olds) (V:aW lG 3 dE w Y I t.marks):
  (¬leadsTo aM ay∧¬leadsTo E ay∧¬leadsTo I ay)∧(∀ r,leadsTo aM r→¬leadsTo E r∧¬leadsTo I r)∧ ∀ r,leadsTo E r→¬leadsTo aM r∧¬leadsTo I r:=by
 refine⟨⟨cp O h1 (by decide),cp U h1 (by decide),cp V h1 (by decide)⟩,fun r W=>?_,fun r W=>?_⟩
 ·obtain⟨rfl,c,J⟩:=dr O W;exact⟨cp U J (by decide),cp V J (by decide)⟩
 ·obtain⟨rfl,c,J⟩:=dr U W;exact⟨cp O J (by decide),cp V J (by decide)⟩
set_option maxHeartbeats 4000000 in
theorem rX {w:x5} {ay:Nat} {A:av} {t:aP} {i:Nat} {y x:Int} (h:c5 w ay A t) (bH:y=(i:Int)) (aC:i<t.cells.length) (aV:ku t):O y0 iE [.pointer (some ⟨ay,0,none⟩),.int .i64 y,.int .i64 x] w fun v w'=>v= .int .i64 0∧ ∃ U,Grow A w U w'∧c5 w' ay U (t.set i x):=by
 subst bH;obtain⟨c,ac⟩:∃ c,t.cells[i]? =some c:=⟨_,x3 aC⟩;apply iE.enter;rw[cZ ep.u];simp only[b8,aT];refine (yy h).mono ?_;rintro _ aX _ ⟨rfl,aq⟩;rw[decide_eq_true (by omega),b3,Y1,aT];obtain⟨bk,aw,go,ax,aM,aD,af,h1,bl,aY,aK,aL⟩:=id (h.ext aq);have bJ:∀ {J:x5} {U:av} {W:aP} {st:Nat} {K:x5→Prop},c5 J ay U W→W.cells[i]? =some ⟨c.v,st⟩→
   (∀ V,aj U J V→c5 V ay U {W with cells:=W.cells.set i ⟨x,st⟩}→K V)→
   (I y0 (am (.pointer (some ⟨ay,0,none⟩))) J fun t77=>
   I y0 (x2 cR t77 0) J fun bK=>
   I y0 (x1 dm bK) J fun bL=>
   I y0 (x7 dm bL (.int .i64 (i:Int))) J fun bM=>
   I y0 (x2 dc bM 0) J fun bN=>
   aa y0 (x8 ae bN (.int .i64 x)) J fun(_:Unit) V=>
   K V):=by
  intro J U W st K a1 aN bP;obtain⟨a2,aw,go,ax,aM,aD,af,al,ao,aE,aF,aG⟩:=a1;have bQ:=(x6.1 aN).1;rw[az,ah cR.p rfl,ai (by kernel_rfl) (al.cell (o:=0+0) rfl),cI rfl dm.u dc.i ao bQ,ah dc.p rfl];obtain⟨⟨aH,a6,a7⟩,ap,_⟩:=rW al ao aE aF;refine nf (f:=gp) (j:=0) (a:=⟨c.v,st⟩) (a':=⟨x,st⟩) ae.i rfl rfl ao aN rfl (by omega) fun V Z bR bS=>?_;exact bP V (Z.mono fun r _ E=>aG r (.inl E)) ⟨a2,aw,go,ax,aM,aD,af,al.ad Z aH,bS,aE.ad Z fun r E he=>(ap r he).1 E,aF.ad Z fun r E he=>(ap r he).2 E,aG⟩
 refine dF (fun J=>∃ U W st,Grow A aX U J∧c5 J ay U W∧W.cells[i]? =some ⟨c.v,st⟩∧t.set i x={W with cells:=W.cells.set i ⟨x,st⟩}) ?_ ?_
 ·rintro J ⟨U,W,st,bT,a1,aN,a8⟩;refine bJ a1 aN fun V Z aY=>⟨by trivial,U,?_,by rw[a8];exact aY⟩;exact (Grow.ext aq).trans (bT.trans ⟨Z,fun _ h=>.inl h,fun _ h=>h⟩)
 intro ci ba;rw[az,ah cR.p rfl,ai (by kernel_rfl) (h1.cell (o:=0+2) rfl),dZ j8.u aK,bV,ag];have bm:∀ (hm:t.marks.getLast? =none∨ ∃ m,t.marks.getLast? =some m∧¬(c.st<m.st∧i<m.cells)),t.set i x={t with cells:=t.cells.set i ⟨x,c.st⟩}:=fun hm=>by
  unfold aP.set;rw[ac];rcases hm with hm|⟨m,hm,bU⟩
  ·simp only[hm]
  ·simp only[hm];rw[if_neg bU]
 refine⟨fun cj=>?_,fun ck=>ba _ ⟨A,t,c.st,Grow.refl _ _,h.ext aq,ac,bm (.inl ?_)⟩⟩
 rotate_left
 ·rw[List.getLast?_eq_none_iff];exact j9 (by omega)
 obtain⟨m,hm⟩:∃ m,t.marks[t.marks.length-1]? =some m:=⟨_,x3 (by omega)⟩;have bn:t.marks.getLast? =some m:=by rw[List.getLast?_eq_getElem?];exact hm
 have cl:=aV.2.2;rw[az,ah cR.p rfl,ai (by kernel_rfl) (h1.cell (o:=0+2) rfl),dD,wrap_i64 (by omega) (by omega),cI (i:=t.marks.length-1) (by omega) j8.u dE.i aK (by omega),bI dE.p dE.i rfl (aK.range hm)];refine bO dE.i fun bb J cm bo bW=>?_;refine b4 (vs:=lG m) dE.i rfl rfl (by intro v aI;simp[lG] at aI;rcases aI with rfl|rfl|rfl <;> rfl) bW fun V Z bR bX=>?_;have bp:Ext aX V:=bo.then Z (fun r E he=>by have he:r=bb:=he;omega);have aO:∀ {w':x5},Ext V w'→ak w' bb dE (lG m):=fun aq=>bX.ext aq;refine aZ (fun v bc=>v= .bool (decide (c.st<m.st∧i<m.cells))∧Ext V bc) ?_ ?_
 rotate_left
 ·intro cn bq;intro bc X _ _;have aA:=bp.trans X;have br:=aO X;have aB:=bl.ext aA;rw[az,ah cR.p rfl,ai (by kernel_rfl) ((h1.ext aA).cell (o:=0+0) rfl),cI rfl dm.u dc.i aB aC,ah dc.p rfl,ai (by kernel_rfl) (aB.range ac 1 _ rfl),ah dE.p rfl,ai (by kernel_rfl) (br.cell (o:=0+2) rfl),au,ag];refine⟨fun bt=>?_,fun bu=>bq _ _ ⟨by rw[decide_eq_false];omega,X⟩⟩;rw[ah dE.p rfl,ai (by kernel_rfl) (br.cell (o:=0+1) rfl),au];refine bq _ _ ⟨?_,X⟩;congr 1;rw[X8,decide_eq_true_eq,decide_eq_true_eq];exact⟨fun h=>⟨by omega,by omega⟩,fun h=>by omega⟩
 rintro _ bc ⟨rfl,X⟩;have aA:=bp.trans X;rw[ag];refine⟨fun bt=>?_,fun bu=>ba _ ⟨A,t,c.st,Grow.ext aA,(h.ext aq).ext aA,ac,bm (.inr ⟨m,bn,bu⟩)⟩⟩;intro cq aQ _ _;have aJ:=aA.trans aQ;have bd:=h1.ext aJ;have aB:=bl.ext aJ;have bY:=aY.ext aJ;have bZ:=aK.ext aJ;rw[az,ah cR.p rfl,ai (by kernel_rfl) (bd.cell (o:=0+1) rfl),az,ah cR.p rfl,ai (by kernel_rfl) (bd.cell (o:=0+0) rfl),cI rfl dm.u dc.i aB aC,bI dc.p dc.i rfl (aB.range ac)];rw[cW (cs:=#[.int .i64 (i:Int),.int .i64 c.v,.int .u64 (c.st:Int)]) (by kernel_rfl)];let a:iP:=⟨i,c⟩;have b1:∀ u∈lF a,u.oneCell'=true:=by intro v aI;simp[lF] at aI;rcases aI with rfl|rfl|rfl <;> rfl
 refine ff (f:=lF) (a:=a) gx.u gY.i (by omega) rfl rfl fun cr ct bw cu Y b2=>?_;refine⟨.inl Y,?_⟩;have bx:=aJ.trans Y;have be:=bd.ext Y;have bz:=aB.ext Y;have bf:=bY.ext Y;have bA:=bZ.ext Y;obtain⟨⟨aH,a6,a7⟩,ap,b5⟩:=rW be bz bf bA;refine fo (f:=lF) (a:=a) gx.u gY.i rfl bf (by simpa using b2.sl) b1 (by have:=aV.2.1;omega) (by have:=aV.2.1;omega) fun bg bB cw aR b6 bC=>?_;rw[az,ah cR.p rfl];have bF:=be.ad bC a6;refine bE gx.i (cJ aR.sl).1 (cJ aR.sl).2 bF (by simp) fun ab bG cz bh=>?_;have bh:ak ab ay cR [aM,bg,af,.int .u64 (t.kj:Int)]:=bh;have aS:aj (fun r=>leadsTo aD r∨r=ay) bw ab:=(bC.mono fun r _ h=>.inl h).trans (bG.mono fun r _ h=>.inr h);have b7:aW gp 2 dc ab aw aM t.cells:=bz.ad aS fun r E he=>he.elim (fun he=>(ap r E).1 he) fun he=>aH (he▸E);have b9:aW lG 3 dE ab ax af t.marks:=bA.ad aS fun r E he=>he.elim (fun he=>(b5 r he).2 E) fun he=>a7 (he▸E);have ca:aW lF 3 gY ab bB bg (t.olds++[a]):=aR.ad bG fun r E he=>by
  have he:r=ay:=he;subst he;exact cp aR bF (by decide) E
 have cA:=bx.size;have cB:=bo.size;let bi:av:=fun r=>A r∨bw.heap.size≤r;have cb:Grow A aX bi ab:=⟨(bx.ad A).trans (aS.mono fun r _ he=>he.elim (fun he=>aL r (.inr (.inl he))) fun he=>he▸bk),fun r E=>E.imp id fun E=>by omega,fun r E=>.inl E⟩;have cc:c5 ab ay bi {t with olds:=t.olds++[a]}:=⟨.inl bk,aw,bB,ax,aM,bg,af,bh,b7,ca,b9,fun r E=>by
  rcases E with E|E|E
  ·exact .inl (aL r (.inl E))
  ·rcases b6 r E with h|h
   ·exact .inl (aL r (.inr (.inl h)))
   ·exact .inr h
  ·exact .inl (aL r (.inr (.inr E)))⟩
 have cd:ak ab bb dE (lG m):=(aO ((X.trans aQ).trans Y)).ad aS fun he=>by
  rcases he with he|he
  ·obtain⟨rfl,cC,ce⟩:=dr bf he;exact absurd (eK ce (aO ((X.trans aQ).trans Y))) (by decide)
  ·subst he;exact absurd (eK be (aO ((X.trans aQ).trans Y))) (by decide)
 intro cD bj _ _;have cg:=cc.ext bj;obtain⟨a2,aw,go,ax,aM,aD,af,al,ao,aE,aF,aG⟩:=cg;rw[az,ah cR.p rfl,ai (by kernel_rfl) (al.cell (o:=0+0) rfl),ah dE.p rfl,ai (by kernel_rfl) ((cd.ext bj).cell (o:=0+2) rfl),cI rfl dm.u dc.i ao aC,ah dc.p rfl];obtain⟨⟨aH,a6,a7⟩,ap,_⟩:=rW al ao aE aF;refine nf (f:=gp) (j:=1) (a:=c) (a':=⟨c.v,m.st⟩) bD.i rfl rfl ao ac rfl (by omega) fun cE aU cF ch=>?_;have a8:t.set i x={t with olds:=t.olds++[a],cells:=t.cells.set i ⟨x,m.st⟩}:=by
  unfold aP.set;rw[ac];simp only[bn];rw[if_pos bt]
 refine ba _ ⟨bi,{t with olds:=t.olds++[a],cells:=t.cells.set i ⟨c.v,m.st⟩},m.st,cb.trans ((Grow.ext bj).trans ⟨aU.mono fun r _ E=>aG r (.inl E),fun _ h=>.inl h,fun _ h=>h⟩),⟨a2,aw,go,ax,aM,aD,af,al.ad aU aH,ch,aE.ad aU fun r E he=>(ap r he).1 E,aF.ad aU fun r E he=>(ap r he).2 E,aG⟩,?_,?_⟩
 ·show (t.cells.set i _)[i]? =_;rw[V7 aC]
 ·rw[a8];simp only[List.set_set]
theorem yz (n:Nat):dd (#[.int .i64 0,.int .u64 0]:Array x4) (n*2)=(p9 n (⟨0,0⟩:Cell)).flatMap gp:=by
 have:∀ n,dd (#[.int .i64 0,.int .u64 0]:Array x4) (n*2)=(p9 n (⟨0,0⟩:Cell)).flatMap gp:=by
  intro n;apply X6;intro j;have O:((p9 n (⟨0,0⟩:Cell)).flatMap gp).length=n*2:=by simp[gp]
  by_cases I:j<n*2
  ·have J:(dd (#[.int .i64 0,.int .u64 0]:Array x4) (n*2))[j]? =some (if j % 2=0 then .int .i64 0 else .int .u64 0):=by
    unfold dd;rw[U7,Array.getElem?_map,Array.getElem?_range,if_pos I];rcases Nat.mod_two_eq_zero_or_one j with h|h <;> simp[h]
   have E:=rt (f:=gp) (k:=2) (L:=p9 n (⟨0,0⟩:Cell)) (i:=j / 2) (j:=j % 2) (a:=⟨0,0⟩) (v:=if j % 2=0 then .int .i64 0 else .int .u64 0) (fun a _=>rfl) (by rw[List.getElem?_replicate,if_pos (by omega)]) (by rcases Nat.mod_two_eq_zero_or_one j with h|h <;> simp[h,gp]);rw[show j / 2*2+j % 2=j by omega] at E;rw[J,E]
  ·rw[Z8 (by rw[mQ];omega),Z8 (by omega)]
 exact this n
set_option maxHeartbeats 2000000 in
theorem E2 {w:x5} {ay:Nat} {A:av} {t:aP} {n:Nat} (h:c5 w ay A t) (aE:ku t) (aL:n≤100000000):O y0 om [.pointer (some ⟨ay,0,none⟩),.int .i64 (n:Int)] w fun v w'=>v= .int .i64 (t.cells.length:Int)∧ ∃ U,Grow A w U w'∧c5 w' ay U (t.grow n):=by
 apply om.enter;refine (yx h).mono ?_;rintro _ Y _ ⟨rfl,V⟩;refine dF (fun I=>∃ U,Grow A w U I∧c5 I ay U (t.grow n)) (fun I h=>⟨rfl,h⟩) ?_;intro aN ac;refine aZ (fun v I=>v= .bool (decide (0<n))∧Y=I) ?_ ?_
 rotate_left
 ·intro aO aF;rw[vg ep.u];simp only[b8,X0,bP];rw[bV];refine aF _ _ ⟨?_,rfl⟩;congr 1;rw[X8,decide_eq_true_eq,decide_eq_true_eq];omega
 rintro _ _ ⟨rfl,rfl⟩;rw[ag];refine⟨fun ae=>?_,fun ae=>ac _ ⟨A,Grow.ext V,?_⟩⟩
 rotate_left
 ·have:n=0:=by omega
  subst this;have e:t.grow 0=t:=by unfold aP.grow;simp
  rw[e];exact h.ext V
 obtain⟨af,aQ,go,aG,aM,al,am,h1,ao,ap,aq,W⟩:=id (h.ext V);rw[az,ah cR.p rfl,ai (by kernel_rfl) (h1.cell (o:=0+0) rfl)];obtain⟨⟨aH,aI,aJ⟩,au,aR⟩:=rW h1 ao ap aq;have aS:=aE.1;refine E0 (k:=2) (m:=n) rfl dm.u J.u dc.i rfl (by omega) (fun u hu=>?_) ao.1 ae (by omega) (by omega) fun Z aw I ax aK aA=>?_
 ·exact yj (by decide) (by decide) u hu
 rw[az,ah cR.p rfl];have X:aW gp 2 dc I aw Z (t.cells++p9 n ⟨0,0⟩):=by
  refine⟨?_,fun _ _=>rfl⟩;have e:(x4.agg #[.int .i64 0,.int .u64 0]).cells= #[.int .i64 0,.int .u64 0]:=rfl;rw[e,yz] at ax;rw[o5,List.length_replicate,List.flatMap_append];exact ax
 have aB:=h1.ad aA aH;refine bE dm.i (cJ X.sl).1 (cJ X.sl).2 aB (by simp) fun aC aD aT aa=>?_;have aa:ak aC ay cR [Z,al,am,.int .u64 (t.kj:Int)]:=aa;have ab:aj (fun r=>leadsTo aM r∨r=ay) Y aC:=(aA.mono fun r _ h=>.inl h).trans (aD.mono fun r _ h=>.inr h);have z:=V.size;refine ac _ ⟨fun r=>A r∨Y.heap.size≤r,(Grow.ext V).trans ⟨ab.mono fun r _ he=>he.elim (fun he=>W r (.inl he)) fun he=>he▸af,fun r E=>E,fun r E=>.inl E⟩,.inl af,aw,go,aG,Z,al,am,aa,X.ad aD fun r E he=>?_,ap.ad ab fun r E he=>he.elim (fun he=>(au r he).1 E) fun he=>aI (he▸E),aq.ad ab fun r E he=>he.elim (fun he=>(au r he).2 E) fun he=>aJ (he▸E),fun r E=>?_⟩
 ·have he:r=ay:=he;subst he;exact cp X aB (by decide) E
 ·rcases E with E|E|E
  ·exact (aK r E).imp (fun h=>W r (.inl h)) id
  ·exact .inl (W r (.inr (.inl E)))
  ·exact .inl (W r (.inr (.inr E)))
theorem E3 {w:x5} {n:Nat} (Y:n≤1000):O y0 n5 [.int .i64 (n:Int)] w fun v w'=>Ext w w'∧ ∃ ay,v= .pointer (some ⟨ay,0,none⟩)∧c5 w' ay (dS w.heap.size) ⟨p9 n ⟨0,0⟩,[],[],0⟩:=by
 apply n5.enter;rw[sI,Int.max_eq_left (by omega)];refine vn (k:=2) dm.u dc.i (by omega) (by omega) fun g J Z U I=>?_;rw[cW (cs:=#[.slice (some ⟨g,0,none⟩) n n,.slice none 0 0,.slice none 0 0,.int .u64 0]) (by kernel_rfl)];refine ce fun ay aa ab V X=>?_;have ac:=U.size;have e:(x4.agg #[.int .i64 0,.int .u64 0]).cells= #[.int .i64 0,.int .u64 0]:=rfl;have I:ak J g dc ((p9 n (⟨0,0⟩:Cell)).flatMap gp):=by rw[←yz,←e];exact I
 have W:aW gp 2 dc J g (.slice (some ⟨g,0,none⟩) n n) (p9 n ⟨0,0⟩):=by
  refine⟨?_,fun _ _=>rfl⟩;rw[List.length_replicate];exact bL.full I (by simp[gp]) (by simp[maxLen];omega)
 refine⟨U.trans V,ay,rfl,by show w.heap.size≤ay;omega,g,0,0,_,_,_,X,W.ext V,aW.nil _ _ _ _ _,aW.nil _ _ _ _ _,fun r E=>?_⟩;rcases E with E|E|E
 ·have:=(W.leads E).1;show w.heap.size≤r;omega
 ·exact (dI E).elim
 ·exact (dI E).elim
theorem ll {α β:Type} {f:α→List β}:∀ {L:List α} {i j:Nat} {a:α},L[i]? =some a→j<(f a).length→(L.flatMap f)[((L.take i).flatMap f).length+j]? =(f a)[j]?
 |x::L,0,j,a,h,E=>by
  cases h;rw[List.take_zero,List.flatMap_nil,List.length_nil,V5,X5,Z1 E]
 |x::L,i+1,j,a,h,E=>by
  have h:L[i]? =some a:=by simpa using h
  rw[List.take_succ_cons,X5,X5,o5,Nat.add_assoc,Z4 (by omega),Nat.add_sub_cancel_left,ll h E]
theorem tT {α β:Type} {f:α→List β}:∀ {L:List α} {i j:Nat} {a b:α} {x:β},L[i]? =some a→j<(f a).length→f b=(f a).set j x→(L.flatMap f).set (((L.take i).flatMap f).length+j) x=(L.set i b).flatMap f
 |y::L,0,j,a,b,x,h,E,I=>by
  cases h;rw[List.take_zero,List.flatMap_nil,List.length_nil,V5,X5,List.set_cons_zero,X5,I,List.set_append_left _ _ E]
 |y::L,i+1,j,a,b,x,h,E,I=>by
  have h:L[i]? =some a:=by simpa using h
  rw[List.take_succ_cons,X5,X5,o5,Nat.add_assoc,V2 _ _ (by omega),Nat.add_sub_cancel_left,tT h E I,List.set_cons_succ,X5]
theorem yA {α β:Type} {f:α→List β} {L:List α} {i j:Nat} {a:α} (h:L[i]? =some a) (E:j<(f a).length):((L.take i).flatMap f).length+j<(L.flatMap f).length:=by
 have h1:=ll (f:=f) h E;rw[x3 E] at h1;exact (x6.1 h1).1
structure gK where
 gone:Int
 mask:Int
 un:List Int
structure hL where
 sc:List Int
 an:List Int
 live:Int
 cs:List Int
structure tU where
 v:Int
 sc:List Int
 hy:List Int
structure ba where
 zero:Int
 vars:List gK
 funs:List hL
 lI:List tU
def fI (x:gK):List Int:=x.gone::x.mask::x.un
def fT (x:hL):List Int:=x.live::x.cs
def hj (s:ba):List Int:=[s.zero,(s.funs.length:Int),(s.lI.length:Int)]
def ba.cells (s:ba):List Int:=hj s++(s.vars.flatMap fI++s.funs.flatMap fT)
def eU (s:ba) (i:Nat):Nat:=3+((s.vars.take i).flatMap fI).length
def ei (s:ba) (j:Nat):Nat:=3+((s.vars.flatMap fI).length+((s.funs.take j).flatMap fT).length)
theorem E4 (s:ba):s.cells[0]? =some s.zero:=rfl
theorem qa {s:ba} {i j:Nat} {x:gK} (h:s.vars[i]? =some x) (I:j<x.un.length+2):s.cells[eU s i+j]? =(fI x)[j]?:=by
 have E:j<(fI x).length:=I;unfold ba.cells eU;rw[Nat.add_assoc,Z4 (by simp[hj]),show (hj s).length=3 from rfl,Nat.add_sub_cancel_left,Z1 (yA h E),ll h E]
theorem tV {s:ba} {i j:Nat} {x:hL} (h:s.funs[i]? =some x) (E:j<x.cs.length+1):s.cells[ei s i+j]? =(fT x)[j]?:=by
 have I:j<(fT x).length:=E;unfold ba.cells ei;rw[Nat.add_assoc,Nat.add_assoc,Z4 (by simp[hj]),show (hj s).length=3 from rfl,Nat.add_sub_cancel_left,Z4 (by omega),Nat.add_sub_cancel_left,ll h I]
theorem E5 {s:ba} {i j:Nat} {x y:gK} {c:Int} (h:s.vars[i]? =some x) (I:j<x.un.length+2) (J:fI y=(fI x).set j c):s.cells.set (eU s i+j) c=({s with vars:=s.vars.set i y}:ba).cells:=by
 have E:j<(fI x).length:=I;unfold ba.cells eU;rw[Nat.add_assoc,V2 _ _ (by simp[hj]),show (hj s).length=3 from rfl,Nat.add_sub_cancel_left,List.set_append_left _ _ (yA h E),tT h E J];rfl
theorem E6 {s:ba} {i j:Nat} {x y:hL} {c:Int} (h:s.funs[i]? =some x) (E:j<x.cs.length+1) (I:fT y=(fT x).set j c):s.cells.set (ei s i+j) c=({s with funs:=s.funs.set i y}:ba).cells:=by
 have J:j<(fT x).length:=E;unfold ba.cells ei;rw[Nat.add_assoc,Nat.add_assoc,V2 _ _ (by simp[hj]),show (hj s).length=3 from rfl,Nat.add_sub_cancel_left,V2 _ _ (by omega),Nat.add_sub_cancel_left,tT h J I];show _=hj {s with funs:=s.funs.set i y}++_;unfold hj;rw[W0]
theorem E7 {s:ba} (x:hL):(s.cells++fT x).set 1 ((s.funs.length+1:Nat):Int)=({s with funs:=s.funs++[x]}:ba).cells:=by
 unfold ba.cells;simp only[List.flatMap_append,List.flatMap_singleton,hj,o5,T0,W9];rfl
theorem tW (s:ba):s.cells.length=3+((s.vars.flatMap fI).length+(s.funs.flatMap fT).length):=by
 unfold ba.cells;rw[o5,o5];rfl
def e5 (a sc:List Int):List Int:=sc.map fun v=>a.getD v.toNat 0
def gL (k:Int) (E:Int) (p:gK×Int):Int:=if p.1.gone≠0 then E else min (E+p.1.un.getD p.2.toNat 0) k
def fU (k:Int) (a:List Int) (E:Int) (f:hL):Int:=if f.live≠0 then min (E+cn f.an f.cs (e5 a f.sc)) k else E
def dropped (mask:Int) (v:Int):Bool:=mask.toNat.testBit v.toNat
def ds (p:gK×Int):Bool:=decide (p.1.gone≠0)|| !dropped p.1.mask p.2
def fV (k:Int) (s:ba) (a:List Int):Int:=if (s.vars.zip a).all ds then s.funs.foldl (fU k a) ((s.vars.zip a).foldl (gL k) s.zero) else k
def jD (s:ba) (a:List Int):Prop:=a.length=s.vars.length∧ ∀ (i:Nat) x v,s.vars[i]? =some x→a[i]? =some v→x.gone≠0∨(0≤v∧v<x.un.length)
structure gM (k:Int) (sizes:List Int) (s:ba):Prop where
 rY:1≤k∧k≤2147483648
 kv:1≤sizes.length∧sizes.length≤64∧ ∀ z∈sizes,1≤z∧z≤32
 zero:0≤s.zero∧s.zero≤k
 vars:s.vars.length=sizes.length
 var:∀ (i:Nat) x z,s.vars[i]? =some x→sizes[i]? =some z→x.un.length=z.toNat∧(∀ c∈x.un,0≤c∧c≤k)∧0≤x.mask∧x.mask<4294967296
 funs:∀ f∈s.funs,ey sizes k (f.sc,f.cs)∧f.an=bF sizes f.sc∧2≤f.sc.length
def newVar (u:List Int):gK:=⟨0,0,u⟩
def kw (sizes:List Int) (g:ch):hL:=⟨g.1,bF sizes g.1,1,g.2⟩
def dQ (n:bY):ba:=⟨n.zero,n.unary.map newVar,n.funs.map (kw n.sizes),[]⟩
theorem yB {n:bY} (h:hI n):gM n.k n.sizes (dQ n):=by
 refine⟨h.k,h.sizes,h.zero,by simp[dQ,h.il],fun i x z E J=>?_,fun f O=>?_⟩
 ·have E:(n.unary.map newVar)[i]? =some x:=E;rw[r8] at E;obtain⟨u,hu,rfl⟩:=Z3.1 E;obtain⟨h1,I⟩:=h.unary i z u J hu;exact⟨h1,I,Int.le_refl _,by show (0:Int)<_;omega⟩
 ·obtain⟨g,U,rfl⟩:=l9.1 O;obtain⟨h1,I⟩:=h.funs g U;exact⟨h1,rfl,I⟩
theorem tX {w:x5} {E:Nat} {n:bY} (h:eT w E n):O y0 kV [.pointer (some ⟨E,0,none⟩)] w fun v w'=>v= .int .i64 (n.sizes.length:Int)∧Ext w w':=by
 obtain⟨U,V,W,X,Y,Z,L,aa,aw,ac,ad,h1,I,J,ae,af,ag,aj⟩:=h;apply kV.enter;rw[cZ fN.u];simp only[b8,aT];rw[az,ah cK.p rfl,ai (by kernel_rfl) (h1.cell (o:=0+0) rfl),az,ah bf.p rfl,ai (by kernel_rfl) (I.cell (o:=0+2) rfl),aO ab.u J.ls];exact⟨rfl,Ext.refl _⟩
theorem E8 {w:x5} {E:Nat} {n:bY} (h:eT w E n):O y0 od [.pointer (some ⟨E,0,none⟩)] w fun v w'=>v= .int .i64 n.k∧Ext w w':=by
 obtain⟨J,U,V,W,X,Y,L,Z,aw,aa,ab,h1,I,ac,ad,ae,af,ag⟩:=h;apply od.enter;rw[cZ fN.u];simp only[b8,aT];rw[az,ah cK.p rfl,ai (by kernel_rfl) (h1.cell (o:=0+0) rfl),az,ah bf.p rfl,ai (by kernel_rfl) (I.cell (o:=0+1) rfl)];exact⟨rfl,Ext.refl _⟩
theorem E9 {w:x5} {E:Nat} {n:bY} (h:eT w E n):O y0 n7 [.pointer (some ⟨E,0,none⟩)] w fun v w'=>v= .int .i64 n.zero∧Ext w w':=by
 obtain⟨I,J,U,V,W,X,L,Y,aw,Z,aa,h1,ab,ac,ad,ae,af,ag⟩:=h;apply n7.enter;rw[cZ fN.u];simp only[b8,aT];rw[az,ah cK.p rfl,ai (by kernel_rfl) (h1.cell (o:=0+1) rfl)];exact⟨rfl,Ext.refl _⟩
theorem yC {w:x5} {E:Nat} {n:bY} (h:eT w E n):O y0 jT [.pointer (some ⟨E,0,none⟩)] w fun v w'=>v= .int .i64 (n.funs.length:Int)∧Ext w w':=by
 obtain⟨U,V,W,X,Y,Z,L,aa,aw,ab,ac,h1,ad,ae,af,ag,I,J⟩:=h;apply jT.enter;rw[cZ fN.u];simp only[b8,aT];rw[az,ah cK.p rfl,ai (by kernel_rfl) (h1.cell (o:=0+3) rfl),dZ er.u I.1];exact⟨by rw[←J,o4],Ext.refl _⟩
theorem yD {w:x5} {X:Nat} {n:bY} {i:Int} (h:eT w X n) (I:hI n):O y0 mf [.pointer (some ⟨X,0,none⟩),.int .i64 i] w fun v w'=>Ext w w'∧(¬(0≤i∧i<n.sizes.length)→v= .slice none 0 0)∧
  ∀ u,0≤i→n.unary[i.toNat]? =some u→ ∃ g,w.heap.size≤g∧aq .i64 ae w' g v u:=by
 apply mf.enter;have ao:=I.il;refine aZ (fun v J=>v= .bool (decide (¬(0≤i∧i<n.sizes.length)))∧Ext w J) ?_ ?_
 ·rintro _ J ⟨rfl,E⟩;rw[ag];refine⟨fun ad=>⟨E,fun _=>rfl,fun u aj hu=>?_⟩,fun U=>?_⟩
  ·have:=(x6.1 hu).1;exact absurd ⟨aj,by omega⟩ ad
  have U:0≤i∧i<n.sizes.length:=X2.1 U;obtain⟨ap,av,ax,ay,aA,Y,L,aB,aw,aC,aD,h1,aE,aF,V,Z,aG,aH⟩:=h.ext E;have aI:Y.length=n.unary.length:=by rw[←Z,o4]
  obtain⟨a,W⟩:∃ a,Y[i.toNat]? =some a:=⟨_,x3 (by omega)⟩;obtain⟨aJ,hm⟩:=V.2 a (u4 W);rw[az,ah cK.p rfl,ai (by kernel_rfl) (h1.cell (o:=0+2) rfl),cI (i:=i.toNat) (by omega) bZ.u af.i V.1 (by omega),ai (o:=i.toNat*1) (by kernel_rfl) (V.1.range W 0 _ rfl)];have aa:n.unary[i.toNat]? =some a.l:=by rw[←Z,r8,W];rfl
  have aK:a.l.length≤32:=by
   obtain⟨z,ab⟩:∃ z,n.sizes[i.toNat]? =some z:=⟨_,x3 (by omega)⟩;have aL:=(I.unary i.toNat z a.l ab aa).1;have aM:=I.sizes.2.2 z (u4 ab);omega
  refine (sS hm.ls (by omega)).mono ?_;rintro v aN _ ⟨ak,g,aO,al⟩;refine⟨E.trans ak,fun am=>absurd U am,fun u _ hu=>⟨g,by have:=E.size;omega,?_⟩⟩;rw[aa] at hu;cases hu;exact al
 ·intro aP ac;rw[au,ag];refine⟨fun aQ=>ac _ _ ⟨by rw[decide_eq_true];omega,Ext.refl _⟩,fun aR=>?_⟩;refine (tX h).mono ?_;rintro _ J _ ⟨rfl,E⟩;rw[cV];refine ac _ _ ⟨?_,E⟩;congr 1;rw[X8,decide_eq_true_eq,decide_eq_true_eq];omega
theorem yE {w:x5} {U:Nat} {n:bY} {i:Int} (h:eT w U n) (E:hI n):O y0 mb [.pointer (some ⟨U,0,none⟩),.int .i64 i] w fun v w'=>Ext w w'∧v= .int .i64 (if 0≤i then n.sizes.getD i.toNat 0 else 0):=by
 apply mb.enter;refine (yD h E).mono ?_;rintro v Z _ ⟨V,X,Y⟩;by_cases I:0≤i∧i<n.sizes.length
 ·have aa:=E.il;obtain⟨u,hu⟩:∃ u,n.unary[i.toNat]? =some u:=⟨_,x3 (by omega)⟩;obtain⟨z,J⟩:∃ z,n.sizes[i.toNat]? =some z:=⟨_,x3 (by omega)⟩;obtain⟨g,_,hm⟩:=Y u I.1 hu;rw[aO af.u hm.ls];refine⟨V,?_⟩;have ab:=(E.unary i.toNat z u J hu).1;have ac:=E.sizes.2.2 z (u4 J);rw[if_pos I.1,p8,J];congr 1;simp only[V4];omega
 ·rw[X I,gf af.u];refine⟨V,?_⟩;by_cases W:0≤i
  ·rw[if_pos W,p8,Z8 (by omega)];rfl
  ·rw[if_neg W];rfl
theorem yF {w:x5} {E:Nat} {n:bY} {j:Int} (h:eT w E n) {K:x4→x5→Prop} (V:∀ w',Ext w w'→K (.bool (decide (¬(0≤j∧j<n.funs.length)))) w'):
  I y0 (U .lss J false true (.int .i64 j) (.int .i64 0)) w fun X=>Split X (K (.bool true) w) (O y0 jT [.pointer (some ⟨E,0,none⟩)] w fun Y W=>I y0 (U .geq J false false (.int .i64 j) Y) W fun Z=>K Z W):=by
 rw[au,ag];refine⟨fun ac=>?_,fun ad=>?_⟩
 ·have:=V w (Ext.refl _);rw[decide_eq_true (show ¬(0≤j∧j<n.funs.length) by omega)] at this;exact this
 ·refine (yC h).mono ?_;rintro _ aa _ ⟨rfl,ab⟩;rw[cV];have:=V aa ab;have e:decide ((n.funs.length:Int)≤j)=decide (¬(0≤j∧j<n.funs.length)):=by
   rw[X8,decide_eq_true_eq,decide_eq_true_eq];omega
  rw[←e] at this;exact this
theorem Fa {w:x5} {W j:Nat} {n:bY} {g:ch} (h:eT w W n) (aa:hI n) (E:n.funs[j]? =some g):O y0 oa [.pointer (some ⟨W,0,none⟩),.int .i64 (j:Int)] w fun v w'=>Ext w w'∧ ∃ gs,w.heap.size≤gs∧aq .i64 J w' gs v g.1:=by
 apply oa.enter;have af:=(x6.1 E).1;refine aZ (fun v X=>v= .bool (decide (¬(0≤(j:Int)∧(j:Int)<n.funs.length)))∧Ext w X) ?_ fun ag ab=>yF h fun w' ac=>ab _ _ ⟨rfl,ac⟩;rintro _ X ⟨rfl,I⟩;rw[decide_eq_false (by omega),aT];obtain⟨aj,ak,al,am,ao,ap,L,au,aw,av,ax,h1,ay,aA,aB,aC,U,Y⟩:=h.ext I;have aD:L.length=n.funs.length:=by rw[←Y,o4]
 obtain⟨a,V⟩:∃ a,L[j]? =some a:=⟨_,x3 (by omega)⟩;have Z:dk a=g:=by rw[←Y,r8,V] at E;exact b9 E
 obtain⟨⟨aE,hm⟩,_⟩:=U.2 a (u4 V);rw[az,ah cK.p rfl,ai (by kernel_rfl) (h1.cell (o:=0+3) rfl),cI rfl er.u fl.i U.1 (by omega),ah fl.p rfl,ai (by kernel_rfl) (U.1.range V 0 _ rfl)];have aF:a.sc.length≤6:=by
  have:=(aa.funs g (u4 E)).1.scope.2;rw[←Z] at this;exact this
 refine (jv hm.ls (by omega)).mono ?_;rintro v aG _ ⟨ad,gs,aH,ae⟩;refine⟨I.trans ad,gs,by have:=I.size;omega,?_⟩;rw[←Z];exact ae
theorem Fb {w:x5} {g ad:Nat} {sv:x4} {an:List Int} {k:Int} {cs:List Int} (h:cG w g ad sv an k cs):O y0 oo [.pointer (some ⟨g,0,none⟩)] w fun v w'=>Ext w w'∧ ∃ E I,v= .pointer (some ⟨E,0,none⟩)∧w.heap.size≤E∧w.heap.size≤I∧cG w' E I sv an k cs:=by
 obtain⟨⟨aM,gs,ae,hm,af⟩,⟨h1,al,ag⟩,Y,Z⟩:=h;apply oo.enter;rw[cZ bA.u];simp only[b8,aT];intro am J _ _;have V:=ae.ext J;have ao:=prod_bound Y;rw[az,ah bq.p rfl,bI (cs:=[sv]) aJ.p aJ.i rfl (lp V (by
  intro j v W
  match j,W with
  |0,W=>exact W)),az,ah bq.p rfl,ai (by kernel_rfl) (V.cell (o:=0+1) rfl),az,ah bq.p rfl,ai (by kernel_rfl) (V.cell (o:=0+2) rfl)]
 refine (sS (af.ls.ext J) (by omega)).mono ?_;rintro aa ap _ ⟨X,I,aq,U⟩;refine⟨.inl X,?_⟩;rw[cW (cs:=#[sv,.int .i64 k,aa]) (by obtain⟨_,_,_,rfl⟩:=c6 hm.ls;obtain⟨_,_,_,rfl⟩:=c6 U.ls;kernel_rfl)];refine ce fun E au av ab aj=>?_;have aw:=J.size;have ax:=X.size;have ay:=U;have ac:=(J.trans X).trans ab;refine⟨ac,E,I,rfl,by omega,by omega,⟨aa,gs,aj,hm.ext ac,U.ext ab⟩,⟨?_,?_,ag⟩,Y,Z⟩
 ·have:=rH U (by rw[Z];omega);omega
 ·intro ak;obtain⟨aA,aB⟩:=bX hm ak;omega
theorem Fc {w0 w:x5} {Y j:Nat} {n:bY} {g:ch} (Z:eT w0 Y n) (aa:Ext w0 w) (J:n.funs[j]? =some g):O y0 ob [.pointer (some ⟨Y,0,none⟩),.int .i64 (j:Int)] w fun v w'=>Ext w w'∧ ∃ E U sv,v= .pointer (some ⟨E,0,none⟩)∧w.heap.size≤E∧w.heap.size≤U∧cG w' E U sv (bF n.sizes g.1) n.k g.2∧ ∀ r,leads sv r→r<w0.heap.size:=by
 have h:=Z.ext aa;apply ob.enter;have ap:=(x6.1 J).1;refine aZ (fun v ab=>v= .bool (decide (¬(0≤(j:Int)∧(j:Int)<n.funs.length)))∧Ext w ab) ?_ fun aq ae=>yF h fun w' af=>ae _ _ ⟨rfl,af⟩;rintro _ ab ⟨rfl,V⟩;rw[decide_eq_false (by omega),aT];have I:=aa.trans V;obtain⟨au,av,ax,ay,aA,aB,L,aC,aw,aD,aE,h1,aF,aG,aH,aI,W,ac⟩:=Z;have aJ:L.length=n.funs.length:=by rw[←ac,o4]
 obtain⟨a,X⟩:∃ a,L[j]? =some a:=⟨_,x3 (by omega)⟩;have ag:dk a=g:=by rw[←ac,r8,X] at J;exact b9 J
 obtain⟨_,U,aj,ad⟩:=W.2 a (u4 X);rw[az,ah cK.p rfl,ai (by kernel_rfl) ((h1.ext I).cell (o:=0+3) rfl),cI rfl er.u fl.i (W.1.ext I) (by omega),ah fl.p rfl,ai (by kernel_rfl) ((W.1.ext I).range X 1 _ rfl)];refine (Fb (ad.ext I)).mono ?_;rintro v aK _ ⟨ak,E,al,rfl,aL,aM,am⟩;have aN:=V.size;refine⟨V.trans ak,E,al,aj,rfl,by omega,by omega,?_,fun r ao=>?_⟩
 ·rw[←ag];exact am
 ·obtain⟨⟨_,_,_,hm,_⟩,_⟩:=ad;obtain⟨aO,aP⟩:=bX hm ao;omega
end Go.Proofs.YtgbkinibgjmodaaGreatDoor
