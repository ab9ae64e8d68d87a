/- own texts, made small by a tool (wip/ holds them as they were written): no statement of the seat. -/
import Derived.Test.YtikkpokkcdocoaaGreatDoorYe
set_option linter.unusedVariables false
set_option linter.unusedSimpArgs false
set_option linter.unnecessarySimpa false
open Array renaming getElem?_eq_some_iff→j6
open Bool renaming not_true→Y9,not_false→X9,eq_iff_iff→V7,and_eq_true→U1,or_eq_false_iff→U3
open Decidable renaming not_not→X2
open Go renaming Value→x3,World→x4,TypeId→r9,IntKind→o9,FuncId→R6
open Go.Builtin renaming len_→W7
open Go.Instr renaming loadAt→u5,fieldAt→u6,storeAt→o8,indexAt→j5,extract→Y2
open Go.IntKind renaming i64→X7,u64→U8
open Go.Proofs.Tryz renaming prog→x8
open Int renaming toNat_natCast→u9,eq_ofNat_of_zero_le→U6,le_refl→Q1
open List renaming getElem?_eq_some_iff→x5,mem_of_getElem?→x6,getElem?_eq_getElem→x7,getElem?_map→v8,getD_eq_getElem?_getD→u4,length_map→u7,take_add_one→r8,replicate→o4,take_length→o6,length_append→o7,length_take→n9,mem_append→l9,mem_map→j0,mem_singleton→j4,take_of_length_le→j9,getElem?_set_self→c9,eq_nil_of_length_eq_zero→b9,map_append→Z2,length_set→Z9,getElem?_append_left→Y1,getElem?_append_right→Y3,getElem?_eq_none→Y4,getElem?_set_ne→Y5,ext_getElem?→Y7,mem_iff_getElem?→X6,drop_eq_getElem_cons→X8,range→W3,length_eq_one_iff→V0,mem_cons→V1,flatMap_cons→V4,map_set→U5,append_nil→U9,map_cons→T1,foldl_cons→T7,mem_of_mem_take→T9,length_singleton→S3,map_map→R2,foldl_append→R5,length→Q0
open Nat renaming le_refl→o5,le_trans→X0,zero_add→X3,zero_le→X5,mul_one→U2,lt_of_lt_of_le→T5,pow_le_pow_right→T6,add_assoc→R3,add_sub_cancel_left→R4,eq_zero_or_pos→Q2
open Ne renaming symm→S6
open Option renaming toList_some→l7,some→b8,isNone_some→Z6,map_some→Z7,map_eq_some_iff→Y6,getD_some→V2,isSome_some→S8,isSome_none→S9
open Option.some renaming inj→Z0
open Prod.mk renaming injEq→S1
set_option maxHeartbeats 16000000
open Option renaming some→σ,none→ν
variable{ga gt gtb gy j pos:Nat}{c k v:Int}{a l pl sizes tl:Λ}{J U w w':x4}{D:Nat->Prop}
namespace Go.Proofs.YtikkpokkcdocoaaGreatDoor
open Go Go.Vc Go.RowKit Go.Proofs Go.Proofs.Tryz
set_option maxRecDepth 100000
def cn(w:x4)(ab ac al:Nat)(A R:af)(A9:Nat->af)(aB:af)(n:aK)(s:am)(t:az)(h:List az)(u:am)(w':x4):Prop:=ae (λr=>(∃q,A9 q r)\/r=al) w w'/\∃cq cs,b5 w' ab ac al A R cq aB n s u t h cs/\∀q r,cq q r->(∃a,A9 a r)\/w.heap.size<=r
section
variable{w w' J U:x4}{ab ac al:Nat}{A R:af}{A9:Nat->af}{aB:af}{n:aK}{s u eP eQ:am}{t:az}{h:List az}{cs:List x3}
theorem cn.same(p:b5 w ab ac al A R A9 aB n s u t h cs)(a:Ext w w'):cn w ab ac al A R A9 aB n s t h u w':=⟨a.aa _,A9,cs,p.ext a,λq r h=>.inl ⟨q,h⟩⟩
theorem cn.comp{cq:Nat->af}(e:ae (λr=>(∃q,A9 q r)\/r=al) w J)(f:∀q r,cq q r->(∃a,A9 a r)\/w.heap.size<=r)(d:cn J ab ac al A R cq aB n s t h eQ U):cn w ab ac al A R A9 aB n s t h eQ U:=by
 obtain⟨p,x,bu,y,B⟩:=d;have z:=e.size;refine⟨?_,x,bu,y,λq r j=>(B q r j).elim (λ⟨a,h⟩=>f a r h) λh=>.inr Ω⟩;refine((e.mono λr _ h=>.inl h).trans (p.mono λr _ h=>?_):ae (λr=>((∃q,A9 q r)\/r=al)\/w.heap.size<=r) w U).mono λr j h=>h.elim id λh=>Ω
 rcases h with⟨q,h⟩|h
 .exact (f q r h).imp .inl id
 .exact .inl (.inr h)
def js(w:x4)(ab ac al:Nat)(A R:af)(A9:Nat->af)(aB:af)(n:aK)(s:am)(t:az)(h:List az)(u:am)(w':x4):Prop:=ae (A9 2) w w'/\∃cq cs,b5 w' ab ac al A R cq aB n s u t h cs/\(∀q r,cq q r->(∃a,A9 a r)\/w.heap.size<=r)/\∀r,cq 2 r->A9 2 r\/w.heap.size<=r
theorem js.xi(d:js w ab ac al A R A9 aB n s t h u w'):cn w ab ac al A R A9 aB n s t h u w':=by
 obtain⟨h1,cq,cs,a,e,_⟩:=d;exact⟨h1.mono λr _ h=>.inl ⟨2,h⟩,cq,cs,a,e⟩
theorem js.same(p:b5 w ab ac al A R A9 aB n s u t h cs)(a:Ext w w'):js w ab ac al A R A9 aB n s t h u w':=⟨a.aa _,A9,cs,p.ext a,λq r h=>.inl ⟨q,h⟩,λr h=>.inl h⟩
theorem js.comp{cq:Nat->af}(f:ae (A9 2) w J)(p:∀q r,cq q r->(∃e,A9 e r)\/w.heap.size<=r)(j:∀r,cq 2 r->A9 2 r\/w.heap.size<=r)(d:js J ab ac al A R cq aB n s t h eQ U):js w ab ac al A R A9 aB n s t h eQ U:=by
 obtain⟨x,y,bu,B,C,E⟩:=d;have z:=f.size;refine⟨?_,y,bu,B,λq r a=>(C q r a).elim (λ⟨e,h⟩=>p e r h) λh=>.inr Ω,λr a=>(E r a).elim (j r) λh=>.inr Ω⟩;exact((f.mono λr _ h=>.inl h).trans (x.mono λr _ h=>j r h):ae (λr=>A9 2 r\/w.heap.size<=r) w U).mono λr a h=>h.elim id λh=>Ω
theorem b5.PS{T:af}{v:x3}{u':am}(p:b5 w ab ac al A R A9 aB n s u t h cs)(z:∀q r,A9 q r->r<w.heap.size)(C:cs[5]?=σ v)(e:ae T w w')(f:∀r,r<w.heap.size->T r->A9 2 r)(E:bl (λr=>A9 2 r\/w.heap.size<=r) aB w' [v] (u'.vars.map (·.un)))(F:u'.zero=u.zero)(G:u'.vars.map ax=u.vars.map ax)(H:(u'.vars.map λx=>decide (x.gone≠0))=u.vars.map λx=>decide (x.gone≠0))(I:u'.funs=u.funs)(J:u'.dd=u.dd):
  ∃cq,b5 w' ab ac al A R cq aB n s u' t h cs/\(∀q r,cq q r->(∃K,A9 K r)\/w.heap.size<=r)/\∀r,cq 2 r->A9 2 r\/w.heap.size<=r:=by
 have L:=bt.jX p.doc (w4 e) (λr a=>.inl (f r a.2 a.1)) E (λj r M a=>?_) (λr a=>?_)
 .have y:=w5 (w:=w) (A9:=A9) (q:=2) (B:=λr=>A9 2 r\/w.heap.size<=r) λr h=>h;refine⟨_,p.row e f ?_ y,y,λr a=>a⟩;have:=bt.qh C L;unfold fQ;rw[F,G,H,I,J];exact this
 .rcases a with a|a
  .exact p.gL.1 2 j r (S6 M) a
  .exact λh=>by have:=z j r h;omega
 .rcases a with a|a
  .exact p.gL.2 2 r a
  .exact λh=>by have:=(p.read r h).2.1;omega
theorem q8(p:b5 w ab ac al A R A9 aB n s u t h cs){i:Nat}{x:bh}(B:u.vars[i]?=σ x):∃g cap y,cs[5]?=σ (.slice (σ ⟨g,0,ν⟩) u.vars.length cap)/\w.cell? ⟨g,i,ν⟩=σ y/\aH .i64 w y x.un/\
  ∀{w':x4}{v:Nat}{c:Int}{K:Unit->x4->Prop},Ext w w'->v<x.un.length->(∀H,js w ab ac al A R A9 aB n s t h (ev u i x (x.un.set v c)) H->K () H)->
   V x8 (j5 au y (Δ (v:Int))) w' λa=>aC x8 (o8 ao a (Δ c)) w' K:=by
 have I:=p.olds;obtain⟨szv,aj,am,an,ap,aq,J,_,_,_,L,_,_,C⟩:=id I.doc;obtain⟨g,cap,c,av,e,Q,M,aw,_⟩:=tD (i:=i) (a:=x.un) L (by rw[v8,B];rfl) λr _ h=>(C rfl).2 2 r h;obtain⟨y,rfl⟩:=V0.1 (ak.len M);have N:w.cell? ⟨g,i,ν⟩=σ y:=by
  have:=Q 0 y rfl;simpa[show ak.n (Λ)=1 from rfl]using this
 rw[u7]at e;refine⟨g,cap,y,by rw[J,<-e];rfl,N,dD (hS M),λ{w' v c K}j S U=>?_⟩;have W:=I.ext j;have z:=j.size;obtain⟨ay,az,aA,aD,O,X,P,E,Y⟩:=tD (i:=i) (a:=x.un) (bi L j) (by rw[v8,B];rfl) λr _ h=>(C rfl).2 2 r h;obtain⟨F,rfl⟩:=V0.1 (ak.len P);rw[u7,e]at O;cases O;have Z:F=y:=by
  have h1:=X 0 F rfl;have h1:w'.cell? ⟨g,i,ν⟩=σ F:=by simpa[show ak.n (Λ)=1 from rfl]using h1
  rw[iG j N]at h1;exact(Z0 h1).symm
 subst Z;refine Eb (α:=Int) (i:=v) (A:=λ_=>False) rfl rfl au.u ao.i P S rfl rfl (λr _ f=>⟨λh=>h,(C rfl).2 2 r (E r f)⟩) λaE G ad=>?_;have ae:=Y G (λr _ h=>h) ad λr f=>f.elim .inl False.elim;obtain⟨cq,af,ag,ah⟩:=W.PS (u':=ev u i x (x.un.set v c)) (λq r h=>by have:=h.2;omega) (by rw[J];rfl) G (λr _ h=>E r h) (by show bl _ _ _ _ ((u.vars.set i {x with un:=x.un.set v c}).map (·.un));rw[U5];exact ae) rfl (pC B (by unfold ax;simp)) (pC B rfl) rfl rfl;refine U _ ⟨(j.aa _).trans (G.mono λr _ h=>(E r h).1),cq,cs,af,λq r f=>?_,λr f=>?_⟩
 .rcases ag q r f with⟨ai,h⟩|h
  .exact .inl ⟨ai,h.1⟩
  .exact .inr Ω
 .exact (ah r f).imp (λh=>h.1) λh=>Ω
theorem EC(p:b5 w ab ac al A R A9 aB n s u t h cs){f:cK}(N:u.funs[j]?=σ f):∃g cap x E y,cs[6]?=σ (.slice (σ ⟨g,0,ν⟩) u.funs.length cap)/\w.rangeAt g (j*4) [x,E,y,.bool (decide (f.live≠0))]/\aH .i64 w x f.sc/\aH .i64 w y f.cs/\
  ∀{w':x4}{m:Nat}{c:Int}{K:Unit->x4->Prop},Ext w w'->m<f.cs.length->(∀O,cn w ab ac al A R A9 aB n s t h (dG u j f (f.cs.set m c)) O->K () O)->
   V x8 (j5 au y (Δ (m:Int))) w' λa=>aC x8 (o8 ao a (Δ c)) w' K:=by
 have P:=p.olds;obtain⟨szv,az,aA,aD,aE,aF,Q,_,_,_,_,S,_,F⟩:=id P.doc;obtain⟨g,cap,c,aG,e,G,W,aI,_⟩:=tD (i:=j) (a:=hF f) S (by rw[v8,N];rfl) λr _ h=>(F rfl).2 3 r h;have X:=mW W;obtain⟨x,E,y,rfl,Y,aJ,Z⟩:=X;rw[u7]at e;have G:w.rangeAt g (j*4) [x,E,y,.bool (decide (f.live≠0))]:=G;refine⟨g,cap,x,E,y,by rw[Q,<-e];rfl,G,dD Y,dD Z,λ{w' m c K}B hm ad=>?_⟩;have ae:=P.ext B;have z:=B.size;obtain⟨aK,aL,aM,aN,U,L,af,H,ag⟩:=tD (i:=j) (a:=hF f) (bi S B) (by rw[v8,N];rfl) λr _ h=>(F rfl).2 3 r h;rw[u7,e]at U;cases U;obtain⟨ah,ai,M,aO,rfl,aj,I,am⟩:=Po af λr h=>(F rfl).2 3 r (H r h);have L:w'.rangeAt g (j*4) [ah,ai,M,.bool (decide (f.live≠0))]:=L;have an:M=y:=by
  have h1:=L 2 M rfl;rw[(nu B G) 2 y rfl]at h1;exact(Z0 h1).symm
 subst an;refine Eb (α:=Int) (i:=m) (A:=λ_=>False) rfl rfl au.u ao.i aj hm rfl rfl (λr _ C=>⟨λh=>h,(F rfl).2 3 r (H r (I r C))⟩) λaP J ap=>?_;have aq:=am J (ak.mono ap (λr _ h=>h.elim id False.elim) λ_ _ h=>h);have av:=ag J (λr _ h=>I r h) aq λr C=>.inl C;obtain⟨cq,aw,ax⟩:=ae.Pm (u':=dG u j f (f.cs.set m c)) (λq r h=>by have:=h.2;omega) (by rw[Q];rfl) J (λr _ h=>H r (I r h)) (by show bl _ _ _ _ ((u.funs.set j {f with cs:=f.cs.set m c}).map hF);rw[U5];exact av) rfl rfl rfl;refine ad _ ⟨(B.aa _).trans (J.mono λr _ h=>.inl ⟨3,(H r (I r h)).1⟩),cq,cs,aw,λq r C=>?_⟩;rcases ax q r C with⟨ay,h⟩|h
 .exact .inl ⟨ay,h.1⟩
 .exact .inr Ω
theorem ED(p:b5 w ab ac al A R A9 aB n s u t h cs){K:Unit->x4->Prop}(f:∀e,cn w ab ac al A R A9 aB n s t h {u with zero:=c} e->K () e):aC x8 (o8 ao (.pointer (σ ⟨al,0+2,ν⟩)) (Δ c)) w K:=by
 refine bq (o:=0+2) ao.i rfl rfl p.box (by rw[p.doc.len.1];omega) λU a x j=>?_;refine f _ ⟨a.mono λr _ h=>.inr h,A9,_,p.Ed a (λr _ h=>.inr h) j ?_ λq r h=>.inl ⟨q,h⟩,λq r h=>.inl ⟨q,h⟩⟩;exact(bt.aa p.doc a λr _ h he=>h.elim (λ⟨q,h⟩=>(p.apart q r h).2.2 he) λh=>(p.read r h).2.2 he).O4
theorem EE(p:b5 w ab ac al A R A9 aB n s u t h cs){i:Nat}{x:bh}(B:u.vars[i]?=σ x):∃g cap y,cs[3]?=σ (.slice (σ ⟨g,0,ν⟩) u.vars.length cap)/\w.cell? ⟨g,i,ν⟩=σ y/\aH .i64 w y (ax x)/\(∀r,leads y r->A9 0 r)/\
  ∀{w':x4}{m:Int}{z:x3}{gz:Nat}{K:Unit->x4->Prop},Ext w w'->aq .i64 ag w' gz z (ax {x with mask:=m})->(∀r,leads z r->w.heap.size<=r)->(∀I,cn w ab ac al A R A9 aB n s t h {u with vars:=u.vars.set i {x with mask:=m}} I->K () I)->
   V x8 (j5 b2 (.slice (σ ⟨g,0,ν⟩) u.vars.length cap) (Δ (i:Int))) w' λa=>aC x8 (o8 an a z) w' K:=by
 have J:=p.olds;have X:=(x5.1 B).1;obtain⟨szv,Y,aF,aG,aI,aJ,L,_,Z,_,_,_,_,af⟩:=id J.doc;obtain⟨g,cap,full,ah,c,aK,e,C,ai,E,M,F,aj,aL,am⟩:=Ee (i:=i) (a:=ax x) Z (by rw[v8,B];rfl) λr _ h=>(af rfl).2 0 r h;obtain⟨y,rfl⟩:=V0.1 (ak.len F);rw[u7]at e;have ao:full[i]?=σ y:=by have:=M 0 y rfl;simpa[show ak.n (Λ)=1 from rfl]using this
 refine⟨g,cap,y,by rw[L,<-e];rfl,by have:=C.cell (o:=i) ao;exact this,dD (hS F),λr f=>?_,λ{w' m N gz K}G O P ap=>?_⟩
 .obtain⟨aM,aN,au,av⟩:=zP F;rcases av with rfl|aw
  .obtain⟨_,_,_,e,_⟩:=f;cases e
  .obtain⟨e,_⟩:=bR au f;rw[e];exact(aj _ aw).1
 have z:=G.size;have E:i*1+1<=full.length:=E;rw[eL b2.u an.i X λ_=>rfl];obtain⟨_,_,_,Q⟩:=cY O.ls;refine bq (o:=0+i*1) an.i (by rw[Q];rfl) (by rw[Q];rfl) (C.ext G) Ω λS U aO j=>?_;have j:ad S g ah (over full (i*1) [N]):=by
  have e:=Ef (full:=full) (c:=[y]) (o:=i*1) (q:=0) (x:=N) M E Ξ;rw[X3]at j;rw[Nat.add_zero]at e;rw[e]at j;exact j
 have aP:g<w.heap.size:=C.lt;have H:ae (λr=>r=g) w S:=(G.aa _).trans U;have ay:=br O U λr f he=>by have he:r=g:=he;have:=P r f;omega
 have az:=am H (λr _ h=>.inr h) j (mV (R:=aB) ay) λr f=>.inr (P r f);have W:∀r,r<w.heap.size->r=g->A9 0 r/\r<w.heap.size:=λr f h=>by rw[h];exact ai
 obtain⟨cq,aA,aD⟩:=J.oi (u':={u with vars:=u.vars.set i {x with mask:=m}}) (λq r h=>h.2) (v:=Y) (by rw[L];rfl) H W (by show bl _ _ _ _ ((u.vars.set i {x with mask:=m}).map ax);rw[U5];exact az) rfl (pC B rfl) (pC B rfl) rfl rfl;refine ap _ ⟨H.mono λr f h=>.inl ⟨0,(W r f h).1⟩,cq,cs,aA,λq r f=>?_⟩;rcases aD q r f with⟨aE,h⟩|h
 .exact .inl ⟨aE,h.1⟩
 .exact .inr h
end
def fR(s:am)(sc:Λ)(pos:Int)(v:Int):Nat->Nat->Λ->List (Λ)
 |0,_,tl=>[tl]
 |m+1,p,tl=>if(p:Int)=pos then fR s sc pos v m (p+1) (tl.set p v)else(bB s (sc.getD p 0)).flatMap λx=>fR s sc pos v m (p+1) (tl.set p x)
theorem tL{α:Type}{l:List α}{p:Nat}{x:α}(h:p<l.length):(l.set p x).take (p+1)=l.take p++[x]:=by
 rw[r8,c9 h,List.take_set_of_le (o5 _)];rfl
theorem q9{s:am}{sc:Λ}{pos:Nat}{v:Int}:∀(m p:Nat)(tl:Λ),sc.length=p+m->tl.length=sc.length->fR s sc pos v m p tl=(ix (jp s pos v (sc.drop p) p)).map (tl.take p++ ·)
 |0,p,tl,h1,a=>by
  rw[List.drop_eq_nil_of_le Ω,j9 Ω];unfold fR jp ix;rw[List.map_singleton,U9]
 |m+1,p,tl,h1,a=>by
  have e:p<sc.length:=Ω
  obtain⟨u,hu⟩:=aD (l:=sc) e;have h:sc.drop p=u::sc.drop (p+1):=by rw[X8 e,(x5.1 hu).2]
  have j:sc.getD p 0=u:=by rw[u4,hu];rfl
  rw[h];unfold fR jp;rw[ix];by_cases f:p=pos
  .rw[if_pos Ω,if_pos f,List.flatMap_singleton,q9 m (p+1) (tl.set p v) Ω (by rw[Z9];exact a),R2,tL Ω];refine List.map_congr_left λr _=>?_;simp
  .rw[if_neg Ω,if_neg f,j,List.map_flatMap];congr 1;funext x;rw[q9 m (p+1) (tl.set p x) Ω (by rw[Z9];exact a),R2,tL Ω];refine List.map_congr_left λr _=>?_;simp
theorem PT{s:am}{sc:Λ}{m p:Nat}(h1:sc.length=p+m)(e:tl.length=sc.length)(f:a.length=sc.length)(h:a.take p=tl.take p):fR s sc pos v m p a=fR s sc pos v m p tl:=by
 rw[q9 m p tl h1 e,q9 m p a h1 f,h]
theorem PU{s:am}{sc:Λ}(h:tl.length=sc.length):fR s sc pos v sc.length 0 tl=cm s sc pos v:=by
 rw[q9 sc.length 0 tl Ω h];unfold cm;simp
def m4(w:x4)(ab gs bL bp a1:Nat)(aL:x3)(pos v:Int):Prop:=ad w gs eh [Γ ab]/\ad w bL an [aL]/\ad w bp ag [Δ pos]/\ad w a1 ag [Δ v]
theorem m4.aa{S:af}{ab gs bL bp a1:Nat}{aL:x3}{pos:Int}(h:m4 w ab gs bL bp a1 aL pos v)(a:ae S w w')(e:¬S gs/\¬S bL/\¬S bp/\¬S a1):m4 w' ab gs bL bp a1 aL pos v:=
 ⟨h.1.aa a e.1,h.2.1.aa a e.2.1,h.2.2.1.aa a e.2.2.1,h.2.2.2.aa a e.2.2.2⟩
theorem m4.ext{ab gs bL bp a1:Nat}{aL:x3}{pos:Int}(h:m4 w ab gs bL bp a1 aL pos v)(a:Ext w w'):m4 w' ab gs bL bp a1 aL pos v:=h.aa (a.aa λ_=>False) ⟨id,id,id,id⟩
def gi(ab ac:Nat)(R:af)(n:aK)(s:am)(gs bL bp a1:Nat)(aL:x3)(sc:Λ)(pos v:Int)(B0:Nat)(D:Nat->Prop)(w:x4):Prop:=
 m4 w ab gs bL bp a1 aL pos v/\(gs<B0/\bL<B0/\bp<B0/\a1<B0)/\aH .i64 w aL sc/\(∀r,leads aL r->r<B0)/\(Laid w/\B0<=w.heap.size)/\∃A s' bn,bH w ab ac A R n s' bn/\(∀i,bB s' i=bB s i)/\∀r,A r\/R r->r<B0\/D r
section
variable{ab ac gs bL bp a1 B0:Nat}{R:af}{n:aK}{s:am}{aL:x3}{sc:Λ}{pos v:Int}
theorem gi.ext(h:gi ab ac R n s gs bL bp a1 aL sc pos v B0 D w)(a:Ext w w'):gi ab ac R n s gs bL bp a1 aL sc pos v B0 D w':=by
 obtain⟨h1,f,j,p,e,A,s',bn,q,r,x⟩:=h;exact⟨h1.ext a,f,j.ext a,p,⟨e.1.ext a,X0 e.2 a.size⟩,A,s',bn,q.ext a,r,x⟩
def j1(w:x4)(l gy gt gtb ga:Nat)(ho:Array x3)(q:Nat)(tl:Λ):Prop:=ad w gy zt [.func (.yield l) #[] #[]]/\ad w gtb an [.slice (σ ⟨gt,0,ν⟩) q q]/\ad w ga oK [.func (.func lO) #[] ho]/\
 aq .i64 ag w gt (.slice (σ ⟨gt,0,ν⟩) q q) tl
theorem j1.aa{S:af}{l q:Nat}{ho:Array x3}(h:j1 w l gy gt gtb ga ho q tl)(f:ae S w w')(j:¬S gy/\¬S gtb/\¬S ga/\¬S gt):j1 w' l gy gt gtb ga ho q tl:=
 ⟨h.1.aa f j.1,h.2.1.aa f j.2.1,h.2.2.1.aa f j.2.2.1,br h.2.2.2 f λr p=>by
  obtain⟨a,_,_,e,s⟩:=p;cases e;rw[<-s];exact j.2.2.2⟩
theorem j1.ext{l q:Nat}{ho:Array x3}(h:j1 w l gy gt gtb ga ho q tl)(a:Ext w w'):j1 w' l gy gt gtb ga ho q tl:=h.aa (a.aa λ_=>False) ⟨id,id,id,id⟩
theorem PV(I:aH .i64 w aL sc):ai x8 zm [Γ ab,aL,Δ pos,Δ v] w λr w'=>Ext w w'/\∃gs bL bp a1,r= .func (.func lN) #[] #[Γ bL,Γ bp,Γ a1,Γ gs]/\m4 w' ab gs bL bp a1 aL pos v/\w.heap.size<=gs/\w.heap.size<=bL/\w.heap.size<=bp/\w.heap.size<=a1:=by
 obtain⟨_,_,_,x⟩:=cY I;refine ay func206 ?_;refine bk λgs J z s h=>?_;refine bk λbL U A j a=>?_;refine bk λbp B C e p=>?_;refine bk λa1 q E f y=>?_;have h:ad q gs eh [Γ ab]:=((ad.ext h j).ext e).ext f;have a:ad q bL an [aL]:=by rw[x]at a ⊢;exact(ad.ext a e).ext f
 have p:ad q bp ag [Δ pos]:=ad.ext p f;rw[kV];have G:=s.size;have H:=j.size;have z3:=e.size;exact⟨((s.trans j).trans e).trans f,gs,bL,bp,a1,rfl,⟨h,a,p,y⟩,Ω,Ω,Ω,Ω⟩
theorem gi.own{S:af}(h:gi ab ac R n s gs bL bp a1 aL sc pos v B0 D w)(j:ae S w w')(q:∀r,S r->B0<=r/\¬D r):gi ab ac R n s gs bL bp a1 aL sc pos v B0 D w':=by
 obtain⟨h1,f,C,x,y,A,s',bn,z,E,B⟩:=h;have no:∀{r:Nat},r<B0->¬S r:=λh1 f=>by have:=(q _ f).1;omega
 refine⟨h1.aa j ⟨no f.1,no f.2.1,no f.2.2.1,no f.2.2.2⟩,f,hX C j λr p a n c e F=>?_,x,⟨?_,X0 y.2 j.size⟩,A,s',bn,⟨z.1.aa j λr _ p I=>?_,z.2⟩,E,B⟩
 .exact no (x r ⟨a,n,c,e,F⟩) p
 .exact hP j (no Ω) y.1
 .exact (B r p).elim (λh=>no h I) (q r I).2
def PW(P:(Nat->Prop)->x4->Prop)(aw:(Nat->Prop)->Nat->x4->Prop)(L:List (Λ))(l B:Nat):Prop:=∀(D:Nat->Prop)(k:Nat)tl aO w',(∀r,D r->B<=r/\r<w'.heap.size)->B<=w'.heap.size->P D w'->L[k]?=σ tl->aH .i64 w' aO tl->aw D k w'->
 hJ x8 l [aO] w' λu a=>u= .bool true/\(∃D',(∀r,D' r->D r\/w'.heap.size<=r/\r<a.heap.size)/\(∀r,D r->D' r)/\P D' a/\aw D' (k+1) a)/\cJ w' a/\w'.heap.size<=a.heap.size/\ae (λr=>r<B\/D r) w' a
def ra(D:Nat->Prop)(B gy gtb ga gt:Nat):Prop:=(B<=gy/\¬D gy)/\(B<=gtb/\¬D gtb)/\(B<=ga/\¬D ga)/\B<=gt/\¬D gt
theorem ra.go{D':Nat->Prop}{B m bV:Nat}(h:ra D B gy gtb ga gt)(a:∀r,D' r->D r\/m<=r/\r<bV)(hm:gy<m/\gtb<m/\ga<m/\gt<m):ra D' B gy gtb ga gt:=
 have f:∀{g:Nat},g<m->¬D g->¬D' g:=λh1 e j=>(a _ j).elim e λh=>Ω
 ⟨⟨h.1.1,f hm.1 h.1.2⟩,⟨h.2.1.1,f hm.2.1 h.2.1.2⟩,⟨h.2.2.1.1,f hm.2.2.1 h.2.2.1.2⟩,h.2.2.2.1,f hm.2.2.2 h.2.2.2.2⟩
theorem j1.lt{l q:Nat}{ho:Array x3}(h:j1 w l gy gt gtb ga ho q tl):gy<w.heap.size/\gtb<w.heap.size/\ga<w.heap.size/\gt<w.heap.size:=
 ⟨h.1.lt,h.2.1.lt,h.2.2.1.lt,(bR h.2.2.2 ⟨_,_,_,rfl,rfl⟩).2⟩
def AtR(l gy gt gtb ga:Nat)(ho:Array x3)(P:(Nat->Prop)->x4->Prop)(aw:(Nat->Prop)->Nat->x4->Prop)(S:af)(D:Nat->Prop)(w:x4)(sl k p:Nat)(tl:Λ)(w':x4):Prop:=
 w.heap.size<=w'.heap.size/\∃D' a,a.length=sl/\a.take p=tl.take p/\j1 w' l gy gt gtb ga ho sl a/\((∀r,D' r->D r\/w.heap.size<=r/\r<w'.heap.size)/\∀r,D r->D' r)/\P D' w'/\aw D' k w'/\ae S w w'
section
variable{l gy gt gtb ga B:Nat}{ho:Array x3}{P:(Nat->Prop)->x4->Prop}{aw:(Nat->Prop)->Nat->x4->Prop}{S T:af}{D:Nat->Prop}{w J U:x4}{sl k p:Nat}{tl:Λ}
theorem AtR.own(s:∀D T J U,ae T J U->(∀r,T r->B<=r/\¬D r)->P D J->P D U)(x:∀D k J U,ae (λr=>B<=r/\¬D r) J U->fy B J U->aw D k J->aw D k U)(h:AtR l gy gt gtb ga ho P aw S D w sl k p tl J)(e:ae T J U)(y:fy B J U)(a:∀r,T r->r<w.heap.size/\¬D r/\B<=r/\S r/\r≠gy/\r≠gtb/\r≠ga/\r≠gt):AtR l gy gt gtb ga ho P aw S D w sl k p tl U:=by
 obtain⟨z,D',A,h1,C,E,⟨j,F⟩,G,H,I⟩:=h;have q:∀r,T r->B<=r/\¬D' r:=λr f=>⟨(a r f).2.2.1,λK=>(j r K).elim (a r f).2.1 λh=>by have:=(a r f).1;omega⟩;exact⟨X0 z e.size,D',A,h1,C,E.aa e ⟨λh=>(a _ h).2.2.2.2.1 rfl,λh=>(a _ h).2.2.2.2.2.1 rfl,λh=>(a _ h).2.2.2.2.2.2.1 rfl,λh=>(a _ h).2.2.2.2.2.2.2 rfl⟩,
  ⟨λr f=>(j r f).imp id λh=>⟨h.1,T5 h.2 e.size⟩,F⟩,s D' T J U e q G,x D' k J U (e.mono λr _ h=>q r h) y H,I.trans (e.mono λr _ h=>(a r h).2.2.2.1)⟩
theorem AtR.base{w0:x4}(h:AtR l gy gt gtb ga ho P aw S D w sl k p tl J)(a:Ext w0 w)(e:∀r,r<w0.heap.size->S r->T r):AtR l gy gt gtb ga ho P aw T D w0 sl k p tl J:=by
 obtain⟨f,D',j,h1,q,s,⟨x,y⟩,z,A,B⟩:=h;exact⟨X0 a.size f,D',j,h1,q,s,⟨λr C=>(x r C).imp id λh=>⟨X0 a.size h.1,h.2⟩,y⟩,z,A,((a.aa S).trans B).mono e⟩
theorem AtR.comp{a:Nat->Prop}{j:Λ}{x:Int}(f:∀r,r<B\/D r\/r=gt->S r)(q:∀r,a r->D r\/w.heap.size<=r/\r<J.heap.size)(y:∀r,D r->a r)(s:ae S w J)(z:j.take p=tl.take p)(h:AtR l gy gt gtb ga ho P aw (λr=>r<B\/a r\/r=gt) a J sl k (p+1) (j.set p x) U):AtR l gy gt gtb ga ho P aw S D w sl k p tl U:=by
 obtain⟨A,D',C,h1,E,F,⟨G,H⟩,K,L,M⟩:=h;have I:=s.size;refine⟨X0 I A,D',C,h1,?_,F,⟨λr e=>?_,λr e=>H r (y r e)⟩,K,L,?_⟩
 .have:=congrArg (List.take p) E;rw[List.take_take,List.take_take,Nat.min_eq_left Ω,List.take_set_of_le (o5 _)]at this;rw[this,z]
 .rcases G r e with h|h
  .exact (q r h).imp id λh=>⟨h.1,Ω⟩
  .exact .inr ⟨Ω,h.2⟩
 .refine ((s.mono λr _ h=>.inl h).trans (M.mono λr _ h=>?_):ae (λr=>S r\/w.heap.size<=r) w U).mono λr e h=>h.elim id λh=>Ω
  rcases h with h|h|h
  .exact .inl (f r (.inl h))
  .exact (q r h).elim (λh=>.inl (f r (.inr (.inl h)))) λh=>.inr h.1
  .exact .inl (f r (.inr (.inr h)))
end
theorem PX{α β:Type}{l:List α}{a:α->List β}{i:Nat}{y:α}{z:β}(h:l[j]?=σ y)(hi:(a y)[i]?=σ z):(l.flatMap a)[((l.take j).flatMap a).length+i]?=σ z:=by
 have f:=(x5.1 h).1;have e:l=l.take j++y::l.drop (j+1):=by
  conv=>lhs;rw[<-List.take_append_drop j l,X8 f,(x5.1 h).2]
 conv=>lhs;rw[e,List.flatMap_append,V4]
 have p:=(x5.1 hi).1;have el:((l.take j++y::l.drop (j+1)).take j)=l.take j:=by rw[List.take_append_of_le_length (by rw[n9];omega),List.take_take,Nat.min_self]
 rw[el,Y3 Ω,R4,Y1 p];exact hi
theorem PY{t:r9}{b o:Nat}{x:x3}{K:x3->Prop}(a:jC x8 t=true)(h:w.cell? ⟨b,o,ν⟩=σ x):V x8 (do loadVar t (<-asAddr (.pointer (σ ⟨b,o,ν⟩)))) w K=K x:=V.of λw' e=>by
 have h':=iG e h;unfold jC at a;cases hu:x8.underlying t with
 |none=>rw[hu]at a;cases a
 |some d=>
  rw[hu]at a;cases d<;>first|(cases a;done)|simp[asAddr,loadVar,isAgg,run_underlying hu,h']
def j2(bL gy gtb bp a1 ga gs:Nat):Array x3:=#[Γ bL,Γ gy,Γ gtb,Γ bp,Γ a1,Γ ga,Γ gs]
def tM(p:Nat)(bL gy gtb bp a1 ga gs:Nat):List x3:=[Δ (p:Int),Γ bL,Γ gy,Γ gtb,Γ bp,Γ a1,Γ ga,Γ gs]
theorem PZ{l B:Nat}{L:List (Λ)}{aw:(Nat->Prop)->Nat->x4->Prop}(bY:0<=pos)(bZ:∀u∈sc,0<=u/\u<n.sizes.length)(c4:sc.length<=6)(b0:B0<=B)(ah:gt≠gy/\gt≠gtb/\gt≠ga)(Q:∀D k J U,ae (λr=>B<=r/\¬D r) J U->fy B J U->aw D k J->aw D k U)(b1:PW (gi ab ac R n s gs bL bp a1 aL sc pos v B0) aw L l B):
  ∀(q p:Nat)(tl:Λ)(k:Nat)(D:Nat->Prop)(w:x4),sc.length=p+q->tl.length=sc.length->(∀r,D r->B<=r/\r<w.heap.size)->B<=w.heap.size->ra D B gy gtb ga gt->j1 w l gy gt gtb ga (j2 bL gy gtb bp a1 ga gs) sc.length tl->gi ab ac R n s gs bL bp a1 aL sc pos v B0 D w->aw D k w->
   (∀i x,(fR s sc pos v q p tl)[i]?=σ x->L[k+i]?=σ x)->
   ai x8 lO (tM p bL gy gtb bp a1 ga gs) w λr w'=>r= .bool true/\AtR l gy gt gtb ga (j2 bL gy gtb bp a1 ga gs) (gi ab ac R n s gs bL bp a1 aL sc pos v B0) aw (λr=>r<B\/D r\/r=gt) D w sc.length (k+(fR s sc pos v q p tl).length) p tl w':=by
 obtain⟨f,rfl⟩:=U6 bY;have ak:∀D T J U,ae T J U->(∀r,T r->B<=r/\¬D r)->gi ab ac R n s gs bL bp a1 aL sc f v B0 D J->gi ab ac R n s gs bL bp a1 aL sc f v B0 D U:=λD T J U aW bm h=>h.own aW λr z=>⟨X0 b0 (bm r z).1,(bm r z).2⟩;have aX:∀{N:x4}{K:x3->Prop},ad N bL an [aL]->K aL->V x8 (u5 an (Γ bL)) N K:=λaZ a2=>by rw[aF (v:=aL) Ψ (aZ.Qz rfl)];exact a2
 have a6:∀{a7 p:Nat}{tl:Λ}{D:Nat->Prop}{w U N:x4}{a:Nat}{b:Bool},Ext w U->w.heap.size<=a->a<U.heap.size->(∀r,D r->B<=r/\r<w.heap.size)->B<=w.heap.size->(gy<w.heap.size/\gtb<w.heap.size/\ga<w.heap.size/\gt<w.heap.size)->
   AtR l gy gt gtb ga (j2 bL gy gtb bp a1 ga gs) (gi ab ac R n s gs bL bp a1 aL sc f v B0) aw (λr=>r<B\/D r\/r=gt\/r=a) D U sc.length a7 p tl N->ad N a eb [.bool b]->
   aC x8 (o8 eb (Γ a) (.bool true)) N λ(_:Unit)aJ=>V x8 (do loadVar eb (<-asAddr (Γ a))) aJ λr=>ul w.heap.size aJ λbo=>r= .bool true/\AtR l gy gt gtb ga (j2 bL gy gtb bp a1 ga gs) (gi ab ac R n s gs bL bp a1 aL sc f v B0) aw (λr=>r<B\/D r\/r=gt) D w sc.length a7 p tl bo:=by
  intro a7 p tl D w U N a b H br al C am au a8 ba;have b2:∀r,r=a->r<U.heap.size/\¬D r/\B<=r/\(r<B\/D r\/r=gt\/r=a)/\r≠gy/\r≠gtb/\r≠ga/\r≠gt:=by
   rintro r rfl;exact⟨al,λh=>by have:=(C _ h).2;omega,Ω,.inr (.inr (.inr rfl)),Ω,Ω,Ω,Ω⟩
  refine aC.cu (bq eb.i rfl rfl ba Ξ λaJ b3 c5 bd b4=>?_);have bd:ad aJ a eb [.bool true]:=bd;have b5:=a8.own ak Q b3 b4.o b2;rw[PY (x:=.bool true) Ψ (bd.Qz rfl)];intro bo b6 b7;refine⟨rfl,((b5.own ak Q (b6.aa λ_=>False) (b7.2.mono am) λ_ h=>h.elim).base H λr z h=>?_)⟩;rcases h with h|h|h|h
  .exact .inl h
  .exact .inr (.inl h)
  .exact .inr (.inr h)
  .omega
 intro q;induction q with
 |zero=>
  intro p tl k D w b8 av C am E ay be bf az;refine iF func250 ?_;refine aC.cu (bk λg1 J b9 aA G bg=>?_);refine aC.cu (bw eb.i λa U br Y O bh=>?_);have H:=aA.trans Y;have ca:=aA.size;have cb:=Y.size;have G:ad U g1 ag [Δ (p:Int)]:=ad.ext G Y;have O:ad U a eb [.bool false]:=O;have al:=O.lt;have aK:=Q D k w U (H.aa _) (bg.trans bh).o bf;have M:=be.ext H;have I:=ay.ext H;rw[aF (v:=Δ (p:Int)) Ψ (G.Qz rfl)];refine aX M.1.2.1 ?_;rw[aV an.u M.2.2.1,bb,aj];refine⟨λ_=>?_,λh=>absurd Ω h⟩;rw[aF (v:=.func (.yield l) #[] #[]) Ψ (I.1.Qz rfl),aF (v:=.slice (σ ⟨gt,0,ν⟩) sc.length sc.length) Ψ (I.2.1.Qz rfl)];have cc:L[k]?=σ tl:=az 0 tl rfl;refine(show hJ x8 l [.slice (σ ⟨gt,0,ν⟩) sc.length sc.length] U _ from hJ.mono (b1 D k tl _ U (λr z=>⟨(C r z).1,by have:=(C r z).2;omega⟩) Ω M cc I.2.2.2.ls aK) ?_);rintro _ bt ⟨rfl,⟨D',d1,d2,cd,ce⟩,cg,ch,bi⟩;refine⟨cg,?_⟩;have au:=ay.lt;have aN:∀{g:Nat},w.heap.size<=g->¬D g:=λh1 aB=>by have:=(C _ aB).2;omega
  have aE:∀{g:Nat},B<=g->¬D g->¬(g<B\/D g):=λh1 aB ci=>ci.elim Ω aB;have ba:ad bt a eb [.bool false]:=O.aa bi (aE Ω (aN Ω));have a8:AtR l gy gt gtb ga (j2 bL gy gtb bp a1 ga gs) (gi ab ac R n s gs bL bp a1 aL sc f v B0) aw (λr=>r<B\/D r\/r=gt\/r=a) D U sc.length (k+1) p tl bt:=
   ⟨ch,D',tl,av,rfl,I.aa bi ⟨aE E.1.1 E.1.2,aE E.2.1.1 E.2.1.2,aE E.2.2.1.1 E.2.2.1.2,aE E.2.2.2.1 E.2.2.2.2⟩,⟨d1,d2⟩,cd,ce,bi.mono λr _ h=>h.imp id .inl⟩
  exact a6 H Ω al C am au a8 ba
 |succ q bu=>
  intro p tl k D w b8 av C am E ay be bf az;refine iF func250 ?_;refine aC.cu (bk λg1 J b9 aA G bg=>?_);refine aC.cu (bw eb.i λa U br Y O bh=>?_);have H:=aA.trans Y;have ca:=aA.size;have cb:=Y.size;have G:ad U g1 ag [Δ (p:Int)]:=ad.ext G Y;have O:ad U a eb [.bool false]:=O;have al:=O.lt;have h1:=G.lt;have aK:=Q D k w U (H.aa _) (bg.trans bh).o bf;have M:=be.ext H;have I:=ay.ext H;have au:=ay.lt;have aN:∀{g:Nat},w.heap.size<=g->¬D g:=λh1 aB=>by have:=(C _ aB).2;omega
  rw[aF (v:=Δ (p:Int)) Ψ (G.Qz rfl)];refine aX M.1.2.1 ?_;rw[aV an.u M.2.2.1,bb,aj];refine⟨λh=>absurd h Ω,λ_=>?_⟩;rw[aF (v:=Δ (p:Int)) Ψ (G.Qz rfl),aF (v:=Δ (f:Int)) Ψ (M.1.2.2.1.Qz rfl),bb,aj];have bx:∀{N:x4}{K:x3->Prop},ad N gtb an [.slice (σ ⟨gt,0,ν⟩) sc.length sc.length]->K (.slice (σ ⟨gt,0,ν⟩) sc.length sc.length)->V x8 (u5 an (Γ gtb)) N K:=λaZ a2=>by rw[aF (v:=.slice (σ ⟨gt,0,ν⟩) sc.length sc.length) Ψ (aZ.Qz rfl)];exact a2
  have aO:∀{D:Nat->Prop}(r:Nat),ra D B gy gtb ga gt->r=gt->B<=r/\¬D r:=λr h e=>e▸⟨h.2.2.2.1,h.2.2.2.2⟩;refine⟨λhe=>?_,λcj=>?_⟩
  .refine bx I.2.1 ?_;rw[aF (v:=Δ (p:Int)) Ψ (G.Qz rfl),aF (v:=Δ v) Ψ (M.1.2.2.2.Qz rfl),hV rfl an.u ag.i I.2.2.2 Ω];refine aC.cu (hW ag.i I.2.2.2 Ω λao X c6 ck cl=>?_);have bz:j1 ao l gy gt gtb ga (j2 bL gy gtb bp a1 ga gs) sc.length (tl.set p v):=⟨I.1.aa X λh=>ah.1 h.symm,I.2.1.aa X λh=>ah.2.1 h.symm,I.2.2.1.aa X λh=>ah.2.2 h.symm,ck⟩;have cm:=ak D _ _ _ X (λr h=>aO r E h) M;have cn:=Q D k U ao (X.mono λr _ h=>aO r E h) cl.o aK;have cp:ad ao g1 ag [Δ (p:Int)]:=G.aa X Ω;have cq:ad ao a eb [.bool false]:=O.aa X Ω;rw[aF (v:=.func (.func lO) #[] (j2 bL gy gtb bp a1 ga gs)) Ψ (bz.2.2.1.Qz rfl),aF (v:=Δ (p:Int)) Ψ (cp.Qz rfl),aM,wrap_i64 Ω Ω];have hw:fR s sc f v (q+1) p tl=fR s sc f v q (p+1) (tl.set p v):=by rw[fR,if_pos he]
   rw[hw];rw[hw]at az;refine(show ai x8 lO (tM (p+1) bL gy gtb bp a1 ga gs) ao _ from ai.mono (bu (p+1) (tl.set p v) k D ao Ω (by rw[Z9];exact av) (λr z=>⟨(C r z).1,by have:=(C r z).2;omega⟩) Ω E bz cm cn az) ?_);rintro _ cr c7 ⟨rfl,bA⟩;have ct:ad cr a eb [.bool false]:=by
    obtain⟨_,_,_,_,_,_,_,_,_,cw⟩:=bA;exact cq.aa cw λh=>by
     rcases h with h|h|h
     .omega
     .exact aN Ω h
     .omega
   exact a6 H Ω al C am au (AtR.comp (λr h=>h.imp id λh=>h.imp id .inl) (λr h=>.inl h) (λ_ h=>h) (X.mono λr _ h=>.inr (.inr (.inl h))) rfl bA) ct
  intro c8 aP _ cz;have aQ:=M.ext aP;obtain⟨A,s',bn,bC,cA,c9⟩:=id aQ.2.2.2.2.2;obtain⟨u,hu⟩:=aD (l:=sc) (i:=p) Ω;obtain⟨cB,da⟩:=bZ u (x6 hu);have db:=bC.2.2.2.1.vars;obtain⟨x,bD⟩:=aD (l:=s'.vars) (i:=u.toNat) Ω;rw[aF (v:=Γ ab) Ψ (aQ.1.1.Qz rfl)];refine aX aQ.1.2.1 ?_;rw[aF (v:=Δ (p:Int)) Ψ ((G.ext aP).Qz rfl),bc an.u ag.i Ψ aQ.2.2.1 hu];refine(jW (i:=u) bC).mono ?_;rintro _ dc cC ⟨⟨b,cD,rfl,bE⟩,bF⟩;refine(nJ (b:=b) (n:=cD)).mono ?_;rintro _ aR cE ⟨cF,bG,rfl,dd,bH⟩;have bI:=mb bE cB bD;have cG:bB s (sc.getD p 0)=ax x:=by
   rw[<-cA,u4,hu,V2];unfold bB;rw[bD]
  have bK:fR s sc f v (q+1) p tl=(ax x).flatMap λy=>fR s sc f v q (p+1) (tl.set p y):=by rw[fR,if_neg cj,cG]
  have Z:=(aP.trans bF).trans cF;have cH:=(cz.trans cC).trans cE;have z12:=Z.size;have de:=(aP.trans bF).size;have df:=bH.lt;have bM:B<=aR.heap.size:=Ω
  have cI:=Q D k U aR (Z.aa _) cH.o aK;have bN:=M.ext Z;have bO:=I.ext Z;refine⟨Nat,false,false,jz,#[Γ bG],0,_,_,λ_=>_,λ_ j w'=>AtR l gy gt gtb ga (j2 bL gy gtb bp a1 ga gs) (gi ab ac R n s gs bL bp a1 aL sc f v B0) aw (λr=>r<B\/D r\/r=gt) D aR sc.length (k+(((ax x).take j).flatMap λy=>fR s sc f v q (p+1) (tl.set p y)).length) p tl w'/\ad w' g1 ag [Δ (p:Int)]/\ad w' a eb [.bool false],
   λ_ _ _ _=>False,rfl,(nI (g:=bG) bE.1).s.x,?_,λ_ _ _ ap h=>⟨h.1.ext ap,h.2.ext ap⟩,?_,λ_ _ _ _ _ _ _ h=>h,⟨bH,bN.2.2.2.2.1.1⟩,?_,?_,?_,λ_ _ _ h=>h.elim,λ_ _ _ _ h=>h.elim⟩
  .rintro _ _ _ _ ⟨_,_,_,_,rfl⟩;rfl
  .rintro _ j dg dh aW cJ ⟨af,aG,P⟩;have ap:=aW.ext λ_ _ h=>nomatch h.1;exact⟨af.own ak Q (ap.aa λ_=>False) (cJ.mono bM) λ_ h=>h.elim,aG.ext ap,P.ext ap⟩
  .exact⟨⟨o5 _,D,tl,av,rfl,bO,⟨λ_ h=>.inl h,λ_ h=>h⟩,bN,by simpa using cI,ae.refl _ _⟩,G.ext Z,O.ext Z⟩
  .rintro _ _ j _ di _ _ ⟨cK,dj⟩ ⟨dk,rfl,y,cL,cM⟩ ⟨cN,bP,cO⟩;cases cM;intro bQ aH cP _;have bR:(ax x)[j]?=σ (y:Int):=by rw[<-bI,v8,cL];rfl
   have cQ:=cN.own ak Q (aH.aa λ_=>False) (cP.2.mono bM) λ_ h=>h.elim;obtain⟨dl,aI,aS,af,aG,P,⟨aT,cR⟩,cS,cT,cU⟩:=cQ;have cV:=bO.lt;have bj:=E.go aT cV;have bS:∀r,aI r->B<=r/\r<bQ.heap.size:=λr z=>(aT r z).elim (λh=>⟨(C r h).1,by have:=(C r h).2;omega⟩) λh=>⟨Ω,h.2⟩;refine bx P.2.1 ?_;rw[aF (v:=Δ (p:Int)) Ψ ((bP.ext aH).Qz rfl),hV rfl an.u ag.i P.2.2.2 Ω];refine aC.cu (hW ag.i P.2.2.2 Ω λaq W dm cW cX=>?_);have bT:j1 aq l gy gt gtb ga (j2 bL gy gtb bp a1 ga gs) sc.length (aS.set p y):=⟨P.1.aa W λh=>ah.1 h.symm,P.2.1.aa W λh=>ah.2.1 h.symm,P.2.2.1.aa W λh=>ah.2.2 h.symm,cW⟩;have cY:=ak aI _ _ _ W (λr h=>aO r bj h) cS;have cZ:=Q aI _ bQ aq (W.mono λr _ h=>aO r bj h) cX.o cT;have bU:ad aq g1 ag [Δ (p:Int)]:=(bP.ext aH).aa W Ω;have c0:ad aq a eb [.bool false]:=(cO.ext aH).aa W Ω;have c1:=(cK.ext aH).aa W Ω;rw[aF (v:=.func (.func lO) #[] (j2 bL gy gtb bp a1 ga gs)) Ψ (bT.2.2.1.Qz rfl),aF (v:=Δ (p:Int)) Ψ (bU.Qz rfl),aM,wrap_i64 Ω Ω];have bV:fR s sc f v q (p+1) (aS.set p (y:Int))=fR s sc f v q (p+1) (tl.set p (y:Int)):=PT Ω (by rw[Z9];exact av) (by rw[Z9];exact af) (by rw[tL Ω,tL Ω,aG]);refine(show ai x8 lO (tM (p+1) bL gy gtb bp a1 ga gs) aq _ from ai.mono (bu (p+1) (aS.set p y) _ aI aq Ω (by rw[Z9];exact af) (λr z=>⟨(bS r z).1,by have:=(bS r z).2;omega⟩) Ω bj bT cY cZ λi dn hi=>?_) ?_)
   .rw[bV]at hi;rw[R3];refine az _ _ ?_;rw[bK];exact PX bR hi
   rintro _ dp dq ⟨rfl,bW⟩;rw[bJ,Y9,aY];have bX:=AtR.comp (S:=λr=>r<B\/D r\/r=gt) (λr h=>h) (λr h=>(aT r h).imp id λh=>⟨h.1,Ω⟩) cR (cU.trans (W.mono λr _ h=>.inr (.inr h))) aG bW;obtain⟨_,_,_,_,_,_,_,c2,_,bl⟩:=bW;have aU:∀{g:Nat},w.heap.size<=g->g<aR.heap.size->¬(g<B\/aI g\/g=gt):=λc3 dr h=>by
    rcases h with h|h|h
    .omega
    .exact (aT _ h).elim (aN c3) λh=>Ω
    .omega
   refine⟨⟨c1.aa bl (aU Ω Ω),c2.2.2.2.2.1.1⟩,⟨?_,bU.aa bl (aU Ω Ω),c0.aa bl (aU Ω Ω)⟩,λh=>by cases h⟩;have e:k+(((ax x).take j).flatMap λy=>fR s sc f v q (p+1) (tl.set p y)).length+(fR s sc f v q (p+1) (aS.set p (y:Int))).length=k+(((ax x).take (j+1)).flatMap λy=>fR s sc f v q (p+1) (tl.set p y)).length:=by
    rw[bV,r8,bR,l7,List.flatMap_append,List.flatMap_singleton,o7];omega
   rw[e]at bX;exact bX
  .rintro _ j ds rfl ⟨af,aG,P⟩;rw[j9 (by rw[<-bI,u7];exact o5 _),<-bK]at af;exact a6 H Ω al C am au (af.base Z λr _ h=>h.imp id λh=>h.imp id .inl) P
end
section
variable{ab ac gs bL bp a1 B0:Nat}{R:af}{n:aK}{s:am}{aL:x3}{sc:Λ}{v:Int}
theorem EF{e:Nat}(W:∀u∈sc,0<=u/\u<n.sizes.length)(X:sc.length<=6):
  pR x8 true false lN [Γ bL,Γ bp,Γ a1,Γ gs] 0 (λk=>k=(cm s sc e v).length)
   (λk vs Y w=>Y=k+1/\∃tl aO,(cm s sc e v)[k]?=σ tl/\vs=[aO]/\aH .i64 w aO tl) (gi ab ac R n s gs bL bp a1 aL sc e v B0):=by
 refine⟨lN.enters,λl aw aY w Z _ af hj ah=>?_⟩;have E:∀D k J U,ae (λr=>w.heap.size<=r/\¬D r) J U->fy w.heap.size J U->aw D k J->aw D k U:=λD k J U ai aj=>Z D k J U (ai.mono λr _ h=>⟨rfl,h⟩) aj;have I:=hj.2.2.1;have ak:=hj.2.2.2.2.1.2;obtain⟨_,_,_,aZ⟩:=cY I;refine p1 func249 ?_;refine aC.cu (bk λgy J a2 p G al=>?_);have am:∀{H:x4}{K:x3->Prop},ad H bL an [aL]->K aL->V x8 (u5 an (Γ bL)) H K:=λao ap=>by rw[aF (v:=aL) Ψ (ao.Qz rfl)];exact ap
 refine am (hj.1.2.1.ext p) ?_;rw[aV an.u (I.ext p)];refine aC.cu (jG (k:=.i64) an.u ag.i Ω Ω λgt U a6 A M au=>?_);refine aC.cu (bw an.i λgtb a7 a8 q N av=>?_);refine aC.cu (bq an.i rfl rfl N (by simp[x3.cells]) λba C bb ax ay=>?_);refine aC.cu (bw oK.i λga bc bd f O az=>?_);rw[kV];refine aC.cu (bq oK.i rfl rfl O (by simp[x3.cells]) λa y be aA aB=>?_);have bf:=p.size;have bg:=A.size;have z3:=q.size;have z5:=f.size;have bh:=G.lt;have bi:=M.lt;have bj:=N.lt;have bl:=O.lt;have aD:ad a gy zt [.func (.yield l) #[] #[]]:=(((((ad.ext G A).ext q).aa C Ω).ext f).aa y Ω);have aE:ad a gt ag (ints .i64 (o4 sc.length 0)):=((((M.ext q).aa C Ω).ext f).aa y Ω);have aG:ad a gtb an [.slice (σ ⟨gt,0,ν⟩) sc.length sc.length]:=((ad.ext ax f).aa y Ω);have P:ad a ga oK [.func (.func lO) #[] (j2 bL gy gtb bp a1 ga gs)]:=aA;rw[aF (v:=.func (.func lO) #[] (j2 bL gy gtb bp a1 ga gs)) Ψ (P.Qz rfl)];have hm:aq .i64 ag a gt (.slice (σ ⟨gt,0,ν⟩) sc.length sc.length) (o4 sc.length 0):=by
  have:=bW.full (n:=sc.length) (k:=1) aE Ξ (by simp only[maxLen];omega);unfold aq;rw[List.length_replicate];exact this
 have aI:=(p.trans A).trans q;have Q:ae (λr=>w.heap.size<=r/\¬False) w a:=(((aI.aa _).trans (C.mono λr _ h=>⟨by have h:r=gtb:=h;omega,id⟩)).trans (f.aa _)).trans (y.mono λr _ h=>⟨by have h:r=ga:=h;omega,id⟩);have aJ:cJ w a:=((((al.trans au).trans av).trans ay).trans az).trans aB;have aK:gi ab ac R n s gs bL bp a1 aL sc e v B0 (λ_=>False) a:=hj.own Q λr aM=>⟨Ω,aM.2⟩;have S:=PU (s:=s) (sc:=sc) (pos:=e) (v:=v) (tl:=o4 sc.length 0) Ξ;refine(show gI x8 lO (tM 0 bL gy gtb bp a1 ga gs) a _ from(PZ (L:=cm s sc e v) (B:=w.heap.size) (l:=l) (gy:=gy) (gt:=gt) (gtb:=gtb) (ga:=ga) (pos:=e) Ω W X ak ⟨Ω,Ω,Ω⟩ E ?_ sc.length 0 (o4 sc.length 0) 0 (λ_=>False) a Ω Ξ (λ_ h=>h.elim) Ω ⟨⟨Ω,id⟩,⟨Ω,id⟩,⟨Ω,id⟩,Ω,id⟩ ⟨aD,aG,P,hm⟩ aK (E _ _ _ _ Q aJ.o ah) λi x hi=>?_).free.mono ?_)
 .intro D k tl aO w' aN aP aQ aR aS z;refine hJ.mono (af D k (k+1) [aO] w' aN aP aQ ⟨rfl,tl,aO,aR,rfl,aS⟩ z) ?_;rintro u bm (⟨h1,aT,aU,aW,aX⟩|⟨h,_⟩)
  .exact⟨h1,aT,aU (.inr rfl),aW,aX rfl⟩
  .cases h
 .rw[S]at hi;rw[X3];exact hi
 .rintro _ bn ⟨_,rfl,_,D',_,_,_,_,_,_,z,_⟩;rw[S,X3]at z;exact .inl ⟨D',_,rfl,z⟩
end
def EG(m gs bL bp a1:Nat)(aL:x3):Prop:=(m<=gs/\m<=bL/\m<=bp/\m<=a1)/\∀r,leads aL r->m<=r
section
variable{ab ac gs bL bp a1 B0 m:Nat}{A R:af}{n:aK}{s s':am}{t:az}{aL:x3}{sc:Λ}{pos v:Int}{w w':x4}
theorem bH.lt(h:bH w ab ac A R n s t){r:Nat}(a:A r\/R r):r<w.heap.size:=by
 obtain⟨⟨j,p,q,x,⟨_,_,e,f⟩,_⟩,_⟩:=h;exact a.elim (f r) (e r)
theorem gi.put{D' S:Nat->Prop}(h:gi ab ac R n s gs bL bp a1 aL sc pos v B0 D w)(j:ae S w w')(hm:EG m gs bL bp a1 aL)(y:∀r,S r->r<m\/B0<=r)(z:Laid w')(B:bH w' ab ac A R n s' t)(C:∀i,bB s' i=bB s i)(E:∀r,A r\/R r->r<B0\/D' r):gi ab ac R n s gs bL bp a1 aL sc pos v B0 D' w':=by
 obtain⟨h1,f,p,q,F,_⟩:=h;have no:∀{r:Nat},m<=r->r<B0->¬S r:=λh1 f p=>by have:=y _ p;omega
 exact⟨h1.aa j ⟨no hm.1.1 f.1,no hm.1.2.1 f.2.1,no hm.1.2.2.1 f.2.2.1,no hm.1.2.2.2 f.2.2.2⟩,f,hX p j λr G a n c e x=>no (hm.2 r ⟨a,n,c,e,x⟩) (q r ⟨a,n,c,e,x⟩) G,q,⟨z,X0 F.2 j.size⟩,A,s',t,B,C,E⟩
theorem EH{f:cK}{y:x4->Prop}{K:x3->x4->Prop}(h:bH w ab ac A R n s t)(B:Laid w)(C:s.funs[j]?=σ f)(E:∀aL gs bL bp a1 w',Ext w w'->EG w.heap.size gs bL bp a1 aL->gi ab ac R n s gs bL bp a1 aL f.sc pos v w'.heap.size (λ_=>False) w'->K (.func (.func lN) #[] #[Γ bL,Γ bp,Γ a1,Γ gs]) w'):
  ai x8 rT [Γ ab,Δ (j:Int)] w λaL J=>(Ext w J\/y J)/\ai x8 zm [Γ ab,aL,Δ pos,Δ v] J K:=by
 refine(wR h C).mono ?_;rintro aL J _ ⟨q,g,G,hm⟩;refine⟨.inl q,(PV hm.ls).mono ?_⟩;rintro _ U _ ⟨x,gs,bL,bp,a1,rfl,a,H,I,L,M⟩;have p:=q.trans x;have N:=q.size;have z:=p.size;refine E aL gs bL bp a1 U p ⟨⟨Ω,Ω,Ω,Ω⟩,λr e=>(bR hm e).1▸G⟩ ⟨a,⟨a.1.lt,a.2.1.lt,a.2.2.1.lt,a.2.2.2.lt⟩,hm.ls.ext x,λr e=>?_,⟨B.ext p,o5 _⟩,A,s,t,h.ext p,λ_=>rfl,λr e=>.inl ?_⟩
 .have:=bR hm e;have:=x.size;omega
 .have:=h.lt e;omega
end
section
variable{k:Int}{sizes:Λ}{s:am}{f:cK}{j pos:Nat}{v:Int}{tl:Λ}
theorem xj{m:Nat}(a:s.funs[j]?=σ f)(e:f.live≠0)(hm:ck f.ah tl 0=σ (m:Int)):(iX s j tl).isSome=true/\pw s j tl=bm f.ah f.cs tl:=by
 unfold iX pw;rw[a];simp[e,hm]
end
section
variable{w:x4}{ab ac:Nat}{A R:af}{n:aK}{s:am}{t:az}
theorem P0{f:cK}(h:bH w ab ac A R n s t)(ak:Laid w)(N:s.funs[j]?=σ f)(ax:f.live≠0)(ay:∀u,f.sc[pos]?=σ u->v∈bB s u):
  ai x8 Hy [Γ ab,Δ (j:Int),Δ (pos:Int),Δ v] w λr w'=>r=Δ (md n.k s f pos v)/\Ext w w':=by
 have al:=h.2.2.2.1;have am:=x6 N;obtain⟨O,aV,_⟩:=al.funs f am;refine iF func146 ?_;refine bk λg1 J aW P y=>?_;refine bk λQ U aX K L=>?_;have y:ad U g1 eh [Γ ab]:=ad.ext y K;have L:ad U Q ag [Δ (j:Int)]:=L;rw[aF (v:=Γ ab) Ψ (y.Qz rfl)];refine(mR (h.ext (P.trans K))).mono ?_;rintro _ aY _ ⟨rfl,S⟩;refine bw ao.i λz aZ a2 V an=>?_;have a6:=P.size;have a7:=K.size;have z3:=S.size;have z4:=V.size;have a8:=y.lt;have ba:=L.lt;have bb:=an.lt;refine bq ao.i rfl rfl an (by simp[x3.cells]) λaz W bc X=>?_;have X:ad az z ao [Δ n.k]:=X;intro Y B _ _;have bd:=B.size;have ap:=S.trans V;have Z:Ext w Y:=((((P.trans K).trans S).trans V).then W (by rintro r p rfl;omega)).trans B;have ae:ad Y g1 eh [Γ ab]:=((y.ext ap).aa W Ω).ext B;have aq:ad Y Q ag [Δ (j:Int)]:=((L.ext ap).aa W Ω).ext B;have au:=X.ext B;have be:=au.lt;rw[aF (v:=Γ ab) Ψ (ae.Qz rfl),aF (v:=Γ ab) Ψ (ae.Qz rfl),aF (v:=Δ (j:Int)) Ψ (aq.Qz rfl)];refine EH (h.ext Z) (ak.ext Z) N λaL gs bL bp a1 aA C aB aD=>?_;have bf:=C.size;refine⟨Nat,true,false,lN,#[Γ bL,Γ bp,Γ a1,Γ gs],0,_,_,_,λD k w'=>Ext w w'/\ad w' g1 eh [Γ ab]/\ad w' Q ag [Δ (j:Int)]/\ad w' z ao [Δ ((((cm s f.sc pos v).take k).map (bm f.ah f.cs)).foldl min n.k)],
  λ_ _ _ _=>False,rfl,EF (λu hu=>⟨(O.scope.1 u hu).1,O.vars u hu⟩) O.scope.2,?_,λ_ _ _ aE h=>h.ext aE,?_,λ_ _ _ _ _ _ _ h=>h,aD,?_,?_,?_,λ_ _ _ h=>h.elim,λ_ _ _ _ h=>h.elim⟩
 .rintro _ _ _ _ ⟨_,_,_,_,rfl,_⟩;rfl
 .rintro D k aG aH M bg ⟨q,E,G,x⟩;have aU:∀{g:Nat}{e:r9}{cs:List x3},g<aA.heap.size->ad aG g e cs->ad aH g e cs:=λbh aI=>aI.aa M λh=>by have:=h.2.1;omega
  exact⟨q.then M λr p h=>by have:=h.2.1;omega,aU Ω E,aU Ω G,aU Ω x⟩
 .exact⟨Z.trans C,ae.ext C,aq.ext C,au.ext C⟩
 .rintro aO D k bi bj bl bn aJ ⟨rfl,tl,bo,av,e,aK⟩ ⟨q,E,G,x⟩;cases e;intro br H _ aM;obtain⟨m,hm⟩:=tE al am ay (x6 av);obtain⟨aN,M⟩:=xj N ax hm;rw[aF (v:=Γ ab) Ψ ((E.ext H).Qz rfl),aF (v:=Δ (j:Int)) Ψ ((G.ext H).Qz rfl)];refine(wN (j:=j) (h.ext (q.trans H)) (aK.ext H)).mono ?_;rintro _ bt aP ⟨rfl,aQ⟩;have a:=H.trans aQ;rw[if_pos aN,M,bz,bA,aF (v:=Δ ((((cm s f.sc pos v).take k).map (bm f.ah f.cs)).foldl min n.k)) Ψ ((x.ext a).Qz rfl),kU];refine aC.cu (bq ao.i rfl rfl (x.ext a) Ξ λaw I bu af aR=>?_);have bx:=a.size;have aj:Ext w aw:=(q.trans a).then I (by rintro r p rfl;omega);have aS:=h.ext aj;refine⟨⟨D,λr h=>.inl h,λ_ h=>h,(aJ.ext a).put I aB (λr p=>.inl (by have p:r=z:=p;omega)) (ak.ext aj) aS (λ_=>rfl) λr p=>.inl (by have:=h.lt p;omega),aj,(E.ext a).aa I Ω,(G.ext a).aa I Ω,?_⟩,aM.trans (aP.kc.trans aR.kc),(a.aa _).trans (I.mono λr _ h=>.inl (by have h:r=z:=h;omega))⟩;have af:ad aw z ao [Δ (min ((((cm s f.sc pos v).take k).map (bm f.ah f.cs)).foldl min n.k) (bm f.ah f.cs tl))]:=af;rw[r8,av,l7,Z2,R5];exact af
 .rintro D k bC rfl ⟨q,E,G,x⟩;rw[aF (v:=Δ ((((cm s f.sc pos v).take (cm s f.sc pos v).length).map (bm f.ah f.cs)).foldl min n.k)) Ψ (x.Qz rfl)];intro bD aT _;refine⟨?_,q.trans aT⟩;rw[j9 (o5 _)];rfl
end
def rb(t:az):Prop:=∀m,t.marks.getLast? =σ m->m.olds+t.cells.length<100000000/\t.olds.length<=m.olds+t.cells.countP λc=>decide (c.st=m.st)
def eC(ap:List az)(t:az):Prop:=hv t ap/\rb t
theorem hv.m{t:az}(h:hv t []):eC [] t:=⟨h,λm hm=>by rw[h.1]at hm;cases hm⟩
theorem eC.room{ap:List az}{t:az}(h:eC ap t):Room t:=by
 cases hm:t.marks.getLast? with
 |none=>exact .inl (List.getLast?_eq_none_iff.1 hm)
 |some m=>
  obtain⟨h1,a⟩:=h.2 m hm;have:=List.countP_le_length (p:=λc:Cell=>decide (c.st=m.st)) (l:=t.cells);exact .inr Ω
theorem rb.set{t:az}{i:Nat}{x:Int}(h:rb t):rb (t.set i x):=by
 unfold az.set;cases e:t.cells[i]? with
 |none=>exact h
 |some c=>
  obtain⟨f,j⟩:=x5.1 e;cases hm:t.marks.getLast? with
  |none=>
   intro m a;have a:t.marks.getLast? =σ m:=a;rw[hm]at a;cases a
  |some m=>
   obtain⟨h1,q⟩:=h m hm;simp only;split
   .rename_i r;intro bV a;have a:t.marks.getLast? =σ bV:=a;rw[hm]at a;cases a;show m.olds+(t.cells.set i _).length<_/\(t.olds++[_]).length<=m.olds+(t.cells.set i _).countP _;rw[Z9,List.countP_set f,j,o7,S3,if_neg (by rw[decide_eq_true_eq];omega),if_pos Ξ];exact⟨h1,Ω⟩
   .intro bV a;have a:t.marks.getLast? =σ bV:=a;rw[hm]at a;cases a;show m.olds+(t.cells.set i _).length<_/\t.olds.length<=m.olds+(t.cells.set i _).countP _;rw[Z9,List.countP_set f,j];refine⟨h1,?_⟩;by_cases I:c.st=m.st
    .have:=List.countP_pos_iff (p:=λc:Cell=>decide (c.st=m.st)).2 ⟨c,x6 e,decide_eq_true I⟩;rw[if_pos (decide_eq_true I)];omega
    .rw[if_neg (by rw[decide_eq_true_eq];exact I)];omega
theorem eC.set{ap:List az}{t:az}{i:Nat}{x:Int}(h:eC ap t):eC ap (t.set i x):=⟨h.1.set,h.2.set⟩
def cS(ap:List az)(w:x4)(ab ac:Nat)(A R:af)(n:aK)(s':am)(w':x4):Prop:=ae (eA w) w w'/\Laid w'/\∃aI bn,Grow A w aI w'/\bH w' ab ac aI R n s' bn/\eC ap bn/\¬aI 0
def eX(ap:List az)(w:x4)(ab ac:Nat)(A R:af)(n:aK)(m:Nat)(D:Nat->Prop)(s':am)(w':x4):Prop:=
 ae (λr=>eA w r\/w.heap.size<=r) w w'/\(Laid w'/\w.heap.size<=m/\0<w.heap.size/\(∀r,A r\/R r->r<w.heap.size))/\∃aI bn,Grow A w aI w'/\bH w' ab ac aI R n s' bn/\(eC ap bn/\¬aI 0)/\∀r,aI r->r<m\/D r
section
variable{ap:List az}{w J U:x4}{ab ac m:Nat}{A R:af}{n:aK}{s s' oo:am}{t:az}{D D' S:Nat->Prop}
theorem eX.start(h:bH w ab ac A R n s t)(f:Laid w)(j:¬A 0)(p:eC ap t)(a:Ext w J)(hm:w.heap.size<=m):eX ap w ab ac A R n m D s J:=
 ⟨a.aa _,⟨f.ext a,hm,by
  obtain⟨x,y,z,B,⟨h1,_,_,q⟩,_⟩:=h.1;have:=q _ h1;omega,λr e=>h.lt e⟩,A,t,Grow.ext a,h.ext a,⟨p,j⟩,λr e=>.inl (by have:=h.lt (.inl e);omega)⟩
theorem eX.own(h:eX ap w ab ac A R n m D s' J)(e:ae S J U)(f:∀r,S r->m<=r/\¬D r):eX ap w ab ac A R n m D s' U:=by
 obtain⟨h1,⟨s,x,y,j⟩,aI,bn,⟨g1,z,B⟩,p,C,q⟩:=h;refine⟨h1.trans (e.mono λr _ h=>.inr (by have:=(f r h).1;omega)),⟨hP e (λh=>by have:=(f _ h).1;omega) s,x,y,j⟩,aI,bn,⟨?_,z,B⟩,⟨p.1.aa e λr _ a I=>?_,p.2⟩,C,q⟩
 .exact ((g1.mono λr _ h=>.inl h).trans (e.mono λr _ h=>.inr (f r h).1):ae (λr=>A r\/m<=r) w U).mono λr a h=>h.elim id λh=>Ω
 .obtain⟨F,E⟩:=f r I;rcases a with a|a
  .exact (q r a).elim Ω E
  .have:=j r (.inr a);omega
theorem eX.ext(h:eX ap w ab ac A R n m D s' J)(a:Ext J U):eX ap w ab ac A R n m D s' U:=h.own (a.aa λ_=>False) λ_ h=>h.elim
theorem eX.EI(h:eX ap w ab ac A R n m D s' J):∃aI bn,bH J ab ac aI R n s' bn/\eC ap bn/\¬aI 0/\∀{U:x4}{oo:am}{D' a:Nat->Prop}{j:az},ae (eA J) J U->Grow aI J a U->bH U ab ac a R n oo j->eC ap j->(∀r,D r->D' r)->(∀r,J.heap.size<=r->r<U.heap.size->D' r)->
  eX ap w ab ac A R n m D' oo U/\ae (λr=>r<m\/D r) J U/\∀r,a r->r<m\/D' r:=by
 obtain⟨h1,⟨y,z,B,C⟩,aI,bn,E,F,p,q⟩:=h;refine⟨aI,bn,F,p.1,p.2,λ{U oo D' a j}G e s H K L=>?_⟩;have P:=h1.size;have M:¬a 0:=λh=>(e.2.1 0 h).elim p.2 λh=>Ω
 have x:∀r,a r->r<m\/D' r:=λr f=>(e.2.1 r f).elim (λh=>(q r h).imp id (K r)) λh=>.inr (L r h (s.lt (.inl f)));refine⟨⟨h1.trans (G.mono λr _ h=>?_),⟨hP e.1 p.2 y,z,B,C⟩,a,j,E.trans e,s,⟨H,M⟩,x⟩,e.1.mono λr _ h=>q r h,x⟩;by_cases f:w.heap.size<=r
 .exact .inr f
 .exact .inl (mN (λo N I O=>h1.aU r o N I λh=>h.elim O f) h)
theorem eX.open(h:eX ap w ab ac A R n m D s' J):∃aI bn,bH J ab ac aI R n s' bn/\eC ap bn/\∀{U:x4}{oo:am}{D' e:Nat->Prop}{f:az},ae (eA J) J U->Grow aI J e U->bH U ab ac e R n oo f->eC ap f->(∀r,D r->D' r)->(∀r,J.heap.size<=r->r<U.heap.size->D' r)->
  eX ap w ab ac A R n m D' oo U/\ae (λr=>r<m\/D r) J U/\∀r,e r->r<m\/D' r:=by
 obtain⟨aI,bn,a,b,_,d⟩:=h.EI;exact⟨aI,bn,a,b,d⟩
theorem eX.done(h:eX ap w ab ac A R n m D s' J)(e:Ext J U):cS ap w ab ac A R n s' U:=by
 obtain⟨h1,⟨f,q,s,x⟩,aI,bn,j,p,a,y⟩:=h.ext e;exact⟨h1.mono λr z h=>h.elim id λh=>Ω,f,aI,bn,j,p,a.1,a.2⟩
end
section
variable{ap:List az}{w:x4}{ab ac:Nat}{A R:af}{n:aK}{s:am}{t:az}
theorem oq{u:Nat}{x:bh}(a:bg n.k n.sizes s)(f:s.vars[u]?=σ x)(h:v∈ax x):eU n (u:Int) v:=by
 have p:=(x5.1 f).1;have q:=a.vars;obtain⟨z,e⟩:=aD (l:=n.sizes) (i:=u) Ω;have r:=(a.var _ x z f e).1;have w:=a.ef.2.2 z (x6 e);have j:=(fd.1 h).1;refine⟨Ω,Ω,j.1,?_⟩;rw[u9,u4,e,V2];omega
theorem EJ{f:cK}{g:Int->Int}(p:bg k sizes s)(a:s.funs[j]?=σ f):dG s j f (dF g [] f.ah f.cs)=s:=by
 obtain⟨q,r⟩:=kB p (x6 a);rw[Pr q Ω (λ_ h=>absurd h List.not_mem_nil)];have:s.funs.set j f=s.funs:=by
  apply Y7;intro i;by_cases e:j=i
  .subst e;rw[c9 (x5.1 a).1,a]
  .rw[Y5 e]
 unfold dG;show{s with funs:=s.funs.set j f}=s;rw[this]
theorem EK{u:Nat}{f:cK}{x:bh}{F1 F2:R6}{tup un:Int->Int}(h:bH w ab ac A R n s t)(aQ:Laid w)(bj:¬A 0)(bl:eC ap t)(E:s.funs[j]?=σ f)(bn:f.live≠0)(hu:f.sc[pos]?=σ (u:Int))(y:s.vars[u]?=σ x)(aR:v∈ax x)(h1:∀tl∈cm s f.sc pos v,(0<=tup (bm f.ah f.cs tl)/\tup (bm f.ah f.cs tl)<=n.k)/\∀{w:x4}{A:af}{s:am}{t:az},bH w ab ac A R n s t->ai x8 F1 [Γ ab,Δ (bm f.ah f.cs tl),Δ c] w λr w'=>r=Δ (tup (bm f.ah f.cs tl))/\Ext w w')(aS:(0<=un (x.un.getD v.toNat 0)/\un (x.un.getD v.toNat 0)<=n.k)/\∀{w:x4}{A:af}{s:am}{t:az},bH w ab ac A R n s t->ai x8 F2 [Γ ab,Δ (x.un.getD v.toNat 0),Δ c] w λr w'=>r=Δ (un (x.un.getD v.toNat 0))/\Ext w w'):
  ai x8 Hz [.agg #[.func (.func F1) #[] #[],.func (.func F2) #[] #[]],Γ ab,Δ (j:Int),Δ (pos:Int),Δ v,Δ c] w λ_ w'=>cS ap w ab ac A R n (iY s j f pos u x v tup un) w':=by
 have G:=h.2.2.2.1;have ak:=x6 E;obtain⟨al,b5,_⟩:=G.funs f ak;have aT:∀u',f.sc[pos]?=σ u'->v∈bB s u':=λu' aV=>by
  rw[hu]at aV;cases aV;unfold bB;rw[u9,y];exact aR
 have bo:=Eu G ak aT;refine iF func147 ?_;refine bk λbq J b6 aW P=>?_;refine bk λg1 U b7 aq a=>?_;refine bk λbr b8 b9 Y B=>?_;refine bk λbt z ca Z Q=>?_;have P:ad z bq pZ [.func (.func F1) #[] #[],.func (.func F2) #[] #[]]:=((ad.ext P aq).ext Y).ext Z;have a:ad z g1 eh [Γ ab]:=(ad.ext a Y).ext Z;have B:ad z br ag [Δ (j:Int)]:=ad.ext B Z;have Q:ad z bt ao [Δ c]:=Q;have au:=((aW.trans aq).trans Y).trans Z;have cb:=aW.size;have cc:=aq.size;have z3:=Y.size;have cd:=au.size;have aX:=P.lt;have H:=a.lt;have aY:=B.lt;have aZ:=Q.lt;rw[aF (v:=Γ ab) Ψ (a.Qz rfl),aF (v:=Δ (j:Int)) Ψ (B.Qz rfl)];refine(wR (h.ext au) E).mono ?_;rintro ce cg _ ⟨bu,_,_,bw⟩;rw[bc an.u ag.i Ψ bw.ls hu];intro ch bx _ _;have I:=bu.trans bx;have av:=au.trans I;have z46:=I.size;rw[aF (v:=Γ ab) Ψ ((a.ext I).Qz rfl),aF (v:=Γ ab) Ψ ((a.ext I).Qz rfl),aF (v:=Δ (j:Int)) Ψ ((B.ext I).Qz rfl)];refine EH (h.ext av) (aQ.ext av) E λaL gs bL bp a1 a2 aw bC bD=>?_;have ci:=aw.size;have bE:=I.trans aw;refine⟨Nat,true,false,lN,#[Γ bL,Γ bp,Γ a1,Γ gs],0,_,_,_,
  λD k w'=>eX ap w ab ac A R n w.heap.size D (dG s j f (dF tup ((cm s f.sc pos v).take k) f.ah f.cs)) w'/\(ae (λr=>r<w.heap.size\/a2.heap.size<=r) z w'/\a2.heap.size<=w'.heap.size),
  λ_ _ _ _=>False,rfl,EF (λu hu=>⟨(al.scope.1 u hu).1,al.vars u hu⟩) al.scope.2,?_,λ_ _ _ y h=>h.ext y,?_,λ_ _ _ _ _ _ _ h=>h,bD,?_,?_,?_,λ_ _ _ h=>h.elim,λ_ _ _ _ h=>h.elim⟩
 .rintro _ _ _ _ ⟨_,_,_,_,rfl,_⟩;rfl
 .rintro D k cj ck S cl ⟨K,L,ay⟩;exact⟨K.own S λr q=>⟨Ω,q.2.2⟩,L.trans (S.mono λr _ h=>.inr h.2.1),X0 ay S.size⟩
 .refine⟨?_,bE.aa _,o5 _⟩;have e:dG s j f (dF tup ((cm s f.sc pos v).take 0) f.ah f.cs)=s:=EJ G E;rw[e];exact eX.start h aQ bj bl (av.trans aw) (o5 _)
 .rintro aO D k cn aA a6 cp bF ⟨rfl,tl,cq,aB,e,a7⟩ ⟨K,L,ay⟩;cases e;intro cr V _ bG;obtain⟨m,hm⟩:=tE G ak aT (x6 aB);obtain⟨bI,bJ⟩:=Ev (g:=tup) G E bo aB hm;obtain⟨⟨bK,bM⟩,bN⟩:=h1 tl (x6 aB);have aU:∀{W:x4}{g:Nat}{e:r9}{cs:List x3},Ext aA W->w.heap.size<=g->g<z.heap.size->ad z g e cs->ad W g e cs:=λy M aC aD=>(aD.aa L Ω).ext y;have bO:=(x5.1 E).1;have a8:(dG s j f (dF tup ((cm s f.sc pos v).take k) f.ah f.cs)).funs[j]?=σ {f with cs:=dF tup ((cm s f.sc pos v).take k) f.ah f.cs}:=c9 bO;obtain⟨M,S⟩:=xj (tl:=tl) a8 bn hm;obtain⟨A9,t9,aE,ba,aH⟩:=K.open;rw[aF (v:=Γ ab) Ψ ((aU V Ω H a).Qz rfl),aF (v:=Δ (j:Int)) Ψ ((aU V Ω aY B).Qz rfl)];refine(wN (j:=j) (aE.ext V) (a7.ext V)).mono ?_;rintro _ ct bP ⟨rfl,bQ⟩;rw[if_pos M,S,bz,bA];intro bR bS _ bT;have C:=(V.trans bQ).trans bS;rw[aF (v:=Γ ab) Ψ ((aU C Ω H a).Qz rfl),aF (v:=Δ (j:Int)) Ψ ((aU C Ω aY B).Qz rfl),
   aG pZ.p 0 (aU C Ω aX P) rfl,aF (v:=Γ ab) Ψ ((aU C Ω H a).Qz rfl),aF (v:=Δ c) Ψ ((aU C Ω aZ Q).Qz rfl)]
  show ai x8 F1 [Γ ab,Δ (bm f.ah (dF tup ((cm s f.sc pos v).take k) f.ah f.cs) tl),Δ c] bR _;rw[bI];refine(bN (aE.ext C)).mono ?_;rintro _ cu bU ⟨rfl,bb⟩;have X:=C.trans bb;refine⟨.inl bb,(OO (j:=j) (aE.ext X) ba.room (a7.ext X)).mono ?_⟩;rintro r bd bV ⟨_,_,aJ⟩;obtain⟨_,aj,aI,bW,bX,aK,N⟩:=aJ M ⟨bK,bM⟩ _ m a8 hm;rw[bJ]at N;have cw:=X.size;have cz:=aj.size;obtain⟨be,aM,bY⟩:=aH (D':=λr=>D r\/aA.heap.size<=r/\r<bd.heap.size) (iw X aj) ((Grow.ext X).trans aK) N ba.set (λr h=>.inl h) λr M aC=>.inr ⟨M,aC⟩;refine⟨⟨λr=>D r\/aA.heap.size<=r/\r<bd.heap.size,λr h=>h,λr h=>.inl h,?_,be,L.trans (aM.mono λr _ h=>h.imp id λh=>(a6 r h).1),Ω⟩,bG.trans ((((bP.trans bT).trans bU).trans bV).kc),aM.mono λr _ h=>h.imp (λh=>Ω) id⟩;refine bF.put aM bC (λr q=>?_) be.2.1.1 N (λ_=>rfl) λr q=>?_
  .rcases q with q|q
   .exact .inl Ω
   .exact .inr (a6 r q).1
  .rcases q with q|q
   .exact (bY r q).imp (λh=>Ω) id
   .exact .inl (by have:=h.lt (.inr q);omega)
 .rintro D k bZ rfl ⟨K,L,ay⟩;rw[j9 (o5 _)]at K;have bf:=oq G y aR;obtain⟨cA,cB,aN,bg,aH⟩:=K.open;have aU:∀{W:x4}{g:Nat}{e:r9}{cs:List x3},Ext bZ W->w.heap.size<=g->g<z.heap.size->ad z g e cs->ad W g e cs:=λy M aC aD=>(aD.aa L Ω).ext y;rw[aF (v:=Γ ab) Ψ ((aU (Ext.refl _) Ω H a).Qz rfl)];refine(ob (i:=(u:Int)) (v:=v) aN).mono ?_;rintro _ cC _ ⟨rfl,b0⟩;have b1:gf (dG s j f (dF tup (cm s f.sc pos v) f.ah f.cs)) (u:Int).toNat v.toNat=x.un.getD v.toNat 0:=by
   unfold gf;rw[u9,show(dG s j f (dF tup (cm s f.sc pos v) f.ah f.cs)).vars[u]?=σ x from y]
  rw[if_pos bf,b1,bz,bA];intro b2 b3 _ _;have O:=b0.trans b3;rw[aF (v:=Γ ab) Ψ ((aU O Ω H a).Qz rfl),aG pZ.p 1 (aU O Ω aX P) rfl,aF (v:=Γ ab) Ψ ((aU O Ω H a).Qz rfl),aF (v:=Δ c) Ψ ((aU O Ω aZ Q).Qz rfl)];show ai x8 F2 [Γ ab,Δ (x.un.getD v.toNat 0),Δ c] b2 _;refine(aS.2 (aN.ext O)).mono ?_;rintro _ cD _ ⟨rfl,bi⟩;have aP:=O.trans bi;refine⟨.inl bi,(DT (i:=(u:Int)) (v:=v) (aN.ext aP) bg.room).mono ?_⟩;rintro r cE _ ⟨_,_,aJ⟩;obtain⟨_,aj,aI,bW,bX,aK,N⟩:=aJ bf aS.1;have e:jX (dG s j f (dF tup (cm s f.sc pos v) f.ah f.cs)) (u:Int).toNat v.toNat (un (x.un.getD v.toNat 0))=iY s j f pos u x v tup un:=by
   unfold jX iY ev;rw[u9,show(dG s j f (dF tup (cm s f.sc pos v) f.ah f.cs)).vars[u]?=σ x from y]
  rw[e]at N;intro cF b4 _;exact(aH (D':=λ_=>True) (iw aP aj) ((Grow.ext aP).trans aK) N bg.set (λ_ _=>trivial) λ_ _ _=>trivial).1.done b4
end
theorem re(h e:Nat){l a:Nat}(f:l<256)(hm:a<256):(256*h+l) &&& (256*e+a)=256*(h &&& e)+(l &&& a):=by
 have j:l &&& a<2 ^ 8:=Nat.and_lt_two_pow _ hm;apply Nat.eq_of_testBit_eq;intro i;rw[Nat.testBit_and,show 256=2 ^ 8 from rfl,Nat.testBit_two_pow_mul_add _ f,Nat.testBit_two_pow_mul_add _ hm,Nat.testBit_two_pow_mul_add _ j];split
 .rw[Nat.testBit_and]
 .rw[Nat.testBit_and]
def gT(m x:Nat):Nat:=(x / 2 &&& m)+(x &&& m)
def hI(m x:Nat):Nat:=(x / 4 &&& m)+(x &&& m)
def jt(m x:Nat):Nat:=(x / 16+x) &&& m
def c3(a:Nat):Nat:=jt 15 (hI 51 (gT 85 a))
theorem P1:∀e<2,∀l<256,(128*e+l / 2) &&& 85=l / 2 &&& 85:=by decide+kernel
theorem P2:∀e<4,∀l<256,(64*e+l / 4) &&& 51=l / 4 &&& 51:=by decide+kernel
theorem P3:∀e<5,∀l<69,(16*e+l / 16+l) &&& 15=(l / 16+l) &&& 15:=by decide+kernel
theorem m7:∀l<256,gT 85 l<256/\hI 51 (gT 85 l)<69/\hI 51 (gT 85 l) % 16<5/\c3 l<=8/\(c3 l=0->l=0):=by decide+kernel
theorem tN(h a:Nat){l:Nat}(e:l<256):gT (256*a+85) (256*h+l)=256*gT a h+gT 85 l:=by
 unfold gT;rw[show(256*h+l) / 2=256*(h / 2)+(128*(h % 2)+l / 2) by omega,re _ _ Ω Ω,re _ _ e Ω,P1 _ Ω _ e];omega
theorem tO(h a:Nat){l:Nat}(e:l<256):hI (256*a+51) (256*h+l)=256*hI a h+hI 51 l:=by
 unfold hI;rw[show(256*h+l) / 4=256*(h / 4)+(64*(h % 4)+l / 4) by omega,re _ _ Ω Ω,re _ _ e Ω,P2 _ Ω _ e];omega
theorem tP(h a:Nat){l:Nat}(e:l<69)(he:h % 16<5):jt (256*a+15) (256*h+l)=256*jt a h+jt 15 l:=by
 unfold jt;rw[show(256*h+l) / 16+(256*h+l)=256*(h / 16+h)+(16*(h % 16)+l / 16+l) by omega,re _ _ Ω Ω,P3 _ he _ e]
def four(a b c d:Nat):Nat:=256*(256*(256*d+c)+b)+a
theorem P4{a b c d:Nat}(e:a<256)(f:b<256)(h:c<256)(j:d<256):gT 6148914691236517205 (four a b c d)=four (gT 85 a) (gT 85 b) (gT 85 c) (gT 85 d):=by
 unfold four;rw[show 6148914691236517205=256*(256*(256*(256*1431655765+85)+85)+85)+85 from rfl,tN _ _ e,tN _ _ f,tN _ _ h];have:=tN 0 1431655765 j;rw[show 256*0+d=d by omega,show gT 1431655765 0=0 from by unfold gT;simp]at this;rw[this,Nat.mul_zero,X3]
theorem P5{a b c d:Nat}(e:a<256)(f:b<256)(h:c<256)(j:d<256):hI 3689348814741910323 (four a b c d)=four (hI 51 a) (hI 51 b) (hI 51 c) (hI 51 d):=by
 unfold four;rw[show 3689348814741910323=256*(256*(256*(256*858993459+51)+51)+51)+51 from rfl,tO _ _ e,tO _ _ f,tO _ _ h];have:=tO 0 858993459 j;rw[show 256*0+d=d by omega,show hI 858993459 0=0 from by unfold hI;simp]at this;rw[this,Nat.mul_zero,X3]
theorem P6{a b c d:Nat}(e:a<69)(f:b<69/\b % 16<5)(h:c<69/\c % 16<5)(j:d<69/\d % 16<5):jt 1085102592571150095 (four a b c d)=four (jt 15 a) (jt 15 b) (jt 15 c) (jt 15 d):=by
 unfold four;rw[show 1085102592571150095=256*(256*(256*(256*252645135+15)+15)+15)+15 from rfl,tP _ _ e Ω,tP _ _ f.1 Ω,tP _ _ h.1 Ω];have:=tP 0 252645135 j.1 Ω;rw[show 256*0+d=d by omega,show jt 252645135 0=0 from by unfold jt;simp]at this;rw[this,Nat.mul_zero,X3]
def pE(x:Nat):Nat:=c3 (x % 256)+c3 (x / 256 % 256)+c3 (x / 65536 % 256)+c3 (x / 16777216)
theorem P7{x:Nat}(h:x<4294967296):pE x=0↔x=0:=by
 constructor
 .intro a;unfold pE at a;have h1:=(m7 (x % 256) Ω).2.2.2.2 Ω;have e:=(m7 (x / 256 % 256) Ω).2.2.2.2 Ω;have f:=(m7 (x / 65536 % 256) Ω).2.2.2.2 Ω;have j:=(m7 (x / 16777216) Ω).2.2.2.2 Ω;omega
 .rintro rfl;decide
theorem EL{x:Nat}(an:x<4294967296):ai x8 GO [.int .u64 (x:Int)] w λv w'=>v=Δ (pE x:Int)/\Ext w w':=by
 obtain⟨a,b,c,d,G,H,I,J,e,Q,R,S,U⟩:∃a b c d,a<256/\b<256/\c<256/\d<256/\x=four a b c d/\a=x % 256/\b=x / 256 % 256/\c=x / 65536 % 256/\d=x / 16777216:=
  ⟨x % 256,x / 256 % 256,x / 65536 % 256,x / 16777216,Ω,Ω,Ω,Ω,by unfold four;omega,rfl,rfl,rfl,rfl⟩
 obtain⟨W,X,a3,a4,_⟩:=m7 a G;obtain⟨Y,Z,aa,ao,_⟩:=m7 b H;obtain⟨ab,ac,ad,ap,_⟩:=m7 c I;obtain⟨d1,d2,d3,d4,_⟩:=m7 d J;have g1:=P4 G H I J;have L:=P5 W Y ab d1;have ae:=P6 X ⟨Z,aa⟩ ⟨ac,ad⟩ ⟨d2,d3⟩;have af:pE x=c3 a+c3 b+c3 c+c3 d:=by unfold pE;rw[<-Q,<-R,<-S,<-U]
 rw[<-e]at g1;have ah:gT 6148914691236517205 x<4294967296:=by rw[g1];unfold four;omega
 have M:hI 3689348814741910323 (gT 6148914691236517205 x)<4294967296:=by rw[g1,L];unfold four;omega
 have A:jt 1085102592571150095 (hI 3689348814741910323 (gT 6148914691236517205 x))=four (c3 a) (c3 b) (c3 c) (c3 d):=by rw[g1,L,ae];rfl
 have aj:four (c3 a) (c3 b) (c3 c) (c3 d)<4294967296:=by unfold four;omega
 refine ay func70 ?_;have s:∀{t:r9}{cx cy:Bool}{K:x3->Prop}(p q:Nat),p+q<18446744073709551616->V x8 (aJ .add t cx cy (.int .u64 (p:Int)) (.int .u64 (q:Int))) w K=K (.int .u64 ((p+q:Nat):Int)):=λp q h=>by
  rw[aM,wrap_u64 Ω Ω];rfl
 have small:∀(p m:Nat),p &&& m<=p:=λp m=>Nat.and_le_left;rw[show(1:Int)=((1:Nat):Int)from rfl,k2 Ω,show(6148914691236517205:Int)=((6148914691236517205:Nat):Int)from rfl,u64_and Ω Ω,u64_and Ω Ω,s (x / 2 ^ 1 &&& 6148914691236517205) (x &&& 6148914691236517205) (by exact Nat.lt_of_le_of_lt (Nat.add_le_add (small _ _) (small _ _)) Ω)];obtain⟨y,B⟩:∃y,(x / 2 ^ 1 &&& 6148914691236517205)+(x &&& 6148914691236517205)=y:=⟨_,rfl⟩;rw[B];have B:gT 6148914691236517205 x=y:=B;rw[B]at ah M A;rw[show(2:Int)=((2:Nat):Int)from rfl,k2 Ω,show(3689348814741910323:Int)=((3689348814741910323:Nat):Int)from rfl,u64_and Ω Ω,u64_and Ω Ω,s (y / 2 ^ 2 &&& 3689348814741910323) (y &&& 3689348814741910323) (by exact Nat.lt_of_le_of_lt (Nat.add_le_add (small _ _) (small _ _)) Ω)];obtain⟨z,C⟩:∃z,(y / 2 ^ 2 &&& 3689348814741910323)+(y &&& 3689348814741910323)=z:=⟨_,rfl⟩;rw[C];have C:hI 3689348814741910323 y=z:=C;rw[C]at M A;rw[show(4:Int)=((4:Nat):Int)from rfl,k2 Ω,s (z / 2 ^ 4) z Ω,show(1085102592571150095:Int)=((1085102592571150095:Nat):Int)from rfl,u64_and Ω Ω];have A:z / 2 ^ 4+z &&& 1085102592571150095=four (c3 a) (c3 b) (c3 c) (c3 d):=A;rw[A];obtain⟨j,E⟩:∃j,four (c3 a) (c3 b) (c3 c) (c3 d)=j:=⟨_,rfl⟩;rw[E]at aj ⊢;unfold four at E;rw[show(8:Int)=((8:Nat):Int)from rfl,k2 Ω,s j (j / 2 ^ 8) Ω];obtain⟨r,N⟩:∃r,j+j / 2 ^ 8=r:=⟨_,rfl⟩;rw[N];rw[show(16:Int)=((16:Nat):Int)from rfl,k2 Ω,s r (r / 2 ^ 16) Ω];obtain⟨f,O⟩:∃f,r+r / 2 ^ 16=f:=⟨_,rfl⟩;rw[O];rw[show(32:Int)=((32:Nat):Int)from rfl,k2 Ω,s f (f / 2 ^ 32) Ω,fo fA.u ag.u,wrap_i64 Ω Ω,show(127:Int)=((127:Nat):Int)from rfl,DF Ω Ω];refine⟨?_,Ext.refl _⟩;rw[af,show 127=2 ^ 7-1 from rfl,Nat.and_two_pow_sub_one_eq_mod];have ak:j / 2 ^ 8=65536*c3 d+256*c3 c+c3 b:=Ω
 have al:r / 2 ^ 16=256*c3 d+(c3 c+c3 d):=Ω
 have P:f / 2 ^ 32=0:=Ω
 have aq:f=128*(131072*c3 d+512*(c3 c+c3 d)+2*(c3 b+c3 c+c3 d))+(c3 a+c3 b+c3 c+c3 d):=Ω
 have am:(f+f / 2 ^ 32) % 2 ^ 7=c3 a+c3 b+c3 c+c3 d:=by rw[P];clear E N O ak al P;omega
 rw[am]
theorem ht{b n:Nat}(a:k3 b n):ai x8 yW [iK b n] w λr w'=>(∃q:Int,r=Δ q/\(q=0↔b=0))/\Ext w w':=by
 have e:b<4294967296:=by
  have:=a.2;have:(2:Nat) ^ n<=2 ^ 32:=T6 Ω a.1;omega
 refine ay func27 ?_;refine bk λg J s f h=>?_;rw[aG b4.p 0 h rfl];refine(EL e).mono ?_;rintro _ U _ ⟨rfl,j⟩;refine⟨⟨_,rfl,?_⟩,f.trans j⟩;rw[<-P7 e];omega
def ot(ap:List az)(w:x4)(ab ac:Nat)(A R:af)(n:aK)(s:am)(a:gg)(r:x3)(w':x4):Prop:=r=Δ (bf n.k s a).2/\cS ap w ab ac A R n (bf n.k s a).1 w'
section
variable{ap:List az}{w:x4}{ab ac:Nat}{A R:af}{n:aK}{s:am}{t:az}{a:gg}
theorem cS.same(h:bH w ab ac A R n s t)(a:Laid w)(e:¬A 0)(f:eC ap t)(j:Ext w w'):cS ap w ab ac A R n s w':=(eX.start (m:=w.heap.size) (D:=λ_=>False) h a e f j (o5 _)).done (Ext.refl _)
theorem cS.before{s':am}(a:Ext w J)(h:cS ap J ab ac A R n s' w'):cS ap w ab ac A R n s' w':=by
 obtain⟨h1,e,aI,bn,f,j⟩:=h;exact⟨iw a h1,e,aI,bn,(Grow.ext a).trans f,j⟩
theorem xk{j pos u:Int}{f:cK}{x:bh}(h:ew s j pos v=σ (f,u,x)):∃p e u':Nat,j=p/\pos=e/\u=u'/\s.funs[p]?=σ f/\f.live≠0/\f.sc[e]?=σ (u':Int)/\s.vars[u']?=σ x/\v∈ax x/\∀q,f.sc[e]?=σ q->v∈bB s q:=by
 obtain⟨h1,z,A,B,a,C⟩:=mY h;obtain⟨E,r,F,w⟩:=jr C;obtain⟨j,rfl⟩:=U6 h1;obtain⟨pos,rfl⟩:=U6 z;obtain⟨u,rfl⟩:=U6 E;refine⟨j,pos,u,rfl,rfl,rfl,A,B,a,r,w,λu' y=>?_⟩;have a:f.sc[pos]?=σ (u:Int):=a;rw[a]at y;cases y;unfold bB;rw[r];exact w
theorem P8(hk:a.kind=0)(h:bH w ab ac A R n s t)(z:Laid w)(E:¬A 0)(G:eC ap t):ai x8 GR [Γ ab,Δ a.i,Δ a.pos,Δ a.v,Δ a.c] w (ot ap w ab ac A R n s a):=by
 have K:=h.2.2.2.1;refine ay func75 ?_;refine(Ew h).mono ?_;rintro _ J _ ⟨y,u,e,rfl,q⟩;rw[bz,bA];have p:bf n.k s a=match ew s a.i a.pos a.v with
  |none=>(s,1)
  |some (f,u,x)=>if di n.k a.c (md n.k s f a.pos.toNat a.v)≠0 then(s,di n.k a.c (md n.k s f a.pos.toNat a.v))else(iY s a.i.toNat f a.pos.toNat u.toNat x a.v (λg=>dh n.k g a.c) λg=>cN n.k g a.c,0):=by unfold bf;rw[if_pos hk];cases ew s a.i a.pos a.v<;>rfl
 rcases q with⟨rfl,f,x,q⟩|⟨rfl,q⟩
 rotate_left
 .rw[q]at p;rw[bK,aj];exact⟨λ_=>⟨by rw[p],by rw[p];exact cS.same h z E G y⟩,λh=>absurd Φ h⟩
 rw[q]at p;rw[bK,aj];refine⟨λh=>absurd rfl h,λ_=>?_⟩;obtain⟨j,pos,u,V,W,X,H,L,hu,M,Y,Z⟩:=xk q;have aa:=x6 H;simp only[V,W,X,u9]at p ⊢;refine(P0 (j:=j) (pos:=pos) (h.ext y) (z.ext y) H L Z).mono ?_;rintro _ U _ ⟨rfl,N⟩;refine(tI (h.ext (y.trans N))).mono ?_;rintro _ ak _ ⟨ad,rfl⟩;have B:=(y.trans N).trans ad;refine dl (λw'=>cS ap w ab ac A R n (bf n.k s a).1 w') ?_ λaw O=>?_
 .intro w' ae;refine⟨?_,ae⟩;rw[p];split
  .rfl
  .rename_i r;rw[X2.1 r]
 rw[bb,aj];refine⟨λr=>?_,λr=>O _ ?_⟩
 .obtain⟨C,hm⟩:=lr (λh=>h r);rw[dn (cs:=#[.func (.func nj) #[] #[],.func (.func nk) #[] #[]]) Ψ];have P:∀t∈cm s f.sc pos a.v,a.c<=bm f.ah f.cs t:=λt af=>((mX _ _ _).1 hm).2 _ (j0.2 ⟨t,af,rfl⟩);have Q:=hn (v:=a.v.toNat) K M;refine(EK (t:=t) (F1:=nj) (F2:=nk) (tup:=λg=>dh n.k g a.c) (un:=λg=>cN n.k g a.c) (h.ext B) (z.ext B) E G H L hu M Y (λtl S=>?_) ⟨m3 Q C.1,λ{w A s t}I=>q6 I Q C⟩).mono ?_
  .have T:=oj (t:=tl) K aa;exact⟨mZ T ⟨C.1,P tl S⟩,λ{w A s t}I=>tJ I T C (.inr (P tl S))⟩
  .rintro _ al _ ag;refine O _ ?_;rw[p,if_neg (λh=>h r)];exact ag.before B
 .rw[p,if_pos r];exact cS.same h z E G B
theorem P9(hk:a.kind=1)(h:bH w ab ac A R n s t)(E:Laid w)(G:¬A 0)(H:eC ap t):ai x8 GS [Γ ab,Δ a.i,Δ a.pos,Δ a.v,Δ a.c] w (ot ap w ab ac A R n s a):=by
 have I:=h.2.2.2.1;refine ay func76 ?_;refine(Ew h).mono ?_;rintro _ J _ ⟨y,u,e,rfl,q⟩;rw[bz,bA];have p:bf n.k s a=match ew s a.i a.pos a.v with
  |none=>(s,1)
  |some (f,u,x)=>if di n.k a.c (x.un.getD a.v.toNat 0)≠0 then(s,di n.k a.c (x.un.getD a.v.toNat 0))else(iY s a.i.toNat f a.pos.toNat u.toNat x a.v (λg=>cN n.k g a.c) λg=>dh n.k g a.c,0):=by unfold bf;rw[if_neg Ω,if_pos hk];cases ew s a.i a.pos a.v<;>rfl
 rcases q with⟨rfl,f,x,q⟩|⟨rfl,q⟩
 rotate_left
 .rw[q]at p;rw[bK,aj];exact⟨λ_=>⟨by rw[p],by rw[p];exact cS.same h E G H y⟩,λh=>absurd Φ h⟩
 rw[q]at p;rw[bK,aj];refine⟨λh=>absurd rfl h,λ_=>?_⟩;obtain⟨j,pos,u,S,T,V,L,W,hu,z,M,ae⟩:=xk q;have X:=x6 L;simp only[S,T,V,u9]at p ⊢;refine(ob (i:=(u:Int)) (v:=a.v) (h.ext y)).mono ?_;rintro _ U _ ⟨rfl,N⟩;have Y:gf s (u:Int).toNat a.v.toNat=x.un.getD a.v.toNat 0:=by
  unfold gf;rw[u9,z]
 rw[if_pos (oq I z M),Y,bz,bA];refine(tI (h.ext (y.trans N))).mono ?_;rintro _ af _ ⟨Z,rfl⟩;have B:=(y.trans N).trans Z;refine dl (λw'=>cS ap w ab ac A R n (bf n.k s a).1 w') ?_ λaw O=>?_
 .intro w' aa;refine⟨?_,aa⟩;rw[p];split
  .rfl
  .rename_i r;rw[X2.1 r]
 rw[bb,aj];refine⟨λr=>?_,λr=>O _ ?_⟩
 .obtain⟨C,hm⟩:=lr (λh=>h r);rw[dn (cs:=#[.func (.func nk) #[] #[],.func (.func nj) #[] #[]]) Ψ];have P:=hn (v:=a.v.toNat) I z;refine(EK (t:=t) (F1:=nk) (F2:=nj) (tup:=λg=>cN n.k g a.c) (un:=λg=>dh n.k g a.c) (h.ext B) (E.ext B) G H L W hu z M (λtl ag=>?_) ⟨mZ P ⟨C.1,hm⟩,λ{w A s t}K=>tJ K P C (.inr hm)⟩).mono ?_
  .have Q:=oj (t:=tl) I X;exact⟨m3 Q C.1,λ{w A s t}K=>q6 K Q C⟩
  .rintro _ ah _ ad;refine O _ ?_;rw[p,if_neg (λh=>h r)];exact ad.before B
 .rw[p,if_pos r];exact cS.same h E G H B
end
def gU(s:am)(i:Int):Option bh:=match(if 0<=i then s.vars[i.toNat]? else ν)with
 |some x=>if x.gone=0 then σ x else ν
 |none=>ν
theorem xl{s:am}{i:Int}{x:bh}(h:gU s i=σ x):0<=i/\s.vars[i.toNat]?=σ x/\x.gone=0:=by
 unfold gU at h;by_cases a:0<=i
 .rw[if_pos a]at h;cases e:s.vars[i.toNat]? with
  |none=>rw[e]at h;cases h
  |some y=>
   rw[e]at h;simp only at h;split at h
   .rename_i f;cases h;exact⟨a,rfl,f⟩
   .cases h
 .rw[if_neg a]at h;cases h
theorem EM{g:Int->Int}{un L:Λ}(h:L[j]?=σ v):dZ g un (L.take (j+1))=(dZ g un (L.take j)).set v.toNat (g ((dZ g un (L.take j)).getD v.toNat 0)):=by
 unfold dZ;rw[r8,h,l7,R5];rfl
theorem EN{i:Nat}{v:Int}:∀(L M:Λ)(s:am),gh s i v (L++M)=gh (gh s i v L) i v M
 |[],_,_=>rfl
 |w::L,M,s=>by
  rw[List.cons_append,gh,gh];exact EN L M _
theorem Qa{s:am}{i:Nat}{w:Int}{L:Λ}(h:L[j]?=σ w):gh s i v (L.take (j+1))=if w≠v then dM (gh s i v (L.take j)) i w.toNat else gh s i v (L.take j):=by
 rw[r8,h,l7,EN];rfl
def j3(m u:Int):Int:=if m<0\/u<m then u else m
theorem EO:∀(l:Λ)(m:Int),0<=m->(∀c∈l,0<=c)->l.foldl j3 m=l.foldl min m
 |[],_,_,_=>rfl
 |c::l,m,hm,a=>by
  have f:=a c (.head _);have e:j3 m c=min m c:=by unfold j3;split<;>omega
  rw[T7,T7,e];exact EO l _ Ω λc h=>a c (.tail _ h)
theorem Qb{x:bh}(h:∀v∈ax x,0<=x.un.getD v.toNat 0):((ax x).map λv=>x.un.getD v.toNat 0).foldl j3 (-1)=gS x:=by
 unfold gS;have a:∀c∈(ax x).map (λv=>x.un.getD v.toNat 0),0<=c:=λc e=>by
  obtain⟨v,f,rfl⟩:=j0.1 e;exact h v f
 generalize (ax x).map (λv=>x.un.getD v.toNat 0)=l at a;cases l with
 |nil=>rfl
 |cons c l=>exact EO l c (a c (.head _)) λc h=>a c (.tail _ h)
section
variable{ap:List az}{w:x4}{ab ac:Nat}{A R:af}{n:aK}{s:am}{t:az}{a:gg}
theorem EP{i:Int}(h:bH w ab ac A R n s t):ai x8 Hb [Γ ab,Δ i] w λr w'=>Ext w w'/\r=Δ (if(gU s i).isSome=true then 0 else 1):=by
 have p:=h.2.2.2.1;have O:=p.vars;refine ay func101 ?_;rw[da eh.u];simp only[Z6,aY];refine aW (λr J=>r= .bool (!(gU s i).isSome)/\Ext w J) ?_ ?_
 .rintro _ J ⟨rfl,C⟩;rw[cj];exact⟨λq=>⟨C,by rw[if_neg (by simpa using q)]⟩,λq=>⟨C,by rw[if_pos (by simpa using q)]⟩⟩
 intro aw E;refine(tq (i:=i) h).mono ?_;rintro _ U _ ⟨rfl,y⟩;rw[cj];refine⟨λa=>E _ _ ⟨?_,y⟩,λa=>?_⟩
 .rw[U1,decide_eq_true_eq]at a;have K:gU s i=ν:=by
   unfold gU;rw[if_pos a.1];have B:=a.2;unfold dx at B;cases f:s.vars[i.toNat]? with
   |none=>rfl
   |some x=>
    rw[f]at B;simp only;rw[if_neg λh=>by simp[h]at B]
  rw[K];rfl
 refine(jW (i:=i) (h.ext y)).mono ?_;rintro _ P _ ⟨⟨b,m,rfl,G⟩,L⟩;refine(vo (b:=b) (n:=m)).mono ?_;rintro _ Q _ ⟨rfl,M⟩;rw[bb];refine E _ _ ⟨?_,(y.trans L).trans M⟩;congr 1;by_cases j:0<=i/\i<n.sizes.length
 .obtain⟨x,f⟩:=aD (l:=s.vars) (i:=i.toNat) Ω;obtain⟨z,H⟩:=aD (l:=n.sizes) (i:=i.toNat) Ω;have S:=p.ef.2.2 z (x6 H);have V:=(p.var _ x z f H).1;have hm:=(G.2.2 x j.1 f).1;have N:x.gone=0:=by
   rw[decide_eq_true j.1,Bool.true_and]at a;unfold dx at a;rw[f]at a;simpa using a
  have e:gU s i=σ x:=by
   unfold gU;rw[if_pos j.1,f];simp only;rw[if_pos N]
  rw[e,decide_eq_false Ω];rfl
 .obtain⟨rfl,rfl⟩:=G.2.1 j;have e:gU s i=ν:=by
   unfold gU;by_cases I:0<=i
   .rw[if_pos I,Y4 Ω]
   .rw[if_neg I]
  rw[e];rfl
theorem EQ{u:Nat}{x:bh}{F1 F2:R6}{g z:Int->Int}(h:bH w ab ac A R n s t)(aC:Laid w)(a2:¬A 0)(a6:eC ap t)(a:s.vars[u]?=σ x)(h1:∀v∈ax x,(0<=g (x.un.getD v.toNat 0)/\g (x.un.getD v.toNat 0)<=n.k)/\∀{w:x4}{A:af}{s:am}{t:az},bH w ab ac A R n s t->ai x8 F1 [Γ ab,Δ (x.un.getD v.toNat 0),Δ c] w λr w'=>r=Δ (g (x.un.getD v.toNat 0))/\Ext w w')(aD:(0<=z s.zero/\z s.zero<=n.k)/\∀{w:x4}{A:af}{s':am}{t:az},bH w ab ac A R n s' t->ai x8 F2 [Γ ab,Δ s.zero,Δ c] w λr w'=>r=Δ (z s.zero)/\Ext w w'):
  ai x8 Hd [Γ ab,Δ (u:Int),Δ c,.func (.func F1) #[] #[],.func (.func F2) #[] #[]] w λ_ w'=>cS ap w ab ac A R n (hl s u x g z) w':=by
 have a7:=h.2.2.2.1;have W:=(x5.1 a).1;refine iF func103 ?_;refine bk λg1 J bD aE f=>?_;refine bk λa8 U bE X B=>?_;refine bk λba bF bG I C=>?_;refine bk λbb p bI K L=>?_;have f:ad p g1 eh [Γ ab]:=((ad.ext f X).ext I).ext K;have B:ad p a8 ag [Δ (u:Int)]:=(ad.ext B I).ext K;have C:ad p ba ao [Δ c]:=ad.ext C K;have L:ad p bb I5 [.func (.func F1) #[] #[]]:=L;have M:=((aE.trans X).trans I).trans K;have bJ:=aE.size;have bK:=X.size;have z3:=I.size;have bL:=M.size;have N:=f.lt;have aG:=B.lt;have aH:=C.lt;have bc:=L.lt;rw[aF (v:=Γ ab) Ψ (f.Qz rfl),aF (v:=Δ (u:Int)) Ψ (B.Qz rfl)];refine(jW (i:=(u:Int)) (h.ext M)).mono ?_;rintro _ bM _ ⟨⟨b,bd,rfl,aJ⟩,aK⟩;refine(nJ (b:=b) (n:=bd)).mono ?_;rintro _ O _ ⟨be,aL,rfl,bN,aM⟩;have aN:=mb aJ Ω (show s.vars[(u:Int).toNat]?=σ x by rw[u9];exact a);have E:=aK.trans be;have z5:=aK.size;have z46:=E.size;have bO:=aM.lt;have aO:=q0 x;have bf:ev s u x (dZ g x.un ((ax x).take 0))=s:=by
  unfold ev;show{s with vars:=s.vars.set u x}=s;have:s.vars.set u x=s.vars:=by
   apply Y7;intro i;by_cases e:u=i
   .subst e;rw[c9 W,a]
   .rw[Y5 e]
  rw[this]
 refine kK.old ⟨_,false,jz,#[Γ aL],_,_,_,_,λj w'=>eX ap w ab ac A R n w.heap.size (λr=>O.heap.size<=r) (ev s u x (dZ g x.un ((ax x).take j))) w'/\ae (λr=>r<w.heap.size\/O.heap.size<=r) O w',λ_ _ _=>False,rfl,(nI (g:=aL) aJ.1).s,?_,
  λ_ _ a h=>⟨h.1.ext a,h.2.ext a⟩,λ_ _ _ a h=>⟨h.1.ext a,h.2.trans (a.aa _)⟩,λ_ _ _ _ _ h=>h,⟨aM,aC.ext (M.trans E)⟩,?_,?_,?_,λ_ _ h=>h.elim,λ_ _ _ h=>h.elim⟩
 .rintro _ _ _ _ ⟨_,_,_,_,rfl⟩;rfl
 .refine⟨?_,ae.refl _ _⟩;rw[bf];exact eX.start h aC a2 a6 (M.trans E) (o5 _)
 .rintro _ j _ bg ⟨bi,bP⟩ ⟨bQ,rfl,v,bj,bl⟩ ⟨P,G⟩;cases bl;intro bR Q _ _;have Y:(ax x)[j]?=σ (v:Int):=by rw[<-aN,v8,bj];rfl
  have aP:=x6 Y;have aU:∀{H:x4}{g:Nat}{e:r9}{cs:List x3},Ext bg H->w.heap.size<=g->g<p.heap.size->ad p g e cs->ad H g e cs:=λa aQ aR Z=>((Z.ext E).aa G Ω).ext a;obtain⟨bS,bT,ah,aS,aj⟩:=P.open;have aT:eU n (u:Int) (v:Int):=oq a7 a aP;have bm:∀y∈ax x,0<=y/\y<x.un.length:=λy ak=>(fd.1 ak).1;have al:=tB (g:=g) ((ax x).take j) x.un (v:Int) (aO.sublist (List.take_sublist _ _)) (λy ak=>bm y (T9 ak)) Ω;rw[if_neg (xf aO Y)]at al;have bn:gf (ev s u x (dZ g x.un ((ax x).take j))) (u:Int).toNat (v:Int).toNat=x.un.getD (v:Int).toNat 0:=by
   unfold gf ev;rw[u9,c9 W];exact al
  rw[aF (v:=Γ ab) Ψ ((aU Q Ω N f).Qz rfl),aF (v:=Δ (u:Int)) Ψ ((aU Q Ω aG B).Qz rfl)];refine(ob (i:=(u:Int)) (v:=(v:Int)) (ah.ext Q)).mono ?_;rintro _ bU _ ⟨rfl,bo⟩;rw[if_pos aT,bn,bz,bA];intro bp bq _ _;have q:=(Q.trans bo).trans bq;rw[aF (v:=Γ ab) Ψ ((aU q Ω N f).Qz rfl),aF (v:=Δ (u:Int)) Ψ ((aU q Ω aG B).Qz rfl),
   aF (v:=.func (.func F1) #[] #[]) Ψ ((aU q Ω bc L).Qz rfl),aF (v:=Γ ab) Ψ ((aU q Ω N f).Qz rfl),aF (v:=Δ c) Ψ ((aU q Ω aH C).Qz rfl)]
  show ai x8 F1 [Γ ab,Δ (x.un.getD (v:Int).toNat 0),Δ c] bp _;obtain⟨br,bt⟩:=h1 v aP;refine(bt (ah.ext q)).mono ?_;rintro _ bV _ ⟨rfl,aV⟩;have an:=q.trans aV;refine⟨.inl aV,(DT (i:=(u:Int)) (v:=(v:Int)) (ah.ext an) aS.room).mono ?_⟩;rintro r bW _ ⟨_,_,aq⟩;obtain⟨_,au,aI,bu,bw,av,S⟩:=aq aT br;have e:jX (ev s u x (dZ g x.un ((ax x).take j))) (u:Int).toNat (v:Int).toNat (g (x.un.getD (v:Int).toNat 0))=ev s u x (dZ g x.un ((ax x).take (j+1))):=by
   rw[EM Y,al];unfold jX ev;rw[u9,c9 W];simp only[List.set_set]
  rw[e]at S;have bX:=G.size;obtain⟨aW,aX,bY⟩:=aj (D':=λr=>O.heap.size<=r) (iw an au) ((Grow.ext an).trans av) S aS.set (λr h=>h) λr aQ aR=>Ω
  exact⟨⟨bi.aa aX Ω,aW.2.1.1⟩,⟨aW,G.trans aX⟩,λh=>by cases h⟩
 .rintro k bx rfl ⟨P,G⟩;rw[j9 (by rw[<-aN,u7];exact o5 _)]at P;obtain⟨bZ,b0,aw,aY,aj⟩:=P.open;have aU:∀{H:x4}{g:Nat}{e:r9}{cs:List x3},Ext bx H->w.heap.size<=g->g<p.heap.size->ad p g e cs->ad H g e cs:=λa aQ aR Z=>((Z.ext E).aa G Ω).ext a;intro b1 V _ _;have ay:=aU V Ω N f;rw[aF (v:=Γ ab) Ψ (ay.Qz rfl),aF (v:=Γ ab) Ψ (ay.Qz rfl),aF (v:=Γ ab) Ψ (ay.Qz rfl),aF (v:=Δ c) Ψ ((aU V Ω aH C).Qz rfl)];refine(oa (aw.ext V)).mono ?_;rintro _ bB _ ⟨rfl,aA⟩;have aZ:=V.trans aA;refine⟨.inl aA,?_⟩;show ai x8 F2 [Γ ab,Δ s.zero,Δ c] bB _;refine(aD.2 (aw.ext aZ)).mono ?_;rintro _ b2 _ ⟨rfl,a1⟩;have aB:=aZ.trans a1;refine⟨.inl (aA.trans a1),(ON (aw.ext aB) aY.room).mono ?_⟩;rintro r b3 _ ⟨_,aq⟩;obtain⟨_,au,aI,bu,bw,av,S⟩:=aq aD.1;intro b4 bC _;exact(aj (D':=λ_=>True) (iw aB au) ((Grow.ext aB).trans av) S aY.set (λ_ _=>trivial) λ_ _ _=>trivial).1.done bC
end
section
variable{w:x4}{ab ac al:Nat}{A R:af}{A9:Nat->af}{aB:af}{n:aK}{s u:am}{t:az}{h:List az}{cs:List x3}{a:gg}
theorem Qc(hk:a.kind<2):bf n.k u a=match ew u a.i a.pos a.v with
  |none=>(u,1)
  |some (f,v,x)=>if di n.k a.c (if a.kind=1 then x.un.getD a.v.toNat 0 else md n.k u f a.pos.toNat a.v)≠0 then(u,di n.k a.c (if a.kind=1 then x.un.getD a.v.toNat 0 else md n.k u f a.pos.toNat a.v))
   else(iY u a.i.toNat f a.pos.toNat v.toNat x a.v (λg=>if a.kind=0 then dh n.k g a.c else cN n.k g a.c) λg=>if a.kind=0 then cN n.k g a.c else dh n.k g a.c,0):=by
 unfold bf;by_cases e:a.kind=0
 .rw[if_pos e];simp only[e];cases ew u a.i a.pos a.v<;>rfl
 .have h1:a.kind=1:=Ω
  rw[if_neg e,if_pos h1];simp only[h1];cases ew u a.i a.pos a.v<;>rfl
theorem getD_some{i:Nat}(h:i<l.length):l[i]?=σ (l.getD i 0):=by
 rw[u4,x7 h];rfl
theorem Qd(p:b5 w ab ac al A R A9 aB n s u t h cs)(G:bg n.k n.sizes u)(bR:cp u)(hk:a.kind<2):ai x8 uL [Γ al,Δ (a.kind:Int),Δ a.i,Δ a.pos,Δ a.v,Δ a.c] w λr w'=>r=Δ (bf n.k u a).2/\cn w ab ac al A R A9 aB n s t h (bf n.k u a).1 w':=by
 have C:=Qc (n:=n) (u:=u) hk;have c5:=G.vars;have bT:=G.fu;refine ay func74 ?_;have bU:cs[0]?=σ (Δ n.k):=by obtain⟨_,_,_,_,_,_,rfl,_⟩:=p.oh;rfl
 rw[aQ aA.p 0 p.box bU,aR,aj];refine⟨λ_=>?_,λh=>Ω⟩;rw[bX];refine p.look.load λdO bV=>?_;refine(PR bV G bR).mono ?_;rintro _ J _ ⟨aE,rfl⟩;cases aU:ew u a.i a.pos a.v with
 |none=>
  rw[aU]at C;simp only;rw[bz,bA,bJ,X9,bQ];exact⟨by rw[C],by rw[C];exact cn.same p aE⟩
 |some q=>
 obtain⟨f,N,x⟩:=q;rw[aU]at C;simp only;rw[bz,bA,bJ,Y9,aY];obtain⟨j,pos,N,bW,bY,bZ,Q,c6,hu,M,b0,aZ⟩:=xk aU;have aG:=x6 Q;simp only[bW,bY,bZ,u9]at C ⊢;have b2:=(x5.1 Q).1;have bo:=(x5.1 M).1;have b3:=(x5.1 hu).1;obtain⟨b4,c7⟩:=kB G aG;have b6:=Eu G aG aZ;have b8:=(fd.1 b0).1;obtain⟨v,S⟩:=U6 b8.1;have bp:=hn (v:=a.v.toNat) G M;have aI:=p.ext aE;have bq:∀{U:x4}{eQ:am}{br:List x3}{bt:Nat->af}{f2:cK},b5 U ab ac al A R bt aB n s eQ t h br->eQ.funs[j]?=σ f2->∃W cap X a1 y,br[6]?=σ (.slice (σ ⟨W,0,ν⟩) eQ.funs.length cap)/\j<eQ.funs.length/\U.cell? ⟨W,0+j*4+0+0,ν⟩=σ X/\U.cell? ⟨W,0+j*4+0+2,ν⟩=σ y/\aH .i64 U X f2.sc/\aH .i64 U y f2.cs/\
   ∀{w':x4}{m:Nat}{c:Int}{K:Unit->x4->Prop},Ext U w'->m<f2.cs.length->(∀bw,cn U ab ac al A R bt aB n s t h (dG eQ j f2 (f2.cs.set m c)) bw->K () bw)->V x8 (j5 au y (Δ (m:Int))) w' λa=>aC x8 (o8 ao a (Δ c)) w' K:=λb9 aJ=>by
  obtain⟨W,cap,X,a1,y,ca,bx,cb,cc,Y⟩:=EC b9 aJ;exact⟨W,cap,X,a1,y,ca,(x5.1 aJ).1,by rw[X3];exact bx 0 _ rfl,by rw[X3];exact bx 2 _ rfl,cb,cc,Y⟩
 obtain⟨W,c8,X,a1,da,cd,ce,cg,_,ch,_,_⟩:=bq aI Q;rw[aQ aA.p 6 aI.box cd,eL dm.u cU.i ce λ_=>rfl,aS cU.p rfl,aS aX.p rfl,aF (v:=X) (o:=0+j*4+0+0) Ψ cg,bc an.u ag.i Ψ ch hu];generalize bB:(if a.kind=1 then x.un.getD a.v.toNat 0 else md n.k u f pos a.v)=most at C;refine aW (λr U=>r=Δ most/\Ext w U) ?_ λaw bC=>?_
 rotate_left
 .rw[bb,aj];refine⟨λh1=>?_,λh1=>bC _ _ ⟨by rw[<-bB,if_neg Ω],aE⟩⟩;have h1:a.kind=1:=Ω
  obtain⟨a2,bE,y,a6,a7,aK,_⟩:=q8 aI M;rw[aQ aA.p 5 aI.box a6,eL cP.u au.i bo λ_=>rfl,aF (v:=y) (o:=0+N*1) Ψ (by rw[X3,U2];exact a7),S,bc au.u ao.i Ψ aK (getD_some Ω)];refine bC _ _ ⟨?_,aE⟩;rw[<-bB,if_pos h1,S,u9]
 rintro _ U ⟨rfl,ci⟩;refine zR.mono ?_;rintro _ db _ ⟨rfl,ck⟩;have Z:=ci.trans ck;have bF:cz a.c n.k↔0<=a.c/\a.c<=n.k:=⟨λh=>h.2,λaJ=>⟨bT,aJ⟩⟩;rw[bJ,cj];refine⟨λad=>?_,λad=>?_⟩
 .have cl:¬cz a.c n.k:=by simpa using ad
  have E:di n.k a.c most=3:=by unfold di;rw[if_pos λh=>cl (bF.2 h)]
  rw[if_pos (by rw[E];decide),E]at C;exact⟨by rw[C],by rw[C];exact cn.same p Z⟩
 have bG:=bF.1 (show cz a.c n.k by simpa using ad);rw[bS,aj];refine⟨λcq=>?_,λcr=>?_⟩
 .have E:di n.k a.c most=7:=by unfold di;rw[if_neg (λh=>h bG),if_pos cq]
  rw[if_pos (by rw[E];decide),E]at C;exact⟨by rw[C],by rw[C];exact cn.same p Z⟩
 have E:di n.k a.c most=0:=by unfold di;rw[if_neg (λh=>h bG),if_neg cr]
 rw[if_neg (λh=>h E)]at C;have ct:=p.ext Z;rw[bX];refine ct.look.load λdc cu=>?_;refine(EB cu G Q b3 aZ).mono ?_;rintro aO a8 _ ⟨cw,ba,cA⟩;have bH:=Z.trans cw;rw[aV an.u ba];have bI:(lv u f pos a.v).length=(cm u f.sc pos a.v).length:=by unfold lv;rw[u7]
 rw[bI];obtain⟨tup,bd⟩:∃tup:Int->Int,tup=λg=>if a.kind=0 then dh n.k g a.c else cN n.k g a.c:=⟨_,rfl⟩;obtain⟨un,be⟩:∃un:Int->Int,un=λg=>if a.kind=0 then cN n.k g a.c else dh n.k g a.c:=⟨_,rfl⟩;rw[<-bd,<-be]at C;have cB:=p.olds.ext bH;have dd:=p.box.lt;have de:=Z.size;have cC:∀{w':x4},ae (λr=>(∃q,A9 q r/\r<w.heap.size)\/r=al) a8 w'->aH .i64 w' aO (lv u f pos a.v):=λcD=>hX ba cD λr E b n c e ad=>by
  have:=cA r ⟨b,n,c,e,ad⟩;rcases E with⟨q,E⟩|E
  .have:=E.2;omega
  .omega
 refine b1.range (cm u f.sc pos a.v).length (λq w'=>cn a8 ab ac al A R (λq r=>A9 q r/\r<w.heap.size) aB n s t h (dG u j f (dF tup ((cm u f.sc pos a.v).take q) f.ah f.cs)) w') (by rw[<-bI];exact ba.le) ?_ ?_ ?_
 .rw[List.take_zero,EJ G Q];exact cn.same cB (Ext.refl _)
 .rintro q ak cE cF aL cG;obtain⟨tl,bh⟩:=aD (l:=cm u f.sc pos a.v) cF;obtain⟨m,hm⟩:=tE G aG aZ (x6 bh);have cH:(lv u f pos a.v)[q]?=σ (m:Int):=by
   unfold lv;rw[v8,bh];unfold om;rw[Z7,hm];rfl
  obtain⟨bK,bL⟩:=Ev (g:=tup) G Q b6 bh hm;have cI:=(x5.1 (mE b4 hm)).1;have df:m<f.cs.length:=by rw[u9]at cI;omega
  obtain⟨Y,cJ,bM,P,bi⟩:=id aL;obtain⟨bu,bN⟩:∃bu,bu=dF tup ((cm u f.sc pos a.v).take q) f.ah f.cs:=⟨_,rfl⟩;have dg:bu.length=f.cs.length:=by rw[bN,oc _ _ _ _ Ω]
  rw[<-bN]at P bK bL;have bO:(dG u j f bu).funs[j]?=σ {f with cs:=bu}:=c9 b2;obtain⟨aN,cL,dj,dk,aP,cM,cO,_,bj,_,cQ,cR⟩:=bq P bO;have cS:bu[m]?=σ (bm f.ah f.cs tl):=by
   rw[getD_some Ω,<-bK];unfold bm;rw[hm];simp
  have dn:=oj (t:=tl) G aG;have dp:bM[0]?=σ (Δ n.k):=by obtain⟨_,_,_,_,_,_,rfl,_⟩:=P.oh;rfl
  have cT:=cC Y;refine bD Ω ?_;refine dl (λH=>cn a8 ab ac al A R (λq r=>A9 q r/\r<w.heap.size) aB n s t h (dG u j f (dF tup ((cm u f.sc pos a.v).take (q+1)) f.ah f.cs)) H) (λH O=>by rw[aM];exact cG _ O) λcV cW=>?_;have ap:∀{I:x4},Ext ak I->V x8 (j5 au aP (Δ (m:Int))) I λa'=>aC x8 (o8 ao a' (Δ (tup (bm f.ah f.cs tl)))) I λ(_:Unit)H=>cV H:=λbk=>by
   refine cR bk (by show m<bu.length;omega) λH O=>cW _ (cn.comp Y bi ?_);have cX:dG (dG u j f bu) j {f with cs:=bu} (bu.set m (tup (bm f.ah f.cs tl)))=jY (dG u j f bu) j m (tup (bm f.ah f.cs tl)):=by unfold jY;rw[bO];rfl
   rw[cX,bL]at O;exact O
  have row:∀{z:x4}{K:x3->x3->x3->x3->x3->x3->Prop},Ext ak z->K (Γ al) (.pointer (σ ⟨al,0+6,ν⟩)) (.slice (σ ⟨aN,0,ν⟩) (dG u j f bu).funs.length cL) (.pointer (σ ⟨aN,0+j*4,ν⟩)) (.pointer (σ ⟨aN,0+j*4+0,ν⟩)) (.pointer (σ ⟨aN,0+j*4+0+2,ν⟩))->
    V x8 (bP (Γ al)) z λaq=>V x8 (u6 aA aq 6) z λav=>V x8 (u5 dm av) z λax=>V x8 (j5 dm ax (Δ (j:Int))) z λaz=>V x8 (u6 cU az 0) z λaT=>V x8 (u6 aX aT 2) z λcY=>K aq av ax az aT cY:=λM bl=>by
   rw[aQ aA.p 6 (P.box.ext M) cM,eL dm.u cU.i cO λ_=>rfl,aS cU.p rfl,aS aX.p rfl];exact bl
  rw[bc an.u ag.i Ψ cT cH];refine row (Ext.refl _) ?_;rw[aF (v:=aP) (o:=0+j*4+0+2) Ψ bj,bc au.u ao.i Ψ cQ cS,bb,aj];refine⟨λbn=>?_,λbn=>?_⟩
  .intro z B _ _;refine row B ?_;rw[aF (v:=aP) (o:=0+j*4+0+2) Ψ (iG B bj)];refine(tK Ω Ω).mono ?_;rintro _ I _ ⟨rfl,L⟩;refine⟨.inl L,?_⟩;have:=ap (B.trans L);rw[bd]at this;simp only[if_pos (show a.kind=0 by omega)]at this;exact this
  .intro z B _ _;refine row B ?_;rw[aF (v:=aP) (o:=0+j*4+0+2) Ψ (iG B bj)];refine(l2 Ω Ω).mono ?_;rintro _ I _ ⟨rfl,L⟩;refine⟨.inl L,?_⟩;have:=ap (B.trans L);rw[bd]at this;simp only[if_neg (show¬a.kind=0 by omega)]at this;exact this
 .rintro ak cE aL;rw[o6]at aL;refine b7 Ω ?_;obtain⟨Y,cJ,bM,P,bi⟩:=id aL;have cZ:(dG u j f (dF tup (cm u f.sc pos a.v) f.ah f.cs)).vars[N]?=σ x:=M;obtain⟨a2,bE,y,a6,a7,aK,c0⟩:=q8 P cZ;refine dl (λH=>cn w ab ac al A R A9 aB n s t h (iY u j f pos N x a.v tup un) H) (λH O=>⟨by rw[C],by rw[C];exact O⟩) λc1 c2=>?_;have c3:N<(dG u j f (dF tup (cm u f.sc pos a.v) f.ah f.cs)).vars.length:=bo;have row:∀{z:x4}{K:x3->x3->x3->x3->x3->Prop},Ext ak z->K (Γ al) (.pointer (σ ⟨al,0+5,ν⟩)) (.slice (σ ⟨a2,0,ν⟩) (dG u j f (dF tup (cm u f.sc pos a.v) f.ah f.cs)).vars.length bE) (.pointer (σ ⟨a2,0+N*1,ν⟩)) y->
    V x8 (bP (Γ al)) z λaq=>V x8 (u6 aA aq 5) z λav=>V x8 (u5 cP av) z λax=>V x8 (j5 cP ax (Δ (N:Int))) z λaz=>V x8 (u5 au az) z λaT=>K aq av ax az aT:=λM bl=>by
   rw[aQ aA.p 5 (P.box.ext M) a6,eL cP.u au.i c3 λ_=>rfl,aF (v:=y) (o:=0+N*1) Ψ (by rw[X3,U2];exact iG M a7)];exact bl
  have ap:∀{I:x4},Ext ak I->V x8 (j5 au y (Δ (v:Int))) I λa'=>aC x8 (o8 ao a' (Δ (un (x.un.getD v 0)))) I λ(_:Unit)H=>c1 H:=λbk=>by
   refine c0 bk Ω λH O=>c2 _ ?_;have c4:=cn.comp Y bi O.xi;have:=cn.comp (A9:=A9) (w:=w) (bH.aa _) (λq r E=>.inl ⟨q,E.1⟩) c4;unfold iY;rw[show a.v.toNat=v by omega];exact this
  rw[bb,aj];refine⟨λbn=>?_,λbn=>?_⟩
  .intro z B _ _;refine row B (row B ?_);rw[S,bc au.u ao.i Ψ (aK.ext B) (getD_some Ω)];rw[S,u9]at bp;refine(l2 Ω Ω).mono ?_;rintro _ I _ ⟨rfl,L⟩;refine⟨.inl L,?_⟩;have:=ap (B.trans L);rw[be]at this;simp only[if_pos (show a.kind=0 by omega)]at this;exact this
  .intro z B _ _;refine row B (row B ?_);rw[S,bc au.u ao.i Ψ (aK.ext B) (getD_some Ω)];rw[S,u9]at bp;refine(tK Ω Ω).mono ?_;rintro _ I _ ⟨rfl,L⟩;refine⟨.inl L,?_⟩;have:=ap (B.trans L);rw[be]at this;simp only[if_neg (show¬a.kind=0 by omega)]at this;exact this
end
section
variable{ap:List az}{w:x4}{ab ac:Nat}{A R:af}{n:aK}{s:am}{t:az}{a:gg}
theorem cS.step{aI:af}{s':am}{bn:az}(h:bH w ab ac A R n s t)(j:Laid w)(f:¬A 0)(a:Ext w J)(p:ae (eA J) J U)(e:Grow A J aI U)(q:bH U ab ac aI R n s' bn)(r:eC ap bn):cS ap w ab ac A R n s' U:=by
 refine⟨iw a p,hP e.1 f (j.ext a),aI,bn,(Grow.ext a).trans e,q,r,λx=>(e.2.1 0 x).elim f λy=>?_⟩;obtain⟨z,B,C,E,⟨h1,_⟩,_⟩:=h.1;have:=h.lt (.inl h1);have:=a.size;omega
theorem xm(hk:a.kind=2):bf n.k s a=match gU s a.i with
  |none=>(s,1)
  |some x=>if di n.k a.c (gS x)≠0 then(s,di n.k a.c (gS x))else(hl s a.i.toNat x (λg=>dh n.k g a.c) λg=>cN n.k g a.c,0):=by
 unfold bf gU;rw[if_neg Ω,if_neg Ω,if_pos hk];cases (if 0<=a.i then s.vars[a.i.toNat]? else ν)with
 |none=>rfl
 |some x=>
  simp only;by_cases e:x.gone=0
  .rw[if_neg Ω,if_pos e]
  .rw[if_pos e,if_neg e]
theorem xn(hk:a.kind=3):bf n.k s a=match gU s a.i with
  |none=>(s,1)
  |some x=>if di n.k a.c (if ax x=[]then-1 else s.zero)≠0 then(s,di n.k a.c (if ax x=[]then-1 else s.zero))else(hl s a.i.toNat x (λg=>cN n.k g a.c) λg=>dh n.k g a.c,0):=by
 unfold bf gU;rw[if_neg Ω,if_neg Ω,if_neg Ω,if_pos hk];cases (if 0<=a.i then s.vars[a.i.toNat]? else ν)with
 |none=>rfl
 |some x=>
  simp only;by_cases e:x.gone=0
  .rw[if_neg Ω,if_pos e]
  .rw[if_pos e,if_neg e]
theorem ER(hk:a.kind=2)(h:bH w ab ac A R n s t)(M:Laid w)(Z:¬A 0)(af:eC ap t):ai x8 GB [Γ ab,Δ a.i,Δ a.c] w (ot ap w ab ac A R n s a):=by
 have E:=h.2.2.2.1;have f:=xm (n:=n) (s:=s) hk;refine iF func55 ?_;refine bk λg1 J bG aD G=>?_;refine bk λah U bI ak H=>?_;have G:ad U g1 eh [Γ ab]:=ad.ext G ak;have H:ad U ah ag [Δ a.i]:=H;have al:=aD.trans ak;have bJ:=aD.size;have bL:=ak.size;have bM:=G.lt;have bN:=H.lt;rw[aF (v:=Γ ab) Ψ (G.Qz rfl),aF (v:=Δ a.i) Ψ (H.Qz rfl)];refine(EP (i:=a.i) (h.ext al)).mono ?_;rintro _ bO _ ⟨am,rfl⟩;have aZ:=al.trans am;have z3:=am.size;cases B:gU s a.i with
 |none=>
  rw[B]at f;rw[if_neg Ξ,bK,aj];refine⟨λ_=>?_,λh=>absurd Φ h⟩;intro a1 a2 _;exact⟨by rw[f],by rw[f];exact cS.same h M Z af (aZ.trans a2)⟩
 |some x=>
 rw[B]at f;simp only at f;obtain⟨aE,e,bP⟩:=xl B;obtain⟨u,hu⟩:=U6 aE;rw[hu,u9]at e;rw[hu,u9]at f;rw[if_pos (by rfl),bK,aj];refine⟨λh=>absurd rfl h,λ_=>?_⟩;refine bw ao.i λN bQ bR aG aH=>?_;refine bq ao.i rfl rfl aH (by simp[x3.cells]) λO an bS P=>?_;have P:ad O N ao [Δ (-1)]:=P;have z5:=aG.size;have bT:=aH.lt;have aq:=am.trans aG;have au:ad O g1 eh [Γ ab]:=(G.ext aq).aa an Ω;have av:ad O ah ag [Δ a.i]:=(H.ext aq).aa an Ω;have Q:Ext w O:=(al.trans aq).then an (by rintro r aJ rfl;omega);rw[aF (v:=Γ ab) Ψ (au.Qz rfl),aF (v:=Δ a.i) Ψ (av.Qz rfl)];refine(jW (i:=a.i) (h.ext Q)).mono ?_;rintro _ bU _ ⟨⟨b,a6,rfl,aK⟩,aL⟩;refine(nJ (b:=b) (n:=a6)).mono ?_;rintro _ a7 _ ⟨a8,aM,rfl,bV,aN⟩;have aO:=mb aK aE (show s.vars[a.i.toNat]?=σ x by rw[hu,u9];exact e);have p:=aL.trans a8;have bW:=aL.size;have bX:=aN.lt;have bY:=P.lt;have aP:∀j (v:Nat),(ax x)[j]?=σ (v:Int)->(((ax x).take (j+1)).map λv=>x.un.getD v.toNat 0).foldl j3 (-1)=j3 ((((ax x).take j).map λv=>x.un.getD v.toNat 0).foldl j3 (-1)) (x.un.getD v 0):=λj v aQ=>by
  rw[r8,aQ,l7,Z2,R5];rfl
 refine kK.old ⟨_,false,jz,#[Γ aM],_,_,_,_,λj w'=>ae (λr=>r=N) a7 w'/\ad w' N ao [Δ ((((ax x).take j).map λv=>x.un.getD v.toNat 0).foldl j3 (-1))],λ_ _ _=>False,rfl,(nI (g:=aM) aK.1).s,?_,
  λ_ _ e h=>⟨h.1.ext e,h.2.ext e⟩,λ_ _ _ e h=>⟨h.1.trans (e.aa _),h.2.ext e⟩,λ_ _ _ _ _ h=>h,⟨aN,M.ext (Q.trans p)⟩,⟨ae.refl _ _,P.ext p⟩,?_,?_,λ_ _ h=>h.elim,λ_ _ _ h=>h.elim⟩
 .rintro _ _ _ _ ⟨_,_,_,_,rfl⟩;rfl
 .rintro _ j _ ba ⟨aS,aT⟩ ⟨aQ,rfl,v,bc,bd⟩ ⟨y,S⟩;cases bd;intro be aU _ _;have ay:(ax x)[j]?=σ (v:Int):=by rw[<-aO,v8,bc];rfl
  have bg:=oq E e (x6 ay);have az:=y.trans (aU.aa _);have bh:Ext w be:=(Q.trans p).then az (by rintro r aJ rfl;omega);rw[aF (v:=Γ ab) Ψ (((au.ext p).aa az Ω).Qz rfl),aF (v:=Δ a.i) Ψ (((av.ext p).aa az Ω).Qz rfl)];refine(ob (i:=a.i) (v:=(v:Int)) (h.ext bh)).mono ?_;rintro _ bi _ ⟨rfl,bj⟩;have bl:gf s a.i.toNat (v:Int).toNat=x.un.getD v 0:=by
   unfold gf;rw[hu,u9,e];rfl
  rw[if_pos (by rw[hu];exact bg),bl,bz,bA];have I:=aU.trans bj;have K:=S.ext I;refine aW (λr bm=>(r= .bool (decide ((((ax x).take j).map λv=>x.un.getD v.toNat 0).foldl j3 (-1)<0\/x.un.getD v 0<(((ax x).take j).map λv=>x.un.getD v.toNat 0).foldl j3 (-1))))/\bm=bi) ?_ λaw L=>?_
  .rintro _ _ ⟨rfl,rfl⟩;rw[aj];refine⟨λV=>?_,λW=>?_⟩
   .refine bq ao.i rfl rfl K Ξ λbo bp bZ br=>?_;have q:ae (λr=>r=N) ba bo:=(I.aa _).trans bp;refine⟨⟨aS.aa q Ω,hP q Ω aT⟩,⟨y.trans q,?_⟩,λh=>by cases h⟩;rw[aP j v ay];unfold j3 at V ⊢;rw[if_pos V];exact br
   .refine⟨⟨aS.ext I,aT.ext I⟩,⟨y.trans (I.aa _),?_⟩,λh=>by cases h⟩;rw[aP j v ay];unfold j3 at W K ⊢;rw[if_neg W];exact K
  rw[aF (v:=Δ _) Ψ (K.Qz rfl),aR,aj];refine⟨λV=>L _ _ ⟨by rw[decide_eq_true (Or.inl V)],rfl⟩,λW=>?_⟩;rw[aF (v:=Δ _) Ψ (K.Qz rfl),aR];refine L _ _ ⟨?_,rfl⟩;congr 1;exact decide_eq_decide.2 ⟨.inr,λh=>h.resolve_left W⟩
 .rintro k aA rfl ⟨y,S⟩;rw[j9 (by rw[<-aO,u7];exact o5 _),Qb λv _=>(hn E e).1]at S;have aV:Ext w aA:=(Q.trans p).then y (by rintro r aJ rfl;omega);have aX:ad aA g1 eh [Γ ab]:=(au.ext p).aa y Ω;have bt:ad aA ah ag [Δ a.i]:=(av.ext p).aa y Ω;rw[aF (v:=Γ ab) Ψ (aX.Qz rfl),aF (v:=Δ (gS x)) Ψ (S.Qz rfl)];refine(tI (h.ext aV)).mono ?_;rintro _ b0 _ ⟨aB,rfl⟩;have X:=aV.trans aB;refine dl (λw'=>cS ap w ab ac A R n (bf n.k s a).1 w') ?_ λaw L=>?_
  .intro w' bu b1 Y _;obtain⟨bx,bB,aI,bn,bC,bD,bE⟩:=bu;refine⟨?_,bx.trans (Y.aa _),bB.ext Y,aI,bn,bC.trans (Grow.ext Y),bD.ext Y,bE⟩;rw[f];split
   .rfl
   .rename_i C;rw[X2.1 C]
  rw[bb,aj];refine⟨λC=>?_,λC=>L _ ?_⟩
  .obtain⟨q,hm⟩:=lr (λh=>h C);rw[aF (v:=Γ ab) Ψ ((aX.ext aB).Qz rfl),aF (v:=Δ a.i) Ψ ((bt.ext aB).Qz rfl),hu];refine(EQ (t:=t) (u:=u) (F1:=nj) (F2:=nk) (g:=λg=>dh n.k g a.c) (z:=λg=>cN n.k g a.c) (h.ext X) (M.ext X) Z af e (λv B=>?_) ⟨m3 E.zero q.1,λ{w A s' t}aC=>q6 aC E.zero q⟩).mono ?_
   .have aY:=hn (v:=v.toNat) E e;exact⟨mZ aY ⟨q.1,w8 B hm⟩,λ{w A s t}aC=>tJ aC aY q (.inr (w8 B hm))⟩
   .rintro _ a1 _ bF;refine L _ ?_;rw[f,if_neg (λh=>h C)];exact bF.before X
  .rw[f,if_pos C];exact cS.same h M Z af X
theorem Qe{b m:Nat}{i:Int}{x:bh}(p:tr s n i b m)(hi:0<=i)(q:s.vars[i.toNat]?=σ x):b=0↔ax x=[]:=by
 have a:=mb p hi q;constructor
 .rintro rfl;rw[<-a];have:gD 0 m=[]:=List.eq_nil_iff_forall_not_mem.2 λv e=>by
   have:=(vm.1 e).2;simp at this
  rw[this];rfl
 .intro he;rw[he]at a;have e:=List.map_eq_nil_iff.1 a;refine Nat.eq_of_testBit_eq λj=>?_;rw[Nat.zero_testBit];cases f:b.testBit j with
  |false=>rfl
  |true=>
   have r:j<m:=by
    rcases Nat.lt_or_ge j m with h|h
    .exact h
    .have:=Nat.testBit_lt_two_pow (x:=b) (i:=j) (T5 p.1.2 (T6 Ω h));rw[this]at f;cases f
   have:j∈gD b m:=vm.2 ⟨r,f⟩;rw[e]at this;cases this
theorem Qf(hk:a.kind=3)(h:bH w ab ac A R n s t)(G:Laid w)(H:¬A 0)(I:eC ap t):ai x8 GU [Γ ab,Δ a.i,Δ a.c] w (ot ap w ab ac A R n s a):=by
 have K:=h.2.2.2.1;have f:=xn (n:=n) (s:=s) hk;refine ay func77 ?_;refine(EP (i:=a.i) h).mono ?_;rintro _ J _ ⟨L,rfl⟩;cases y:gU s a.i with
 |none=>
  rw[y]at f;rw[if_neg Ξ,bK,aj];exact⟨λ_=>⟨by rw[f],by rw[f];exact cS.same h G H I L⟩,λh=>absurd Φ h⟩
 |some x=>
 rw[y]at f;simp only at f;obtain⟨N,B,ah⟩:=xl y;rw[if_pos (by rfl),bK,aj];refine⟨λh=>absurd rfl h,λ_=>?_⟩;refine(oa (h.ext L)).mono ?_;rintro _ U _ ⟨rfl,Y⟩;have O:=L.trans Y;refine aW (λr w'=>r=Δ (if ax x=[]then-1 else s.zero)/\Ext w w') ?_ λaw p=>?_
 .rintro _ ak ⟨rfl,P⟩;refine(tI (h.ext P)).mono ?_;rintro _ al _ ⟨Z,rfl⟩;have C:=P.trans Z;refine dl (λw'=>cS ap w ab ac A R n (bf n.k s a).1 w') ?_ λaw p=>?_
  .intro w' aa;refine⟨?_,aa⟩;rw[f];generalize (if ax x=[]then(-1:Int)else s.zero)=am;split
   .rfl
   .rename_i j;rw[X2.1 j]
  rw[bb,aj];refine⟨λj=>?_,λj=>p _ ?_⟩
  .obtain⟨E,hm⟩:=lr (λh=>h j);have Q:a.c<=s.zero:=by
    split at hm
    .omega
    .exact hm
   obtain⟨u,hu⟩:=U6 N;rw[hu,u9]at B;rw[hu];refine(EQ (t:=t) (u:=u) (F1:=nk) (F2:=nj) (g:=λg=>cN n.k g a.c) (z:=λg=>dh n.k g a.c) (h.ext C) (G.ext C) H I B (λv y=>?_) ⟨mZ K.zero ⟨E.1,Q⟩,λ{w A s' t}M=>tJ M K.zero E (.inr Q)⟩).mono ?_
   .have S:=hn (v:=v.toNat) K B;exact⟨m3 S E.1,λ{w A s t}M=>q6 M S E⟩
   .rintro _ an _ ad;refine p _ ?_;rw[f,if_neg (λh=>h j),hu,u9];exact ad.before C
  .rw[f,if_pos j];exact cS.same h G H I C
 refine(jW (i:=a.i) (h.ext O)).mono ?_;rintro _ ao _ ⟨⟨b,ae,rfl,T⟩,af⟩;refine(ht (b:=b) (n:=ae) T.1).mono ?_;rintro _ aq _ ⟨⟨q,rfl,V⟩,ag⟩;have W:=(O.trans af).trans ag;have X:=Qe T N B;rw[bb,aj];refine⟨λh=>p _ _ ⟨by rw[if_pos (X.1 (V.1 h))],W⟩,λh=>p _ _ ⟨by rw[if_neg λe=>h (V.2 (X.2 e))],W⟩⟩
theorem ES(hk:a.kind=4)(h:bH w ab ac A R n s t)(j:Laid w)(p:¬A 0)(f:eC ap t):ai x8 GV [Γ ab,Δ a.i,Δ a.v] w (ot ap w ab ac A R n s a):=by
 have q:=h.2.2.2.1;have e:bf n.k s a=match dH s a.i a.v with
  |none=>(s,1)
  |some x=>if cN n.k s.zero (x.un.getD a.v.toNat 0)<n.k then(s,7)else(dM s a.i.toNat a.v.toNat,0):=by
  unfold bf;rw[if_neg Ω,if_neg Ω,if_neg Ω,if_neg Ω,if_pos hk];cases dH s a.i a.v<;>rfl
 refine ay func78 ?_;refine(xg h).mono ?_;rintro _ J _ ⟨z,rfl⟩;cases B:dH s a.i a.v with
 |none=>
  rw[B]at e;rw[if_neg Ξ,bK,aj];exact⟨λ_=>⟨by rw[e],by rw[e];exact cS.same h j p f z⟩,λh=>absurd Φ h⟩
 |some x=>
 rw[B]at e;simp only at e;obtain⟨Z,C,aa,L⟩:=jr B;rw[if_pos (by rfl),bK,aj];refine⟨λh=>absurd rfl h,λ_=>?_⟩;have G:eU n a.i a.v:=by
  have:=oq q C L;rwa [show((a.i.toNat:Nat):Int)=a.i by omega]at this
 refine(ob (i:=a.i) (v:=a.v) (h.ext z)).mono ?_;rintro _ U _ ⟨rfl,M⟩;have N:gf s a.i.toNat a.v.toNat=x.un.getD a.v.toNat 0:=by
  unfold gf;rw[C]
 rw[if_pos G,N,bz,bA];have H:=z.trans M;refine(oa (h.ext H)).mono ?_;rintro _ ad _ ⟨rfl,O⟩;have I:=H.trans O;refine(q6 (h.ext I) q.zero (hn q C)).mono ?_;rintro _ ae _ ⟨rfl,P⟩;have K:=I.trans P;refine(mR (h.ext K)).mono ?_;rintro _ af _ ⟨rfl,Q⟩;have E:=K.trans Q;rw[aR,aj];refine⟨λS=>?_,λT=>?_⟩
 .rw[if_pos S]at e;exact⟨by rw[e],by rw[e];exact cS.same h j p f E⟩
 .rw[if_neg T]at e;refine(wO (i:=a.i) (v:=a.v) (h.ext E) f.room).mono ?_;rintro r ag _ ⟨_,V⟩;obtain⟨rfl,W,aI,y,X,Y⟩:=V G;refine⟨by rw[e],?_⟩;rw[e];exact cS.step h j p E W X Y f.set
theorem Qg(hk:5<=a.kind)(h:bH w ab ac A R n s t)(P:Laid w)(V:¬A 0)(W:eC ap t):ai x8 GW [Γ ab,Δ a.i,Δ a.v] w (ot ap w ab ac A R n s a):=by
 have aw:=h.2.2.2.1;have q:bf n.k s a=match dH s a.i a.v with
  |none=>(s,1)
  |some x=>(gh s a.i.toNat a.v (ax x),0):=by
  unfold bf;rw[if_neg Ω,if_neg Ω,if_neg Ω,if_neg Ω,if_neg Ω];cases dH s a.i a.v<;>rfl
 refine iF func79 ?_;refine bk λg1 J aZ X z=>?_;refine bk λay U a1 Q B=>?_;refine bk λaz C a2 K E=>?_;have z:ad C g1 eh [Γ ab]:=(ad.ext z Q).ext K;have B:ad C ay ag [Δ a.i]:=ad.ext B K;have E:ad C az ag [Δ a.v]:=E;have L:=(X.trans Q).trans K;have a6:=X.size;have a7:=Q.size;have z3:=K.size;have aA:=z.lt;have aB:=B.lt;have aC:=E.lt;rw[aF (v:=Γ ab) Ψ (z.Qz rfl),aF (v:=Δ a.i) Ψ (B.Qz rfl),aF (v:=Δ a.v) Ψ (E.Qz rfl)];refine(xg (h.ext L)).mono ?_;rintro _ a8 _ ⟨G,rfl⟩;have Y:=L.trans G;have z4:=G.size;cases S:dH s a.i a.v with
 |none=>
  rw[S]at q;rw[if_neg Ξ,bK,aj];refine⟨λ_=>?_,λh=>absurd Φ h⟩;intro ba aD _;exact⟨by rw[q],by rw[q];exact cS.same h P V W (Y.trans aD)⟩
 |some x=>
 rw[S]at q;simp only at q;obtain⟨aE,f,bb,bc⟩:=jr S;rw[if_pos (by rfl),bK,aj];refine⟨λh=>absurd rfl h,λ_=>?_⟩;rw[aF (v:=Γ ab) Ψ ((z.ext G).Qz rfl),aF (v:=Δ a.i) Ψ ((B.ext G).Qz rfl)];refine(jW (i:=a.i) (h.ext Y)).mono ?_;rintro _ bd _ ⟨⟨b,aG,rfl,Z⟩,af⟩;refine(nJ (b:=b) (n:=aG)).mono ?_;rintro _ M _ ⟨aH,ah,rfl,be,ak⟩;have al:=mb Z aE f;have N:=(G.trans af).trans aH;have bg:=af.size;have bh:=N.size;have bi:=ak.lt;refine kK.old ⟨_,false,jz,#[Γ ah],_,_,_,_,λj w'=>eX ap w ab ac A R n w.heap.size (λr=>M.heap.size<=r) (gh s a.i.toNat a.v ((ax x).take j)) w'/\ae (λr=>r<w.heap.size\/M.heap.size<=r) M w',λ_ _ _=>False,rfl,(nI (g:=ah) Z.1).s,?_,
  λ_ _ f h=>⟨h.1.ext f,h.2.ext f⟩,λ_ _ _ f h=>⟨h.1.ext f,h.2.trans (f.aa _)⟩,λ_ _ _ _ _ h=>h,⟨ak,P.ext (L.trans N)⟩,⟨eX.start h P V W (L.trans N) (o5 _),ae.refl _ _⟩,?_,?_,λ_ _ h=>h.elim,λ_ _ _ h=>h.elim⟩
 .rintro _ _ _ _ ⟨_,_,_,_,rfl⟩;rfl
 .rintro _ j _ bj ⟨am,aJ⟩ ⟨bl,rfl,v,aK,aL⟩ ⟨H,I⟩;cases aL;intro aM p _ _;have an:(ax x)[j]?=σ (v:Int):=by rw[<-al,v8,aK];rfl
  have aN:eU n a.i (v:Int):=by
   have:=oq aw f (x6 an);rwa [show((a.i.toNat:Nat):Int)=a.i by omega]at this
  have aU:∀{g:Nat}{e:r9}{cs:List x3},w.heap.size<=g->g<C.heap.size->ad C g e cs->ad aM g e cs:=λaO aP aQ=>((aQ.ext N).aa I Ω).ext p;have O:=Qa (s:=s) (i:=a.i.toNat) (v:=a.v) an;obtain⟨bm,bn,aR,ao,aS⟩:=H.open;rw[aF (v:=Δ a.v) Ψ ((aU Ω aC E).Qz rfl),bK,aj];refine⟨λaT=>?_,λhe=>?_⟩
  .rw[if_pos aT]at O;rw[aF (v:=Γ ab) Ψ ((aU Ω aA z).Qz rfl),aF (v:=Δ a.i) Ψ ((aU Ω aB B).Qz rfl)];refine(wO (i:=a.i) (v:=(v:Int)) (aR.ext p) ao.room).mono ?_;rintro r bo _ ⟨_,aV⟩;obtain⟨rfl,aW,aI,y,aX,aq⟩:=aV aN;rw[<-O]at aq;have bp:=I.size;obtain⟨au,av,bq⟩:=aS (D':=λr=>M.heap.size<=r) (iw p aW) ((Grow.ext p).trans aX) aq ao.set (λr h=>h) λr aO aP=>Ω
   exact⟨⟨am.aa av Ω,au.2.1.1⟩,⟨au,I.trans av⟩,λh=>by cases h⟩
  .rw[if_neg he]at O;exact⟨⟨am.ext p,aJ.ext p⟩,⟨by rw[O];exact H.ext p,I.trans (p.aa _)⟩,λh=>by cases h⟩
 .rintro k br rfl ⟨H,I⟩;rw[j9 (by rw[<-al,u7];exact o5 _)]at H;intro bt aY _;exact⟨by rw[q],by rw[q];exact H.done aY⟩
end
theorem Qh{c8:x3}(h:aH .i64 w c8 l)(N:l.length<=1000000):ai x8 Hw [c8,Δ v] w λr w'=>Ext w w'/\(∃g,aq .i64 ag w' g r (l.filter λy=>!decide (y=v)))/\∀q,leads r q->w.heap.size<=q:=by
 refine ay func144 ?_;rw[aV an.u h];refine b3.range l.length (λi out f=>Ext w f/\(∃g,aq .i64 ag f g out ((l.take i).filter λy=>!decide (y=v)))/\∀r,leads out r->w.heap.size<=r) h.le ⟨Ext.refl _,⟨0,aq.nil _ _ _ _⟩,λr B=>by obtain⟨_,_,_,e,_⟩:=B;cases e⟩ ?_ ?_
 .rintro q out f C E ⟨a,⟨g,hm⟩,j⟩ G;obtain⟨y,p⟩:=aD (l:=l) E;have s:(l.take (q+1)).filter (λy=>!decide (y=v))=(l.take q).filter (λy=>!decide (y=v))++(if y≠v then[y]else[]):=by
   rw[r8,p,l7,List.filter_append];congr 1;by_cases ap:y=v<;>simp[ap]
  refine bD Ω ?_;refine aW (λx z=>Ext w z/\(∃g,aq .i64 ag z g x ((l.take (q+1)).filter λy=>!decide (y=v)))/\∀r,leads x r->w.heap.size<=r) (λ_ _ H=>by rw[aM];exact G _ _ H) λaw A=>?_;rw[bc an.u ag.i Ψ (h.ext a) p,bK,aj];refine⟨λI=>?_,λhe=>A _ _ ⟨a,⟨g,by rw[s,if_neg he,U9];exact hm⟩,j⟩⟩;refine Ez (w0:=w) a hm j ?_ λO w' J K L M=>A _ _ ⟨K,⟨J,by rw[s,if_pos I];exact L⟩,M⟩;have h1:=List.length_filter_le (λy=>!decide (y=v)) (l.take q);rw[n9]at h1;omega
 .rintro out f C ⟨a,hm,j⟩;rw[o6]at hm;refine b7 Ω ?_;exact⟨a,hm,j⟩
theorem xo{i:Nat}{v:Int}:∀(L:Λ)(s:am)(x:bh),s.vars[i]?=σ x->(∀y∈L,0<=y)->∃m,gh s i v L={s with vars:=s.vars.set i {x with mask:=m}}/\ax {x with mask:=m}=(ax x).filter λy=>!(decide (y∈L)&& !decide (y=v))
 |[],s,x,f,_=>by
  refine⟨x.mask,?_,(List.filter_eq_self.2 λy _=>Ξ).symm⟩;have:s.vars.set i x=s.vars:=by
   apply Y7;intro q;by_cases e:i=q
   .subst e;rw[c9 (x5.1 f).1,f]
   .rw[Y5 e]
  show s={s with vars:=s.vars.set i x};rw[this]
 |w::L,s,x,f,j=>by
  have hw:=j w (.head _);have z:=(x5.1 f).1;rw[gh];by_cases e:w≠v
  .rw[if_pos e];have r:dM s i w.toNat={s with vars:=s.vars.set i {x with mask:=((x.mask.toNat ||| 2 ^ w.toNat:Nat):Int)}}:=by unfold dM;rw[f]
   obtain⟨m,h1,p⟩:=xo L (dM s i w.toNat) {x with mask:=((x.mask.toNat ||| 2 ^ w.toNat:Nat):Int)} (by rw[r];exact c9 z) λy a=>j y (.tail _ a);refine⟨m,?_,?_⟩
   .rw[h1,r];simp only[List.set_set]
   .rw[p,w6 hw,List.filter_filter];refine List.filter_congr λy _=>?_;by_cases a:y=w
    .subst a;simp[e]
    .simp[a]
  .rw[if_neg e];obtain⟨m,h1,p⟩:=xo L s x f λy a=>j y (.tail _ a);refine⟨m,h1,?_⟩;rw[p];have e:=X2.1 e;refine List.filter_congr λy _=>?_;by_cases a:y=v
   .simp[a]
   .have:y≠w:=λh=>a (h.trans e);simp[a,this]
theorem filter_one(j:l.Nodup)(f:v∈l):l.filter (λy=>decide (y=v))=[v]:=by
 induction l with
 |nil=>cases f
 |cons a l p=>
  have h:=List.nodup_cons.1 j;by_cases e:a=v
  .subst e;rw[List.filter_cons_of_pos Ξ,List.filter_eq_nil_iff.2 λx q=>by simp;intro r;exact h.1 (r▸q)]
  .rw[List.filter_cons_of_neg (by simpa using e)];exact p h.2 ((V1.1 f).resolve_left (S6 e))
def ju(u:am)(a:gg):Option bh:=if 3<a.kind then dH u a.i a.v else gU u a.i
section
variable{w:x4}{ab ac al:Nat}{A R:af}{A9:Nat->af}{aB:af}{n:aK}{s u:am}{t:az}{h:List az}{cs:List x3}{a:gg}
theorem ET{x:bh}(h:ju u a=σ x):0<=a.i/\u.vars[a.i.toNat]?=σ x/\x.gone=0/\(3<a.kind->a.v∈ax x):=by
 unfold ju at h;split at h
 .obtain⟨h1,e,f,j⟩:=jr h;exact⟨h1,e,f,λ_=>j⟩
 .rename_i hk;obtain⟨h1,e,f⟩:=xl h;exact⟨h1,e,f,λh=>absurd h hk⟩
theorem Qi(h:¬(0<=a.i/\a.i<u.vars.length)):ju u a=ν:=by
 cases he:ju u a with
 |none=>rfl
 |some x=>
  obtain⟨h1,e,_⟩:=ET he;exact absurd ⟨h1,by have:=(x5.1 e).1;omega⟩ h
theorem Qj{x:bh}(e:0<=a.i)(f:u.vars[a.i.toNat]?=σ x):ju u a=if x.gone=0/\(3<a.kind->a.v∈ax x)then σ x else ν:=by
 unfold ju;by_cases hk:3<a.kind
 .rw[if_pos hk];unfold dH;rw[if_pos e,f];simp only[hk,true_implies]
 .rw[if_neg hk];unfold gU;rw[if_pos e,f];simp only[hk,false_implies,and_true]
theorem Qk(hk:2<=a.kind/\a.kind<=5)(h:ju u a=ν):bf n.k u a=(u,1):=by
 unfold ju at h;by_cases e:3<a.kind
 .rw[if_pos e]at h;unfold bf;rw[if_neg Ω,if_neg Ω,if_neg Ω,if_neg Ω,h];split<;>rfl
 .rw[if_neg e]at h;by_cases f:a.kind=2
  .rw[xm f,h]
  .rw[xn Ω,h]
theorem EU{x:bh}(q:0<=c):gS x<c↔ax x=[]\/∃v∈ax x,x.un.getD v.toNat 0<c:=by
 unfold gS;constructor
 .intro h;cases e:ax x with
  |nil=>exact .inl rfl
  |cons b l=>
   refine .inr ?_;rw[e]at h;simp only[T1]at h;by_cases f:∀v∈b::l,c<=x.un.getD v.toNat 0
   .have:=(mX (l.map λv=>x.un.getD v.toNat 0) (x.un.getD b.toNat 0) c).2 ⟨f b (.head _),λy j=>by obtain⟨v,a,rfl⟩:=j0.1 j;exact f v (.tail _ a)⟩;omega
   .simp only[Classical.not_forall]at f;obtain⟨v,a,r⟩:=f;exact⟨v,a,Ω⟩
 .rintro (h|⟨v,a,s⟩)
  .rw[h];show(-1:Int)<c;omega
  .cases e:ax x with
   |nil=>rw[e]at a;cases a
   |cons b l=>
    rw[e]at a;simp only[T1];rcases Int.lt_or_le ((l.map λv=>x.un.getD v.toNat 0).foldl min (x.un.getD b.toNat 0)) c with ap|ap
    .exact ap
    .obtain⟨w,p⟩:=(mX _ _ _).1 ap;rcases V1.1 a with rfl|a
     .omega
     .have:=p _ (j0.2 ⟨v,a,rfl⟩);omega
def xp(n:aK)(u:am)(x:bh)(a:gg):Prop:=ax x=[]\/(a.kind=3/\u.zero<a.c)\/(a.kind=2/\∃v∈ax x,x.un.getD v.toNat 0<a.c)
theorem Ql{x:bh}(hk:a.kind=2\/a.kind=3)(h:ju u a=σ x):(¬(0<=a.c/\a.c<=n.k)->bf n.k u a=(u,3))/\((0<=a.c/\a.c<=n.k)->xp n u x a->bf n.k u a=(u,7))/\
  ((0<=a.c/\a.c<=n.k)->¬xp n u x a->bf n.k u a=(hl u a.i.toNat x (λg=>if a.kind=2 then dh n.k g a.c else cN n.k g a.c) (λg=>if a.kind=2 then cN n.k g a.c else dh n.k g a.c),0)/\(a.kind=2->∀v∈ax x,a.c<=x.un.getD v.toNat 0)/\(a.kind=3->a.c<=u.zero)):=by
 have r:gU u a.i=σ x:=by unfold ju at h;rwa [if_neg Ω]at h
 rcases hk with hk|hk
 .have e:=xm (n:=n) (s:=u) hk;rw[r]at e;simp only at e;simp only[hk];refine⟨λf=>?_,λf hi=>?_,λf hi=>?_⟩
  .have j:∀m,di n.k a.c m=3:=λm=>by unfold di;rw[if_pos f]
   rw[j,if_pos Φ]at e;exact e
  .have p:gS x<a.c:=(EU f.1).2 (hi.elim .inl λh=>h.elim (λh=>Ω) λh=>.inr h.2);have j:∀m,m<a.c->di n.k a.c m=7:=λm hm=>by unfold di;rw[if_neg (λh=>h f),if_pos hm]
   rw[j _ p,if_pos Φ]at e;exact e
  .have p:¬gS x<a.c:=λh=>hi (((EU f.1).1 h).elim .inl λh=>.inr (.inr ⟨hk,h⟩));have j:di n.k a.c (gS x)=0:=by unfold di;rw[if_neg (λh=>h f),if_neg p]
   rw[j,if_neg Φ]at e;refine⟨by rw[e];simp,λ_ v r=>?_,λh=>absurd h Φ⟩;rcases Int.lt_or_le (x.un.getD v.toNat 0) a.c with ap|ap
   .exact absurd (.inr (.inr ⟨hk,v,r,ap⟩)) hi
   .exact ap
 .have e:=xn (n:=n) (s:=u) hk;rw[r]at e;simp only at e;simp only[hk];refine⟨λf=>?_,λf hi=>?_,λf hi=>?_⟩
  .have j:∀m,di n.k a.c m=3:=λm=>by unfold di;rw[if_pos f]
   rw[j,if_pos Φ]at e;exact e
  .have p:(if ax x=[]then-1 else u.zero)<a.c:=by
    by_cases q:ax x=[]
    .rw[if_pos q];omega
    .rw[if_neg q];rcases hi with hi|hi|hi
     .exact absurd hi q
     .exact hi.2
     .omega
   have j:∀m,m<a.c->di n.k a.c m=7:=λm hm=>by unfold di;rw[if_neg (λh=>h f),if_pos hm]
   rw[j _ p,if_pos Φ]at e;exact e
  .have q:¬ax x=[]:=λh=>hi (.inl h);have w:¬u.zero<a.c:=λh=>hi (.inr (.inl ⟨hk,h⟩));have j:di n.k a.c u.zero=0:=by unfold di;rw[if_neg (λh=>h f),if_neg w]
   rw[if_neg q,j,if_neg Φ]at e;exact⟨by rw[e];simp,λh=>absurd h Φ,λ_=>Ω⟩
end
section
variable{w:x4}{ab ac al:Nat}{A R:af}{A9:Nat->af}{aB:af}{n:aK}{s u:am}{t:az}{h:List az}{cs:List x3}{a:gg}
theorem Qm(p:b5 w ab ac al A R A9 aB n s u t h cs)(av:bg n.k n.sizes u)(hk:2<=a.kind/\a.kind<=5):ai x8 uL [Γ al,Δ (a.kind:Int),Δ a.i,Δ a.pos,Δ a.v,Δ a.c] w λr w'=>r=Δ (bf n.k u a).2/\cn w ab ac al A R A9 aB n s t h (bf n.k u a).1 w':=by
 have cA:=av.vars;have cB:=av.fu;refine ay func74 ?_;have bM:cs[0]?=σ (Δ n.k):=by obtain⟨_,_,_,_,_,_,rfl,_⟩:=p.oh;rfl
 rw[aQ aA.p 0 p.box bM,aR,aj];refine⟨λh=>Ω,λ_=>?_⟩;refine aW (λr w'=>r= .bool (!(ju u a).isSome)/\Ext w w') ?_ λaw a7=>?_
 rotate_left
 .rw[bX];refine p.look.load λdO cC=>?_;refine(Pe (i:=a.i) cC).mono ?_;rintro _ J _ ⟨rfl,Y⟩;rw[bJ,cj];refine⟨λP=>a7 _ _ ⟨by rw[Qi (λh=>by rw[cA]at h;rw[decide_eq_true h]at P;cases P)];rfl,Y⟩,λP=>?_⟩;have a8:0<=a.i/\a.i<n.sizes.length:=by simpa using P
  obtain⟨x,I⟩:=aD (l:=u.vars) (i:=a.i.toNat) Ω;have bq:=Qj a8.1 I;obtain⟨szv,cD,dq,aU,dr,br,bN,_,_,cE,cF,ds,dt,du⟩:=(p.look).ext Y;rw[aQ aA.p 4 bN rfl];refine gw (α:=Bool) (a:=decide (x.gone≠0)) (i:=a.i.toNat) rfl Ω hM.u eb.i Ψ cF (by rw[v8,I];rfl) λbO bt=>?_;have bt:[bO]=[x3.bool (decide (x.gone≠0))]:=bt;obtain rfl:bO=x3.bool (decide (x.gone≠0)):=by simpa using bt
  rw[aj];refine⟨λQ=>a7 _ _ ⟨by rw[bq,if_neg λh=>Q h.1];rfl,Y⟩,λQ=>?_⟩;have Q:=X2.1 Q;rw[bS,aj];refine⟨λbu=>?_,λbu=>a7 _ _ ⟨by rw[bq,if_pos ⟨Q,λh=>absurd h Ω⟩];rfl,Y⟩⟩;rw[aQ aA.p 3 bN rfl];refine gw (α:=Λ) (a:=ax x) (i:=a.i.toNat) rfl Ω b2.u an.i Ψ cE (by rw[v8,I];rfl) λdv cG=>?_;refine(tu (dD cG)).mono ?_;rintro _ U _ ⟨rfl,L⟩;rw[bJ];refine a7 _ _ ⟨?_,Y.trans L⟩;rw[bq];by_cases H:a.v∈ax x
  .rw[if_pos ⟨Q,λ_=>H⟩,decide_eq_true H];rfl
  .rw[if_neg λh=>H (h.2 Ω),decide_eq_false H];rfl
 rintro _ J ⟨rfl,Y⟩;cases hm:ju u a with
 |none=>
  have f:=Qk (n:=n) hk hm;rw[S9,X9,bQ];exact⟨by rw[f],by rw[f];exact cn.same p Y⟩
 |some x=>
 rw[S8,Y9,aY];obtain⟨cH,I,dw,cI⟩:=ET hm;obtain⟨B,aK⟩:=U6 cH;rw[aK,u9]at I;have bw:=(x5.1 I).1;have G:∀y∈ax x,0<=y/\y<x.un.length:=λy O=>(fd.1 O).1;simp only[aK];have bT:∀v:Nat,0<=x.un.getD v 0/\x.un.getD v 0<=n.k:=λv=>hn av I;have N:=p.ext Y;have dx:cs[0]?=σ (Δ n.k):=bM;have bx:∀{U:x4}{eQ:am}{bU:List x3}{bz:Nat->af}{aL:bh},b5 U ab ac al A R bz aB n s eQ t h bU->eQ.vars[B]?=σ aL->∃aU az y,aH .i64 U y aL.un/\(∀{j:x4}{K:x3->x3->x3->x3->x3->Prop},Ext U j->K (Γ al) (.pointer (σ ⟨al,0+5,ν⟩)) aU (.pointer (σ ⟨az,0+B*1,ν⟩)) y->
    V x8 (bP (Γ al)) j λaE=>V x8 (u6 aA aE 5) j λaG=>V x8 (u5 cP aG) j λaN=>V x8 (j5 cP aN (Δ (B:Int))) j λba=>V x8 (u5 au ba) j λcJ=>K aE aG aN ba cJ)/\
   ∀{w':x4}{v:Nat}{c:Int}{K:Unit->x4->Prop},Ext U w'->v<aL.un.length->(∀bV,js U ab ac al A R bz aB n s t h (ev eQ B aL (aL.un.set v c)) bV->K () bV)->V x8 (j5 au y (Δ (v:Int))) w' λa=>aC x8 (o8 ao a (Δ c)) w' K:=λ{U eQ bU bz aL}bW C=>by
  obtain⟨az,cK,y,cL,cM,ah,bA⟩:=q8 bW C;have cO:=(x5.1 C).1;refine⟨.slice (σ ⟨az,0,ν⟩) eQ.vars.length cK,az,y,ah,λ{j K}aI aX=>?_,bA⟩;rw[aQ aA.p 5 (bW.box.ext aI) cL,eL cP.u au.i cO λ_=>rfl,aF (v:=y) (o:=0+B*1) Ψ (by rw[X3,U2];exact iG aI cM)];exact aX
 obtain⟨cQ,cR,bd,bY,cS,ak,cT,bZ⟩:=EE N I;have b0:∀{j:x4}{K:x3->x3->x3->Prop},Ext J j->K (Γ al) (.pointer (σ ⟨al,0+3,ν⟩)) (.slice (σ ⟨cQ,0,ν⟩) u.vars.length cR)->
   V x8 (bP (Γ al)) j λaE=>V x8 (u6 aA aE 3) j λaG=>V x8 (u5 b2 aG) j λaN=>K aE aG aN:=λaI aX=>by
  rw[aQ aA.p 3 (N.box.ext aI) bY];exact aX
 have oi:∀{j:x4}{K:x3->Prop},Ext J j->K bd->
   V x8 (bP (Γ al)) j λaE=>V x8 (u6 aA aE 3) j λaG=>V x8 (u5 b2 aG) j λaN=>V x8 (j5 b2 aN (Δ (B:Int))) j λba=>V x8 (u5 an ba) j K:=λaI aX=>by
  rw[aQ aA.p 3 (N.box.ext aI) bY,eL b2.u an.i bw λ_=>rfl,aF (v:=bd) (o:=0+B*1) Ψ (by rw[X3,U2];exact iG aI cS)];exact aX
 have low:∀{u':am}{w':x4},cn J ab ac al A R A9 aB n s t h u' w'->cn w ab ac al A R A9 aB n s t h u' w':=λbe=>cn.comp (Y.aa _) (λq r G=>.inl ⟨q,G⟩) be;refine aW (λ_ w'=>cn w ab ac al A R A9 aB n s t h (bf n.k u a).1 w'/\(bf n.k u a).2=0) (λ_ w' be=>⟨by rw[be.2],be.1⟩) λcU bB=>?_;refine aW (λr w'=>r= .bool (decide (a.kind=2\/a.kind=3))/\J=w') ?_ λdy b4=>?_
 rotate_left
 .rw[bb,aj];refine⟨λC=>b4 _ _ ⟨?_,rfl⟩,λC=>?_⟩
  .congr 1;exact decide_eq_decide.2 ⟨λ_=>.inl Ω,λ_=>C⟩
  .rw[bb];refine b4 _ _ ⟨?_,rfl⟩;congr 1;exact decide_eq_decide.2 ⟨λh=>.inr Ω,λh=>Ω⟩
 rintro _ _ ⟨rfl,rfl⟩;rw[aj];refine⟨λcV=>?_,λdz=>?_⟩
 .
  obtain⟨cW,bi,bC⟩:=Ql (n:=n) cV hm;refine zR.mono ?_;rintro _ U _ ⟨rfl,L⟩;have dA:=L;have b6:cz a.c n.k↔0<=a.c/\a.c<=n.k:=⟨λh=>h.2,λC=>⟨cB,C⟩⟩;rw[bJ,cj];refine⟨λP=>?_,λP=>?_⟩
  .have f:=cW λh=>absurd (b6.2 h) (by simpa using P);exact⟨by rw[f],by rw[f];exact low (cn.same N L)⟩
  have a8:=b6.1 (show cz a.c n.k by simpa using P);have bi:=bi a8;have bC:=bC a8;refine aW (λr w'=>Ext J w'/\∃b,r= .bool b/\(b=true↔ax x=[]\/(a.kind=3/\u.zero<a.c))) ?_ λdC bE=>?_
  rotate_left
  .refine oi L ?_;rw[aV an.u (ak.ext L),bb,aj];refine⟨λhe=>bE _ _ ⟨L,true,rfl,⟨λ_=>.inl (b9 Ω),λ_=>rfl⟩⟩,λbj=>?_⟩;have bj:ax x≠[]:=λh=>bj (by rw[h];rfl);rw[bb,aj];refine⟨λbu=>?_,λbu=>bE _ _ ⟨L,false,rfl,⟨(λh=>by cases h),λh=>h.elim (λh=>absurd h bj) λh=>Ω⟩⟩⟩;have bF:cs[2]?=σ (Δ u.zero):=by obtain⟨_,_,_,_,_,_,rfl,_⟩:=p.oh;rfl
   rw[aQ aA.p 2 (N.box.ext L) bF,bS];exact bE _ _ ⟨L,_,rfl,by rw[decide_eq_true_eq];exact⟨λh=>.inr ⟨Ω,h⟩,λh=>h.elim (λh=>absurd h bj) λh=>h.2⟩⟩
  rintro _ cX ⟨aO,b,rfl,b8⟩;rw[cj];refine⟨λcY=>?_,λca=>?_⟩
  .have f:=bi ((b8.1 cY).elim .inl λh=>.inr (.inl h));exact⟨by rw[f],by rw[f];exact low (cn.same N aO)⟩
  have cb:¬(ax x=[]\/(a.kind=3/\u.zero<a.c)):=λh=>by rw[b8.2 h]at ca;cases ca
  refine oi aO ?_;rw[aV an.u (ak.ext aO)];refine b3.range (ax x).length (λq _ w'=>Ext J w'/\(a.kind=2->∀v∈(ax x).take q,a.c<=x.un.getD v.toNat 0)) ak.le ⟨aO,λ_ v H=>by simp at H⟩ ?_ ?_
  .rintro q cc aJ cZ bG ⟨M,bk⟩ c0;obtain⟨v,H⟩:=aD (l:=ax x) bG;have aq:=x6 H;have bl:=G v aq;obtain⟨E,rfl⟩:=U6 bl.1;refine bD Ω ?_;rw[bc an.u ag.i Ψ (ak.ext M) H];refine aW (λr w'=>aJ=w'/\r= .bool (decide (a.kind=2/\x.un.getD E 0<a.c))) ?_ λdE cd=>?_
   .rintro _ _ ⟨rfl,rfl⟩;rw[aj];refine⟨λaZ=>?_,λbH=>?_⟩
    .have f:=bi (.inr (.inr ⟨aZ.1,_,aq,aZ.2⟩));exact⟨by rw[f],by rw[f];exact low (cn.same N M)⟩
    .rw[aM];refine c0 _ _ ⟨M,λC y O=>?_⟩;rw[r8,H,l7,l9,j4]at O;rcases O with O|rfl
     .exact bk C y O
     .rcases Int.lt_or_le (x.un.getD E 0) a.c with ap|ap
      .exact absurd ⟨C,ap⟩ bH
      .exact ap
   rw[bb,aj];refine⟨λC=>?_,λC=>cd _ _ ⟨rfl,by rw[decide_eq_false λh=>C Ω]⟩⟩;obtain⟨aU,az,y,ah,look,_⟩:=bx (N.ext M) I;refine look (Ext.refl _) ?_;rw[bc au.u ao.i Ψ ah (getD_some (i:=E) Ω),bS];refine cd _ _ ⟨rfl,?_⟩;congr 1;exact decide_eq_decide.2 ⟨λh=>⟨Ω,h⟩,λh=>h.2⟩
  rintro cc aJ cZ ⟨M,bk⟩;rw[o6]at bk;have c1:¬xp n u x a:=λhi=>hi.elim (λh=>cb (.inl h)) λh=>h.elim (λh=>cb (.inr h)) λ⟨C,v,H,aZ⟩=>by have:=bk C v H;omega
  obtain⟨f,dF,dG⟩:=bC c1;rw[aK,u9]at f;refine b7 Ω ?_;refine oi M ?_;rw[aV an.u (ak.ext M)];obtain⟨g,Q⟩:∃g:Int->Int,g=λg=>if a.kind=2 then dh n.k g a.c else cN n.k g a.c:=⟨_,rfl⟩;obtain⟨z,bI⟩:∃z:Int->Int,z=λg=>if a.kind=2 then cN n.k g a.c else dh n.k g a.c:=⟨_,rfl⟩;rw[<-Q,<-bI]at f;have c2:=N.ext M;have c3:=ak.ext M;have ce:=q0 x;obtain⟨cg,dI⟩:∃cg,bd=cg:=⟨_,rfl⟩;have c4:ev u B x (dZ g x.un ((ax x).take 0))=u:=by
   unfold ev;show{u with vars:=u.vars.set B x}=u;have:u.vars.set B x=u.vars:=by
    apply Y7;intro i;by_cases e:B=i
    .subst e;rw[c9 bw,I]
    .rw[Y5 e]
   rw[this]
  have c5:∀{w':x4},ae (A9 2) aJ w'->aH .i64 w' bd (ax x):=λc6=>hX c3 c6 λr G b n c e P=>N.gL.1 0 2 r Φ (cT r ⟨b,n,c,e,P⟩) G;refine b1.range (ax x).length (λq w'=>js aJ ab ac al A R A9 aB n s t h (ev u B x (dZ g x.un ((ax x).take q))) w') ak.le (by rw[c4];exact js.same c2 (Ext.refl _)) ?_ ?_
  .rintro q bm c7 bG aP c8;obtain⟨bn,ch,ci,aT,bK,da⟩:=id aP;obtain⟨v,H⟩:=aD (l:=ax x) bG;have aq:=x6 H;have bl:=G v aq;obtain⟨E,rfl⟩:=U6 bl.1;have bo:(ev u B x (dZ g x.un ((ax x).take q))).vars[B]?=σ {x with un:=dZ g x.un ((ax x).take q)}:=c9 bw;have dJ:(dZ g x.un ((ax x).take q)).length=x.un.length:=qZ _ _;have bL:=tB (g:=g) ((ax x).take q) x.un (E:Int) (ce.sublist (List.take_sublist _ _)) (λy O=>G y (T9 O)) Ω;rw[if_neg (xf ce H),u9]at bL;have db:=bT E;obtain⟨aU,az,y,ah,look,bA⟩:=bx aT bo;refine bD Ω ?_;refine dl (λS=>js aJ ab ac al A R A9 aB n s t h (ev u B x (dZ g x.un ((ax x).take (q+1)))) S) (λS W=>by rw[aM];exact c8 _ W) λdc dd=>?_;have a1:∀{X:x4},Ext bm X->V x8 (j5 au y (Δ (E:Int))) X λa'=>aC x8 (o8 ao a' (Δ (g (x.un.getD E 0)))) X λ(_:Unit)S=>dc S:=λbp=>by
    refine bA bp (by show E<(dZ g x.un ((ax x).take q)).length;omega) λS W=>dd _ (js.comp bn bK da ?_);have e:ev (ev u B x (dZ g x.un ((ax x).take q))) B {x with un:=dZ g x.un ((ax x).take q)} ((dZ g x.un ((ax x).take q)).set E (g (x.un.getD E 0)))=ev u B x (dZ g x.un ((ax x).take (q+1))):=by
     rw[EM H,u9,bL];unfold ev;simp only[List.set_set]
    rw[e]at W;exact W
   have ck:(dZ g x.un ((ax x).take q))[E]?=σ (x.un.getD E 0):=by rw[getD_some Ω,bL]
   rw[bc an.u ag.i Ψ (c5 bn) H,bb,aj];refine⟨λC=>?_,λC=>?_⟩
   .intro j Z _ _;refine look Z (look Z ?_);rw[bc au.u ao.i Ψ (ah.ext Z) ck];refine(tK Ω Ω).mono ?_;rintro _ X _ ⟨rfl,ad⟩;refine⟨.inl ad,?_⟩;have:=a1 (Z.trans ad);rw[Q]at this;simp only[if_pos (show a.kind=2 by omega)]at this;exact this
   .intro j Z _ _;refine look Z (look Z ?_);rw[bc au.u ao.i Ψ (ah.ext Z) ck];refine(l2 Ω Ω).mono ?_;rintro _ X _ ⟨rfl,ad⟩;refine⟨.inl ad,?_⟩;have:=a1 (Z.trans ad);rw[Q]at this;simp only[if_neg (show¬a.kind=2 by omega)]at this;exact this
  .rintro bm c7 aP;rw[o6]at aP;refine b7 Ω ?_;have aP:=aP.xi;obtain⟨bn,ch,ci,aT,bK⟩:=id aP;have cl:ci[2]?=σ (Δ u.zero):=by obtain⟨_,_,_,_,_,_,rfl,_⟩:=aT.oh;rfl
   have de:=av.zero;have a1:∀{X:x4},Ext bm X->aC x8 (o8 ao (.pointer (σ ⟨al,0+2,ν⟩)) (Δ (z u.zero))) X λ(_:Unit)S=>cU cc S:=λbp=>by
    refine ED (aT.ext bp) λS W=>bB _ _ ⟨?_,by rw[f]⟩;rw[f];have cm:=cn.comp (A9:=ch) (bp.aa _) (λq r G=>.inl ⟨q,G⟩) W;have a2:=cn.comp bn bK cm;exact low (cn.comp (M.aa _) (λq r G=>.inl ⟨q,G⟩) a2)
   rw[bb,aj];refine⟨λC=>?_,λC=>?_⟩
   .rw[aQ aA.p 2 aT.box cl];refine(l2 Ω Ω).mono ?_;rintro _ X _ ⟨rfl,ad⟩;rw[bX,aS aA.p rfl];have:=a1 ad;rw[bI]at this;simp only[if_pos (show a.kind=2 by omega)]at this;exact this
   .rw[aQ aA.p 2 aT.box cl];refine(tK Ω Ω).mono ?_;rintro _ X _ ⟨rfl,ad⟩;rw[bX,aS aA.p rfl];have:=a1 ad;rw[bI]at this;simp only[if_neg (show¬a.kind=2 by omega)]at this;exact this
 .
  have cp:3<a.kind:=Ω
  have aq:=cI cp;obtain⟨E,br⟩:=U6 (G _ aq).1;have bl:=(G _ aq).2;have cq:dH u a.i a.v=σ x:=by unfold ju at hm;rwa [if_pos cp]at hm
  rw[bb,aj];refine⟨λa2=>?_,λa2=>?_⟩
  .have a2:a.kind=4:=Ω
   have f:bf n.k u a=if cN n.k u.zero (x.un.getD a.v.toNat 0)<n.k then(u,7)else(dM u a.i.toNat a.v.toNat,0):=by
    unfold bf;rw[if_neg Ω,if_neg Ω,if_neg Ω,if_neg Ω,if_pos a2,cq]
   have de:=av.zero;have db:=bT E;intro U L _ _;have bF:cs[2]?=σ (Δ u.zero):=by obtain⟨_,_,_,_,_,_,rfl,_⟩:=p.oh;rfl
   obtain⟨aU,az,y,ah,look,_⟩:=bx (N.ext L) I;rw[aQ aA.p 2 (N.box.ext L) bF];refine look (Ext.refl _) ?_;rw[br,bc au.u ao.i Ψ ah (getD_some (i:=E) Ω)];refine(l2 Ω Ω).mono ?_;rintro _ cX _ ⟨rfl,aO⟩;have cr:=L.trans aO;rw[br,u9]at f;unfold cN at f;rw[aR,aj];refine⟨λaZ=>?_,λbH=>?_⟩
   .rw[if_pos aZ]at f;exact⟨by rw[f],by rw[f];exact low (cn.same N cr)⟩
   .rw[if_neg bH]at f;intro aJ M _ _;have a6:=cr.trans M;refine b0 a6 ?_;refine oi a6 ?_;have dK:=q7 x;have df:=av.ef.2.2;refine(Qh (v:=(E:Int)) (ak.ext a6) (by
     obtain⟨ct,cu⟩:=aD (l:=n.sizes) (i:=B) Ω;have h1:=(av.var B x ct I cu).1;have C:=df ct (x6 cu);omega)).mono ?_
    rintro cD bm _ ⟨bo,⟨gz,dg⟩,di⟩;refine⟨.inl bo,?_⟩;have dj:=a6.trans bo;have dL:=a6.size;refine bZ (m:=((x.mask.toNat ||| 2 ^ E:Nat):Int)) dj (gz:=gz) (by rw[show E=(E:Int).toNat from rfl,w6 Ω];exact dg) (λr G=>by have:=di r G;omega) λS W=>bB _ _ ⟨?_,by rw[f]⟩;rw[f,aK,u9];unfold dM;rw[I];exact low W
  .have cm:a.kind=5:=Ω
   obtain⟨m,dk,dm⟩:=xo (i:=a.i.toNat) (v:=a.v) (ax x) u x (by rw[aK,u9];exact I) λy O=>(G y O).1;have f:bf n.k u a=(gh u a.i.toNat a.v (ax x),0):=by
    unfold bf;rw[if_neg Ω,if_neg Ω,if_neg Ω,if_neg Ω,if_neg Ω,cq]
   have dn:ax {x with mask:=m}=[a.v]:=by
    rw[dm,<-filter_one (q0 x) aq];refine List.filter_congr λy O=>?_;rw[decide_eq_true O,Bool.true_and,Bool.not_not]
   rw[bb,aj];refine⟨λ_=>?_,λh=>Ω⟩;refine b0 (Ext.refl _) ?_;refine eM (k:=.i64) an.u ag.i rfl λv4 dp aJ dN M cw=>?_;refine bZ (m:=m) M (gz:=dp) (by rw[dn];exact cw) (λr G=>by have:=bR cw G;omega) λS W=>bB _ _ ⟨?_,by rw[f]⟩;rw[f,dk,aK,u9];exact low W
end
def h7(A R:af)(A9:Nat->af)(aB:af)(al:Nat)(r:Nat):Prop:=A r\/R r\/(∃q,A9 q r)\/aB r\/r=al
section
variable{P:af}{gX w w':x4}{ab ac al RN RO RP:Nat}{A R aI R':af}{A9 cq:Nat->af}{aB Eg:af}{n:aK}{s s':am}{t bn:az}{h h':List az}{cs bu:List x3}{m bV:Nat}
variable{Z kE:af}
end
theorem rf(h:Laid w):0<w.heap.size:=by
 rcases Q2 w.heap.size with e|e
 .have a:=h 0 _ rfl;unfold x4.cell? at a;rw[Array.getElem?_eq_none Ω]at a;cases a
 .exact e
def fe(Z aB:af)(w:x4)(ab ac al:Nat)(n:aK)(s:am):Prop:=∃A R A9 t cs,b5 w ab ac al A R A9 aB n s s t [] cs/\(Laid w/\¬Z 0)/\(cp s/\dS (cZ n) s/\n.funs.length<=256)/\(∀r,Z r↔h7 A R A9 aB al r)/\∀q r,A9 q r->r<w.heap.size
section
variable{Z aB S:af}{w w' J:x4}{ab ac al:Nat}{A R:af}{A9:Nat->af}{n:aK}{s u:am}{t:az}{cs:List x3}
theorem fe.ext(h:fe Z aB w ab ac al n s)(a:Ext w w'):fe Z aB w' ab ac al n s:=by
 obtain⟨A,R,A9,t,cs,p,⟨e,f⟩,j,x,y⟩:=h;exact⟨A,R,A9,t,cs,p.ext a,⟨e.ext a,f⟩,j,x,λq r z=>by have:=y q r z;have:=a.size;omega⟩
theorem fe.side(h:fe Z aB w ab ac al n s)(e:ae S w w')(y:∀r,Z r->¬S r)(z:¬S 0):fe Z aB w' ab ac al n s:=by
 obtain⟨A,R,A9,t,cs,p,⟨B,C⟩,E,j,F⟩:=h;refine⟨A,R,A9,t,cs,p.side e λr _ f=>?_,⟨hP e z B,C⟩,E,j,λq r f=>by have:=F q r f;have:=e.size;omega⟩;have a:∀{x:Prop},(x->h7 A R A9 aB al r)->¬x:=λG h=>y r ((j r).2 (G h)) f;exact⟨a .inl,a λh=>.inr (.inl h),λq=>a λh=>.inr (.inr (.inl ⟨q,h⟩)),a λh=>.inr (.inr (.inr (.inl h))),a λh=>.inr (.inr (.inr (.inr h)))⟩
theorem fe.ok(h:fe Z aB w ab ac al n s):bg n.k n.sizes s/\cp s/\dS (cZ n) s/\n.funs.length<=256:=by
 obtain⟨A,R,A9,t,cs,p,_,a,_⟩:=h;exact⟨p.de.2.2.2.1,a⟩
theorem fe.look(h:fe Z aB w ab ac al n s):iz w al n.k n.sizes s:=by
 obtain⟨A,R,A9,t,cs,p,_⟩:=h;exact p.look
theorem fe.step{J:x4}(p:b5 w ab ac al A R A9 aB n s u t [] cs)(f:∀r,Z r↔h7 A R A9 aB al r){u':am}(F:cp u'/\dS (cZ n) u'/\n.funs.length<=256)(G:¬Z 0)(H:cn w ab ac al A R A9 aB n s t [] u' J)(j:Ext J w')(hm:cS [] w' ab ac A R n u' U):ae (λr=>Z r/\¬aB r) w U/\∃kE,(∀r,kE r->Z r\/w.heap.size<=r)/\fe kE aB U ab ac al n u':=by
 obtain⟨B,cq,bu,I,K⟩:=H;obtain⟨x,L,aI,bn,y,M,N,V⟩:=hm;have W:=B.size;have X:=j.size;have z3:=x.size;have z:=I.ext j;have O:=z.prog x y M N.1 (λ_ h=>.inl h) (λ_ _ _ h=>h) z.box.lt;have P:=p.Ey;have Q:ae (λr=>Z r/\¬aB r) w U:=(((B.mono (T:=λr=>Z r/\¬aB r) λr _ h=>⟨(f r).2 (h.elim (λh=>.inr (.inr (.inl h))) λh=>.inr (.inr (.inr (.inr h)))),h.elim (λ⟨q,h⟩=>P q r h) λh h'=>(p.read r h').2.2 h⟩)).trans (j.aa _)).trans
  ((tC y.1 x).mono λr _ h=>⟨(f r).2 (.inl h.1),λh'=>(z.read r h').1 h.2⟩)
 have Y:=p.box.lt;have e:∀{r:Nat}{C:Prop},(C->h7 A R A9 aB al r)->C->Z r\/w.heap.size<=r:=λS h=>.inl ((f _).2 (S h));have E:∀r,h7 aI R (λq r=>cq q r/\r<w'.heap.size) aB al r->Z r\/w.heap.size<=r:=by
  intro r a;rcases a with a|a|⟨q,a,_⟩|a|a
  .exact (y.2.1 r a).elim (e .inl) λh=>.inr Ω
  .exact e (λh=>.inr (.inl h)) a
  .exact (K q r a).elim (e λh=>.inr (.inr (.inl h))) .inr
  .exact e (λh=>.inr (.inr (.inr (.inl h)))) a
  .exact e (λh=>.inr (.inr (.inr (.inr h)))) a
 exact⟨Q,λr=>h7 aI R (λq r=>cq q r/\r<w'.heap.size) aB al r,E,aI,R,_,bn,bu,O,⟨L,λh=>(E 0 h).elim G λh=>Ω⟩,F,λr=>Iff.rfl,λq r a=>by have:=a.2;omega⟩
theorem Qn(h:cp s/\dS (cZ n) s/\n.funs.length<=256)(a:bg n.k n.sizes s)(m:gg):cp (bf n.k s m).1/\dS (cZ n) (bf n.k s m).1/\n.funs.length<=256:=
 ⟨(Ej a h.1).2.1,h.2.1.trans (Er a),h.2.2⟩
theorem Qo{m:gg}(p:b5 w ab ac al A R A9 aB n s u t [] cs)(a:bg n.k n.sizes u)(e:cp u)(hk:m.kind<=5):ai x8 uL [Γ al,Δ (m.kind:Int),Δ m.i,Δ m.pos,Δ m.v,Δ m.c] w λr w'=>r=Δ (bf n.k u m).2/\cn w ab ac al A R A9 aB n s t [] (bf n.k u m).1 w':=by
 by_cases h:m.kind<2
 .exact Qd p a e h
 .exact Qm p a ⟨Ω,hk⟩
theorem Qp{B:Nat}{e:x4}{al:Nat}{j:x3}{cs:List x3}{f:ca}(w:tH B U j cs f)(x:Ext U e)(y:ad e al aA cs)(z:U.heap.size<=al)(K:B<=U.heap.size)(L:0<B)(C:Laid e):
  ∃ab ac Z aB,j=Γ ab/\fe Z aB e ab ac al (cg f) (cZ (cg f))/\∀r,Z r->B<=r:=by
 obtain⟨ab,ac,A,R,A9,aB,t,rfl,p,_,E,F,_,_,G,_,H,I⟩:=PL w x y z;have J:=p.olds;have s:∀r,h7 A R (λq r=>A9 q r/\r<e.heap.size) aB al r->B<=r:=by
  intro r a;rcases a with a|a|⟨q,a,_⟩|a|a
  .exact E r a
  .exact I r a
  .exact F q r a
  .exact H r a
  .omega
 exact⟨ab,ac,_,aB,rfl,⟨A,R,_,t,cs,J,⟨C,λh=>by have:=s 0 h;omega⟩,⟨Ex _,dS.rfl,G⟩,λr=>Iff.rfl,λq r a=>a.2⟩,s⟩
end
section
variable{ap:List az}{w J U:x4}{ab ac al:Nat}{A R S Z aB:af}{n:aK}{s s0 s1:am}{cs:List x3}
theorem cS.open(h:cS ap w ab ac A R n s1 J):∃a e,bH J ab ac a R n s1 e/\Laid J/\¬a 0/\eC ap e/\∀{f:am}{U:x4},cS ap J ab ac a R n f U->cS ap w ab ac A R n f U:=by
 obtain⟨h1,j,a,e,p,q,r,s⟩:=h;refine⟨a,e,q,j,s,r,λ{f U}k=>?_⟩;obtain⟨x,y,z,B,C,E,F,G⟩:=k;exact⟨th h1 x,y,z,B,p.trans C,E,F,G⟩
theorem cS.ext(h:cS ap w ab ac A R n s1 J)(a:Ext J U):cS ap w ab ac A R n s1 U:=by
 obtain⟨p,q,h1,e,f,j,k⟩:=h.open;exact k (.same h1 e f j a)
def iA(ap:List az)(Z aB:af)(w:x4)(ab ac al:Nat)(n:aK)(s s0:am)(cs:List x3):Prop:=∃A R A9 t,b5 w ab ac al A R A9 aB n s s0 t ap cs/\(Laid w/\¬Z 0/\rb t)/\(∀r,Z r↔h7 A R A9 aB al r)/\∀q r,A9 q r->r<w.heap.size
theorem iA.lt(h:iA ap Z aB w ab ac al n s s0 cs):∀r,Z r->r<w.heap.size:=by
 obtain⟨A,R,A9,t,p,_,e,f⟩:=h;intro r a;rcases(e r).1 a with a|a|⟨q,a⟩|a|a
 .exact mc p.de r (.inl a)
 .exact mc p.de r (.inr a)
 .exact f q r a
 .exact (p.read r a).2.1
 .subst a;exact p.box.lt
theorem iA.ext(h:iA ap Z aB w ab ac al n s s0 cs)(a:Ext w J):iA ap Z aB J ab ac al n s s0 cs:=by
 obtain⟨A,R,A9,t,p,⟨e,f⟩,j,x⟩:=h;exact⟨A,R,A9,t,p.ext a,⟨e.ext a,f⟩,j,λq r y=>by have:=x q r y;have:=a.size;omega⟩
theorem iA.side(h:iA ap Z aB w ab ac al n s s0 cs)(e:ae S w J)(y:∀r,Z r->¬S r)(z:¬S 0):iA ap Z aB J ab ac al n s s0 cs:=by
 obtain⟨A,R,A9,t,p,⟨B,C⟩,j,E⟩:=h;refine⟨A,R,A9,t,p.side e λr _ f=>?_,⟨hP e z B,C⟩,j,λq r f=>by have:=E q r f;have:=e.size;omega⟩;have a:∀{x:Prop},(x->h7 A R A9 aB al r)->¬x:=λF h=>y r ((j r).2 (F h)) f;exact⟨a .inl,a λh=>.inr (.inl h),λq=>a λh=>.inr (.inr (.inl ⟨q,h⟩)),a λh=>.inr (.inr (.inr (.inl h))),a λh=>.inr (.inr (.inr (.inr h)))⟩
theorem iA.ok(h:iA ap Z aB w ab ac al n s s0 cs):bg n.k n.sizes s/\eW w (.agg cs.toArray) n.k n.sizes s0:=by
 obtain⟨A,R,A9,t,p,_⟩:=h;exact⟨p.de.2.2.2.1,p.doc.pA⟩
theorem iA.go(h:iA ap Z aB w ab ac al n s s0 cs):∃A R t,bH w ab ac A R n s t/\Laid w/\¬A 0/\eC ap t/\∀{J U:x4}{s1:am},Ext w J->cS ap J ab ac A R n s1 U->ae (λr=>Z r/\¬aB r) w U/\∃kE,(∀r,kE r->Z r\/w.heap.size<=r)/\iA ap kE aB U ab ac al n s1 s0 cs:=by
 obtain⟨A,R,A9,t,p,⟨G,B,a⟩,f,M⟩:=h;refine⟨A,R,t,p.de,G,λh=>B ((f 0).2 (.inl h)),⟨p.hg,a⟩,λ{J U s1}j hm=>?_⟩;obtain⟨x,H,aI,bn,y,I,C,N⟩:=hm;have O:=j.size;have z3:=x.size;have z:=p.ext j;have K:=z.prog x y I C.1 (λ_ h=>.inl h) (λ_ _ _ h=>h) z.box.lt;have e:∀{r:Nat}{E:Prop},(E->h7 A R A9 aB al r)->E->Z r\/w.heap.size<=r:=λL h=>.inl ((f _).2 (L h));have F:∀r,h7 aI R (λq r=>A9 q r/\r<J.heap.size) aB al r->Z r\/w.heap.size<=r:=by
  intro r a;rcases a with a|a|⟨q,a,_⟩|a|a
  .exact (y.2.1 r a).elim (e .inl) λh=>.inr Ω
  .exact e (λh=>.inr (.inl h)) a
  .exact e (λh=>.inr (.inr (.inl ⟨q,h⟩))) a
  .exact e (λh=>.inr (.inr (.inr (.inl h)))) a
  .exact e (λh=>.inr (.inr (.inr (.inr h)))) a
 exact⟨(j.aa _).trans ((tC y.1 x).mono λr _ h=>⟨(f r).2 (.inl h.1),λh'=>(z.read r h').1 h.2⟩),λr=>h7 aI R (λq r=>A9 q r/\r<J.heap.size) aB al r,F,aI,R,_,bn,K,⟨H,λh=>(F 0 h).elim B λh=>by have:=p.box.lt;omega,C.2⟩,λr=>Iff.rfl,λq r a=>by have:=a.2;omega⟩
theorem fe.c8(h:fe Z aB w ab ac al n s):∃cs,iA [] Z aB w ab ac al n s s cs/\ad w al aA cs:=by
 obtain⟨A,R,A9,t,cs,p,⟨a,e⟩,q,f,j⟩:=h;exact⟨cs,⟨A,R,A9,t,p,⟨a,e,p.hg.m.2⟩,f,j⟩,p.box⟩
end
def tQ(sizes a:Λ):Prop:=a.length=sizes.length/\∀(q:Nat)z b,sizes[q]?=σ z->a[q]?=σ b->0<=b/\b<z
def Qq(sizes:Λ)(L:List (Λ)):Prop:=L.length<=90/\∀a∈L,tQ sizes a
def kF(sizes:Λ)(k:Nat):Λ:=(W3 sizes.length).map λi:Nat=>((k:Int)*(2*(i:Int)+1)+(k:Int) / 3) % sizes.getD i 0
theorem rg(sizes:Λ)(k:Nat):(kF sizes k).length=sizes.length:=by simp[kF]
theorem EV{k i:Nat}{z:Int}(h:sizes[i]?=σ z):(kF sizes k)[i]?=σ (((k:Int)*(2*(i:Int)+1)+(k:Int) / 3) % z):=by
 unfold kF;rw[v8,List.getElem?_range (x5.1 h).1,Z7,u4,h];rfl
theorem Qr(k:Nat)(h:∀z∈sizes,1<=z/\z<=32):tQ sizes (kF sizes k):=by
 refine⟨rg _ _,λq z b a e=>?_⟩;rw[EV a]at e;cases e;have:=h z (x6 a);exact⟨Int.emod_nonneg _ Ω,Int.emod_lt_of_pos _ Ω⟩
theorem Qs(h:a∈bj sizes):tQ sizes a:=by
 rw[tv]at h;obtain⟨h1,e⟩:=qT.1 h;rw[u7]at h1;refine⟨h1,λq z b f j=>?_⟩;exact qU.1 (e q (hj z) b (by rw[v8,f];rfl) j)
theorem tR{s:am}(e:bg k sizes s)(h:tQ sizes a):gP s a:=by
 have p:=e.vars;refine⟨by rw[h.1,p],λi x v f q=>.inr ?_⟩;obtain⟨z,j⟩:=aD (l:=sizes) (i:=i) (by have:=(x5.1 f).1;omega);have h1:=(e.var i x z f j).1;have r:=h.2 i z v j q;omega
theorem Qt{m:Nat}(h:m<=11):(32:Int) ^ m<=36028797018963968:=by
 match m,h with
 |0,_=>decide
 |1,_=>decide
 |2,_=>decide
 |3,_=>decide
 |4,_=>decide
 |5,_=>decide
 |6,_=>decide
 |7,_=>decide
 |8,_=>decide
 |9,_=>decide
 |10,_=>decide
 |11,_=>decide
theorem Qu{sv:x3}(h:aH .i64 w sv l)(I:∀x∈l,1<=x/\x<=32):
  ai x8 Gn [sv] w λv w'=>(∃c:Int,v=Δ c/\(l.length<=11->c=aN l))/\Ext w w':=by
 refine ay func29 ?_;rw[aV an.u h];refine b3.range l.length (λi n J=>Ext w J/\∃c:Int,n=Δ c/\(i<=11->c=aN (l.take i))) h.le ⟨Ext.refl _,1,rfl,λ_=>rfl⟩ ?_ ?_
 .rintro i _ J k hi ⟨a,c,rfl,e⟩ hk;obtain⟨x,f⟩:=aD (l:=l) hi;refine bD Ω ?_;rw[bc an.u ag.i Ψ (h.ext a) f,gp,aM];refine hk _ _ ⟨a,_,rfl,λq=>?_⟩;rw[e Ω,oP f];have j:=kY (l.take (i+1)) λy p=>I y (T9 p);have h1:=Qt (m:=(l.take (i+1)).length) (by rw[n9];omega);rw[oP f]at j;exact wrap_i64 Ω Ω
 .rintro _ J k ⟨a,c,rfl,e⟩;refine b7 Ω ?_;rw[o6]at e;exact⟨⟨c,rfl,e⟩,a⟩
theorem Qv{f g:Int->Int}:∀{l:Λ},(∀v∈l,f v=g v)->ds k l f=ds k l g:=by
 intro l;unfold ds;generalize (k,(-1:Int))=p;induction l generalizing p with
 |nil=>intro _;rfl
 |cons v l a=>
  intro h;rw[T7,T7,show eV f p v=eV g p v by unfold eV;rw[h v (.head _)]];exact a _ λu hu=>h u (.tail _ hu)
theorem Qw{f:Int->Int}:∀(l:Λ)(p:Int×Int),(∀v∈l,0<=v)->(p.2= -1\/0<=p.2)->((l.foldl (eV f) p).2= -1\/0<=(l.foldl (eV f) p).2)/\(k=k):=by
 intro l;induction l with
 |nil=>intro p _ h;exact⟨h,rfl⟩
 |cons v l e=>
  intro p a h;refine e _ (λu hu=>a u (.tail _ hu)) ?_;unfold eV;split
  .exact .inr (a v (.head _))
  .exact h
section
variable{w:x4}{dO:x3}{k:Int}{sizes:Λ}{s:am}
theorem Qx{f:Int->Int}{q:Nat}(a:l[q]?=σ v):ds k (l.take (q+1)) f=eV f (ds k (l.take q) f) v:=by
 unfold ds;rw[r8,a,l7,R5];rfl
theorem Qy{f:Int->Int}(a:∀v∈l,0<=v):(ds k l f).2= -1\/0<=(ds k l f).2:=(Qw (k:=k) l (k,-1) a (.inl rfl)).1
theorem EW{i:Nat}{x:bh}(h:eW w dO k sizes s)(am:bg k sizes s)(G:s.vars[i]?=σ x):
  ai x8 Gf [dO,Δ (i:Int)] w λr w'=>Ext w w'/\r= .tuple #[Δ (ds k (ax x) λv=>x.un.getD v.toNat 0).1,Δ (ds k (ax x) λv=>x.un.getD v.toNat 0).2]:=by
 have ap:=q7 x;refine ay func13 ?_;refine bk λg1 J aq H P=>?_;obtain⟨szv,av,az,aB,aC,aE,C,aF,_,Q,aH,R,aI,aJ⟩:=h.box H P;rw[aG aA.p 0 C rfl,aG aA.p 3 C rfl];refine gw (α:=Λ) (a:=ax x) (i:=i) rfl rfl b2.u an.i Ψ Q (by rw[v8,G];rfl) λaK S=>?_;have E:=dD S;rw[aV an.u E];obtain⟨f,I⟩:∃f:Int->Int,f=λv=>x.un.getD v.toNat 0:=⟨_,rfl⟩;rw[<-I];refine mm.range (ax x).length (λq b a U=>Ext J U/\b=Δ (ds k ((ax x).take q) f).1/\a=Δ (ds k ((ax x).take q) f).2) E.le ⟨Ext.refl _,rfl,rfl⟩ ?_ ?_
 .rintro q _ _ U W X ⟨j,rfl,rfl⟩ Y;obtain⟨v,z⟩:=aD (l:=ax x) X;have Z:=(fd.1 (x6 z)).1;obtain⟨y,rfl⟩:=U6 Z.1;have A:=Qx (k:=k) (f:=f) z;have aL:=Qy (k:=k) (f:=f) (l:=(ax x).take q) λv z=>(fd.1 (T9 z)).1.1;have aa:f (y:Int)=x.un.getD y 0:=by rw[I];rfl
  refine bD Ω ?_;refine ib (λb a w'=>Ext J w'/\b=Δ (ds k ((ax x).take (q+1)) f).1/\a=Δ (ds k ((ax x).take (q+1)) f).2) (λb a w' ab=>by rw[aM];exact Y _ _ _ ab) λaw L=>?_;rw[bc an.u ag.i Ψ (E.ext j) z];have M:∀{K:x3->Prop}{e:x4},Ext J e->K (Δ (f (y:Int)))->V x8 (u6 aA (Γ g1) 5) e λac=>V x8 (u5 cP ac) e λad=>V x8 (j5 cP ad (Δ (i:Int))) e λt39=>V x8 (u5 au t39) e λae=>V x8 (j5 au ae (Δ (y:Int))) e λaf=>V x8 (u5 ao af) e K:=λ{K e}N ah=>by
   rw[aG aA.p 5 (C.ext N) rfl];refine gw (α:=Λ) (a:=x.un) (i:=i) rfl rfl cP.u au.i Ψ (bi R N) (by rw[v8,G];rfl) λaN ak=>?_;rw[bc au.u ao.i Ψ (dD ak) (getD_some (i:=y) Ω),<-aa];exact ah
  refine aW (λr w'=>U=w'/\r= .bool (decide ((ds k ((ax x).take q) f).2= -1\/f (y:Int)<(ds k ((ax x).take q) f).1))) ?_ λaO O=>?_
  .rintro _ _ ⟨rfl,rfl⟩;unfold eV at A;rw[aj];refine⟨λB=>M j (L _ _ _ ⟨j,?_,?_⟩),λB=>L _ _ _ ⟨j,?_,?_⟩⟩
   .rw[A,if_pos B]
   .rw[A,if_pos B]
   .rw[A,if_neg B]
   .rw[A,if_neg B]
  .rw[aR,aj];refine⟨λal=>O _ _ ⟨rfl,by rw[decide_eq_true (.inl Ω)]⟩,λal=>?_⟩;refine M j ?_;rw[aR];refine O _ _ ⟨rfl,?_⟩;congr 1;exact decide_eq_decide.2 ⟨.inr,λh=>h.resolve_left λh=>Ω⟩
 .rintro _ _ U W ⟨j,rfl,rfl⟩;rw[o6];exact b7 Ω ⟨H.trans j,rfl⟩
end
abbrev j7:Type:=jh .u8×Int×Int×Int×Int
structure gj where
 d:Int
 i:Int
 pos:Int
 v:Int
 c:Int
def gj.ok(a:gj):Prop:=0<=a.d/\a.d<256
def gj.kind(a:gj):Nat:=(a.d % 7).toNat
def gj.bY(a:gj):List x3:=[.int .u8 a.d,Δ a.i,Δ a.pos,Δ a.v,Δ a.c]
def lx(x:j7):gj:=⟨x.1.val,x.2.1,x.2.2.1,x.2.2.2.1,x.2.2.2.2⟩
theorem Qz{R:af}{cs:List x3}{x:j7}(h:Seen R w cs x):cs=(lx x).bY:=by
 obtain⟨q,_,_,_,rfl,_,_,_,a,r,_,_,_,rfl,_,_,_,e,s,_,_,_,rfl,_,_,_,f,y,z,_,_,rfl,_,_,_,j,p⟩:=h;have a:q=[.int .u8 x.1]:=a;have e:r=[Δ x.2.1]:=e;have f:s=[Δ x.2.2.1]:=f;have j:y=[Δ x.2.2.2.1]:=j;have p:z=[Δ x.2.2.2.2]:=p;subst a e f j p;rfl
theorem EX{x:j7}(h:(o9.u8.min<=x.1.val/\x.1.val<=o9.u8.max)/\(X7.min<=x.2.1/\x.2.1<=X7.max)/\(X7.min<=x.2.2.1/\x.2.2.1<=X7.max)/\(X7.min<=x.2.2.2.1/\x.2.2.2.1<=X7.max)/\(X7.min<=x.2.2.2.2/\x.2.2.2.2<=X7.max)):(lx x).ok:=by
 have a:o9.u8.min=0:=Φ
 have e:o9.u8.max=255:=Φ
 rw[a,e]at h;exact⟨h.1.1,by have:=h.1.2;show x.1.val<256;omega⟩
theorem gj.one(a:gj):∀u∈a.bY,u.oneCell'=true:=by
 intro u hu;unfold gj.bY at hu;simp only[V1,List.not_mem_nil,or_false]at hu;rcases hu with rfl|rfl|rfl|rfl|rfl<;>rfl
theorem gj.QA(a:gj):a.kind<7:=by
 unfold gj.kind;have:=Int.emod_lt_of_pos a.d (show(0:Int)<7 by decide);omega
def tS(k:Int)(a:gj):Int:=a.c.emod 18446744073709551616 % (k+1)
def kG(k:Int)(a:gj):gg:=⟨a.kind,a.i,a.pos,a.v,tS k a⟩
def ly(n:aK)(s:am)(a:gj):am:=if a.kind=6 then(if eU n a.i a.v then dM s a.i.toNat a.v.toNat else s)else(bf n.k s (kG n.k a)).1
theorem xq{d:Int}{K:x3->Prop}(h:0<=d):V x8 (aJ .rem cH false true (.int .u8 d) (.int .u8 7)) w K=K (.int .u8 (((d % 7).toNat:Nat):Int)):=by
 rw[p3 Φ,Int.tmod_eq_emod_of_nonneg h];have:=Int.emod_nonneg d (show(7:Int)≠0 by decide);rw[Int.toNat_of_nonneg this]
section
variable{w:x4}{ab ac al:Nat}{A R:af}{A9:Nat->af}{aB:af}{n:aK}{s u:am}{t:az}{h:List az}{cs:List x3}{a:gj}
theorem EY(a:bg n.k n.sizes s){i:Int}(h:eU n i v):0<=i/\∃x,s.vars[i.toNat]?=σ x/\0<=v/\v<x.un.length:=by
 obtain⟨x,e,h1,_,f⟩:=h.var a;exact⟨h.1,x,e,h.2.2.1,by have:=h.2.2.2;omega⟩
theorem QB(f:cp s/\dS (cZ n) s/\n.funs.length<=256)(j:bg n.k n.sizes s):cp (ly n s a)/\dS (cZ n) (ly n s a)/\n.funs.length<=256:=by
 unfold ly;split
 .split
  .rename_i h;obtain⟨r,x,p,w,_⟩:=EY j h;have e:=jq (v:=a.v) p;have q:dS s (dM s a.i.toNat a.v.toNat):=xb (v:=a.v);exact⟨by rw[e];exact cp.vars f.1 p rfl,f.2.1.trans q,f.2.2⟩
  .exact f
 .exact Qn f j _
theorem QC(p:b5 w ab ac al A R A9 aB n s u t h cs){i:Nat}{x:bh}(C:u.vars[i]?=σ x):∃g cap y gy e,cs[3]?=σ (.slice (σ ⟨g,0,ν⟩) u.vars.length cap)/\w.cell? ⟨g,0+i*1,ν⟩=σ y/\aq .i64 e w gy y (ax x)/\(∀r,leads y r->A9 0 r)/\
  ∀{J U:x4}{m:Int}{z:x3}{K:Unit->x4->Prop},Ext w J->ae (λr=>leads y r) J U->aq .i64 e U gy z (ax {x with mask:=m})->(∀r,leads z r->leads y r)->(∀L,cn w ab ac al A R A9 aB n s t h {u with vars:=u.vars.set i {x with mask:=m}} L->K () L)->
   aC x8 (o8 an (.pointer (σ ⟨g,0+i*1,ν⟩)) z) U K:=by
 have M:=p.olds;have aK:=(x5.1 C).1;obtain⟨szv,ai,aL,aM,aN,aO,N,_,aj,_,_,_,_,am⟩:=id M.doc;obtain⟨g,cap,full,ao,c,ap,e,E,au,F,O,P,Q,av,aw⟩:=Ee (i:=i) (a:=ax x) aj (by rw[v8,C];rfl) λr _ h=>(am rfl).2 0 r h;obtain⟨y,rfl⟩:=V0.1 (ak.len P);rw[u7]at e;have ay:full[i]?=σ y:=by have:=O 0 y rfl;simpa[show ak.n (Λ)=1 from rfl]using this
 obtain⟨gy,az,S,aA⟩:=zP P;have j:∀r,leads y r->ap r:=λr f=>by
  rcases aA with rfl|aD
  .obtain⟨_,_,_,e,_⟩:=f;cases e
  .obtain⟨e,_⟩:=bR S f;rw[e];exact aD
 refine⟨g,cap,y,gy,az,by rw[N,<-e];rfl,by have:=E.cell (o:=i) ay;rw[X3,U2];exact this,S,λr f=>(Q r (j r f)).1,λ{J U m V K}G H W X aE=>?_⟩;have aP:=G.size;have aQ:=H.size;have F:i*1+1<=full.length:=F;obtain⟨_,_,_,Y⟩:=cY W.ls;have Z:¬leads y g:=λh=>av (j g h);refine bq (o:=0+i*1) an.i (by rw[Y];rfl) (by rw[Y];rfl) ((E.ext G).aa H Z) Ω λaf ag aR B=>?_;have B:ad af g ao (over full (i*1) [V]):=by
  have e:=Ef (full:=full) (c:=[y]) (o:=i*1) (q:=0) (x:=V) O F Ξ;rw[X3]at B;rw[Nat.add_zero]at e;rw[e]at B;exact B
 have aS:g<w.heap.size:=E.lt;have I:ae (λr=>leads y r\/r=g) w af:=((G.aa _).trans (H.mono λr _ h=>.inl h)).trans (ag.mono λr _ h=>.inr h);have aF:=br W ag λr f he=>by have he:r=g:=he;exact Z (he▸X r f)
 have aG:=aw I (λr _ h=>h.imp (j r) id) B (mV (R:=aB) aF) λr f=>.inl (j r (X r f));have ah:∀r,r<w.heap.size->(leads y r\/r=g)->A9 0 r/\r<w.heap.size:=λr f h=>h.elim (λh=>Q r (j r h)) λh=>by rw[h];exact au
 obtain⟨cq,aH,aI⟩:=M.oi (u':={u with vars:=u.vars.set i {x with mask:=m}}) (λq r h=>h.2) (v:=ai) (by rw[N];rfl) I ah (by show bl _ _ _ _ ((u.vars.set i {x with mask:=m}).map ax);rw[U5];exact aG) rfl (pC C rfl) (pC C rfl) rfl rfl;refine aE _ ⟨I.mono λr f h=>.inl ⟨0,(ah r f h).1⟩,cq,cs,aH,λq r f=>?_⟩;rcases aI q r f with⟨aJ,h⟩|h
 .exact .inl ⟨aJ,h.1⟩
 .exact .inr h
end
section
variable{Z aB:af}{w w':x4}{ab ac al:Nat}{A R:af}{A9:Nat->af}{n:aK}{s s':am}{t:az}{cs:List x3}{a:gj}
def j8(Z aB:af)(w:x4)(ab ac al:Nat)(n:aK)(s':am)(w':x4):Prop:=ae (λr=>Z r/\¬aB r) w w'/\∃kE,(∀r,kE r->Z r\/w.heap.size<=r)/\fe kE aB w' ab ac al n s'
theorem fe.QD{aI:af}{cq:Nat->af}{bn:az}(p:b5 w ab ac al A R A9 aB n s s t [] cs)(f:∀r,Z r↔h7 A R A9 aB al r)(I:cp s'/\dS (cZ n) s'/\n.funs.length<=256)(x:¬Z 0)(K:Laid w)(y:ae (eA w) w J)(z:Grow A w aI J)(j:∀q r,cq q r->A9 q r)(L:cn J ab ac al aI R cq aB n s' bn [] s' U):j8 Z aB w ab ac al n s' U:=by
 obtain⟨B,C,bu,M,N⟩:=L;have Q:=y.size;have S:=B.size;have O:=p.Ey;have E:ae (λr=>Z r/\¬aB r) w U:=((tC z.1 y).mono (T:=λr=>Z r/\¬aB r) λr _ h=>⟨(f r).2 (.inl h.1),λh'=>(p.read r h').1 h.2⟩).trans
  (B.mono λr _ h=>⟨(f r).2 (h.elim (λ⟨q,h⟩=>.inr (.inr (.inl ⟨q,j q r h⟩))) λh=>.inr (.inr (.inr (.inr h)))),h.elim (λ⟨q,h⟩=>O q r (j q r h)) λh h'=>(p.read r h').2.2 h⟩)
 have V:=p.box.lt;have e:∀{r:Nat}{F:Prop},(F->h7 A R A9 aB al r)->F->Z r\/w.heap.size<=r:=λP h=>.inl ((f _).2 (P h));have G:∀r,h7 aI R (λq r=>C q r/\r<U.heap.size) aB al r->Z r\/w.heap.size<=r:=by
  intro r a;rcases a with a|a|⟨q,a,_⟩|a|a
  .exact (z.2.1 r a).elim (e .inl) .inr
  .exact e (λh=>.inr (.inl h)) a
  .exact (N q r a).elim (λ⟨H,h⟩=>e (λh=>.inr (.inr (.inl h))) ⟨H,j H r h⟩) λh=>.inr Ω
  .exact e (λh=>.inr (.inr (.inr (.inl h)))) a
  .exact e (λh=>.inr (.inr (.inr (.inr h)))) a
 exact⟨E,λr=>h7 aI R (λq r=>C q r/\r<U.heap.size) aB al r,G,aI,R,_,bn,bu,M.olds,⟨hP E (λh=>x h.1) K,λh=>(G 0 h).elim x λh=>Ω⟩,I,λr=>Iff.rfl,λq r a=>a.2⟩
theorem j8.same(h:fe Z aB w ab ac al n s)(a:Ext w w'):j8 Z aB w ab ac al n s w':=⟨a.aa _,Z,λ_ h=>.inl h,h.ext a⟩
theorem j8.before(a:Ext w J)(h:j8 Z aB J ab ac al n s w'):j8 Z aB w ab ac al n s w':=by
 obtain⟨c,kE,e,f⟩:=h;have:=a.size;exact⟨(a.aa _).trans c,kE,λr j=>(e r j).imp id λh=>Ω,f⟩
end
def tT(s:am):Prop:=∀f∈s.funs,f.live≠0
theorem QE(n:aK):tT (cZ n):=by
 intro f a;unfold cZ at a;obtain⟨g,_,rfl⟩:=j0.1 a;exact(by decide:(1:Int)≠0)
theorem QF{a b:am}(h:dS a b)(k:tT a):tT b:=by
 intro g q;obtain⟨j,e⟩:=List.getElem?_of_mem q;have r:=(x5.1 e).1;obtain⟨f,p⟩:=aD (l:=a.funs) (i:=j) (by have:=h.funs;omega);rw[(h.fn j f g p e).2.2.1];exact k f (x6 p)
section
variable{w:x4}{ab ac:Nat}{A R:af}{n:aK}{s:am}{t:az}{dO:x3}
end
def lz(w0 w:x4)(ab ac al:Nat)(n:aK):Prop:=Ext w0 w/\∃s Z aB,fe Z aB w ab ac al n s/\∀r,Z r->w0.heap.size<=r
section
variable{w0 w w':x4}{ab ac al:Nat}{n:aK}{s:am}{Z aB:af}
theorem lz.ext(h:lz w0 w ab ac al n)(a:Ext w w'):lz w0 w' ab ac al n:=by
 obtain⟨e,s,Z,aB,f,j⟩:=h;exact⟨e.trans a,s,Z,aB,f.ext a,j⟩
end
theorem fe.live{Z aB:af}{ab ac al:Nat}{n:aK}{s:am}(h:fe Z aB w ab ac al n s):tT s/\s.funs.length<=256:=by
 obtain⟨_,_,a,e⟩:=h.ok;refine⟨QF a (QE n),?_⟩;rw[a.funs];unfold cZ;rw[u7];exact e
theorem xr{n:aK}{s:am}{i:Nat}{x:bh}(h:dS (cZ n) s)(e:s.vars[i]?=σ x):x.gone=0:=by
 obtain⟨y,a⟩:=aD (l:=(cZ n).vars) (i:=i) (by have:=(x5.1 e).1;have:=h.vars;omega);rw[(h.var i y x a e).1];unfold cZ at a;simp only[v8,Y6]at a;obtain⟨u,_,rfl⟩:=a;rfl
section
variable{w:x4}{n:aK}{ab ac al:Nat}
end
section
variable{w:x4}{ab ac:Nat}{A R:af}{n:aK}{s:am}{t:az}
theorem xt{i:Nat}{x:bh}(e:bg n.k n.sizes s)(a:s.vars[i]?=σ x)(f:v∈ax x):eB n s (i:Int) v=x.un.getD v.toNat 0:=by
 unfold eB;rw[if_pos (oq e a f),u9];unfold gf;rw[a]
theorem pF{i:Nat}{x:bh}(a:s.vars[i]?=σ x):bB s (i:Int)=ax x:=by
 unfold bB;rw[u9,a]
theorem QG{i:Nat}{x:bh}(e:bg n.k n.sizes s)(a:s.vars[i]?=σ x):dz n s (i:Int)=ds n.k (ax x) λv=>x.un.getD v.toNat 0:=by
 unfold dz;rw[pF a];exact Qv λv f=>xt e a f
end
section
variable{w:x4}{ab ac gy:Nat}{A R:af}{A9:Nat->af}{aB:af}{n:aK}{s s0:am}{t:az}{ap:List az}{cs:List x3}
theorem QH{i:Nat}{S:x3}{K:x4->Prop}(p:b5 w ab ac gy A R A9 aB n s (c0 s s0 i 0) t ap cs)(aX:Laid w)(al:dS s0 s)(hi:i<n.sizes.length)(aY:S=Γ ab)(aZ:bg n.k n.sizes s0)(a2:∀w',cn w ab ac gy A R A9 aB n s t ap (c0 s s0 (i+1) 0) w'->K w'):
  eg w λB=>
  V x8 (u6 aA (Γ gy) 3) B λt22=>
  V x8 (u5 b2 t22) B λN=>
  ai x8 yV [S,Δ (i:Int)] B λa6 I=>
   (Ext B I\/bZ x8 (u5 b2 t22) N I/\bZ x8 (u6 aA (Γ gy) 3) t22 I/\True)/\
  ai x8 yY [a6] I λa7 C=>
   (Ext B C\/bZ x8 (u5 b2 t22) N C/\bZ x8 (u6 aA (Γ gy) 3) t22 C/\True)/\
   ai x8 yX [a7] C λa8 H=>
    (Ext B H\/bZ x8 (u5 b2 t22) N H/\bZ x8 (u6 aA (Γ gy) 3) t22 H/\True)/\
   V x8 (j5 b2 N (Δ (i:Int))) H λba=>
    aC x8 (o8 an ba a8) H λ(_:Unit)x=>
    V x8 (u6 aA (Γ gy) 5) x λbb=>
  V x8 (u5 cP bb) x λbc=>
  V x8 (j5 cP bc (Δ (i:Int))) x λbd=>
  V x8 (u5 au bd) x λbe=>
  V x8 (W7 #[au] ag #[be]) x λbf=>
  b1 (Δ 0) x λO E bi=>
   V x8 (aJ .lss ag false false O bf) E λbj=>
   Split bj (eg E λG=>
   V x8 (u6 aA (Γ gy) 5) G λU=>
   V x8 (u5 cP U) G λaq=>
   V x8 (j5 cP aq (Δ (i:Int))) G λav=>
   V x8 (u5 au av) G λt45=>
   ai x8 uK [S,Δ (i:Int),O] G λt50 y=>
    (Ext G y\/bZ x8 (u5 au av) t45 y/\bZ x8 (u5 cP U) aq y/\bZ x8 (u6 aA (Γ gy) 5) U y/\True)/\
   V x8 (Y2 t50 0) y λbk=>
    V x8 (Y2 t50 1) y λbM=>
    V x8 (j5 au t45 O) y λt53=>
    aC x8 (o8 ao t53 bk) y λ(_:Unit)W=>
    V x8 (aJ .add ag false true O (Δ 1)) W λbl=>
   bi bl W)
   (K E):=by
 subst aY;have P:=p.de.2.2.2.1;have bN:=P.vars;have bO:=aZ.vars;have aw:=al.vars;have bP:=P.ef.2.1;obtain⟨j,ay⟩:=aD (l:=s0.vars) (i:=i) Ω;obtain⟨f,J⟩:=aD (l:=s.vars) (i:=i) Ω;obtain⟨z,X⟩:=aD (l:=n.sizes) (i:=i) hi;obtain⟨bm,Q⟩:=al.var i j f ay J;have bQ:=(P.var _ f z J X).1;have bS:=P.ef.2.2 z (x6 X);have az:(c0 s s0 i 0).vars[i]?=σ j:=by
  show(dA s.vars s0.vars i)[i]?=_;rw[Et aw Ω];exact ay
 intro B Y _ _;have Z:=p.ext Y;have bn:=aX.ext Y;obtain⟨bT,bU,bV,bo,bW,bX,bY,bp⟩:=EE Z az;rw[aG aA.p 3 Z.box bo];refine(jW (i:=(i:Int)) Z.de).mono ?_;rintro _ I _ ⟨⟨b0,b3,rfl,aE⟩,ad⟩;refine⟨.inl ad,?_⟩;refine nJ.mono ?_;rintro _ C _ ⟨aI,a1,rfl,b4,ae⟩;refine⟨.inl (ad.trans aI),?_⟩;have aK:=mb aE Ω (by rw[u9];exact J);have af:=ad.trans aI;refine(Cu (L:=ax f) (nI (g:=a1) aE.1) (λk vs w hk=>by
    obtain⟨v,ah,rfl⟩:=hk;exact⟨v,by rw[<-aK,v8,ah];rfl,rfl⟩) (λa b M aL=>⟨aL.1.aa M λh=>by have:=ae.lt;have h:C.heap.size<=a1:=h;omega,hP M (λh=>by have h:C.heap.size<=0:=h;have:=ae.lt;omega) aL.2⟩) ⟨ae,bn.ext af⟩ (by rw[<-aK,u7]) (by have:=q7 f;omega)).mono ?_
 rintro _ H _ ⟨bq,b6,b8,aN⟩;have aO:=af.trans bq;refine⟨.inl aO,?_⟩;have b9:=af.size;refine bp (m:=f.mask) aO (by rw[PE Q];exact aN) (λr br=>by obtain⟨ca,_⟩:=bR aN br;omega) λx d13=>?_;obtain⟨cb,cc,cd,aP,ce⟩:=id d13;have aQ:i<(c0 s s0 i 0).vars.length:=(x5.1 az).1;have aR:({c0 s s0 i 0 with vars:=(c0 s s0 i 0).vars.set i {j with mask:=f.mask}}:am).vars[i]?=σ {j with mask:=f.mask}:=c9 aQ;obtain⟨cg,ch,aS,bt,bu,aj,_⟩:=q8 aP aR;have aj:aH .i64 x aS j.un:=aj;rw[aG aA.p 5 aP.box bt,eL cP.u au.i (x5.1 aR).1 λ_=>rfl,aF (v:=aS) (o:=0+i*1) Ψ (by rw[X3,U2];exact bu),aV au.u aj];have bw:cn w ab ac gy A R A9 aB n s t ap {c0 s s0 i 0 with vars:=(c0 s s0 i 0).vars.set i {({j with mask:=f.mask}:bh)with un:=dA f.un j.un 0}} x:=cn.comp (Y.aa _) (λq r h=>.inl ⟨q,h⟩) d13;refine b1.range j.un.length (λv E=>cn w ab ac gy A R A9 aB n s t ap {c0 s s0 i 0 with vars:=(c0 s s0 i 0).vars.set i {({j with mask:=f.mask}:bh)with un:=dA f.un j.un v}} E) Ω bw ?_ ?_
 .rintro v E bx ah d14 bB;obtain⟨tS,ci,cj,bC,bE⟩:=id d14;obtain⟨c,M⟩:=aD (l:=f.un) (i:=v) Ω;refine bD Ω ?_;intro G aT _ _;have ak:=bC.ext aT;have aU:({c0 s s0 i 0 with vars:=(c0 s s0 i 0).vars.set i {({j with mask:=f.mask}:bh)with un:=dA f.un j.un v}}:am).vars[i]?=σ {({j with mask:=f.mask}:bh)with un:=dA f.un j.un v}:=c9 aQ;obtain⟨ck,cl,bF,bG,bH,cm,bI⟩:=q8 ak aU;rw[aG aA.p 5 ak.box bG,eL cP.u au.i (x5.1 aU).1 λ_=>rfl,aF (v:=bF) (o:=0+i*1) Ψ (by rw[X3,U2];exact bH)];refine(ob (i:=(i:Int)) (v:=(v:Int)) ak.de).mono ?_;rintro _ y _ ⟨rfl,aW⟩;refine⟨.inl aW,?_⟩;have bJ:eU n i v:=⟨Ω,Ω,Ω,by rw[u9,u4,X,V2];omega⟩;have bK:gf s (i:Int).toNat (v:Int).toNat=c:=by
   unfold gf;rw[u9,J,u9];show f.un.getD v 0=c;rw[u4,M];rfl
  rw[if_pos bJ,bK,bz,bA];refine bI aW (by show v<(dA f.un j.un v).length;rw[xe Q];exact ah) λW d17=>?_;rw[aM];refine bB _ ?_;have bL:=cn.comp tS bE (cn.comp (aT.aa _) (λq r h=>.inl ⟨q,h⟩) d17.xi);have e:ev {c0 s s0 i 0 with vars:=(c0 s s0 i 0).vars.set i {({j with mask:=f.mask}:bh)with un:=dA f.un j.un v}} i {({j with mask:=f.mask}:bh)with un:=dA f.un j.un v} ((dA f.un j.un v).set v c)={c0 s s0 i 0 with vars:=(c0 s s0 i 0).vars.set i {({j with mask:=f.mask}:bh)with un:=dA f.un j.un (v+1)}}:=by
   unfold ev;simp only;rw[List.set_set,tG Q M]
  rw[<-e];exact bL
 .rintro E bx d14;refine b7 Ω (a2 _ ?_);have e:({c0 s s0 i 0 with vars:=(c0 s s0 i 0).vars.set i {({j with mask:=f.mask}:bh)with un:=dA f.un j.un j.un.length}}:am)=c0 s s0 (i+1) 0:=by
   rw[tF Q,PD bm];show(⟨s.zero,(dA s.vars s0.vars i).set i f,dA s.funs s0.funs 0,s0.dd⟩:am)=_;rw[tG aw J];rfl
  rw[<-e];exact d14
end
theorem set_self{α:Type}{l:List α}{i:Nat}{x:α}(h:l[i]?=σ x):l.set i x=l:=by
 refine Y7 λj=>?_;by_cases e:i=j
 .subst e;rw[c9 (x5.1 h).1,h]
 .rw[Y5 e]
section
variable{w:x4}{ab ac gy:Nat}{A R:af}{A9:Nat->af}{aB:af}{n:aK}{s s0:am}{t:az}{ap:List az}{cs:List x3}
theorem QI{m:Nat}{Y:x3}{K:x4->Prop}(p:b5 w ab ac gy A R A9 aB n s (c0 s s0 m j) t ap cs)(Z:dS s0 s)(ad:j<s0.funs.length)(aU:∀f∈s0.funs,f.live≠0)(aV:Y=Γ ab)(aW:∀w',cn w ab ac gy A R A9 aB n s t ap (c0 s s0 m (j+1)) w'->K w'):
  V x8 (u6 aA (Γ gy) 6) w λaY=>
  V x8 (u5 dm aY) w λaZ=>
  V x8 (j5 dm aZ (Δ (j:Int))) w λa1=>
  V x8 (u6 cU a1 0) w λt66=>
  V x8 (u6 aX t66 1) w λa2=>
  V x8 (u5 an a2) w λa6=>
  ai x8 uJ [a6] w λae C=>
  V x8 (W7 #[b2] ag #[ae]) C λt70=>
  b1 (Δ 0) C λE z a7=>
   V x8 (aJ .lss ag false false E t70) z λa8=>
   Split a8 (V x8 (j5 b2 ae E) z λba=>
   V x8 (u5 an ba) z λbb=>
   eg z λB=>
   V x8 (u6 aA (Γ gy) 6) B λt77=>
   V x8 (u5 dm t77) B λaf=>
   V x8 (j5 dm af (Δ (j:Int))) B λaj=>
   V x8 (u6 cU aj 0) B λL=>
   V x8 (u6 aX L 2) B λM=>
   V x8 (u5 au M) B λal=>
   ai x8 yZ [Y,Δ (j:Int),bb] B λaq x=>
    (Ext B x\/bZ x8 (u5 au M) al x/\bZ x8 (u6 aX L 2) M x/\bZ x8 (u6 cU aj 0) L x/\bZ x8 (u5 dm t77) af x/\bZ x8 (u6 aA (Γ gy) 6) t77 x/\True)/\
   V x8 (Y2 aq 0) x λbc=>
    V x8 (Y2 aq 1) x λbN=>
    V x8 (j5 au al E) x λbd=>
    aC x8 (o8 ao bd bc) x λ(_:Unit)N=>
    V x8 (aJ .add ag false true E (Δ 1)) N λbe=>
   a7 be N)
   (K z):=by
 subst aV;have av:=p.de.2.2.2.1;have aw:=Z.funs;obtain⟨f0,O⟩:=aD (l:=s0.funs) ad;obtain⟨f1,G⟩:=aD (l:=s.funs) (i:=j) Ω;obtain⟨bf,ax,ay,P⟩:=Z.fn j f0 f1 O G;have bg:=aU f0 (x6 O);have bh:f1.live≠0:=by rw[ay];exact bg
 have az:=x6 G;obtain⟨bk,bl,_⟩:=av.funs f1 az;obtain⟨aE,bO⟩:=kB av az;have bn:f1.ah.length=f1.sc.length:=by rw[bl];simp[bI]
 have Q:(c0 s s0 m j).funs[j]?=σ f0:=by
  show(dA s.funs s0.funs j)[j]?=_;rw[Et aw ad];exact O
 have bo:=(x5.1 Q).1;obtain⟨szv,bP,bQ,bR,bS,bT,bp,_,_,_,_,_,bq,_⟩:=p.look;rw[aG aA.p 6 bp rfl];refine jH (i:=j) rfl dm.u cU.i bq (by rw[v8,Q];rfl) λb o bU H I=>?_;obtain⟨bV,aI,v3,rfl,h1,S,bW⟩:=mW I;rw[aS cU.p rfl,aS aX.p rfl,aF (v:=aI) Ψ (H 1 _ rfl)];have S:aH .i64 w aI f1.ah:=by rw[ax];exact dD S
 refine(vk f1.ah S ⟨by rw[bn];exact bk.scope.2,aE⟩).mono ?_;rintro br C _ ⟨U,W⟩;have bX:=U.size;rw[fG b2.u W];have bt:=p.olds.ext U;have bu:cn C ab ac gy A R (λq r=>A9 q r/\r<w.heap.size) aB n s t ap {c0 s s0 m j with funs:=(c0 s s0 m j).funs.set j {f0 with cs:=dA f1.cs f0.cs 0}} C:=by
  have e:({c0 s s0 m j with funs:=(c0 s s0 m j).funs.set j {f0 with cs:=dA f1.cs f0.cs 0}}:am)=c0 s s0 m j:=by
   show({c0 s s0 m j with funs:=(c0 s s0 m j).funs.set j f0}:am)=_;rw[set_self Q]
  rw[e];exact cn.same bt (Ext.refl _)
 have bY:=p.box.lt;refine b1.range (bj f1.ah).length (λk z=>(cn C ab ac gy A R (λq r=>A9 q r/\r<w.heap.size) aB n s t ap {c0 s s0 m j with funs:=(c0 s s0 m j).funs.set j {f0 with cs:=dA f1.cs f0.cs k}} z)/\Seen (λr=>w.heap.size<=r/\r<C.heap.size) z [br] (bj f1.ah)) (lW W) ⟨bu,nA W λr H h=>⟨h.elim id False.elim,H⟩⟩ ?_ ?_
 .rintro k z bw hk ⟨d20,aK⟩ bx;obtain⟨bB,b0,b3,bC,aL⟩:=id d20;obtain⟨tl,aN⟩:=aD (l:=bj f1.ah) hk;obtain⟨c,I⟩:=aD (l:=f1.cs) (i:=k) Ω;have aP:=jl aE aN;refine bD Ω ?_;refine gw (α:=Λ) (a:=tl) rfl rfl b2.u an.i Ψ aK aN λaO bE=>?_;intro B J _ _;have X:=bC.ext J;have aQ:({c0 s s0 m j with funs:=(c0 s s0 m j).funs.set j {f0 with cs:=dA f1.cs f0.cs k}}:am).funs[j]?=σ {f0 with cs:=dA f1.cs f0.cs k}:=c9 bo;obtain⟨b4,cap,eP,eQ,y,bF,bG,_,b6,bH⟩:=EC X aQ;rw[aG aA.p 6 X.box bF,eL dm.u cU.i (x5.1 aQ).1 λ_=>rfl,aS cU.p rfl,aS aX.p rfl,aF (v:=y) (o:=0+j*4+0+2) Ψ (by rw[X3];exact bG 2 _ rfl)];refine(wN (j:=j) X.de ((dD (hS bE)).ext J)).mono ?_;rintro _ x _ ⟨rfl,aR⟩;refine⟨.inl aR,?_⟩;obtain⟨bJ,bK⟩:=xj G bh aP;have bL:pw s j tl=c:=by
   rw[bK];unfold bm;rw[aP];simp only;rw[u9,u4,I];rfl
  rw[if_pos bJ,bL,bz,bA];refine bH aR (by show k<(dA f1.cs f0.cs k).length;rw[xe P];omega) λN d23=>?_;rw[aM];have aT:=cn.comp bB aL (cn.comp (J.aa _) (λq r h=>.inl ⟨q,h⟩) d23);have e:dG {c0 s s0 m j with funs:=(c0 s s0 m j).funs.set j {f0 with cs:=dA f1.cs f0.cs k}} j {f0 with cs:=dA f1.cs f0.cs k} ((dA f1.cs f0.cs k).set k c)={c0 s s0 m j with funs:=(c0 s s0 m j).funs.set j {f0 with cs:=dA f1.cs f0.cs (k+1)}}:=by
   unfold dG;simp only;rw[List.set_set,tG P I]
  rw[e]at aT;refine bx _ ⟨aT,?_⟩;obtain⟨bM,b8,b9,ca,cb⟩:=id d23;refine ak.aa (bi aK J) bM λr H h h'=>?_;have h:=h.elim False.elim id;rcases h' with⟨q,h'⟩|h'
  .rcases aL q r h' with⟨cc,h'⟩|h'
   .have:=h'.2;omega
   .omega
  .have h':r=gy:=h';omega
 .rintro z bw ⟨d20,_⟩;refine b7 Ω (aW _ ?_);have e:({c0 s s0 m j with funs:=(c0 s s0 m j).funs.set j {f0 with cs:=dA f1.cs f0.cs (bj f1.ah).length}}:am)=c0 s s0 m (j+1):=by
   rw[show(bj f1.ah).length=f0.cs.length by omega,tF P,PF ⟨bf,ax,ay⟩];show(⟨s.zero,dA s.vars s0.vars m,(dA s.funs s0.funs j).set j f1,s0.dd⟩:am)=_;rw[tG aw G];rfl
  rw[<-e];exact cn.comp (U.aa _) (λq r h=>.inl ⟨q,h.1⟩) d20
end
section
variable{w:x4}{ab ac al:Nat}{A R:af}{A9:Nat->af}{aB:af}{n:aK}{s s0:am}{t:az}{ap:List az}{cs:List x3}
theorem xu(p:b5 w ab ac al A R A9 aB n s s0 t ap cs)(ao:Laid w)(H:dS s0 s)(I:bg n.k n.sizes s0)(aK:∀f∈s0.funs,f.live≠0)(aL:s0.funs.length<=1000)(aN:s0.dd.length<=1000):
  ai x8 Ge [Γ ab,.agg cs.toArray] w λr w'=>Ext w w'/\∃e bu,r= .agg bu.toArray/\fQ true e aB w' bu n.k n.sizes s/\∀q r,e q r->w.heap.size<=r:=by
 have bl:=I.ef.2.1;have bm:=I.vars;obtain⟨aO,bn⟩:=bt.len p.doc;have bo:=rf ao;refine ay func12 ?_;refine bk λg1 J bp aq P=>?_;have P:ad J g1 aA cs:=P;refine bw aA.i λgt U bq au av=>?_;have L:=aq.trans au;rw[bF aA.p aA.i aO (P.ext au).range];refine(Pg (p.doc.ext L) (λr a=>by have:=(p.read r a).2.1;have:=L.size;omega) I aL aN).mono ?_;rintro _ x _ ⟨Q,e,bu,rfl,aw,B⟩;obtain⟨aP,aQ⟩:=bt.len aw;have br:=L.size;have bx:=aq.size;have z3:=Q.size;have lt:=av.lt;refine bw aA.i λgy bz bA aR aT=>?_;refine bT (vs:=bu) aA.i aP rfl aQ aT λy aU bB ax=>?_;have M:Ext x y:=aR.put aU Ω;have S:=(L.trans Q).trans M;have bC:=M.size;have bE:=ax.lt;have az:b5 y ab ac gy A R (λq r=>e q r/\r<x.heap.size) aB n s s0 t ap bu:=by
  have N:=p.ext S;refine⟨N.de,N.hg,ax,(bt.old aw).ext M,λq r a=>⟨λh=>?_,λh=>?_,by have:=a.2;omega⟩,λr a=>⟨(N.read r a).1,(N.read r a).2.1,by have:=(p.read r a).2.1;omega⟩,λh=>?_,λh=>?_⟩
  .have:=mc p.de r (.inl h);have:=B q r a.1;omega
  .have:=mc p.de r (.inr h);have:=B q r a.1;omega
  .have:=mc p.de gy (.inl h);omega
  .have:=mc p.de gy (.inr h);omega
 refine(oa az.de).mono ?_;rintro _ bG _ ⟨rfl,aC⟩;have aW:=az.ext aC;rw[aS aA.p rfl];refine ED aW λaX d7=>?_;have aD:cn y ab ac gy A R (λq r=>e q r/\r<x.heap.size) aB n s t ap (c0 s s0 0 0) aX:=cn.comp (aC.aa _) (λq r h=>.inl ⟨q,h⟩) d7;obtain⟨bH,bI,bJ,aY,bK⟩:=id aD;obtain⟨szv,bL,bM,bN,bO,bP,aZ,a1,_⟩:=aY.look;rw[aG aA.p 1 aZ rfl,aV an.u a1];have a2:∀{z:x4},ae (λr=>(∃q,e q r/\r<x.heap.size)\/r=gy) y z->Laid z:=λa6=>hP a6 (λh=>by
  rcases h with⟨q,h,_⟩|h
  .have:=B q 0 h;omega
  .omega) (ao.ext S)
 refine b1.range n.sizes.length (λi z=>cn y ab ac gy A R (λq r=>e q r/\r<x.heap.size) aB n s t ap (c0 s s0 i 0) z) Ω aD ?_ ?_
 .rintro i z C hi d8 W;obtain⟨X,a7,a8,Y,aE⟩:=id d8;refine bD Ω ?_;refine QH (K:=λZ=>V x8 (aJ .add ag false true (Δ (i:Int)) (Δ 1)) Z λt55=>C t55 Z) Y (a2 X) H hi rfl I λZ d14=>?_;rw[aM];exact W _ (cn.comp X aE d14)
 rintro z C d8;refine b7 Ω ?_;obtain⟨X,a7,a8,Y,aE⟩:=id d8;obtain⟨_,_,_,_,bQ,_,ba,_,_,_,_,_,bb,_⟩:=Y.look;have bc:(c0 s s0 n.sizes.length 0).funs.length=s0.funs.length:=xe H.funs;rw[aG aA.p 6 ba rfl,fG dm.u bb,u7,bc];refine b1.range s0.funs.length (λj O=>cn y ab ac gy A R (λq r=>e q r/\r<x.heap.size) aB n s t ap (c0 s s0 n.sizes.length j) O) Ω d8 ?_ ?_
 .rintro j O C bd d18 W;obtain⟨E,af,ah,G,aj⟩:=id d18;refine bD Ω ?_;refine QI (K:=λak=>V x8 (aJ .add ag false true (Δ (j:Int)) (Δ 1)) ak λbe=>C be ak) G H bd aK rfl λak d20=>?_;rw[aM];exact W _ (cn.comp E aj d20)
 rintro O C d18;refine b7 Ω ?_;rw[show n.sizes.length=s0.vars.length by omega,PC H]at d18;obtain⟨E,af,ah,G,aj⟩:=d18;obtain⟨am,bf⟩:=bt.len G.doc;have bR:=E.size;rw[bF aA.p aA.i am G.box.range];have aF:∀r,(∃q,e q r/\r<x.heap.size)\/r=gy->U.heap.size<=r:=λr a=>by
  rcases a with⟨q,h,_⟩|h
  .exact B q r h
  .omega
 have bh:ad O gt aA _:=((av.ext Q).ext M).aa E λh=>by have:=aF gt h;omega
 refine bT (vs:=ah) aA.i am rfl bf bh λbS aH bU bi=>?_;rw[e6 aA.p aA.i am bi.range];have aI:∀q r,af q r->U.heap.size<=r:=λq r a=>by
  rcases aj q r a with⟨bj,h,_⟩|h
  .exact B bj r h
  .omega
 refine⟨(S.then E λr a h=>by have:=aF r h;omega).then aH λr a h=>by have h:r=gt:=h;omega,af,ah,rfl,G.doc.aa aH λr a h h'=>?_,λq r h=>by have:=aI q r h;omega⟩;have h':r=gt:=h';rcases h with⟨q,h⟩|h
 .have:=aI q r h;omega
 .have:=(p.read r h).2.1;omega
end
section
variable{w:x4}{ab ac al:Nat}{A R S:af}{A9:Nat->af}{aB:af}{n:aK}{s s0:am}{t:az}{ap:List az}{cs:List x3}
theorem QJ{all:x3}{L:List (Λ)}(p:b5 w ab ac al A R A9 aB n s s0 t ap cs)(V:Laid w)(M:dS s0 s)(N:bg n.k n.sizes s0)(W:∀f∈s0.funs,f.live≠0)(X:s0.funs.length<=1000)(Y:s0.dd.length<=1000)(Z:cp s0)(aa:cp s)(B:Seen S w [all] L)(ae:∀a∈L,gP s0 a)(af:∀a,gP s0 a->er n.k s a=er n.k s0 a):
  ai x8 Gh [Γ ab,.agg cs.toArray,all] w λr w'=>r= .bool true/\Ext w w':=by
 obtain⟨ag,aI⟩:=bt.len p.doc;refine ay func15 ?_;refine bk λg1 J aJ e j=>?_;have j:ad J g1 aA cs:=j;rw[bF aA.p aA.i ag j.range];refine(xu (p.ext e) (V.ext e) M N W X Y).mono ?_;rintro _ U _ ⟨ah,aK,bu,rfl,O,aL⟩;obtain⟨ak,am⟩:=bt.len O;refine bw aA.i λgy aN aP ao aq=>?_;refine bT (vs:=bu) aA.i ak rfl am aq λq au aQ av=>?_;have P:Ext U q:=ao.put au Ω;have C:=ah.trans P;have E:=e.trans C;have aw:iz q g1 n.k n.sizes s0:=eW.box (fQ.pA (p.ext e).doc) C (j.ext C);have ax:iz q gy n.k n.sizes s:=eW.box (fQ.pA O) P av;rw[fG b2.u (bi B E)];refine b3.range L.length (λi _ G=>Ext q G) (lW B) (Ext.refl _) ?_ ?_
 .rintro i az G aC hi x aE;obtain⟨tl,Q⟩:=aD (l:=L) hi;have H:=ae tl (x6 Q);refine bD Ω ?_;refine gw (α:=Λ) (a:=tl) rfl rfl b2.u an.i Ψ (bi B (E.trans x)) Q λaO y=>?_;have y:=dD (hS y);intro aR I _ _;have K:=x.trans I;refine(ax.ext K).load λaS aF=>?_;refine(aw.ext K).load λdO aG=>?_;refine(w7 aF p.de.2.2.2.1 aa (xd M H) (y.ext I)).mono ?_;rintro _ aT _ ⟨rfl,z⟩;refine⟨.inl z,(w7 (aG.ext z) N Z H (y.ext (I.trans z))).mono ?_⟩;rintro _ aU _ ⟨rfl,aH⟩;rw[af tl H,bK,aj];refine⟨λh=>absurd rfl h,λ_=>?_⟩;rw[aM];exact aE _ _ ((K.trans z).trans aH)
 .rintro az G aC x;exact b7 Ω ⟨rfl,E.trans x⟩
end
theorem EZ{p:x3}(aF:aH .u8 w p pl)(V:Bytes pl)(a2:eu w):ai x8 Gm [p] w (PG w (pl.take 300)):=by
 refine ay func25 ?_;refine bw aA.i λz J bO ah Y=>?_;have Y:ad J z aA z12:=Y;rw[aV cL.u (aF.ext ah),kU];refine JA (i:=min pl.length 300) Ω cL.u cH.i (aF.ext ah) Ω λbP ak=>?_;have a6:pl.take (min pl.length 300)=pl.take 300:=by
  by_cases h:pl.length<=300
  .rw[Nat.min_eq_left h,o6,j9 h]
  .rw[Nat.min_eq_right Ω]
 rw[a6]at ak;have Z:Bytes (pl.take 300):=λb a=>V b (T9 a);have a7:(pl.take 300).length<=300:=by rw[n9];omega
 generalize pl.take 300=q at ak Z a7;refine(OI ak Ω).mono ?_;rintro bR U _ ⟨al,bS,am⟩;have aG:=ah.trans al;refine(Mp am.ls Z Ω (a2.ext aG)).mono ?_;rintro bU bV _ ⟨W,B⟩;have aI:=aG.trans W;cases E:gB q with
 |none=>
  rw[E]at B;obtain⟨n,e,rfl,he⟩:=B;rw[gq,gu,gv];refine(Ds (am.ext W).ls Z Ω).mono ?_;rintro a8 an _ ⟨M,ba,bc,ao,_⟩;obtain rfl:=ao E;rw[gq,gu,gv];refine aW (λv X=>v= .bool true/\Ext an X) ?_ ?_
  .rintro _ X ⟨rfl,H⟩;rw[bQ,dn (cs:=#[Δ 0,.slice ν 0 0,Δ 0,.slice ν 0 0,.slice ν 0 0,.slice ν 0 0,.slice ν 0 0,.slice ν 0 0]) Ψ];obtain⟨_,_,s,C⟩:=DR;refine bT (vs:=z12) aA.i rfl rfl (by intro u hu;simp[z12]at hu;rcases hu with rfl|rfl|rfl|rfl<;>rfl) ((((Y.ext al).ext W).ext M).ext H) λbW bd bX be=>?_;rw[e6 aA.p aA.i rfl be.range];refine⟨((aI.trans M).trans H).then bd λr B he=>by have he:r=z:=he;omega,_,_,false,rfl,⟨rfl,(DR).elim λ_ h=>by obtain⟨_,_,h⟩:=h;exact λu hu=>by simp[z12]at hu;rcases hu with rfl|rfl|rfl|rfl<;>rfl⟩,.inl ⟨rfl,rfl⟩,λf aJ=>?_⟩;rw[E]at aJ;cases aJ
  .intro aw K;rw[bK,aj];exact⟨λ_=>K _ _ ⟨rfl,Ext.refl _⟩,λh=>absurd he h⟩
 |some f=>
  rw[E]at B;obtain⟨bY,n,rfl,bf⟩:=B;obtain⟨N,bg,O,bh,bi⟩:=OG Ω E;have P:=Cf O;have ae:=wP O;rw[gq,gu,gv];refine(Ds (am.ext W).ls Z Ω).mono ?_;rintro a8 an _ ⟨M,ba,bc,_,ao⟩;obtain⟨bZ,rfl,bj⟩:=ao f E;rw[gq,gu,gv];refine aW (λv X=>v= .bool false/\Ext an X) ?_ ?_
  rotate_left
  .intro aw K;rw[bK,aj];refine⟨λh=>absurd rfl h,λ_=>?_⟩;rw[da uW.u];exact K _ _ ⟨rfl,Ext.refl _⟩
  rintro _ X ⟨rfl,H⟩;rw[aY];have aK:=(aI.trans M).trans H;refine(Nx ((bf.ext M).ext H) O bg ⟨bh,bi⟩).mono ?_;rintro b0 bk _ ⟨ap,bl⟩;have af:=aK.trans ap;have Q:=((((Y.ext al).ext W).ext M).ext H).ext ap;have aL:=(bj.ext H).ext ap;have b1:=af.size;have b2:w.heap.size<=z:=Ω
  have b3:=Q.lt;rcases bl with⟨bm,e,he,rfl⟩|⟨b4,rfl,bn⟩
  .rw[bz,bA];refine OH.mono ?_;rintro _ aM _ ⟨rfl,j⟩;refine ib (λaq t4 x=>aq= .pointer ν/\t4= .bool false/\Ext w x/\∃cs:List x3,ad x z aA cs/\cs.length=8/\∀u∈cs,u.oneCell'=true) ?_ ?_
   .rintro _ _ x ⟨rfl,rfl,au,cs,av,s,C⟩;rw[e6 aA.p aA.i s av.range];exact⟨au,_,cs,false,rfl,⟨s,C⟩,.inl ⟨rfl,rfl⟩,λb5 aN bo=>absurd bo (by rw[E]at aN;cases aN;exact bm)⟩
   .intro aw K;have bp:=j.size;refine(DC (aL.ext j) O).mono ?_;rintro bq ax _ ⟨y,az⟩;refine(Ec (R:=λr=>w.heap.size<=r/\∃c,ad ax r ag c) (λr h=>h.2.elim λc a=>a.lt) (λr c V a=>⟨Ω,c,a⟩) az P.1 ae).mono ?_;rintro br bt _ ⟨G,A9,cs,rfl,S,aC⟩;obtain⟨s,C⟩:=S.len;rw[bb,aj];refine⟨λh=>absurd h he,λ_=>?_⟩;refine bT (vs:=cs) aA.i s rfl C (((Q.ext j).ext y).ext G) λbu L aO aD=>?_;exact K _ _ _ ⟨rfl,rfl,(((af.trans j).trans y).trans G).then L λr B he=>by have he:r=z:=he;omega,cs,aD,s,C⟩
  .rw[bz,bA];obtain⟨b6,bx,aP,bB⟩:=bn;have z5:=aK.size;refine(NT (R0:=λr=>w.heap.size<=r/\r<bk.heap.size) bx aP (λr o h I=>⟨by have:=bB r o h I;omega,(j6.1 (aP.aU r o h I)).1⟩) (λr h=>h.2) P.1 ae).mono ?_;rintro _ aM _ ⟨j,ab,ac,A,R,t,rfl,bC,aQ,aR,aS,bD⟩;have aT:bH aM ab ac A R (cg f) (cZ (cg f)) t:=⟨bC,aQ,OK P.1 ae aQ aR,NG P.1,P.1⟩;refine ib (λaq t4 x=>aq=Γ ab/\t4= .bool true/\Ext w x/\∃cs:List x3,ad x z aA cs/\cs.length=8/\(∀u∈cs,u.oneCell'=true)/\∃R' A9 aB,bH x ab ac A R' (cg f) (cZ (cg f)) t/\fQ true A9 aB x cs (cg f).k (cg f).sizes (cZ (cg f))/\(∀q r,A9 q r->¬A r/\¬R' r/\w.heap.size<=r)/\(∀r,aB r->¬eA x r/\r<x.heap.size/\w.heap.size<=r)/\∀r,R' r->w.heap.size<=r) ?_ ?_
   .rintro _ _ x ⟨rfl,rfl,au,cs,av,s,C,R',A9,aB,bE,S,bF,bG⟩;rw[e6 aA.p aA.i s av.range];exact⟨au,_,cs,true,rfl,⟨s,C⟩,.inr ⟨rfl,f,E,ab,ac,A,R',t,N,A9,aB,O,rfl,bE,aR,λr B=>by have:=aS r B;omega,S,bF,bG⟩,λ_ _ _=>rfl⟩
   .intro aw K;have bp:=j.size;refine(DC (aL.ext j) O).mono ?_;rintro bq ax _ ⟨y,az⟩;refine(Ec (R:=λr=>w.heap.size<=r/\∃c,ad ax r ag c) (λr h=>h.2.elim λc a=>a.lt) (λr c V a=>⟨Ω,c,a⟩) az P.1 ae).mono ?_;rintro br bt _ ⟨G,A9,cs,rfl,S,aC⟩;obtain⟨s,C⟩:=S.len;rw[bb,aj];refine⟨λ_=>?_,λh=>absurd rfl h⟩;rw[zz eh.u];have aX:=((Q.ext j).ext y).ext G;have bI:=((af.trans j).trans y).trans G;refine bT (vs:=cs) aA.i s rfl C aX λbu L aO aD=>?_;have aZ:=(aT.ext y).ext G;obtain⟨R',a1,bJ⟩:=aZ.1.put aX L λh=>by have:=aS z h;omega
    have b7:=((af.trans j).trans y).size;have b8:=G.size;obtain⟨_,_,_,_,⟨_,_,bL,bM⟩,_⟩:=(aT.ext y).1;have b9:=Q.lt;have ca:=(j.trans y).size;have bN:=S.aa L λr B h he=>by
     have he:r=z:=he;rcases h with⟨q,h⟩|⟨_,c,a⟩
     .have:=aC q r h;omega
     .subst he;exact absurd (fh a (((Q.ext j).ext y))) Φ
    refine K _ _ _ ⟨rfl,rfl,bI.then L λr B he=>by have he:r=z:=he;omega,cs,aD,s,C,R',A9,_,⟨bJ,aZ.2⟩,bN,λq r h=>?_,λr h=>?_,λr h=>?_⟩
    .have cb:=aC q r h;refine⟨λaE=>by have:=bM r aE;omega,λaE=>by have:=bL r (a1 r aE).1;omega,Ω⟩
    .obtain⟨V,c,a⟩:=h;have cc:=a.lt;have aO:=L.size;refine⟨OF ((a.ext G).aa L λhe=>?_) Φ,Ω,V⟩;have he:r=z:=he;subst he;exact absurd (fh a (((Q.ext j).ext y))) Φ
    .rcases bD r (a1 r h).1 with h|h
     .exact h.1
     .omega
section
variable{Z aB:af}{w w':x4}{ab ac al:Nat}{A R:af}{A9:Nat->af}{n:aK}{s s':am}{t:az}{cs:List x3}{a:gj}
theorem QK(h:fe Z aB w ab ac al n s)(W:a.ok):ai x8 uI [Γ ab,Γ al,.agg a.bY.toArray] w λ_ w'=>j8 Z aB w ab ac al n (ly n s a) w':=by
 obtain⟨A,R,A9,t,cs,p,⟨aC,Q⟩,aD,S,aE⟩:=id h;have N:=p.de.2.2.2.1;have br:=N.fu;have bt:=a.QA;have G:¬A 0:=λh=>Q ((S 0).2 (.inl h));have X:=QB (a:=a) aD N;refine ay func28 ?_;refine bk λga J bu aH Y=>?_;have Y:ad J ga c6 [.int .u8 a.d,Δ a.i,Δ a.pos,Δ a.v,Δ a.c]:=Y;intro U aJ _ _;have C:=aH.trans aJ;have B:=Y.ext aJ;have bw:=aH.size;have bx:=C.size;have bz:=B.lt;have ae:(a.d % 7).toNat=a.kind:=rfl;obtain⟨szv,bA,bB,bC,bD,bE,aV,_⟩:=p.oh;have aW:cs[0]?=σ (Δ n.k):=by rw[aV];rfl
 have hu:U8.wrap a.c=a.c.emod 18446744073709551616:=rfl;have aX:0<=a.c.emod 18446744073709551616:=Int.emod_nonneg _ Φ;have bF:=Int.emod_nonneg (a.c.emod 18446744073709551616) (show n.k+1≠0 by omega);have bG:=Int.emod_lt_of_pos (a.c.emod 18446744073709551616) (show 0<n.k+1 by omega);have aY:a.c.emod 18446744073709551616 % (n.k+1)=tS n.k a:=rfl;rw[aG c6.p 4 B rfl,fo ao.u fA.u,aQ aA.p 0 (p.box.ext C) aW,aM,wrap_i64 Ω Ω,fo ao.u fA.u,wrap_u64 (x:=n.k+1) Ω Ω,hu,p3 Ω,Int.tmod_eq_emod_of_nonneg aX,fo fA.u ao.u,wrap_i64 Ω Ω,aY,
  aG c6.p 0 B rfl,xq W.1,ae,bb,aj]
 have E:=p.ext C;refine⟨λaf=>?_,λaf=>?_⟩
 .have af:a.kind=6:=Ω
  have H:ly n s a=if eU n a.i a.v then dM s a.i.toNat a.v.toNat else s:=by unfold ly;rw[if_pos af]
  refine dl (λw'=>j8 Z aB w ab ac al n (ly n s a) w') (λw' h=>h) λaw aK=>?_;rw[aG c6.p 1 B rfl,aG c6.p 3 B rfl];refine(wO (i:=a.i) (v:=a.v) E.de (.inl p.hg.1)).mono ?_;rintro bH bI _ ⟨aZ,a1⟩;by_cases I:eU n a.i a.v
  rotate_left
  .obtain⟨rfl,a2⟩:=aZ I;rw[bb,aj];exact⟨λh=>absurd h Φ,λ_=>aK _ (by rw[H,if_neg I];exact j8.same h (C.trans a2))⟩
  obtain⟨rfl,aL,aI,y,ah,a6⟩:=a1 I;rw[if_pos I]at H;rw[bb,aj];refine⟨λ_=>?_,λh=>absurd rfl h⟩;have a7:=E.prog aL ah a6 E.hg.set (λ_ h=>.inl h) (λ_ _ _ h=>h) E.box.lt;obtain⟨a8,x,O,ba,bJ⟩:=EY N I;obtain⟨ak,V⟩:=U6 a8;rw[V,u9]at O;intro am ap _ _;have j:=a7.ext ap;have aq:∀r,A r->r<w.heap.size:=λr h=>mc p.de r (.inl h);have P:=(B.aa ah.1 λh=>by have:=aq ga h;omega).ext ap;rw[V]at P;have aN:ak<s.vars.length:=(x5.1 O).1;obtain⟨g,cap,aO,gy,e,au,bc,bd,be,bg⟩:=QC j O;have bK:=q7 x;have bL:x.un.length<=32:=by obtain⟨bM,aP,bN,bh,_⟩:=I.var N;rw[V,u9,O]at aP;cases aP;exact bh
  have av:∀r,leads aO r->r≠ga/\r≠al:=λr f=>by
   have h1:A9 0 r/\r<U.heap.size:=be r f;exact⟨λhe=>by have:=aE 0 r h1.1;omega,λhe=>(p.apart 0 r h1.1).2.2 he⟩
  rw[aQ aA.p 3 j.box au,aG c6.p 1 P rfl,aQ aA.p 3 j.box au,aG c6.p 1 P rfl,eL b2.u an.i aN λ_=>rfl,aF (v:=aO) (o:=0+ak*1) Ψ bc,kV];refine(Pl (p:=λy=>decide (y=a.v)) bd Ω λw' y bi bO=>?_).mono ?_
  .refine ay func73 ?_;rw[aG c6.p 3 (P.aa bi λh=>(av ga h).1 rfl) rfl,bb];exact⟨rfl,Ext.refl _⟩
  rintro bP ax _ ⟨az,bj,bl⟩;have bm:=P.aa az λh=>(av ga h).1 rfl;have bn:=j.box.aa az λh=>(av al h).2 rfl;refine⟨.inr ⟨sg Ψ (bm.cell (o:=0+1) rfl),Go.Vc.k8 λK=>aS c6.p rfl,sg Ψ (bn.cell (o:=0+3) au),Go.Vc.k8 λK=>aS aA.p rfl,Go.Vc.k8 λK=>bX,trivial⟩,?_⟩;rw[eL b2.u an.i aN λ_=>rfl];refine bg (m:=((x.mask.toNat ||| 2 ^ a.v.toNat:Nat):Int)) (Ext.refl _) az (by rw[w6 ba];exact bj) bl λbQ aR=>aK _ ?_;have bo:dM s a.i.toNat a.v.toNat={s with vars:=s.vars.set ak {x with mask:=((x.mask.toNat ||| 2 ^ a.v.toNat:Nat):Int)}}:=by rw[V,u9];unfold dM;rw[O]
  rw[H];rw[<-bo]at aR;have bp:=cn.comp (ap.aa _) (λq r f=>.inl ⟨q,f⟩) aR;exact j8.before C (fe.QD E S (by rw[<-H];exact X) Q (aC.ext C) aL ah (λq r (f:A9 q r/\r<U.heap.size)=>f.1) bp)
 have bR:(kG n.k a).kind=a.kind:=rfl;have H:ly n s a=(bf n.k s (kG n.k a)).1:=by unfold ly;rw[if_neg Ω]
 rw[aG c6.p 0 B rfl,xq W.1,ae,fo cH.u ag.u,wrap_i64 Ω Ω,aG c6.p 1 B rfl,aG c6.p 2 B rfl,aG c6.p 3 B rfl];refine(Qo (m:=kG n.k a) E N aD.1 Ω).mono ?_;rintro _ am _ ⟨rfl,aT⟩;obtain⟨aU,bS,bT,j,bU⟩:=id aT;have aq:∀r,(∃q,A9 q r)\/r=al->r<w.heap.size:=λr f=>f.elim (λ⟨q,h⟩=>aE q r h) λh=>by rw[h];exact p.box.lt
 have z:=B.aa aU λf=>by have:=aq ga f;omega
 have L:Laid am:=hP aU (λh=>Q ((S 0).2 (h.elim (λh=>.inr (.inr (.inl h))) λh=>.inr (.inr (.inr (.inr h)))))) (aC.ext C);have M:∀{r:x3}{ax:x4},ot [] am ab ac A R n s (kG n.k a) r ax->j8 Z aB w ab ac al n (ly n s a) ax:=λbq=>by
  rw[H]at X ⊢;exact j8.before C (fe.step E S X Q aT (Ext.refl _) bq.2)
 rw[aG c6.p 0 z rfl,xq W.1,ae,bb,aj];refine⟨λhk=>?_,λbV=>?_⟩
 .rw[aG c6.p 1 z rfl,aG c6.p 2 z rfl,aG c6.p 3 z rfl];exact(P8 (a:=kG n.k a) Ω j.de L G j.hg.m).mono λr w' _ f=>M f
 rw[bb,aj];refine⟨λhk=>?_,λbW=>?_⟩
 .rw[aG c6.p 1 z rfl,aG c6.p 2 z rfl,aG c6.p 3 z rfl];exact(P9 (a:=kG n.k a) Ω j.de L G j.hg.m).mono λr w' _ f=>M f
 rw[bb,aj];refine⟨λhk=>?_,λbZ=>?_⟩
 .rw[aG c6.p 1 z rfl];exact(ER (a:=kG n.k a) Ω j.de L G j.hg.m).mono λr w' _ f=>M f
 rw[bb,aj];refine⟨λhk=>?_,λb0=>?_⟩
 .rw[aG c6.p 1 z rfl];exact(Qf (a:=kG n.k a) Ω j.de L G j.hg.m).mono λr w' _ f=>M f
 rw[bb,aj];refine⟨λhk=>?_,λb1=>?_⟩
 .rw[aG c6.p 1 z rfl,aG c6.p 3 z rfl];exact(ES (a:=kG n.k a) Ω j.de L G j.hg.m).mono λr w' _ f=>M f
 .rw[aG c6.p 1 z rfl,aG c6.p 3 z rfl];exact(Qg (a:=kG n.k a) Ω j.de L G j.hg.m).mono λr w' _ f=>M f
end
section
variable{w0 w w':x4}{ab ac al:Nat}{n:aK}{s:am}{Z aB:af}
theorem lz.QL{a:gj}(h:lz w0 w ab ac al n)(p:a.ok):ai x8 uI [Γ ab,Γ al,.agg a.bY.toArray] w λ_ w'=>lz w0 w' ab ac al n:=by
 obtain⟨e,s,Z,aB,q,f⟩:=h;refine(QK q p).mono ?_;rintro v J _ ⟨x,y,A,B⟩;have z:=e.size;exact⟨e.then x λr j h=>by have:=f r h.1;omega,_,y,aB,B,λr j=>(A r j).elim (f r) λh=>Ω⟩
theorem QM{e:x3}{L:List j7}{K:x3->x4->Prop}{i:Nat}{x:j7}(j:Seen eN w [e] L)(q:L[i]?=σ x)(r:∀g w',Ext w w'->w.heap.size<=g->ad w' g c6 (lx x).bY->K (Γ g) w'):
  V x8 (j5 nq e (Δ (i:Int))) w λs=>
  V x8 (u5 c6 s) w λy=>
  aC x8 (Instr.alloc c6 true (.tuple #[])) w λa f=>
  aC x8 (o8 c6 a y) f λ(_:Unit)h=>K a h:=by
 refine lX (α:=j7) c6.p rfl nq.u c6.i j q λcs z=>?_;obtain rfl:=Qz z;refine bw c6.i λgy f F A B=>?_;refine bT (vs:=(lx x).bY) c6.i rfl rfl (gj.one _) B λh C G E=>?_;exact r _ _ (A.put C Ω) Ω E
theorem QN{r:x3}{L:List j7}{m:Int}{K:x4->Prop}(h:lz w0 w ab ac al n)(e:Seen eN w0 [r] L)(H:∀x∈L,(lx x).ok)(I:∀w',lz w0 w' ab ac al n->K w'):
  V x8 (W7 #[nq] ag #[r]) w λJ=>
 b1 (Δ 0) w λj a k=>
  V x8 (aJ .lss ag false false j J) a λM=>
  Split M (cv (α:=x4->Prop) (λ(y:x4)=>
   V x8 (aJ .add ag false true j (Δ 1)) y λN=>
   k N y) λz=>
  V x8 (j5 nq r j) a λO=>
  V x8 (u5 c6 O) a λP=>
  aC x8 (Instr.alloc c6 true (.tuple #[])) a λb A=>
  aC x8 (o8 c6 b P) A λ(_:Unit)q=>
  V x8 (aJ .lss ag false true j (Δ m)) q λQ=>
  Split Q (V x8 (u5 c6 b) q λR=>
   ai x8 uI [Γ ab,Γ al,R] q λZ B=>
   z B)
   (z q))
   (K a):=by
 rw[fG nq.u (bi e h.1)];refine b1.range L.length (λi s=>lz w0 s ab ac al n) (lW e) h ?_ ?_
 .rintro i s S hi f U;obtain⟨x,C⟩:=aD (l:=L) hi;have W:=H x (x6 C);refine bD Ω ?_;refine dl (λa=>lz w0 a ab ac al n) (λa X=>by rw[aM];exact U _ X) λaw E=>?_;refine QM (bi e f.1) C λgy A G _ Y=>?_;rw[aR,aj];refine⟨λ_=>?_,λ_=>E _ (f.ext G)⟩;rw[bF c6.p c6.i rfl Y.range];exact((f.ext G).QL W).mono λv B _ e=>E _ e
 .rintro s S f;exact b7 Ω (I _ f)
end
def E0(w:x4)(pl:Λ)(r:x3)(w':x4):Prop:=Ext w w'/\((∃cs:List x3,r= .tuple #[.pointer ν,.agg cs.toArray,.bool false]/\cs.length=8/\∀u∈cs,u.oneCell'=true)\/∃f ab ac al Z aB s cs,r= .tuple #[Γ ab,.agg cs.toArray,.bool true]/\gB (pl.take 300)=σ f/\(cg f).k<=1000/\
 fe Z aB w' ab ac al (cg f) s/\iA [] Z aB w' ab ac al (cg f) s s cs/\∀r,Z r->w.heap.size<=r)
theorem E1{p aa:x3}{L:List j7}(ax:aH .u8 w p pl)(az:∀b∈pl,0<=b/\b<256)(aD:Seen eN w [aa] L)(aE:∀x∈L,(lx x).ok)(aF:eu w)(M:Laid w):ai x8 Gb [p,aa] w (E0 w pl):=by
 have a6:=rf M;refine ay func8 ?_;refine bw aA.i λj J a7 y af=>?_;have a8:=af.lt;have ba:=y.size;refine(EZ (ax.ext y) az (aF.ext y)).mono ?_;rintro _ U _ ⟨N,bb,cs,ok,rfl,⟨E,G⟩,aI,_⟩;rw[gq,gu,gv];refine bw aA.i λal bc bd aJ aK=>?_;refine bT (vs:=cs) aA.i E rfl G aK λH aL be O=>?_;have ag:Ext U H:=aJ.put aL Ω;have I:=N.trans ag;have ah:=y.trans I;have bf:=N.size;have out:∀{a:x4}{z:List x3}{K:x3->x4->Prop},Ext J a->ad a al aA z->z.length=8->(∀u∈z,u.oneCell'=true)->(∀e,ae (λr=>r=j) a e->K (.agg z.toArray) e)->
   V x8 (u5 aA (Γ al)) a λt25=>aC x8 (o8 aA (Γ j) t25) a λ(_:Unit)e=>V x8 (do loadVar aA (<-asAddr (Γ j))) e λr=>K r e:=λ{a z K}aM aN P aO aP=>by
  rw[bF aA.p aA.i P aN.range];refine bT (vs:=z) aA.i P rfl aO (af.ext aM) λe B bg aQ=>?_;rw[e6 aA.p aA.i P aQ.range];exact aP _ B
 have no:∀{e:x4},(∃a,Ext H a/\ae (λr=>r=j) a e)->E0 w pl (.tuple #[.pointer ν,.agg cs.toArray,.bool false]) e:=λ⟨a,q,aR⟩=>⟨(ah.trans q).then aR λr C h=>by have h:r=j:=h;omega,.inl ⟨cs,rfl,E,G⟩⟩;rcases aI with⟨rfl,rfl⟩|⟨rfl,f,aS,aT⟩
 .refine aW (λv Q=>Q=H/\v= .bool true) ?_ λaw S=>?_
  .rintro _ _ ⟨rfl,rfl⟩;rw[bQ];intro a q _ _;exact out (I.trans q) (O.ext q) E G λe B=>no ⟨a,q,B⟩
  .rw[bJ,X9,bQ];exact S _ _ ⟨rfl,rfl⟩
 obtain⟨ab,ac,Z,aB,rfl,ak,aU⟩:=Qp aT ag O Ω N.size (rf (M.ext y)) (M.ext ah);obtain⟨szv,bh,bj,bk,bl,bm,aV,_⟩:=ak.look;refine aW (λv Q=>Q=H/\v= .bool (decide (1000<(cg f).k))) ?_ λaw S=>?_
 rotate_left
 .rw[bJ,Y9,aY,aG aA.p 0 aV rfl,bS];exact S _ _ ⟨rfl,rfl⟩
 rintro _ _ ⟨rfl,rfl⟩;rw[aj];refine⟨λhk=>?_,λhk=>?_⟩
 .intro a q _ _;exact out (I.trans q) (O.ext q) E G λe B=>no ⟨a,q,B⟩
 refine QN (w0:=J) ⟨I,_,Z,aB,ak,aU⟩ (bi aD y) aE λbn aX=>?_;obtain⟨am,s,an,aZ,a1,ao⟩:=aX;intro bo W _ _;have ap:=a1.ext W;obtain⟨X,aq,a2⟩:=ap.c8;have au:X.length=8/\∀u∈X,u.oneCell'=true:=by
  obtain⟨A,R,A9,t,p,_⟩:=id aq;exact bt.len p.doc
 have av:∀r,an r->¬r=j:=λr C h=>by have:=ao r C;omega
 refine out (am.trans W) a2 au.1 au.2 λbp Y=>⟨((y.trans am).trans W).then Y λr C h=>by have h:r=j:=h;omega,.inr ⟨f,ab,ac,al,an,aZ,s,X,rfl,aS,Ω,ap.side Y av (λh=>by have h:0=j:=h;omega),aq.side Y av (λh=>by have h:0=j:=h;omega),λr C=>by have:=ao r C;omega⟩⟩
section
variable{w:x4}{ab ac:Nat}{A R:af}{n:aK}{s:am}{t:az}
theorem QO{i:Nat}(h:bH w ab ac A R n s t)(f:Laid w)(e:jZ n s (i:Int)=true):ai x8 y2 [Γ ab,Δ (i:Int)] w λr w'=>Ext w w'/\r= .tuple #[Δ (dz n s (i:Int)).1,Δ (dz n s (i:Int)).2,Δ 0]:=by
 obtain⟨_,x,a,_⟩:=DW h.2.2.2.1 e;rw[u9]at a;refine(OU (i:=(i:Int)) h f).mono ?_;rintro r q _ ⟨j,_,p⟩;refine⟨j,?_⟩;rw[p x e (by rw[u9];exact a)];unfold dz;rw[pF a]
end
theorem QP{of:Int->Int}:(l=[]/\(ds k l of).2= -1)\/(ds k l of).2∈l:=by
 have key:∀(l:Λ)(p:Int×Int),(l.foldl (eV of) p).2=p.2\/(l.foldl (eV of) p).2∈l:=λl=>by
  induction l with
  |nil=>exact λp=>.inl rfl
  |cons v l a=>
   intro p;rw[T7];rcases a (eV of p v)with h|h
   .rw[h];unfold eV;split
    .exact .inr (.head _)
    .exact .inl rfl
   .exact .inr (.tail _ h)
 cases l with
 |nil=>exact .inl ⟨rfl,rfl⟩
 |cons v l=>
  right;unfold ds;rw[T7];have e:eV of (k,-1) v=(of v,v):=by unfold eV;rw[if_pos (.inl rfl)]
  rw[e];rcases key l (of v,v)with h|h
  .rw[h];exact .head _
  .exact .tail _ h
def hp(s:am):Nat:=(s.vars.map λx=>(ax x).length).sum
def fw(k:Int)(s:am):Nat:=hp s+(k-s.zero).toNat
theorem QQ{l:List Nat}{i x y:Nat}(h:l[i]?=σ x):(l.set i y).sum+x=l.sum+y:=by
 induction l generalizing i with
 |nil=>simp at h
 |cons a l e=>
  cases i with
  |zero=>simp at h;subst h;rw[List.set_cons_zero,List.sum_cons,List.sum_cons];omega
  |succ i=>rw[List.set_cons_succ,List.sum_cons,List.sum_cons];have:=e (i:=i) (by simpa using h);omega
theorem E2{s:am}{i:Nat}{x y:bh}(a:s.vars[i]?=σ x):hp {s with vars:=s.vars.set i y}+(ax x).length=hp s+(ax y).length:=by
 unfold hp;rw[U5];exact QQ (by rw[v8,a];rfl)
section
variable{n:aK}{s:am}
theorem QR{x:bh}(hm:0<=x.mask)(h:v∈ax x):(ax {x with mask:=((x.mask.toNat ||| 2 ^ v.toNat:Nat):Int)}).length<(ax x).length:=by
 have a:=(fd.1 h).1.1;have f:((x.mask.toNat:Nat):Int)=x.mask:=Ω
 have e:ax {x with mask:=((x.mask.toNat ||| 2 ^ v.toNat:Nat):Int)}=(ax x).filter λu=>decide (u≠v):=by
  unfold ax;rw[List.filter_filter];refine List.filter_congr λu hu=>?_;obtain⟨q,_,rfl⟩:=j0.1 hu;simp only;rw[wZ a Ω,f];cases dropped x.mask (q:Int)<;>simp
 rw[e];refine Nat.lt_of_le_of_ne (List.length_filter_le _ _) λhe=>?_;have:=(List.filter_eq_self).1 (List.filter_sublist.eq_of_length he) v h;simp at this
theorem QS{i:Int}(f:bg n.k n.sizes s)(p:cp s):hG n.k n.sizes s (bf n.k s (ey i v)).1/\(bf n.k s (ey i v)).1.zero=s.zero/\(∀j u,eB n (bf n.k s (ey i v)).1 j u=eB n s j u)/\
  ((bf n.k s (ey i v)).2≠0->(bf n.k s (ey i v)).1=s/\∀x,dH s i v=σ x->cN n.k s.zero (x.un.getD v.toNat 0)<n.k)/\
  ((bf n.k s (ey i v)).2=0->hp (bf n.k s (ey i v)).1<hp s/\v∉bB (bf n.k s (ey i v)).1 i):=by
 have a:bf n.k s (ey i v)=match dH s i v with
  |none=>(s,1)
  |some x=>if cN n.k s.zero (x.un.getD v.toNat 0)<n.k then(s,7)else(dM s i.toNat v.toNat,0):=by
  unfold bf ey;simp only;rw[if_neg Ω,if_neg Ω,if_neg Ω,if_neg Ω,if_pos trivial];cases dH s i v<;>rfl
 cases q:dH s i v with
 |none=>
  rw[q]at a;rw[a];exact⟨.rfl f p,rfl,λ_ _=>rfl,λ_=>⟨rfl,λx e=>by cases e⟩,λh=>by cases h⟩
 |some x=>
  rw[q]at a;simp only at a;obtain⟨E,e,F,w⟩:=jr q;by_cases r:cN n.k s.zero (x.un.getD v.toNat 0)<n.k
  .rw[if_pos r]at a;rw[a];exact⟨.rfl f p,rfl,λ_ _=>rfl,λ_=>⟨rfl,λy A=>by cases A;exact r⟩,λh=>by cases h⟩
  .rw[if_neg r]at a;have z:=(fd.1 w).1;have B:(dM s i.toNat v.toNat).zero=s.zero:=by rw[jq e]
   have C:hG n.k n.sizes s (bf n.k s (ey i v)).1:=Es f p (by show 4<5;omega) (λj u hu=>by rw[a]at hu;exact((En f e z.1).1 hu).1) (by rw[a];show s.zero<=(dM s i.toNat v.toNat).zero;omega);refine⟨C,by rw[a];exact B,λj u=>by rw[a];exact Pz e,λh=>absurd (by rw[a]) h,λ_=>⟨?_,λhm=>?_⟩⟩
   .rw[a];show hp (dM s i.toNat v.toNat)<hp s;rw[jq e];have G:=(x5.1 e).1;have H:=f.vars;have h1:=f.var i.toNat x _ e (x7 Ω);have I:=QR h1.2.2.1 w;have:=E2 (s:=s) (y:={x with mask:=((x.mask.toNat ||| 2 ^ v.toNat:Nat):Int)}) e;omega
   .rw[a]at hm;exact((En f e z.1).1 hm).2 rfl rfl
theorem xv{i:Int}:∀(L:Λ)(s:am)(b:Bool),bg n.k n.sizes s->cp s->hG n.k n.sizes s (dj n.k i L (s,b)).1/\(dj n.k i L (s,b)).1.zero=s.zero/\(∀j u,eB n (dj n.k i L (s,b)).1 j u=eB n s j u)/\hp (dj n.k i L (s,b)).1<=hp s/\
  ((dj n.k i L (s,b)).2=false->b=false/\(dj n.k i L (s,b)).1=s)/\((dj n.k i L (s,b)).2=true->b=true\/hp (dj n.k i L (s,b)).1<hp s)/\
  ∀v∈L,v∈bB (dj n.k i L (s,b)).1 i->0<=i->∀x,s.vars[i.toNat]?=σ x->x.gone=0->cN n.k s.zero (eB n s i v)<n.k
 |[],s,b,f,q=>⟨.rfl f q,rfl,λ_ _=>rfl,o5 _,λh=>⟨h,rfl⟩,λh=>.inl h,λ_ h=>by cases h⟩
 |v::L,s,b,f,q=>by
  obtain⟨p,G,H,r,w⟩:=QS (i:=i) (v:=v) f q;have e:dj n.k i (v::L) (s,b)=dj n.k i L ((bf n.k s (ey i v)).1,decide ((bf n.k s (ey i v)).2=0)||b):=rfl;obtain⟨A,P,Q,I,R,S,T⟩:=xv (i:=i) L (bf n.k s (ey i v)).1 (decide ((bf n.k s (ey i v)).2=0)||b) p.ok p.me;rw[e];have J:hp (bf n.k s (ey i v)).1<=hp s:=by
   by_cases h:(bf n.k s (ey i v)).2=0
   .exact Nat.le_of_lt (w h).1
   .rw[(r h).1];exact o5 _
  refine⟨p.trans A,P.trans G,λj u=>(Q j u).trans (H j u),X0 I J,λh=>?_,λh=>?_,λu hu B C x a K=>?_⟩
  .obtain⟨h1,E⟩:=R h;rw[U3,decide_eq_false_iff_not]at h1;rw[E];exact⟨h1.2,(r h1.1).1⟩
  .rcases S h with h1|h1
   .rw[Bool.or_eq_true,decide_eq_true_eq]at h1;rcases h1 with h1|h1
    .exact .inr (Nat.lt_of_le_of_lt I (w h1).1)
    .exact .inl h1
   .exact .inr (T5 h1 J)
  .rcases V1.1 hu with rfl|hu
   .by_cases h:(bf n.k s (ey i u)).2=0
    .exact absurd (A.pD i u B) (w h).2
    .have M:u∈ax x:=by
      have h1:=p.pD i u (A.pD i u B);unfold bB at h1;rw[a]at h1;exact h1
     have U:dH s i u=σ x:=by
      unfold dH;rw[if_pos C,a];simp only;rw[if_pos ⟨K,M⟩]
     have E:=(r h).2 x U;have V:=(x5.1 a).1;have W:=f.vars;obtain⟨z,F⟩:=aD (l:=n.sizes) (i:=i.toNat) Ω;have aa:=(f.var i.toNat x z a F).1;have ab:=f.ef.2.2 z (x6 F);have X:=(fd.1 M).1;have Y:eU n i u:=⟨C,Ω,X.1,by rw[u4,F,V2];omega⟩;have Z:eB n s i u=x.un.getD u.toNat 0:=by unfold eB gf;rw[if_pos Y,a]
     rw[Z];exact E
   .have N:=p.same;have V:=(x5.1 a).1;have W:=N.vars;obtain⟨y,O⟩:=aD (l:=(bf n.k s (ey i v)).1.vars) (i:=i.toNat) Ω;have h1:=N.var i.toNat x y a O;have:=T u hu B C y O (h1.1.trans K);rw[G,H]at this;exact this
def ka(n:aK)(s:am)(i:Int):Prop:=dx s i.toNat=false->bB s i≠[]/\(dz n s i).1=0/\∀v∈bB s i,cN n.k s.zero (eB n s i v)<n.k
theorem xw{i:Int}(e:bg n.k n.sizes s):(dz n s i).2<0↔bB s i=[]:=by
 rcases QP (k:=n.k) (l:=bB s i) (of:=eB n s i)with⟨h1,a⟩|h
 .unfold dz;rw[a];exact⟨λ_=>h1,λ_=>Φ⟩
 .have h:(dz n s i).2∈bB s i:=h;generalize (dz n s i).2=w at h;have f:0<=w:=by
   unfold bB at h;split at h
   .exact (fd.1 h).1.1
   .cases h
  refine⟨λa=>Ω,λa=>?_⟩;rw[a]at h;cases h
theorem QT{i:Int}(f:bg n.k n.sizes s)(E:cp s)(B:0<=i)(hi:i<n.sizes.length)(w:dx s i.toNat=false)(F:bB s i≠[]):
  (bf n.k s (kC i (dz n s i).1)).2=0/\hG n.k n.sizes s (bf n.k s (kC i (dz n s i).1)).1/\hp (bf n.k s (kC i (dz n s i).1)).1=hp s/\(bf n.k s (kC i (dz n s i).1)).1.zero=min (s.zero+(dz n s i).1) n.k:=by
 have M:=f.vars;obtain⟨x,h⟩:=aD (l:=s.vars) (i:=i.toNat) Ω;have G:x.gone=0:=by unfold dx at w;rw[h]at w;simpa using w
 have C:bB s i=ax x:=by unfold bB;rw[h]
 have H:∀v∈ax x,eB n s i v=x.un.getD v.toNat 0:=λv r=>by
  obtain⟨z,p⟩:=aD (l:=n.sizes) (i:=i.toNat) Ω;have N:=(f.var i.toNat x z h p).1;have O:=f.ef.2.2 z (x6 p);have A:=(fd.1 r).1;have I:eU n i v:=⟨B,hi,A.1,by rw[u4,p,V2];omega⟩;unfold eB gf;rw[if_pos I,h]
 have A:=Em (i:=i) f;have J:=(Px (c:=(dz n s i).1) (Py (i:=i) f)).1 (Q1 _);have K:(dz n s i).1<=gS x:=Pu (by rw[<-C];exact F) λv r=>by
  have:=J.2 v (by rw[C];exact r);rw[H v r]at this;exact this
 have q:=(Pv (k:=n.k) (a:=kC i (dz n s i).1) B h G).2.1 rfl A K;have L:∀j u,u∈bB (bf n.k s (kC i (dz n s i).1)).1 j->u∈bB s j:=λj u hu=>by
  rw[q]at hu;have e:bB (hl s i.toNat x (λg=>dh n.k g (dz n s i).1) λg=>cN n.k g (dz n s i).1) j=bB s j:=Ps h rfl Ek;have hu:u∈bB (hl s i.toNat x (λg=>dh n.k g (dz n s i).1) λg=>cN n.k g (dz n s i).1) j:=hu;rw[e]at hu;exact hu
 have p:(bf n.k s (kC i (dz n s i).1)).1.zero=min (s.zero+(dz n s i).1) n.k:=by rw[q];rfl
 have P:=f.zero;refine⟨by rw[q],Es f E (by show 2<5;omega) L (by rw[p];omega),?_,p⟩;rw[q];show hp (hl s i.toNat x _ _)=hp s;have:=E2 (s:=s) (y:={x with un:=dZ (λg=>dh n.k g (dz n s i).1) x.un (ax x)}) h;rw[Ek]at this;exact Nat.add_right_cancel this
theorem E3{i:Int}{b:Bool}(j:bg n.k n.sizes s)(L:cp s)(G:0<=i)(hi:i<n.sizes.length):hG n.k n.sizes s (e3 n i (s,b)).1/\fw n.k (e3 n i (s,b)).1<=fw n.k s/\
  ((e3 n i (s,b)).2.2=true->dx s i.toNat=false/\bB (e3 n i (s,b)).1 i=[])/\((e3 n i (s,b)).2.2=false->(e3 n i (s,b)).2.1=true->b=true\/fw n.k (e3 n i (s,b)).1<fw n.k s)/\
  ((e3 n i (s,b)).2.2=false->(e3 n i (s,b)).2.1=false->b=false/\(e3 n i (s,b)).1=s/\ka n s i):=by
 have W:=j.vars;obtain⟨x,w⟩:=aD (l:=s.vars) (i:=i.toNat) Ω;generalize a:e3 n i (s,b)=r;unfold e3 at a;simp only at a;by_cases z:dx s i.toNat=true
 .rw[if_pos z]at a;subst a;exact⟨.rfl j L,o5 _,λh=>(by cases h),λ_ h=>.inl h,λ_ h=>⟨h,rfl,λH=>(by rw[z]at H;cases H)⟩⟩
 rw[if_neg z]at a;have A:dx s i.toNat=false:=by simpa using z
 have I:x.gone=0:=by unfold dx at A;rw[w]at A;simpa using A
 obtain⟨f,B,Q,R,M,N,C⟩:=xv (n:=n) (i:=i) (bB s i) s false j L;generalize dj n.k i (bB s i) (s,false)=q at f B Q R M N C a;have J:fw n.k q.1<=fw n.k s:=by unfold fw;rw[B];omega
 have S:dx q.1 i.toNat=false:=by
  have X:=f.same.vars;obtain⟨y,O⟩:=aD (l:=q.1.vars) (i:=i.toNat) Ω;unfold dx;rw[O];simpa[(f.same.var _ x y w O).1]using I
 by_cases E:(dz n q.1 i).2<0
 .rw[if_pos E]at a;subst a;exact⟨f,J,λ_=>⟨A,(xw f.ok).1 E⟩,λh=>(by cases h),λh=>(by cases h)⟩
 .have F:bB q.1 i≠[]:=λh=>E ((xw f.ok).2 h);rw[if_neg E]at a;by_cases K:0<(dz n q.1 i).1
  .obtain⟨Y,T,U,V⟩:=QT f.ok f.me G hi S F;rw[if_pos K]at a;have Z:q.1.zero<n.k:=by
    obtain⟨v,p⟩:=List.exists_mem_of_ne_nil _ F;have h1:=C v (f.pD i v p) p G x w I;have H:=(tw (n:=n) (s:=s) (i:=i) (v:=v) j).1;rw[B];unfold cN at h1;omega
   have P:fw n.k (bf n.k q.1 (kC i (dz n q.1 i).1)).1<fw n.k s:=by
    refine T5 ?_ J;unfold fw;rw[U,V];omega
   subst a;exact⟨f.trans T,Nat.le_of_lt P,λh=>(by cases h),λ_ _=>.inr P,λ_ h=>(by cases h)⟩
  .rw[if_neg K]at a;subst a;refine⟨f,J,λh=>(by cases h),λ_ h=>?_,λ_ h=>?_⟩
   .have h:(q.2||b)=true:=h;rw[Bool.or_eq_true]at h;rcases h with h|h
    .refine .inr ?_;have:=(N h).resolve_left Φ;show fw n.k q.1<_;unfold fw;rw[B];omega
    .exact .inl h
   .have h:(q.2||b)=false:=h;rw[U3]at h;obtain⟨_,e⟩:=M h.1;rw[e]at K F C;have aa:=Em (i:=i) j;exact⟨h.2,e,λ_=>⟨F,Ω,λv p=>C v p p G x w I⟩⟩
theorem E4:∀(L:List Nat)(s:am)(b:Bool),bg n.k n.sizes s->cp s->(∀i∈L,i<n.sizes.length)->hG n.k n.sizes s (gH n L (s,b)).1/\fw n.k (gH n L (s,b)).1<=fw n.k s/\
  ((gH n L (s,b)).2.2=true->(gH n L (s,b)).2.1=false/\∃i∈L,dx s i=false/\bB (gH n L (s,b)).1 (i:Int)=[])/\((gH n L (s,b)).2.2=false->(gH n L (s,b)).2.1=true->b=true\/fw n.k (gH n L (s,b)).1<fw n.k s)/\
  ((gH n L (s,b)).2.2=false->(gH n L (s,b)).2.1=false->b=false/\(gH n L (s,b)).1=s/\∀i∈L,ka n s (i:Int))
 |[],s,b,w,B,_=>⟨.rfl w B,o5 _,λh=>(by cases h),λ_ h=>.inl h,λ_ h=>⟨h,rfl,λ_ hi=>by cases hi⟩⟩
 |i::L,s,b,w,B,C=>by
  obtain⟨e,z,A,G,H⟩:=E3 (n:=n) (i:=(i:Int)) (b:=b) w B Ω (by have:=C i (.head _);omega);rw[u9]at A;generalize f:gH n (i::L) (s,b)=r;unfold gH at f;generalize e3 n (i:Int) (s,b)=q at e z A G H f;by_cases p:q.2.2=true
  .rw[if_pos p]at f;subst f;exact⟨e,z,λ_=>⟨rfl,i,.head _,(A p).1,(A p).2⟩,λh=>(by cases h),λh=>(by cases h)⟩
  .have I:q.2.2=false:=by simpa using p
   rw[if_neg p]at f;subst f;obtain⟨P,J,Q,R,S⟩:=E4 L q.1 q.2.1 e.ok e.me λj a=>C j (.tail _ a);refine⟨e.trans P,X0 J z,λh=>?_,λh1 E=>?_,λh1 E=>?_⟩
   .obtain⟨h1,j,a,F,T⟩:=Q h;refine⟨h1,j,.tail _ a,?_,T⟩;have V:=C j (.tail _ a);have W:=w.vars;have X:=e.same.vars;obtain⟨x,K⟩:=aD (l:=s.vars) (i:=j) Ω;obtain⟨y,M⟩:=aD (l:=q.1.vars) (i:=j) Ω;unfold dx at F ⊢;rw[M]at F;rw[K];have:=(e.same.var j x y K M).1;simpa[this]using F
   .rcases R h1 E with h|h
    .rcases G I h with h|h
     .exact .inl h
     .exact .inr (Nat.lt_of_le_of_lt J h)
    .exact .inr (T5 h z)
   .obtain⟨U,N,O⟩:=S h1 E;obtain⟨f1,f2,f3⟩:=H I U;rw[f2]at N O;refine⟨f1,?_,λj a=>?_⟩
    .rw[f2];exact N
    .rcases V1.1 a with rfl|a
     .exact f3
     .exact O j a
theorem E5(j:bg n.k n.sizes s)(p:cp s):hG n.k n.sizes s (eI n s).1/\((eI n s).2.2=true->(eI n s).2.1=false/\∃i<n.sizes.length,dx s i=false/\bB (eI n s).1 (i:Int)=[])/\
  ((eI n s).2.2=false->(eI n s).2.1=true->fw n.k (eI n s).1<fw n.k s)/\((eI n s).2.2=false->(eI n s).2.1=false->(eI n s).1=s/\∀i<n.sizes.length,ka n s (i:Int)):=by
 obtain⟨h1,_,q,r,f⟩:=E4 (n:=n) (W3 n.sizes.length) s false j p λi hi=>List.mem_range.1 hi;unfold eI;refine⟨h1,λh=>?_,λa e=>(r a e).resolve_left Φ,λa e=>⟨(f a e).2.1,λi hi=>(f a e).2.2 i (List.mem_range.2 hi)⟩⟩;obtain⟨w,i,hi,x⟩:=q h;exact⟨w,i,List.mem_range.1 hi,x⟩
end
def iZ(n:aK):Nat->am->am×Bool
 |0,s=>(s,false)
 |f+1,s=>if(eI n s).2.2=true then((eI n s).1,true)else if(eI n s).2.1=true then iZ n f (eI n s).1 else((eI n s).1,false)
section
variable{n:aK}{s:am}
def lA(n:aK)(s:am):Prop:=∀i<n.sizes.length,ka n s (i:Int)
theorem E6:∀(f:Nat)(s:am),bg n.k n.sizes s->cp s->fw n.k s<f->hG n.k n.sizes s (iZ n f s).1/\((iZ n f s).2=true->∃i<n.sizes.length,dx (iZ n f s).1 i=false/\bB (iZ n f s).1 (i:Int)=[])/\((iZ n f s).2=false->lA n (iZ n f s).1)
 |0,s,_,_,h=>Ω
 |f+1,s,q,A,K=>by
  obtain⟨h1,B,C,E⟩:=E5 (n:=n) q A;generalize a:iZ n (f+1) s=r;unfold iZ at a;by_cases he:(eI n s).2.2=true
  .rw[if_pos he]at a;subst a;obtain⟨_,i,hi,p,F⟩:=B he;refine⟨h1,λ_=>⟨i,hi,?_,F⟩,λh=>(by cases h)⟩;have L:=q.vars;have M:=h1.same.vars;obtain⟨x,w⟩:=aD (l:=s.vars) (i:=i) Ω;obtain⟨y,z⟩:=aD (l:=(eI n s).1.vars) (i:=i) Ω;unfold dx at p ⊢;rw[w]at p;show(match(eI n s).1.vars[i]? with|some x=>_|none=>_)=false;rw[z];have:=(h1.same.var i x y w z).1;simpa[this]using p
  have he:(eI n s).2.2=false:=by simpa using he
  rw[if_neg (by rw[he];decide)]at a;by_cases j:(eI n s).2.1=true
  .rw[if_pos j]at a;subst a;have:=C he j;obtain⟨G,H,I⟩:=E6 f (eI n s).1 h1.ok h1.me Ω;exact⟨h1.trans G,H,I⟩
  .rw[if_neg j]at a;subst a;have j:(eI n s).2.1=false:=by simpa using j
   obtain⟨e,J⟩:=E he j;refine⟨h1,λh=>(by cases h),λ_=>?_⟩;show lA n (eI n s).1;rw[e];exact J
theorem E7{i:Int}(a:bg n.k n.sizes s)(p:0<=i):∀(L:Λ)(b:Bool),(∀v∈L,v∈bB s i/\cN n.k s.zero (eB n s i v)<n.k)->dj n.k i L (s,b)=(s,b)
 |[],_,_=>rfl
 |v::L,b,h=>by
  obtain⟨E,q⟩:=h v (.head _);have e:bf n.k s (ey i v)=(s,7)\/bf n.k s (ey i v)=(s,1):=by
   unfold bf ey;simp only;rw[if_neg Ω,if_neg Ω,if_neg Ω,if_neg Ω,if_pos trivial];cases r:dH s i v with
   |none=>exact .inr rfl
   |some x=>
    obtain⟨_,f,_,w⟩:=jr r;left;simp only;have F:=(x5.1 f).1;have G:=a.vars;obtain⟨z,j⟩:=aD (l:=n.sizes) (i:=i.toNat) Ω;have H:=(a.var i.toNat x z f j).1;have I:=a.ef.2.2 z (x6 j);have y:=(fd.1 w).1;have A:eU n i v:=⟨p,Ω,y.1,by rw[u4,j,V2];omega⟩;have B:eB n s i v=x.un.getD v.toNat 0:=by unfold eB gf;rw[if_pos A,f]
    rw[B]at q;rw[if_pos q]
  have C:dj n.k i (v::L) (s,b)=dj n.k i L (s,b):=by
   show dj n.k i L ((bf n.k s (ey i v)).1,decide ((bf n.k s (ey i v)).2=0)||b)=_;rcases e with e|e<;>rw[e]<;>rfl
  rw[C];exact E7 a p L b λu hu=>h u (.tail _ hu)
theorem E8(f:bg n.k n.sizes s):∀(L:List Nat),(∀i∈L,ka n s (i:Int))->gH n L (s,false)=(s,false,false)
 |[],_=>rfl
 |i::L,h=>by
  have a:=h i (.head _);have e:e3 n (i:Int) (s,false)=(s,false,false):=by
   unfold e3;by_cases p:dx s (i:Int).toNat=true
   .rw[if_pos p]
   .rw[if_neg p];obtain⟨h1,w,q⟩:=a (by simpa using p);simp only;rw[E7 f Ω (bB s i) false λv a=>⟨a,q v a⟩];simp only;rw[if_neg (λh=>h1 ((xw f).1 h)),if_neg Ω];rfl
  unfold gH;rw[e];simp only;rw[if_neg Φ];exact E8 f L λj r=>h j (.tail _ r)
theorem QU{f:Nat}(a:bg n.k n.sizes s)(h:lA n s):iZ n (f+1) s=(s,false):=by
 have e:eI n s=(s,false,false):=E8 a _ λi hi=>h i (List.mem_range.1 hi);unfold iZ;rw[e];rfl
theorem QV{i:Nat}(a:bg n.k n.sizes s)(h:lA n s)(hi:i<n.sizes.length)(e:dx s i=false):s.zero<n.k:=by
 obtain⟨f,_,j⟩:=h i hi (by rw[u9];exact e);obtain⟨v,p⟩:=List.exists_mem_of_ne_nil _ f;have h1:=j v p;have q:=(tw (n:=n) (s:=s) (i:=(i:Int)) (v:=v) a).1;unfold cN at h1;omega
theorem zero_le(e:bg n.k n.sizes s):s.zero<=er n.k s a:=by
 rw[mU e];have h1:=oe _ (qY (a:=a) e);have f:=oe _ (py (a:=a) e);have h:=e.zero.2;split<;>omega
theorem QW{i:Nat}(r:bg n.k n.sizes s)(q:gP s a)(hi:i<n.sizes.length)(f:dx s i=false)(j:bB s (i:Int)=[]):er n.k s a=n.k:=by
 have z:=r.vars;have A:=q.1;obtain⟨x,p⟩:=aD (l:=s.vars) (i:=i) Ω;obtain⟨a8,w⟩:=aD (l:=a) (i:=i) Ω;have y:x.gone=0:=by unfold dx at f;rw[p]at f;simpa using f
 have e:ax x=[]:=by unfold bB at j;rw[u9,p]at j;exact j
 exact D9 q p y w (by rw[e];exact λh=>by cases h)
end
section
variable{n:aK}{s:am}
theorem QX{s':am}{i:Nat}(h:dS s s')(hi:i<s.vars.length):dx s' i=dx s i:=by
 have f:=h.vars;obtain⟨x,a⟩:=aD (l:=s.vars) hi;obtain⟨y,e⟩:=aD (l:=s'.vars) (i:=i) Ω;unfold dx;rw[a,e];simp only;rw[(h.var i x y a e).1]
end
theorem QY{P:Nat->Prop}:∀m,P m->∃m,P m/\∀k,P k->m<=k:=λm=>by
 induction m using Nat.strongRecOn with
 |ind m a=>
  intro hm;by_cases h:∃k,k<m/\P k
  .obtain⟨k,h1,e⟩:=h;exact a k h1 e
  .exact⟨m,hm,λk hk=>Nat.le_of_not_lt λf=>h ⟨k,f,hk⟩⟩
open Classical in
theorem b1.sink{a:x3}{B:x3->x4->(x3->x4->Prop)->Prop}(aw:Nat->x4->Prop){m:Nat}(q:aw m w)(I:∀(m:Nat)(a:x3)(w':x4)(k:x3->x4->Prop),aw m w'->(∀bV a f,bV<m->aw bV f->k a f)->B a w' k):b1 a w B:=by
 have j:∀{w:x4},(∃m,aw m w)->∃m,aw m w/\∀k,aw k w->m<=k:=λ⟨m,h⟩=>QY (P:=λm=>aw m _) m h;refine⟨λ_ w=>∃m,aw m w,λ_ w=>if h:∃m,aw m w then Classical.choose (j h)else 0,⟨m,q⟩,λa w' p=>?_⟩;obtain⟨h1,r⟩:=Classical.choose_spec (j p);refine I _ a w' _ h1 λbV _ f s e=>⟨⟨bV,e⟩,?_⟩;have x:=(Classical.choose_spec (j ⟨bV,e⟩)).2 bV e;show dite _ _ _<dite _ _ _;rw[dif_pos p,dif_pos ⟨bV,e⟩];omega
theorem E9{k i:Int}:∀(L M:Λ)(p:am×Bool),dj k i (L++M) p=dj k i M (dj k i L p)
 |[],_,_=>rfl
 |v::L,M,p=>by
  rw[List.cons_append,dj,dj];exact E9 L M _
theorem QZ{i:Int}{L:Λ}{p:am×Bool}(h:L[j]?=σ v):dj k i (L.take (j+1)) p=((bf k (dj k i (L.take j) p).1 (ey i v)).1,decide ((bf k (dj k i (L.take j) p).1 (ey i v)).2=0)||(dj k i (L.take j) p).2):=by
 rw[r8,h,l7,E9];rfl
section
variable{ap:List az}{w:x4}{ab ac:Nat}{A R:af}{n:aK}{s:am}{t:az}
theorem Q4{i:Nat}{x:bh}(h:bH w ab ac A R n s t)(Z:Laid w)(aG:¬A 0)(aH:eC ap t)(z:s.vars[i]?=σ x):ai x8 GA [Γ ab,Δ (i:Int)] w λr w'=>r= .bool (dj n.k (i:Int) (ax x) (s,false)).2/\cS ap w ab ac A R n (dj n.k (i:Int) (ax x) (s,false)).1 w':=by
 refine iF func53 ?_;refine bk λg1 J be an C=>?_;refine bk λaJ U bg af E=>?_;have bi:=ad.lt C;have bj:=ad.lt E;refine bw eb.i λf bl bm aK aL=>?_;refine bq (o:=0) eb.i rfl rfl aL (by show 0<1;omega) λH aM bo O=>?_;have O:ad H f eb [.bool false]:=O;have P:Ext U H:=aK.put aM Ω;have C:ad H g1 eh [Γ ab]:=(ad.ext C af).ext P;have E:ad H aJ ag [Δ (i:Int)]:=ad.ext E P;have ah:=(an.trans af).trans P;have bp:=an.size;have br:=af.size;have bt:=P.size;have bu:=C.lt;have bx:=E.lt;have bz:=O.lt;have bA:=rf Z;rw[aF (v:=Γ ab) Ψ (C.Qz rfl),aF (v:=Δ (i:Int)) Ψ (E.Qz rfl)];refine(jW (i:=(i:Int)) (h.ext ah)).mono ?_;rintro _ bB _ ⟨⟨b,ak,rfl,Q⟩,ao⟩;refine(nJ (b:=b) (n:=ak)).mono ?_;rintro _ q _ ⟨aN,I,rfl,bC,aq⟩;have au:=mb Q Ω (show s.vars[(i:Int).toNat]?=σ x by rw[u9];exact z);have L:=ao.trans aN;have z5:=ao.size;have z46:=L.size;have bD:=aq.lt;refine kK.old ⟨_,false,jz,#[Γ I],_,_,_,_,λj w'=>eX ap w ab ac A R n w.heap.size (λr=>q.heap.size<=r) (dj n.k (i:Int) ((ax x).take j) (s,false)).1 w'/\ae (λr=>r<w.heap.size\/q.heap.size<=r\/r=f) q w'/\ad w' f eb [.bool (dj n.k (i:Int) ((ax x).take j) (s,false)).2],λ_ _ _=>False,rfl,(nI (g:=I) Q.1).s,?_,
  λ_ _ z h=>⟨h.1.ext z,h.2.ext z⟩,λ_ _ _ z h=>⟨h.1.ext z,h.2.1.trans (z.aa _),h.2.2.ext z⟩,λ_ _ _ _ _ h=>h,⟨aq,Z.ext (ah.trans L)⟩,⟨eX.start h Z aG aH (ah.trans L) (o5 _),ae.refl _ _,O.ext L⟩,?_,?_,λ_ _ h=>h.elim,λ_ _ _ h=>h.elim⟩
 .rintro _ _ _ _ ⟨_,_,_,_,rfl⟩;rfl
 .rintro _ j _ bE ⟨av,aO⟩ ⟨bF,rfl,v,aP,aQ⟩ ⟨S,V,W⟩;cases aQ;intro aR M _ _;have aS:(ax x)[j]?=σ (v:Int):=by rw[<-au,v8,aP];rfl
  have aU:∀{g:Nat}{e:r9}{cs:List x3},w.heap.size<=g->g<f->ad H g e cs->ad aR g e cs:=λaT aV aW=>((aW.ext L).aa V Ω).ext M;have al:=QZ (k:=n.k) (i:=(i:Int)) (p:=(s,false)) aS;obtain⟨bG,bI,aX,aY,aZ,a1⟩:=S.EI;have aw:∀{B:x4}{c:x3}{d:Bool},d=(dj n.k (i:Int) ((ax x).take (j+1)) (s,false)).2->ad B I b4 [.int .u64 b,Δ ak]->Laid B->eX ap w ab ac A R n w.heap.size (λr=>q.heap.size<=r) (dj n.k (i:Int) ((ax x).take (j+1)) (s,false)).1 B->ae (λr=>r<w.heap.size\/q.heap.size<=r\/r=f) q B->ad B f eb [c]->
    ∀{K:Unit->x4->Prop},(∀y,(ad y I b4 [.int .u64 b,Δ ak]/\Laid y)/\(eX ap w ab ac A R n w.heap.size (λr=>q.heap.size<=r) (dj n.k (i:Int) ((ax x).take (j+1)) (s,false)).1 y/\ae (λr=>r<w.heap.size\/q.heap.size<=r\/r=f) q y/\ad y f eb [.bool (dj n.k (i:Int) ((ax x).take (j+1)) (s,false)).2])->K () y)->
    aC x8 (o8 eb (Γ f) (.bool d)) B K:=λ{B c d}Q X G ay az a2{K}a6=>by
   subst Q;refine bq (o:=0) eb.i rfl rfl a2 Ξ λy Y bJ a7=>?_;have z9:=az.size;exact a6 _ ⟨⟨X.aa Y λh=>by have h:I=f:=h;omega,hP Y (λh=>by have h:0=f:=h;omega) G⟩,ay.own Y λr N=>by have N:r=f:=N;subst N;exact⟨Ω,Ω⟩,az.trans (Y.mono λr _ N=>.inr (.inr N)),a7⟩
  rw[aF (v:=Γ ab) Ψ ((aU Ω Ω C).Qz rfl),aF (v:=Δ (i:Int)) Ψ ((aU Ω Ω E).Qz rfl)];have bK:=V.size;refine(ES (a:=ey (i:Int) (v:Int)) rfl (aX.ext M) (aO.ext M) aZ aY).mono ?_;rintro _ aA _ ⟨rfl,a8,aB,aI,bn,ba,aD,bc,bL⟩;rw[<-show(dj n.k (i:Int) ((ax x).take (j+1)) (s,false)).1=(bf n.k (dj n.k (i:Int) ((ax x).take j) (s,false)).1 (ey (i:Int) (v:Int))).1 by rw[al]]at aD;obtain⟨X,G,ay⟩:=a1 (D':=λr=>q.heap.size<=r) (iw M a8) ((Grow.ext M).trans ba) aD bc (λr h=>h) λr aT aV=>Ω
  have am:ad aA f eb _:=W.aa G Ω;rw[bb,aj];have aE:ae (λr=>r<w.heap.size\/q.heap.size<=r\/r=f) q aA:=V.trans (G.mono λr _ h=>h.imp id .inl);refine⟨λhe=>?_,λhe=>?_⟩
  .have e:(dj n.k (i:Int) ((ax x).take (j+1)) (s,false)).2=true:=by rw[al,decide_eq_true he,Bool.true_or]
   exact aw e.symm (av.aa G Ω) aB X aE am λy h=>⟨h.1,h.2,λh=>by cases h⟩
  .have e:(dj n.k (i:Int) ((ax x).take (j+1)) (s,false)).2=(dj n.k (i:Int) ((ax x).take j) (s,false)).2:=by rw[al,decide_eq_false he,Bool.false_or]
   rw[aF Ψ (am.Qz rfl)];exact aw e.symm (av.aa G Ω) aB X aE am λy h=>⟨h.1,h.2,λh=>by cases h⟩
 .rintro k bM rfl ⟨S,V,W⟩;rw[j9 (by rw[<-au,u7];exact o5 _)]at S W;rw[aF Ψ (W.Qz rfl)];intro bN bd _;exact⟨rfl,S.done bd⟩
theorem Q5{N i:Nat}(h:i<N):(W3 N).drop i=i::(W3 N).drop (i+1):=by
 rw[X8 (by simpa using h),List.getElem_range]
def Q6(ap:List az)(w:x4)(ab ac:Nat)(A R:af)(n:aK)(q:am×Bool×Bool)(r:x3)(w':x4):Prop:=r= .tuple #[.bool q.2.1,Δ (if q.2.2=true then 8 else 0)]/\cS ap w ab ac A R n q.1 w'
theorem Q7(h:bH w ab ac A R n s t)(af:Laid w)(ag:¬A 0)(ah:eC ap t)(ak:cp s):ai x8 Gl [Γ ab] w (Q6 ap w ab ac A R n (eI n s)):=by
 have E:=h.2.2.2.1;have aK:=E.vars;have aL:=E.ef.2.1;refine ay func21 ?_;rw[da eh.u];simp only[Z6,aY];refine(DJ h).mono ?_;rintro _ J _ ⟨rfl,al⟩;refine pN.range n.sizes.length (λi _ _ c U=>∃s1 b,c= .bool b/\cS ap w ab ac A R n s1 U/\hG n.k n.sizes s s1/\eI n s=gH n ((W3 n.sizes.length).drop i) (s1,b)) Ω ⟨s,false,rfl,cS.same h af ag ah al,.rfl E ak,rfl⟩ ?_ ?_
 .rintro i aN t3 _ U am hi ⟨s1,b,rfl,hm,j,p⟩ an;refine bD Ω ?_;obtain⟨aO,aP,V,ao,aq,au,av⟩:=hm.open;have aQ:=j.ok.vars;obtain⟨x,W⟩:=aD (l:=s1.vars) (i:=i) Ω;rw[Q5 hi,gH]at p;have az:bB s1 (i:Int)=ax x:=pF W;refine Aj (λ_ _ r w'=>r= .bool (e3 n (i:Int) (s1,b)).2.1/\(e3 n (i:Int) (s1,b)).2.2=false/\cS ap w ab ac A R n (e3 n (i:Int) (s1,b)).1 w') ?_ λaw y=>?_
  .rintro _ _ _ aS ⟨rfl,he,aA⟩;rw[aM];refine an _ _ _ _ ⟨_,_,rfl,aA,j.trans (E3 (i:=(i:Int)) (b:=b) j.ok j.me Ω Ω).1,?_⟩;rw[p,if_neg (by rw[he];decide)]
  refine(tq (i:=(i:Int)) V).mono ?_;rintro _ aT _ ⟨rfl,B⟩;rw[decide_eq_true Ω,Bool.true_and,u9,cj];refine⟨λC=>?_,λC=>?_⟩
  .have e:e3 n (i:Int) (s1,b)=(s1,b,false):=by unfold e3;rw[u9,if_pos C]
   rw[e]at y;exact y _ _ _ _ ⟨rfl,rfl,hm.ext B⟩
  have f:e3 n (i:Int) (s1,b)=(let q:=dj n.k (i:Int) (ax x) (s1,false);if(dz n q.1 (i:Int)).2<0 then(q.1,false,true)else if 0<(dz n q.1 (i:Int)).1 then((bf n.k q.1 (kC (i:Int) (dz n q.1 (i:Int)).1)).1,true,false)else(q.1,q.2||b,false)):=by
   unfold e3;rw[u9,if_neg (by rw[C];decide),az]
  have X:=(xv (i:=(i:Int)) (ax x) s1 false j.ok j.me).1;simp only at f;generalize aB:dj n.k (i:Int) (ax x) (s1,false)=q at f X;refine aW (λr w'=>r= .bool (q.2||b)/\cS ap w ab ac A R n q.1 w') ?_ λaU Y=>?_
  rotate_left
  .refine (Q4 (V.ext B) (ao.ext B) aq au W).mono ?_;rintro _ aC _ ⟨rfl,Z⟩;rw[aB]at Z ⊢;have aa:cS ap w ab ac A R n q.1 aC:=by
    obtain⟨G,H,I,K,L,M,N,O⟩:=Z;exact av ⟨iw B G,H,I,K,(Grow.ext B).trans L,M,N,O⟩
   rw[cj];exact⟨λh=>Y _ _ ⟨by rw[h,Bool.true_or],aa⟩,λh=>Y _ _ ⟨by rw[h,Bool.false_or],aa⟩⟩
  rintro _ aV ⟨rfl,P⟩;obtain⟨aX,t5,ad,ae,aE,aF,aG⟩:=P.open;have aH:dx q.1 i=false:=by rw[QX X.same Ω];exact C
  have aI:jZ n q.1 (i:Int)=true:=by
   unfold jZ;rw[u9,aH,decide_eq_true (show(0:Int)<=i/\(i:Int)<n.sizes.length by omega)];rfl
  refine(QO ad ae aI).mono ?_;rintro _ aZ _ ⟨z,rfl⟩;rw[gq,gu,gv,aR,aj];refine⟨λQ=>?_,λQ=>?_⟩
  .rw[if_pos Q]at f;rw[f,if_pos rfl]at p;rw[p];exact⟨rfl,P.ext z⟩
  rw[if_neg Q]at f;rw[bS,aj];refine⟨λS=>?_,λS=>?_⟩
  .rw[if_pos S]at f;rw[f]at y;refine(ER (a:=kC (i:Int) (dz n q.1 (i:Int)).1) rfl (ad.ext z) (ae.ext z) aE aF).mono ?_;rintro _ a1 _ ⟨_,aJ⟩;refine y _ _ _ _ ⟨rfl,rfl,?_⟩;obtain⟨G,H,I,K,L,M,N,O⟩:=aJ;exact aG ⟨iw z G,H,I,K,(Grow.ext z).trans L,M,N,O⟩
  .rw[if_neg S]at f;rw[f]at y;exact y _ _ _ _ ⟨rfl,rfl,P.ext z⟩
 .rintro _ _ _ U am ⟨s1,b,rfl,hm,j,p⟩;refine b7 Ω ?_;rw[List.drop_eq_nil_of_le Ξ,gH]at p;rw[p];exact⟨rfl,hm⟩
def m8(n:aK)(s:am):am×Bool:=iZ n (fw n.k s+1) s
theorem Fa(h:bH w ab ac A R n s t)(C:Laid w)(E:¬A 0)(G:eC ap t)(H:cp s):ai x8 yS [Γ ab] w λr w'=>r=Δ (if(m8 n s).2=true then 8 else 0)/\cS ap w ab ac A R n (m8 n s).1 w':=by
 have I:=h.2.2.2.1;refine ay func11 ?_;refine b1.sink (λm J=>∃s1 f,cS ap w ab ac A R n s1 J/\bg n.k n.sizes s1/\cp s1/\fw n.k s1=m/\m<f/\iZ n f s1=m8 n s) ⟨s,_,cS.same h C E G (Ext.refl _),I,H,rfl,Nat.lt_succ_self _,rfl⟩ ?_;rintro m _ J T ⟨s1,f,hm,K,x,V,W,a⟩ L;obtain⟨f,rfl⟩:∃g,f=g+1:=⟨f-1,Ω⟩;obtain⟨X,Y,M,N,O,P,Q⟩:=hm.open;obtain⟨p,Z,y,aa⟩:=E5 (n:=n) K x;rw[iZ]at a;refine(Q7 M N O P x).mono ?_;rintro _ U _ ⟨rfl,j⟩;have j:=Q j;generalize eI n s1=q at p y a j;rw[bz,bA];refine aW (λr w'=>w'=U/\r= .bool (q.2.2|| !q.2.1)) ?_ λaw z=>?_
 .rintro _ _ ⟨rfl,rfl⟩;rw[cj];refine⟨λe=>?_,λe=>?_⟩
  .cases he:q.2.2 with
   |true=>
    rw[he,if_pos rfl]at a;rw[<-a];exact⟨by rw[if_pos rfl],j⟩
   |false=>
    rw[he,Bool.false_or,Bool.not_eq_true']at e;rw[he,e,if_neg Φ,if_neg Φ]at a;rw[<-a];exact⟨rfl,j⟩
  .rw[U3,Bool.not_eq_false']at e;have ad:=y e.1 e.2;rw[e.1,e.2,if_neg Φ,if_pos rfl]at a;exact L (fw n.k q.1) _ _ Ω ⟨q.1,f,j,p.ok,p.me,rfl,Ω,a⟩
 rw[bK,aj];refine⟨λB=>z _ _ ⟨rfl,?_⟩,λhe=>?_⟩
 .cases he:q.2.2 with
  |true=>rfl
  |false=>rw[he]at B;exact absurd rfl B
 .have he:q.2.2=false:=by
   cases S:q.2.2 with
   |true=>rw[S]at he;exact absurd Φ he
   |false=>rfl
  rw[bJ];exact z _ _ ⟨rfl,by rw[he,Bool.false_or]⟩
end
def kH:Λ:=[116,32,49,32,50,32,49,32,57,32,50,32,49,32,48,32,48,32,50,32,48,32,49,32,49,32,57]
def gV:ca:=⟨[116],9,[2],[⟨[0],[2],0,[([0],1),([1],9)]⟩]⟩
theorem Q8:gB kH=σ gV:=by
 have h:(match gB kH with
  |some f=>decide (f.name=gV.name/\f.k=gV.k/\f.sizes=gV.sizes)&&decide (f.funs.map (λx=>(x.scope,x.sizes,x.other,x.lines))=gV.funs.map λx=>(x.scope,x.sizes,x.other,x.lines))
  |none=>false)=true:=by decide+kernel
 cases p:gB kH with
 |none=>rw[p]at h;cases h
 |some f=>
  rw[p]at h;simp only[U1,decide_eq_true_eq]at h;obtain⟨⟨h1,q,r⟩,e⟩:=h;obtain⟨nm,k,w,j⟩:=f;simp only at h1 q r e;subst h1;subst q;subst r;have:j=gV.funs:=by
   have s:j.length=1:=by have:=congrArg Q0 e;simpa[gV]using this
   match j,s with
   |[x],_=>
    obtain⟨a,b,c,d⟩:=x;simp[gV]at e;obtain⟨rfl,rfl,rfl,rfl⟩:=e;rfl
  subst this;rfl
theorem Q9:l5 gV.funs<=16384:=by decide+kernel
def Fb:am:=(m8 (cg gV) (cZ (cg gV))).1
theorem Ra:(m8 (cg gV) (cZ (cg gV))).2=false/\Fb.zero=1/\(Fb.vars[0]?.map λx=>(ax x,x.un.length))=σ ([0],2):=by decide+kernel
theorem Rb{b n:Nat}(a:k3 b n):ai x8 yW [iK b n] w λr w'=>r=Δ (pE b:Int)/\Ext w w':=by
 have e:b<4294967296:=by
  have:=a.2;have:(2:Nat) ^ n<=2 ^ 32:=T6 Ω a.1;omega
 refine ay func27 ?_;refine bk λg J q f h=>?_;rw[aG b4.p 0 h rfl];refine(EL e).mono ?_;rintro _ U _ ⟨rfl,j⟩;exact⟨rfl,f.trans j⟩
theorem Fc(V:eu w)(C:Laid w):ai x8 Ga [] w λv w'=>v= .bool true/\Ext w w':=by
 refine ay func7 ?_;refine jF (k:=1) (cs:=(ints .u8 kH).toArray) cL.u cH.i Ω Ψ λg J aY e s=>?_;have E:aq .u8 cH J g (.slice (σ ⟨g,0,ν⟩) 27 27) kH:=aq.of (n:=27) (bW.full (by simpa using s) (by simp[kH]) (by simp[maxLen]));refine PK s λy G H=>?_;have e:Ext w y:=e.put G Ω;have W:aH .u8 y (.slice (σ ⟨g,0,ν⟩) 27 27) kH:=by
  obtain⟨X,b,o,base,cap,Y,Z,aa,ad,ae⟩:=E.ls;cases Y;cases ad (by simp[kH]);exact⟨X,g,0,_,27,rfl,Z,aa,λ_=>rfl,H _ _ ae⟩
 clear E s H G;refine(EZ W (by intro b af;simp[kH]at af;omega) (V.ext e)).mono ?_;rintro _ U _ ⟨ag,ah,cs,ok,rfl,⟨ak,am⟩,an,ao⟩;have I:gB (kH.take 300)=σ gV:=by
  rw[j9 Φ];exact Q8
 have ap:ok=true:=ao gV I Q9;subst ap;obtain⟨f,K,ab,ac,A,R,t,N,A9,aB,aZ,rfl,au,av,L,_⟩:∃f,gB (kH.take 300)=σ f/\tH y.heap.size U ah cs f:=by
  rcases an with⟨h,_⟩|⟨_,h⟩
  .cases h
  .exact h
 rw[I]at K;cases K;have M:=e.trans ag;rw[gq,gu,gv];refine bw aA.i λal a1 a2 az aC=>?_;refine bT (vs:=cs) aA.i ak rfl am aC λaD aE a6 aF=>?_;have z:Ext U aD:=az.put aE Ω;have aG:=au.ext z;have aJ:¬A 0:=λh=>by have:=L 0 h;have:=rf (C.ext e);omega
 refine aW (λv aK=>v= .bool true/\Ext w aK) (λ_ _ h=>h) λaw aL=>?_;rw[bQ];refine(Fa aG (C.ext (M.trans z)) aJ av.2.2.1.m (Ex _)).mono ?_;rintro _ aM _ ⟨rfl,hm⟩;obtain⟨aN,aO,aP⟩:=Ra;obtain⟨a7,a8,aI,bn,aQ,O,_⟩:=hm;have aR:Ext w aM:=(M.trans z).then aQ.1 λr ba h=>by have:=L r h;have:=e.size;omega
 rw[aN,if_neg Φ,bb,aj];refine⟨λ_=>?_,λh=>absurd rfl h⟩;refine(oa O).mono ?_;rintro _ bc _ ⟨rfl,P⟩;have aS:(m8 (cg gV) (cZ (cg gV))).1.zero=1:=aO;rw[aS,bb,aj];refine⟨λ_=>?_,λh=>absurd rfl h⟩;refine(jW (i:=0) (O.ext P)).mono ?_;rintro _ bd _ ⟨⟨b,Q,rfl,p⟩,aT⟩;refine(Rb p.1).mono ?_;rintro _ be _ ⟨rfl,aU⟩;have aV:((m8 (cg gV) (cZ (cg gV))).1.vars[0]?.map λx=>(ax x,x.un.length))=σ ([0],2):=aP;obtain⟨x,S,j⟩:=Y6.1 aV;cases B:ax x with
 |nil=>rw[B]at j;cases j
 |cons a l=>
 rw[B]at j;simp only[S1]at j;have q:=mb p Ω S;have bf:=(p.2.2 x Ω S).1;have aF:b<2 ^ Q:=p.1.2;have aX:Q=2:=Ω
 subst aX;rw[B,j.1]at q;rw[bb];refine aL _ _ ⟨?_,((aR.trans P).trans aT).trans aU⟩;rcases(show b=0\/b=1\/b=2\/b=3 by omega)with rfl|rfl|rfl|rfl
 .exact absurd q Φ
 .rfl
 .exact absurd q Φ
 .exact absurd q Φ
theorem Fe{sv:x3}(h:aH .i64 w sv l)(I:∀x∈l,1<=x/\x<=32)(ap:l.length<=64):
  ai x8 Gc [sv] w λv w'=>Ext w w'/\∃L,bl (eo w.heap.size) bx w' [v] L/\Qq l L:=by
 refine ay func9 ?_;have au:=kY l I;refine aW (λv U=>Ext w U/\∃b,v= .bool b/\(b=true->l.length<=11/\aN l<=90)) ?_ λaw M=>?_
 rotate_left
 .rw[aV an.u h,aR,aj];refine⟨λav=>?_,λ_=>M _ _ ⟨Ext.refl _,false,rfl,λh=>by cases h⟩⟩;refine(Qu h I).mono ?_;rintro _ J _ ⟨⟨c,rfl,Q⟩,e⟩;rw[kT];exact M _ _ ⟨e,_,rfl,λh=>⟨Ω,by rw[<-Q Ω];exact of_decide_eq_true h⟩⟩
 rintro _ J ⟨e,b,rfl,S⟩;rw[cj];refine⟨λV=>?_,λ_=>?_⟩
 .obtain⟨ax,az⟩:=S V;refine(vj l (h.ext e) ⟨Ω,I,Ω⟩).mono ?_;rintro v U _ ⟨f,p⟩;have aA:=jj I;have W:=e.size;exact⟨e.trans f,bj l,ak.mono p (λr _ h=>by have h:J.heap.size<=r:=h;show w.heap.size<=r;omega) λ_ _ h=>h,Ω,λa C=>Qs C⟩
 have W:=e.size;refine b3.range 60 (λk out U=>Ext J U/\bl (eo J.heap.size) bx U [out] ((W3 k).map (kF l))) Ω ⟨Ext.refl _,fV⟩ ?_ ?_
 .rintro k out U X hk ⟨f,p⟩ Y;refine bD Ω ?_;have E:=e.trans f;rw[aV an.u (h.ext E)];refine jG (k:=.i64) an.u ag.i Ω Ω λs Z aB N O=>?_;have aa:aq .i64 ag Z s (.slice (σ ⟨s,0,ν⟩) l.length l.length) (o4 l.length 0):=by
   refine aq.of (n:=l.length) ⟨Ξ,.inr ⟨l.length,ints .i64 (o4 l.length 0),rfl,O,Ω,by simp only[maxLen];omega,Ξ,Ξ⟩⟩
  have ab:=E.trans N;have aC:=f.size;have aE:=O.lt;rw[aV an.u (h.ext ab)];refine b1.range l.length (λq B=>Ext U B/\aq .i64 ag B s (.slice (σ ⟨s,0,ν⟩) l.length l.length) (upto (kF l k) 0 q)) h.le ⟨N,by rw[oZ,rg];exact aa⟩ ?_ ?_
  .rintro q B ac ad ⟨y,j⟩ ae;obtain⟨z,G⟩:=aD (l:=l) ad;have aF:=I z (x6 G);refine bD Ω ?_;have aG:0<=(k:Int)*(2*(q:Int)+1)/\(k:Int)*(2*(q:Int)+1)<=60*200:=⟨Int.mul_nonneg Ω Ω,Int.mul_le_mul Ω Ω Ω Ω⟩;have aI:0<=(k:Int) / 3/\(k:Int) / 3<=60:=Ω
   have aJ:(2*(q:Int)+1)=2*(q:Int)+1:=rfl;rw[bc an.u ag.i Ψ (h.ext (E.trans y)) G,gp,wrap_i64 (x:=2*(q:Int)) Ω Ω,aM,wrap_i64 Ω Ω,gp,wrap_i64 Ω Ω,p2 Φ,Int.tdiv_eq_ediv_of_nonneg Ω,wrap_i64 Ω Ω,aM,wrap_i64 Ω Ω,p3 Ω,Int.tmod_eq_emod_of_nonneg Ω,
    hV rfl an.u ag.i j (by rw[nK,rg];omega)]
   refine hW ag.i j (by rw[nK,rg];omega) λaf H aK ah=>?_;rw[aM];refine ae _ ⟨y.then H λr al he=>by have he:r=s:=he;omega,?_⟩;rw[<-o1 (EV G)];exact ah
  rintro B ac ⟨y,j⟩;refine b7 Ω ?_;rw[show upto (kF l k) 0 l.length=kF l k by rw[<-rg l k,o0]]at j;have z4:=y.size;refine ig (α:=Λ) (a:=kF l k) (A:=eo U.heap.size) (R:=bx) b2.u an.i Φ (kj (kX j (R:=bx))) (ak.mono (kX j) (λr _ h=>by subst h;show U.heap.size<=r;omega) λ_ _ h=>h) λaL af K _ H=>?_;have P:=y.trans K;have z5:=K.size;refine my (α:=Λ) (a:=kF l k) (A:=eo U.heap.size) b2.u an.i rfl (bi (lV p) P) H (bi (ak.mono (kX j) (λr _ h=>by subst h;show U.heap.size<=r;omega) λ_ _ h=>h) K) (λr _ h h'=>?_) (by simp only[u7,List.length_range];omega) (by simp only[u7,List.length_range];omega) λaO aP am ao=>?_
  .rcases h' with h'|h'
   .have:=h.2;have:U.heap.size<=r:=h';omega
   .exact h'
  rw[aM];refine Y _ _ ⟨(f.trans P).then ao (λr al h=>by have:=h.1;have:J.heap.size<=r:=this;omega),?_⟩;rw[List.range_succ,Z2,List.map_singleton];refine ak.mono am (λr _ h=>?_) λ_ _ h=>h;show J.heap.size<=r;rcases h with h|h|h
  .exact h.1
  .have:U.heap.size<=r:=h;omega
  .omega
 .rintro out U X ⟨f,p⟩;rw[show((60:Nat):Int)=60 from rfl,aR,aj];refine⟨λh=>Ω,λ_=>⟨e.trans f,_,ak.mono p (λr _ h=>by have h:J.heap.size<=r:=h;show w.heap.size<=r;omega) λ_ _ h=>h,Ξ,λa C=>?_⟩⟩;obtain⟨k,_,rfl⟩:=j0.1 C;exact Qr k I
section
variable{w:x4}{dO:x3}{n:aK}{s:am}
theorem Ff{i:Nat}{x:bh}(f:bg n.k n.sizes s)(a:s.vars[i]?=σ x):ka n s (i:Int)↔(x.gone=0->ax x≠[]/\(ds n.k (ax x) λv=>x.un.getD v.toNat 0).1=0/\∀v∈ax x,min (s.zero+x.un.getD v.toNat 0) n.k<n.k):=by
 unfold ka;rw[u9,pF a,QG f a];have q:dx s i=decide (x.gone≠0):=by unfold dx;rw[a]
 rw[q,decide_eq_false_iff_not];refine⟨λh r=>?_,λh r=>?_⟩
 .obtain⟨h1,j,p⟩:=h Ω;refine⟨h1,j,λv e=>?_⟩;have:=p v e;rw[xt f a e]at this;exact this
 .obtain⟨h1,j,p⟩:=h Ω;refine⟨h1,j,λv e=>?_⟩;rw[xt f a e];exact p v e
theorem Rc(h:eW w dO n.k n.sizes s)(f:bg n.k n.sizes s):ai x8 Gv [dO] w λr w'=>Ext w w'/\∃b:Bool,r= .bool b/\(b=true↔lA n s):=by
 have aS:=f.vars;have aT:=f.ef.2.1;have aU:=f.fu;have aX:=f.zero;refine ay func43 ?_;refine bk λg1 J aY M af=>?_;have X:=h.box M af;obtain⟨szv,aZ,a1,a2,a6,a7,A,ah,_,Y,ak,al,a8,ba⟩:=id X;rw[aG aA.p 1 A rfl,aV an.u ah];refine b3.range n.sizes.length (λi _ U=>Ext J U/\∀q,q<i->ka n s ((q:Nat):Int)) Ω ⟨Ext.refl _,λq j=>absurd j (Nat.not_lt_zero _)⟩ ?_ ?_
 rotate_left
 .rintro _ U am ⟨z,N⟩;exact b7 Ω ⟨M.trans z,true,rfl,λ_=>N,λ_=>rfl⟩
 rintro i bd U am hi ⟨z,N⟩ ap;obtain⟨x,y⟩:=aD (l:=s.vars) (i:=i) Ω;have be:=q7 x;have H:=Ff f y;refine bD Ω ?_;have aq:ka n s (i:Int)->∀q,q<i+1->ka n s ((q:Nat):Int):=λh q j=>by
  rcases Nat.lt_or_eq_of_le (Nat.le_of_lt_succ j)with h'|rfl
  .exact N q h'
  .exact h
 have no:∀{w':x4},Ext J w'->¬ka n s (i:Int)->Ext w w'/\∃b:Bool,x3.bool false= .bool b/\(b=true↔lA n s):=λav B=>⟨M.trans av,false,rfl,λh=>(by cases h),λh=>absurd (h i hi) B⟩;refine aW (λ_ w'=>Ext J w'/\ka n s (i:Int)) (λ_ w' Z=>by rw[aM];exact ap _ _ ⟨Z.1,aq Z.2⟩) λaw aa=>?_;rw[aG aA.p 4 (A.ext z) rfl];refine gw (α:=Bool) (a:=decide (x.gone≠0)) (i:=i) rfl rfl hM.u eb.i Ψ (bi ak z) (by rw[v8,y];rfl) λaz aB=>?_;obtain rfl:az= .bool (decide (x.gone≠0)):=(List.cons.inj aB).1;rw[aj];refine⟨λaC=>aa _ _ ⟨z,H.2 λh=>absurd h aC⟩,λbf=>?_⟩;have ab:x.gone=0:=Ω
 refine(X.ext z).load λbh aE=>?_;refine(EW (i:=i) aE f y).mono ?_;rintro _ bj _ ⟨aF,rfl⟩;have I:=z.trans aF;rw[bz,bA];have bl:0<=(ds n.k (ax x) λv=>x.un.getD v.toNat 0).1:=(El Ω λv _=>hn f y).1;refine aW (λr w'=>Ext J w'/\r= .bool (decide (ax x=[]\/0<(ds n.k (ax x) λv=>x.un.getD v.toNat 0).1))) ?_ λbm ac=>?_
 rotate_left
 .rw[aG aA.p 3 (A.ext I) rfl];refine gw (α:=Λ) (a:=ax x) (i:=i) rfl rfl b2.u an.i Ψ (bi Y I) (by rw[v8,y];rfl) λaH O=>?_;rw[aV an.u (dD O),bb,aj];refine⟨λP=>ac _ _ ⟨I,by rw[decide_eq_true (.inl (b9 Ω))]⟩,λP=>?_⟩;rw[bS];refine ac _ _ ⟨I,?_⟩;congr 1;exact decide_eq_decide.2 ⟨λh=>.inr h,λh=>h.resolve_left λe=>by rw[e]at P;exact P rfl⟩
 rintro _ aI ⟨C,rfl⟩;rw[aj];refine⟨λK=>no C λB=>?_,λK=>?_⟩
 .obtain⟨h1,bn,_⟩:=H.1 B ab;exact K.elim h1 λh=>Ω
 have aJ:ax x≠[]:=λe=>K (.inl e);have aK:(ds n.k (ax x) λv=>x.un.getD v.toNat 0).1=0:=by
  have:¬0<(ds n.k (ax x) λv=>x.un.getD v.toNat 0).1:=λe=>K (.inr e);omega
 rw[aG aA.p 3 (A.ext C) rfl];refine gw (α:=Λ) (a:=ax x) (i:=i) rfl rfl b2.u an.i Ψ (bi Y C) (by rw[v8,y];rfl) λaH O=>?_;have Q:=dD O;rw[aV an.u Q];refine b3.range (ax x).length (λq _ R=>Ext aI R/\∀v∈(ax x).take q,min (s.zero+x.un.getD v.toNat 0) n.k<n.k) Q.le ⟨Ext.refl _,λv E=>by cases E⟩ ?_ ?_
 rotate_left
 .rintro _ R aL ⟨G,j⟩;rw[o6]at j;exact b7 Ω (aa _ _ ⟨C.trans G,H.2 λ_=>⟨aJ,aK,j⟩⟩)
 rintro q bo R aL j ⟨G,aN⟩ aO;obtain⟨v,E⟩:=aD (l:=ax x) j;have ad:=x6 E;have aP:=(fd.1 ad).1;obtain⟨S,rfl⟩:=U6 aP.1;have bp:=hn (v:=S) f y;have aQ:=C.trans G;refine bD Ω ?_;rw[bc an.u ag.i Ψ (Q.ext G) E];intro bq ae _ _;have V:=aQ.trans ae;have L:=A.ext V;rw[aG aA.p 2 L rfl,aG aA.p 5 L rfl];refine gw (α:=Λ) (a:=x.un) (i:=i) rfl rfl cP.u au.i Ψ (bi al V) (by rw[v8,y];rfl) λbr aR=>?_;rw[bc au.u ao.i Ψ (dD aR) (getD_some (i:=S) Ω),aG aA.p 0 L rfl,aG aA.p 0 L rfl];refine(l2 Ω Ω).mono ?_;rintro _ bt _ ⟨rfl,W⟩;refine⟨.inl W,?_⟩;rw[bb,aj];refine⟨λhe=>no (V.trans W) λB=>?_,λhe=>?_⟩
 .have:=(H.1 B ab).2.2 (S:Int) ad;rw[u9]at this;omega
 .rw[aM];refine aO _ _ ⟨(G.trans ae).trans W,λu hu=>?_⟩;rw[r8,E,l7,l9,j4]at hu;rcases hu with hu|rfl
  .exact aN u hu
  .rw[u9];omega
theorem Re(h:eW w dO n.k n.sizes s)(f:bg n.k n.sizes s):ai x8 yT [dO,Δ 1] w λr w'=>Ext w w'/\∃b:Bool,r= .bool b/\(b=true↔lA n s):=by
 refine ay func19 ?_;refine bk λg1 J x e a=>?_;have j:=h.box e a;rw[bb,aj];refine⟨λ_=>?_,λh=>absurd rfl h⟩;refine j.load λy p=>?_;refine(Rc p f).mono ?_;rintro _ U _ ⟨q,b,rfl,a⟩;exact⟨e.trans q,b,rfl,a⟩
end
structure Rf(P:am->Prop)(n:aK)(s:am)(q:am×Bool):Prop where
 aU:hG n.k n.sizes s q.1
 emp:q.2=true->∃i<n.sizes.length,dx q.1 i=false/\bB q.1 (i:Int)=[]
 RQ:q.2=false->lA n q.1/\P q.1
 quiet:lA n s->P s->q=(s,false)
section
variable{ap:List az}{w:x4}{ab ac:Nat}{A R:af}{n:aK}{s:am}{t:az}
def Fg(_:aK)(_:am):Prop:=True
theorem Fh(h:bH w ab ac A R n s t)(f:Laid w)(j:¬A 0)(p:eC ap t)(a:cp s):ai x8 yS [Γ ab] w λr w'=>∃q:am×Bool,Rf (Fg n) n s q/\r=Δ (if q.2=true then 8 else 0)/\cS ap w ab ac A R n q.1 w':=by
 have e:=h.2.2.2.1;refine(Fa h f j p a).mono ?_;rintro _ J _ ⟨rfl,hm⟩;obtain⟨x,y,z⟩:=E6 (n:=n) (fw n.k s+1) s e a (Nat.lt_succ_self _);exact⟨m8 n s,⟨x,y,λh=>⟨z h,trivial⟩,λh _=>QU e h⟩,rfl,hm⟩
theorem Rg{dO:x3}(h:eW w dO n.k n.sizes s)(a:bg n.k n.sizes s):ai x8 yT [dO,Δ 1] w λr w'=>Ext w w'/\∃b:Bool,r= .bool b/\(b=true↔lA n s/\Fg n s):=
 (Re h a).mono λr w' _ ⟨f,b,e,j⟩=>⟨f,b,e,j.trans ⟨λh=>⟨h,trivial⟩,λh=>h.1⟩⟩
end
section
variable{w:x4}{dO:x3}{n:aK}{s:am}
theorem Rh{c8:x3}(h:aH .i64 w c8 l):ai x8 y1 [c8] w λr w'=>r= .bool (decide (l=[]))/\Ext w w':=by
 refine ay func42 ?_;rw[aV an.u h,bb];refine⟨?_,Ext.refl _⟩;congr 1;exact decide_eq_decide.2 ⟨λh=>b9 Ω,λh=>by rw[h];rfl⟩
theorem Ri{sv:x3}{L:List (Λ)}{m:Bool}{S R:af}(h:ak.rep (α:=List (Λ)) m S R w [sv] L):
  ai x8 Gu [sv,.func (.func y1) #[] #[]] w λv w'=>v= .bool (L.any λl=>decide (l=[]))/\Ext w w':=by
 refine ay func41 ?_;refine ai.mono (K:=λv w'=>Ext w w'/\∃r:Int,v=Δ r/\(0<=r↔ ∃c∈L,c=[])) ?_ ?_
 .refine ay func88 ?_;rw[fG b2.u h];refine b3.range L.length (λi _ J=>Ext w J/\∀c∈L.take i,c≠[]) (lW h) ⟨Ext.refl _,λc e=>by simp at e⟩ ?_ ?_
  .rintro i _ J k hi ⟨f,p⟩ hk;refine bD Ω ?_;obtain⟨x,q⟩:=aD (l:=L) hi;refine gw (α:=Λ) (a:=x) rfl rfl b2.u an.i Ψ (bi h f) q λu hu=>?_;refine ai.mono (Rh (dD hu)) ?_;rintro _ U _ ⟨rfl,s⟩;rw[aj];refine⟨λj=>⟨f.trans s,i,rfl,⟨λ_=>⟨x,x6 q,j⟩,λ_=>Ω⟩⟩,λy=>?_⟩;rw[aM];refine hk _ _ ⟨f.trans s,λc e=>?_⟩;rw[r8,q]at e;rcases l9.1 e with e|e
   .exact p c e
   .simp at e;subst e;exact y
  .rintro _ J k ⟨f,p⟩;rw[o6]at p;refine b7 Ω ?_;exact⟨f,-1,rfl,⟨λh=>Ω,λ⟨c,e,j⟩=>absurd j (p c e)⟩⟩
 .rintro _ J _ ⟨f,r,rfl,z⟩;rw[cQ];refine⟨?_,f⟩;congr 1;rw[V7,decide_eq_true_eq,List.any_eq_true,z];exact⟨λ⟨c,e,j⟩=>⟨c,e,decide_eq_true j⟩,λ⟨c,e,j⟩=>⟨c,e,of_decide_eq_true j⟩⟩
theorem Fi(h:eW w dO n.k n.sizes s):ai x8 Gk [dO] w λr w'=>Ext w w'/\∃b:Bool,r= .bool b/\(b=true↔ ∃i,i<s.vars.length/\bB s ((i:Nat):Int)=[]):=by
 refine ay func18 ?_;refine bk λg1 J A e f=>?_;obtain⟨szv,B,C,E,G,H,j,I,_,q,_⟩:=h.box e f;rw[aG aA.p 3 j rfl];refine(Ri q).mono ?_;rintro _ U _ ⟨rfl,y⟩;refine⟨e.trans y,_,rfl,?_⟩;rw[List.any_eq_true];constructor
 .rintro⟨l,z,he⟩;obtain⟨x,a,rfl⟩:=j0.1 z;obtain⟨i,hi⟩:=X6.1 a;exact⟨i,(x5.1 hi).1,by rw[pF hi];exact of_decide_eq_true he⟩
 .rintro⟨i,hi,he⟩;obtain⟨x,a⟩:=aD (l:=s.vars) hi;rw[pF a]at he;exact⟨ax x,j0.2 ⟨x,x6 a,rfl⟩,decide_eq_true he⟩
end
theorem Rj{p aC:x3}{L:List j7}{Q:x3->x4->Prop}(S:∀w',Ext w w'->Q (.bool true) w')(ba:aH .u8 w p pl)(bc:∀b∈pl,0<=b/\b<256)(bd:Seen eN w [aC] L)(V:∀x∈L,(lx x).ok)(aE:eu w)(aF:Laid w):
  ai x8 yQ [p,aC] w Q:=by
 refine ay func3 ?_;refine(Fc aE aF).mono ?_;rintro _ J _ ⟨rfl,C⟩;rw[bJ,Y9,aY];refine(E1 (ba.ext C) bc (bi bd C) V (aE.ext C) (aF.ext C)).mono ?_;rintro _ U _ ⟨aI,be⟩;have aJ:=C.trans aI;have cr:=C.size;have ct:=aI.size;rcases be with⟨cs,rfl,bf,bg⟩|⟨f,ab,ac,cu,Z,aB,s,cs,rfl,cw,hk,aK,W,bh⟩
 .rw[gq,gu,gv];refine bw aA.i λal bj bk M X=>?_;refine bT (vs:=cs) aA.i bf rfl bg X λY ad bl ae=>?_;rw[bJ,X9,bQ,da eh.u];exact S _ (aJ.trans (M.put ad Ω))
 rw[gq,gu,gv];have af:cs.length=8/\∀u∈cs,u.oneCell'=true:=by
  obtain⟨A,R,A9,t,p,_⟩:=id W;exact bt.len p.doc
 refine bw aA.i λal bj bk M X=>?_;refine bT (vs:=cs) aA.i af.1 rfl af.2 X λY ad bl ae=>?_;have aL:Ext U Y:=M.put ad Ω;have bm:=aJ.trans aL;rw[bJ,Y9,aY];have aN:=W.ext aL;have aP:iz Y al (cg f).k (cg f).sizes s:=eW.box aN.ok.2 (Ext.refl _) ae;obtain⟨szv,cz,cA,cB,cC,cD,ag,bn,_⟩:=id aP;obtain⟨y,aQ,E,_⟩:=aK.ok;rw[aG aA.p 0 ag rfl,aG aA.p 1 ag rfl];refine(Fe bn y.ef.2.2 y.ef.2.1).mono ?_;rintro c8 bo _ ⟨aS,I,bp,cE,ah⟩;have ak:=hS bp;rw[fG b2.u ak];refine b3.range I.length (λi c am=>Ext bo am/\c=Δ (((I.take i).map (er (cg f).k s)).foldl min (cg f).k)) (lW ak) ⟨Ext.refl _,rfl⟩ ?_ ?_
 .rintro i _ am bq hi ⟨K,rfl⟩ br;obtain⟨tl,ao⟩:=aD (l:=I) hi;have G:=tR y (ah tl (x6 ao));refine bD Ω ?_;refine gw (α:=Λ) (a:=tl) rfl rfl b2.u an.i Ψ (bi ak K) ao λaO bx=>?_;refine(aP.ext (aS.trans K)).load λcF bB=>?_;refine(w7 bB y aQ G (dD (hS bx))).mono ?_;rintro _ cG _ ⟨rfl,bC⟩;rw[kU,aM];refine br _ _ ⟨K.trans bC,?_⟩;rw[r8,ao,l7,Z2,R5];rfl
 rintro _ am bq ⟨K,rfl⟩;rw[o6];refine b7 Ω ?_;have N:=aS.trans K;have bE:=W.lt;obtain⟨A,R,t,bG,bH,bI,bL,bM⟩:=(aN.ext N).go;refine(Fh bG bH bI bL aQ).mono ?_;rintro _ bN _ ⟨q,bO,rfl,hm⟩;obtain⟨ap,cH,cI,bP⟩:=bM (Ext.refl _) hm;have aT:Ext w bN:=(bm.trans N).then ap λr cJ h=>by have:=bh r h.1;omega
 have aU:¬(Z al/\¬aB al):=λh=>by have:=bE al h.1;have:=M.size;omega
 have bR:=(ae.ext N).aa ap aU;have aX:=(ag.ext N).aa ap aU;obtain⟨e,bS,bU,_⟩:=bO;have aq:∀c,c<=(I.map (er (cg f).k s)).foldl min (cg f).k↔c<=(cg f).k/\∀a∈I,c<=er (cg f).k s a:=λc=>by
  rw[mX];exact and_congr_right λ_=>⟨λh a B=>h _ (j0.2 ⟨a,B,rfl⟩),λh x z=>by obtain⟨a,B,rfl⟩:=j0.1 z;exact h a B⟩
 cases he:q.2 with
 |true=>
  obtain⟨i,hi,H,bV⟩:=bS he;rw[if_pos rfl,bb,aj];refine⟨λ_=>?_,λh=>absurd rfl h⟩;rw[aG aA.p 0 aX rfl,bb,decide_eq_true ?_]
  .exact S _ aT
  .have h1:=(aq (cg f).k).2 ⟨Q1 _,λa B=>by
    have G:=tR y (ah a B);rw[<-e.val a G,QW e.ok (xd e.same G) hi H bV];exact Q1 _⟩
   have bW:=((aq _).1 (Q1 _)).1;omega
 |false=>
  have aZ:=(bU he).1;rw[if_neg Φ,bb,aj];refine⟨λh=>absurd h Φ,λ_=>?_⟩;have bX:∀g∈s.funs,g.live≠0:=λg V=>by
   obtain⟨j,a1⟩:=X6.1 V;obtain⟨bY,H⟩:=aD (l:=(cZ (cg f)).funs) (i:=j) (by have:=(x5.1 a1).1;have:=E.funs;omega);rw[(E.fn j bY g H a1).2.2.1];unfold cZ at H;simp only[v8,Y6]at H;obtain⟨c,_,rfl⟩:=H;show(1:Int)≠0;decide
  have cK:s.funs.length<=256:=by
   have h1:=E.funs;have bW:(cZ (cg f)).funs.length=(cg f).funs.length:=by unfold cZ;simp
   have:=aK.ok.2.2.2;omega
  have bZ:s.dd.length<=1000:=by rw[E.dd];exact X5 _
  rw[bF aA.p aA.i af.1 bR.range];obtain⟨cL,cM,cN,cO,au,⟨b0,_,_⟩,_⟩:=id bP;refine(xu au b0 e.same y bX Ω bZ).mono ?_;rintro _ b1 _ ⟨b4,cP,bu,rfl,a2,cQ⟩;obtain⟨b5,b6⟩:=bt.len a2;refine bw aA.i λgy cR cS b8 b9=>?_;refine bT (vs:=bu) aA.i b5 rfl b6 b9 λav ca cT cb=>?_;have a6:Ext b1 av:=b8.put ca Ω;have cc:=b4.trans a6;have a7:iz av gy (cg f).k (cg f).sizes q.1:=eW.box (fQ.pA a2) a6 cb;obtain⟨_,_,_,_,_,_,cd,ce,_⟩:=id a7;rw[aG aA.p 1 cd rfl,aV an.u ce];refine b3.range (cg f).sizes.length (λi _ ax=>Ext av ax) (by have:=y.ef.2.1;omega) (Ext.refl _) ?_ ?_
  .rintro i t4 ax ch hi O ci;obtain⟨x,z⟩:=aD (l:=q.1.vars) (i:=i) (by have:=e.ok.vars;omega);refine bD Ω ?_;refine(a7.ext O).load λcU cj=>?_;refine(EW (i:=i) cj e.ok z).mono ?_;rintro _ cV _ ⟨ck,rfl⟩;have cl:=((Ff e.ok z).1 (aZ i hi) (xr (E.trans e.same) z)).2.1;rw[bz,bA,bK,aj];refine⟨λh=>absurd cl h,λ_=>?_⟩;rw[aM];exact ci _ _ (O.trans ck)
  .rintro t4 ax ch O;refine b7 Ω ?_;refine aW (λv w'=>v= .bool true/\Ext w w') (λv w' h=>by rw[h.1];exact S _ h.2) λaw cm=>?_;intro cW cn _ _;have P:=(cc.trans O).trans cn;have cX:=y.ef.1;obtain⟨x,z⟩:=aD (l:=q.1.vars) (i:=0) (by have:=e.ok.vars;omega);have cp:=QV (i:=0) e.ok aZ Ω (by unfold dx;rw[z];simp[xr (E.trans e.same) z]);have cq:=(aq q.1.zero).2 ⟨Ω,λa B=>by
    have G:=tR y (ah a B);rw[<-e.val a G];exact zero_le e.ok⟩
   rw[bb,aj];refine⟨λ_=>?_,λh=>absurd rfl h⟩;refine(oa (au.de.ext P)).mono ?_;rintro _ cY _ ⟨rfl,az⟩;rw[kT,aj];refine⟨λ_=>?_,λh=>absurd cq h⟩;rw[aG aA.p 0 (aX.ext (P.trans az)) rfl];refine(oa (au.de.ext (P.trans az))).mono ?_;rintro _ c0 _ ⟨rfl,a8⟩;refine⟨.inl a8,?_⟩;rw[aR];exact cm _ _ ⟨by rw[decide_eq_true cp],aT.trans ((P.trans az).trans a8)⟩
theorem Rk{p a:x3}{L:List j7}(e:aH .u8 w p pl)(f:∀b∈pl,0<=b/\b<256)(h:Seen eN w [a] L)(j:∀x∈L,(lx x).ok)(q:eu w)(r:Laid w):
  ai x8 yQ [p,a] w λv w'=>v= .bool true/\Ext w w':=Rj (λw' s=>⟨rfl,s⟩) e f h j q r
theorem Rl{p aE:x3}{L:List j7}{Q:x3->x4->Prop}(W:∀w',Ext w w'->Q (.bool true) w')(bf:aH .u8 w p pl)(bg:∀b∈pl,0<=b/\b<256)(bh:Seen eN w [aE] L)(bj:∀x∈L,(lx x).ok)(aF:eu w)(aI:Laid w):
  ai x8 yR [p,aE] w Q:=by
 refine ay func4 ?_;refine(Fc aF aI).mono ?_;rintro _ J _ ⟨rfl,y⟩;rw[bJ,Y9,aY];refine(E1 (bf.ext y) bg (bi bh y) bj (aF.ext y) (aI.ext y)).mono ?_;rintro _ U _ ⟨aJ,bk⟩;have aK:=y.trans aJ;have ce:=y.size;have ch:=aJ.size;rcases bk with⟨cs,rfl,bl,bm⟩|⟨f,ab,ac,ci,Z,aB,s,cs,rfl,cj,hk,X,Y,bn⟩
 .rw[gq,gu,gv];refine bw aA.i λal bo bp C ad=>?_;refine bT (vs:=cs) aA.i bl rfl bm ad λG ae bq af=>?_;rw[bJ,X9,bQ,da eh.u];exact W _ (aK.trans (C.put ae Ω))
 rw[gq,gu,gv];have H:cs.length=8/\∀u∈cs,u.oneCell'=true:=by
  obtain⟨A,R,A9,t,p,_⟩:=id Y;exact bt.len p.doc
 refine bw aA.i λal bo bp C ad=>?_;refine bT (vs:=cs) aA.i H.1 rfl H.2 ad λG ae bq af=>?_;have ag:Ext U G:=C.put ae Ω;have br:=aK.trans ag;rw[bJ,Y9,aY];have aL:=Y.ext ag;have bx:iz G al (cg f).k (cg f).sizes s:=eW.box aL.ok.2 (Ext.refl _) af;obtain⟨szv,ck,cl,cm,cn,cp,aM,bz,_⟩:=id bx;obtain⟨z,aN,aO,_⟩:=X.ok;have aP:∀g∈s.funs,g.live≠0:=X.live.1;have cq:s.funs.length<=256:=X.live.2;have aQ:s.dd=[]:=aO.dd;have aS:s.dd.length<=1000:=by rw[aQ];exact X5 _
 rw[aG aA.p 1 aM rfl];refine(Fe bz z.ef.2.2 z.ef.2.1).mono ?_;rintro c8 bA _ ⟨I,aT,bB,cr,bC⟩;have aU:=Y.lt;have z3:=ag.size;obtain⟨A,R,t,bD,bE,bG,bH,bI⟩:=(aL.ext I).go;refine(Fh bD bE bG bH aN).mono ?_;rintro _ aV _ ⟨q,bL,rfl,hm⟩;obtain⟨K,ct,cu,aX⟩:=bI (Ext.refl _) hm;have bM:Ext w aV:=(br.trans I).then K λr ah h=>by have:=bn r h.1;omega
 have aZ:¬(Z al/\¬aB al):=λh=>by have:=aU al h.1;have:=C.size;omega
 have am:=(af.ext I).aa K aZ;have cw:=(aM.ext I).aa K aZ;have bN:Seen (λr=>G.heap.size<=r/\r<bA.heap.size) aV [c8] aT:=ak.aa (nA bB λr ah h=>⟨h.elim id False.elim,ah⟩) K λr ah h h'=>by
  have h:=h.elim False.elim id;have:=aU r h'.1;omega
 obtain⟨j,bO,bP,_⟩:=bL;obtain⟨cz,cA,cB,cC,M,⟨a1,_,_⟩,_⟩:=id aX;rw[bF aA.p aA.i H.1 am.range];refine(xu M a1 j.same z aP Ω aS).mono ?_;rintro _ bR _ ⟨bS,cD,bu,rfl,a2,cE⟩;obtain⟨bU,bV⟩:=bt.len a2;refine bw aA.i λgy cF cG bW bX=>?_;refine bT (vs:=bu) aA.i bU rfl bV bX λan bY cH bZ=>?_;have a6:Ext bR an:=bW.put bY Ω;have ao:=bS.trans a6;have N:iz an gy (cg f).k (cg f).sizes q.1:=eW.box (fQ.pA a2) a6 bZ;have b0:∀a∈aT,gP s a:=λa b1=>tR z (bC a b1);refine aW (λv ap=>v= .bool false/\Ext an ap) ?_ λaw aq=>?_
 .rintro _ ap ⟨rfl,O⟩;rw[aY];have a7:Ext w ap:=bM.trans (ao.trans O);cases he:q.2 with
  |true=>
   obtain⟨i,hi,cI,au⟩:=bO he;rw[if_pos rfl,bb,aj];refine⟨λ_=>?_,λh=>absurd rfl h⟩;refine(N.ext O).load λa8 B=>?_;refine(Fi B).mono ?_;rintro _ b2 _ ⟨P,b,rfl,av⟩;rw[av.2 ⟨i,by have:=j.ok.vars;omega,au⟩];exact W _ (a7.trans P)
  |false=>
   have ba:=bP he;rw[if_neg Φ,bb,aj];refine⟨λh=>absurd h Φ,λ_=>?_⟩;refine aW (λv w'=>v= .bool true/\Ext w w') (λv w' h=>by rw[h.1];exact W _ h.2) λaw aq=>?_;rw[bb,aj];refine⟨λ_=>?_,λh=>absurd rfl h⟩;refine(N.ext O).load λa8 B=>?_;refine(Fi B).mono ?_;rintro _ b2 _ ⟨P,b,rfl,av⟩;have b3:b=false:=by
    cases b with
    |false=>rfl
    |true=>
     obtain⟨i,hi,au⟩:=av.1 rfl;obtain⟨x,bc⟩:=aD (l:=q.1.vars) (i:=i) hi;have b4:=ba.1 i (by have:=j.ok.vars;omega) (by rw[u9];unfold dx;rw[bc];simp[xr (aO.trans j.same) bc]);exact absurd au b4.1
   rw[b3,bJ,X9,bQ];refine(N.ext (O.trans P)).load λa8 B=>?_;refine(Rg B j.ok).mono ?_;rintro _ cJ _ ⟨b5,cK,rfl,b6⟩;rw[b6.2 ba];exact aq _ _ ⟨rfl,(a7.trans P).trans b5⟩
 .intro cL bd _ _;have S:=ao.trans bd;rw[bF aA.p aA.i H.1 (am.ext S).range];refine(QJ (M.ext S) (a1.ext S) j.same z aP Ω aS aN j.me (bi bN S) b0 j.val).mono ?_;rintro _ b7 _ ⟨rfl,b8⟩;have ax:=bd.trans b8;have V:=ao.trans ax;obtain⟨_,_,_,_,_,_,b9,_⟩:=id N;obtain⟨_,_,_,_,cM,_,be,_,_,_,_,_,ca,_⟩:iz b7 al (cg f).k (cg f).sizes s:=eW.box aX.ok.2 V (am.ext V);rw[bJ,Y9,aY,aG aA.p 2 (b9.ext ax) rfl,aG aA.p 2 be rfl,aR,aj];refine⟨λh=>absurd h (by have:=j.zero;omega),λ_=>?_⟩;rw[aG aA.p 6 be rfl,fG dm.u ca,u7];refine(tp (M.de.ext V)).mono ?_;rintro _ cN _ ⟨rfl,az⟩;refine⟨.inl az,?_⟩;rw[j.same.funs,bK,aj];refine⟨λh=>absurd rfl h,λ_=>?_⟩;have aC:q.1.dd=[]:=by rw[j.same.dd,aQ]
  refine(PN (M.de.ext (V.trans az)) (λe h=>by rw[aC]at h;cases h) (by rw[aC];exact X5 _)).mono ?_;rintro cO cP _ ⟨cb,cQ,⟨E,cc,cd,_⟩,_⟩;rw[e9 ns.u cc,bK,cd,aC];exact aq _ _ ⟨rfl,(ax.trans az).trans cb⟩
theorem Rm{p a:x3}{L:List j7}(e:aH .u8 w p pl)(f:∀b∈pl,0<=b/\b<256)(h:Seen eN w [a] L)(j:∀x∈L,(lx x).ok)(q:eu w)(r:Laid w):
  ai x8 yR [p,a] w λv w'=>v= .bool true/\Ext w w':=Rl (λw' s=>⟨rfl,s⟩) e f h j q r
end Go.Proofs.YtikkpokkcdocoaaGreatDoor
