/- own texts, made small by a tool (wip/ holds them as they were written): no statement of the seat. -/
import Derived.Test.YtjjhhcfgfdepdaaGreatDoorZe
set_option linter.unusedVariables false
set_option linter.unusedSimpArgs false
set_option linter.unnecessarySimpa false
open Array renaming getElem?_eq_some_iff→o9
open Bool renaming not_true→Z8,not_false→X3,and_eq_true→U2,true_and→T0
open Decidable renaming not_not→Y4
open Go renaming Value→x1,World→x3,TypeId→r9,IntKind→o4,FuncId→S6
open Go.Builtin renaming append_→b8,len_→W3
open Go.Instr renaming loadAt→u5,fieldAt→u6,storeAt→o7,indexAt→j5,extract→Z1,alloc→R2
open Go.IntKind renaming i64→Y9,u64→V9
open Go.Proofs.Tryz renaming prog→x7
open Int renaming toNat_natCast→u9,eq_ofNat_of_zero_le→W5
open List renaming getElem?_eq_some_iff→x4,mem_of_getElem?→x5,getElem?_eq_getElem→x6,getElem?_map→x8,getD_eq_getElem?_getD→u4,length_map→u7,take_add_one→r8,replicate→p8,take_length→o6,mem_map→o8,mem_singleton→n9,mem_append→l7,length_take→j0,take_of_length_le→j6,eq_nil_of_length_eq_zero→j9,getElem?_set_self→c7,map_append→c8,length_cons→b9,length_set→Z4,getElem?_eq_none→Z5,getElem?_set_ne→Y5,ext_getElem?→Y8,range→W7,mem_cons→V0,map_cons→U4,append_nil→U5,mem_filter→S3,mem_of_mem_take→S8,length→S9
open Nat renaming le_refl→p9,zero_add→X1,mul_one→U6,pow_le_pow_right→T3,lt_of_lt_of_le→R3,eq_zero_or_pos→R4
open Option renaming toList_some→l9,map_some→Z2,isNone_some→Z3,map_eq_some_iff→Y2,getD_some→V4,isSome_some→T9,isSome_none→S0
open Option.some renaming inj→c9
set_option maxHeartbeats 16000000
open Option renaming some→σ,none→ν
variable {l pl sizes:Λ}{J w:x3}{c j pos v:Int}{I:x1}
namespace Go.Proofs.YtjjhhcfgfdepdaaGreatDoor
open Go Go.Vc Go.RowKit Go.Proofs Go.Proofs.Tryz
set_option maxRecDepth 100000
theorem qz (h J:Nat) {l I:Nat} (U:l<256) (hm:I<256):(256*h+l) &&& (256*J+I)=256*(h &&& J)+(l &&& I):=by
 have V:l &&& I<2 ^ 8:=Nat.and_lt_two_pow _ hm;apply Nat.eq_of_testBit_eq;intro i;rw[Nat.testBit_and,show 256=2 ^ 8 from rfl,Nat.testBit_two_pow_mul_add _ U,Nat.testBit_two_pow_mul_add _ hm,Nat.testBit_two_pow_mul_add _ V];split
 .rw[Nat.testBit_and]
 .rw[Nat.testBit_and]
def gv (m x:Nat):Nat:=(x / 2 &&& m)+(x &&& m)
def hf (m x:Nat):Nat:=(x / 4 &&& m)+(x &&& m)
def jd (m x:Nat):Nat:=(x / 16+x) &&& m
def cS (a:Nat):Nat:=jd 15 (hf 51 (gv 85 a))
theorem Ol:∀e<2,∀l<256,(128*e+l / 2) &&& 85=l / 2 &&& 85:=by decide+kernel
theorem Om:∀e<4,∀l<256,(64*e+l / 4) &&& 51=l / 4 &&& 51:=by decide+kernel
theorem On:∀e<5,∀l<69,(16*e+l / 16+l) &&& 15=(l / 16+l) &&& 15:=by decide+kernel
theorem mA:∀l<256,gv 85 l<256/\hf 51 (gv 85 l)<69/\hf 51 (gv 85 l) % 16<5/\cS l<=8/\(cS l=0->l=0):=by decide+kernel
theorem tn (h I:Nat) {l:Nat} (J:l<256):gv (256*I+85) (256*h+l)=256*gv I h+gv 85 l:=by
 unfold gv;rw[show (256*h+l) / 2=256*(h / 2)+(128*(h % 2)+l / 2) by omega,qz _ _ Ω Ω,qz _ _ J Ω,Ol _ Ω _ J];omega
theorem tp (h I:Nat) {l:Nat} (J:l<256):hf (256*I+51) (256*h+l)=256*hf I h+hf 51 l:=by
 unfold hf;rw[show (256*h+l) / 4=256*(h / 4)+(64*(h % 4)+l / 4) by omega,qz _ _ Ω Ω,qz _ _ J Ω,Om _ Ω _ J];omega
theorem tq (h I:Nat) {l:Nat} (J:l<69) (he:h % 16<5):jd (256*I+15) (256*h+l)=256*jd I h+jd 15 l:=by
 unfold jd;rw[show (256*h+l) / 16+(256*h+l)=256*(h / 16+h)+(16*(h % 16)+l / 16+l) by omega,qz _ _ Ω Ω,On _ he _ J]
def four (a b c d:Nat):Nat:=256*(256*(256*d+c)+b)+a
theorem Oo {a b c d:Nat} (I:a<256) (J:b<256) (U:c<256) (V:d<256):gv 6148914691236517205 (four a b c d)=four (gv 85 a) (gv 85 b) (gv 85 c) (gv 85 d):=by
 unfold four;rw[show 6148914691236517205=256*(256*(256*(256*1431655765+85)+85)+85)+85 from rfl,tn _ _ I,tn _ _ J,tn _ _ U];have:=tn 0 1431655765 V;rw[show 256*0+d=d by omega,show gv 1431655765 0=0 from by unfold gv;simp] at this;rw[this,Nat.mul_zero,X1]
theorem Oq {a b c d:Nat} (I:a<256) (J:b<256) (U:c<256) (V:d<256):hf 3689348814741910323 (four a b c d)=four (hf 51 a) (hf 51 b) (hf 51 c) (hf 51 d):=by
 unfold four;rw[show 3689348814741910323=256*(256*(256*(256*858993459+51)+51)+51)+51 from rfl,tp _ _ I,tp _ _ J,tp _ _ U];have:=tp 0 858993459 V;rw[show 256*0+d=d by omega,show hf 858993459 0=0 from by unfold hf;simp] at this;rw[this,Nat.mul_zero,X1]
theorem Ot {a b c d:Nat} (I:a<69) (J:b<69/\b % 16<5) (U:c<69/\c % 16<5) (V:d<69/\d % 16<5):jd 1085102592571150095 (four a b c d)=four (jd 15 a) (jd 15 b) (jd 15 c) (jd 15 d):=by
 unfold four;rw[show 1085102592571150095=256*(256*(256*(256*252645135+15)+15)+15)+15 from rfl,tq _ _ I Ω,tq _ _ J.1 Ω,tq _ _ U.1 Ω];have:=tq 0 252645135 V.1 Ω;rw[show 256*0+d=d by omega,show jd 252645135 0=0 from by unfold jd;simp] at this;rw[this,Nat.mul_zero,X1]
def qA (x:Nat):Nat:=cS (x % 256)+cS (x / 256 % 256)+cS (x / 65536 % 256)+cS (x / 16777216)
theorem Ou {x:Nat} (h:x<4294967296):qA x=0↔x=0:=by
 constructor
 .intro I;unfold qA at I;have h1:=(mA (x % 256) Ω).2.2.2.2 Ω;have J:=(mA (x / 256 % 256) Ω).2.2.2.2 Ω;have U:=(mA (x / 65536 % 256) Ω).2.2.2.2 Ω;have V:=(mA (x / 16777216) Ω).2.2.2.2 Ω;omega
 .rintro rfl;decide
theorem Ov {x:Nat} (aM:x<4294967296):aj x7 Gh [.int .u64 (x:Int)] w λv w'=>v=Δ (qA x:Int)/\Ext w w':=by
 obtain⟨a,b,c,d,ac,ad,ae,af,e,an,ao,ap,aq⟩:∃a b c d,a<256/\b<256/\c<256/\d<256/\x=four a b c d/\a=x % 256/\b=x / 256 % 256/\c=x / 65536 % 256/\d=x / 16777216:=
  ⟨x % 256,x / 256 % 256,x / 65536 % 256,x / 16777216,Ω,Ω,Ω,Ω,by unfold four;omega,rfl,rfl,rfl,rfl⟩
 obtain⟨au,av,a3,a4,_⟩:=mA a ac;obtain⟨ax,ay,az,aN,_⟩:=mA b ad;obtain⟨aA,aB,aC,aO,_⟩:=mA c ae;obtain⟨d1,d2,d3,d4,_⟩:=mA d af;have g1:=Oo ac ad ae af;have ah:=Oq au ax aA d1;have aD:=Ot av ⟨ay,az⟩ ⟨aB,aC⟩ ⟨d2,d3⟩;have aF:qA x=cS a+cS b+cS c+cS d:=by unfold qA;rw[<-an,<-ao,<-ap,<-aq]
 rw[<-e] at g1;have aG:gv 6148914691236517205 x<4294967296:=by rw[g1];unfold four;omega
 have ai:hf 3689348814741910323 (gv 6148914691236517205 x)<4294967296:=by rw[g1,ah];unfold four;omega
 have X:jd 1085102592571150095 (hf 3689348814741910323 (gv 6148914691236517205 x))=four (cS a) (cS b) (cS c) (cS d):=by rw[g1,ah,aD];rfl
 have aH:four (cS a) (cS b) (cS c) (cS d)<4294967296:=by unfold four;omega
 refine aw func127 ?_;have W:∀ {t:r9} {cx cy:Bool} {K:x1->Prop} (p q:Nat),p+q<18446744073709551616->U x7 (aE .add t cx cy (.int .u64 (p:Int)) (.int .u64 (q:Int))) w K=K (.int .u64 ((p+q:Nat):Int)):=λp q h=>by
  rw[aL,wrap_u64 Ω Ω];rfl
 have small:∀ (p m:Nat),p &&& m<=p:=λp m=>Nat.and_le_left;rw[show (1:Int)=((1:Nat):Int) from rfl,kL Ω,show (6148914691236517205:Int)=((6148914691236517205:Nat):Int) from rfl,u64_and Ω Ω,u64_and Ω Ω,W (x / 2 ^ 1 &&& 6148914691236517205) (x &&& 6148914691236517205) (by exact Nat.lt_of_le_of_lt (Nat.add_le_add (small _ _) (small _ _)) Ω)];obtain⟨y,Y⟩:∃y,(x / 2 ^ 1 &&& 6148914691236517205)+(x &&& 6148914691236517205)=y:=⟨_,rfl⟩;rw[Y];have Y:gv 6148914691236517205 x=y:=Y;rw[Y] at aG ai X;rw[show (2:Int)=((2:Nat):Int) from rfl,kL Ω,show (3689348814741910323:Int)=((3689348814741910323:Nat):Int) from rfl,u64_and Ω Ω,u64_and Ω Ω,W (y / 2 ^ 2 &&& 3689348814741910323) (y &&& 3689348814741910323) (by exact Nat.lt_of_le_of_lt (Nat.add_le_add (small _ _) (small _ _)) Ω)];obtain⟨z,aa⟩:∃z,(y / 2 ^ 2 &&& 3689348814741910323)+(y &&& 3689348814741910323)=z:=⟨_,rfl⟩;rw[aa];have aa:hf 3689348814741910323 y=z:=aa;rw[aa] at ai X;rw[show (4:Int)=((4:Nat):Int) from rfl,kL Ω,W (z / 2 ^ 4) z Ω,show (1085102592571150095:Int)=((1085102592571150095:Nat):Int) from rfl,u64_and Ω Ω];have X:z / 2 ^ 4+z &&& 1085102592571150095=four (cS a) (cS b) (cS c) (cS d):=X;rw[X];obtain⟨J,ab⟩:∃J,four (cS a) (cS b) (cS c) (cS d)=J:=⟨_,rfl⟩;rw[ab] at aH ⊢;unfold four at ab;rw[show (8:Int)=((8:Nat):Int) from rfl,kL Ω,W J (J / 2 ^ 8) Ω];obtain⟨V,ak⟩:∃V,J+J / 2 ^ 8=V:=⟨_,rfl⟩;rw[ak];rw[show (16:Int)=((16:Nat):Int) from rfl,kL Ω,W V (V / 2 ^ 16) Ω];obtain⟨I,al⟩:∃I,V+V / 2 ^ 16=I:=⟨_,rfl⟩;rw[al];rw[show (32:Int)=((32:Nat):Int) from rfl,kL Ω,W I (I / 2 ^ 32) Ω,e7 fi.u ag.u,wrap_i64 Ω Ω,show (127:Int)=((127:Nat):Int) from rfl,De Ω Ω];refine⟨?_,Ext.refl _⟩;rw[aF,show 127=2 ^ 7-1 from rfl,Nat.and_two_pow_sub_one_eq_mod];have aI:J / 2 ^ 8=65536*cS d+256*cS c+cS b:=Ω
 have aJ:V / 2 ^ 16=256*cS d+(cS c+cS d):=Ω
 have am:I / 2 ^ 32=0:=Ω
 have aP:I=128*(131072*cS d+512*(cS c+cS d)+2*(cS b+cS c+cS d))+(cS a+cS b+cS c+cS d):=Ω
 have aK:(I+I / 2 ^ 32) % 2 ^ 7=cS a+cS b+cS c+cS d:=by rw[am];clear ab ak al aI aJ am;omega
 rw[aK]
theorem gS {b n:Nat} (I:lA b n):aj x7 Fw [iV b n] w λr w'=>(∃q:Int,r=Δ q/\(q=0↔b=0))/\Ext w w':=by
 have U:b<4294967296:=by
  have:=I.2;have:(2:Nat) ^ n<=2 ^ 32:=T3 Ω I.1;omega
 refine aw func55 ?_;refine bm λg J aa W X=>?_;rw[aD b1.p 0 X rfl];refine (Ov U).mono ?_;rintro _ V _ ⟨rfl,Y⟩;refine⟨⟨_,rfl,?_⟩,W.trans Y⟩;rw[<-Ou U];omega
def nK (w:x3) (ab ad:Nat) (A R:ah) (n:aQ) (s:au) (a:gM) (r:x1) (w':x3):Prop:=r=Δ (b0 n.k s a).2/\ev w ab ad A R n (b0 n.k s a).1 w'
section
variable {w:x3} {ab ad:Nat} {A R:ah} {n:aQ} {s:au} {t:ay} {a:gM}
theorem ev.same {w':x3} (h:bJ w ab ad A R n s t) (I:Laid w) (J:¬A 0) (U:ee t []) (V:Ext w w'):ev w ab ad A R n s w':=(fZ.start (m:=w.heap.size) (D:=λ_=>False) h I J U V (p9 _)).done (Ext.refl _)
theorem ev.before {w':x3} {s':au} (I:Ext w J) (h:ev J ab ad A R n s' w'):ev w ab ad A R n s' w':=by
 obtain⟨h1,U,aN,bp,V,W⟩:=h;exact⟨jy I h1,U,aN,bp,(Grow.ext I).trans V,W⟩
theorem tr {u:Int} {f:cJ} {x:bP} (h:ds s j pos v=σ (f,u,x)):∃U J u':Nat,j=U/\pos=J/\u=u'/\s.funs[U]? =σ f/\f.live≠0/\f.sc[J]? =σ (u':Int)/\s.vars[u']? =σ x/\v∈aK x/\ ∀V,f.sc[J]? =σ V->v∈dk s V:=by
 obtain⟨h1,aa,ab,ac,I,ad⟩:=jb h;obtain⟨ae,W,af,X⟩:=h6 ad;obtain⟨j,rfl⟩:=W5 h1;obtain⟨pos,rfl⟩:=W5 aa;obtain⟨u,rfl⟩:=W5 ae;refine⟨j,pos,u,rfl,rfl,rfl,ab,ac,I,W,X,λu' Y=>?_⟩;have I:f.sc[pos]? =σ (u:Int):=I;rw[I] at Y;cases Y;unfold dk;rw[W];exact X
theorem w3 (hk:a.kind=0) (h:bJ w ab ad A R n s t) (Y:Laid w) (ae:¬A 0) (ag:ee t []):aj x7 rl [Γ ab,Δ a.i,Δ a.pos,Δ a.v,Δ a.c] w (nK w ab ad A R n s a):=by
 have al:=h.2.2.2.1;refine aw func13 ?_;refine (wZ h).mono ?_;rintro _ J _ ⟨X,u,e,rfl,U⟩;rw[bf,bg];have I:b0 n.k s a=match ds s a.i a.pos a.v with
  |none=>(s,1)
  |some (f,u,x)=>if cZ n.k a.c (fY n.k s f a.pos.toNat a.v)≠0 then (s,cZ n.k a.c (fY n.k s f a.pos.toNat a.v)) else (iE s a.i.toNat f a.pos.toNat u.toNat x a.v (λg=>dD n.k g a.c) λg=>dE n.k g a.c,0):=by unfold b0;rw[if_pos hk];cases ds s a.i a.pos a.v<;>rfl
 rcases U with⟨rfl,f,x,U⟩|⟨rfl,U⟩
 rotate_left
 .rw[U] at I;rw[bh,ai];exact⟨λ_=>⟨by rw[I],by rw[I];exact ev.same h Y ae ag X⟩,λh=>absurd Φ h⟩
 rw[U] at I;rw[bh,ai];refine⟨λh=>absurd rfl h,λ_=>?_⟩;obtain⟨j,pos,u,az,aA,aB,ah,am,hu,an,aC,aD⟩:=tr U;have aE:=x5 ah;simp only[az,aA,aB,u9] at I ⊢;refine (DY (j:=j) (pos:=pos) (h.ext X) (Y.ext X) ah am aD).mono ?_;rintro _ V _ ⟨rfl,ao⟩;refine (tf (h.ext (X.trans ao))).mono ?_;rintro _ aJ _ ⟨aF,rfl⟩;have aa:=(X.trans ao).trans aF;refine db (λw'=>ev w ab ad A R n (b0 n.k s a).1 w') ?_ λav ap=>?_
 .intro w' aG;refine⟨?_,aG⟩;rw[I];split
  .rfl
  .rename_i W;rw[Y4.1 W]
 rw[be,ai];refine⟨λW=>?_,λW=>ap _ ?_⟩
 .obtain⟨ac,hm⟩:=mv (λh=>h W);rw[dc (cs:=#[.func (.func mO) #[] #[],.func (.func mP) #[] #[]]) Ψ];have aq:∀t∈cb s f.sc pos a.v,a.c<=bl f.af f.cs t:=λt aH=>((oY _ _ _).1 hm).2 _ (o8.2 ⟨t,aH,rfl⟩);have au:=gN (v:=a.v.toNat) al an;refine (D0 (t:=t) (F1:=mO) (F2:=mP) (tup:=λg=>dD n.k g a.c) (un:=λg=>dE n.k g a.c) (h.ext aa) (Y.ext aa) ae ag ah am hu an aC (λtl ax=>?_) ⟨my au ac.1,λ{w A s t} ak=>qw ak au ac⟩).mono ?_
  .have ay:=lL (t:=tl) al aE;exact⟨mw ay ⟨ac.1,aq tl ax⟩,λ{w A s t} ak=>tg ak ay ac (.inr (aq tl ax))⟩
  .rintro _ aK _ aI;refine ap _ ?_;rw[I,if_neg (λh=>h W)];exact aI.before aa
 .rw[I,if_pos W];exact ev.same h Y ae ag aa
theorem Ow (hk:a.kind=1) (h:bJ w ab ad A R n s t) (ae:Laid w) (af:¬A 0) (ag:ee t []):aj x7 uj [Γ ab,Δ a.i,Δ a.pos,Δ a.v,Δ a.c] w (nK w ab ad A R n s a):=by
 have ah:=h.2.2.2.1;refine aw func14 ?_;refine (wZ h).mono ?_;rintro _ J _ ⟨X,u,e,rfl,U⟩;rw[bf,bg];have I:b0 n.k s a=match ds s a.i a.pos a.v with
  |none=>(s,1)
  |some (f,u,x)=>if cZ n.k a.c (x.un.getD a.v.toNat 0)≠0 then (s,cZ n.k a.c (x.un.getD a.v.toNat 0)) else (iE s a.i.toNat f a.pos.toNat u.toNat x a.v (λg=>dE n.k g a.c) λg=>dD n.k g a.c,0):=by unfold b0;rw[if_neg Ω,if_pos hk];cases ds s a.i a.pos a.v<;>rfl
 rcases U with⟨rfl,f,x,U⟩|⟨rfl,U⟩
 rotate_left
 .rw[U] at I;rw[bh,ai];exact⟨λ_=>⟨by rw[I],by rw[I];exact ev.same h ae af ag X⟩,λh=>absurd Φ h⟩
 rw[U] at I;rw[bh,ai];refine⟨λh=>absurd rfl h,λ_=>?_⟩;obtain⟨j,pos,u,au,ax,ay,al,az,hu,Y,am,aF⟩:=tr U;have aA:=x5 al;simp only[au,ax,ay,u9] at I ⊢;refine (mn (i:=(u:Int)) (v:=a.v) (h.ext X)).mono ?_;rintro _ V _ ⟨rfl,an⟩;have aB:gK s (u:Int).toNat a.v.toNat=x.un.getD a.v.toNat 0:=by
  unfold gK;rw[u9,Y]
 rw[if_pos (oZ ah Y am),aB,bf,bg];refine (tf (h.ext (X.trans an))).mono ?_;rintro _ aG _ ⟨aC,rfl⟩;have aa:=(X.trans an).trans aC;refine db (λw'=>ev w ab ad A R n (b0 n.k s a).1 w') ?_ λav ao=>?_
 .intro w' aD;refine⟨?_,aD⟩;rw[I];split
  .rfl
  .rename_i W;rw[Y4.1 W]
 rw[be,ai];refine⟨λW=>?_,λW=>ao _ ?_⟩
 .obtain⟨ac,hm⟩:=mv (λh=>h W);rw[dc (cs:=#[.func (.func mP) #[] #[],.func (.func mO) #[] #[]]) Ψ];have ap:=gN (v:=a.v.toNat) ah Y;refine (D0 (t:=t) (F1:=mP) (F2:=mO) (tup:=λg=>dE n.k g a.c) (un:=λg=>dD n.k g a.c) (h.ext aa) (ae.ext aa) af ag al az hu Y am (λtl aH=>?_) ⟨mw ap ⟨ac.1,hm⟩,λ{w A s t} ak=>tg ak ap ac (.inr hm)⟩).mono ?_
  .have aq:=lL (t:=tl) ah aA;exact⟨my aq ac.1,λ{w A s t} ak=>qw ak aq ac⟩
  .rintro _ aI _ aE;refine ao _ ?_;rw[I,if_neg (λh=>h W)];exact aE.before aa
 .rw[I,if_pos W];exact ev.same h ae af ag aa
end
def gw (s:au) (i:Int):Option bP:=match (if 0<=i then s.vars[i.toNat]? else ν) with
 |some x=>if x.gone=0 then σ x else ν
 |none=>ν
theorem w4 {s:au} {i:Int} {x:bP} (h:gw s i=σ x):0<=i/\s.vars[i.toNat]? =σ x/\x.gone=0:=by
 unfold gw at h;by_cases I:0<=i
 .rw[if_pos I] at h;cases J:s.vars[i.toNat]? with
  |none=>rw[J] at h;cases h
  |some y=>
   rw[J] at h;simp only at h;split at h
   .rename_i U;cases h;exact⟨I,rfl,U⟩
   .cases h
 .rw[if_neg I] at h;cases h
theorem D1 {g:Int->Int} {un L:Λ} {j:Nat} (h:L[j]? =σ v):dX g un (L.take (j+1))=(dX g un (L.take j)).set v.toNat (g ((dX g un (L.take j)).getD v.toNat 0)):=by
 unfold dX;rw[r8,h,l9,List.foldl_append];rfl
theorem D2 {i:Nat} {v:Int}:∀ (L M:Λ) (s:au),fe s i v (L++M)=fe (fe s i v L) i v M
 |[],_,_=>rfl
 |w::L,M,s=>by
  rw[List.cons_append,fe,fe];exact D2 L M _
theorem Ox {s:au} {i:Nat} {w:Int} {L:Λ} {j:Nat} (h:L[j]? =σ w):fe s i v (L.take (j+1))=if w≠v then eU (fe s i v (L.take j)) i w.toNat else fe s i v (L.take j):=by
 rw[r8,h,l9,D2];rfl
def jF (m u:Int):Int:=if m<0\/u<m then u else m
theorem D3:∀ (l:Λ) (m:Int),0<=m->(∀c∈l,0<=c)->l.foldl jF m=l.foldl min m
 |[],_,_,_=>rfl
 |c::l,m,hm,I=>by
  have J:=I c (.head _);have e:jF m c=min m c:=by unfold jF;split<;>omega
  rw[List.foldl_cons,List.foldl_cons,e];exact D3 l _ Ω λc h=>I c (.tail _ h)
theorem Oy {x:bP} (h:∀v∈aK x,0<=x.un.getD v.toNat 0):((aK x).map λv=>x.un.getD v.toNat 0).foldl jF (-1)=iF x:=by
 unfold iF;have I:∀c∈(aK x).map (λv=>x.un.getD v.toNat 0),0<=c:=λc J=>by
  obtain⟨v,U,rfl⟩:=o8.1 J;exact h v U
 generalize (aK x).map (λv=>x.un.getD v.toNat 0)=l at I;cases l with
 |nil=>rfl
 |cons c l=>exact D3 l c (I c (.head _)) λc h=>I c (.tail _ h)
section
variable {w:x3} {ab ad:Nat} {A R:ah} {n:aQ} {s:au} {t:ay} {a:gM}
theorem D4 {i:Int} (h:bJ w ab ad A R n s t):aj x7 yE [Γ ab,Δ i] w λr w'=>Ext w w'/\r=Δ (if (gw s i).isSome=true then 0 else 1):=by
 have X:=h.2.2.2.1;have ao:=X.vars;refine aw func53 ?_;rw[cV dH.u];simp only[Z3,aS];refine aR (λr J=>r= .bool (!(gw s i).isSome)/\Ext w J) ?_ ?_
 .rintro _ J ⟨rfl,ae⟩;rw[cz];exact⟨λY=>⟨ae,by rw[if_neg (by simpa using Y)]⟩,λY=>⟨ae,by rw[if_pos (by simpa using Y)]⟩⟩
 intro av af;refine (wD (i:=i) h).mono ?_;rintro _ V _ ⟨rfl,aa⟩;rw[cz];refine⟨λI=>af _ _ ⟨?_,aa⟩,λI=>?_⟩
 .rw[U2,decide_eq_true_eq] at I;have ak:gw s i=ν:=by
   unfold gw;rw[if_pos I.1];have ac:=I.2;unfold k1 at ac;cases U:s.vars[i.toNat]? with
   |none=>rfl
   |some x=>
    rw[U] at ac;simp only;rw[if_neg λh=>by simp[h] at ac]
  rw[ak];rfl
 refine (lK (i:=i) (h.ext aa)).mono ?_;rintro _ ap _ ⟨⟨b,m,rfl,ag⟩,al⟩;refine (Ag (b:=b) (n:=m)).mono ?_;rintro _ aq _ ⟨rfl,am⟩;rw[be];refine af _ _ ⟨?_,(aa.trans al).trans am⟩;congr 1;by_cases W:0<=i/\i<n.sizes.length
 .obtain⟨x,U⟩:=aF (l:=s.vars) (i:=i.toNat) Ω;obtain⟨z,ah⟩:=aF (l:=n.sizes) (i:=i.toNat) Ω;have au:=X.gp.2.2 z (x5 ah);have ax:=(X.var _ x z U ah).1;have hm:=(ag.2.2 x W.1 U).1;have an:x.gone=0:=by
   rw[decide_eq_true W.1,T0] at I;unfold k1 at I;rw[U] at I;simpa using I
  have e:gw s i=σ x:=by
   unfold gw;rw[if_pos W.1,U];simp only;rw[if_pos an]
  rw[e,decide_eq_false Ω];rfl
 .obtain⟨rfl,rfl⟩:=ag.2.1 W;have e:gw s i=ν:=by
   unfold gw;by_cases ai:0<=i
   .rw[if_pos ai,Z5 Ω]
   .rw[if_neg ai]
  rw[e];rfl
theorem D5 {u:Nat} {x:bP} {F1 F2:S6} {g z:Int->Int} (h:bJ w ab ad A R n s t) (aV:Laid w) (bq:¬A 0) (br:ee t []) (I:s.vars[u]? =σ x)
  (h1:∀v∈aK x,(0<=g (x.un.getD v.toNat 0)/\g (x.un.getD v.toNat 0)<=n.k)/\ ∀ {w:x3} {A:ah} {s:au} {t:ay},bJ w ab ad A R n s t->aj x7 F1 [Γ ab,Δ (x.un.getD v.toNat 0),Δ c] w λr w'=>r=Δ (g (x.un.getD v.toNat 0))/\Ext w w')
  (aW:(0<=z s.zero/\z s.zero<=n.k)/\ ∀ {w:x3} {A:ah} {s':au} {t:ay},bJ w ab ad A R n s' t->aj x7 F2 [Γ ab,Δ s.zero,Δ c] w λr w'=>r=Δ (z s.zero)/\Ext w w'):
  aj x7 Fv [Γ ab,Δ (u:Int),Δ c,.func (.func F1) #[] #[],.func (.func F2) #[] #[]] w λ_ w'=>ev w ab ad A R n (kl s u x g z) w':=by
 have bt:=h.2.2.2.1;have aD:=(x4.1 I).1;refine ie func54 ?_;refine bm λg1 J bV aY U=>?_;refine bm λbu V bW aE Y=>?_;refine bm λbw bX bY an af=>?_;refine bm λbx W bZ ao ap=>?_;have U:ac W g1 dH [Γ ab]:=((ac.ext U aE).ext an).ext ao;have Y:ac W bu ag [Δ (u:Int)]:=(ac.ext Y an).ext ao;have af:ac W bw al [Δ c]:=ac.ext af ao;have ap:ac W bx HH [.func (.func F1) #[] #[]]:=ap;have aq:=((aY.trans aE).trans an).trans ao;have b0:=aY.size;have b1:=aE.size;have z3:=an.size;have b2:=aq.size;have av:=U.lt;have aZ:=Y.lt;have a1:=af.lt;have bz:=ap.lt;rw[aA (v:=Γ ab) Ψ (U.Qz rfl),aA (v:=Δ (u:Int)) Ψ (Y.Qz rfl)];refine (lK (i:=(u:Int)) (h.ext aq)).mono ?_;rintro _ b3 _ ⟨⟨b,bA,rfl,a2⟩,a6⟩;refine (pG (b:=b) (n:=bA)).mono ?_;rintro _ aw _ ⟨bB,a7,rfl,b4,a8⟩;have ba:=oV a2 Ω (show s.vars[(u:Int).toNat]? =σ x by rw[u9];exact I);have ai:=a6.trans bB;have z5:=a6.size;have z46:=ai.size;have b5:=a8.lt;have bb:=qu x;have bC:eu s u x (dX g x.un ((aK x).take 0))=s:=by
  unfold eu;show {s with vars:=s.vars.set u x}=s;have:s.vars.set u x=s.vars:=by
   apply Y8;intro i;by_cases e:u=i
   .subst e;rw[c7 aD,I]
   .rw[Y5 e]
  rw[this]
 refine lS.old ⟨_,false,kA,#[Γ a7],_,_,_,_,λj w'=>fZ w ab ad A R n w.heap.size (λr=>aw.heap.size<=r) (eu s u x (dX g x.un ((aK x).take j))) w'/\ae (λr=>r<w.heap.size\/aw.heap.size<=r) aw w',λ_ _ _=>False,rfl,(pF (g:=a7) a2.1).s,?_,
  λ_ _ I h=>⟨h.1.ext I,h.2.ext I⟩,λ_ _ _ I h=>⟨h.1.ext I,h.2.trans (I.aa _)⟩,λ_ _ _ _ _ h=>h,⟨a8,aV.ext (aq.trans ai)⟩,?_,?_,?_,λ_ _ h=>h.elim,λ_ _ _ h=>h.elim⟩
 .rintro _ _ _ _ ⟨_,_,_,_,rfl⟩;rfl
 .refine⟨?_,ae.refl _ _⟩;rw[bC];exact fZ.start h aV bq br (aq.trans ai) (p9 _)
 .rintro _ j _ bD ⟨bE,b6⟩ ⟨b7,rfl,v,bF,bG⟩ ⟨ax,ak⟩;cases bG;intro b8 az _ _;have aF:(aK x)[j]? =σ (v:Int):=by rw[<-ba,x8,bF];rfl
  have bc:=x5 aF;have aX:∀ {am:x3} {g:Nat} {e:r9} {cs:List x1},Ext bD am->w.heap.size<=g->g<W.heap.size->ac W g e cs->ac am g e cs:=λI bd be aG=>((aG.ext ai).aa ak Ω).ext I;obtain⟨b9,ca,aH,bh,aI⟩:=ax.open;have bi:fy n (u:Int) (v:Int):=oZ bt I bc;have bH:∀y∈aK x,0<=y/\y<x.un.length:=λy aJ=>(hd.1 aJ).1;have aL:=ta (g:=g) ((aK x).take j) x.un (v:Int) (bb.sublist (List.take_sublist _ _)) (λy aJ=>bH y (S8 aJ)) Ω;rw[if_neg (wX bb aF)] at aL;have bI:gK (eu s u x (dX g x.un ((aK x).take j))) (u:Int).toNat (v:Int).toNat=x.un.getD (v:Int).toNat 0:=by
   unfold gK eu;rw[u9,c7 aD];exact aL
  rw[aA (v:=Γ ab) Ψ ((aX az Ω av U).Qz rfl),aA (v:=Δ (u:Int)) Ψ ((aX az Ω aZ Y).Qz rfl)];refine (mn (i:=(u:Int)) (v:=(v:Int)) (aH.ext az)).mono ?_;rintro _ cb _ ⟨rfl,bK⟩;rw[if_pos bi,bI,bf,bg];intro bL bM _ _;have X:=(az.trans bK).trans bM;rw[aA (v:=Γ ab) Ψ ((aX X Ω av U).Qz rfl),aA (v:=Δ (u:Int)) Ψ ((aX X Ω aZ Y).Qz rfl),
   aA (v:=.func (.func F1) #[] #[]) Ψ ((aX X Ω bz ap).Qz rfl),aA (v:=Γ ab) Ψ ((aX X Ω av U).Qz rfl),aA (v:=Δ c) Ψ ((aX X Ω a1 af).Qz rfl)]
  show aj x7 F1 [Γ ab,Δ (x.un.getD (v:Int).toNat 0),Δ c] bL _;obtain⟨bN,bO⟩:=h1 v bc;refine (bO (aH.ext X)).mono ?_;rintro _ cc _ ⟨rfl,bj⟩;have aM:=X.trans bj;refine⟨.inl bj,(Ds (i:=(u:Int)) (v:=(v:Int)) (aH.ext aM) (.inl bh.1)).mono ?_⟩;rintro r cd _ ⟨_,_,aO⟩;obtain⟨_,aP,aN,bQ,bR,aQ,aB⟩:=aO bi bN;have e:kj (eu s u x (dX g x.un ((aK x).take j))) (u:Int).toNat (v:Int).toNat (g (x.un.getD (v:Int).toNat 0))=eu s u x (dX g x.un ((aK x).take (j+1))):=by
   rw[D1 aF,aL];unfold kj eu;rw[u9,c7 aD];simp only[List.set_set]
  rw[e] at aB;have ce:=ak.size;obtain⟨bk,bl,cg⟩:=aI (D':=λr=>aw.heap.size<=r) (jy aM aP) ((Grow.ext aM).trans aQ) aB bh.set (λr h=>h) λr bd be=>Ω
  exact⟨⟨bE.aa bl Ω,bk.2.1.1⟩,⟨bk,ak.trans bl⟩,λh=>by cases h⟩
 .rintro k bS rfl ⟨ax,ak⟩;rw[j6 (by rw[<-ba,u7];exact p9 _)] at ax;obtain⟨eF,ch,aR,bn,aI⟩:=ax.open;have aX:∀ {am:x3} {g:Nat} {e:r9} {cs:List x1},Ext bS am->w.heap.size<=g->g<W.heap.size->ac W g e cs->ac am g e cs:=λI bd be aG=>((aG.ext ai).aa ak Ω).ext I;intro ci aC _ _;have aS:=aX aC Ω av U;rw[aA (v:=Γ ab) Ψ (aS.Qz rfl),aA (v:=Γ ab) Ψ (aS.Qz rfl),aA (v:=Γ ab) Ψ (aS.Qz rfl),aA (v:=Δ c) Ψ ((aX aC Ω a1 af).Qz rfl)];refine (ql (aR.ext aC)).mono ?_;rintro _ bT _ ⟨rfl,aT⟩;have bo:=aC.trans aT;refine⟨.inl aT,?_⟩;show aj x7 F2 [Γ ab,Δ s.zero,Δ c] bT _;refine (aW.2 (aR.ext bo)).mono ?_;rintro _ cj _ ⟨rfl,bp⟩;have aU:=bo.trans bp;refine⟨.inl (aT.trans bp),(NB (aR.ext aU) (.inl bn.1)).mono ?_⟩;rintro r ck _ ⟨_,aO⟩;obtain⟨_,aP,aN,bQ,bR,aQ,aB⟩:=aO aW.1;intro cl bU _;exact (aI (D':=λ_=>True) (jy aU aP) ((Grow.ext aU).trans aQ) aB bn.set (λ_ _=>trivial) λ_ _ _=>trivial).1.done bU
end
section
variable {w:x3} {ab ad an:Nat} {A R:ah} {A9:Nat->ah} {aH:ah} {n:aQ} {s u:au} {t:ay} {h:List ay} {cs:List x1} {a:gM}
theorem Oz (hk:a.kind<2):b0 n.k u a=match ds u a.i a.pos a.v with
  |none=>(u,1)
  |some (f,v,x)=>if cZ n.k a.c (if a.kind=1 then x.un.getD a.v.toNat 0 else fY n.k u f a.pos.toNat a.v)≠0 then (u,cZ n.k a.c (if a.kind=1 then x.un.getD a.v.toNat 0 else fY n.k u f a.pos.toNat a.v))
   else (iE u a.i.toNat f a.pos.toNat v.toNat x a.v (λg=>if a.kind=0 then dD n.k g a.c else dE n.k g a.c) λg=>if a.kind=0 then dE n.k g a.c else dD n.k g a.c,0):=by
 unfold b0;by_cases I:a.kind=0
 .rw[if_pos I];simp only[I];cases ds u a.i a.pos a.v<;>rfl
 .have h1:a.kind=1:=Ω
  rw[if_neg I,if_pos h1];simp only[h1];cases ds u a.i a.pos a.v<;>rfl
theorem getD_some {i:Nat} (h:i<l.length):l[i]? =σ (l.getD i 0):=by
 rw[u4,x6 h];rfl
theorem OA (p:cq w ab ad an A R A9 aH n s u t h cs) (ac:bH n.k n.sizes u) (b8:dj u) (hk:a.kind<2):aj x7 uq [Γ an,Δ (a.kind:Int),Δ a.i,Δ a.pos,Δ a.v,Δ a.c] w λr w'=>r=Δ (b0 n.k u a).2/\dt w ab ad an A R A9 aH n s t h (b0 n.k u a).1 w':=by
 have X:=Oz (n:=n) (u:=u) hk;have dh:=ac.vars;have b9:=ac.fc;refine aw func40 ?_;have ca:cs[0]? =σ (Δ n.k):=by obtain⟨_,_,_,_,_,_,rfl,_⟩:=p.oW;rfl
 rw[aM a6.p 0 p.box ca,aP,ai];refine⟨λ_=>?_,λh=>Ω⟩;rw[bQ];refine p.look.load λez cc=>?_;refine (th cc ac b8).mono ?_;rintro _ J _ ⟨a7,rfl⟩;cases bm:ds u a.i a.pos a.v with
 |none=>
  rw[bm] at X;simp only;rw[bf,bg,bu,X3,bA];exact⟨by rw[X],by rw[X];exact dt.same p a7⟩
 |some q=>
 obtain⟨f,az,x⟩:=q;rw[bm] at X;simp only;rw[bf,bg,bu,Z8,aS];obtain⟨j,pos,az,cd,cg,ch,aE,di,hu,ay,ci,bn⟩:=tr bm;have a8:=x5 aE;simp only[cd,cg,ch,u9] at X ⊢;have cj:=(x4.1 aE).1;have bK:=(x4.1 ay).1;have ck:=(x4.1 hu).1;obtain⟨cl,dk⟩:=k2 ac a8;have cm:=DN ac a8 bn;have cp:=(hd.1 ci).1;obtain⟨v,aG⟩:=W5 cp.1;have bL:=gN (v:=a.v.toNat) ac ay;have bb:=p.ext a7;have bN:∀ {V:x3} {eJ:au} {bO:List x1} {bP:Nat->ah} {f2:cJ},cq V ab ad an A R bP aH n s eJ t h bO->eJ.funs[j]? =σ f2-> ∃aJ cap aK bo y,bO[6]? =σ (.slice (σ ⟨aJ,0,ν⟩) eJ.funs.length cap)/\j<eJ.funs.length/\V.cell? ⟨aJ,0+j*4+0+0,ν⟩=σ aK/\V.cell? ⟨aJ,0+j*4+0+2,ν⟩=σ y/\aB .i64 V aK f2.sc/\aB .i64 V y f2.cs/\
   ∀ {w':x3} {m:Nat} {c:Int} {K:Unit->x3->Prop},Ext V w'->m<f2.cs.length->(∀bR,dt V ab ad an A R bP aH n s t h (dF eJ j f2 (f2.cs.set m c)) bR->K () bR)->U x7 (j5 aq y (Δ (m:Int))) w' λa=>ax x7 (o7 al a (Δ c)) w' K:=λcr bc=>by
  obtain⟨aJ,cap,aK,bo,y,ct,bS,cu,cw,aN⟩:=N9 cr bc;exact⟨aJ,cap,aK,bo,y,ct,(x4.1 bc).1,by rw[X1];exact bS 0 _ rfl,by rw[X1];exact bS 2 _ rfl,cu,cw,aN⟩
 obtain⟨aJ,dl,aK,bo,dm,cA,cB,cC,_,cD,_,_⟩:=bN bb aE;rw[aM a6.p 6 bb.box cA,fm e4.u ed.i cB λ_=>rfl,aT ed.p rfl,aT aZ.p rfl,aA (v:=aK) (o:=0+j*4+0+0) Ψ cC,ba am.u ag.i Ψ cD hu];generalize bT:(if a.kind=1 then x.un.getD a.v.toNat 0 else fY n.k u f pos a.v)=most at X;refine aR (λr V=>r=Δ most/\Ext w V) ?_ λav bU=>?_
 rotate_left
 .rw[be,ai];refine⟨λh1=>?_,λh1=>bU _ _ ⟨by rw[<-bT,if_neg Ω],a7⟩⟩;have h1:a.kind=1:=Ω
  obtain⟨bp,bV,y,bq,br,bd,_⟩:=w2 bb ay;rw[aM a6.p 5 bb.box bq,fm ec.u aq.i bK λ_=>rfl,aA (v:=y) (o:=0+az*1) Ψ (by rw[X1,U6];exact br),aG,ba aq.u al.i Ψ bd (getD_some Ω)];refine bU _ _ ⟨?_,a7⟩;rw[<-bT,if_pos h1,aG,u9]
 rintro _ V ⟨rfl,cE⟩;refine zq.mono ?_;rintro _ dn _ ⟨rfl,cF⟩;have aO:=cE.trans cF;have bW:cn a.c n.k↔0<=a.c/\a.c<=n.k:=⟨λh=>h.2,λbc=>⟨b9,bc⟩⟩;rw[bu,cz];refine⟨λaQ=>?_,λaQ=>?_⟩
 .have cG:¬cn a.c n.k:=by simpa using aQ
  have Y:cZ n.k a.c most=3:=by unfold cZ;rw[if_pos λh=>cG (bW.2 h)]
  rw[if_pos (by rw[Y];decide),Y] at X;exact⟨by rw[X],by rw[X];exact dt.same p aO⟩
 have bX:=bW.1 (show cn a.c n.k by simpa using aQ);rw[bM,ai];refine⟨λcH=>?_,λcI=>?_⟩
 .have Y:cZ n.k a.c most=7:=by unfold cZ;rw[if_neg (λh=>h bX),if_pos cH]
  rw[if_pos (by rw[Y];decide),Y] at X;exact⟨by rw[X],by rw[X];exact dt.same p aO⟩
 have Y:cZ n.k a.c most=0:=by unfold cZ;rw[if_neg (λh=>h bX),if_neg cI]
 rw[if_neg (λh=>h Y)] at X;have cK:=p.ext aO;rw[bQ];refine cK.look.load λdp cL=>?_;refine (DS cL ac aE ck bn).mono ?_;rintro aI bt _ ⟨cM,bw,cN⟩;have bY:=aO.trans cM;rw[aV am.u bw];have bZ:(k5 u f pos a.v).length=(cb u f.sc pos a.v).length:=by unfold k5;rw[u7]
 rw[bZ];obtain⟨tup,bx⟩:∃tup:Int->Int,tup=λg=>if a.kind=0 then dD n.k g a.c else dE n.k g a.c:=⟨_,rfl⟩;obtain⟨un,bz⟩:∃un:Int->Int,un=λg=>if a.kind=0 then dE n.k g a.c else dD n.k g a.c:=⟨_,rfl⟩;rw[<-bx,<-bz] at X;have cO:=p.olds.ext bY;have dq:=p.box.lt;have du:=aO.size;have cP:∀ {w':x3},ae (λr=>(∃q,A9 q r/\r<w.heap.size)\/r=an) bt w'->aB .i64 w' aI (k5 u f pos a.v):=λcQ=>hv bw cQ λr Y b n c e aQ=>by
  have:=cN r ⟨b,n,c,e,aQ⟩;rcases Y with⟨q,Y⟩|Y
  .have:=Y.2;omega
  .omega
 refine ce.range (cb u f.sc pos a.v).length (λq w'=>dt bt ab ad an A R (λq r=>A9 q r/\r<w.heap.size) aH n s t h (dF u j f (dr tup ((cb u f.sc pos a.v).take q) f.af f.cs)) w') (by rw[<-bZ];exact bw.le) ?_ ?_ ?_
 .rw[List.take_zero,DZ ac aE];exact dt.same cO (Ext.refl _)
 .rintro q aU cR cS bh cT;obtain⟨tl,bC⟩:=aF (l:=cb u f.sc pos a.v) cS;obtain⟨m,hm⟩:=te ac a8 bn (x5 bC);have cU:(k5 u f pos a.v)[q]? =σ (m:Int):=by
   unfold k5;rw[x8,bC];unfold nJ;rw[Z2,hm];rfl
  obtain⟨b1,b2⟩:=DO (g:=tup) ac aE cm bC hm;have cV:=(x4.1 (mb cl hm)).1;have dv:m<f.cs.length:=by rw[u9] at cV;omega
  obtain⟨aN,cW,b3,aD,bD⟩:=id bh;obtain⟨b7,b4⟩:∃b7,b7=dr tup ((cb u f.sc pos a.v).take q) f.af f.cs:=⟨_,rfl⟩;have dw:b7.length=f.cs.length:=by rw[b4,nF _ _ _ _ Ω]
  rw[<-b4] at aD b1 b2;have b5:(dF u j f b7).funs[j]? =σ {f with cs:=b7}:=c7 cj;obtain⟨bi,cX,dx,dy,bj,cY,c0,_,bE,_,c1,c2⟩:=bN aD b5;have c3:b7[m]? =σ (bl f.af f.cs tl):=by
   rw[getD_some Ω,<-b1];unfold bl;rw[hm];simp
  have dz:=lL (t:=tl) ac a8;have dA:b3[0]? =σ (Δ n.k):=by obtain⟨_,_,_,_,_,_,rfl,_⟩:=aD.oW;rfl
  have c4:=cP aN;refine bB Ω ?_;refine db (λak=>dt bt ab ad an A R (λq r=>A9 q r/\r<w.heap.size) aH n s t h (dF u j f (dr tup ((cb u f.sc pos a.v).take (q+1)) f.af f.cs)) ak) (λak aC=>by rw[aL];exact cT _ aC) λc5 c6=>?_;have aW:∀ {ao:x3},Ext aU ao->U x7 (j5 aq bj (Δ (m:Int))) ao λa'=>ax x7 (o7 al a' (Δ (tup (bl f.af f.cs tl)))) ao λ(_:Unit) ak=>c5 ak:=λbG=>by
   refine c2 bG (by show m<b7.length;omega) λak aC=>c6 _ (dt.comp aN bD ?_);have c8:dF (dF u j f b7) j {f with cs:=b7} (b7.set m (tup (bl f.af f.cs tl)))=kk (dF u j f b7) j m (tup (bl f.af f.cs tl)):=by unfold kk;rw[b5];rfl
   rw[c8,b2] at aC;exact aC
  have row:∀ {I:x3} {K:x1->x1->x1->x1->x1->x1->Prop},Ext aU I->K (Γ an) (.pointer (σ ⟨an,0+6,ν⟩)) (.slice (σ ⟨bi,0,ν⟩) (dF u j f b7).funs.length cX) (.pointer (σ ⟨bi,0+j*4,ν⟩)) (.pointer (σ ⟨bi,0+j*4+0,ν⟩)) (.pointer (σ ⟨bi,0+j*4+0+2,ν⟩))->
    U x7 (bF (Γ an)) I λaX=>U x7 (u6 a6 aX 6) I λaY=>U x7 (u5 e4 aY) I λa1=>U x7 (j5 e4 a1 (Δ (j:Int))) I λa2=>U x7 (u6 ed a2 0) I λbk=>U x7 (u6 aZ bk 2) I λc9=>K aX aY a1 a2 bk c9:=λay bI=>by
   rw[aM a6.p 6 (aD.box.ext ay) cY,fm e4.u ed.i c0 λ_=>rfl,aT ed.p rfl,aT aZ.p rfl];exact bI
  rw[ba am.u ag.i Ψ c4 cU];refine row (Ext.refl _) ?_;rw[aA (v:=bj) (o:=0+j*4+0+2) Ψ bE,ba aq.u al.i Ψ c1 c3,be,ai];refine⟨λbJ=>?_,λbJ=>?_⟩
  .intro I W _ _;refine row W ?_;rw[aA (v:=bj) (o:=0+j*4+0+2) Ψ (ig W bE)];refine (ti Ω Ω).mono ?_;rintro _ ao _ ⟨rfl,ap⟩;refine⟨.inl ap,?_⟩;have:=aW (W.trans ap);rw[bx] at this;simp only[if_pos (show a.kind=0 by omega)] at this;exact this
  .intro I W _ _;refine row W ?_;rw[aA (v:=bj) (o:=0+j*4+0+2) Ψ (ig W bE)];refine (oC Ω Ω).mono ?_;rintro _ ao _ ⟨rfl,ap⟩;refine⟨.inl ap,?_⟩;have:=aW (W.trans ap);rw[bx] at this;simp only[if_neg (show ¬a.kind=0 by omega)] at this;exact this
 .rintro aU cR bh;rw[o6] at bh;refine b6 Ω ?_;obtain⟨aN,cW,b3,aD,bD⟩:=id bh;have da:(dF u j f (dr tup (cb u f.sc pos a.v) f.af f.cs)).vars[az]? =σ x:=ay;obtain⟨bp,bV,y,bq,br,bd,dc⟩:=w2 aD da;refine db (λak=>dt w ab ad an A R A9 aH n s t h (iE u j f pos az x a.v tup un) ak) (λak aC=>⟨by rw[X],by rw[X];exact aC⟩) λdd de=>?_;have df:az<(dF u j f (dr tup (cb u f.sc pos a.v) f.af f.cs)).vars.length:=bK;have row:∀ {I:x3} {K:x1->x1->x1->x1->x1->Prop},Ext aU I->K (Γ an) (.pointer (σ ⟨an,0+5,ν⟩)) (.slice (σ ⟨bp,0,ν⟩) (dF u j f (dr tup (cb u f.sc pos a.v) f.af f.cs)).vars.length bV) (.pointer (σ ⟨bp,0+az*1,ν⟩)) y->
    U x7 (bF (Γ an)) I λaX=>U x7 (u6 a6 aX 5) I λaY=>U x7 (u5 ec aY) I λa1=>U x7 (j5 ec a1 (Δ (az:Int))) I λa2=>U x7 (u5 aq a2) I λbk=>K aX aY a1 a2 bk:=λay bI=>by
   rw[aM a6.p 5 (aD.box.ext ay) bq,fm ec.u aq.i df λ_=>rfl,aA (v:=y) (o:=0+az*1) Ψ (by rw[X1,U6];exact ig ay br)];exact bI
  have aW:∀ {ao:x3},Ext aU ao->U x7 (j5 aq y (Δ (v:Int))) ao λa'=>ax x7 (o7 al a' (Δ (un (x.un.getD v 0)))) ao λ(_:Unit) ak=>dd ak:=λbG=>by
   refine dc bG Ω λak aC=>de _ ?_;have dg:=dt.comp aN bD aC.DT;have:=dt.comp (A9:=A9) (w:=w) (bY.aa _) (λq r Y=>.inl ⟨q,Y.1⟩) dg;unfold iE;rw[show a.v.toNat=v by omega];exact this
  rw[be,ai];refine⟨λbJ=>?_,λbJ=>?_⟩
  .intro I W _ _;refine row W (row W ?_);rw[aG,ba aq.u al.i Ψ (bd.ext W) (getD_some Ω)];rw[aG,u9] at bL;refine (oC Ω Ω).mono ?_;rintro _ ao _ ⟨rfl,ap⟩;refine⟨.inl ap,?_⟩;have:=aW (W.trans ap);rw[bz] at this;simp only[if_pos (show a.kind=0 by omega)] at this;exact this
  .intro I W _ _;refine row W (row W ?_);rw[aG,ba aq.u al.i Ψ (bd.ext W) (getD_some Ω)];rw[aG,u9] at bL;refine (ti Ω Ω).mono ?_;rintro _ ao _ ⟨rfl,ap⟩;refine⟨.inl ap,?_⟩;have:=aW (W.trans ap);rw[bz] at this;simp only[if_neg (show ¬a.kind=0 by omega)] at this;exact this
end
section
variable {w:x3} {ab ad:Nat} {A R:ah} {n:aQ} {s:au} {t:ay} {a:gM}
theorem ev.step {V:x3} {aN:ah} {s':au} {bp:ay} (h:bJ w ab ad A R n s t) (X:Laid w) (W:¬A 0) (I:Ext w J) (Y:ae (eE J) J V) (U:Grow A J aN V) (aa:bJ V ab ad aN R n s' bp) (ac:ee bp []):ev w ab ad A R n s' V:=by
 refine⟨jy I Y,jQ U.1 W (X.ext I),aN,bp,(Grow.ext I).trans U,aa,ac,λaf=>(U.2.1 0 af).elim W λag=>?_⟩;obtain⟨ai,aj,ak,al,⟨h1,_⟩,_⟩:=h.1;have:=h.lt (.inl h1);have:=I.size;omega
theorem w5 (hk:a.kind=2):b0 n.k s a=match gw s a.i with
  |none=>(s,1)
  |some x=>if cZ n.k a.c (iF x)≠0 then (s,cZ n.k a.c (iF x)) else (kl s a.i.toNat x (λg=>dD n.k g a.c) λg=>dE n.k g a.c,0):=by
 unfold b0 gw;rw[if_neg Ω,if_neg Ω,if_pos hk];cases (if 0<=a.i then s.vars[a.i.toNat]? else ν) with
 |none=>rfl
 |some x=>
  simp only;by_cases I:x.gone=0
  .rw[if_neg Ω,if_pos I]
  .rw[if_pos I,if_neg I]
theorem w6 (hk:a.kind=3):b0 n.k s a=match gw s a.i with
  |none=>(s,1)
  |some x=>if cZ n.k a.c (if aK x=[] then-1 else s.zero)≠0 then (s,cZ n.k a.c (if aK x=[] then-1 else s.zero)) else (kl s a.i.toNat x (λg=>dE n.k g a.c) λg=>dD n.k g a.c,0):=by
 unfold b0 gw;rw[if_neg Ω,if_neg Ω,if_neg Ω,if_pos hk];cases (if 0<=a.i then s.vars[a.i.toNat]? else ν) with
 |none=>rfl
 |some x=>
  simp only;by_cases I:x.gone=0
  .rw[if_neg Ω,if_pos I]
  .rw[if_pos I,if_neg I]
theorem OB (hk:a.kind=2) (h:bJ w ab ad A R n s t) (au:Laid w) (aG:¬A 0) (aH:ee t []):aj x7 uk [Γ ab,Δ a.i,Δ a.c] w (nK w ab ad A R n s a):=by
 have ak:=h.2.2.2.1;have U:=w5 (n:=n) (s:=s) hk;refine ie func15 ?_;refine bm λg1 J bZ aZ am=>?_;refine bm λaI V b1 aJ an=>?_;have am:ac V g1 dH [Γ ab]:=ac.ext am aJ;have an:ac V aI ag [Δ a.i]:=an;have aL:=aZ.trans aJ;have b2:=aZ.size;have b3:=aJ.size;have b4:=am.lt;have b5:=an.lt;rw[aA (v:=Γ ab) Ψ (am.Qz rfl),aA (v:=Δ a.i) Ψ (an.Qz rfl)];refine (D4 (i:=a.i) (h.ext aL)).mono ?_;rintro _ b6 _ ⟨aM,rfl⟩;have bt:=aL.trans aM;have z3:=aM.size;cases af:gw s a.i with
 |none=>
  rw[af] at U;rw[if_neg Ξ,bh,ai];refine⟨λ_=>?_,λh=>absurd Φ h⟩;intro bu bw _;exact⟨by rw[U],by rw[U];exact ev.same h au aG aH (bt.trans bw)⟩
 |some x=>
 rw[af] at U;simp only at U;obtain⟨a1,I,b7⟩:=w4 af;obtain⟨u,hu⟩:=W5 a1;rw[hu,u9] at I;rw[hu,u9] at U;rw[if_pos (by rfl),bh,ai];refine⟨λh=>absurd rfl h,λ_=>?_⟩;refine bN al.i λaw b8 b9 a2 a6=>?_;refine bz al.i rfl rfl a6 (by simp[x1.cells]) λax aO ca ay=>?_;have ay:ac ax aw al [Δ (-1)]:=ay;have z5:=a2.size;have cb:=a6.lt;have aQ:=aM.trans a2;have aS:ac ax g1 dH [Γ ab]:=(am.ext aQ).aa aO Ω;have aT:ac ax aI ag [Δ a.i]:=(an.ext aQ).aa aO Ω;have az:Ext w ax:=(aL.trans aQ).then aO (by rintro r a7 rfl;omega);rw[aA (v:=Γ ab) Ψ (aS.Qz rfl),aA (v:=Δ a.i) Ψ (aT.Qz rfl)];refine (lK (i:=a.i) (h.ext az)).mono ?_;rintro _ cc _ ⟨⟨b,bx,rfl,a8⟩,ba⟩;refine (pG (b:=b) (n:=bx)).mono ?_;rintro _ bA _ ⟨bB,bb,rfl,cd,bc⟩;have bd:=oV a8 a1 (show s.vars[a.i.toNat]? =σ x by rw[hu,u9];exact I);have W:=ba.trans bB;have ce:=ba.size;have cg:=bc.lt;have ch:=ay.lt;have bi:∀j (v:Nat),(aK x)[j]? =σ (v:Int)->(((aK x).take (j+1)).map λv=>x.un.getD v.toNat 0).foldl jF (-1)=jF ((((aK x).take j).map λv=>x.un.getD v.toNat 0).foldl jF (-1)) (x.un.getD v 0):=λj v bj=>by
  rw[r8,bj,l9,c8,List.foldl_append];rfl
 refine lS.old ⟨_,false,kA,#[Γ bb],_,_,_,_,λj w'=>ae (λr=>r=aw) bA w'/\ac w' aw al [Δ ((((aK x).take j).map λv=>x.un.getD v.toNat 0).foldl jF (-1))],λ_ _ _=>False,rfl,(pF (g:=bb) a8.1).s,?_,
  λ_ _ I h=>⟨h.1.ext I,h.2.ext I⟩,λ_ _ _ I h=>⟨h.1.trans (I.aa _),h.2.ext I⟩,λ_ _ _ _ _ h=>h,⟨bc,au.ext (az.trans W)⟩,⟨ae.refl _ _,ay.ext W⟩,?_,?_,λ_ _ h=>h.elim,λ_ _ _ h=>h.elim⟩
 .rintro _ _ _ _ ⟨_,_,_,_,rfl⟩;rfl
 .rintro _ j _ bC ⟨bk,bl⟩ ⟨bj,rfl,v,bD,bE⟩ ⟨Y,aB⟩;cases bE;intro bF bn _ _;have aU:(aK x)[j]? =σ (v:Int):=by rw[<-bd,x8,bD];rfl
  have bG:=oZ ak I (x5 aU);have aV:=Y.trans (bn.aa _);have bH:Ext w bF:=(az.trans W).then aV (by rintro r a7 rfl;omega);rw[aA (v:=Γ ab) Ψ (((aS.ext W).aa aV Ω).Qz rfl),aA (v:=Δ a.i) Ψ (((aT.ext W).aa aV Ω).Qz rfl)];refine (mn (i:=a.i) (v:=(v:Int)) (h.ext bH)).mono ?_;rintro _ bI _ ⟨rfl,bK⟩;have bL:gK s a.i.toNat (v:Int).toNat=x.un.getD v 0:=by
   unfold gK;rw[hu,u9,I];rfl
  rw[if_pos (by rw[hu];exact bG),bL,bf,bg];have ao:=bn.trans bK;have ap:=aB.ext ao;refine aR (λr bM=>(r= .bool (decide ((((aK x).take j).map λv=>x.un.getD v.toNat 0).foldl jF (-1)<0\/x.un.getD v 0<(((aK x).take j).map λv=>x.un.getD v.toNat 0).foldl jF (-1))))/\bM=bI) ?_ λav aq=>?_
  .rintro _ _ ⟨rfl,rfl⟩;rw[ai];refine⟨λaC=>?_,λaD=>?_⟩
   .refine bz al.i rfl rfl ap Ξ λbO bP ci bQ=>?_;have X:ae (λr=>r=aw) bC bO:=(ao.aa _).trans bP;refine⟨⟨bk.aa X Ω,jQ X Ω bl⟩,⟨Y.trans X,?_⟩,λh=>by cases h⟩;rw[bi j v aU];unfold jF at aC ⊢;rw[if_pos aC];exact bQ
   .refine⟨⟨bk.ext ao,bl.ext ao⟩,⟨Y.trans (ao.aa _),?_⟩,λh=>by cases h⟩;rw[bi j v aU];unfold jF at aD ap ⊢;rw[if_neg aD];exact ap
  rw[aA (v:=Δ _) Ψ (ap.Qz rfl),aP,ai];refine⟨λaC=>aq _ _ ⟨by rw[decide_eq_true (Or.inl aC)],rfl⟩,λaD=>?_⟩;rw[aA (v:=Δ _) Ψ (ap.Qz rfl),aP];refine aq _ _ ⟨?_,rfl⟩;congr 1;exact decide_eq_decide.2 ⟨.inr,λh=>h.resolve_left aD⟩
 .rintro k aW rfl ⟨Y,aB⟩;rw[j6 (by rw[<-bd,u7];exact p9 _),Oy λv _=>(gN ak I).1] at aB;have bo:Ext w aW:=(az.trans W).then Y (by rintro r a7 rfl;omega);have bq:ac aW g1 dH [Γ ab]:=(aS.ext W).aa Y Ω;have bR:ac aW aI ag [Δ a.i]:=(aT.ext W).aa Y Ω;rw[aA (v:=Γ ab) Ψ (bq.Qz rfl),aA (v:=Δ (iF x)) Ψ (aB.Qz rfl)];refine (tf (h.ext bo)).mono ?_;rintro _ cj _ ⟨aX,rfl⟩;have aE:=bo.trans aX;refine db (λw'=>ev w ab ad A R n (b0 n.k s a).1 w') ?_ λav aq=>?_
  .intro w' bS ck aF _;obtain⟨bT,bU,aN,bp,bV,bW,bX⟩:=bS;refine⟨?_,bT.trans (aF.aa _),bU.ext aF,aN,bp,bV.trans (Grow.ext aF),bW.ext aF,bX⟩;rw[U];split
   .rfl
   .rename_i ah;rw[Y4.1 ah]
  rw[be,ai];refine⟨λah=>?_,λah=>aq _ ?_⟩
  .obtain⟨X,hm⟩:=mv (λh=>h ah);rw[aA (v:=Γ ab) Ψ ((bq.ext aX).Qz rfl),aA (v:=Δ a.i) Ψ ((bR.ext aX).Qz rfl),hu];refine (D5 (t:=t) (u:=u) (F1:=mO) (F2:=mP) (g:=λg=>dD n.k g a.c) (z:=λg=>dE n.k g a.c) (h.ext aE) (au.ext aE) aG aH I (λv af=>?_) ⟨my ak.zero X.1,λ{w A s' t} aY=>qw aY ak.zero X⟩).mono ?_
   .have br:=gN (v:=v.toNat) ak I;exact⟨mw br ⟨X.1,wW af hm⟩,λ{w A s t} aY=>tg aY br X (.inr (wW af hm))⟩
   .rintro _ bu _ bY;refine aq _ ?_;rw[U,if_neg (λh=>h ah)];exact bY.before aE
  .rw[U,if_pos ah];exact ev.same h au aG aH aE
theorem OC {b m:Nat} {i:Int} {x:bP} (V:sX s n i b m) (hi:0<=i) (W:s.vars[i.toNat]? =σ x):b=0↔aK x=[]:=by
 have I:=oV V hi W;constructor
 .rintro rfl;rw[<-I];have:gk 0 m=[]:=List.eq_nil_iff_forall_not_mem.2 λv J=>by
   have:=(vb.1 J).2;simp at this
  rw[this];rfl
 .intro he;rw[he] at I;have J:=List.map_eq_nil_iff.1 I;refine Nat.eq_of_testBit_eq λj=>?_;rw[Nat.zero_testBit];cases U:b.testBit j with
  |false=>rfl
  |true=>
   have X:j<m:=by
    rcases Nat.lt_or_ge j m with h|h
    .exact h
    .have:=Nat.testBit_lt_two_pow (x:=b) (i:=j) (R3 V.1.2 (T3 Ω h));rw[this] at U;cases U
   have:j∈gk b m:=vb.2 ⟨X,U⟩;rw[J] at this;cases this
theorem OD (hk:a.kind=3) (h:bJ w ab ad A R n s t) (ae:Laid w) (af:¬A 0) (ag:ee t []):aj x7 ul [Γ ab,Δ a.i,Δ a.c] w (nK w ab ad A R n s a):=by
 have ah:=h.2.2.2.1;have I:=w6 (n:=n) (s:=s) hk;refine aw func16 ?_;refine (D4 (i:=a.i) h).mono ?_;rintro _ J _ ⟨ak,rfl⟩;cases X:gw s a.i with
 |none=>
  rw[X] at I;rw[if_neg Ξ,bh,ai];exact⟨λ_=>⟨by rw[I],by rw[I];exact ev.same h ae af ag ak⟩,λh=>absurd Φ h⟩
 |some x=>
 rw[X] at I;simp only at I;obtain⟨am,Y,aH⟩:=w4 X;rw[if_pos (by rfl),bh,ai];refine⟨λh=>absurd rfl h,λ_=>?_⟩;refine (ql (h.ext ak)).mono ?_;rintro _ V _ ⟨rfl,aA⟩;have an:=ak.trans aA;refine aR (λr w'=>r=Δ (if aK x=[] then-1 else s.zero)/\Ext w w') ?_ λav W=>?_
 .rintro _ aI ⟨rfl,ao⟩;refine (tf (h.ext ao)).mono ?_;rintro _ aJ _ ⟨aB,rfl⟩;have aa:=ao.trans aB;refine db (λw'=>ev w ab ad A R n (b0 n.k s a).1 w') ?_ λav W=>?_
  .intro w' aC;refine⟨?_,aC⟩;rw[I];generalize (if aK x=[] then (-1:Int) else s.zero)=aL;split
   .rfl
   .rename_i U;rw[Y4.1 U]
  rw[be,ai];refine⟨λU=>?_,λU=>W _ ?_⟩
  .obtain⟨ac,hm⟩:=mv (λh=>h U);have ap:a.c<=s.zero:=by
    split at hm
    .omega
    .exact hm
   obtain⟨u,hu⟩:=W5 am;rw[hu,u9] at Y;rw[hu];refine (D5 (t:=t) (u:=u) (F1:=mP) (F2:=mO) (g:=λg=>dE n.k g a.c) (z:=λg=>dD n.k g a.c) (h.ext aa) (ae.ext aa) af ag Y (λv X=>?_) ⟨mw ah.zero ⟨ac.1,ap⟩,λ{w A s' t} al=>tg al ah.zero ac (.inr ap)⟩).mono ?_
   .have aq:=gN (v:=v.toNat) ah Y;exact⟨my aq ac.1,λ{w A s t} al=>qw al aq ac⟩
   .rintro _ aM _ aD;refine W _ ?_;rw[I,if_neg (λh=>h U),hu,u9];exact aD.before aa
  .rw[I,if_pos U];exact ev.same h ae af ag aa
 refine (lK (i:=a.i) (h.ext an)).mono ?_;rintro _ aN _ ⟨⟨b,aE,rfl,au⟩,aF⟩;refine (gS (b:=b) (n:=aE) au.1).mono ?_;rintro _ aO _ ⟨⟨q,rfl,ax⟩,aG⟩;have ay:=(an.trans aF).trans aG;have az:=OC au am Y;rw[be,ai];refine⟨λh=>W _ _ ⟨by rw[if_pos (az.1 (ax.1 h))],ay⟩,λh=>W _ _ ⟨by rw[if_neg λe=>h (ax.2 (az.2 e))],ay⟩⟩
theorem OE (hk:a.kind=4) (h:bJ w ab ad A R n s t) (W:Laid w) (X:¬A 0) (U:ee t []):aj x7 um [Γ ab,Δ a.i,Δ a.v] w (nK w ab ad A R n s a):=by
 have Y:=h.2.2.2.1;have I:b0 n.k s a=match dG s a.i a.v with
  |none=>(s,1)
  |some x=>if dE n.k s.zero (x.un.getD a.v.toNat 0)<n.k then (s,7) else (eU s a.i.toNat a.v.toNat,0):=by
  unfold b0;rw[if_neg Ω,if_neg Ω,if_neg Ω,if_neg Ω,if_pos hk];cases dG s a.i a.v<;>rfl
 refine aw func17 ?_;refine (wY h).mono ?_;rintro _ J _ ⟨aa,rfl⟩;cases ac:dG s a.i a.v with
 |none=>
  rw[ac] at I;rw[if_neg Ξ,bh,ai];exact⟨λ_=>⟨by rw[I],by rw[I];exact ev.same h W X U aa⟩,λh=>absurd Φ h⟩
 |some x=>
 rw[ac] at I;simp only at I;obtain⟨aC,ae,aD,am⟩:=h6 ac;rw[if_pos (by rfl),bh,ai];refine⟨λh=>absurd rfl h,λ_=>?_⟩;have ag:fy n a.i a.v:=by
  have:=oZ Y ae am;rwa [show ((a.i.toNat:Nat):Int)=a.i by omega] at this
 refine (mn (i:=a.i) (v:=a.v) (h.ext aa)).mono ?_;rintro _ V _ ⟨rfl,an⟩;have ao:gK s a.i.toNat a.v.toNat=x.un.getD a.v.toNat 0:=by
  unfold gK;rw[ae]
 rw[if_pos ag,ao,bf,bg];have ah:=aa.trans an;refine (ql (h.ext ah)).mono ?_;rintro _ aE _ ⟨rfl,ap⟩;have ak:=ah.trans ap;refine (qw (h.ext ak) Y.zero (gN Y ae)).mono ?_;rintro _ aF _ ⟨rfl,aq⟩;have al:=ak.trans aq;refine (k0 (h.ext al)).mono ?_;rintro _ aG _ ⟨rfl,au⟩;have af:=al.trans au;rw[aP,ai];refine⟨λav=>?_,λax=>?_⟩
 .rw[if_pos av] at I;exact⟨by rw[I],by rw[I];exact ev.same h W X U af⟩
 .rw[if_neg ax] at I;refine (Dp (i:=a.i) (v:=a.v) (h.ext af) (.inl U.1)).mono ?_;rintro r aH _ ⟨_,ay⟩;obtain⟨rfl,az,aN,y,aA,aB⟩:=ay ag;refine⟨by rw[I],?_⟩;rw[I];exact ev.step h W X af az aA aB U.set
theorem OF (hk:5<=a.kind) (h:bJ w ab ad A R n s t) (av:Laid w) (ay:¬A 0) (az:ee t []):aj x7 uo [Γ ab,Δ a.i,Δ a.v] w (nK w ab ad A R n s a):=by
 have aQ:=h.2.2.2.1;have W:b0 n.k s a=match dG s a.i a.v with
  |none=>(s,1)
  |some x=>(fe s a.i.toNat a.v (aK x),0):=by
  unfold b0;rw[if_neg Ω,if_neg Ω,if_neg Ω,if_neg Ω,if_neg Ω];cases dG s a.i a.v<;>rfl
 refine ie func18 ?_;refine bm λg1 J bn aB X=>?_;refine bm λaR V bo aw Y=>?_;refine bm λaS af bp an ah=>?_;have X:ac af g1 dH [Γ ab]:=(ac.ext X aw).ext an;have Y:ac af aR ag [Δ a.i]:=ac.ext Y an;have ah:ac af aS ag [Δ a.v]:=ah;have ao:=(aB.trans aw).trans an;have bq:=aB.size;have br:=aw.size;have z3:=an.size;have aT:=X.lt;have aU:=Y.lt;have aV:=ah.lt;rw[aA (v:=Γ ab) Ψ (X.Qz rfl),aA (v:=Δ a.i) Ψ (Y.Qz rfl),aA (v:=Δ a.v) Ψ (ah.Qz rfl)];refine (wY (h.ext ao)).mono ?_;rintro _ bt _ ⟨ak,rfl⟩;have aC:=ao.trans ak;have z4:=ak.size;cases ax:dG s a.i a.v with
 |none=>
  rw[ax] at W;rw[if_neg Ξ,bh,ai];refine⟨λ_=>?_,λh=>absurd Φ h⟩;intro bu aW _;exact⟨by rw[W],by rw[W];exact ev.same h av ay az (aC.trans aW)⟩
 |some x=>
 rw[ax] at W;simp only at W;obtain⟨aY,I,bw,bx⟩:=h6 ax;rw[if_pos (by rfl),bh,ai];refine⟨λh=>absurd rfl h,λ_=>?_⟩;rw[aA (v:=Γ ab) Ψ ((X.ext ak).Qz rfl),aA (v:=Δ a.i) Ψ ((Y.ext ak).Qz rfl)];refine (lK (i:=a.i) (h.ext aC)).mono ?_;rintro _ bz _ ⟨⟨b,aZ,rfl,aD⟩,aE⟩;refine (pG (b:=b) (n:=aZ)).mono ?_;rintro _ ap _ ⟨a1,aF,rfl,bA,aG⟩;have aH:=oV aD aY I;have aq:=(ak.trans aE).trans a1;have bB:=aE.size;have bC:=aq.size;have bD:=aG.lt;refine lS.old ⟨_,false,kA,#[Γ aF],_,_,_,_,λj w'=>fZ w ab ad A R n w.heap.size (λr=>ap.heap.size<=r) (fe s a.i.toNat a.v ((aK x).take j)) w'/\ae (λr=>r<w.heap.size\/ap.heap.size<=r) ap w',λ_ _ _=>False,rfl,(pF (g:=aF) aD.1).s,?_,
  λ_ _ I h=>⟨h.1.ext I,h.2.ext I⟩,λ_ _ _ I h=>⟨h.1.ext I,h.2.trans (I.aa _)⟩,λ_ _ _ _ _ h=>h,⟨aG,av.ext (ao.trans aq)⟩,⟨fZ.start h av ay az (ao.trans aq) (p9 _),ae.refl _ _⟩,?_,?_,λ_ _ h=>h.elim,λ_ _ _ h=>h.elim⟩
 .rintro _ _ _ _ ⟨_,_,_,_,rfl⟩;rfl
 .rintro _ j _ bE ⟨aI,a2⟩ ⟨bF,rfl,v,a6,a7⟩ ⟨al,am⟩;cases a7;intro a8 U _ _;have aJ:(aK x)[j]? =σ (v:Int):=by rw[<-aH,x8,a6];rfl
  have ba:fy n a.i (v:Int):=by
   have:=oZ aQ I (x5 aJ);rwa [show ((a.i.toNat:Nat):Int)=a.i by omega] at this
  have aX:∀ {g:Nat} {e:r9} {cs:List x1},w.heap.size<=g->g<af.heap.size->ac af g e cs->ac a8 g e cs:=λbb bc bd=>((bd.ext aq).aa am Ω).ext U;have au:=Ox (s:=s) (i:=a.i.toNat) (v:=a.v) aJ;obtain⟨bG,bH,be,aL,bf⟩:=al.open;rw[aA (v:=Δ a.v) Ψ ((aX Ω aV ah).Qz rfl),bh,ai];refine⟨λbg=>?_,λhe=>?_⟩
  .rw[if_pos bg] at au;rw[aA (v:=Γ ab) Ψ ((aX Ω aT X).Qz rfl),aA (v:=Δ a.i) Ψ ((aX Ω aU Y).Qz rfl)];refine (Dp (i:=a.i) (v:=(v:Int)) (be.ext U) (.inl aL.1)).mono ?_;rintro r bI _ ⟨_,bi⟩;obtain⟨rfl,bj,aN,y,bk,aM⟩:=bi ba;rw[<-au] at aM;have bK:=am.size;obtain⟨aO,aP,bL⟩:=bf (D':=λr=>ap.heap.size<=r) (jy U bj) ((Grow.ext U).trans bk) aM aL.set (λr h=>h) λr bb bc=>Ω
   exact⟨⟨aI.aa aP Ω,aO.2.1.1⟩,⟨aO,am.trans aP⟩,λh=>by cases h⟩
  .rw[if_neg he] at au;exact⟨⟨aI.ext U,a2.ext U⟩,⟨by rw[au];exact al.ext U,am.trans (U.aa _)⟩,λh=>by cases h⟩
 .rintro k bM rfl ⟨al,am⟩;rw[j6 (by rw[<-aH,u7];exact p9 _)] at al;intro bN bl _;exact⟨by rw[W],by rw[W];exact al.done bl⟩
end
theorem OG {V:x1} (h:aB .i64 w V l) (au:l.length<=1000000):aj x7 F3 [V,Δ v] w λr w'=>Ext w w'/\(∃g,ap .i64 ag w' g r (l.filter λy=>!decide (y=v)))/\ ∀q,leads r q->w.heap.size<=q:=by
 refine aw func110 ?_;rw[aV am.u h];refine bU.range l.length (λi out J=>Ext w J/\(∃g,ap .i64 ag J g out ((l.take i).filter λy=>!decide (y=v)))/\ ∀r,leads out r->w.heap.size<=r) h.le ⟨Ext.refl _,⟨0,ap.nil _ _ _ _⟩,λr ac=>by obtain⟨_,_,_,e,_⟩:=ac;cases e⟩ ?_ ?_
 .rintro q out J ad ae ⟨I,⟨g,hm⟩,U⟩ af;obtain⟨y,W⟩:=aF (l:=l) ae;have X:(l.take (q+1)).filter (λy=>!decide (y=v))=(l.take q).filter (λy=>!decide (y=v))++(if y≠v then[y] else[]):=by
   rw[r8,W,l9,List.filter_append];congr 1;by_cases aC:y=v<;>simp[aC]
  refine bB Ω ?_;refine aR (λY aa=>Ext w aa/\(∃g,ap .i64 ag aa g Y ((l.take (q+1)).filter λy=>!decide (y=v)))/\ ∀r,leads Y r->w.heap.size<=r) (λ_ _ ah=>by rw[aL];exact af _ _ ah) λav ab=>?_;rw[ba am.u ag.i Ψ (h.ext I) W,bh,ai];refine⟨λak=>?_,λhe=>ab _ _ ⟨I,⟨g,by rw[X,if_neg he,U5];exact hm⟩,U⟩⟩;refine DP (w0:=w) I hm U ?_ λax w' al an ao aq=>ab _ _ ⟨an,⟨al,by rw[X,if_pos ak];exact ao⟩,aq⟩;have h1:=List.length_filter_le (λy=>!decide (y=v)) (l.take q);rw[j0] at h1;omega
 .rintro out J ad ⟨I,hm,U⟩;rw[o6] at hm;refine b6 Ω ?_;exact⟨I,hm,U⟩
theorem ts {i:Nat} {v:Int}:∀ (L:Λ) (s:au) (x:bP),s.vars[i]? =σ x->(∀y∈L,0<=y)-> ∃m,fe s i v L={s with vars:=s.vars.set i {x with mask:=m}}/\aK {x with mask:=m}=(aK x).filter λy=>!(decide (y∈L)&& !decide (y=v))
 |[],s,x,J,_=>by
  refine⟨x.mask,?_,(List.filter_eq_self.2 λy _=>Ξ).symm⟩;have:s.vars.set i x=s.vars:=by
   apply Y8;intro q;by_cases e:i=q
   .subst e;rw[c7 (x4.1 J).1,J]
   .rw[Y5 e]
  show s={s with vars:=s.vars.set i x};rw[this]
 |w::L,s,x,J,U=>by
  have hw:=U w (.head _);have X:=(x4.1 J).1;rw[fe];by_cases e:w≠v
  .rw[if_pos e];have W:eU s i w.toNat={s with vars:=s.vars.set i {x with mask:=((x.mask.toNat ||| 2 ^ w.toNat:Nat):Int)}}:=by unfold eU;rw[J]
   obtain⟨m,h1,V⟩:=ts L (eU s i w.toNat) {x with mask:=((x.mask.toNat ||| 2 ^ w.toNat:Nat):Int)} (by rw[W];exact c7 X) λy I=>U y (.tail _ I);refine⟨m,?_,?_⟩
   .rw[h1,W];simp only[List.set_set]
   .rw[V,DI hw,List.filter_filter];refine List.filter_congr λy _=>?_;by_cases I:y=w
    .subst I;simp[e]
    .simp[I]
  .rw[if_neg e];obtain⟨m,h1,V⟩:=ts L s x J λy I=>U y (.tail _ I);refine⟨m,h1,?_⟩;rw[V];have e:=Y4.1 e;refine List.filter_congr λy _=>?_;by_cases I:y=v
   .simp[I]
   .have:y≠w:=λh=>I (h.trans e);simp[I,this]
theorem filter_one (U:l.Nodup) (I:v∈l):l.filter (λy=>decide (y=v))=[v]:=by
 induction l with
 |nil=>cases I
 |cons a l V=>
  have J:=List.nodup_cons.1 U;by_cases e:a=v
  .subst e;rw[List.filter_cons_of_pos Ξ,List.filter_eq_nil_iff.2 λx W=>by simp;intro X;exact J.1 (X▸W)]
  .rw[List.filter_cons_of_neg (by simpa using e)];exact V J.2 ((V0.1 I).resolve_left (Ne.symm e))
def je (u:au) (a:gM):Option bP:=if 3<a.kind then dG u a.i a.v else gw u a.i
section
variable {w:x3} {ab ad an:Nat} {A R:ah} {A9:Nat->ah} {aH:ah} {n:aQ} {s u:au} {t:ay} {h:List ay} {cs:List x1} {a:gM}
theorem D6 {x:bP} (h:je u a=σ x):0<=a.i/\u.vars[a.i.toNat]? =σ x/\x.gone=0/\(3<a.kind->a.v∈aK x):=by
 unfold je at h;split at h
 .obtain⟨h1,I,J,U⟩:=h6 h;exact⟨h1,I,J,λ_=>U⟩
 .rename_i hk;obtain⟨h1,I,J⟩:=w4 h;exact⟨h1,I,J,λh=>absurd h hk⟩
theorem OH (h:¬(0<=a.i/\a.i<u.vars.length)):je u a=ν:=by
 cases he:je u a with
 |none=>rfl
 |some x=>
  obtain⟨h1,I,_⟩:=D6 he;exact absurd ⟨h1,by have:=(x4.1 I).1;omega⟩ h
theorem OI {x:bP} (I:0<=a.i) (J:u.vars[a.i.toNat]? =σ x):je u a=if x.gone=0/\(3<a.kind->a.v∈aK x) then σ x else ν:=by
 unfold je;by_cases hk:3<a.kind
 .rw[if_pos hk];unfold dG;rw[if_pos I,J];simp only[hk,true_implies]
 .rw[if_neg hk];unfold gw;rw[if_pos I,J];simp only[hk,false_implies,and_true]
theorem OJ (hk:2<=a.kind/\a.kind<=5) (h:je u a=ν):b0 n.k u a=(u,1):=by
 unfold je at h;by_cases I:3<a.kind
 .rw[if_pos I] at h;unfold b0;rw[if_neg Ω,if_neg Ω,if_neg Ω,if_neg Ω,h];split<;>rfl
 .rw[if_neg I] at h;by_cases J:a.kind=2
  .rw[w5 J,h]
  .rw[w6 Ω,h]
theorem D7 {x:bP} (X:0<=c):iF x<c↔aK x=[]\/ ∃v∈aK x,x.un.getD v.toNat 0<c:=by
 unfold iF;constructor
 .intro h;cases J:aK x with
  |nil=>exact .inl rfl
  |cons b l=>
   refine .inr ?_;rw[J] at h;simp only[U4] at h;by_cases U:∀v∈b::l,c<=x.un.getD v.toNat 0
   .have:=(oY (l.map λv=>x.un.getD v.toNat 0) (x.un.getD b.toNat 0) c).2 ⟨U b (.head _),λy V=>by obtain⟨v,I,rfl⟩:=o8.1 V;exact U v (.tail _ I)⟩;omega
   .simp only[Classical.not_forall] at U;obtain⟨v,I,Y⟩:=U;exact⟨v,I,Ω⟩
 .rintro (h|⟨v,I,aa⟩)
  .rw[h];show (-1:Int)<c;omega
  .cases J:aK x with
   |nil=>rw[J] at I;cases I
   |cons b l=>
    rw[J] at I;simp only[U4];rcases Int.lt_or_le ((l.map λv=>x.un.getD v.toNat 0).foldl min (x.un.getD b.toNat 0)) c with aC|aC
    .exact aC
    .obtain⟨ab,W⟩:=(oY _ _ _).1 aC;rcases V0.1 I with rfl|I
     .omega
     .have:=W _ (o8.2 ⟨v,I,rfl⟩);omega
def w7 (n:aQ) (u:au) (x:bP) (a:gM):Prop:=aK x=[]\/(a.kind=3/\u.zero<a.c)\/(a.kind=2/\ ∃v∈aK x,x.un.getD v.toNat 0<a.c)
theorem OK {x:bP} (hk:a.kind=2\/a.kind=3) (h:je u a=σ x):(¬(0<=a.c/\a.c<=n.k)->b0 n.k u a=(u,3))/\((0<=a.c/\a.c<=n.k)->w7 n u x a->b0 n.k u a=(u,7))/\
  ((0<=a.c/\a.c<=n.k)->¬w7 n u x a->b0 n.k u a=(kl u a.i.toNat x (λg=>if a.kind=2 then dD n.k g a.c else dE n.k g a.c) (λg=>if a.kind=2 then dE n.k g a.c else dD n.k g a.c),0)/\(a.kind=2-> ∀v∈aK x,a.c<=x.un.getD v.toNat 0)/\(a.kind=3->a.c<=u.zero)):=by
 have X:gw u a.i=σ x:=by unfold je at h;rwa [if_neg Ω] at h
 rcases hk with hk|hk
 .have I:=w5 (n:=n) (s:=u) hk;rw[X] at I;simp only at I;simp only[hk];refine⟨λJ=>?_,λJ hi=>?_,λJ hi=>?_⟩
  .have U:∀m,cZ n.k a.c m=3:=λm=>by unfold cZ;rw[if_pos J]
   rw[U,if_pos Φ] at I;exact I
  .have V:iF x<a.c:=(D7 J.1).2 (hi.elim .inl λh=>h.elim (λh=>Ω) λh=>.inr h.2);have U:∀m,m<a.c->cZ n.k a.c m=7:=λm hm=>by unfold cZ;rw[if_neg (λh=>h J),if_pos hm]
   rw[U _ V,if_pos Φ] at I;exact I
  .have V:¬iF x<a.c:=λh=>hi (((D7 J.1).1 h).elim .inl λh=>.inr (.inr ⟨hk,h⟩));have U:cZ n.k a.c (iF x)=0:=by unfold cZ;rw[if_neg (λh=>h J),if_neg V]
   rw[U,if_neg Φ] at I;refine⟨by rw[I];simp,λ_ v X=>?_,λh=>absurd h Φ⟩;rcases Int.lt_or_le (x.un.getD v.toNat 0) a.c with aC|aC
   .exact absurd (.inr (.inr ⟨hk,v,X,aC⟩)) hi
   .exact aC
 .have I:=w6 (n:=n) (s:=u) hk;rw[X] at I;simp only at I;simp only[hk];refine⟨λJ=>?_,λJ hi=>?_,λJ hi=>?_⟩
  .have U:∀m,cZ n.k a.c m=3:=λm=>by unfold cZ;rw[if_pos J]
   rw[U,if_pos Φ] at I;exact I
  .have V:(if aK x=[] then-1 else u.zero)<a.c:=by
    by_cases W:aK x=[]
    .rw[if_pos W];omega
    .rw[if_neg W];rcases hi with hi|hi|hi
     .exact absurd hi W
     .exact hi.2
     .omega
   have U:∀m,m<a.c->cZ n.k a.c m=7:=λm hm=>by unfold cZ;rw[if_neg (λh=>h J),if_pos hm]
   rw[U _ V,if_pos Φ] at I;exact I
  .have W:¬aK x=[]:=λh=>hi (.inl h);have Y:¬u.zero<a.c:=λh=>hi (.inr (.inl ⟨hk,h⟩));have U:cZ n.k a.c u.zero=0:=by unfold cZ;rw[if_neg (λh=>h J),if_neg Y]
   rw[if_neg W,U,if_neg Φ] at I;exact⟨by rw[I];simp,λh=>absurd h Φ,λ_=>Ω⟩
end
section
variable {w:x3} {ab ad an:Nat} {A R:ah} {A9:Nat->ah} {aH:ah} {n:aQ} {s u:au} {t:ay} {h:List ay} {cs:List x1} {a:gM}
theorem OL (p:cq w ab ad an A R A9 aH n s u t h cs) (aZ:bH n.k n.sizes u) (hk:2<=a.kind/\a.kind<=5):aj x7 uq [Γ an,Δ (a.kind:Int),Δ a.i,Δ a.pos,Δ a.v,Δ a.c] w λr w'=>r=Δ (b0 n.k u a).2/\dt w ab ad an A R A9 aH n s t h (b0 n.k u a).1 w':=by
 have cM:=aZ.vars;have cN:=aZ.fc;refine aw func40 ?_;have b8:cs[0]? =σ (Δ n.k):=by obtain⟨_,_,_,_,_,_,rfl,_⟩:=p.oW;rfl
 rw[aM a6.p 0 p.box b8,aP,ai];refine⟨λh=>Ω,λ_=>?_⟩;refine aR (λr w'=>r= .bool (!(je u a).isSome)/\Ext w w') ?_ λav bp=>?_
 rotate_left
 .rw[bQ];refine p.look.load λez cP=>?_;refine (wT (i:=a.i) cP).mono ?_;rintro _ J _ ⟨rfl,aO⟩;rw[bu,cz];refine⟨λaE=>bp _ _ ⟨by rw[OH (λh=>by rw[cM] at h;rw[decide_eq_true h] at aE;cases aE)];rfl,aO⟩,λaE=>?_⟩;have bq:0<=a.i/\a.i<n.sizes.length:=by simpa using aE
  obtain⟨x,ao⟩:=aF (l:=u.vars) (i:=a.i.toNat) Ω;have bK:=OI bq.1 ao;obtain⟨szv,cQ,dF,bj,dH,bL,b9,_,_,cR,cS,dI,dJ,dK⟩:=(p.look).ext aO;rw[aM a6.p 4 b9 rfl];refine hq (α:=Bool) (a:=decide (x.gone≠0)) (i:=a.i.toNat) rfl Ω jP.u eW.i Ψ cS (by rw[x8,ao];rfl) λca bN=>?_;have bN:[ca]=[x1.bool (decide (x.gone≠0))]:=bN;obtain rfl:ca=x1.bool (decide (x.gone≠0)):=by simpa using bN
  rw[ai];refine⟨λaG=>bp _ _ ⟨by rw[bK,if_neg λh=>aG h.1];rfl,aO⟩,λaG=>?_⟩;have aG:=Y4.1 aG;rw[bM,ai];refine⟨λbO=>?_,λbO=>bp _ _ ⟨by rw[bK,if_pos ⟨aG,λh=>absurd h Ω⟩];rfl,aO⟩⟩;rw[aM a6.p 3 b9 rfl];refine hq (α:=Λ) (a:=aK x) (i:=a.i.toNat) rfl Ω cO.u am.i Ψ cR (by rw[x8,ao];rfl) λdL cT=>?_;refine (sZ (dp cT)).mono ?_;rintro _ V _ ⟨rfl,ap⟩;rw[bu];refine bp _ _ ⟨?_,aO.trans ap⟩;rw[bK];by_cases ak:a.v∈aK x
  .rw[if_pos ⟨aG,λ_=>ak⟩,decide_eq_true ak];rfl
  .rw[if_neg λh=>ak (h.2 Ω),decide_eq_false ak];rfl
 rintro _ J ⟨rfl,aO⟩;cases hm:je u a with
 |none=>
  have I:=OJ (n:=n) hk hm;rw[S0,X3,bA];exact⟨by rw[I],by rw[I];exact dt.same p aO⟩
 |some x=>
 rw[T9,Z8,aS];obtain⟨cU,ao,dM,cV⟩:=D6 hm;obtain⟨X,bc⟩:=W5 cU;rw[bc,u9] at ao;have bS:=(x4.1 ao).1;have af:∀y∈aK x,0<=y/\y<x.un.length:=λy aD=>(hd.1 aD).1;simp only[bc];have cb:∀v:Nat,0<=x.un.getD v 0/\x.un.getD v 0<=n.k:=λv=>gN aZ ao;have az:=p.ext aO;have dN:cs[0]? =σ (Δ n.k):=b8;have bT:∀ {V:x3} {eJ:au} {cc:List x1} {bV:Nat->ah} {bd:bP},cq V ab ad an A R bV aH n s eJ t h cc->eJ.vars[X]? =σ bd-> ∃bj a1 y,aB .i64 V y bd.un/\(∀ {W:x3} {K:x1->x1->x1->x1->x1->Prop},Ext V W->K (Γ an) (.pointer (σ ⟨an,0+5,ν⟩)) bj (.pointer (σ ⟨a1,0+X*1,ν⟩)) y->
    U x7 (bF (Γ an)) W λa2=>U x7 (u6 a6 a2 5) W λa7=>U x7 (u5 ec a7) W λbf=>U x7 (j5 ec bf (Δ (X:Int))) W λbr=>U x7 (u5 aq br) W λcW=>K a2 a7 bf br cW)/\
   ∀ {w':x3} {v:Nat} {c:Int} {K:Unit->x3->Prop},Ext V w'->v<bd.un.length->(∀cd,jc V ab ad an A R bV aH n s t h (eu eJ X bd (bd.un.set v c)) cd->K () cd)->U x7 (j5 aq y (Δ (v:Int))) w' λa=>ax x7 (o7 al a (Δ c)) w' K:=λ{V eJ cc bV bd} cg Y=>by
  obtain⟨a1,cX,y,cY,cZ,aW,bW⟩:=w2 cg Y;have c0:=(x4.1 Y).1;refine⟨.slice (σ ⟨a1,0,ν⟩) eJ.vars.length cX,a1,y,aW,λ{W K} a8 bk=>?_,bW⟩;rw[aM a6.p 5 (cg.box.ext a8) cY,fm ec.u aq.i c0 λ_=>rfl,aA (v:=y) (o:=0+X*1) Ψ (by rw[X1,U6];exact ig a8 cZ)];exact bk
 obtain⟨c1,c2,bt,ch,c3,aX,c4,ci⟩:=Ob az ao;have cj:∀ {W:x3} {K:x1->x1->x1->Prop},Ext J W->K (Γ an) (.pointer (σ ⟨an,0+3,ν⟩)) (.slice (σ ⟨c1,0,ν⟩) u.vars.length c2)->
   U x7 (bF (Γ an)) W λa2=>U x7 (u6 a6 a2 3) W λa7=>U x7 (u5 cO a7) W λbf=>K a2 a7 bf:=λa8 bk=>by
  rw[aM a6.p 3 (az.box.ext a8) ch];exact bk
 have oX:∀ {W:x3} {K:x1->Prop},Ext J W->K bt->
   U x7 (bF (Γ an)) W λa2=>U x7 (u6 a6 a2 3) W λa7=>U x7 (u5 cO a7) W λbf=>U x7 (j5 cO bf (Δ (X:Int))) W λbr=>U x7 (u5 am br) W K:=λa8 bk=>by
  rw[aM a6.p 3 (az.box.ext a8) ch,fm cO.u am.i bS λ_=>rfl,aA (v:=bt) (o:=0+X*1) Ψ (by rw[X1,U6];exact ig a8 c3)];exact bk
 have low:∀ {u':au} {w':x3},dt J ab ad an A R A9 aH n s t h u' w'->dt w ab ad an A R A9 aH n s t h u' w':=λbw=>dt.comp (aO.aa _) (λq r af=>.inl ⟨q,af⟩) bw;refine aR (λ_ w'=>dt w ab ad an A R A9 aH n s t h (b0 n.k u a).1 w'/\(b0 n.k u a).2=0) (λ_ w' bw=>⟨by rw[bw.2],bw.1⟩) λc5 bX=>?_;refine aR (λr w'=>r= .bool (decide (a.kind=2\/a.kind=3))/\J=w') ?_ λdO ck=>?_
 rotate_left
 .rw[be,ai];refine⟨λY=>ck _ _ ⟨?_,rfl⟩,λY=>?_⟩
  .congr 1;exact decide_eq_decide.2 ⟨λ_=>.inl Ω,λ_=>Y⟩
  .rw[be];refine ck _ _ ⟨?_,rfl⟩;congr 1;exact decide_eq_decide.2 ⟨λh=>.inr Ω,λh=>Ω⟩
 rintro _ _ ⟨rfl,rfl⟩;rw[ai];refine⟨λc6=>?_,λdP=>?_⟩
 .
  obtain⟨c8,bx,bY⟩:=OK (n:=n) c6 hm;refine zq.mono ?_;rintro _ V _ ⟨rfl,ap⟩;have dQ:=ap;have cl:cn a.c n.k↔0<=a.c/\a.c<=n.k:=⟨λh=>h.2,λY=>⟨cN,Y⟩⟩;rw[bu,cz];refine⟨λaE=>?_,λaE=>?_⟩
  .have I:=c8 λh=>absurd (cl.2 h) (by simpa using aE);exact⟨by rw[I],by rw[I];exact low (dt.same az ap)⟩
  have bq:=cl.1 (show cn a.c n.k by simpa using aE);have bx:=bx bq;have bY:=bY bq;refine aR (λr w'=>Ext J w'/\ ∃b,r= .bool b/\(b=true↔aK x=[]\/(a.kind=3/\u.zero<a.c))) ?_ λdR bZ=>?_
  rotate_left
  .refine oX ap ?_;rw[aV am.u (aX.ext ap),be,ai];refine⟨λhe=>bZ _ _ ⟨ap,true,rfl,⟨λ_=>.inl (j9 Ω),λ_=>rfl⟩⟩,λbz=>?_⟩;have bz:aK x≠[]:=λh=>bz (by rw[h];rfl);rw[be,ai];refine⟨λbO=>?_,λbO=>bZ _ _ ⟨ap,false,rfl,⟨(λh=>by cases h),λh=>h.elim (λh=>absurd h bz) λh=>Ω⟩⟩⟩;have b1:cs[2]? =σ (Δ u.zero):=by obtain⟨_,_,_,_,_,_,rfl,_⟩:=p.oW;rfl
   rw[aM a6.p 2 (az.box.ext ap) b1,bM];exact bZ _ _ ⟨ap,_,rfl,by rw[decide_eq_true_eq];exact⟨λh=>.inr ⟨Ω,h⟩,λh=>h.elim (λh=>absurd h bz) λh=>h.2⟩⟩
  rintro _ c9 ⟨bg,b,rfl,cm⟩;rw[cz];refine⟨λda=>?_,λcp=>?_⟩
  .have I:=bx ((cm.1 da).elim .inl λh=>.inr (.inl h));exact⟨by rw[I],by rw[I];exact low (dt.same az bg)⟩
  have cr:¬(aK x=[]\/(a.kind=3/\u.zero<a.c)):=λh=>by rw[cm.2 h] at cp;cases cp
  refine oX bg ?_;rw[aV am.u (aX.ext bg)];refine bU.range (aK x).length (λq _ w'=>Ext J w'/\(a.kind=2-> ∀v∈(aK x).take q,a.c<=x.un.getD v.toNat 0)) aX.le ⟨bg,λ_ v ak=>by simp at ak⟩ ?_ ?_
  .rintro q ct bb dc b2 ⟨ay,bC⟩ dd;obtain⟨v,ak⟩:=aF (l:=aK x) b2;have aY:=x5 ak;have bD:=af v aY;obtain⟨ac,rfl⟩:=W5 bD.1;refine bB Ω ?_;rw[ba am.u ag.i Ψ (aX.ext ay) ak];refine aR (λr w'=>bb=w'/\r= .bool (decide (a.kind=2/\x.un.getD ac 0<a.c))) ?_ λdS cu=>?_
   .rintro _ _ ⟨rfl,rfl⟩;rw[ai];refine⟨λbl=>?_,λb3=>?_⟩
    .have I:=bx (.inr (.inr ⟨bl.1,_,aY,bl.2⟩));exact⟨by rw[I],by rw[I];exact low (dt.same az ay)⟩
    .rw[aL];refine dd _ _ ⟨ay,λY y aD=>?_⟩;rw[r8,ak,l9,l7,n9] at aD;rcases aD with aD|rfl
     .exact bC Y y aD
     .rcases Int.lt_or_le (x.un.getD ac 0) a.c with aC|aC
      .exact absurd ⟨Y,aC⟩ b3
      .exact aC
   rw[be,ai];refine⟨λY=>?_,λY=>cu _ _ ⟨rfl,by rw[decide_eq_false λh=>Y Ω]⟩⟩;obtain⟨bj,a1,y,aW,look,_⟩:=bT (az.ext ay) ao;refine look (Ext.refl _) ?_;rw[ba aq.u al.i Ψ aW (getD_some (i:=ac) Ω),bM];refine cu _ _ ⟨rfl,?_⟩;congr 1;exact decide_eq_decide.2 ⟨λh=>⟨Ω,h⟩,λh=>h.2⟩
  rintro ct bb dc ⟨ay,bC⟩;rw[o6] at bC;have de:¬w7 n u x a:=λhi=>hi.elim (λh=>cr (.inl h)) λh=>h.elim (λh=>cr (.inr h)) λ⟨Y,v,ak,bl⟩=>by have:=bC Y v ak;omega
  obtain⟨I,dT,dU⟩:=bY de;rw[bc,u9] at I;refine b6 Ω ?_;refine oX ay ?_;rw[aV am.u (aX.ext ay)];obtain⟨g,aG⟩:∃g:Int->Int,g=λg=>if a.kind=2 then dD n.k g a.c else dE n.k g a.c:=⟨_,rfl⟩;obtain⟨z,b4⟩:∃z:Int->Int,z=λg=>if a.kind=2 then dE n.k g a.c else dD n.k g a.c:=⟨_,rfl⟩;rw[<-aG,<-b4] at I;have df:=az.ext ay;have dg:=aX.ext ay;have cw:=qu x;obtain⟨cA,dV⟩:∃cA,bt=cA:=⟨_,rfl⟩;have dh:eu u X x (dX g x.un ((aK x).take 0))=u:=by
   unfold eu;show {u with vars:=u.vars.set X x}=u;have:u.vars.set X x=u.vars:=by
    apply Y8;intro i;by_cases e:X=i
    .subst e;rw[c7 bS,ao]
    .rw[Y5 e]
   rw[this]
  have di:∀ {w':x3},ae (A9 2) bb w'->aB .i64 w' bt (aK x):=λdj=>hv dg dj λr af b n c e aE=>az.gi.1 0 2 r Φ (c4 r ⟨b,n,c,e,aE⟩) af;refine ce.range (aK x).length (λq w'=>jc bb ab ad an A R A9 aH n s t h (eu u X x (dX g x.un ((aK x).take q))) w') aX.le (by rw[dh];exact jc.same df (Ext.refl _)) ?_ ?_
  .rintro q bE dk b2 bh dl;obtain⟨bG,cB,cC,bi,b5,dm⟩:=id bh;obtain⟨v,ak⟩:=aF (l:=aK x) b2;have aY:=x5 ak;have bD:=af v aY;obtain⟨ac,rfl⟩:=W5 bD.1;have bI:(eu u X x (dX g x.un ((aK x).take q))).vars[X]? =σ {x with un:=dX g x.un ((aK x).take q)}:=c7 bS;have dW:(dX g x.un ((aK x).take q)).length=x.un.length:=s9 _ _;have b7:=ta (g:=g) ((aK x).take q) x.un (ac:Int) (cw.sublist (List.take_sublist _ _)) (λy aD=>af y (S8 aD)) Ω;rw[if_neg (wX cw ak),u9] at b7;have dn:=cb ac;obtain⟨bj,a1,y,aW,look,bW⟩:=bT bi bI;refine bB Ω ?_;refine db (λaI=>jc bb ab ad an A R A9 aH n s t h (eu u X x (dX g x.un ((aK x).take (q+1)))) aI) (λaI aJ=>by rw[aL];exact dl _ aJ) λdq dr=>?_;have bm:∀ {aN:x3},Ext bE aN->U x7 (j5 aq y (Δ (ac:Int))) aN λa'=>ax x7 (o7 al a' (Δ (g (x.un.getD ac 0)))) aN λ(_:Unit) aI=>dq aI:=λbJ=>by
    refine bW bJ (by show ac<(dX g x.un ((aK x).take q)).length;omega) λaI aJ=>dr _ (jc.comp bG b5 dm ?_);have e:eu (eu u X x (dX g x.un ((aK x).take q))) X {x with un:=dX g x.un ((aK x).take q)} ((dX g x.un ((aK x).take q)).set ac (g (x.un.getD ac 0)))=eu u X x (dX g x.un ((aK x).take (q+1))):=by
     rw[D1 ak,u9,b7];unfold eu;simp only[List.set_set]
    rw[e] at aJ;exact aJ
   have cD:(dX g x.un ((aK x).take q))[ac]? =σ (x.un.getD ac 0):=by rw[getD_some Ω,b7]
   rw[ba am.u ag.i Ψ (di bG) ak,be,ai];refine⟨λY=>?_,λY=>?_⟩
   .intro W aQ _ _;refine look aQ (look aQ ?_);rw[ba aq.u al.i Ψ (aW.ext aQ) cD];refine (ti Ω Ω).mono ?_;rintro _ aN _ ⟨rfl,aU⟩;refine⟨.inl aU,?_⟩;have:=bm (aQ.trans aU);rw[aG] at this;simp only[if_pos (show a.kind=2 by omega)] at this;exact this
   .intro W aQ _ _;refine look aQ (look aQ ?_);rw[ba aq.u al.i Ψ (aW.ext aQ) cD];refine (oC Ω Ω).mono ?_;rintro _ aN _ ⟨rfl,aU⟩;refine⟨.inl aU,?_⟩;have:=bm (aQ.trans aU);rw[aG] at this;simp only[if_neg (show ¬a.kind=2 by omega)] at this;exact this
  .rintro bE dk bh;rw[o6] at bh;refine b6 Ω ?_;have bh:=bh.DT;obtain⟨bG,cB,cC,bi,b5⟩:=id bh;have cE:cC[2]? =σ (Δ u.zero):=by obtain⟨_,_,_,_,_,_,rfl,_⟩:=bi.oW;rfl
   have ds:=aZ.zero;have bm:∀ {aN:x3},Ext bE aN->ax x7 (o7 al (.pointer (σ ⟨an,0+2,ν⟩)) (Δ (z u.zero))) aN λ(_:Unit) aI=>c5 ct aI:=λbJ=>by
    refine Oa (bi.ext bJ) λaI aJ=>bX _ _ ⟨?_,by rw[I]⟩;rw[I];have cF:=dt.comp (A9:=cB) (bJ.aa _) (λq r af=>.inl ⟨q,af⟩) aJ;have bn:=dt.comp bG b5 cF;exact low (dt.comp (ay.aa _) (λq r af=>.inl ⟨q,af⟩) bn)
   rw[be,ai];refine⟨λY=>?_,λY=>?_⟩
   .rw[aM a6.p 2 bi.box cE];refine (oC Ω Ω).mono ?_;rintro _ aN _ ⟨rfl,aU⟩;rw[bQ,aT a6.p rfl];have:=bm aU;rw[b4] at this;simp only[if_pos (show a.kind=2 by omega)] at this;exact this
   .rw[aM a6.p 2 bi.box cE];refine (ti Ω Ω).mono ?_;rintro _ aN _ ⟨rfl,aU⟩;rw[bQ,aT a6.p rfl];have:=bm aU;rw[b4] at this;simp only[if_neg (show ¬a.kind=2 by omega)] at this;exact this
 .
  have cG:3<a.kind:=Ω
  have aY:=cV cG;obtain⟨ac,bL⟩:=W5 (af _ aY).1;have bD:=(af _ aY).2;have cH:dG u a.i a.v=σ x:=by unfold je at hm;rwa [if_pos cG] at hm
  rw[be,ai];refine⟨λbn=>?_,λbn=>?_⟩
  .have bn:a.kind=4:=Ω
   have I:b0 n.k u a=if dE n.k u.zero (x.un.getD a.v.toNat 0)<n.k then (u,7) else (eU u a.i.toNat a.v.toNat,0):=by
    unfold b0;rw[if_neg Ω,if_neg Ω,if_neg Ω,if_neg Ω,if_pos bn,cH]
   have ds:=aZ.zero;have dn:=cb ac;intro V ap _ _;have b1:cs[2]? =σ (Δ u.zero):=by obtain⟨_,_,_,_,_,_,rfl,_⟩:=p.oW;rfl
   obtain⟨bj,a1,y,aW,look,_⟩:=bT (az.ext ap) ao;rw[aM a6.p 2 (az.box.ext ap) b1];refine look (Ext.refl _) ?_;rw[bL,ba aq.u al.i Ψ aW (getD_some (i:=ac) Ω)];refine (oC Ω Ω).mono ?_;rintro _ c9 _ ⟨rfl,bg⟩;have cI:=ap.trans bg;rw[bL,u9] at I;unfold dE at I;rw[aP,ai];refine⟨λbl=>?_,λb3=>?_⟩
   .rw[if_pos bl] at I;exact⟨by rw[I],by rw[I];exact low (dt.same az cI)⟩
   .rw[if_neg b3] at I;intro bb ay _ _;have bo:=cI.trans ay;refine cj bo ?_;refine oX bo ?_;have dY:=DQ x;have du:=aZ.gp.2.2;refine (OG (v:=(ac:Int)) (aX.ext bo) (by
     obtain⟨cJ,cK⟩:=aF (l:=n.sizes) (i:=X) Ω;have h1:=(aZ.var X x cJ ao cK).1;have Y:=du cJ (x5 cK);omega)).mono ?_
    rintro cQ bE _ ⟨bI,⟨gz,dv⟩,dw⟩;refine⟨.inl bI,?_⟩;have dx:=bo.trans bI;have dZ:=bo.size;refine ci (m:=((x.mask.toNat ||| 2 ^ ac:Nat):Int)) dx (gz:=gz) (by rw[show ac=(ac:Int).toNat from rfl,DI Ω];exact dv) (λr af=>by have:=dw r af;omega) λaI aJ=>bX _ _ ⟨?_,by rw[I]⟩;rw[I,bc,u9];unfold eU;rw[ao];exact low aJ
  .have cF:a.kind=5:=Ω
   obtain⟨m,dy,dz⟩:=ts (i:=a.i.toNat) (v:=a.v) (aK x) u x (by rw[bc,u9];exact ao) λy aD=>(af y aD).1;have I:b0 n.k u a=(fe u a.i.toNat a.v (aK x),0):=by
    unfold b0;rw[if_neg Ω,if_neg Ω,if_neg Ω,if_neg Ω,if_neg Ω,cH]
   have dA:aK {x with mask:=m}=[a.v]:=by
    rw[dz,<-filter_one (qu x) aY];refine List.filter_congr λy aD=>?_;rw[decide_eq_true aD,T0,Bool.not_not]
   rw[be,ai];refine⟨λ_=>?_,λh=>Ω⟩;refine cj (Ext.refl _) ?_;refine en (k:=.i64) am.u ag.i rfl λv4 dC bb ea ay cL=>?_;refine ci (m:=m) ay (gz:=dC) (by rw[dA];exact cL) (λr af=>by have:=bR cL af;omega) λaI aJ=>bX _ _ ⟨?_,by rw[I]⟩;rw[I,dy,bc,u9];exact low aJ
end
theorem D8 {p:x1} (a7:aB .u8 w p pl) (aA:Bytes pl) (bu:dA w):aj x7 yx [p] w (Ny w (pl.take 300)):=by
 refine aw func9 ?_;refine bN a6.i λaf J b8 aJ aE=>?_;have aE:ac J af a6 z12:=aE;rw[aV cH.u (a7.ext aJ),kE];refine Ic (i:=min pl.length 300) Ω cH.u cE.i (a7.ext aJ) Ω λb9 aK=>?_;have bw:pl.take (min pl.length 300)=pl.take 300:=by
  by_cases h:pl.length<=300
  .rw[Nat.min_eq_left h,o6,j6 h]
  .rw[Nat.min_eq_right Ω]
 rw[bw] at aK;have aF:Bytes (pl.take 300):=λb U=>aA b (S8 U);have bx:(pl.take 300).length<=300:=by rw[j0];omega
 generalize pl.take 300=q at aK aF bx;refine (Nv aK Ω).mono ?_;rintro ca V _ ⟨aL,cb,aM⟩;have a8:=aJ.trans aL;refine (K3 aM.ls aF Ω (bu.ext a8)).mono ?_;rintro ce cg _ ⟨aC,ah⟩;have ba:=a8.trans aC;cases al:fS q with
 |none=>
  rw[al] at ah;obtain⟨n,e,rfl,he⟩:=ah;rw[hM,hN,hP];refine (CW (aM.ext aC).ls aF Ω).mono ?_;rintro bz aN _ ⟨aq,bB,bC,aO,_⟩;obtain rfl:=aO al;rw[hM,hN,hP];refine aR (λv aD=>v= .bool true/\Ext aN aD) ?_ ?_
  .rintro _ aD ⟨rfl,an⟩;rw[bA,dc (cs:=#[Δ 0,.slice ν 0 0,Δ 0,.slice ν 0 0,.slice ν 0 0,.slice ν 0 0,.slice ν 0 0,.slice ν 0 0]) Ψ];obtain⟨_,_,X,ak⟩:=Dq;refine cc (vs:=z12) a6.i rfl rfl (by intro u hu;simp[z12] at hu;rcases hu with rfl|rfl|rfl|rfl<;>rfl) ((((aE.ext aL).ext aC).ext aq).ext an) λch bD ci bE=>?_;rw[fB a6.p a6.i rfl bE.range];refine⟨((ba.trans aq).trans an).then bD λr ah he=>by have he:r=af:=he;omega,_,_,false,rfl,⟨rfl,(Dq).elim λ_ h=>by obtain⟨_,_,h⟩:=h;exact λu hu=>by simp[z12] at hu;rcases hu with rfl|rfl|rfl|rfl<;>rfl⟩,.inl ⟨rfl,rfl⟩,λf bb=>?_⟩;rw[al] at bb;cases bb
  .intro av ao;rw[bh,ai];exact⟨λ_=>ao _ _ ⟨rfl,Ext.refl _⟩,λh=>absurd he h⟩
 |some f=>
  rw[al] at ah;obtain⟨cj,n,rfl,bF⟩:=ah;obtain⟨N,bG,au,bH,bI⟩:=Nt Ω al;have ax:=BI au;have aG:=wI au;rw[hM,hN,hP];refine (CW (aM.ext aC).ls aF Ω).mono ?_;rintro bz aN _ ⟨aq,bB,bC,_,aO⟩;obtain⟨ck,rfl,bK⟩:=aO f al;rw[hM,hN,hP];refine aR (λv aD=>v= .bool false/\Ext aN aD) ?_ ?_
  rotate_left
  .intro av ao;rw[bh,ai];refine⟨λh=>absurd rfl h,λ_=>?_⟩;rw[cV uC.u];exact ao _ _ ⟨rfl,Ext.refl _⟩
  rintro _ aD ⟨rfl,an⟩;rw[aS];have bc:=(ba.trans aq).trans an;refine (Mb ((bF.ext aq).ext an) au bG ⟨bH,bI⟩).mono ?_;rintro cl bL _ ⟨aP,bM⟩;have aI:=bc.trans aP;have ay:=((((aE.ext aL).ext aC).ext aq).ext an).ext aP;have bd:=(bK.ext an).ext aP;have cm:=aI.size;have cn:w.heap.size<=af:=Ω
  have cp:=ay.lt;rcases bM with⟨bO,e,he,rfl⟩|⟨cq,rfl,bP⟩
  .rw[bf,bg];refine Nu.mono ?_;rintro _ bi _ ⟨rfl,W⟩;refine iM (λaQ t4 Y=>aQ= .pointer ν/\t4= .bool false/\Ext w Y/\ ∃cs:List x1,ac Y af a6 cs/\cs.length=8/\ ∀u∈cs,u.oneCell'=true) ?_ ?_
   .rintro _ _ Y ⟨rfl,rfl,aT,cs,aU,X,ak⟩;rw[fB a6.p a6.i X aU.range];exact⟨aT,_,cs,false,rfl,⟨X,ak⟩,.inl ⟨rfl,rfl⟩,λcr bj bQ=>absurd bQ (by rw[al] at bj;cases bj;exact bO)⟩
   .intro av ao;have bR:=W.size;refine (C6 (bd.ext W) au).mono ?_;rintro bS aW _ ⟨ae,aY⟩;refine (Dd (R:=λr=>w.heap.size<=r/\ ∃c,ac aW r ag c) (λr h=>h.2.elim λc U=>U.lt) (λr c aA U=>⟨Ω,c,U⟩) aY ax.1 aG).mono ?_;rintro bT bU _ ⟨am,A9,cs,rfl,az,aZ⟩;obtain⟨X,ak⟩:=az.len;rw[be,ai];refine⟨λh=>absurd h he,λ_=>?_⟩;refine cc (vs:=cs) a6.i X rfl ak (((ay.ext W).ext ae).ext am) λbV ap bk a1=>?_;exact ao _ _ _ ⟨rfl,rfl,(((aI.trans W).trans ae).trans am).then ap λr ah he=>by have he:r=af:=he;omega,cs,a1,X,ak⟩
  .rw[bf,bg];obtain⟨ct,bW,bl,bX⟩:=bP;have z5:=bc.size;refine (My (R0:=λr=>w.heap.size<=r/\r<bL.heap.size) bW bl (λr o h I=>⟨by have:=bX r o h I;omega,(o9.1 (bl.aX r o h I)).1⟩) (λr h=>h.2) ax.1 aG).mono ?_;rintro _ bi _ ⟨W,ab,ad,A,R,t,rfl,bY,bm,bn,bo,bZ⟩;have bp:bJ bi ab ad A R (cd f) (dd (cd f)) t:=⟨bY,bm,Nx ax.1 aG bm bn,Mk ax.1,ax.1⟩;refine iM (λaQ t4 Y=>aQ=Γ ab/\t4= .bool true/\Ext w Y/\ ∃cs:List x1,ac Y af a6 cs/\cs.length=8/\(∀u∈cs,u.oneCell'=true)/\ ∃R' A9 aH,bJ Y ab ad A R' (cd f) (dd (cd f)) t/\h3 true A9 aH Y cs (cd f).k (cd f).sizes (dd (cd f))/\(∀q r,A9 q r->¬A r/\¬R' r/\w.heap.size<=r)/\(∀r,aH r->¬eE Y r/\r<Y.heap.size/\w.heap.size<=r)/\ ∀r,R' r->w.heap.size<=r) ?_ ?_
   .rintro _ _ Y ⟨rfl,rfl,aT,cs,aU,X,ak,R',A9,aH,b0,az,b1,b2⟩;rw[fB a6.p a6.i X aU.range];exact⟨aT,_,cs,true,rfl,⟨X,ak⟩,.inr ⟨rfl,f,al,ab,ad,A,R',t,N,A9,aH,au,rfl,b0,bn,λr ah=>by have:=bo r ah;omega,az,b1,b2⟩,λ_ _ _=>rfl⟩
   .intro av ao;have bR:=W.size;refine (C6 (bd.ext W) au).mono ?_;rintro bS aW _ ⟨ae,aY⟩;refine (Dd (R:=λr=>w.heap.size<=r/\ ∃c,ac aW r ag c) (λr h=>h.2.elim λc U=>U.lt) (λr c aA U=>⟨Ω,c,U⟩) aY ax.1 aG).mono ?_;rintro bT bU _ ⟨am,A9,cs,rfl,az,aZ⟩;obtain⟨X,ak⟩:=az.len;rw[be,ai];refine⟨λ_=>?_,λh=>absurd rfl h⟩;rw[zc dH.u];have bq:=((ay.ext W).ext ae).ext am;have b3:=((aI.trans W).trans ae).trans am;refine cc (vs:=cs) a6.i X rfl ak bq λbV ap bk a1=>?_;have br:=(bp.ext ae).ext am;obtain⟨R',bt,b4⟩:=br.1.put bq ap λh=>by have:=bo af h;omega
    have cu:=((aI.trans W).trans ae).size;have cw:=am.size;obtain⟨_,_,_,_,⟨_,_,b5,b6⟩,_⟩:=(bp.ext ae).1;have cz:=ay.lt;have cA:=(W.trans ae).size;have b7:=az.aa ap λr ah h he=>by
     have he:r=af:=he;rcases h with⟨q,h⟩|⟨_,c,U⟩
     .have:=aZ q r h;omega
     .subst he;exact absurd (eZ U (((ay.ext W).ext ae))) Φ
    refine ao _ _ _ ⟨rfl,rfl,b3.then ap λr ah he=>by have he:r=af:=he;omega,cs,a1,X,ak,R',A9,_,⟨b4,br.2⟩,b7,λq r h=>?_,λr h=>?_,λr h=>?_⟩
    .have cB:=aZ q r h;refine⟨λa2=>by have:=b6 r a2;omega,λa2=>by have:=b5 r (bt r a2).1;omega,Ω⟩
    .obtain⟨aA,c,U⟩:=h;have cC:=U.lt;have bk:=ap.size;refine⟨Nr ((U.ext am).aa ap λhe=>?_) Φ,Ω,aA⟩;have he:r=af:=he;subst he;exact absurd (eZ U (((ay.ext W).ext ae))) Φ
    .rcases bZ r (bt r h).1 with h|h
     .exact h.1
     .omega
abbrev jf:Type:=gT .u8×Int×Int×Int×Int×Bool
structure eF where
 d:Int
 i:Int
 pos:Int
 v:Int
 c:Int
 o0:Bool
def eF.ok (a:eF):Prop:=(0<=a.d/\a.d<256)/\(-9223372036854775808<=a.c/\a.c<9223372036854775808)
def eF.kind (a:eF):Nat:=(a.d % 6).toNat
def eF.bL (a:eF):List x1:=[.int .u8 a.d,Δ a.i,Δ a.pos,Δ a.v,Δ a.c,.bool a.o0]
def jG (x:jf):eF:=⟨x.1.val,x.2.1,x.2.2.1,x.2.2.2.1,x.2.2.2.2.1,x.2.2.2.2.2⟩
theorem OM {R:ah} {cs:List x1} {x:jf} (h:Seen R w cs x):cs=(jG x).bL:=by
 obtain⟨Y,_,_,_,rfl,_,_,_,I,aa,_,_,_,rfl,_,_,_,J,ab,_,_,_,rfl,_,_,_,U,ac,_,_,_,rfl,_,_,_,V,ad,ae,_,_,rfl,_,_,_,W,X⟩:=h;have I:Y=[.int .u8 x.1]:=I;have J:aa=[Δ x.2.1]:=J;have U:ab=[Δ x.2.2.1]:=U;have V:ac=[Δ x.2.2.2.1]:=V;have W:ad=[Δ x.2.2.2.2.1]:=W;have X:ae=[.bool x.2.2.2.2.2]:=X;subst I J U V W X;rfl
theorem w8 {x:jf} (h:(o4.u8.min<=x.1.val/\x.1.val<=o4.u8.max)/\(Y9.min<=x.2.1/\x.2.1<=Y9.max)/\(Y9.min<=x.2.2.1/\x.2.2.1<=Y9.max)/\(Y9.min<=x.2.2.2.1/\x.2.2.2.1<=Y9.max)/\(Y9.min<=x.2.2.2.2.1/\x.2.2.2.2.1<=Y9.max)/\True):(jG x).ok:=by
 have J:o4.u8.min=0:=Φ
 have U:o4.u8.max=255:=Φ
 have V:Y9.min= -9223372036854775808:=Φ
 have W:Y9.max=9223372036854775807:=Φ
 rw[J,U,V,W] at h;obtain⟨h1,X,Y,aa,I,_⟩:=h;exact⟨⟨h1.1,by have:=h1.2;show x.1.val<256;omega⟩,⟨I.1,by have:=I.2;show x.2.2.2.2.1<_;omega⟩⟩
theorem eF.one (a:eF):∀u∈a.bL,u.oneCell'=true:=by
 intro u hu;unfold eF.bL at hu;simp only[V0,List.not_mem_nil,or_false] at hu;rcases hu with rfl|rfl|rfl|rfl|rfl|rfl<;>rfl
theorem eF.w9 (a:eF):a.kind<6:=by
 unfold eF.kind;have:=Int.emod_lt_of_pos a.d (show (0:Int)<6 by decide);omega
def h7 (k:Int) (s:au) (a:eF):Int:=
 if a.kind<2 then match ds s a.i a.pos a.v with
  |none=>0
  |some (f,_,x)=>if a.kind=1 then x.un.getD a.v.toNat 0 else fY k s f a.pos.toNat a.v
 else if a.kind=2 then match (if 0<=a.i then s.vars[a.i.toNat]? else ν) with
  |none=>s.zero
  |some x=>if aK x=[] then s.zero else ((aK x).map λv=>x.un.getD v.toNat 0).foldl min k
 else s.zero
def o1 (k:Int) (s:au) (a:eF):Int:=
 if a.o0=false then a.c else if (a.c.emod 18446744073709551616) % (h7 k s a+2) % 3=0 then h7 k s a else (a.c.emod 18446744073709551616) % (h7 k s a+2)
def h8 (k:Int) (s:au) (a:eF):gM:=⟨a.kind,a.i,a.pos,a.v,o1 k s a⟩
theorem tt {k:Int}:∀ (l:Λ) (z:Int),(∀c∈l,0<=c/\c<=k)->0<=z/\z<=k->0<=l.foldl min z/\l.foldl min z<=k
 |[],z,_,h=>h
 |c::l,z,I,h=>by
  have J:=I c (.head _);exact tt l _ (λc h=>I c (.tail _ h)) Ω
section
variable {w:x3} {ez:x1} {k:Int} {sizes:Λ} {s:au} {a:eF}
theorem ON (I:bH k sizes s):0<=h7 k s a/\h7 k s a<=k:=by
 have hk:=I.fc;unfold h7;split
 .cases V:ds s a.i a.pos a.v with
  |none=>exact⟨Int.le_refl _,show (0:Int)<=k by omega⟩
  |some q=>
   obtain⟨f,u,x⟩:=q;obtain⟨_,_,W,_,_,X⟩:=jb V;obtain⟨_,Y,_,_⟩:=h6 X;simp only;split
   .exact gN I Y
   .refine tt _ _ (λc U=>?_) ⟨Ω,Int.le_refl _⟩;obtain⟨tl,_,rfl⟩:=o8.1 U;exact lL I (x5 W)
 .split
  .split
   .exact I.zero
   .rename_i x J;have J:s.vars[a.i.toNat]? =σ x:=by split at J;exact J;cases J
    split
    .exact I.zero
    .refine tt _ _ (λc U=>?_) ⟨Ω,Int.le_refl _⟩;obtain⟨v,_,rfl⟩:=o8.1 U;exact gN I J
  .exact I.zero
theorem qB {d:Int} {K:x1->Prop} (h:0<=d):U x7 (aE .rem cE false true (.int .u8 d) (.int .u8 6)) w K=K (.int .u8 (((d % 6).toNat:Nat):Int)):=by
 rw[n7 Φ,Int.tmod_eq_emod_of_nonneg h];have:=Int.emod_nonneg d (show (6:Int)≠0 by decide);rw[Int.toNat_of_nonneg this]
theorem OO (h:jB w ez k sizes s) (au:bH k sizes s) (bl:dj s) (bn:a.ok):aj x7 Fc [ez,.agg a.bL.toArray] w λr w'=>r=Δ (o1 k s a)/\Ext w w':=by
 have b0:=au.vars;have b1:=au.fc;have b2:=ON (a:=a) au;obtain⟨aW,b3⟩:=bn;refine aw func28 ?_;refine bm λg1 J b4 aX bo=>?_;have bp:=h.box aX bo;refine bm λbr V b5 aY I=>?_;have I:ac V br bK [.int .u8 a.d,Δ a.i,Δ a.pos,Δ a.v,Δ a.c,.bool a.o0]:=I;have ay:=bp.ext aY;have az:=aX.trans aY;rw[aD bK.p 5 I rfl,bu];cases a1:a.o0 with
 |false=>
  rw[X3,bA,aD bK.p 4 I rfl];exact⟨by unfold o1;rw[if_pos a1],az⟩
 |true=>
 rw[Z8,aS];obtain⟨szv,b7,b8,b9,ca,cb,aa,cc,_,a2,cd,a7,bt,ce⟩:=id ay;rw[aD a6.p 2 aa rfl];refine aR (λr w'=>r=Δ (h7 k s a)/\Ext V w') ?_ λav ad=>?_
 .rintro _ cg ⟨rfl,aB⟩;generalize bw:h7 k s a=most at*;rw[aD bK.p 4 (I.ext aB) rfl,e7 al.u fi.u,aL,wrap_i64 Ω Ω,e7 al.u fi.u,wrap_u64 (x:=most+2) Ω Ω];have aC:V9.wrap a.c=a.c.emod 18446744073709551616:=rfl;rw[aC];have a8:=Int.emod_nonneg a.c (show (18446744073709551616:Int)≠0 by decide);have bx:=Int.emod_lt_of_pos a.c (show (0:Int)<18446744073709551616 by decide);obtain⟨c,aE⟩:∃c,a.c.emod 18446744073709551616=c:=⟨_,rfl⟩;have bz:a.c % 18446744073709551616=c:=aE;rw[bz] at a8 bx;rw[aE,n7 Ω,Int.tmod_eq_emod_of_nonneg a8];have bC:=Int.emod_nonneg c (show most+2≠0 by omega);have ch:=Int.emod_lt_of_pos c (show 0<most+2 by omega);have bb:o1 k s a=if c % (most+2) % 3=0 then most else c % (most+2):=by unfold o1;rw[a1,bw,aE];rfl
  rw[n7 Φ,Int.tmod_eq_emod_of_nonneg bC,be,ai];refine⟨λW=>⟨by rw[bb,if_pos W],az.trans aB⟩,λW=>?_⟩;rw[e7 fi.u al.u,wrap_i64 Ω Ω];exact⟨by rw[bb,if_neg W],az.trans aB⟩
 rw[aD bK.p 0 I rfl,qB aW.1];have ci:=a.w9;have bc:(a.d % 6).toNat=a.kind:=rfl;rw[bc];refine aR (λr w'=>r= .bool (decide (a.kind<2))/\V=w') ?_ λcj bd=>?_
 rotate_left
 .rw[be,ai];refine⟨λW=>bd _ _ ⟨by rw[decide_eq_true W,decide_eq_true Ω],rfl⟩,λW=>?_⟩;rw[be];refine bd _ _ ⟨?_,rfl⟩;congr 1;exact decide_eq_decide.2 ⟨λh=>Ω,λh=>Ω⟩
 rintro _ _ ⟨rfl,rfl⟩;rw[ai];refine⟨λaf=>?_,λaf=>?_⟩
 .refine ay.load λu hu=>?_;rw[aD bK.p 1 I rfl,aD bK.p 2 I rfl,aD bK.p 3 I rfl];refine (th hu au bl).mono ?_;rintro _ ck _ ⟨aG,rfl⟩;cases aH:ds s a.i a.pos a.v with
  |none=>
   simp only;rw[bf,bg];refine aR (λr w'=>r= .bool false/\Ext V w') ?_ λbD aI=>?_
   .rintro _ bE ⟨rfl,ax⟩;rw[aS];exact ad _ _ ⟨by unfold h7;rw[if_pos af,aH],ax⟩
   .rw[aS];exact aI _ _ ⟨rfl,aG⟩
  |some q=>
  obtain⟨f,ah,x⟩:=q;simp only;rw[bf,bg];obtain⟨j,pos,ah,bF,bG,aJ,bI,cl,bJ,U,ak,cm⟩:=tr aH;have X:h7 k s a=if a.kind=1 then x.un.getD a.v.toNat 0 else fY k s f a.pos.toNat a.v:=by unfold h7;rw[if_pos af,aH]
  refine aR (λr w'=>r= .bool (decide (a.kind=1))/\Ext V w') ?_ λbD aI=>?_
  rotate_left
  .rw[bA,aD bK.p 0 (I.ext aG) rfl,qB aW.1,bc,be];refine aI _ _ ⟨?_,aG⟩;congr 1;exact decide_eq_decide.2 ⟨λh=>Ω,λh=>Ω⟩
  rintro _ bE ⟨rfl,ax⟩;rw[ai];refine⟨λh1=>?_,λh1=>ad _ _ ⟨by rw[X,if_neg h1],ax⟩⟩;intro cn bN _ _;have ae:=ax.trans bN;have aM:=(hd.1 ak).1;obtain⟨aN,bh⟩:=W5 aM.1;have Y:=I.ext ae;simp only[bF,bG,bh] at Y;rw[aD a6.p 5 (aa.ext ae) rfl,aD a6.p 6 (aa.ext ae) rfl,aD bK.p 1 Y rfl];refine jV (i:=j) rfl e4.u ed.i (bq bt ae) (by rw[x8,bI];rfl) λb o cs bO aC=>?_;obtain⟨bP,cp,v3,rfl,bQ,cq,cr⟩:=mu aC;rw[aT ed.p rfl,aT aZ.p rfl,aA (v:=bP) Ψ (bO 0 _ rfl),aD bK.p 2 Y rfl,ba am.u ag.i Ψ (dp bQ) bJ];refine hq (α:=Λ) (a:=x.un) (i:=ah) rfl rfl ec.u aq.i Ψ (bq a7 ae) (by rw[x8,U];rfl) λbi an=>?_;rw[aD bK.p 3 Y rfl,ba aq.u al.i Ψ (dp an) (getD_some (i:=aN) Ω)];exact ad _ _ ⟨by rw[X,if_pos h1,bh,u9],ae⟩
 .rw[be,ai];refine⟨λaO=>?_,λaO=>ad _ _ ⟨by unfold h7;rw[if_neg af,if_neg Ω],Ext.refl _⟩⟩;have aO:a.kind=2:=Ω
  have X:h7 k s a=match (if 0<=a.i then s.vars[a.i.toNat]? else ν) with
   |none=>s.zero
   |some x=>if aK x=[] then s.zero else ((aK x).map λv=>x.un.getD v.toNat 0).foldl min k:=by
   unfold h7;rw[if_neg af,if_pos aO]
  refine aR (λr w'=>Ext V w'/\((r= .bool false/\h7 k s a=s.zero)\/(r= .bool true/\ ∃x,0<=a.i/\s.vars[a.i.toNat]? =σ x/\aK x≠[]))) ?_ λct bj=>?_
  .rintro _ bR ⟨ab,⟨rfl,bS⟩|⟨rfl,x,bk,U,bT⟩⟩
   .rw[aS];exact ad _ _ ⟨by rw[bS],ab⟩
   .rw[bA];rw[if_pos bk,U] at X;simp only at X;rw[if_neg bT] at X;obtain⟨ah,aJ⟩:=W5 bk;rw[aJ,u9] at U;have Y:=I;simp only[aJ] at Y;rw[aD a6.p 0 (aa.ext ab) rfl,aD a6.p 3 (aa.ext ab) rfl,aD bK.p 1 (Y.ext ab) rfl];refine hq (α:=Λ) (a:=aK x) (i:=ah) rfl rfl cO.u am.i Ψ (bq a2 ab) (by rw[x8,U];rfl) λbi an=>?_;have aP:=dp an;rw[aV am.u aP];refine bU.range (aK x).length (λq r w'=>Ext bR w'/\r=Δ ((((aK x).take q).map λv=>x.un.getD v.toNat 0).foldl min k)) aP.le ⟨Ext.refl _,rfl⟩ ?_ ?_
    .rintro q _ bV bW bX ⟨ao,rfl⟩ bY;obtain⟨v,ak⟩:=aF (l:=aK x) bX;have aM:=(hd.1 (x5 ak)).1;obtain⟨aN,rfl⟩:=W5 aM.1;have aQ:=ab.trans ao;refine bB Ω ?_;rw[ba am.u ag.i Ψ (aP.ext ao) ak,aD a6.p 5 (aa.ext aQ) rfl,aD bK.p 1 (Y.ext aQ) rfl];refine hq (α:=Λ) (a:=x.un) (i:=ah) rfl rfl ec.u aq.i Ψ (bq a7 aQ) (by rw[x8,U];rfl) λcu bZ=>?_;rw[ba aq.u al.i Ψ (dp bZ) (getD_some (i:=aN) Ω),kE,aL];refine bY _ _ ⟨ao,?_⟩;rw[r8,ak,l9,c8,List.foldl_append];rfl
    .rintro _ bV bW ⟨ao,rfl⟩;rw[o6];refine b6 Ω ?_;exact ad _ _ ⟨by rw[X],ab.trans ao⟩
  refine ay.load λu hu=>?_;rw[aD bK.p 1 I rfl];refine (wT (i:=a.i) hu).mono ?_;rintro _ cw _ ⟨rfl,ap⟩;rw[ai];refine⟨λaU=>?_,λaU=>bj _ _ ⟨ap,.inl ⟨rfl,?_⟩⟩⟩
  .obtain⟨x,U⟩:=aF (l:=s.vars) (i:=a.i.toNat) Ω;rw[aD a6.p 3 (aa.ext ap) rfl,aD bK.p 1 (I.ext ap) rfl];refine hq (α:=Λ) (a:=aK x) (i:=a.i.toNat) rfl Ω cO.u am.i Ψ (bq a2 ap) (by rw[x8,U];rfl) λbi an=>?_;rw[aV am.u (dp an),bM];refine bj _ _ ⟨ap,?_⟩;by_cases he:aK x=[]
   .refine .inl ⟨by rw[he];rfl,?_⟩;rw[X,if_pos aU.1,U];simp only;rw[if_pos he]
   .refine .inr ⟨?_,x,aU.1,U,he⟩;congr 1;have:=List.length_pos_iff.2 he;exact decide_eq_true Ω
  .rw[X];by_cases W:0<=a.i
   .rw[if_pos W,Z5 Ω]
   .rw[if_neg W]
end
def o2 (A R:ah) (A9:Nat->ah) (aH:ah) (an:Nat) (r:Nat):Prop:=A r\/R r\/(∃q,A9 q r)\/aH r\/r=an
section
variable {P:ah} {gA w w':x3} {ab ad an PO PP PQ:Nat} {A R aN R':ah} {A9 cD:Nat->ah} {aH DJ:ah} {n:aQ} {s s':au} {t bp:ay} {h h':List ay} {cs b7:List x1} {m ch:Nat}
variable {Z eV:ah}
end
structure e2 (s s':au):Prop where
 vars:s'.vars.length=s.vars.length
 var:∀ (i:Nat) x y,s.vars[i]? =σ x->s'.vars[i]? =σ y->y.gone=x.gone/\y.un.length=x.un.length
 funs:s'.funs.length=s.funs.length
 fn:∀ (j:Nat) f g,s.funs[j]? =σ f->s'.funs[j]? =σ g->g.sc=f.sc/\g.af=f.af/\g.live=f.live/\g.cs.length=f.cs.length
 gG:s'.gG=s.gG
theorem e2.rfl {s:au}:e2 s s:=⟨Eq.refl _,λ_ _ _ h1 I=>by rw[h1] at I;cases I;exact⟨Eq.refl _,Eq.refl _⟩,Eq.refl _,λ_ _ _ h1 I=>by rw[h1] at I;cases I;exact⟨Eq.refl _,Eq.refl _,Eq.refl _,Eq.refl _⟩,Eq.refl _⟩
theorem e2.trans {a b c:au} (h:e2 a b) (k:e2 b c):e2 a c:=by
 refine⟨k.vars.trans h.vars,λi x z J X=>?_,k.funs.trans h.funs,λj f q U Y=>?_,k.gG.trans h.gG⟩
 .have aa:=(x4.1 J).1;have ab:=h.vars;obtain⟨y,V⟩:=aF (l:=b.vars) (i:=i) Ω;have h1:=h.var i x y J V;have I:=k.var i y z V X;exact⟨I.1.trans h1.1,I.2.trans h1.2⟩
 .have aa:=(x4.1 U).1;have ab:=h.funs;obtain⟨g,W⟩:=aF (l:=b.funs) (i:=j) Ω;have h1:=h.fn j f g U W;have I:=k.fn j g q W Y;exact⟨I.1.trans h1.1,I.2.1.trans h1.2.1,I.2.2.1.trans h1.2.2.1,I.2.2.2.trans h1.2.2.2⟩
section
variable {k:Int} {sizes:Λ} {s:au}
theorem xa {i:Nat} {x y:bP} (V:s.vars[i]? =σ x) (W:y.gone=x.gone) (X:y.un.length=x.un.length):e2 s {s with vars:=s.vars.set i y}:=by
 refine⟨Z4,λj a b U I=>?_,rfl,λj f g h1 J=>?_,rfl⟩
 .have I:(s.vars.set i y)[j]? =σ b:=I;by_cases e:i=j
  .subst e;rw[c7 (x4.1 V).1] at I;rw[V] at U;cases U;cases I;exact⟨W,X⟩
  .rw[Y5 e,U] at I;cases I;exact⟨rfl,rfl⟩
 .have J:s.funs[j]? =σ g:=J;rw[h1] at J;cases J;exact⟨rfl,rfl,rfl,rfl⟩
theorem OP {j:Nat} {f g:cJ} (U:s.funs[j]? =σ f) (h:g.sc=f.sc/\g.af=f.af/\g.live=f.live/\g.cs.length=f.cs.length):e2 s {s with funs:=s.funs.set j g}:=by
 refine⟨rfl,λi a b J I=>?_,Z4,λq a b J I=>?_,rfl⟩
 .have I:s.vars[i]? =σ b:=I;rw[J] at I;cases I;exact⟨rfl,rfl⟩
 .have I:(s.funs.set j g)[q]? =σ b:=I;by_cases e:j=q
  .subst e;rw[c7 (x4.1 U).1] at I;rw[U] at J;cases J;cases I;exact h
  .rw[Y5 e,J] at I;cases I;exact⟨rfl,rfl,rfl,rfl⟩
theorem OQ:e2 s {s with zero:=c}:=⟨rfl,λ_ _ _ h1 I=>by have I:s.vars[_]? =σ _:=I;rw[h1] at I;cases I;exact⟨rfl,rfl⟩,rfl,λ_ _ _ h1 I=>by have I:s.funs[_]? =σ _:=I;rw[h1] at I;cases I;exact⟨rfl,rfl,rfl,rfl⟩,rfl⟩
theorem D9 {i:Nat}:e2 s (eU s i v.toNat):=by
 cases I:s.vars[i]? with
 |none=>unfold eU;rw[I];exact .rfl
 |some x=>rw[mq I];exact xa I rfl rfl
theorem xb {i:Nat} {v:Int}:∀ (L:Λ) (s:au),e2 s (fe s i v L)
 |[],_=>.rfl
 |w::L,s=>by
  unfold fe;split
  .exact D9.trans (xb L _)
  .exact xb L s
theorem Ea {u:Nat} {x:bP} {g z:Int->Int} (I:s.vars[u]? =σ x):e2 s (kl s u x g z):=
 (xa (y:={x with un:=dX g x.un (aK x)}) I rfl (s9 _ _)).trans OQ
theorem Eb {j pos u:Nat} {f:cJ} {x:bP} {t un:Int->Int} (J:bH k sizes s) (I:s.funs[j]? =σ f) (U:s.vars[u]? =σ x):e2 s (iE s j f pos u x v t un):=by
 obtain⟨_,V⟩:=k2 J (x5 I);have h1:e2 s (dF s j f (dr t (cb s f.sc pos v) f.af f.cs)):=OP I ⟨rfl,rfl,rfl,nF _ _ _ _ Ω⟩;exact h1.trans (xa (s:=dF s j f (dr t (cb s f.sc pos v) f.af f.cs)) (y:={x with un:=x.un.set v.toNat (un (x.un.getD v.toNat 0))}) U rfl Z4)
theorem OR {m:gM} (X:bH k sizes s):e2 s (b0 k s m).1:=by
 by_cases he:(b0 k s m).2=0
 .generalize I:b0 k s m=r at he ⊢;unfold b0 at I;split at I
  .split at I
   .subst I;exact .rfl
   .rename_i f u x J;obtain⟨_,_,U,_,_,V⟩:=jb J;obtain⟨_,W,_,_⟩:=h6 V;split at I
    .subst I;exact .rfl
    .subst I;simp only;exact Eb X U W
  split at I
  .split at I
   .subst I;exact .rfl
   .rename_i f u x J;obtain⟨_,_,U,_,_,V⟩:=jb J;obtain⟨_,W,_,_⟩:=h6 V;split at I
    .subst I;exact .rfl
    .subst I;simp only;exact Eb X U W
  have key:∀ {x:bP},(if 0<=m.i then s.vars[m.i.toNat]? else ν)=σ x->s.vars[m.i.toNat]? =σ x:=λh=>by
   split at h
   .exact h
   .cases h
  split at I
  .split at I
   .subst I;exact .rfl
   .rename_i x J;split at I
    .subst I;exact .rfl
    .split at I
     .subst I;exact .rfl
     .subst I;simp only;exact Ea (key J)
  split at I
  .split at I
   .subst I;exact .rfl
   .rename_i x J;generalize (if aK x=[] then-1 else s.zero)=Y at I;split at I
    .subst I;exact .rfl
    .split at I
     .subst I;exact .rfl
     .subst I;simp only;exact Ea (key J)
  split at I
  .split at I
   .subst I;exact .rfl
   .split at I
    .subst I;exact .rfl
    .subst I;exact D9
  .split at I
   .subst I;exact .rfl
   .subst I;exact xb _ _
 .rw[NV he];exact .rfl
end
theorem Ec (h:Laid w):0<w.heap.size:=by
 rcases R4 w.heap.size with J|J
 .have I:=h 0 _ rfl;unfold x3.cell? at I;rw[Array.getElem?_eq_none Ω] at I;cases I
 .exact J
def eb (Z aH:ah) (w:x3) (ab ad an:Nat) (n:aQ) (s:au):Prop:=∃A R A9 t cs,cq w ab ad an A R A9 aH n s s t [] cs/\(Laid w/\¬Z 0)/\(dj s/\e2 (dd n) s/\n.funs.length<=256)/\(∀r,Z r↔o2 A R A9 aH an r)/\ ∀q r,A9 q r->r<w.heap.size
def iG (n:aQ) (s:au) (a:eF):au:=(b0 n.k s (h8 n.k s a)).1
section
variable {Z aH S:ah} {w w' J:x3} {ab ad an:Nat} {A R:ah} {A9:Nat->ah} {n:aQ} {s u:au} {t:ay} {cs:List x1} {a:eF}
theorem eb.ext (h:eb Z aH w ab ad an n s) (I:Ext w w'):eb Z aH w' ab ad an n s:=by
 obtain⟨A,R,A9,t,cs,p,⟨J,U⟩,V,W,X⟩:=h;exact⟨A,R,A9,t,cs,p.ext I,⟨J.ext I,U⟩,V,W,λq r Y=>by have:=X q r Y;have:=I.size;omega⟩
theorem eb.lt (h:eb Z aH w ab ad an n s):∀r,Z r->r<w.heap.size:=by
 obtain⟨A,R,A9,t,cs,p,_,_,J,U⟩:=h;intro r I;rcases (J r).1 I with I|I|⟨q,I⟩|I|I
 .exact tb p.et r (.inl I)
 .exact tb p.et r (.inr I)
 .exact U q r I
 .exact (p.read r I).2.1
 .subst I;exact p.box.lt
theorem eb.ok (h:eb Z aH w ab ad an n s):bH n.k n.sizes s/\dj s/\e2 (dd n) s/\n.funs.length<=256:=by
 obtain⟨A,R,A9,t,cs,p,_,I,_⟩:=h;exact⟨p.et.2.2.2.1,I⟩
theorem eb.look (h:eb Z aH w ab ad an n s):mr w an n.k n.sizes s:=by
 obtain⟨A,R,A9,t,cs,p,_⟩:=h;exact p.look
theorem eb.et (h:eb Z aH w ab ad an n s):∃A R t,bJ w ab ad A R n s t/\Laid w/\¬A 0/\ee t []:=by
 obtain⟨A,R,A9,t,cs,p,I,_,J,_⟩:=h;exact⟨A,R,t,p.et,I.1,λh=>I.2 ((J 0).2 (.inl h)),p.iC⟩
theorem eb.step {V:x3} (p:cq w ab ad an A R A9 aH n s u t [] cs) (W:∀r,Z r↔o2 A R A9 aH an r) {u':au} (aj:dj u'/\e2 (dd n) u'/\n.funs.length<=256) (ak:¬Z 0)
  (al:dt w ab ad an A R A9 aH n s t [] u' J) (X:Ext J w') (hm:ev w' ab ad A R n u' V):ae (λr=>Z r/\¬aH r) w V/\ ∃eV,(∀r,eV r->Z r\/w.heap.size<=r)/\eb eV aH V ab ad an n u':=by
 obtain⟨ag,cD,b7,am,ao⟩:=al;obtain⟨Y,ap,aN,bp,ac,aq,av,aA⟩:=hm;have aB:=ag.size;have aC:=X.size;have z3:=Y.size;have af:=am.ext X;have aw:=af.prog Y ac aq av (λ_ h=>.inl h) (λ_ _ _ h=>h) af.box.lt;have ax:=p.N2;have ay:ae (λr=>Z r/\¬aH r) w V:=(((ag.mono (T:=λr=>Z r/\¬aH r) λr _ h=>⟨(W r).2 (h.elim (λh=>.inr (.inr (.inl h))) λh=>.inr (.inr (.inr (.inr h)))),h.elim (λ⟨q,h⟩=>ax q r h) λh h'=>(p.read r h').2.2 h⟩)).trans (X.aa _)).trans
  ((DG ac.1 Y).mono λr _ h=>⟨(W r).2 (.inl h.1),λh'=>(af.read r h').1 h.2⟩)
 have aD:=p.box.lt;have U:∀ {r:Nat} {ah:Prop},(ah->o2 A R A9 aH an r)->ah->Z r\/w.heap.size<=r:=λaz h=>.inl ((W _).2 (az h));have ai:∀r,o2 aN R (λq r=>cD q r/\r<w'.heap.size) aH an r->Z r\/w.heap.size<=r:=by
  intro r I;rcases I with I|I|⟨q,I,_⟩|I|I
  .exact (ac.2.1 r I).elim (U .inl) λh=>.inr Ω
  .exact U (λh=>.inr (.inl h)) I
  .exact (ao q r I).elim (U λh=>.inr (.inr (.inl h))) .inr
  .exact U (λh=>.inr (.inr (.inr (.inl h)))) I
  .exact U (λh=>.inr (.inr (.inr (.inr h)))) I
 exact⟨ay,λr=>o2 aN R (λq r=>cD q r/\r<w'.heap.size) aH an r,ai,aN,R,_,bp,b7,aw,⟨ap,λh=>(ai 0 h).elim ak λh=>Ω⟩,aj,λr=>Iff.rfl,λq r I=>by have:=I.2;omega⟩
theorem OS (h:dj s/\e2 (dd n) s/\n.funs.length<=256) (I:bH n.k n.sizes s) (m:gM):dj (b0 n.k s m).1/\e2 (dd n) (b0 n.k s m).1/\n.funs.length<=256:=
 ⟨(DM I h.1).2.1,h.2.1.trans (OR I),h.2.2⟩
theorem OT {m:gM} (p:cq w ab ad an A R A9 aH n s u t [] cs) (I:bH n.k n.sizes u) (J:dj u) (hk:m.kind<=5):aj x7 uq [Γ an,Δ (m.kind:Int),Δ m.i,Δ m.pos,Δ m.v,Δ m.c] w λr w'=>r=Δ (b0 n.k u m).2/\dt w ab ad an A R A9 aH n s t [] (b0 n.k u m).1 w':=by
 by_cases h:m.kind<2
 .exact OA p I J h
 .exact OL p I ⟨Ω,hk⟩
theorem OU {B:Nat} {V:x3} {an:Nat} {U:x1} {cs:List x1} {f:bY} (X:s3 B V U cs f) (Y:Ext V J) (aa:ac J an a6 cs) (ae:V.heap.size<=an) (am:B<=V.heap.size) (ao:0<B) (af:Laid J):
  ∃ab ad Z aH,U=Γ ab/\eb Z aH J ab ad an (cd f) (dd (cd f))/\ ∀r,Z r->B<=r:=by
 obtain⟨ab,ad,A,R,A9,aH,t,rfl,p,_,ag,ah,_,_,ai,_,aj,ak⟩:=N1 X Y aa ae;have al:=p.olds;have W:∀r,o2 A R (λq r=>A9 q r/\r<J.heap.size) aH an r->B<=r:=by
  intro r I;rcases I with I|I|⟨q,I,_⟩|I|I
  .exact ag r I
  .exact ak r I
  .exact ah q r I
  .exact aj r I
  .omega
 exact⟨ab,ad,_,aH,rfl,⟨A,R,_,t,cs,al,⟨af,λh=>by have:=W 0 h;omega⟩,⟨N0 _,e2.rfl,ai⟩,λr=>Iff.rfl,λq r I=>I.2⟩,W⟩
end
def ko:Λ:=[116,32,50,32,50,32,49,32,57,32,49,32,50,32,50,32,48,32,49,32,48,32,50,32,48,32,48,32,51,32,48,32,49,32,53]
def hg:bY:=⟨[116],9,[1,2],[⟨[0,1],[1,2],0,[([0,0],3),([0,1],5)]⟩]⟩
theorem OV:fS ko=σ hg:=by
 have h:(match fS ko with
  |some f=>decide (f.name=hg.name/\f.k=hg.k/\f.sizes=hg.sizes)&&decide (f.funs.map (λx=>(x.scope,x.sizes,x.other,x.lines))=hg.funs.map λx=>(x.scope,x.sizes,x.other,x.lines))
  |none=>false)=true:=by decide+kernel
 cases U:fS ko with
 |none=>rw[U] at h;cases h
 |some f=>
  rw[U] at h;simp only[U2,decide_eq_true_eq] at h;obtain⟨⟨h1,V,W⟩,I⟩:=h;obtain⟨nm,k,Y,J⟩:=f;simp only at h1 V W I;subst h1;subst V;subst W;have:J=hg.funs:=by
   have X:J.length=1:=by have:=congrArg S9 I;simpa[hg] using this
   match J,X with
   |[x],_=>
    obtain⟨a,b,c,d⟩:=x;simp[hg] at I;obtain⟨rfl,rfl,rfl,rfl⟩:=I;rfl
  subst this;rfl
theorem OW:lF hg.funs<=16384:=by decide+kernel
def xc:gM:=⟨0,0,0,0,3⟩
def nL:au:=(b0 (cd hg).k (dd (cd hg)) xc).1
theorem OX:(b0 (cd hg).k (dd (cd hg)) xc).2=0:=by decide+kernel
theorem OY:(fI nL 0 [0,0]).isSome=true/\hF nL 0 [0,0]=0/\(fI nL 0 [0,1]).isSome=true/\hF nL 0 [0,1]=2/\gK nL 0 0=3:=by decide+kernel
theorem OZ:fy (cd hg) 0 0:=by decide+kernel
theorem O0 (aD:dA w) (ak:Laid w):aj x7 yw [] w λv w'=>v= .bool true/\Ext w w':=by
 refine aw func8 ?_;refine jT (k:=1) (cs:=(ints .u8 ko).toArray) cH.u cE.i Ω Ψ λg J bt I W=>?_;have al:ap .u8 cE J g (.slice (σ ⟨g,0,ν⟩) 35 35) ko:=ap.of (n:=35) (bT.full (by simpa using W) (by simp[ko]) (by simp[maxLen]));refine NZ W λX ao aq=>?_;have I:Ext w X:=I.put ao Ω;have aE:aB .u8 X (.slice (σ ⟨g,0,ν⟩) 35 35) ko:=by
  obtain⟨aF,b,o,base,cap,aG,aI,aJ,aK,aL⟩:=al.ls;cases aG;cases aK (by simp[ko]);exact⟨aF,g,0,_,35,rfl,aI,aJ,λ_=>rfl,aq _ _ aL⟩
 clear al W aq ao;refine (D8 aE (by intro b aM;simp[ko] at aM;omega) (aD.ext I)).mono ?_;rintro _ V _ ⟨aO,aP,cs,ok,rfl,⟨aQ,aT⟩,aU,aV⟩;have au:fS (ko.take 300)=σ hg:=by
  rw[j6 Φ];exact OV
 have aW:ok=true:=aV hg au OW;subst aW;obtain⟨f,ax,ab,ad,A,R,t,N,A9,aH,bw,rfl,aX,aY,ay,_⟩:∃f,fS (ko.take 300)=σ f/\s3 X.heap.size V aP cs f:=by
  rcases aU with⟨h,_⟩|⟨_,h⟩
  .cases h
  .exact h
 rw[au] at ax;cases ax;have az:=I.trans aO;rw[hM,hN,hP];refine bN a6.i λan bx bz aZ a1=>?_;refine cc (vs:=cs) a6.i aQ rfl aT a1 λa2 a7 bA bB=>?_;have Y:Ext V a2:=aZ.put a7 Ω;have a8:=aX.ext Y;refine aR (λv aa=>v= .bool false/\Ext w aa/\ ∃aN bp,bJ aa ab ad aN R (cd hg) nL bp) ?_ ?_
 rotate_left
 .intro av ac;rw[bu,Z8,aS];refine (w3 (a:=xc) rfl a8 (ak.ext (az.trans Y)) (λh=>by have:=ay 0 h;have:=Ec (ak.ext I);omega) aY.2.2.1).mono ?_;rintro _ bC _ ⟨rfl,bD,bE,aN,bp,ba,bb,_⟩;rw[OX,bh];refine ac _ _ ⟨by congr 1,?_,aN,_,bb⟩;exact (az.trans Y).then ba.1 λr bF h=>by have:=ay r h;have:=I.size;omega
 rintro _ aa ⟨rfl,bc,aN,bp,ae⟩;rw[aS];obtain⟨bd,bi,bj,bk,bl⟩:=OY;refine rM (l:=[0,0]) am.u ag.i Ω rfl Ψ λbG bH bI bK U bm=>?_;refine (oT (j:=0) (ae.ext U) bm.ls).mono ?_;rintro _ bL _ ⟨rfl,af⟩;rw[if_pos bd,bi,bf,bg];refine rM (l:=[0,1]) am.u ag.i Ω rfl Ψ λbM bO bP bQ ah bn=>?_;refine (oT (j:=0) (((ae.ext U).ext af).ext ah) bn.ls).mono ?_;rintro _ bR _ ⟨rfl,aA⟩;rw[if_pos bj,bk,bf,bg];refine (mn (i:=0) (v:=0) ((((ae.ext U).ext af).ext ah).ext aA)).mono ?_;rintro _ aC _ ⟨rfl,bo⟩;have bq:gK nL (0:Int).toNat (0:Int).toNat=3:=bl;rw[if_pos OZ,bq,bf,bg];have br:=((((bc.trans U).trans af).trans ah).trans aA).trans bo;refine aR (λv aC=>v= .bool true/\Ext w aC) (λ_ _ h=>h) λav ac=>?_;rw[be,ai];refine⟨λ_=>?_,λh=>absurd rfl h⟩;rw[be,ai];refine⟨λ_=>?_,λh=>absurd rfl h⟩;rw[be];exact ac _ _ ⟨rfl,br⟩
def qC (s:au):Prop:=∀f∈s.funs,f.live≠0
theorem O1 (n:aQ):qC (dd n):=by
 intro f I;unfold dd at I;obtain⟨g,_,rfl⟩:=o8.1 I;exact (by decide:(1:Int)≠0)
theorem O2 {a b:au} (h:e2 a b) (k:qC a):qC b:=by
 intro g U;obtain⟨j,I⟩:=List.getElem?_of_mem U;have V:=(x4.1 I).1;obtain⟨f,J⟩:=aF (l:=a.funs) (i:=j) (by have:=h.funs;omega);rw[(h.fn j f g J I).2.2.1];exact k f (x5 J)
section
variable {w:x3} {ab ad:Nat} {A R:ah} {n:aQ} {s:au} {t:ay} {ez:x1}
theorem O3 (h:bJ w ab ad A R n s t) (bA:jB w ez n.k n.sizes s) (bC:Laid w) (cl:s.funs.length<=100000) (bD:qC s):aj x7 yy [Γ ab,ez] w λv w'=>v= .bool true/\Ext w w':=by
 have an:=h.2.2.2.1;have cm:=an.vars;have one:∀ {w:x3} {α:Type} [ak α] {m:Bool} {S R:ah} {c:List x1} {l:List α},ak.rep m S R w c l-> ∃v,c=[v]:=λh=>by obtain⟨v,Y,_⟩:=h;exact⟨v,Y⟩
 refine aw func11 ?_;refine bm λg1 J cn ao bE=>?_;obtain⟨szv,cp,cq,cr,ct,cu,ap,aQ,_,bF,cw,bG,bd,cz⟩:=bA.box ao bE;have h1:=h.ext ao;intro V aU _ _;rw[aD a6.p 2 (ap.ext aU) rfl];refine (ql (h1.ext aU)).mono ?_;rintro _ aE _ ⟨rfl,X⟩;have aX:=aU.trans X;refine⟨.inl X,?_⟩;rw[bh,ai];refine⟨λbH=>absurd rfl bH,λ_=>?_⟩;rw[aD a6.p 1 (ap.ext aX) rfl,aV am.u (aQ.ext aX)];refine bU.range n.sizes.length (λi _ aE=>Ext J aE) aQ.le aX ?_ ?_
 .rintro i t4 aE bI hi X bK;obtain⟨z,aH⟩:=aF (l:=n.sizes) hi;obtain⟨x,au⟩:=aF (l:=s.vars) (i:=i) Ω;obtain⟨cA,cB,_⟩:=an.var i x z au aH;have cC:=an.gp.2.2 z (x5 aH);have bL:z=(x.un.length:Int):=Ω
  refine bB Ω ?_;rw[ba am.u ag.i Ψ (aQ.ext X) aH];intro av ac _ _;have aI:=X.trans ac;rw[aD a6.p 3 (ap.ext aI) rfl];refine jV (α:=Λ) (a:=aK x) rfl cO.u am.i (bq bF aI) (by rw[x8,au];rfl) λb o cs bM U=>?_;obtain⟨bO,rfl⟩:=one U;rw[aA (v:=bO) Ψ (by have:=bM 0 _ rfl;simpa using this)];refine (lK (i:=(i:Int)) (h1.ext aI)).mono ?_;rintro _ cD _ ⟨⟨cE,cF,rfl,be⟩,ax⟩;refine⟨.inl ax,?_⟩;refine pG.mono ?_;rintro _ aM _ ⟨aN,a1,rfl,cG,aY⟩;refine⟨.inl (ax.trans aN),?_⟩;have bj:=oV be Ω (by rw[u9];exact au);have ay:=(aI.trans ax).trans aN;have bP:=bC.ext (ao.trans ay);have cH:=ao.size;refine (BX (L:=aK x) (pF (g:=a1) be.1) (λk vs w hk=>by
    obtain⟨v,Y,rfl⟩:=hk;exact⟨v,by rw[<-bj,x8,Y];rfl,rfl⟩) (λa b U bk=>⟨bk.1.aa U λh=>by have:=aY.lt;have h:aM.heap.size<=a1:=h;omega,jQ U (λh=>by have h:aM.heap.size<=0:=h;have:=aY.lt;omega) bk.2⟩) ⟨aY,bP⟩ (by rw[<-bj,u7]) (by have:=DQ x;omega)).mono ?_
  rintro _ ae _ ⟨I,cI,_,bQ⟩;refine⟨.inl ((ax.trans aN).trans I),?_⟩;have bR:=ay.trans I;refine (zv bQ.ls (dp (bq (ho U) ((ax.trans aN).trans I)))).mono ?_;rintro _ az _ ⟨rfl,W⟩;rw[decide_eq_true rfl,bu,Z8,aS,bL];refine bU.range x.un.length (λv _ ae=>Ext J ae) Ω (bR.trans W) ?_ ?_
  .rintro v a2 ae bT Y I bV;obtain⟨c,U⟩:=aF (l:=x.un) Y;refine bB Ω ?_;refine (mn (i:=(i:Int)) (v:=(v:Int)) (h1.ext I)).mono ?_;rintro _ az _ ⟨rfl,W⟩;have bW:fy n i v:=⟨Ω,Ω,Ω,by rw[u9,u4,aH,V4];omega⟩;have bY:gK s (i:Int).toNat (v:Int).toNat=c:=by
    rw[u9,u9];unfold gK;rw[au];simp[u4,U]
   rw[if_pos bW,bY,bf,bg];refine aR (λv w'=>v= .bool false/\Ext J w') ?_ λcJ bZ=>?_
   .rintro _ bn ⟨rfl,aO⟩;rw[aS,aL];exact bV _ _ aO
   .have aB:=I.trans W;rw[bh,ai];refine⟨λh=>absurd rfl h,λ_=>?_⟩;rw[aD a6.p 5 (ap.ext aB) rfl];refine hq (α:=Λ) (a:=x.un) rfl rfl ec.u aq.i Ψ (bq bG aB) (by rw[x8,au];rfl) λcK b0=>?_;rw[ba aq.u al.i Ψ (dp b0) U,bh];exact bZ _ _ ⟨by congr 1;exact decide_eq_false Ω,aB⟩
  .rintro a2 ae bT I;refine b6 Ω ?_;rw[aL];exact bK _ _ I
 .rintro t4 aE bI X;refine b6 Ω ?_;rw[aD a6.p 6 (ap.ext X) rfl,gj e4.u (bq bd X),u7];refine bU.range s.funs.length (λj _ av=>Ext J av) Ω X ?_ ?_
  .rintro j a2 av b1 b2 ac b3;obtain⟨f,aC⟩:=aF (l:=s.funs) b2;have b4:=bD f (x5 aC);obtain⟨aP,a7,_⟩:=an.funs f (x5 aC);refine bB Ω ?_;refine l3 (α:=iD) (a:=hE f) ed.p rfl e4.u ed.i (bq bd ac) (by rw[x8,aC];rfl) λcs b5=>?_;obtain⟨aJ,bo,aW,rfl,b7,bp,br⟩:=mu b5;refine bN ed.i λga cL cM b8 b9=>?_;refine cc (vs:=[aJ,bo,aW,.bool (decide (f.live≠0))]) ed.i rfl rfl (N4 b7 bp br) b9 λaM ca cN bt=>?_;have a8:Ext av aM:=b8.put ca Ω;have ay:=ac.trans a8;have bb:dz f.af:=by rw[a7];exact np an.gp.2.2 λv Y=>⟨(aP.scope.1 v Y).1,aP.vars v Y⟩
   have cb:bX f.af:=⟨by rw[a7];unfold bS;rw[u7];exact aP.scope.2,bb⟩;have cP:=ij bb;have cQ:f.cs.length=(aG f.af).toNat:=by rw[a7];exact aP.len
   rw[aT ed.p rfl,aT aZ.p rfl,aA (v:=bo) Ψ (bt.cell (o:=0+0+1) rfl)];refine (u3 f.af (dp (bq bp a8)) cb).mono ?_;rintro cR ae _ ⟨I,bc⟩;rw[gj cO.u bc];refine bU.range (bi f.af).length (λq _ az=>Ext ae az) (m3 bc) (Ext.refl _) ?_ ?_
   .rintro q t5 az cd ce W cg;obtain⟨tl,bw⟩:=aF (l:=(bi f.af)) ce;obtain⟨c,U⟩:=aF (l:=f.cs) (i:=q) Ω;refine bB Ω ?_;refine hq (α:=Λ) (a:=tl) rfl rfl cO.u am.i Ψ (bq bc W) bw λu hu=>?_;have aB:=(ay.trans I).trans W;refine (oT (j:=j) (h1.ext aB) (dp (ho hu))).mono ?_;rintro _ bn _ ⟨rfl,aO⟩;have bx:=(I.trans W).trans aO;have bz:=iW bb bw;have ch:(fI s j tl).isSome=true:=by unfold fI;rw[aC];simp only;rw[if_pos b4,bz];rfl
    have ci:hF s j tl=c:=by unfold hF bl;rw[aC];simp only;rw[bz];simp[u4,U]
    rw[if_pos ch,ci,bf,bg];refine aR (λv w'=>v= .bool false/\Ext bn w') ?_ λcS cj=>?_
    .rintro _ cT ⟨rfl,ck⟩;rw[aS,aL];exact cg _ _ ((W.trans aO).trans ck)
    rw[bh,ai];refine⟨λh=>absurd rfl h,λ_=>?_⟩;rw[aT ed.p rfl,aT aZ.p rfl,aA (v:=aW) Ψ ((bt.ext bx).cell (o:=0+0+2) rfl),ba aq.u al.i Ψ (dp (bq br (a8.trans bx))) U,bh];exact cj _ _ ⟨by congr 1;exact decide_eq_false Ω,Ext.refl _⟩
   .rintro t5 az cd W;refine b6 Ω ?_;rw[aL];exact b3 _ _ ((ay.trans I).trans W)
  .rintro a2 av b1 ac;refine b6 Ω ?_;exact⟨rfl,ao.trans ac⟩
end
section
variable {Z aH:ah} {w:x3} {ab ad an:Nat} {n:aQ} {s:au} {a:eF}
def xd (Z aH:ah) (w:x3) (ab ad an:Nat) (n:aQ) (s':au) (v:x1) (w':x3):Prop:=v= .bool true/\ae (λr=>Z r/\¬aH r) w w'/\ ∃eV,(∀r,eV r->Z r\/w.heap.size<=r)/\eb eV aH w' ab ad an n s'
theorem Ed (h:eb Z aH w ab ad an n s) (au:a.ok):aj x7 uh [Γ ab,Γ an,.agg a.bL.toArray] w (xd Z aH w ab ad an n (iG n s a)):=by
 obtain⟨A,R,A9,t,cs,p,⟨aL,ak⟩,am,ao,aM⟩:=id h;have ap:=p.et.2.2.2.1;have aY:=a.w9;have ax:=au.1;refine aw func10 ?_;refine bm λga J aZ ay aq=>?_;have aq:ac J ga bK a.bL:=aq;intro V az _ _;have aA:=ay.trans az;have aB:=aq.ext az;rw[bQ];refine (p.ext aA).look.load λez aN=>?_;rw[bI bK.p bK.i rfl aB.range];refine (OO aN ap am.1 au).mono ?_;rintro _ a1 _ ⟨rfl,aC⟩;rw[aT bK.p rfl];have aO:=aA.trans aC;have a2:=ay.size;refine bz (o:=0+4) al.i rfl rfl (aB.ext aC) (by simp[eF.bL]) λaE aP a6 X=>?_;have X:ac aE ga bK [.int .u8 a.d,Δ a.i,Δ a.pos,Δ a.v,Δ (o1 n.k s a),.bool a.o0]:=X;have ah:Ext w aE:=aO.put aP Ω;have aF:(a.d % 6).toNat=a.kind:=rfl;rw[aD bK.p 0 X rfl,qB ax.1,aF,e7 cE.u ag.u,wrap_i64 Ω Ω,aD bK.p 1 X rfl,aD bK.p 2 X rfl,aD bK.p 3 X rfl,aD bK.p 4 X rfl];have aQ:=OS am ap (h8 n.k s a);have aG:=p.ext ah;have a7:(h8 n.k s a).kind=a.kind:=rfl;refine (OT (m:=h8 n.k s a) aG ap am.1 Ω).mono ?_;rintro _ aI _ ⟨rfl,aJ⟩;obtain⟨aK,a8,ba,W,bb⟩:=id aJ;have aS:∀r,(∃q,A9 q r)\/r=an->r<w.heap.size:=λr I=>I.elim (λ⟨q,h⟩=>aM q r h) λh=>by rw[h];exact p.box.lt
 have U:=X.aa aK λI=>by have:=aS ga I;omega
 have Y:Laid aI:=jQ aK (λh=>ak ((ao 0).2 (h.elim (λh=>.inr (.inr (.inl h))) λh=>.inr (.inr (.inr (.inr h)))))) (aL.ext ah);have ae:¬A 0:=λh=>ak ((ao 0).2 (.inl h));have z4:=ah.size;refine aR (nK aI ab ad A R n s (h8 n.k s a)) ?_ λav af=>?_
 .rintro _ bc ⟨rfl,aU⟩;obtain⟨aV,eV,aW,aX⟩:=eb.step aG ao aQ ak aJ (Ext.refl _) aU;rw[be,decide_eq_true rfl];exact⟨rfl,(ah.aa _).trans aV,eV,λr I=>(aW r I).imp id λh=>Ω,aX⟩
 rw[aD bK.p 0 U rfl,qB ax.1,aF,be,ai];refine⟨λhk=>?_,λbd=>?_⟩
 .rw[aD bK.p 1 U rfl,aD bK.p 2 U rfl,aD bK.p 3 U rfl,aD bK.p 4 U rfl];exact (w3 (a:=h8 n.k s a) Ω W.et Y ae W.iC).mono λr w' _ I=>af _ _ I
 rw[be,ai];refine⟨λhk=>?_,λbf=>?_⟩
 .rw[aD bK.p 1 U rfl,aD bK.p 2 U rfl,aD bK.p 3 U rfl,aD bK.p 4 U rfl];exact (Ow (a:=h8 n.k s a) Ω W.et Y ae W.iC).mono λr w' _ I=>af _ _ I
 rw[be,ai];refine⟨λhk=>?_,λbg=>?_⟩
 .rw[aD bK.p 1 U rfl,aD bK.p 4 U rfl];exact (OB (a:=h8 n.k s a) Ω W.et Y ae W.iC).mono λr w' _ I=>af _ _ I
 rw[be,ai];refine⟨λhk=>?_,λbh=>?_⟩
 .rw[aD bK.p 1 U rfl,aD bK.p 4 U rfl];exact (OD (a:=h8 n.k s a) Ω W.et Y ae W.iC).mono λr w' _ I=>af _ _ I
 rw[be,ai];refine⟨λhk=>?_,λbi=>?_⟩
 .rw[aD bK.p 1 U rfl,aD bK.p 3 U rfl];exact (OE (a:=h8 n.k s a) Ω W.et Y ae W.iC).mono λr w' _ I=>af _ _ I
 .rw[aD bK.p 1 U rfl,aD bK.p 3 U rfl];exact (OF (a:=h8 n.k s a) Ω W.et Y ae W.iC).mono λr w' _ I=>af _ _ I
end
theorem xe {p:x1} {ah:x3->Prop} {K:x1->x1->x1->x3->Prop} (ai:aB .u8 w p pl) (ak:∀b∈pl,0<=b/\b<256) (ac:dA w) (W:Laid w) (al:∀g w',Ext w w'->K (.pointer ν) (Γ g) (.bool false) w')
  (am:∀f ab ad an Z aH w',fS (pl.take 300)=σ f->Ext w w'->eb Z aH w' ab ad an (cd f) (dd (cd f))->(∀r,Z r->w.heap.size<=r)->K (Γ ab) (Γ an) (.bool true) w'):
  aj x7 yw [] w λao J=>
 U x7 (Op.unary .not ao) J λap=>
 Split ap (ah J)
  (aj x7 yx [p] J λX V=>
 U x7 (Z1 X 0) V λaq=>
 U x7 (Z1 X 1) V λau=>
 U x7 (Z1 X 2) V λav=>
 ax x7 (R2 a6 true (.tuple #[])) V λx ae=>
 ax x7 (o7 a6 x au) ae λ(_:Unit) Y=>K aq x av Y):=by
 refine (O0 ac W).mono ?_;rintro _ J _ ⟨rfl,I⟩;rw[bu,Z8,aS];refine (D8 (ai.ext I) ak (ac.ext I)).mono ?_;rintro _ V _ ⟨af,aM,cs,ok,rfl,⟨aw,ay⟩,az,_⟩;rw[hM,hN,hP];have aA:=I.trans af;refine bN a6.i λan ae aN aC aD=>?_;refine cc (vs:=cs) a6.i aw rfl ay aD λY aE aO aF=>?_;have ag:Ext V Y:=aC.put aE Ω;have aa:=aA.trans ag;rcases az with⟨rfl,rfl⟩|⟨rfl,f,aG,aI⟩
 .exact al _ _ aa
 have aP:=I.size;obtain⟨ab,ad,Z,aH,rfl,aJ,aK⟩:=OU aI ag aF Ω af.size (Ec (W.ext I)) (W.ext aa);exact am f ab ad an Z aH _ aG aa aJ λr aL=>by have:=aK r aL;omega
def jH (w0 w:x3) (ab ad an:Nat) (n:aQ):Prop:=Ext w0 w/\ ∃s Z aH,eb Z aH w ab ad an n s/\ ∀r,Z r->w0.heap.size<=r
section
variable {w0 w w':x3} {ab ad an:Nat} {n:aQ} {s:au} {Z aH:ah}
theorem jH.ext (h:jH w0 w ab ad an n) (I:Ext w w'):jH w0 w' ab ad an n:=by
 obtain⟨J,s,Z,aH,U,V⟩:=h;exact⟨J.trans I,s,Z,aH,U.ext I,V⟩
theorem xd.ext {v:x1} (h:xd Z aH w ab ad an n s v w') (I:Ext w0 w) (J:∀r,Z r->w0.heap.size<=r):v= .bool true/\Ext w0 w'/\ ∃eV,(∀r,eV r->w0.heap.size<=r)/\eb eV aH w' ab ad an n s:=by
 obtain⟨rfl,V,eV,W,X⟩:=h;have z:=I.size;exact⟨rfl,I.then V λr U h=>by have:=J r h.1;omega,eV,λr U=>(W r U).elim (J r) λh=>Ω,X⟩
theorem jH.do {a:eF} (h:jH w0 w ab ad an n) (I:a.ok):aj x7 uh [Γ ab,Γ an,.agg a.bL.toArray] w λv w'=>v= .bool true/\jH w0 w' ab ad an n:=by
 obtain⟨J,s,Z,aH,U,V⟩:=h;refine (Ed U I).mono λv w' _ W=>?_;obtain⟨rfl,X,eV,Y,aa⟩:=W.ext J V;exact⟨rfl,X,_,eV,aH,aa,Y⟩
theorem xf {L:List jf} {K:x1->x3->Prop} {i:Nat} {x:jf} (W:Seen dY w [I] L) (X:L[i]? =σ x) (Y:∀g w',Ext w w'->w.heap.size<=g->ac w' g bK (jG x).bL->K (Γ g) w'):
  U x7 (j5 lp I (Δ (i:Int))) w λaa=>
  U x7 (u5 bK aa) w λab=>
  ax x7 (R2 bK true (.tuple #[])) w λa J=>
  ax x7 (o7 bK a ab) J λ(_:Unit) V=>K a V:=by
 refine l3 (α:=jf) bK.p rfl lp.u bK.i W X λcs ad=>?_;obtain rfl:=OM ad;refine bN bK.i λgy J ai ae af=>?_;refine cc (vs:=(jG x).bL) bK.i rfl rfl (eF.one _) af λV ag aj ah=>?_;exact Y _ _ (ae.put ag Ω) Ω ah
theorem O4 {Y:x1} {L:List jf} {K:x3->Prop} (h:jH w0 w ab ad an n) (J:Seen dY w0 [Y] L) (ao:∀x∈L,(jG x).ok) (ap:∀w',jH w0 w' ab ad an n->K w'):
  U x7 (W3 #[lp] ag #[Y]) w λaq=>
 ce (Δ 0) w λW I k=>
  U x7 (aE .lss ag false false W aq) I λau=>
  Split au (cg (α:=x3->Prop) (λ(ac:x3)=>
   U x7 (aE .add ag false true W (Δ 1)) ac λaw=>
   k aw ac) λae=>
  U x7 (j5 lp Y W) I λay=>
  U x7 (u5 bK ay) I λaz=>
  ax x7 (R2 bK true (.tuple #[])) I λb af=>
  ax x7 (o7 bK b az) af λ(_:Unit) X=>
  U x7 (aE .lss ag false true W (Δ 12)) X λaA=>
  Split aA (U x7 (u5 bK b) X λaB=>
   aj x7 uh [Γ ab,Γ an,aB] X λaJ ah=>
   ae ah)
   (ae X))
   (K I):=by
 rw[gj lp.u (bq J h.1)];refine ce.range L.length (λi aa=>jH w0 aa ab ad an n) (m3 J) h ?_ ?_
 .rintro i aa aC hi V aD;obtain⟨x,ak⟩:=aF (l:=L) hi;have aG:=ao x (x5 ak);refine bB Ω ?_;refine db (λI=>jH w0 I ab ad an n) (λI aH=>by rw[aL];exact aD _ aH) λav al=>?_;refine xf (bq J V.1) ak λgy af am _ aI=>?_;rw[aP,ai];refine⟨λ_=>?_,λ_=>al _ (V.ext am)⟩;rw[bI bK.p bK.i rfl aI.range];exact ((V.ext am).do aG).mono λv ah _ J=>al _ J.2
 .rintro aa aC V;exact b6 Ω (ap _ V)
end
theorem eb.live {Z aH:ah} {ab ad an:Nat} {n:aQ} {s:au} (h:eb Z aH w ab ad an n s):qC s/\s.funs.length<=256:=by
 obtain⟨_,_,I,J⟩:=h.ok;refine⟨O2 I (O1 n),?_⟩;rw[I.funs];unfold dd;rw[u7];exact J
theorem eb.O5 {Z aH:ah} {ab ad an:Nat} {n:aQ} {s:au} {K:x1->x3->Prop} (h:eb Z aH w ab ad an n s) (I:∀w',Ext w w'->K (.bool true) w'):
  U x7 (u5 a6 (Γ an)) w λJ=>aj x7 yy [Γ ab,J] w K:=by
 obtain⟨A,R,t,V,W,_⟩:=h.et;obtain⟨X,aa⟩:=h.live;refine h.look.load λu hu=>?_;refine (O3 V hu W Ω X).mono ?_;rintro _ w' _ ⟨rfl,Y⟩;exact I _ Y
theorem O6 {p V:x1} {L:List jf} {Q:x1->x3->Prop} (W:∀w',Ext w w'->Q (.bool true) w') (af:aB .u8 w p pl) (ag:∀b∈pl,0<=b/\b<256) (J:Seen dY w [V] L) (ah:∀x∈L,(jG x).ok) (ak:dA w) (al:Laid w):
  aj x7 yt [p,V] w Q:=by
 refine aw func3 ?_;refine xe af ag ak al ?_ ?_
 .intro g w' am;rw[bu,X3,bA,cV dH.u];exact W _ am
 intro f ab ad an Z aH aE aG X ao ap;rw[bu,Z8,aS];refine aR (λ_ Y=>jH w Y ab ad an (cd f)) ?_ λav aa=>?_
 .rintro t4 Y ⟨aq,s,eV,R',au,_⟩;exact au.O5 λw' ax=>W _ (aq.trans ax)
 rw[gj lp.u (bq J X)];refine bU.range L.length (λi _ U=>jH w U ab ad an (cd f)) (m3 J) ⟨X,_,Z,aH,ao,ap⟩ ?_ ?_
 .rintro i t4 U ay hi I az;obtain⟨x,ac⟩:=aF (l:=L) hi;have aA:=ah x (x5 ac);refine bB Ω ?_;refine xf (bq J I.1) ac λgy aI ae _ aC=>?_;rw[cK,ai];refine⟨λ_=>aa _ _ (I.ext ae),λ_=>?_⟩;rw[bI bK.p bK.i rfl aC.range];refine ((I.ext ae).do aA).mono ?_;rintro _ aJ _ ⟨rfl,aD⟩;rw[bu,Z8,aS,aL];exact az _ _ aD
 .rintro t4 U ay I;exact b6 Ω (aa _ _ I)
theorem O7 {p:x1} {L:List jf} (J:aB .u8 w p pl) (U:∀b∈pl,0<=b/\b<256) (V:Seen dY w [I] L) (W:∀x∈L,(jG x).ok) (X:dA w) (Y:Laid w):
  aj x7 yt [p,I] w λv w'=>v= .bool true/\Ext w w':=O6 (λw' aa=>⟨rfl,aa⟩) J U V W X Y
section
variable {w:x3} {i j pos v c:x1}
theorem Ee:aj x7 yE [.pointer ν,i] w λr w'=>r=Δ 2/\Ext w w':=by
 refine aw func53 ?_;rw[cV dH.u];simp only[Option.isNone_none,bA];exact⟨by trivial,Ext.refl _⟩
theorem Ef:aj x7 yF [.pointer ν,i,v] w λr w'=>r=Δ 2/\Ext w w':=by
 refine aw func56 ?_;rw[cV dH.u];simp only[Option.isNone_none,bA];exact⟨by trivial,Ext.refl _⟩
theorem xg:aj x7 yD [.pointer ν,j,pos,v] w λr w'=>r= .tuple #[Δ 0,Δ 2]/\Ext w w':=by
 refine aw func47 ?_;rw[cV dH.u];simp only[Option.isNone_none,bA];exact⟨by trivial,Ext.refl _⟩
theorem O8:aj x7 ui [.pointer ν,j,pos,v] w λr w'=>r= .tuple #[Δ 0,Δ 2]/\Ext w w':=by
 refine aw func12 ?_;refine xg.mono ?_;rintro _ J _ ⟨rfl,I⟩;rw[bf,bg,bh,ai];exact⟨λ_=>⟨rfl,I⟩,λh=>absurd Φ h⟩
theorem O9:aj x7 rl [.pointer ν,j,pos,v,c] w λr w'=>r=Δ 2/\Ext w w':=by
 refine aw func13 ?_;refine xg.mono ?_;rintro _ J _ ⟨rfl,I⟩;rw[bf,bg,bh,ai];exact⟨λ_=>⟨rfl,I⟩,λh=>absurd Φ h⟩
theorem Pa:aj x7 uj [.pointer ν,j,pos,v,c] w λr w'=>r=Δ 2/\Ext w w':=by
 refine aw func14 ?_;refine xg.mono ?_;rintro _ J _ ⟨rfl,I⟩;rw[bf,bg,bh,ai];exact⟨λ_=>⟨rfl,I⟩,λh=>absurd Φ h⟩
theorem Pb {i:Int}:aj x7 uk [.pointer ν,Δ i,c] w λr w'=>r=Δ 2/\Ext w w':=by
 refine ie func15 ?_;refine bm λg1 J ad X I=>?_;refine bm λY V ae W U=>?_;have I:ac V g1 dH [.pointer ν]:=I.ext W;have U:ac V Y ag [Δ i]:=U;rw[aA (v:=.pointer ν) Ψ (I.Qz rfl),aA (v:=Δ i) Ψ (U.Qz rfl)];refine Ee.mono ?_;rintro _ af _ ⟨rfl,aa⟩;rw[bh,ai];refine⟨λ_=>?_,λh=>absurd Φ h⟩;intro ah ab _;exact⟨rfl,((X.trans W).trans aa).trans ab⟩
theorem Pc:aj x7 ul [.pointer ν,i,c] w λr w'=>r=Δ 2/\Ext w w':=by
 refine aw func16 ?_;refine Ee.mono ?_;rintro _ J _ ⟨rfl,I⟩;rw[bh,ai];exact⟨λ_=>⟨rfl,I⟩,λh=>absurd Φ h⟩
theorem Pd:aj x7 um [.pointer ν,i,v] w λr w'=>r=Δ 2/\Ext w w':=by
 refine aw func17 ?_;refine Ef.mono ?_;rintro _ J _ ⟨rfl,I⟩;rw[bh,ai];exact⟨λ_=>⟨rfl,I⟩,λh=>absurd Φ h⟩
theorem Pe {i v:Int}:aj x7 uo [.pointer ν,Δ i,Δ v] w λr w'=>r=Δ 2/\Ext w w':=by
 refine ie func18 ?_;refine bm λg1 J ak ab I=>?_;refine bm λad V al aa U=>?_;refine bm λae W am X Y=>?_;have I:ac W g1 dH [.pointer ν]:=(ac.ext I aa).ext X;have U:ac W ad ag [Δ i]:=ac.ext U X;have Y:ac W ae ag [Δ v]:=Y;rw[aA (v:=.pointer ν) Ψ (I.Qz rfl),aA (v:=Δ i) Ψ (U.Qz rfl),aA (v:=Δ v) Ψ (Y.Qz rfl)];refine Ef.mono ?_;rintro _ an _ ⟨rfl,af⟩;rw[bh,ai];refine⟨λ_=>?_,λh=>absurd Φ h⟩;intro ao ah _;exact⟨rfl,(((ab.trans aa).trans X).trans af).trans ah⟩
end
theorem Eg {K:x1->x3->Prop} (af:∀w',Ext w w'->K (.bool false) w'):
  aj x7 ui [(.pointer ν),Δ j,Δ pos,Δ v] w λac I=>
 U x7 (Z1 ac 0) I λaI=>
 U x7 (Z1 ac 1) I λag=>
 cg (α:=x1->x3->Prop) (λ(ah:x1) (ad:x3)=>K ah ad) λav=>
 U x7 (aE .neq gg false true ag (Δ 2)) I λak=>
 Split ak (av (.bool true) I)
  (aj x7 rl [(.pointer ν),Δ j,Δ pos,Δ v,(Δ 0)] I λal W=>
 U x7 (aE .neq gg false true al (Δ 2)) W λam=>
 Split am (av (.bool true) W)
  (aj x7 uj [(.pointer ν),Δ j,Δ pos,Δ v,(Δ 0)] W λt50 X=>
 U x7 (aE .neq gg false true t50 (Δ 2)) X λan=>
 Split an (av (.bool true) X)
  (aj x7 uk [(.pointer ν),Δ j,(Δ 0)] X λt55 Y=>
 U x7 (aE .neq gg false true t55 (Δ 2)) Y λao=>
 Split ao (av (.bool true) Y)
  (aj x7 ul [(.pointer ν),Δ j,(Δ 0)] Y λap aa=>
 U x7 (aE .neq gg false true ap (Δ 2)) aa λaq=>
 Split aq (av (.bool true) aa)
  (aj x7 um [(.pointer ν),Δ j,Δ v] aa λt66 ab=>
 U x7 (aE .neq gg false true t66 (Δ 2)) ab λau=>
 Split au (av (.bool true) ab)
  (aj x7 uo [(.pointer ν),Δ j,Δ v] ab λaw ae=>
 U x7 (aE .neq gg false true aw (Δ 2)) ae λax=>
 av ax ae)))))):=by
 refine O8.mono ?_;rintro _ J _ ⟨rfl,ay⟩;rw[bf,bg];refine aR (λr w'=>r= .bool false/\Ext w w') ?_ λav az=>?_
 .rintro _ w' ⟨rfl,aA⟩;exact af _ aA
 rw[bh,ai];refine⟨λh=>absurd rfl h,λ_=>?_⟩;refine O9.mono ?_;rintro _ V _ ⟨rfl,aB⟩;rw[bh,ai];refine⟨λh=>absurd rfl h,λ_=>?_⟩;refine Pa.mono ?_;rintro _ aJ _ ⟨rfl,aC⟩;rw[bh,ai];refine⟨λh=>absurd rfl h,λ_=>?_⟩;refine Pb.mono ?_;rintro _ aK _ ⟨rfl,aD⟩;rw[bh,ai];refine⟨λh=>absurd rfl h,λ_=>?_⟩;refine Pc.mono ?_;rintro _ I _ ⟨rfl,aF⟩;rw[bh,ai];refine⟨λh=>absurd rfl h,λ_=>?_⟩;refine Pd.mono ?_;rintro _ ad _ ⟨rfl,aG⟩;rw[bh,ai];refine⟨λh=>absurd rfl h,λ_=>?_⟩;refine Pe.mono ?_;rintro _ aL _ ⟨rfl,aH⟩;rw[bh];exact az _ _ ⟨rfl,((((((ay.trans aB).trans aC).trans aD).trans aF).trans aG).trans aH)⟩
section
variable {k:Int} {sizes:Λ} {s:au} {j pos v u:Int} {f:cJ} {x:bP}
theorem xh (I:bH k sizes s) (J:f∈s.funs):0<=fY k s f pos.toNat v/\fY k s f pos.toNat v<=k:=by
 have hk:=I.fc;refine tt _ _ (λc U=>?_) ⟨Ω,Int.le_refl _⟩;obtain⟨tl,_,rfl⟩:=o8.1 U;exact lL I J
theorem Pf (U:bH k sizes s) (J:ds s j pos v=σ (f,u,x)):(b0 k s ⟨0,j,pos,v,fY k s f pos.toNat v⟩).2=0:=by
 have h:=xh (pos:=pos) (v:=v) U (x5 (jb J).2.2.1);unfold b0;simp only[J,if_true];rw[if_neg];unfold cZ;rw[if_neg λI=>I h,if_neg (Int.lt_irrefl _)];exact λI=>I rfl
theorem Pg (J:bH k sizes s) (I:ds s j pos v=σ (f,u,x)) (W:fY k s f pos.toNat v<k):b0 k s ⟨0,j,pos,v,fY k s f pos.toNat v+1⟩=(s,7):=by
 have h:=xh (pos:=pos) (v:=v) J (x5 (jb I).2.2.1);have U:cZ k (fY k s f pos.toNat v+1) (fY k s f pos.toNat v)=7:=by
  unfold cZ;rw[if_neg λV=>V ⟨Ω,Ω⟩,if_pos Ω]
 unfold b0;simp only[I,if_true];rw[U,if_pos Φ]
end
section
variable {Z aH:ah} {w:x3} {ab ad an:Nat} {n:aQ} {s:au}
theorem eb.proj (h:eb Z aH w ab ad an n s):aj x7 rl [Γ ab,Δ j,Δ pos,Δ v,Δ c] w λr w'=>r=Δ (b0 n.k s ⟨0,j,pos,v,c⟩).2/\ae Z w w'/\((b0 n.k s ⟨0,j,pos,v,c⟩).1=s-> ∃eV,(∀r,eV r->Z r\/w.heap.size<=r)/\eb eV aH w' ab ad an n s):=by
 obtain⟨A,R,A9,t,cs,p,⟨U,J⟩,V,I,X⟩:=id h;refine (w3 (a:=⟨0,j,pos,v,c⟩) rfl p.et U (λh=>J ((I 0).2 (.inl h))) p.iC).mono ?_;rintro _ w' _ ⟨rfl,hm⟩;obtain⟨_,_,_,_,W,_⟩:=id hm;refine⟨rfl,W.1.mono λr _ h=>(I r).2 (.inl h),λhe=>?_⟩;rw[he] at hm;exact (eb.step p I V J (dt.same p (Ext.refl _)) (Ext.refl _) hm).2
end
theorem Ph {p am:x1} {L:List jf} {Q:x1->x3->Prop} (ac:∀w',Ext w w'->Q (.bool true) w') (az:aB .u8 w p pl) (aA:∀b∈pl,0<=b/\b<256) (aC:Seen dY w [am] L) (aE:∀x∈L,(jG x).ok) (aF:dA w) (aG:Laid w):
  aj x7 yu [p,am,Δ j,Δ pos,Δ v] w Q:=by
 refine aw func4 ?_;refine xe az aA aF aG ?_ ?_
 .intro g w' aI;refine Eg λJ aJ=>?_;rw[aS,bu,X3,bA,cV dH.u];exact ac _ (aI.trans aJ)
 intro f ab ad an Z aH bc bd aK aM aN;refine Eg λbi ao=>?_;rw[aS,bu,Z8,aS];refine O4 ⟨aK.trans ao,_,Z,aH,aM.ext ao,aN⟩ aC aE ?_;rintro bj ⟨ap,s,aq,aO,ae,aQ⟩;obtain⟨U,au,_⟩:=ae.ok;obtain⟨A,R,t,aT,aU,_⟩:=ae.et;refine (Oj aT aU).mono ?_;rintro _ bk _ ⟨af,rfl⟩;have Y:=ae.ext af;cases V:ds s j pos v with
 |none=>
  simp only;rw[bf,bg];refine Y.look.load λez ag=>?_;refine (th (j:=j) (pos:=pos) (v:=v) ag U au).mono ?_;rintro _ aa _ ⟨W,rfl⟩;rw[V];simp only;rw[bf,bg];have X:=(ap.trans af).trans W;refine aR (λr w'=>r= .bool true/\aa=w') ?_ λav I=>?_
  .rintro _ _ ⟨rfl,rfl⟩;rw[bA];refine aR (λr w'=>r= .bool true/\aa=w') ?_ λav I=>?_
   .rintro _ _ ⟨rfl,rfl⟩;exact ac _ X
   rw[be,ai];refine⟨λ_=>?_,λh=>absurd rfl h⟩;rw[bu,X3,bA,be];exact I _ _ ⟨rfl,rfl⟩
  .rw[be,DR eW.u];rw[show (!(decide ((1:Int)=0) == false))=false from rfl,aS,bu,X3];exact I _ _ ⟨rfl,rfl⟩
 |some q=>
  obtain⟨aV,u,x⟩:=q;simp only;rw[bf,bg];obtain⟨szv,bl,bm,bn,bo,bp,aW,_⟩:=Y.look;refine Y.look.load λez ag=>?_;refine (th (j:=j) (pos:=pos) (v:=v) ag U au).mono ?_;rintro _ aa _ ⟨W,rfl⟩;rw[V];simp only;rw[bf,bg];have X:=(ap.trans af).trans W;have bq:=xh (pos:=pos) (v:=v) U (x5 (jb V).2.2.1);have br:=U.fc;have aX:=Pf U V;have aY:=Pg U V;generalize bt:fY (cd f).k s aV pos.toNat v=c at*;refine aR (λr w'=>r= .bool false/\aa=w') ?_ λav I=>?_
  rotate_left
  .rw[be,DR eW.u];rw[show (!(decide ((0:Int)=0) == true))=false from rfl,aS,bu,Z8];exact I _ _ ⟨rfl,rfl⟩
  rintro _ _ ⟨rfl,rfl⟩;rw[aS,bh,ai];refine⟨λh=>absurd rfl h,λ_=>?_⟩;refine aR (λr w'=>r= .bool false/\Ext w w'/\ ∃eV,eb eV aO w' ab ad an (cd f) s/\ ∀r,eV r->w.heap.size<=r) ?_ λav I=>?_
  .rintro _ bw ⟨rfl,aZ,eV,a1,a2⟩;rw[aS];refine a1.proj.mono ?_;rintro _ a7 _ ⟨rfl,ah,_⟩;rw[aX,be];exact ac _ (aZ.then ah λr ak h=>by have:=a2 r h;omega)
  have ax:=Y.ext W;have al:∀r,aq r->w.heap.size<=r:=aQ;rw[aD a6.p 0 (aW.ext W) rfl,aP,ai];refine⟨λa8=>?_,λ_=>I _ _ ⟨rfl,X,aq,ax,al⟩⟩;rw[aL,wrap_i64 Ω Ω];refine ax.proj.mono ?_;rintro _ a7 _ ⟨rfl,ah,ay⟩;rw[aY a8] at ay ⊢;obtain⟨eV,ba,bb⟩:=ay rfl;have z9:=X.size;rw[bh];exact I _ _ ⟨rfl,X.then ah λr ak h=>by have:=al r h;omega,eV,bb,λr ak=>(ba r ak).elim (al r) λh=>Ω⟩
theorem Pj {p:x1} {L:List jf} (J:aB .u8 w p pl) (U:∀b∈pl,0<=b/\b<256) (V:Seen dY w [I] L) (W:∀x∈L,(jG x).ok) (X:dA w) (Y:Laid w):
  aj x7 yu [p,I,Δ j,Δ pos,Δ v] w λv w'=>v= .bool true/\Ext w w':=Ph (λw' aa=>⟨rfl,aa⟩) J U V W X Y
def tu (sizes a:Λ):Prop:=a.length=sizes.length/\ ∀ (q:Nat) z b,sizes[q]? =σ z->a[q]? =σ b->0<=b/\b<z
def Pk (sizes:Λ) (L:List (Λ)):Prop:=L.length<=90/\ ∀a∈L,tu sizes a
def kr (sizes:Λ) (k:Nat):Λ:=(W7 sizes.length).map λi:Nat=>((k:Int)*(2*(i:Int)+1)+(k:Int) / 3) % sizes.getD i 0
theorem qO (sizes:Λ) (k:Nat):(kr sizes k).length=sizes.length:=by simp[kr]
theorem Eh {k i:Nat} {z:Int} (h:sizes[i]? =σ z):(kr sizes k)[i]? =σ (((k:Int)*(2*(i:Int)+1)+(k:Int) / 3) % z):=by
 unfold kr;rw[x8,List.getElem?_range (x4.1 h).1,Z2,u4,h];rfl
theorem Pl (k:Nat) (h:∀z∈sizes,1<=z/\z<=32):tu sizes (kr sizes k):=by
 refine⟨qO _ _,λq z b I J=>?_⟩;rw[Eh I] at J;cases J;have:=h z (x5 I);exact⟨Int.emod_nonneg _ Ω,Int.emod_lt_of_pos _ Ω⟩
theorem Pm {a:Λ} (h:a∈bi sizes):tu sizes a:=by
 rw[s4] at h;obtain⟨h1,I⟩:=qm.1 h;rw[u7] at h1;refine⟨h1,λq z b J U=>?_⟩;exact qn.1 (I q (gL z) b (by rw[x8,J];rfl) U)
theorem xi {k:Int} {a:Λ} {s:au} (I:bH k sizes s) (h:tu sizes a):hC s a:=by
 have V:=I.vars;refine⟨by rw[h.1,V],λi x v J W=>.inr ?_⟩;obtain⟨z,U⟩:=aF (l:=sizes) (i:=i) (by have:=(x4.1 J).1;omega);have h1:=(I.var i x z J U).1;have X:=h.2 i z v U W;omega
theorem Pn {m:Nat} (h:m<=11):(32:Int) ^ m<=36028797018963968:=by
 match m,h with
 |0,_=>decide
 |1,_=>decide
 |2,_=>decide
 |3,_=>decide
 |4,_=>decide
 |5,_=>decide
 |6,_=>decide
 |7,_=>decide
 |8,_=>decide
 |9,_=>decide
 |10,_=>decide
 |11,_=>decide
theorem Po {sv:x1} (h:aB .i64 w sv l) (I:∀x∈l,1<=x/\x<=32):
  aj x7 FB [sv] w λv w'=>(∃c:Int,v=Δ c/\(l.length<=11->c=aG l))/\Ext w w':=by
 refine aw func62 ?_;rw[aV am.u h];refine bU.range l.length (λi n J=>Ext w J/\ ∃c:Int,n=Δ c/\(i<=11->c=aG (l.take i))) h.le ⟨Ext.refl _,1,rfl,λ_=>rfl⟩ ?_ ?_
 .rintro i _ J k hi ⟨U,c,rfl,V⟩ hk;obtain⟨x,W⟩:=aF (l:=l) hi;refine bB Ω ?_;rw[ba am.u ag.i Ψ (h.ext U) W,gh,aL];refine hk _ _ ⟨U,_,rfl,λaa=>?_⟩;rw[V Ω,oe W];have X:=kH (l.take (i+1)) λy Y=>I y (S8 Y);have h1:=Pn (m:=(l.take (i+1)).length) (by rw[j0];omega);rw[oe W] at X;exact wrap_i64 Ω Ω
 .rintro _ J k ⟨U,c,rfl,V⟩;refine b6 Ω ?_;rw[o6] at V;exact⟨⟨c,rfl,V⟩,U⟩
theorem Pp {sv:x1} (h:aB .i64 w sv l) (I:∀x∈l,1<=x/\x<=32) (aY:l.length<=64):
  aj x7 E8 [sv] w λv w'=>Ext w w'/\ ∃L,bx (dZ w.heap.size) bo w' [v] L/\Pk l L:=by
 refine aw func20 ?_;refine (Po h I).mono ?_;rintro _ J _ ⟨⟨c,rfl,az⟩,U⟩;have aZ:=kH l I;refine aR (λv V=>J=V/\ ∃b,v= .bool b/\(b=true->l.length<=11/\aG l<=90)) ?_ λav ad=>?_
 rotate_left
 .rw[lr,ai];refine⟨λaA=>?_,λ_=>ad _ _ ⟨rfl,false,rfl,λh=>by cases h⟩⟩;rw[bM,ai];refine⟨λa1=>?_,λ_=>ad _ _ ⟨rfl,false,rfl,λh=>by cases h⟩⟩;rw[aV am.u (h.ext U),aP];exact ad _ _ ⟨rfl,_,rfl,λaq=>by
   have aq:=of_decide_eq_true aq;have ae:l.length<=11:=Ω
   exact⟨ae,by rw[<-az ae];omega⟩⟩
 rintro _ _ ⟨rfl,b,rfl,aC⟩;rw[cz];refine⟨λaD=>?_,λ_=>?_⟩
 .obtain⟨ae,aA⟩:=aC aD;refine (u2 l (h.ext U) ⟨Ω,I,Ω⟩).mono ?_;rintro v V _ ⟨W,Y⟩;have a2:=ij I;have aE:=U.size;exact⟨U.trans W,bi l,ak.mono Y (λr _ h=>by have h:J.heap.size<=r:=h;show w.heap.size<=r;omega) λ_ _ h=>h,Ω,λa af=>Pm af⟩
 have aE:=U.size;refine bU.range 60 (λk out V=>Ext J V/\bx (dZ J.heap.size) bo V [out] ((W7 k).map (kr l))) Ω ⟨Ext.refl _,gB⟩ ?_ ?_
 .rintro k out V aH hk ⟨W,Y⟩ aI;refine bB Ω ?_;have ah:=U.trans W;rw[aV am.u (h.ext ah)];refine iR (k:=.i64) am.u ag.i Ω Ω λaa aJ a6 au ax=>?_;have aK:ap .i64 ag aJ aa (.slice (σ ⟨aa,0,ν⟩) l.length l.length) (p8 l.length 0):=by
   refine ap.of (n:=l.length) ⟨Ξ,.inr ⟨l.length,ints .i64 (p8 l.length 0),rfl,ax,Ω,by simp only[maxLen];omega,Ξ,Ξ⟩⟩
  have aM:=ah.trans au;have a7:=W.size;have a8:=ax.lt;rw[aV am.u (h.ext aM)];refine ce.range l.length (λq ac=>Ext V ac/\ap .i64 ag ac aa (.slice (σ ⟨aa,0,ν⟩) l.length l.length) (upto (kr l k) 0 q)) h.le ⟨au,by rw[ot,qO];exact aK⟩ ?_ ?_
  .rintro q ac aN aO ⟨ab,X⟩ aQ;obtain⟨z,al⟩:=aF (l:=l) aO;have bb:=I z (x5 al);refine bB Ω ?_;have bc:0<=(k:Int)*(2*(q:Int)+1)/\(k:Int)*(2*(q:Int)+1)<=60*200:=⟨Int.mul_nonneg Ω Ω,Int.mul_le_mul Ω Ω Ω Ω⟩;have bd:0<=(k:Int) / 3/\(k:Int) / 3<=60:=Ω
   have be:(2*(q:Int)+1)=2*(q:Int)+1:=rfl;rw[ba am.u ag.i Ψ (h.ext (ah.trans ab)) al,gh,wrap_i64 (x:=2*(q:Int)) Ω Ω,aL,wrap_i64 Ω Ω,gh,wrap_i64 Ω Ω,pu Φ,Int.tdiv_eq_ediv_of_nonneg Ω,wrap_i64 Ω Ω,aL,wrap_i64 Ω Ω,n7 Ω,Int.tmod_eq_emod_of_nonneg Ω,
    hs rfl am.u ag.i X (by rw[nc,qO];omega)]
   refine ht ag.i X (by rw[nc,qO];omega) λaS an bf aT=>?_;rw[aL];refine aQ _ ⟨ab.then an λr aU he=>by have he:r=aa:=he;omega,?_⟩;rw[<-ov (Eh al)];exact aT
  rintro ac aN ⟨ab,X⟩;refine b6 Ω ?_;rw[show upto (kr l k) 0 l.length=kr l k by rw[<-qO l k,ou]] at X;have z4:=ab.size;refine jm (α:=Λ) (a:=kr l k) (A:=dZ V.heap.size) (R:=bo) cO.u am.i Φ (oc (kG X (R:=bo))) (ak.mono (kG X) (λr _ h=>by subst h;show V.heap.size<=r;omega) λ_ _ h=>h) λbg aS ao _ an=>?_;have ay:=ab.trans ao;have z5:=ao.size;refine l4 (α:=Λ) (a:=kr l k) (A:=dZ V.heap.size) cO.u am.i rfl (bq (ly Y) ay) an (bq (ak.mono (kG X) (λr _ h=>by subst h;show V.heap.size<=r;omega) λ_ _ h=>h) ao) (λr _ h h'=>?_) (by simp only[u7,List.length_range];omega) (by simp only[u7,List.length_range];omega) λbh bj aW aX=>?_
  .rcases h' with h'|h'
   .have:=h.2;have:V.heap.size<=r:=h';omega
   .exact h'
  rw[aL];refine aI _ _ ⟨(W.trans ay).then aX (λr aU h=>by have:=h.1;have:J.heap.size<=r:=this;omega),?_⟩;rw[List.range_succ,c8,List.map_singleton];refine ak.mono aW (λr _ h=>?_) λ_ _ h=>h;show J.heap.size<=r;rcases h with h|h|h
  .exact h.1
  .have:V.heap.size<=r:=h;omega
  .omega
 .rintro out V aH ⟨W,Y⟩;rw[show ((60:Nat):Int)=60 from rfl,aP,ai];refine⟨λh=>Ω,λ_=>⟨U.trans W,_,ak.mono Y (λr _ h=>by have h:J.heap.size<=r:=h;show w.heap.size<=r;omega) λ_ _ h=>h,Ξ,λa af=>?_⟩⟩;obtain⟨k,_,rfl⟩:=o8.1 af;exact Pl k I
theorem Pq {n:aQ} {s:au} {i:Nat} {x:bP} (h:e2 (dd n) s) (J:s.vars[i]? =σ x):x.gone=0:=by
 obtain⟨y,I⟩:=aF (l:=(dd n).vars) (i:=i) (by have:=(x4.1 J).1;have:=h.vars;omega);rw[(h.var i y x I J).1];unfold dd at I;simp only[x8,Y2] at I;obtain⟨u,_,rfl⟩:=I;rfl
theorem Pr {n:aQ} {s:au} {a:eF} {t:Λ} (ac:bH n.k n.sizes s) (ad:dj s) (ae:e2 (dd n) (iG n s a)) (af:hC s t) (ag:hC (iG n s a) t):
  (a.kind≠5\/¬(0<=a.i/\a.i<s.vars.length)->dW n.k (iG n s a) t=dW n.k s t)/\ ∀U v,a.kind=5->0<=a.i->(iG n s a).vars[a.i.toNat]? =σ U->t[a.i.toNat]? =σ v->(v∉aK U->dW n.k (iG n s a) t=n.k)/\(v∈aK U->dW n.k (iG n s a) t=dW n.k s t):=by
 have ao:=a.w9;have ap:(h8 n.k s a).kind=a.kind:=rfl;have V:=(DM (m:=h8 n.k s a) ac ad).2.2 t af;unfold nI at V;have I:a.kind=5->b0 n.k s (h8 n.k s a)=match dG s a.i a.v with
  |none=>(s,1)
  |some x=>(fe s a.i.toNat a.v (aK x),0):=λhk=>by
  unfold b0;rw[if_neg Ω,if_neg Ω,if_neg Ω,if_neg Ω,if_neg Ω];show (match dG s a.i a.v with|none=>_|some x=>_)=_;cases dG s a.i a.v<;>rfl
 refine⟨λh=>?_,λU v hk aq J W=>⟨λah=>?_,λX=>?_⟩⟩
 .rw[if_neg] at V
  .exact V
  .rintro⟨av,he,_⟩;rcases h with h|h
   .omega
   .have I:=I Ω;cases W:dG s a.i a.v with
    |none=>rw[W] at I;rw[I] at he;cases he
    |some x=>
     obtain⟨ai,Y,_⟩:=h6 W;have:=(x4.1 Y).1;omega
 .exact DF ag J (Pq ae J) W ah
 .rw[if_neg] at V
  .exact V
  .rintro⟨_,he,aj⟩;have I:=I hk;cases aa:dG s a.i a.v with
   |none=>rw[aa] at I;rw[I] at he;cases he
   |some x=>
    rw[aa] at I;obtain⟨ai,Y,aw,ax⟩:=h6 aa;have ak:=(x4.1 Y).1;obtain⟨m,h1,al⟩:=ts (i:=a.i.toNat) (v:=a.v) (aK x) s x Y λy X=>(hd.1 X).1.1;have am:iG n s a=fe s a.i.toNat a.v (aK x):=by unfold iG;rw[I]
    rw[am,h1] at J;have J:(s.vars.set a.i.toNat {x with mask:=m})[a.i.toNat]? =σ U:=J;rw[c7 ak] at J;cases J;rw[al,S3] at X;obtain⟨an,ab⟩:=X;refine aj ?_;rw[show (h8 n.k s a).i=a.i from rfl,W];rw[decide_eq_true an,T0,Bool.not_not] at ab;rw[of_decide_eq_true ab];rfl
section
variable {w:x3} {n:aQ} {ab ad an:Nat}
def o3 (w0:x3) (J I:Nat) (ab ad an:Nat) (n:aQ) (U:x1) (V:List (Λ)) (w:x3):Prop:=∃s Z aH,Ext w0 w/\eb Z aH w ab ad an n s/\(∀r,Z r->w0.heap.size<=r/\(r<J\/I<=r))/\I<=w.heap.size/\Seen (λr=>J<=r/\r<I) w [U] V
theorem o3.ext {w0 w':x3} {J U:Nat} {V:x1} {W:List (Λ)} (h:o3 w0 J U ab ad an n V W w) (I:Ext w w'):o3 w0 J U ab ad an n V W w':=by
 obtain⟨s,Z,aH,h1,X,Y,ac,aa⟩:=h;exact⟨s,Z,aH,h1.trans I,X.ext I,Y,by have:=I.size;omega,bq aa I⟩
end
theorem Ps {p bz:x1} {L:List jf} {Q:x1->x3->Prop} (bC:∀w',Ext w w'->Q (.bool true) w') (b0:aB .u8 w p pl) (b1:∀b∈pl,0<=b/\b<256) (aU:Seen dY w [bz] L) (b2:∀x∈L,(jG x).ok) (b3:dA w) (b4:Laid w):
  aj x7 yv [p,bz] w Q:=by
 refine aw func5 ?_;refine xe b0 b1 b3 b4 ?_ ?_
 .intro g w' b5;rw[bu,X3,bA,cV dH.u];exact bC _ b5
 intro f ab ad an Z aH az c0 aV aA b7;rw[bu,Z8,aS];obtain⟨bD,_,_⟩:=aA.ok;obtain⟨szv,c1,c2,c3,c4,c5,b8,ae,_⟩:=aA.look;rw[aD a6.p 1 b8 rfl];refine (Pp ae bD.gp.2.2 bD.gp.2.1).mono ?_;rintro aC af _ ⟨aE,U,b9,c6,bE⟩;have z5:=aE.size;have ca:=aA.lt;refine aR (λ_ V=>Ext w V) (λ_ V h=>bC _ h) λav bF=>?_;have cb:o3 w az.heap.size af.heap.size ab ad an (cd f) aC U af:=⟨_,Z,aH,aV.trans aE,aA.ext aE,λr I=>⟨b7 r I,.inl (ca r I)⟩,p9 _,ob b9 λr I h=>⟨h.elim id False.elim,I⟩⟩;rw[gj lp.u (bq aU (aV.trans aE))];refine bU.range L.length (λi _ V=>o3 w az.heap.size af.heap.size ab ad an (cd f) aC U V) (m3 aU) cb ?_ ?_
 rotate_left
 .rintro t4 V cc ⟨s,bG,aW,ah,_⟩;exact b6 Ω (bF _ _ ah)
 rintro i t4 V cc hi bH ce;obtain⟨y,bJ⟩:=aF (l:=L) hi;have aX:=b2 y (x5 bJ);obtain⟨a,bL⟩:∃a,jG y=a:=⟨_,rfl⟩;rw[bL] at aX;refine bB Ω ?_;refine xf (bq aU (by obtain⟨s,bG,aW,ah,_⟩:=bH;exact ah)) bJ λga bM aG c7 aY=>?_;rw[bL] at aY;have aZ:∀s Z R,eb Z R V ab ad an (cd f) s-> ∀r,Z r->r<V.heap.size:=λs Z R h=>h.lt;obtain⟨s,bG,aW,ah,bN,a1,c9,cg⟩:=bH;have aZ:=bN.lt;have a2:=bN.ext aG;have bO:=ah.trans aG;have a7:=bq cg aG;obtain⟨aJ,ch,da,_⟩:=a2.ok;have z9:=aG.size;rw[cK,ai];refine⟨λ_=>bF _ _ bO,λ_=>?_⟩;rw[gj cO.u a7];refine bU.range U.length (λk aM aN=>Ext bM aN/\ ∃g,ap .i64 al aN g aM ((U.take k).map (dW (cd f).k s))/\ ∀r,leads aM r->bM.heap.size<=r) Ω ⟨Ext.refl _,0,ap.nil _ _ _ _,λr I=>by obtain⟨_,_,_,ci,_⟩:=I;cases ci⟩ ?_ ?_
 .rintro k aM aN cj hk ⟨J,g,hm,aO⟩ ck;obtain⟨tl,W⟩:=aF (l:=U) hk;have a8:=xi aJ (bE tl (x5 W));refine bB Ω ?_;refine hq (α:=Λ) (a:=tl) rfl rfl cO.u am.i Ψ (bq a7 J) W λaI X=>?_;obtain⟨A,R,t,bb,_⟩:=(a2.ext J).et;refine (Dm bb (dp (ho X))).mono ?_;rintro _ db _ ⟨⟨Y,_⟩,bc⟩;obtain rfl:=Y a8;rw[bf,bg];refine N3 (hm.ext bc) (by rw[u7,j0];omega) λv dc cl cm cn cp=>?_;rw[aL];have cq:=J.size;have dd:=bc.size;refine ck _ _ ⟨(J.trans bc).then cm λr I h=>by have:=aO r h;omega,cl,?_,λr I=>(cp r I).elim (aO r) λh=>Ω⟩;rw[r8,W,l9,c8];exact cn
 rintro aM aN cj ⟨J,g,hm,aO⟩;rw[o6] at hm;refine b6 Ω ?_;have bP:=aY.ext J;have cr:=a2.ext J;have cq:=J.size;have de:=aY.lt;rw[bI bK.p bK.i rfl bP.range];refine (Ed cr aX).mono ?_;rintro _ ao _ ⟨rfl,au,ct,cu,ax⟩;obtain⟨bQ,_,cw,_⟩:=ax.ok;have cA:Ext w ao:=(bO.trans J).then au λr I h=>by have:=(a1 r h.1).1;omega
 have cB:=bP.aa au λh=>by have:=aZ ga h.1;omega
 have cC:=bn hm au λr I h=>by have:=aO r I;have:=aZ r h.1;omega
 have bd:Seen (λr=>az.heap.size<=r/\r<af.heap.size) ao [aC] U:=ak.aa (bq a7 J) au λr _ h h'=>by have:=a1 r h'.1;have h:=h.elim False.elim id;omega
 have df:=au.size;rw[bu,Z8,aS,gj cO.u bd];have cD:o3 w az.heap.size af.heap.size ab ad an (cd f) aC U ao:=⟨_,ct,aW,cA,ax,λr I=>(cu r I).elim (a1 r) λh=>by have:=aV.size;exact⟨Ω,.inr Ω⟩,Ω,bd⟩;refine bU.range U.length (λk _ bi=>Ext ao bi) Ω (Ext.refl _) ?_ ?_
 rotate_left
 .rintro t5 bi cE ay;refine b6 Ω ?_;rw[aL];exact ce _ _ (cD.ext ay)
 rintro k t5 bi cE hk ay cF;obtain⟨tl,W⟩:=aF (l:=U) hk;have ae:=bE tl (x5 W);have a8:=xi aJ ae;have bR:=xi bQ ae;obtain⟨bS,cG⟩:=Pr aJ ch cw a8 bR;refine bB Ω ?_;refine hq (α:=Λ) (a:=tl) rfl rfl cO.u am.i Ψ (bq bd ay) W λaI X=>?_;have X:=dp (ho X);obtain⟨A,R,t,bb,_⟩:=(ax.ext ay).et;refine (Dm bb X).mono ?_;rintro _ cH _ ⟨⟨Y,_⟩,bT⟩;obtain rfl:=Y bR;have bj:=ay.trans bT;rw[bf,bg,ba aq.u al.i Ψ (cC.ls.ext bj) (by rw[x8,W];rfl)];refine aR (λr w'=>r=Δ (dW (cd f).k (iG (cd f) s a) tl)/\Ext ao w') ?_ λdg bV=>?_
 .rintro _ cI ⟨rfl,cJ⟩;refine aR (λr w'=>r= .bool false/\cI=w') ?_ λdh cL=>?_
  .rintro _ _ ⟨rfl,rfl⟩;rw[aS,aL];exact cF _ _ cJ
  rw[bh,ai];refine⟨λh=>absurd rfl h,λ_=>?_⟩;rw[bh,decide_eq_false λh=>h rfl];exact cL _ _ ⟨rfl,rfl⟩
 refine aR (λr w'=>Ext cH w'/\ ∃b,r= .bool b/\(b=true->dW (cd f).k (iG (cd f) s a) tl=(cd f).k)/\(b=false->dW (cd f).k (iG (cd f) s a) tl=dW (cd f).k s tl)) ?_ λdi bk=>?_
 .rintro _ dj ⟨cM,b,rfl,cN,cP⟩;have bl:=bj.trans cM;rw[cz];refine⟨λh=>?_,λh=>?_⟩
  .obtain⟨_,_,_,_,_,_,bm,_⟩:=(ax.ext bl).look;rw[aD a6.p 0 bm rfl];exact bV _ _ ⟨by rw[cN h],bl⟩
  .exact bV _ _ ⟨by rw[cP h],bl⟩
 intro cQ bo _ _;have bW:=bj.trans bo;have bp:ac cQ ga bK [.int .u8 a.d,Δ a.i,Δ a.pos,Δ a.v,Δ a.c,.bool a.o0]:=cB.ext bW;have bX:=ax.ext bW;have cR:(a.d % 6).toNat=a.kind:=rfl;rw[aD bK.p 0 bp rfl,qB aX.1.1,cR,be,ai];refine⟨λaP=>?_,λaP=>bk _ _ ⟨bo,false,rfl,(λh=>by cases h),λ_=>bS (.inl λh=>aP Ω)⟩⟩;have aP:a.kind=5:=Ω
 have dk:=bQ.vars;have dl:=aJ.vars;refine bX.look.load λez cS=>?_;rw[aD bK.p 1 bp rfl];refine (wT (i:=a.i) cS).mono ?_;rintro _ dm _ ⟨rfl,br⟩;have bt:=bo.trans br;rw[ai];refine⟨λaQ=>?_,λaQ=>bk _ _ ⟨bt,false,rfl,(λh=>by cases h),λ_=>bS (.inr λh=>aQ ⟨h.1,Ω⟩)⟩⟩;obtain⟨aT,bw⟩:=W5 aQ.1;have cT:aT<(iG (cd f) s a).vars.length:=Ω
 obtain⟨bY,bZ⟩:=aF (l:=(iG (cd f) s a).vars) (i:=aT) cT;obtain⟨v,Y⟩:=aF (l:=tl) (i:=aT) (by have:=ae.1;omega);obtain⟨_,dn,_,_,_,_,bm,_,_,cU,_⟩:=(bX.ext br).look;have bx:=bp.ext br;simp only[bw] at bx;rw[aD a6.p 3 bm rfl,aD bK.p 1 bx rfl];refine hq (α:=Λ) (a:=aK bY) (i:=aT) rfl rfl cO.u am.i Ψ cU (by rw[x8,bZ];rfl) λdq cW=>?_;rw[aD bK.p 1 bx rfl,ba am.u ag.i Ψ (X.ext (bT.trans bt)) Y];refine (sZ (v:=v) (dp cW)).mono ?_;rintro _ dr _ ⟨rfl,cX⟩;obtain⟨cY,cZ⟩:=cG bY v aP aQ.1 (by rw[bw,u9];exact bZ) (by rw[bw,u9];exact Y);rw[bu];refine bk _ _ ⟨bt.trans cX,_,rfl,λh=>cY ?_,λh=>cZ ?_⟩
 .intro hm;rw[decide_eq_true hm] at h;cases h
 .rw[Bool.not_eq_false'] at h;exact of_decide_eq_true h
theorem Pt {p:x1} {L:List jf} (J:aB .u8 w p pl) (U:∀b∈pl,0<=b/\b<256) (V:Seen dY w [I] L) (W:∀x∈L,(jG x).ok) (X:dA w) (Y:Laid w):
  aj x7 yv [p,I] w λv w'=>v= .bool true/\Ext w w':=Ps (λw' aa=>⟨rfl,aa⟩) J U V W X Y
end Go.Proofs.YtjjhhcfgfdepdaaGreatDoor
