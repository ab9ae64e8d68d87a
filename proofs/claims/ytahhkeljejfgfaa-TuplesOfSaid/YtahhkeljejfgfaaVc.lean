/- Shallow verification conditions, part c: a region whose order is open. What only looks may be taken first. -/
import Derived.Test.YtahhkeljejfgfaaVb
namespace Go.Vc
open Go Go.RowKit
section
variable {P : Program} {N : Nat} {r : Option Nat} {free : Md} {ops : Array Oper} {Q : Exit → Act → World → Prop}

theorem semAt_put (ro : Option Nat) (o : Oper) (hs : ∀ cs b, o.op ≠ .select cs b) (a : Act) (d : Option Tmp) (v : Value) (h : ∀ t, d = some t → t ∉ o.looksAt ops) :
    o.semAt ro (a.put d v).eval = o.semAt ro a.eval := by
  have he := execOp_put o hs a d v h
  unfold Oper.semAt
  split
  · rename_i l c hc
    have : resolve (a.put d v).eval c o.type = resolve a.eval c o.type := resolve_congr c o.type fun x hx => Act.eval_put fun t ht hxt => h t ht (by
      subst hxt
      refine List.mem_append_left _ (List.mem_filterMap.2 ⟨.tmp t, ?_, rfl⟩)
      rw [hc]; simpa [Op.operands] using hx)
    rw [this]
  · exact he

/-- the worlds in which o comes to what it came to in w0 -/
def WQ (o : Oper) (w0 : World) (st : World → Prop) (w' : World) : Prop := memlessB o = true ∨ Ext w0 w' ∨ ∃ w1, st w1 ∧ Ext w1 w'
theorem WQ.ext {o : Oper} {w0 w w' : World} {st : World → Prop} (h : WQ o w0 st w) (k : Ext w w') : WQ o w0 st w' := by
  rcases h with h | h | ⟨w1, h1, h2⟩
  · exact .inl h
  · exact .inr (.inl (h.trans k))
  · exact .inr (.inr ⟨w1, h1, h2.trans k⟩)
theorem memless_run {o : Oper} (hm : memlessB o = true) {ρ : Operand → Value} {v : Value} {w w' : World} (h : (execOp ρ o).run P w = .ok (.value v) w) : (execOp ρ o).run P w' = .ok (.value v) w' := by
  unfold memlessB at hm
  split at hm
  · rename_i x hx
    unfold execOp at h ⊢
    simp only [hx, Sem.run_pure, Result.ok.injEq, and_true] at h ⊢
    exact h
  · rename_i x hx
    unfold execOp at h ⊢
    simp only [hx, Sem.run_pure, Result.ok.injEq, and_true] at h ⊢
    exact h
  · rename_i x i hx
    unfold execOp at h ⊢
    simp only [hx] at h ⊢
    exact ((Still.bind (Still.extract _ _) fun _ => Still.pure _) _ _ _ h).2 _
  · rename_i t x i hx
    unfold execOp at h ⊢
    simp only [hx] at h ⊢
    exact ((Still.bind (Still.indexAt _ _ _) fun _ => Still.pure _) _ _ _ h).2 _
  · cases hm

/-- o comes to v in whatever world holds what w0 holds, or is passed over -/
def YQ (P : Program) (ops : Array Oper) (o : Oper) (v : Value) (a : Act) (w0 : World → Prop) : Prop :=
  (Region.wanted o (yielded ops a.tmps) = true ∧ (∀ c, o.op ≠ .defer c) ∧ ∀ w', w0 w' → (execOp a.eval o).run P w' = .ok (.value v) w') ∨
  (Region.wanted o (yielded ops a.tmps) = false ∧ v = undef)

theorem YQ.put {o oj : Oper} {v : Value} {a : Act} {w0 : World → Prop} (hy : YQ P ops o v a w0) (hs : ∀ cs b, o.op ≠ .select cs b) (h : ∀ t, oj.dst = some t → t ∉ o.looksAt ops) (u : Value) :
    YQ P ops o v (a.put oj.dst u) w0 := by
  unfold YQ at *
  rw [execOp_put o hs a oj.dst u h, wanted_put o a oj.dst u h]
  exact hy

theorem YQ.go {i : Nat} {oi : Oper} {v : Value} {a : Act} {w0 : World → Prop} {w : World} (hi : ops[i]? = some oi) (hy : YQ P ops oi v a w0) (hw : w0 w) {K : Act → World → Prop} (h : K (a.put oi.dst v) w) :
    wpOpIn (FW r) 0 P ops Q i K a w := by
  unfold wpOpIn
  simp only [hi]
  rcases hy with ⟨h1, h2, h3⟩ | ⟨h1, rfl⟩
  · rw [if_pos h1]
    refine ⟨fun _ _ => trivial, ?_⟩
    rw [Oper.semAt_eq _ _ _ h2, h3 w hw, Oper.uponIn_value]
    exact h
  · rw [h1]
    exact ⟨fun _ _ => trivial, h⟩

theorem wpOpIn_put' {j : Nat} {oi oj : Oper} {v : Value} (hj : ops[j]? = some oj) (hap : oi.apart ops oj = true) (hsi : ∀ cs b, oi.op ≠ .select cs b) (hsj : ∀ cs b, oj.op ≠ .select cs b)
    (hQ : ∀ c a w, ¬ Q (.panic c) a w) {K : Act → World → Prop} {a : Act} {w : World} {w0 : World → Prop} (hy : YQ P ops oi v a w0) (h : wpOpIn (FW r) 0 P ops Q j K (a.put oi.dst v) w) :
    wpOpIn (FW r) 0 P ops Q j (fun a' w' => YQ P ops oi v a' w0 ∧ K (a'.put oi.dst v) w') a w := by
  obtain ⟨h1, h2, h3⟩ := Oper.apart_spec hap
  have keep : ∀ (a : Act), YQ P ops oi v a w0 → ∀ u, YQ P ops oi v (a.put oj.dst u) w0 := fun a hy u => hy.put hsi h3 u
  have keepD : ∀ d, YQ P ops oi v { a with defers := d :: a.defers } w0 := fun d => hy
  unfold wpOpIn at *
  simp only [hj] at *
  rw [wanted_put oj a oi.dst v h1] at h
  split
  · rename_i hw
    simp only [hw, if_true] at h
    obtain ⟨_, h⟩ := h
    refine ⟨fun _ _ => trivial, ?_⟩
    rw [semAt_put _ oj hsj a oi.dst v h1] at h
    generalize (oj.semAt (FW r).round a.eval).run P w = res at *
    cases res with
    | ok n w' =>
      cases n <;> simp only [Oper.uponIn] at h ⊢
      case value u => exact ⟨keep a hy u, by rw [← Act.put_comm a v u h2]; exact h⟩
      case skip => exact ⟨keep a hy _, by rw [← Act.put_comm a v undef h2]; exact h⟩
      case defer d =>
        refine ⟨keep _ (keepD d) _, ?_⟩
        rw [← Act.put_comm _ v undef h2, ← Act.put_defers]
        exact h
      case enter f args =>
        refine ⟨h.1, CallsIn.mono h.2 fun e w'' he => ?_⟩
        cases e with
        | returned u => exact ⟨keep a hy u, by rw [← Act.put_comm a v u h2]; exact he⟩
        | panicked c => exact absurd he (hQ _ _ _)
        | outgrown => exact he
      case row row args => exact ⟨h.1, RowsIn.mono h.2 fun u w'' he => ⟨keep a hy u, by rw [← Act.put_comm a v u h2]; exact he⟩⟩
      case round l f tmps as body =>
        refine ⟨h.1, RoundIn.mono h.2 fun e w'' he => ?_⟩
        cases e with
        | returned u => exact ⟨keep a hy u, by rw [← Act.put_comm a v u h2]; exact he⟩
        | panicked c => exact absurd he (hQ _ _ _)
        | outgrown => exact he
    | halt x w' =>
      cases x <;> simp only [Oper.uponIn] at h ⊢
      case panic u => exact absurd h (hQ _ _ _)
  · rename_i hw
    simp only [hw] at h
    exact ⟨fun _ _ => trivial, keep a hy _, by rw [← Act.put_comm a v undef h2]; exact h.2⟩

/-- what the bits say is borne out by the edges -/
def bitsOk (ops : Array Oper) (bs : Array Nat) : Bool :=
  (List.range ops.size).all fun j => (List.range ops.size).all fun k => !((bs.getD j 0).testBit k) ||
    (match ops[j]? with
     | some o => o.after.any fun e => Region.binds .any e && Nat.blt e.on j && (Nat.beq e.on k || (bs.getD e.on 0).testBit k)
     | none => false)

/-- what is listed has all that it waits for listed -/
def Down (ops : Array Oper) (listed : Array Bool) : Prop :=
  ∀ (x : Nat) (o : Oper), ops[x]? = some o → listed.getD x false = true → ∀ e ∈ o.after, Region.binds .any e = true → listed.getD e.on false = true

theorem bits_edge {bs : Array Nat} (hb : bitsOk ops bs = true) {j k : Nat} (hj : j < ops.size) (hk : k < ops.size) (h : (bs.getD j 0).testBit k = true) :
    ∃ o, ops[j]? = some o ∧ ∃ e ∈ o.after, Region.binds .any e = true ∧ e.on < j ∧ (e.on = k ∨ (bs.getD e.on 0).testBit k = true) := by
  simp only [bitsOk, List.all_eq_true, List.mem_range] at hb
  have := hb j hj k hk
  rw [h] at this
  simp only [Bool.not_true, Bool.false_or] at this
  cases ho : ops[j]? with
  | none => rw [ho] at this; cases this
  | some o =>
    rw [ho] at this
    obtain ⟨e, he, hx⟩ := Array.any_eq_true'.1 this
    simp only [Bool.and_eq_true, Nat.blt_eq, Bool.or_eq_true] at hx
    exact ⟨o, rfl, e, he, hx.1.1, hx.1.2, hx.2.imp (fun h => Nat.eq_of_beq_eq_true h) id⟩

theorem bits_listed {bs : Array Nat} {listed : Array Bool} (hb : bitsOk ops bs = true) (hd : Down ops listed) : ∀ (j k : Nat), j < ops.size → k < ops.size → listed.getD j false = true →
    (bs.getD j 0).testBit k = true → listed.getD k false = true := by
  intro j
  induction j using Nat.strongRecOn with
  | _ j ih =>
    intro k hj hk hl h
    obtain ⟨o, ho, e, he, hbd, hlt, h⟩ := bits_edge hb hj hk h
    have hel := hd j o ho hl e he hbd
    rcases h with rfl | h
    · exact hel
    · exact ih e.on hlt k (by omega) hk hel h

theorem bits_ready {bs : Array Nat} {listed : Array Bool} (hb : bitsOk ops bs = true) (hd : Down ops listed) {j k : Nat} (hk : k < ops.size) (hr : j ∈ Region.ready .any ops listed)
    (h : (bs.getD j 0).testBit k = true) : listed.getD k false = true := by
  obtain ⟨_, o, ho, hall⟩ := mem_ready.1 hr
  have hj := (Array.getElem?_eq_some_iff.1 ho).1
  obtain ⟨o', ho', e, he, hbd, hlt, h⟩ := bits_edge hb hj hk h
  rw [ho] at ho'; cases ho'
  have hel := hall e he hbd
  rcases h with rfl | h
  · exact hel
  · exact bits_listed hb hd e.on k (by omega) hk hel h

theorem Down.set {listed : Array Bool} (hd : Down ops listed) {i : Nat} (hr : i ∈ Region.ready .any ops listed) : Down ops (listed.setIfInBounds i true) := by
  intro x o hx hl e he hb
  by_cases hxi : x = i
  · subst hxi
    obtain ⟨_, o', ho', hall⟩ := mem_ready.1 hr
    rw [hx] at ho'; cases ho'
    exact getD_set_true (hall e he hb)
  · rw [getD_set_ne false (Ne.symm hxi)] at hl
    exact getD_set_true (hd x o hx hl e he hb)

theorem unlisted_of {listed : Array Bool} {k : Nat} (h : listed.getD k true = false) : listed.getD k false = false := by
  rcases Nat.lt_or_ge k listed.size with h' | h'
  · simpa [h'] using h
  · simp [Array.getElem?_eq_none h'] at h

def qB (ops : Array Oper) (i : Nat) : Bool := match ops[i]? with
  | some o => quietB o
  | none => false
def Need (bs : Array Nat) (ev : List (World × List (Nat × (World → Prop)))) (j : Nat) (w' : World) : Prop := ∀ g ∈ ev, ∀ x ∈ g.2, unord2 bs j x.1 = true → Ext g.1 w' ∨ x.2 w'
theorem anew_spec {bs : Array Nat} {j : Nat} {w' : World} : ∀ {l : List (Nat × (World → Prop))}, anew bs j w' l → ∀ x ∈ l, unord2 bs j x.1 = true → x.2 w'
  | [], _, _, h, _ => by cases h
  | y :: l, h, x, hx, hu => by
    unfold anew at h
    cases hy : unord2 bs j y.1 with
    | true =>
      rw [hy] at h
      cases hx with
      | head => exact h.1
      | tail _ hx => exact anew_spec h.2 x hx hu
    | false =>
      rw [hy] at h
      cases hx with
      | head => rw [hy] at hu; cases hu
      | tail _ hx => exact anew_spec (show anew bs j w' l from h) x hx hu
theorem anyU_of {bs : Array Nat} {j : Nat} : ∀ {l : List (Nat × (World → Prop))}, anyU bs j l = false → ∀ x ∈ l, unord2 bs j x.1 = false
  | [], _, _, h => by cases h
  | y :: l, h, x, hx => by
    simp only [anyU, Bool.or_eq_false_iff] at h
    cases hx with
    | head => exact h.1
    | tail _ hx => exact anyU_of h.2 x hx
theorem needC_spec {bs : Array Nat} {j : Nat} {w' : World} {C : Prop} : ∀ {ev : List (World × List (Nat × (World → Prop)))}, needC bs j w' C ev → C ∧ Need bs ev j w'
  | [], h => ⟨h, fun g hg => by cases hg⟩
  | g :: r, h => by
    unfold needC at h
    cases hu : anyU bs j g.2 with
    | true =>
      rw [hu] at h
      obtain ⟨h1, h2⟩ := needC_spec h.2
      refine ⟨h1, fun g' hg' x hx hg2 => ?_⟩
      cases hg' with
      | head => exact h.1.imp id fun h => anew_spec h x hx hg2
      | tail _ hg' => exact h2 g' hg' x hx hg2
    | false =>
      rw [hu] at h
      obtain ⟨h1, h2⟩ := needC_spec (show needC bs j w' C r from h)
      refine ⟨h1, fun g' hg' x hx hg2 => ?_⟩
      cases hg' with
      | head => rw [anyU_of hu x hx] at hg2; cases hg2
      | tail _ hg' => exact h2 g' hg' x hx hg2
def StepC (ops : Array Oper) (bs : Array Nat) (ev : List (World × List (Nat × (World → Prop)))) (j : Nat) (w w' : World) : Prop := (qB ops j = true → Ext w w') ∧ (qB ops j = false → Need bs ev j w')

/-- whatever order is taken from here on; what may come ahead of a quiet operation leaves alone what that one saw -/
def HG (r : Option Nat) (P : Program) (ops : Array Oper) (bs : Array Nat) (Q : Exit → Act → World → Prop) : Nat → Array Bool → List (World × List (Nat × (World → Prop))) → Act → World → Prop
  | 0, listed, _, a, w => Region.ready .any ops listed = [] ∧ Q .normal a w
  | fuel + 1, listed, ev, a, w => (Region.ready .any ops listed = [] → Q .normal a w) ∧
    ∀ i ∈ Region.ready .any ops listed, wpOpIn (FW r) 0 P ops Q i (fun a' w' => StepC ops bs ev i w w' ∧ HG r P ops bs Q fuel (listed.setIfInBounds i true) ev a' w') a w

theorem HG.any {bs : Array Nat} : ∀ (fuel : Nat) (listed : Array Bool) (ev : List (World × List (Nat × (World → Prop)))) (a : Act) (w : World), HG r P ops bs Q fuel listed ev a w → wpAnyIn (FW r) 0 P .any ops Q fuel listed a w
  | 0, _, _, _, _, h => h
  | fuel + 1, _, _, _, _, h => ⟨h.1, fun i hi => wpOpIn_mono (fun a' w' h' => HG.any fuel _ _ a' w' h'.2) (h.2 i hi)⟩

theorem unord2_of {bs : Array Nat} {listed : Array Bool} (hb : bitsOk ops bs = true) (hd : Down ops listed) {i j : Nat} {oi : Oper} (hi : ops[i]? = some oi)
    (hri : i ∈ Region.ready .any ops listed) (hrj : j ∈ Region.ready .any ops listed) (hne : j ≠ i) : unord2 bs j i = true := by
  have hil := (Array.getElem?_eq_some_iff.1 hi).1
  obtain ⟨hun, oj, hoj, _⟩ := mem_ready.1 hrj
  have hjl := (Array.getElem?_eq_some_iff.1 hoj).1
  have huni := (mem_ready.1 hri).1
  simp only [unord2, Bool.and_eq_true, Bool.not_eq_true']
  refine ⟨?_, ?_, ?_⟩
  · cases h : Nat.beq i j with
    | true => exact absurd (Nat.eq_of_beq_eq_true h).symm hne
    | false => rfl
  · cases h : (bs.getD j 0).testBit i with
    | true => have := bits_ready hb hd hil hrj h; rw [unlisted_of huni] at this; cases this
    | false => rfl
  · cases h : (bs.getD i 0).testBit j with
    | true => have := bits_ready hb hd hjl hri h; rw [unlisted_of hun] at this; cases this
    | false => rfl

theorem HG.take {bs : Array Nat} (hb : bitsOk ops bs = true) (hsel : Region.noSelect ops = true) (hQ : ∀ c a w, ¬ Q (.panic c) a w) {i : Nat} {oi : Oper} {v : Value} (hi : ops[i]? = some oi) (hq : quietB oi = true)
    {w0 : World} {ev ev' : List (World × List (Nat × (World → Prop)))} (hev : ∀ j w', Need bs ev' j w' → Need bs ev j w') {st : World → Prop} (hevi : memlessB oi = false → ∀ j w', unord2 bs j i = true → Need bs ev' j w' → Ext w0 w' ∨ st w') :
    ∀ (fuel : Nat) (listed : Array Bool) (a : Act) (w : World), Down ops listed →
      (∀ j oj, ops[j]? = some oj → j ≠ i → listed.getD j true = false → (∀ e ∈ oj.after, Region.binds .any e = true → e.on ≠ i) → oi.apart ops oj = true) →
      i ∈ Region.ready .any ops listed → YQ P ops oi v a (WQ oi w0 st) → WQ oi w0 st w →
      HG r P ops bs Q fuel (listed.setIfInBounds i true) ev' (a.put oi.dst v) w → HG r P ops bs Q (fuel + 1) listed ev a w := by
  have sel := Region.noSelect_spec hsel
  have hqB : qB ops i = true := by simp [qB, hi, hq]
  have weak : ∀ (fuel : Nat) (listed : Array Bool) (a : Act) (w : World), HG r P ops bs Q fuel listed ev' a w → HG r P ops bs Q fuel listed ev a w := by
    intro fuel
    induction fuel with
    | zero => intro listed a w h; exact h
    | succ fuel ih => intro listed a w h; exact ⟨h.1, fun j hj => wpOpIn_mono (fun a' w' h' => ⟨⟨h'.1.1, fun hn => hev _ _ (h'.1.2 hn)⟩, ih _ a' w' h'.2⟩) (h.2 j hj)⟩
  have here : ∀ w, StepC ops bs ev i w w := fun w => ⟨fun _ => Ext.refl _, fun h => by rw [hqB] at h; cases h⟩
  intro fuel
  induction fuel with
  | zero =>
    intro listed a w _ _ hr hy hw H
    refine ⟨fun h => (by rw [h] at hr; cases hr), fun j hj => ?_⟩
    by_cases hji : j = i
    · subst hji; exact hy.go hi hw ⟨here w, weak _ _ _ _ H⟩
    · have := ready_mono hj hji
      rw [H.1] at this
      cases this
  | succ fuel ih =>
    intro listed a w hdn hfree hr hy hw H
    refine ⟨fun h => (by rw [h] at hr; cases hr), fun j hj => ?_⟩
    by_cases hji : j = i
    · subst hji; exact hy.go hi hw ⟨here w, weak _ _ _ _ H⟩
    · have h1 := H.2 j (ready_mono hj hji)
      have hu := unord2_of hb hdn hi hr hj hji
      obtain ⟨hjun, oj, hoj, hall⟩ := mem_ready.1 hj
      have hnot : ∀ e ∈ oj.after, Region.binds .any e = true → e.on ≠ i := fun e he hbd heq => by
        have h1 := hall e he hbd
        rw [heq, unlisted_of (mem_ready.1 hr).1] at h1
        cases h1
      have h2 := wpOpIn_put' hoj (hfree j oj hoj hji hjun hnot) (fun cs b => sel i oi cs b hi) (fun cs b => sel j oj cs b hoj) hQ hy h1
      have hfree' : ∀ k ok, ops[k]? = some ok → k ≠ i → (listed.setIfInBounds j true).getD k true = false →
          (∀ e ∈ ok.after, Region.binds .any e = true → e.on ≠ i) → oi.apart ops ok = true := fun k ok hk hki hun hno => by
        refine hfree k ok hk hki ?_ hno
        by_cases hjk : j = k
        · subst hjk; exact hjun
        · rw [getD_set_ne true hjk] at hun; exact hun
      refine wpOpIn_mono (fun a' w' h3 => ⟨⟨h3.2.1.1, fun hn => hev _ _ (h3.2.1.2 hn)⟩, ih (listed.setIfInBounds j true) a' w' (hdn.set hj) hfree' (ready_mono hr (Ne.symm hji)) h3.1 ?_ ?_⟩) h2
      · cases hm : memlessB oi with
        | true => exact .inl hm
        | false =>
          cases hqj : qB ops j with
          | true => exact hw.ext (h3.2.1.1 hqj)
          | false => exact .inr ((hevi hm j w' hu (h3.2.1.2 hqj)).imp id fun h => ⟨w', h, Ext.refl _⟩)
      · rw [Array.setIfInBounds_comm _ _ hji]
        exact h3.2.2

theorem allOf_mem {p : Nat → Prop} : ∀ {l : List Nat}, allOf p l → ∀ i ∈ l, p i
  | [], _, _, h => by cases h
  | [i], h, j, hj => by cases hj with
    | head => exact h
    | tail _ h => cases h
  | i :: k :: l, h, j, hj => by
    obtain ⟨h1, h2⟩ := h
    cases hj with
    | head => exact h1
    | tail _ hj => exact allOf_mem h2 j hj

theorem firstQuiet_spec : ∀ {l : List Nat} {q : Nat}, firstQuiet ops l = some q → q ∈ l ∧ ∃ o, ops[q]? = some o ∧ quietB o = true
  | [], q, h => by cases h
  | i :: l, q, h => by
    simp only [firstQuiet] at h
    cases ho : ops[i]? with
    | none => rw [ho] at h; obtain ⟨h1, h2⟩ := firstQuiet_spec h; exact ⟨.tail _ h1, h2⟩
    | some o =>
      rw [ho] at h; simp only at h
      cases hq : quietB o with
      | true => rw [hq] at h; simp only [cond_true, Option.some.injEq] at h; subst h; exact ⟨.head _, o, ho, hq⟩
      | false => rw [hq] at h; obtain ⟨h1, h2⟩ := firstQuiet_spec h; exact ⟨.tail _ h1, h2⟩

/-- a quiet operation, its guard with it -/
theorem vcOpQ_sound {o : Oper} {e : Env} {a : Act} {w : World} {K : Env → (World → Prop) → Prop} (h : vcOpQ P ops o e w K) (hH : Holds N e a) (hd : dstOk N o.dst = true) :
    ∃ v st, YQ P ops o v a (WQ o w st) ∧ ∃ e', K e' st ∧ Holds N e' (a.put o.dst v) := by
  unfold vcOpQ at h
  have run : ∀ {e : Env}, Holds N e a → vcQ P o e w K → Region.wanted o (yielded ops a.tmps) = true → ∃ v st, YQ P ops o v a (WQ o w st) ∧ ∃ e', K e' st ∧ Holds N e' (a.put o.dst v) := fun hH h hw => by
    obtain ⟨v, st, h1, h2, h3, h4⟩ := vcQ_sound h hH hd
    exact ⟨v, st, .inl ⟨hw, h3, fun w' hx => hx.elim (fun hm => memless_run hm (h1 w (Ext.refl w))) fun h => h.elim (h1 w') fun ⟨w1, h5, h6⟩ => h4 w1 h5 w' h6⟩, h2⟩
  have skip : ∀ {e : Env}, Holds N e a → K (putEnv e o.dst .u) (fun _ => True) → Region.wanted o (yielded ops a.tmps) = false → ∃ v st, YQ P ops o v a (WQ o w st) ∧ ∃ e', K e' st ∧ Holds N e' (a.put o.dst v) := fun hH h hw =>
    ⟨undef, _, .inr ⟨hw, rfl⟩, _, h, hH.put hd rfl⟩
  cases hg : o.guard with
  | none => rw [hg] at h; exact run hH h (by simp [Region.wanted, hg])
  | some jb =>
    obtain ⟨j, b⟩ := jb
    rw [hg] at h; simp only at h
    cases hj : (ops[j]?).bind (·.dst) with
    | none => rw [hj] at h; exact h.elim
    | some s =>
      rw [hj] at h; simp only at h
      cases hs : look e s with
      | none => rw [hs] at h; exact h.elim
      | some x =>
        rw [hs] at h
        cases x with
        | b c =>
          simp only at h
          have hw := wanted_of hH hg hj hs (c := c) rfl
          cases hx : xor c b with
          | true => rw [hx] at h hw; exact skip hH h hw
          | false => rw [hx] at h hw; exact run hH h hw
        | v y =>
          simp only at h
          obtain ⟨c, rfl, ht, hf⟩ := h
          have hw := wanted_of hH hg hj hs (c := c) rfl
          have hH' := hH.lit hs (c := c) rfl
          cases c with
          | true =>
            have ht := ht rfl
            cases b with
            | true => exact run hH' ht hw
            | false => exact skip hH' ht hw
          | false =>
            have hf := hf rfl
            cases b with
            | true => exact skip hH' hf hw
            | false => exact run hH' hf hw
        | u => exact skip hH h (unwanted_of hH hg hj hs)

theorem firstQuiet_none : ∀ {l : List Nat}, firstQuiet ops l = none → ∀ j ∈ l, qB ops j = false
  | [], _, _, h => by cases h
  | i :: l, h, j, hj => by
    simp only [firstQuiet] at h
    cases ho : ops[i]? with
    | none =>
      rw [ho] at h
      cases hj with
      | head => simp [qB, ho]
      | tail _ hj => exact firstQuiet_none h j hj
    | some o =>
      rw [ho] at h; simp only at h
      cases hq : quietB o with
      | true => rw [hq] at h; cases h
      | false =>
        rw [hq] at h
        cases hj with
        | head => simp [qB, ho, hq]
        | tail _ hj => exact firstQuiet_none h j hj

theorem addEv_spec {bs : Array Nat} {same : Bool} {q : Nat} {w : World} {st : World → Prop} {ev : List (World × List (Nat × (World → Prop)))} (hs : same = true → ∃ ks r, ev = (w, ks) :: r) :
    (∀ j w', Need bs (addEv same q w st ev) j w' → Need bs ev j w') ∧ (∀ j w', unord2 bs j q = true → Need bs (addEv same q w st ev) j w' → Ext w w' ∨ st w') ∧ ∃ ks r, addEv same q w st ev = (w, ks) :: r := by
  cases same with
  | true =>
    obtain ⟨ks, r, rfl⟩ := hs rfl
    refine ⟨fun j w' h g hg x hx hu => ?_, fun j w' hu h => h (w, (q, st) :: ks) (.head _) (q, st) (.head _) hu, _, _, rfl⟩
    cases hg with
    | head => exact h (w, (q, st) :: ks) (.head _) x (.tail _ hx) hu
    | tail _ hg => exact h g (.tail _ hg) x hx hu
  | false =>
    refine ⟨fun j w' h g hg x hx hu => h g (.tail _ hg) x hx hu, fun j w' hu h => h (w, [(q, st)]) (.head _) (q, st) (.head _) hu, _, _, rfl⟩

theorem vcAny_sound {K : Env → World → Prop} {D : List Nat} {bs : Array Nat} (hb : bitsOk ops bs = true) (hsel : Region.noSelect ops = true) (hQp : ∀ c a w, ¬ Q (.panic c) a w)
    (hD : ∀ o ∈ ops.toList, ∀ t, o.dst = some t → t ∈ D) (hN : dstsOk N ops.toList = true) :
    ∀ (fuel : Nat) (listed : Array Bool) (same : Bool) (ev : List (World × List (Nat × (World → Prop)))) (e : Env) (a : Act) (w : World), Down ops listed → (same = true → ∃ ks r, ev = (w, ks) :: r) →
      vcAny P free ops bs fuel listed same ev e w K → Holds N e a →
      (∀ a' w', RegPost N free K D a w a' w' → Q .normal a' w') → HG r P ops bs Q fuel listed ev a w := by
  have mem : ∀ {j : Nat} {o : Oper}, ops[j]? = some o → o ∈ ops.toList := fun h => by
    rw [← Array.getElem?_toList] at h; exact List.mem_of_getElem? h
  have ok : ∀ {j : Nat} {o : Oper}, ops[j]? = some o → dstOk N o.dst = true := fun h => by
    simp only [dstsOk, List.all_eq_true] at hN; exact hN _ (mem h)
  intro fuel
  induction fuel with
  | zero =>
    intro listed same ev e a w hdn hse h hH hQ
    unfold vcAny at h
    cases hr : Region.ready .any ops listed with
    | nil => rw [hr] at h; exact ⟨hr, hQ a w ⟨e, h, hH, Keep.refl _ _, fun _ => NsB.refl _ _⟩⟩
    | cons i l => rw [hr] at h; exact h.elim
  | succ fuel ih =>
    intro listed same ev e a w hdn hse h hH hQ
    unfold vcAny at h
    cases hr : Region.ready .any ops listed with
    | nil =>
      rw [hr] at h
      refine ⟨fun _ => hQ a w ⟨e, h, hH, Keep.refl _ _, fun _ => NsB.refl _ _⟩, fun i hi => ?_⟩
      rw [hr] at hi; cases hi
    | cons i l =>
      rw [hr] at h
      simp only at h
      cases hfq : firstQuiet ops (i :: l) with
      | some q =>
        rw [hfq] at h
        simp only at h
        obtain ⟨hqm, o, ho, hq⟩ := firstQuiet_spec hfq
        cases hfr : Region.free .any ops listed q with
        | false => rw [hfr] at h; exact h.elim
        | true =>
          rw [hfr, ho] at h
          simp only [cond_true] at h
          obtain ⟨v, st, hy, e', hK, hH'⟩ := vcOpQ_sound h hH (ok ho)
          have hqr : q ∈ Region.ready .any ops listed := by rw [hr]; exact hqm
          cases hm : memlessB o with
          | true =>
            rw [hm] at hK
            refine HG.take hb hsel hQp ho hq (w0 := w) (ev' := ev) (fun _ _ h => h) (fun h => by rw [hm] at h; cases h) fuel listed a w hdn (Region.free_spec ho hfr) hqr hy (.inr (.inl (Ext.refl _))) ?_
            exact ih _ same ev e' _ w (hdn.set hqr) hse hK hH' fun a' w' hp => hQ a' w' (hp.step (Keep.put a v fun t ht => hD o (mem ho) t ht) fun _ => NsB.refl _ _)
          | false =>
            rw [hm] at hK
            obtain ⟨h1, h2, h3⟩ := addEv_spec (bs := bs) (q := q) (st := st) hse
            refine HG.take hb hsel hQp ho hq (w0 := w) (ev' := addEv same q w st ev) h1 (fun _ => h2) fuel listed a w hdn (Region.free_spec ho hfr) hqr hy (.inr (.inl (Ext.refl _))) ?_
            exact ih _ true _ e' _ w (hdn.set hqr) (fun _ => h3) hK hH' fun a' w' hp => hQ a' w' (hp.step (Keep.put a v fun t ht => hD o (mem ho) t ht) fun _ => NsB.refl _ _)
      | none =>
        rw [hfq] at h
        simp only at h
        refine ⟨(fun h0 => by rw [hr] at h0; cases h0), fun j hj => ?_⟩
        have hj' := hj
        rw [hr] at hj'
        have hnq := firstQuiet_none hfq j hj'
        have hp := allOf_mem h j hj'
        cases ho : ops[j]? with
        | none => rw [ho] at hp; exact hp.elim
        | some o =>
          rw [ho] at hp
          simp only at hp
          unfold wpOpIn
          simp only [ho]
          have next : ∀ a1 w1, After N free (fun e' w' => needC bs j w' (vcAny P free ops bs fuel (listed.setIfInBounds j true) false ev e' w' K) ev) o a w a1 w1 →
              StepC ops bs ev j w w1 ∧ HG r P ops bs Q fuel (listed.setIfInBounds j true) ev a1 w1 := by
            rintro a1 w1 ⟨e1, v, hK, hH1, rfl, hn⟩
            obtain ⟨hK, hneed⟩ := needC_spec hK
            exact ⟨⟨fun h => (by rw [hnq] at h; cases h), fun _ => hneed⟩,
              ih _ false ev e1 _ w1 (hdn.set hj) (fun h => by cases h) hK hH1 fun a' w' hp => hQ a' w' (hp.step (Keep.put a v fun t ht => hD o (mem ho) t ht) hn)⟩
          rcases vcOp_sound (r := r) (Q := Q) hp hH (ok ho) with ⟨hw, hx⟩ | ⟨hw, hx⟩
          · rw [if_pos hw]
            exact Oper.wpIn_mono next hx
          · rw [hw]
            exact ⟨fun _ _ => trivial, next _ _ hx⟩

theorem Ext.of_drew {w : World} {n : Nat} {w' : World} (h : Ext w w') : Ext { w with drawn := n } w' := ⟨h.size, h.keep⟩

theorem draw_sound (hm : P.follows .mixedOrders = true) {K : Env → World → Prop} {D : List Nat} {id : Nat} {e : Env} {a : Act} {w : World} (hb : bitsOk ops (Region.before ops) = true) (hQp : ∀ c a w, ¬ Q (.panic c) a w)
    (hD : ∀ o ∈ ops.toList, ∀ t, o.dst = some t → t ∈ D) (hN : dstsOk N ops.toList = true)
    (h : ∀ w', Ext w w' → Ext w' w → Ns w w' → vcDraw P free ops e w' K) (hH : Holds N e a) (hQ : ∀ a' w', RegPost N free K D a w a' w' → Q .normal a' w') :
    (Code.region id ops true).wpIn (FW r) 0 P Q a w := by
  refine wpIn_region_any hm ?_
  have h := h { w with drawn := w.drawn + 1 } (ext_drew w _) ⟨Nat.le_refl _, fun _ _ h _ => h⟩ (ns_drew w _)
  unfold vcDraw at h
  cases hsel : Region.noSelect ops with
  | false => rw [hsel] at h; exact h.elim
  | true =>
    rw [hsel] at h
    refine HG.any _ _ _ _ _ (vcAny_sound hb hsel hQp hD hN ops.size _ false [] e a _ ?_ (fun h => by cases h) h hH fun a' w' hp => hQ a' w' (hp.step (Keep.refl _ _) fun _ => (ns_drew w _).b))
    intro x o _ hl
    rcases Nat.lt_or_ge x ops.size with h' | h'
    · simp [h'] at hl
    · simp [h'] at hl

end
end Go.Vc
