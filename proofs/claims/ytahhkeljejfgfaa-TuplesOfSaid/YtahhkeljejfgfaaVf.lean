/- Shallow verification conditions, part f: the theorem, and the entry of a function. -/
import Derived.Test.YtahhkeljejfgfaaVe
namespace Go.Vc
open Go Go.RowKit
section
variable {P : Program} {N : Nat}

/-- all that a piece of code leaves satisfies Q -/
def Sound (P : Program) (N : Nat) (c : Code) : Prop :=
  ∀ (free : Md) (r : Option Nat) (rd : List Nat) (e : Env) (a : Act) (w : World) (K : Exit → Env → World → Prop) (Q : Exit → Act → World → Prop),
    wf N c = true → (∀ l, r = some l → free.1 = false ∧ ∃ r0, w.heap[l]? = some (.loop r0)) → (free.1 = false → DefOk w a.defers) →
    vc P N free c rd e w K → Holds N e a → (∀ ex a' w', Post N free (nrOf free c) K (dsts c) a w ex a' w' → Q ex a' w') → (∀ ch a w, ¬ Q (.panic ch) a w) →
    c.wpIn (FW r) 0 P Q a w

theorem sound_seq {x y : Code} (hx : Sound P N x) (hy : Sound P N y) : Sound P N (.seq x y) := by
  intro free r rd e a w K Q hwf hr hd h hH hQ hQp
  simp only [wf, Bool.and_eq_true] at hwf
  have hdx : ∀ t, t ∈ dsts x → t ∈ dsts (.seq x y) := fun t ht => by simp [dsts, ht]
  have hdy : ∀ t, t ∈ dsts y → t ∈ dsts (.seq x y) := fun t ht => by simp [dsts, ht]
  have hnx : nrOf free (.seq x y) = true → nrOf free x = true := fun h => nr_l _ _ _ h
  have hny : nrOf free (.seq x y) = true → nrOf free y = true := fun h => nr_r _ _ _ h
  refine wpIn_seq ?_
  -- what follows x
  have nexty : ∀ (e1 : Env) (a1 : Act) (w1 : World), vc P N free y rd e1 w1 K → Holds N e1 a1 → (∀ t, t ∉ dsts x → a1.tmps.getD t undef = a.tmps.getD t undef) →
      (nrOf free (.seq x y) = true → a1.defers = a.defers) → (free.1 = false → Str free.2 w a.defers w1 a1.defers) → y.wpIn (FW r) 0 P Q a1 w1 := by
    intro e1 a1 w1 h1 hH1 hk hf hn
    refine hy free r rd e1 a1 w1 K Q hwf.2 ?_ (fun h => (hn h).2.1) h1 hH1 ?_ hQp
    · intro l hl
      obtain ⟨hfr, r0, h0⟩ := hr l hl
      exact ⟨hfr, r0, (hn hfr).1.keep _ _ h0 rfl⟩
    · intro ex a' w' hp
      exact hQ ex a' w' (hp.step hdy (fun t ht => hk t fun h => ht (hdx t h)) hny hf hn)
  have lift : ∀ (Kx : Exit → Env → World → Prop), vc P N free x (reads y ++ rd) e w Kx →
      (∀ e1 a1 w1, Post N free (nrOf free x) Kx (dsts x) a w .normal a1 w1 → Holds N e1 a1 → Kx .normal e1 w1 → (∀ t, t ∉ dsts x → a1.tmps.getD t undef = a.tmps.getD t undef) →
        (nrOf free (.seq x y) = true → a1.defers = a.defers) → (free.1 = false → Str free.2 w a.defers w1 a1.defers) → y.wpIn (FW r) 0 P Q a1 w1) →
      (∀ ex e1 w1, ex ≠ .normal → Kx ex e1 w1 → K ex e1 w1) → x.wpIn (FW r) 0 P (Exit.then (y.wpIn (FW r) 0 P Q) Q) a w := by
    intro Kx hv hn hxx
    refine hx free r _ e a w Kx _ hwf.1 hr hd hv hH ?_ ?_
    · intro ex a1 w1 hp
      cases ex with
      | normal =>
        have hp' := hp
        obtain ⟨h0, e1, h1, h2, h3, h4, h5⟩ := hp
        exact hn e1 a1 w1 hp' h2 h1 h3 (fun h => h4 (hnx h)) h5
      | _ =>
        obtain ⟨h0, e1, h1, h2, h3, h4, h5⟩ := hp
        refine hQ _ a1 w1 ⟨h0, e1, hxx _ e1 w1 (by simp) h1, h2, fun t ht => h3 t fun h => ht (hdx t h), fun h => h4 (hnx h), h5⟩
    · intro ch a w hq
      exact hQp ch a w hq
  simp only [vc] at h
  cases hb : Nat.ble 2 (normals x) with
  | false =>
    rw [hb] at h
    refine lift _ h (fun e1 a1 w1 _ hH1 h1 hk hf hn => nexty e1 a1 w1 h1 hH1 hk hf hn) ?_
    intro ex e1 w1 hne h1
    cases ex <;> first | exact absurd rfl hne | exact h1
  | true =>
    rw [hb] at h
    refine lift _ h (fun e1 a1 w1 _ hH1 h1 hk hf hn => ?_) ?_
    · simp only at h1
      cases hv : valsOf e1 (joinSlots N (dsts x) (reads y ++ rd)) with
      | none => rw [hv] at h1; exact h1.elim
      | some vs =>
        rw [hv] at h1
        obtain ⟨hlen, hz⟩ := valsOf_spec hH1 hv
        simp only at h1
        rw [app_lam _ _ _ hlen] at h1
        exact nexty _ a1 w1 h1 (holds_bind (holds_without hH hH1 hk) hz) hk hf hn
    · intro ex e1 w1 hne h1
      cases ex <;> first | exact absurd rfl hne | exact h1

theorem sound_loop {c : Code} (hc : Sound P N c) : Sound P N (.loop c) := by
  intro free r rd e a w K Q hwf hr hd h hH hQ hQp
  simp only [wf] at hwf
  simp only [vc] at h
  generalize hS : loopSlots N (dsts c) (reads c ++ rd) e = S at h
  cases hv : valsOf e S with
  | none => rw [hv] at h; exact h.elim
  | some vs =>
    rw [hv] at h
    simp only at h
    obtain ⟨I, μ, h0, hround⟩ := h
    obtain ⟨hlen0, hz0⟩ := valsOf_spec hH hv
    let Inv : Act → World → Prop := fun a1 w1 => ∃ us, us.length = S.length ∧ app S.length I us w1 ∧ (∀ p ∈ S.zip us, a1.tmps.getD p.1 undef = p.2) ∧ a1.tmps.size = N ∧
      (∀ t, t ∉ dsts c → a1.tmps.getD t undef = a.tmps.getD t undef) ∧ (nrOf free c = true → a1.defers = a.defers) ∧ (free.1 = false → Str free.2 w a.defers w1 a1.defers)
    let vsOf : Act → List Value := fun a1 => S.map fun t => a1.tmps.getD t undef
    have vs_eq : ∀ (a1 : Act) (us : List Value), us.length = S.length → (∀ p ∈ S.zip us, a1.tmps.getD p.1 undef = p.2) → vsOf a1 = us := by
      intro a1 us hl hz
      apply List.ext_getElem
      · simp [vsOf, hl]
      · intro i h1 h2
        have hi : i < S.length := by simpa [vsOf] using h1
        have hmem : (S[i], us[i]) ∈ S.zip us := by
          have := List.getElem_mem (l := S.zip us) (n := i) (by simp [List.length_zip, hl, hi])
          simpa using this
        simpa [vsOf] using hz _ hmem
    refine wpIn_loop Inv (fun a1 w1 => app S.length μ (vsOf a1) w1) ⟨vs, hlen0, h0, hz0, hH.1, fun _ _ => rfl, fun _ => rfl, fun hf => Str.refl (hd hf)⟩ ?_
    rintro a1 w1 ⟨us, hl, hI, hz, hsz, hk, hf, hn⟩
    have hb := allC_app S.length _ us hround
    rw [app_lam _ _ _ hl] at hb
    have hb := hb w1 hI
    have hH1 : Holds N (bindSlots S us (without (dsts c) e)) a1 := by
      refine holds_bind (a := a1) (e := without (dsts c) e) ⟨hsz, fun t x ht => ?_⟩ hz
      obtain ⟨h1, h2⟩ := without_look ht
      rw [hk t h2]; exact hH.2 t x h1
    refine hc free r _ _ a1 w1 _ _ hwf ?_ (fun h => (hn h).2.1) hb hH1 ?_ ?_
    · intro l hl'
      obtain ⟨hfr, r0, h0⟩ := hr l hl'
      exact ⟨hfr, r0, (hn hfr).1.keep _ _ h0 rfl⟩
    · intro ex a2 w2 hp
      have hp2 : ∀ t, t ∉ dsts c → a2.tmps.getD t undef = a.tmps.getD t undef := by
        obtain ⟨_, _, _, _, h3, _, _⟩ := hp
        exact fun t ht => (h3 t ht).trans (hk t ht)
      cases ex with
      | normal =>
        obtain ⟨h0, e2, h1, h2, h3, h4, h5⟩ := hp
        simp only at h1
        cases hv2 : valsOf e2 S with
        | none => rw [hv2] at h1; exact h1.elim
        | some us' =>
          rw [hv2] at h1
          obtain ⟨hl2, hz2⟩ := valsOf_spec h2 hv2
          refine ⟨⟨us', hl2, h1.1, hz2, h2.1, hp2, fun h => (h4 h).trans (hf h), fun h => (hn h).trans (h5 h)⟩, ?_⟩
          rw [vs_eq a1 us hl hz, vs_eq a2 us' hl2 hz2]
          exact h1.2
      | _ =>
        obtain ⟨h0, e2, h1, h2, h3, h4, h5⟩ := hp
        exact hQ _ a2 w2 ⟨h0, e2, h1, h2, hp2, fun h => (h4 h).trans (hf h), fun h => (hn h).trans (h5 h)⟩
    · intro ch a w hq
      exact hQp ch a w hq

theorem sound_range {f : Operand} {ps : Array Tmp} {as body : Code} (ha : Sound P N as) (hb : Sound P N body) : Sound P N (.rangeFunc f ps as body) := by
  intro free r rd e a w K Q hwf hr hd h hH hQ hQp
  simp only [wf, Bool.and_eq_true] at hwf
  obtain ⟨hps, hwa, hwb⟩ := hwf
  simp only [vc] at h
  obtain ⟨fr, b⟩ := free
  cases fr with
  | true => exact h.elim
  | false =>
    simp only [cond_false] at h
    cases hf : opd e f with
    | none => rw [hf] at h; exact h.elim
    | some fv =>
      rw [hf] at h
      obtain ⟨ι, G, g, cap, i0, Done, Y, Φ, I, Ix, hfv, ⟨hen, hit⟩, hY, hΦm, hIm, hIxm, hΦ0, hI0, hround, hdone, hret, hexit⟩ := h
      have hstop : ∀ k ex w', okX ex = true → ex ≠ .normal → Ix k ex w' → K ex e w' := by
        intro k ex w' hok hne hx
        cases ex with
        | normal => exact absurd rfl hne
        | ret =>
          have := hret k w' hx
          cases hr : hasRet body with
          | true => rw [hr] at this; exact this
          | false => rw [hr] at this; exact this.elim
        | exit i => exact lookK_exitKs (hexit k i w' hx)
        | _ => cases hok
      have hev : a.eval f = .func (.func g) #[] cap := by rw [hH.opd hf]; exact hfv
      refine wpIn_rangeFunc ?_
      intro fn _
      -- the two ways of laying the record
      obtain ⟨D, mark, l, W1, rec, hent, hrec, hL1, hD, hE1, hN1, hlw⟩ : ∃ (D : Nat) (mark : List Deferred) (l : Nat) (W1 : World) (rec : LoopState → Option Code → Loop),
          (Instr.enterLoop fn a.tmps ps as body (FW r).round).run P w = .ok (l, mark) W1 ∧
          rec = (fun st pe => { state := st, pending := pe, fn, tmps := a.tmps, params := ps, assign := as, body, defers := D }) ∧
          W1.heap[l]? = some (.loop (rec .ready none)) ∧ (mark = [] ∨ (mark = [mkD D] ∧ W1.heap[D]? = some (.deferred (some [])) ∧ w.heap.size ≤ D ∧ D ≠ l)) ∧ Ext w W1 ∧ NsB b w W1 ∧ w.heap.size ≤ l := by
        cases r with
        | none =>
          refine ⟨w.heap.size, [mkD w.heap.size], w.heap.size + 1, _, _, run_enterLoop_outer _ _ _ _ _, rfl, ?_, .inr ⟨rfl, ?_, Nat.le_refl _, by omega⟩, ?_, ?_, by omega⟩
          · have := World.alloc_heap_new (w.alloc (.deferred (some []))) (.loop { state := .ready, pending := none, fn, tmps := a.tmps, params := ps, assign := as, body, defers := w.heap.size })
            rwa [World.size_alloc] at this
          · exact (Below.heap_alloc _ _ _ (by simp)).trans (World.alloc_heap_new w _)
          · exact (ext_alloc w _).trans (ext_alloc _ _)
          · exact ((ns_alloc w _).trans (ns_alloc _ _)).b
        | some l0 =>
          obtain ⟨_, r0, h0⟩ := hr l0 rfl
          exact ⟨r0.defers, [], w.heap.size, _, _, run_enterLoop_inner h0 _ _ _ _ _, rfl, World.alloc_heap_new w _, .inl rfl, ext_alloc _ _, (ns_alloc _ _).b, Nat.le_refl _⟩
      -- the mark's block
      let Mk : World → Prop := fun W => mark = [] ∨ (mark = [mkD D] ∧ W.heap[D]? = some (.deferred (some [])) ∧ w.heap.size ≤ D ∧ D ≠ l)
      have mk_ns : ∀ {m : Nat} {A B : World}, NsB m A B → Mk A → Mk B := fun hn h => h.imp id fun ⟨h1, h2, h3⟩ => ⟨h1, hn.keep _ _ h2 rfl, h3⟩
      have mk_put : ∀ {A : World} (o : Obj), Mk A → Mk (A.putObj l o) := fun o h => h.imp id fun ⟨h1, h2, h3, h4⟩ => ⟨h1, (World.putObj_heap_other h4).trans h2, h3, h4⟩
      let J : ι → World → Prop := fun k W => I k W ∧ W.heap[l]? = some (.loop (rec .ready none)) ∧ NsB b w W ∧ Mk W
      let Jx : ι → World → Prop := fun k W => ∃ ex c, okX ex = true ∧ exitCode ex = some c ∧ Ix k ex W ∧ W.heap[l]? = some (.loop (rec .done (some c))) ∧ NsB b w W ∧ Mk W
      have hcall := hit l J Jx W1 (fun k A B he hn ⟨h1, h2, h3, h4⟩ => ⟨hIm k A B he h1, hn.keep _ _ h2 rfl, h3.step hn hE1.size, mk_ns hn h4⟩)
        (fun k A B he hn ⟨ex, c, h0, h1, h2, h3, h4, h5⟩ => ⟨ex, c, h0, h1, hIxm k ex A B he h2, hn.keep _ _ h3 rfl, h4.step hn hE1.size, mk_ns hn h5⟩) ?round (hΦm _ _ hE1 hΦ0) ⟨hIm _ _ _ hE1 hI0, hL1, hN1, hD⟩
      case round =>
        -- one round
        intro k k' vs W hΦ hy ⟨hi, hl, hns, hmk⟩
        have hlen := hY k vs k' W hy
        have hyield := run_yield (P := P) (args := vs.toArray) hl (by rw [hrec]; simp [hlen])
        rw [hrec] at hyield
        refine ⟨fn, _, as, body, hyield, roundIn_of_wpIn trivial ?_⟩
        have htm : (ps.zip vs.toArray).foldl (fun tmps x => match x with | (t, a) => tmps.setIfInBounds t a) a.tmps = (ps.toList.zip vs).foldl (fun tm (p : Nat × Value) => tm.setIfInBounds p.1 p.2) a.tmps := by
          rw [← Array.foldl_toList, Array.toList_zip]
        have hHr := roundTmps (N := N) ps.toList vs a.tmps e (by simp [hlen]) hps (show Holds N e { tmps := a.tmps, defers := [] } from ⟨hH.1, hH.2⟩)
        rw [← htm] at hHr
        have hld : W.heap[l]? = some (.loop (rec .ready none)) := hl
        refine ha (false, b) (some l) _ _ _ W _ _ hwa (fun l' hl' => ⟨rfl, by cases hl'; exact ⟨_, hl⟩⟩) (fun _ => ⟨[], rfl, List.nodup_nil, fun D hD => by cases hD⟩) (by have hb := allC_app _ _ vs hround; rw [app_lam _ _ _ hlen] at hb; exact hb k k' W hΦ hy hi) hHr ?_ (fun _ _ _ h => h)
        intro ex a1 W2 hp
        obtain ⟨h0, e1, h1, h2, h3, h4, h5⟩ := hp
        obtain ⟨hn2, hd2, _⟩ := h5 rfl
        cases ex with
        | normal =>
          have hl2 : W2.heap[l]? = some (.loop (rec .ready none)) := hn2.keep _ _ hl rfl
          have hlt2 := (Array.getElem?_eq_some_iff.1 hl2).1
          refine ⟨_, run_beginRound hl2 (by rw [hrec]), ?_⟩
          have hE3 : Ext W2 (W2.putObj l (.loop { rec .ready none with state := .busy })) := ext_putObj hl2 rfl _
          have hl3 : (W2.putObj l (.loop { rec .ready none with state := .busy })).heap[l]? = some (.loop { rec .ready none with state := .busy }) := World.putObj_heap_same hlt2
          have hd3 : DefOk (W2.putObj l (.loop { rec .ready none with state := .busy })) a1.defers := by
            obtain ⟨ms, q1, q2, q3⟩ := hd2
            refine ⟨ms, q1, q2, fun D' hD' => ?_⟩
            have := q3 D' hD'
            have hne : D' ≠ l := fun he => by rw [he, hl2] at this; cases this
            rw [World.putObj_heap_other hne]; exact this
          have hN3 : NsB b w (W2.putObj l (.loop { rec .ready none with state := .busy })) := ns_putObj (hns.trans hn2) hlw _
          have hM3 := mk_put (.loop { rec .ready none with state := .busy }) (mk_ns hn2 hmk)
          have hbody := h1 _ hE3 (ext_putObj' rfl) (its_putObj (Its.refl _) hl2 rfl _)
          refine hb (false, b) (some l) _ _ a1 _ _ _ hwb (fun l' hl' => ⟨rfl, by cases hl'; exact ⟨_, hl3⟩⟩) (fun _ => hd3) hbody h2 ?_ (fun _ _ _ h => h)
          intro ex2 a2 W4 hp
          obtain ⟨g0, e2, g1, g2, g3, g4, g5⟩ := hp
          obtain ⟨hn4, _, _⟩ := g5 rfl
          have hl4 : W4.heap[l]? = some (.loop { rec .ready none with state := .busy }) := hn4.keep _ _ hl3 rfl
          have hlt4 := (Array.getElem?_eq_some_iff.1 hl4).1
          have hend := fun jump => run_endRound (P := P) jump hl4
          have hput : ∀ (o : Obj), Ext W4 (W4.putObj l o) := fun o => ext_putObj hl4 rfl o
          have fin : ∀ (ex : Exit) (c : Code), okX ex = true → exitCode ex = some c → Ix k ex W4 →
              ∃ v w', (Instr.endRound l (some c)).run P W4 = .ok v w' ∧ ∃ v', Ending.returned v = .returned v' ∧ ((v' = .bool true ∧ Φ w' ∧ J k' w' ∧ (G = true → Its W w')) ∨ (v' = .bool false ∧ Jx k w')) := by
            intro ex c hok hec hix
            refine ⟨_, _, hend (some c), _, rfl, .inr ⟨rfl, ex, c, hok, hec, hIxm k ex _ _ (hput _) hix, ?_, ns_putObj (hN3.trans hn4) hlw _, mk_put _ (mk_ns hn4 hM3)⟩⟩
            rw [World.putObj_heap_same hlt4, hrec]; rfl
          cases ex2 with
          | normal =>
            obtain ⟨q1, q2, q3⟩ := g1
            refine ⟨_, _, hend none, _, rfl, .inl ⟨rfl, hΦm _ _ (hput _) q1, ⟨hIm _ _ _ (hput _) q2, ?_, ns_putObj (hN3.trans hn4) hlw _, mk_put _ (mk_ns hn4 hM3)⟩, fun hG => its_putObj (q3 hG) hl4 rfl _⟩⟩
            rw [World.putObj_heap_same hlt4, hrec]; rfl
          | ret => exact fin .ret _ rfl rfl g1
          | exit id => exact fin (.exit id) _ rfl rfl g1
          | goto t => cases g0
          | panic ch => cases g0
          | outgrown => cases g0
        | _ => exact h1.elim
      -- the call
      have hcall := CalF.calls P hcall hen
      refine ⟨l, mark, W1, { target := .fn (.func g) cap, args := #[.func (.yield l) #[] #[]] }, W1, g, #[.func (.yield l) #[] #[]] ++ cap, W1, hent, ?_, fun _ _ => trivial, ?_, FW_depth _ _, ?_⟩
      · simp only [resolve, hev]
        simp [go_sem]
      · simp only [invoke]
        exact hen _ _
      · have hargs : (#[.func (.yield l) #[] #[]] ++ cap : Array Value) = (Value.func (.yield l) #[] #[] :: cap.toList).toArray := by apply Array.toList_inj.1; simp
        rw [hargs]
        refine CallsIn.mono (callsIn_FW hcall) ?_
        rintro en W2 ⟨v, rfl, hjx⟩
        -- what is left behind
        have left : ∀ (rc : Loop) (ex : Exit), okX ex = true → W2.heap[l]? = some (.loop rc) → rc.state ≠ .busy → NsB b w W2 → Mk W2 → K ex e (W2.putObj l (.loop { rc with state := .exhausted })) →
            Q ex { a with defers := mark ++ a.defers } (W2.putObj l (.loop { rc with state := .exhausted })) := by
          intro rc ex hok hl2 hnb hn2 hm2 hK
          have hn4 : NsB b w (W2.putObj l (.loop { rc with state := .exhausted })) := ns_putObj hn2 hlw _
          refine hQ ex _ _ ⟨hok, e, hK, ⟨hH.1, hH.2⟩, fun _ _ => rfl, (fun h => by simp [nrOf, hasRange] at h), fun _ => ⟨hn4, ?_, ?_⟩⟩
          case refine_2 =>
            rcases hm2 with hm | ⟨hm, _, hm5, _⟩
            · exact ⟨[], by simp [hm], fun _ h => by cases h⟩
            · exact ⟨[D], by simp [hm], fun D' hD' => by simp at hD'; omega⟩
          obtain ⟨ms, q1, q2, q3⟩ := hd rfl
          have hm4 := mk_put (.loop { rc with state := .exhausted }) hm2
          rcases hm4 with hm | ⟨hm, hm4, hm5, _⟩
          · exact ⟨ms, by simp [hm, q1], q2, fun D' hD' => hn4.keep _ _ (q3 D' hD') rfl⟩
          · refine ⟨D :: ms, by simp [hm, q1], List.nodup_cons.2 ⟨fun hmem => ?_, q2⟩, fun D' hD' => ?_⟩
            · have := (Array.getElem?_eq_some_iff.1 (q3 D hmem)).1
              omega
            · rcases List.mem_cons.1 hD' with h | h
              · rw [h]; exact hm4
              · exact hn4.keep _ _ (q3 D' h) rfl
        rcases hjx with ⟨k, hk, h1, h2, h3, h4⟩ | ⟨k, ex, c, h0, h1, h2, h3, h4, h5⟩
        · refine ⟨none, _, by have := run_endLoop (P := P) h2 (by rw [hrec]; simp); rw [hrec] at this; exact this, ?_⟩
          have := left (rec .ready none) .normal rfl h2 (by rw [hrec]; simp) h3 h4 (hdone _ _ hk (hIm _ _ _ (ext_putObj h2 rfl _) h1))
          rw [hrec] at this
          exact this
        · refine ⟨some c, _, by have := run_endLoop (P := P) h3 (by rw [hrec]; simp); rw [hrec] at this; exact this, ?_⟩
          have := left (rec .done (some c)) ex h0 h3 (by rw [hrec]; simp) h4 h5 (hstop k ex _ h0 (by intro he; rw [he] at h1; cases h1) (hIxm _ _ _ _ (ext_putObj h3 rfl _) h2))
          rw [hrec] at this
          cases ex with
          | normal => cases h1
          | ret => cases h1; exact wpIn_ret this
          | exit id => cases h1; exact wpIn_exit this
          | goto t => cases h0
          | panic ch => cases h0
          | outgrown => cases h0

theorem stepR_scope' {b : Frame} {a : Act} {k : List Item} {cs : List Frame} {w : World} {c : Code} :
    step P (lone (b.atR a (.code (.scope c) :: k)) cs w) = .next (lone (b.atR a (.code c :: .inScope c :: k)) cs w) :=
  step_lone_go (by simp [stepG, stepG.exec, Frame.atR])
theorem stepR_inScope' {b : Frame} {a : Act} {k : List Item} {cs : List Frame} {w : World} {c : Code} :
    step P (lone (b.atR a (.inScope c :: k)) cs w) = .next (lone (b.atR a k) cs w) :=
  step_lone_go (by simp [stepG, stepG.exec, Frame.atR])

/-- a scope through which the run goes without a jump to a label -/
theorem wpIn_scope' {F : Fence} {n : Nat} {c : Code} {Q : Exit → Act → World → Prop} {a : Act} {w : World} (h : c.wpIn F n P (fun ex a' w' => okX ex = true ∧ Q ex a' w') a w) :
    (Code.scope c).wpIn F n P Q a w := by
  intro b k cs hro hb hr
  have h0 : (lone (b.atR a (.code (.scope c) :: k)) cs w).fenced P F := fenced_calm hb hr rfl
  obtain ⟨e, a₁, w₁, ⟨hok, hq⟩, harr⟩ := h b (.inScope c :: k) cs hro hb hr
  have hx : ∀ id, exitTo id (.inScope c :: k) = exitTo id k := fun id => by simp [exitTo]
  cases e with
  | normal => exact ⟨.normal, a₁, w₁, hq, .head h0 stepR_scope' (StepsIn.trans harr (.one (fenced_calm hb hr rfl) stepR_inScope'))⟩
  | exit id =>
    exact ⟨.exit id, a₁, w₁, hq, fun k' hk => .head h0 stepR_scope' (harr.1 k' (by rw [hx]; exact hk)),
      fun hr' hk => let ⟨k₁, h1, h2⟩ := harr.2 hr' (by rw [hx]; exact hk); ⟨k₁, h1, .head h0 stepR_scope' h2⟩⟩
  | ret => exact ⟨_, a₁, w₁, hq, .of_steps (.one h0 stepR_scope') harr⟩
  | goto l => cases hok
  | panic ch => cases hok
  | outgrown => cases hok

/-- the conditions are sound, of whatever code -/
theorem sound (hm : P.follows .mixedOrders = true) (c : Code) : Sound P N c := by
  induction c with
  | skip => exact fun free r rd e a w K Q _ _ hd h hH hQ _ => wpIn_skip (hQ _ _ _ ⟨rfl, e, h, hH, fun _ _ => rfl, fun _ => rfl, fun hf => Str.refl (hd hf)⟩)
  | label l => exact fun free r rd e a w K Q _ _ hd h hH hQ _ => wpIn_label (hQ _ _ _ ⟨rfl, e, h, hH, fun _ _ => rfl, fun _ => rfl, fun hf => Str.refl (hd hf)⟩)
  | ret => exact fun free r rd e a w K Q _ _ hd h hH hQ _ => wpIn_ret (hQ _ _ _ ⟨rfl, e, h, hH, fun _ _ => rfl, fun _ => rfl, fun hf => Str.refl (hd hf)⟩)
  | exit i => exact fun free r rd e a w K Q _ _ hd h hH hQ _ => wpIn_exit (hQ _ _ _ ⟨rfl, e, h, hH, fun _ _ => rfl, fun _ => rfl, fun hf => Str.refl (hd hf)⟩)
  | goto l => exact fun free r rd e a w K Q _ _ hd h hH hQ _ => h.elim
  | refuse s => exact fun free r rd e a w K Q _ _ hd h hH hQ _ => h.elim
  | region id ops draw =>
    intro free r rd e a w K Q hwf hr hd h hH hQ hQp
    simp only [wf, Bool.and_eq_true] at hwf
    have hD : ∀ o ∈ ops.toList, ∀ t, o.dst = some t → t ∈ opDsts ops.toList := fun o ho t ht => opDsts_mem ht _ ho
    simp only [vc] at h
    cases draw with
    | false => exact region_sound hD hwf.1 h hH fun a' w' hp => hQ _ _ _ (post_region hd hp)
    | true =>
      simp only [Bool.not_true, Bool.false_or] at hwf
      exact draw_sound hm hwf.2 hQp hD hwf.1 (fun w' h1 h2 h3 => h w' h1 h2 h3) hH fun a' w' hp => hQ _ _ _ (post_region hd hp)
  | seq x y hx hy => exact sound_seq hx hy
  | cond c x y hx hy =>
    intro free r rd e a w K Q hwf hr hd h hH hQ hQp
    simp only [wf, Bool.and_eq_true] at hwf
    have dx : ∀ ex a' w', Post N free (nrOf free x) K (dsts x) a w ex a' w' → Q ex a' w' := fun ex a' w' hp => hQ ex a' w' (by
      obtain ⟨h0, e', h1, h2, h3, h4, h5⟩ := hp
      exact ⟨h0, e', h1, h2, fun t ht => h3 t fun h => ht (by simp [dsts, h]), (fun h => h4 (nr_l _ _ _ h)), h5⟩)
    have dy : ∀ ex a' w', Post N free (nrOf free y) K (dsts y) a w ex a' w' → Q ex a' w' := fun ex a' w' hp => hQ ex a' w' (by
      obtain ⟨h0, e', h1, h2, h3, h4, h5⟩ := hp
      exact ⟨h0, e', h1, h2, fun t ht => h3 t fun h => ht (by simp [dsts, h]), (fun h => h4 (nr_r _ _ _ h)), h5⟩)
    simp only [vc] at h
    cases hc : opd e c with
    | none => rw [hc] at h; exact h.elim
    | some v =>
      rw [hc] at h
      cases v with
      | b t =>
        cases t with
        | true => exact wpIn_cond (t := true) (hH.opd hc) (hx free r rd e a w K Q hwf.1 hr hd h hH dx hQp)
        | false => exact wpIn_cond (t := false) (hH.opd hc) (hy free r rd e a w K Q hwf.2 hr hd h hH dy hQp)
      | v z =>
        obtain ⟨t, hz, ht, hf⟩ := h
        refine wpIn_cond (t := t) ((hH.opd hc).trans hz) ?_
        cases t with
        | true => exact hx free r rd e a w K Q hwf.1 hr hd (ht rfl) hH dx hQp
        | false => exact hy free r rd e a w K Q hwf.2 hr hd (hf rfl) hH dy hQp
      | u => exact h.elim
  | block id c hc =>
    intro free r rd e a w K Q hwf hr hd h hH hQ hQp
    simp only [wf] at hwf
    simp only [vc] at h
    refine wpIn_block (hc free r rd e a w _ _ hwf hr hd h hH ?_ fun ch a w hq => hQp ch a w hq)
    intro ex a' w' hp
    obtain ⟨h0, e', h1, h2, h3, h4⟩ := hp
    cases ex with
    | exit i =>
      simp only [Exit.inBlock]
      simp only at h1
      by_cases hi : i = id
      · rw [if_pos hi]
        rw [hi, Nat.beq_refl] at h1
        exact hQ _ _ _ ⟨rfl, e', h1, h2, h3, h4⟩
      · rw [if_neg hi]
        have : Nat.beq i id = false := by
          cases hb : Nat.beq i id with
          | true => exact absurd (Nat.eq_of_beq_eq_true hb) hi
          | false => rfl
        rw [this] at h1
        exact hQ _ _ _ ⟨rfl, e', h1, h2, h3, h4⟩
    | _ => exact hQ _ _ _ ⟨h0, e', h1, h2, h3, h4⟩
  | loop c hc => exact sound_loop hc
  | scope c hc =>
    intro free r rd e a w K Q hwf hr hd h hH hQ hQp
    exact wpIn_scope' (hc free r rd e a w K (fun ex a' w' => okX ex = true ∧ Q ex a' w') hwf hr hd h hH (fun ex a' w' hp => ⟨hp.1, hQ ex a' w' hp⟩) fun ch a w hq => by cases hq.1)
  | rangeFunc f ps as body ha hb => exact sound_range ha hb

/-! ### a function -/
def parEnv : Nat → List Value → Env
  | _, [] => []
  | i, v :: r => (i, .v v) :: parEnv (i + 1) r

/-- the results, as they stand when the function is left -/
def resVals (P : Program) (e : Env) (w : World) : List ResultVar → (List Value → Prop) → Prop
  | [], K => K []
  | .tmp t :: r, K => match look e t with
    | some x => resVals P e w r fun vs => K (x.val :: vs)
    | none => False
  | .cell a t :: r, K => match look e a with
    | some x => RunQ P (do loadVar t (← asAddr x.val)) w fun v => resVals P e w r fun vs => K (v :: vs)
    | none => False

def tupV : List Value → Value
  | [v] => v
  | vs => .tuple vs.toArray

def retK (P : Program) (rs : List ResultVar) (marks : Bool) (Q : Value → World → Prop) : Exit → Env → World → Prop
  | .normal, e, w | .ret, e, w => resVals P e w rs fun vs => bif marks then Again w fun w' => Q (tupV vs) w' else Q (tupV vs) w
  | _, _, _ => False

def resReads : List ResultVar → List Nat
  | [] => []
  | .tmp t :: r => t :: resReads r
  | .cell a _ :: r => a :: resReads r

theorem look_parEnv : ∀ (vs : List Value) (i t : Nat) (x : EV), look (parEnv i vs) t = some x → ∃ j v, t = i + j ∧ vs[j]? = some v ∧ x = .v v
  | [], _, _, _, h => by cases h
  | v :: r, i, t, x, h => by
    simp only [parEnv, look] at h
    cases hb : Nat.beq i t with
    | true =>
      rw [hb] at h
      simp only [cond_true, Option.some.injEq] at h
      exact ⟨0, v, by rw [Nat.eq_of_beq_eq_true hb]; rfl, rfl, h.symm⟩
    | false =>
      rw [hb] at h
      obtain ⟨j, u, h1, h2, h3⟩ := look_parEnv r (i + 1) t x h
      exact ⟨j + 1, u, by omega, by simpa using h2, h3⟩

theorem holds_start {n : Nat} (vs : List Value) (h : vs.length ≤ n) : Holds n (parEnv 0 vs) { tmps := vs.toArray ++ Array.replicate (n - vs.toArray.size) undef, defers := [] } := by
  refine ⟨by simp; omega, fun t x hx => ?_⟩
  obtain ⟨j, v, h1, h2, rfl⟩ := look_parEnv vs 0 t x hx
  have h1 : t = j := by omega
  subst h1
  have hlt : t < vs.length := (List.getElem?_eq_some_iff.1 h2).1
  rw [Array.getD_eq_getD_getElem?, Array.getElem?_append_left (by simpa using hlt)]
  simp [h2, EV.val]

def resF (tm : Array Value) : ResultVar → Sem Value
  | .tmp t => pure (tm.getD t undef)
  | .cell b t => do loadVar t (← asAddr (tm.getD b undef))

theorem results_resF (fn : Func) (tm : Array Value) : results fn tm = (do let vs ← fn.results.mapM (resF tm); pure (if h : vs.size = 1 then vs[0] else .tuple vs)) := by
  unfold results
  congr 2

/-- the results are read; what is read stays, whatever is added -/
theorem resVals_run {e : Env} {a : Act} {w : World} (hH : Holds N e a) : ∀ (rs : List ResultVar) (K : List Value → Prop), resVals P e w rs K →
    ∃ vs, K vs ∧ vs.length = rs.length ∧ ∀ w', Ext w w' → (rs.mapM (resF a.tmps)).run P w' = .ok vs w'
  | [], K, h => ⟨[], h, rfl, fun w' _ => by simp [Sem.run_pure]⟩
  | .tmp t :: r, K, h => by
    simp only [resVals] at h
    cases hl : look e t with
    | none => rw [hl] at h; exact h.elim
    | some x =>
      rw [hl] at h
      obtain ⟨vs, h1, h2, h3⟩ := resVals_run hH r _ h
      refine ⟨x.val :: vs, h1, by simp [h2], fun w' hw => ?_⟩
      rw [List.mapM_cons]
      simp only [resF, Sem.run_bind, Sem.run_pure, Result.andThen, h3 w' hw, hH.2 t x hl]
  | .cell b t :: r, K, h => by
    simp only [resVals] at h
    cases hl : look e b with
    | none => rw [hl] at h; exact h.elim
    | some x =>
      rw [hl] at h
      obtain ⟨v, hv, h⟩ := h
      obtain ⟨vs, h1, h2, h3⟩ := resVals_run hH r _ h
      refine ⟨v :: vs, h1, by simp [h2], fun w' hw => ?_⟩
      rw [List.mapM_cons]
      have := hv w' hw
      rw [← hH.2 b x hl] at this
      rw [resF, Sem.run_bind, this]
      simp only [Result.andThen, Sem.run_bind, h3 w' hw, Sem.run_pure]

theorem results_run {fn : Func} {e : Env} {a : Act} {w : World} (hH : Holds N e a) {K : List Value → Prop} (h : resVals P e w fn.results.toList K) :
    ∃ vs, K vs ∧ ∀ w', Ext w w' → (results fn a.tmps).run P w' = .ok (tupV vs) w' := by
  obtain ⟨vs, h1, h2, h3⟩ := resVals_run hH _ _ h
  refine ⟨vs, h1, fun w' hw => ?_⟩
  have h3 := h3 w' hw
  rw [results_resF, Sem.run_bind, Array.mapM_eq_mapM_toList, map_eq_pure_bind, Sem.run_bind, h3]
  simp only [Result.andThen, Sem.run_pure]
  cases vs with
  | nil => rfl
  | cons v r =>
    cases r with
    | nil => rfl
    | cons u r => simp [tupV]

theorem run_marks {fn : Func} {tmps : Array Value} {R : Ending → World → Prop} : ∀ (ms : List Nat) (w : World), ms.Nodup → (∀ D ∈ ms, w.heap[D]? = some (.deferred (some []))) →
    (∀ w', Ext w w' → Ext w' w → w'.os = w.os → w'.tape = w.tape → w'.output = w.output → w.heap.size = w'.heap.size →
      (∀ r, r ∉ ms → w'.heap[r]? = w.heap[r]?) → ∃ v, (results fn tmps).run P w' = .ok v w' ∧ R (.returned v) w') →
    LeavesInM Fence.wide 0 P fn tmps R (ms.map mkD) .returning w
  | [], w, _, _, h => by
    obtain ⟨v, h1, h2⟩ := h w (Ext.refl _) (Ext.refl _) rfl rfl rfl rfl fun _ _ => rfl
    exact ⟨v, h1, h2⟩
  | D :: ms, w, hnd, hD, h => by
    rw [List.nodup_cons] at hnd
    have hd := hD D (.head _)
    refine ⟨by simp, .inl ⟨D, _, rfl, run_takeDeferred hd, ?_⟩⟩
    refine run_marks ms _ hnd.2 (fun D' hD' => ?_) fun w' h1 h2 h3 h4 h5 h6 h7 => ?_
    · rw [World.putObj_heap_other (fun he => hnd.1 (by rw [← he]; exact hD'))]
      exact hD D' (.tail _ hD')
    · refine h w' ((ext_putObj hd rfl _).trans h1) (h2.trans (ext_putObj' rfl)) h3 h4 h5 (by simpa using h6) fun r hr => ?_
      rw [h7 r fun hm => hr (.tail _ hm), World.putObj_heap_other fun he => hr (by rw [he]; exact .head _)]

/-- **a function's contract, out of its conditions** -/
theorem Cal.enter (hm : P.follows .mixedOrders = true) {f : FuncId} {fn : Func} {c : Code} (hf : P.funcs[f]? = some fn) (hb : fn.body = some c) (hn : (fn.name == "runtime.NumGoroutine") = false)
    (hwf : wf fn.ntmps c = true) {args : List Value} (hargs : Nat.ble args.length fn.ntmps = true) {w : World} {Q : Value → World → Prop}
    (h : vc P fn.ntmps (false, w.heap.size) c (resReads fn.results.toList) (parEnv 0 args) w (retK P fn.results.toList true Q)) : Cal P f args w Q := by
  refine .code (Enters.of P hf hb hn) (callsIn_wide (n := 0).1 (callsIn_of_wp_marks hf hb trivial ?_))
  have hH := holds_start (n := fn.ntmps) args (Nat.le_of_ble_eq_true hargs)
  refine wpIn_mono (Q := fun ex a' w' => okX ex = true ∧ bodyPostM Fence.wide 0 P fn (fun e w' => ∃ v, e = .returned v ∧ Ns w w' ∧ Q v w') ex a' w') ?_ fun _ _ _ h => h.2
  refine sound hm c (false, w.heap.size) none _ _ _ w _ _ hwf (fun l hl => by cases hl) (fun _ => ⟨[], rfl, List.nodup_nil, fun D hD => by cases hD⟩) h hH ?_ (fun _ _ _ h => by cases h.1)
  · intro ex a' w' hp
    obtain ⟨hok, e', hK, hH', _, _, hs⟩ := hp
    obtain ⟨hns, ⟨ms, hms, hnd, hD⟩, ms', hms', hge⟩ := hs rfl
    have hge' : ∀ D ∈ ms, w.heap.size ≤ D := by
      intro D hD'
      have h1 : mkD D ∈ ms'.map mkD := by
        have : mkD D ∈ ms.map mkD := List.mem_map.2 ⟨D, hD', rfl⟩
        rw [← hms, hms'] at this
        simpa using this
      obtain ⟨D2, h2, h3⟩ := List.mem_map.1 h1
      have : D2 = D := by simpa [mkD] using h3
      exact this ▸ hge D2 h2
    have leave : retK P fn.results.toList true Q .ret e' w' → LeavesInM Fence.wide 0 P fn a'.tmps (fun e w'' => ∃ v, e = .returned v ∧ Ns w w'' ∧ Q v w'') a'.defers .returning w' := by
      intro hK
      rw [hms]
      obtain ⟨vs, h1, h2⟩ := results_run (fn := fn) hH' hK
      refine run_marks ms w' hnd hD fun w2 g1 g2 g3 g4 g5 g6 g7 => ⟨_, h2 w2 g1, _, rfl, ?_, h1 w2 g1 g2⟩
      have hns := hns.ns (Nat.le_refl _)
      refine ⟨g3.trans hns.os, g4.trans hns.tape, g5.trans hns.output, by rw [← g6]; exact hns.size, fun r o hr hso => ?_⟩
      have hlt := (Array.getElem?_eq_some_iff.1 hr).1
      rw [g7 r fun hm => by have := hge' r hm; omega]
      exact hns.keep r o hr hso
    cases ex with
    | normal => exact ⟨rfl, leave hK⟩
    | ret => exact ⟨rfl, leave hK⟩
    | exit id => exact hK.elim
    | _ => cases hok

/-- the same where no range over a function is in the code: the world is left as it is -/
theorem Cal.enter' (hm : P.follows .mixedOrders = true) {f : FuncId} {fn : Func} {c : Code} (hf : P.funcs[f]? = some fn) (hb : fn.body = some c) (hn : (fn.name == "runtime.NumGoroutine") = false)
    (hwf : wf fn.ntmps c = true) {args : List Value} (hargs : Nat.ble args.length fn.ntmps = true) (hh : hasRange c = false) {w : World} {Q : Value → World → Prop}
    (h : vc P fn.ntmps (false, w.heap.size) c (resReads fn.results.toList) (parEnv 0 args) w (retK P fn.results.toList false Q)) : Cal P f args w Q := by
  refine .code (Enters.of P hf hb hn) (callsIn_wide (n := 0).1 (callsIn_of_wp hf hb trivial ?_))
  have hH := holds_start (n := fn.ntmps) args (Nat.le_of_ble_eq_true hargs)
  refine wpIn_mono (Q := fun ex a' w' => okX ex = true ∧ bodyPost P fn (fun e w' => ∃ v, e = .returned v ∧ Ns w w' ∧ Q v w') ex a' w') ?_ fun _ _ _ h => h.2
  refine sound hm c (false, w.heap.size) none _ _ _ w _ _ hwf (fun l hl => by cases hl) (fun _ => ⟨[], rfl, List.nodup_nil, fun D hD => by cases hD⟩) h hH ?_ (fun _ _ _ h => by cases h.1)
  intro ex a' w' hp
  obtain ⟨hok, e', hK, hH', _, hdf, hs⟩ := hp
  have hd : a'.defers = [] := hdf (by simp [nrOf, hh])
  have leave : retK P fn.results.toList false Q .ret e' w' → a'.defers = [] ∧ ∃ v, (results fn a'.tmps).run P w' = .ok v w' ∧ ∃ v', Ending.returned v = .returned v' ∧ Ns w w' ∧ Q v' w' := by
    intro hK
    obtain ⟨vs, h1, h2⟩ := results_run (fn := fn) hH' hK
    exact ⟨hd, _, h2 w' (Ext.refl _), _, rfl, (hs rfl).1.ns (Nat.le_refl _), h1⟩
  cases ex with
  | normal => exact ⟨rfl, leave hK⟩
  | ret => exact ⟨rfl, leave hK⟩
  | exit id => exact hK.elim
  | _ => cases hok

/-- a function that is handed yield -/
theorem CalF.enter (hm : P.follows .mixedOrders = true) {f : FuncId} {fn : Func} {c : Code} (hf : P.funcs[f]? = some fn) (hb : fn.body = some c) (hn : (fn.name == "runtime.NumGoroutine") = false)
    (hwf : wf fn.ntmps c = true) {args : List Value} (hargs : Nat.ble args.length fn.ntmps = true) {w : World} {Q : Value → World → Prop}
    (h : vc P fn.ntmps (true, 0) c (resReads fn.results.toList) (parEnv 0 args) w (retK P fn.results.toList false Q)) : CalF P f args w Q := by
  refine .code (Enters.of P hf hb hn) (callsIn_wide (n := 0).1 (callsIn_of_wp hf hb trivial ?_))
  have hH := holds_start (n := fn.ntmps) args (Nat.le_of_ble_eq_true hargs)
  refine wpIn_mono (Q := fun ex a' w' => okX ex = true ∧ bodyPost P fn (fun e w' => ∃ v, e = .returned v ∧ Q v w') ex a' w') ?_ fun _ _ _ h => h.2
  refine sound hm c (true, 0) none _ _ _ w _ _ hwf (fun l hl => by cases hl) (fun h => by cases h) h hH ?_ (fun _ _ _ h => by cases h.1)
  intro ex a' w' hp
  obtain ⟨hok, e', hK, hH', _, hdf, hs⟩ := hp
  have hd : a'.defers = [] := hdf rfl
  have leave : retK P fn.results.toList false Q .ret e' w' → a'.defers = [] ∧ ∃ v, (results fn a'.tmps).run P w' = .ok v w' ∧ ∃ v', Ending.returned v = .returned v' ∧ Q v' w' := by
    intro hK
    obtain ⟨vs, h1, h2⟩ := results_run (fn := fn) hH' hK
    exact ⟨hd, _, h2 w' (Ext.refl _), _, rfl, h1⟩
  cases ex with
  | normal => exact ⟨rfl, leave hK⟩
  | ret => exact ⟨rfl, leave hK⟩
  | exit id => exact hK.elim
  | _ => cases hok

end
end Go.Vc
