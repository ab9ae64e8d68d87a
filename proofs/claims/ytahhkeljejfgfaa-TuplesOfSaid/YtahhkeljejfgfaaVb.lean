/- Shallow verification conditions, part b: regions, in the order of the text or in whatever order. -/
import Derived.Test.YtahhkeljejfgfaaVa
namespace Go.Vc
open Go Go.RowKit

/-! ### what does not depend on the world -/
section
variable {P : Program}
def Still {α : Type} (P : Program) (s : Sem α) : Prop := ∀ w v w1, s.run P w = .ok v w1 → w1 = w ∧ ∀ w', s.run P w' = .ok v w'
theorem Still.pure {α : Type} (a : α) : Still P (Pure.pure a : Sem α) := fun w v w1 h => by
  rw [Sem.run_pure] at h; cases h; exact ⟨rfl, fun w' => by rw [Sem.run_pure]⟩
theorem Still.bind {α β : Type} {s : Sem α} {f : α → Sem β} (hs : Still P s) (hf : ∀ a, Still P (f a)) : Still P (s >>= f) := fun w v w1 h => by
  rw [Sem.run_bind] at h
  cases hr : s.run P w with
  | halt x w2 => rw [hr] at h; simp [Result.andThen] at h
  | ok a w2 =>
    rw [hr] at h
    obtain ⟨rfl, h2⟩ := hs w a w2 hr
    obtain ⟨rfl, h3⟩ := hf a _ v w1 h
    exact ⟨rfl, fun w' => by rw [Sem.run_bind, h2 w']; exact h3 w'⟩
theorem Still.never {α : Type} {s : Sem α} (h : ∀ w v w1, s.run P w ≠ .ok v w1) : Still P s := fun w v w1 h' => absurd h' (h w v w1)
theorem Still.stuck {α : Type} (m : String) : Still P (stuck m : Sem α) := .never fun w v w1 h => by simp [Go.stuck] at h
theorem Still.unsupported {α : Type} (m) : Still P (unsupported m : Sem α) := .never fun w v w1 h => by simp [Go.unsupported] at h
theorem Still.program : Still P program := fun w v w1 h => by cases h; exact ⟨rfl, fun _ => rfl⟩
theorem Still.underlying (t : TypeId) : Still P (underlying t) := Still.bind .program fun p => by
  cases p.underlying t with
  | some d => exact Still.pure d
  | none => exact Still.stuck _
theorem Still.typeInfo (t : TypeId) : Still P (typeInfo t) := Still.bind .program fun p => by
  cases p.info? t with
  | some d => exact Still.pure d
  | none => exact Still.stuck _
theorem Still.sizeOf (t : TypeId) : Still P (sizeOf t) := Still.bind (.typeInfo t) fun _ => Still.pure _
theorem Still.goPanic {α : Type} (v : Value) : Still P (goPanic v : Sem α) := .never fun w v w1 h => by simp [Go.goPanic] at h
theorem Still.runtimePanic_bounds {α : Type} (x y : Int) (b : Bool) (c : BoundsCode) : Still P (runtimePanic (.bounds x y b c) : Sem α) := .never fun w v w1 h => by
  simp [Go.runtimePanic, Go.goPanic] at h
theorem Still.boundsPanic {α : Type} (k : IntKind) (x y : Int) (c : BoundsCode) : Still P (boundsPanic k x y c : Sem α) := .never fun w v w1 h => by
  have nb : ∀ (s : Sem Bool) (w : World) (v : α) (w1 : World), (s >>= fun b => (runtimePanic (.bounds (IntKind.i64.wrap x) y b c) : Sem α)).run P w ≠ .ok v w1 := by
    intro s w v w1 h
    rw [Sem.run_bind] at h
    cases hr : s.run P w with
    | halt x w2 => rw [hr] at h; simp [Result.andThen] at h
    | ok a w2 => rw [hr] at h; simp [Result.andThen, Go.runtimePanic, Go.goPanic] at h
  unfold Go.boundsPanic at h
  dsimp only at h
  split at h
  · exact nb _ _ _ _ h
  · exact nb _ _ _ _ h
theorem Still.asIntOf (v : Value) : Still P (asIntOf v) := by
  unfold Go.asIntOf
  split
  · exact Still.pure _
  · exact Still.unsupported _
  · exact Still.stuck _
theorem Still.sureAddr (v : Value) : Still P (Instr.sureAddr v) := by
  unfold Instr.sureAddr
  split
  · exact Still.pure _
  · exact Still.stuck _
theorem Still.extract (v : Value) (i : Nat) : Still P (Instr.extract v i) := by
  unfold Instr.extract
  split
  · split
    · exact Still.pure _
    · exact Still.stuck _
  · exact Still.stuck _
theorem Still.indexAt (t : TypeId) (x i : Value) : Still P (Instr.indexAt t x i) := by
  have tail : ∀ (t : TypeId) (k : IntKind) (i : Int) (base : Option Addr) (len : Nat) (elem : TypeId), Still P (do
      let tiny := len ≤ 1 && (match ← Go.underlying t with | .array .. => true | _ => false)
      match base with
      | some a =>
        if 0 ≤ i ∧ i < len then Pure.pure (Value.pointer (some (a.add (i.toNat * (← Go.sizeOf elem)))))
        else if tiny then Go.unsupported (.noEntry "op/indexAddr.an index out of range at an array of length 0 or 1 (ledger 616)")
        else Go.boundsPanic k i len .index
      | none => Go.boundsPanic k i 0 .index) := by
    intro t k i base len elem
    refine .bind (.underlying t) fun d => ?_
    cases base with
    | none => exact Still.boundsPanic _ _ _ _
    | some a =>
      dsimp only
      split
      · exact .bind (.sizeOf elem) fun _ => .pure _
      · split <;> split <;> first | exact Still.unsupported _ | exact Still.boundsPanic _ _ _ _
  unfold Instr.indexAt
  refine .bind (.asIntOf i) fun ki => ?_
  refine .bind (.underlying t) fun d => ?_
  split
  · refine .bind (.sureAddr _) fun b => ?_
    refine .bind (.pure _) fun y => ?_
    exact tail _ _ _ _ _ _
  · refine .bind (.pure _) fun y => ?_
    exact tail _ _ _ _ _ _
  · refine .bind (.stuck _) fun y => ?_
    exact tail _ _ _ _ _ _
end

section
variable (P : Program)

/-- one operation, its guard with it -/
def vcOp (free : Md) (ops : Array Oper) (o : Oper) (e : Env) (w : World) (K : Env → World → Prop) : Prop :=
  match o.guard with
  | none => vcExec P free o e w K
  | some (j, b) =>
    match (ops[j]?).bind (·.dst) with
    | none => False
    | some s =>
      match look e s with
      | some (.b c) => bif xor c b then K (putEnv e o.dst .u) w else vcExec P free o e w K
      | some (.v x) =>
        Split x (bif b then vcExec P free o ((s, .b true) :: e) w K else K (putEnv ((s, .b true) :: e) o.dst .u) w)
          (bif b then K (putEnv ((s, .b false) :: e) o.dst .u) w else vcExec P free o ((s, .b false) :: e) w K)
      | some .u => K (putEnv e o.dst .u) w
      | none => False

def vcOps (free : Md) (ops : Array Oper) : List Oper → Env → World → (Env → World → Prop) → Prop
  | [], e, w, K => K e w
  | o :: l, e, w, K => vcOp P free ops o e w fun e' w' => vcOps free ops l e' w' K

/-- a quiet operation, its guard with it -/
def vcOpQ (ops : Array Oper) (o : Oper) (e : Env) (w : World) (K : Env → (World → Prop) → Prop) : Prop :=
  match o.guard with
  | none => vcQ P o e w K
  | some (j, b) =>
    match (ops[j]?).bind (·.dst) with
    | none => False
    | some s =>
      match look e s with
      | some (.b c) => bif xor c b then K (putEnv e o.dst .u) (fun _ => True) else vcQ P o e w K
      | some (.v x) =>
        Split x (bif b then vcQ P o ((s, .b true) :: e) w K else K (putEnv ((s, .b true) :: e) o.dst .u) (fun _ => True))
          (bif b then K (putEnv ((s, .b false) :: e) o.dst .u) (fun _ => True) else vcQ P o ((s, .b false) :: e) w K)
      | some .u => K (putEnv e o.dst .u) (fun _ => True)
      | none => False

/-- operations that do not even look -/
def memlessB (o : Oper) : Bool :=
  match o.op with
  | .move _ | .assign _ | .extract .. | .indexAddr .. => true
  | _ => false

/-- operation j may come ahead of some quiet one, or behind it -/
def unordered (ops : Array Oper) (bs : Array Nat) (j : Nat) : Bool :=
  (List.range ops.size).any fun k => (match ops[k]? with | some o => quietB o && !memlessB o | none => false) && !(Nat.beq k j) && !((bs.getD j 0).testBit k) && !((bs.getD k 0).testBit j)

def firstQuiet (ops : Array Oper) : List Nat → Option Nat
  | [] => none
  | i :: r => match ops[i]? with
    | some o => bif quietB o then some i else firstQuiet ops r
    | none => firstQuiet ops r

/-- all of a list -/
def allOf (p : Nat → Prop) : List Nat → Prop
  | [] => True
  | [i] => p i
  | i :: r => p i ∧ allOf p r

/-- j and k may come in either order -/
def unord2 (bs : Array Nat) (j k : Nat) : Bool := !(Nat.beq k j) && (!((bs.getD j 0).testBit k) && !((bs.getD k 0).testBit j))
/-- q was looked at in w: kept with the world, and with what it takes to look at it anew; 'same': the world is that of the last one -/
def addEv (same : Bool) (q : Nat) (w : World) (st : World → Prop) (ev : List (World × List (Nat × (World → Prop)))) : List (World × List (Nat × (World → Prop))) :=
  match same, ev with
  | true, g :: r => (g.1, (q, st) :: g.2) :: r
  | _, ev => (w, [(q, st)]) :: ev
def anyU (bs : Array Nat) (j : Nat) : List (Nat × (World → Prop)) → Bool
  | [] => false
  | x :: r => unord2 bs j x.1 || anyU bs j r
def anew (bs : Array Nat) (j : Nat) (w' : World) : List (Nat × (World → Prop)) → Prop
  | [] => True
  | x :: r => bif unord2 bs j x.1 then x.2 w' ∧ anew bs j w' r else anew bs j w' r
/-- what was looked at, and may come behind j, is as it was -/
def needC (bs : Array Nat) (j : Nat) (w' : World) (C : Prop) : List (World × List (Nat × (World → Prop))) → Prop
  | [] => C
  | g :: r => bif anyU bs j g.2 then (Ext g.1 w' ∨ anew bs j w' g.2) ∧ needC bs j w' C r else needC bs j w' C r

def vcAny (free : Md) (ops : Array Oper) (bs : Array Nat) : Nat → Array Bool → Bool → List (World × List (Nat × (World → Prop))) → Env → World → (Env → World → Prop) → Prop
  | 0, listed, _, _, e, w, K => match Region.ready .any ops listed with | [] => K e w | _ => False
  | fuel + 1, listed, same, ev, e, w, K =>
    match Region.ready .any ops listed with
    | [] => K e w
    | i :: r =>
      match firstQuiet ops (i :: r) with
      | some q =>
        bif Region.free .any ops listed q then
          match ops[q]? with
          | some o => vcOpQ P ops o e w fun e' st =>
              bif memlessB o then vcAny free ops bs fuel (listed.setIfInBounds q true) same ev e' w K
              else vcAny free ops bs fuel (listed.setIfInBounds q true) true (addEv same q w st ev) e' w K
          | none => False
        else False
      | none =>
        allOf (fun j => match ops[j]? with
          | some o => vcOp P free ops o e w fun e' w' => needC bs j w' (vcAny free ops bs fuel (listed.setIfInBounds j true) false ev e' w' K) ev
          | none => False) (i :: r)

def vcDraw (free : Md) (ops : Array Oper) (e : Env) (w : World) (K : Env → World → Prop) : Prop :=
  bif Region.noSelect ops then vcAny P free ops (Region.before ops) ops.size (Array.replicate ops.size false) false [] e w K else False

end

section
variable {P : Program} {N : Nat} {r : Option Nat} {free : Md} {ops : Array Oper}

theorem yielded_of {e : Env} {a : Act} (hH : Holds N e a) {j s : Nat} {c : Bool} (hj : (ops[j]?).bind (·.dst) = some s) {x : EV} (hs : look e s = some x) (hx : x.val = .bool c) :
    yielded ops a.tmps j = some c := by
  have h := hH.2 s x hs
  rw [hx] at h
  have h2 : a.tmps[s]? = some (.bool c) := by
    rw [Array.getD_eq_getD_getElem?] at h
    cases h3 : a.tmps[s]? with
    | none => rw [h3] at h; simp [undef] at h
    | some y => rw [h3] at h; simpa using h
  simp [yielded, hj, h2]

theorem wanted_of {e : Env} {a : Act} (hH : Holds N e a) {o : Oper} {j s : Nat} {b c : Bool} (hg : o.guard = some (j, b)) (hj : (ops[j]?).bind (·.dst) = some s) {x : EV}
    (hs : look e s = some x) (hx : x.val = .bool c) : Region.wanted o (yielded ops a.tmps) = !(xor c b) := by
  simp only [Region.wanted, hg, yielded_of hH hj hs hx]
  cases c <;> cases b <;> rfl

theorem unwanted_of {e : Env} {a : Act} (hH : Holds N e a) {o : Oper} {j s : Nat} {b : Bool} (hg : o.guard = some (j, b)) (hj : (ops[j]?).bind (·.dst) = some s)
    (hs : look e s = some .u) : Region.wanted o (yielded ops a.tmps) = false := by
  have h := hH.2 s .u hs
  have hy : yielded ops a.tmps j = none := by
    rw [Array.getD_eq_getD_getElem?] at h
    unfold yielded
    rw [hj]
    cases h3 : a.tmps[s]? with
    | none => simp [h3]
    | some y =>
      rw [h3] at h
      simp only [Option.getD_some, EV.val] at h
      subst h
      simp [h3, undef]
  simp [Region.wanted, hg, hy]

theorem Holds.lit {e : Env} {a : Act} (hH : Holds N e a) {s : Nat} {x : EV} {c : Bool} (hs : look e s = some x) (hx : x.val = .bool c) : Holds N ((s, .b c) :: e) a := by
  refine ⟨hH.1, fun t y ht => ?_⟩
  simp only [look] at ht
  cases hb : Nat.beq s t with
  | true =>
    have : s = t := Nat.eq_of_beq_eq_true hb
    subst this
    simp only [hb, cond_true, Option.some.injEq] at ht
    subst ht
    rw [hH.2 s x hs, hx]; rfl
  | false => simp only [hb, cond_false] at ht; exact hH.2 t y ht

/-- an operation with its guard: carried out, or passed over -/
theorem vcOp_sound {o : Oper} {e : Env} {a : Act} {w : World} {K : Env → World → Prop} {Q : Exit → Act → World → Prop} (h : vcOp P free ops o e w K) (hH : Holds N e a) (hd : dstOk N o.dst = true) :
    (Region.wanted o (yielded ops a.tmps) = true ∧ o.wpIn (FW r) 0 P a w (After N free K o a w) Q) ∨
    (Region.wanted o (yielded ops a.tmps) = false ∧ After N free K o a w (a.put o.dst undef) w) := by
  unfold vcOp at h
  cases hg : o.guard with
  | none => rw [hg] at h; exact .inl ⟨by simp [Region.wanted, hg], vcExec_sound h hH hd⟩
  | some jb =>
    obtain ⟨j, b⟩ := jb
    rw [hg] at h; simp only at h
    cases hj : (ops[j]?).bind (·.dst) with
    | none => rw [hj] at h; exact h.elim
    | some s =>
      rw [hj] at h; simp only at h
      cases hs : look e s with
      | none => rw [hs] at h; exact h.elim
      | some x =>
        rw [hs] at h
        cases x with
        | b c =>
          simp only at h
          have hw := wanted_of hH hg hj hs (c := c) rfl
          cases hx : xor c b with
          | true =>
            rw [hx] at h hw
            exact .inr ⟨hw, After.of h hH hd rfl fun _ => NsB.refl _ _⟩
          | false =>
            rw [hx] at h hw
            exact .inl ⟨hw, vcExec_sound h hH hd⟩
        | v y =>
          simp only at h
          obtain ⟨c, rfl, ht, hf⟩ := h
          have hw := wanted_of hH hg hj hs (c := c) rfl
          have hH' := hH.lit hs (c := c) rfl
          cases c with
          | true =>
            have ht := ht rfl
            cases b with
            | true => exact .inl ⟨hw, vcExec_sound ht hH' hd⟩
            | false => exact .inr ⟨hw, After.of ht hH' hd rfl fun _ => NsB.refl _ _⟩
          | false =>
            have hf := hf rfl
            cases b with
            | true => exact .inr ⟨hw, After.of hf hH' hd rfl fun _ => NsB.refl _ _⟩
            | false => exact .inl ⟨hw, vcExec_sound hf hH' hd⟩
        | u => exact .inr ⟨unwanted_of hH hg hj hs, After.of h hH hd rfl fun _ => NsB.refl _ _⟩

/-- a slot outside a list is as it was; the deferred calls too -/
def Keep (D : List Nat) (a a' : Act) : Prop := a'.defers = a.defers ∧ ∀ t, t ∉ D → a'.tmps.getD t undef = a.tmps.getD t undef
theorem Keep.refl (D : List Nat) (a : Act) : Keep D a a := ⟨rfl, fun _ _ => rfl⟩
theorem Keep.trans {D : List Nat} {a b c : Act} (h : Keep D a b) (k : Keep D b c) : Keep D a c := ⟨k.1.trans h.1, fun t ht => (k.2 t ht).trans (h.2 t ht)⟩
theorem Keep.put {D : List Nat} (a : Act) {d : Option Tmp} (v : Value) (hd : ∀ t, d = some t → t ∈ D) : Keep D a (a.put d v) := by
  cases d with
  | none => exact Keep.refl _ _
  | some s =>
    refine ⟨rfl, fun t ht => ?_⟩
    have hst : s ≠ t := fun h => ht (h ▸ hd s rfl)
    simp only [Act.put, Array.getD_eq_getD_getElem?]
    rw [Array.getElem?_setIfInBounds_ne hst]

def RegPost (N : Nat) (free : Md) (K : Env → World → Prop) (D : List Nat) (a : Act) (w : World) (a' : Act) (w' : World) : Prop :=
  ∃ e', K e' w' ∧ Holds N e' a' ∧ Keep D a a' ∧ (free.1 = false → NsB free.2 w w')

theorem RegPost.step {K : Env → World → Prop} {D : List Nat} {a a1 a' : Act} {w w1 w' : World} (h : RegPost N free K D a1 w1 a' w') (hk : Keep D a a1) (hn : free.1 = false → NsB free.2 w w1) :
    RegPost N free K D a w a' w' := by
  obtain ⟨e', h1, h2, h3, h4⟩ := h
  exact ⟨e', h1, h2, hk.trans h3, fun hf => (hn hf).trans (h4 hf)⟩

def dstsOk (N : Nat) (l : List Oper) : Bool := l.all fun o => dstOk N o.dst

theorem vcOps_sound {K : Env → World → Prop} {D : List Nat} {Q : Exit → Act → World → Prop} (hD : ∀ o ∈ ops.toList, ∀ t, o.dst = some t → t ∈ D) (hN : dstsOk N ops.toList = true) :
    ∀ (l : List Oper) (k : Nat) (e : Env) (a : Act) (w : World), (∀ j, l[j]? = ops[k + j]?) → vcOps P free ops l e w K → Holds N e a →
      (∀ a' w', RegPost N free K D a w a' w' → Q .normal a' w') → wpOpsIn (FW r) 0 P ops Q (List.range' k l.length) a w := by
  intro l
  induction l with
  | nil =>
    intro k e a w _ h hH hQ
    exact hQ a w ⟨e, h, hH, Keep.refl _ _, fun _ => NsB.refl _ _⟩
  | cons o l ih =>
    intro k e a w hl h hH hQ
    have h0 := hl 0
    simp only [List.getElem?_cons_zero, Nat.add_zero] at h0
    have hmem : o ∈ ops.toList := by
      have := h0.symm
      rw [← Array.getElem?_toList] at this
      exact List.mem_of_getElem? this
    have hd : dstOk N o.dst = true := by
      simp only [dstsOk, List.all_eq_true] at hN
      exact hN o hmem
    have hl' : ∀ j, l[j]? = ops[k + 1 + j]? := fun j => by
      have := hl (j + 1)
      rw [List.getElem?_cons_succ] at this
      rw [this]; congr 1; omega
    have next : ∀ a1 w1, After N free (fun e' w' => vcOps P free ops l e' w' K) o a w a1 w1 → wpOpsIn (FW r) 0 P ops Q (List.range' (k + 1) l.length) a1 w1 := by
      rintro a1 w1 ⟨e1, v, hK, hH1, rfl, hn⟩
      refine ih (k + 1) e1 _ w1 hl' hK hH1 fun a' w' hp => hQ a' w' (hp.step (Keep.put a v fun t ht => hD o hmem t ht) hn)
    simp only [vcOps] at h
    show wpOpsIn (FW r) 0 P ops Q (k :: List.range' (k + 1) l.length) a w
    unfold wpOpsIn
    rw [← h0]
    simp only
    rcases vcOp_sound (r := r) (Q := Q) h hH hd with ⟨hw, hx⟩ | ⟨hw, hx⟩
    · rw [if_pos hw]
      exact Oper.wpIn_mono next hx
    · rw [hw]
      exact ⟨fun _ _ => trivial, next _ _ hx⟩

theorem region_sound {K : Env → World → Prop} {D : List Nat} {Q : Exit → Act → World → Prop} {id : Nat} {e : Env} {a : Act} {w : World} (hD : ∀ o ∈ ops.toList, ∀ t, o.dst = some t → t ∈ D)
    (hN : dstsOk N ops.toList = true) (h : vcOps P free ops ops.toList e w K) (hH : Holds N e a) (hQ : ∀ a' w', RegPost N free K D a w a' w' → Q .normal a' w') :
    (Code.region id ops false).wpIn (FW r) 0 P Q a w := by
  refine wpIn_region ?_
  have := vcOps_sound (r := r) hD hN ops.toList 0 e a w (fun j => by simp) h hH hQ
  rw [List.range_eq_range']
  simpa using this

end
end Go.Vc
