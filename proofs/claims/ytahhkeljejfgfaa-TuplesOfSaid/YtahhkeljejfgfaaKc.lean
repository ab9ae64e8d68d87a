/- Lemma kit, part c: small plain facts. -/
import Derived.Test.YtahhkeljejfgfaaKb
namespace Go.Vc
open Go Go.RowKit

/-- the number in a value -/
def ival : Value → Int
  | .int _ i => i
  | _ => 0
theorem wrap_i64 {x : Int} (h1 : -9223372036854775808 ≤ x) (h2 : x < 9223372036854775808) : IntKind.i64.wrap x = x := by
  simp only [IntKind.wrap, IntKind.bits, IntKind.signed]
  simp; omega
theorem wrap_u8 {x : Int} (h1 : 0 ≤ x) (h2 : x < 256) : IntKind.u8.wrap x = x := by
  simp only [IntKind.wrap, IntKind.bits, IntKind.signed]
  simp; omega
theorem wrap_u16 {x : Int} (h1 : 0 ≤ x) (h2 : x < 65536) : IntKind.u16.wrap x = x := by
  simp only [IntKind.wrap, IntKind.bits, IntKind.signed]
  simp; omega
theorem wrap_i8 {x : Int} (h1 : -128 ≤ x) (h2 : x < 128) : IntKind.i8.wrap x = x := by
  simp only [IntKind.wrap, IntKind.bits, IntKind.signed]
  simp; omega
theorem wrap_u64 {x : Int} (h1 : 0 ≤ x) (h2 : x < 18446744073709551616) : IntKind.u64.wrap x = x := by
  simp only [IntKind.wrap, IntKind.bits, IntKind.signed]
  simp; omega

/-- numbers as cells -/
abbrev ints (k : IntKind) (l : List Int) : List Value := l.map (Value.int k)
theorem one_ints (k : IntKind) (l : List Int) : ∀ u ∈ ints k l, u.oneCell' = true := by
  intro u hu
  obtain ⟨x, _, rfl⟩ := List.mem_map.1 hu
  rfl
theorem ints_get {k : IntKind} {l : List Int} {i : Nat} {x : Int} (h : l[i]? = some x) : (ints k l)[i]? = some (.int k x) := by simp [ints, h]
theorem ints_inj {k : IntKind} {l m : List Int} (h : ints k l = ints k m) : l = m := by
  induction l generalizing m with
  | nil => cases m with
    | nil => rfl
    | cons y m => simp [ints] at h
  | cons x l ih => cases m with
    | nil => simp [ints] at h
    | cons y m =>
      simp only [ints, List.map_cons, List.cons.injEq, Value.int.injEq, true_and] at h
      rw [h.1, ih h.2]

/-- up to i two lists are one -/
theorem take_succ_eq {α : Type} {a b : List α} {i : Nat} {x y : α} (h : a.take i = b.take i) (ha : a[i]? = some x) (hb : b[i]? = some y) (hxy : x = y) : a.take (i + 1) = b.take (i + 1) := by
  rw [List.take_add_one, List.take_add_one, h, ha, hb, hxy]

/-! ### structs of numbers, compared -/
def intFs (P : Program) : Nat → List Field → Bool
  | _, [] => true
  | j, f :: fs => (f.name != "_" && f.offset == j) && ((match P.underlying f.type with | some (.int _) => true | _ => false) && intFs P (j + 1) fs)

theorem eqFields_ints {P : Program} (w : World) (d : Nat) (k : IntKind) (xs ys : List Int) (hxy : xs.length = ys.length) : ∀ (fs : List Field) (j : Nat), intFs P j fs = true → xs.length = j + fs.length →
    (Op.eqFields (d + 1) (ints k xs).toArray (ints k ys).toArray fs).run P w = .ok (decide (xs.drop j = ys.drop j)) w
  | [], j, _, hl => by
    rw [List.drop_of_length_le (by simp at hl; omega), List.drop_of_length_le (by simp at hl; omega)]
    simp [Op.eqFields]
  | f :: fs, j, h, hl => by
    simp only [intFs, Bool.and_eq_true, bne_iff_ne, ne_eq, beq_iff_eq] at h
    obtain ⟨⟨hn, ho⟩, ht, hfs⟩ := h
    simp only [List.length_cons] at hl
    have ih := eqFields_ints w d k xs ys hxy fs (j + 1) hfs (by omega)
    obtain ⟨kt, hkt⟩ : ∃ kt, P.underlying f.type = some (.int kt) := by
      revert ht
      cases hu : P.underlying f.type with
      | none => intro h; cases h
      | some dd => cases dd <;> intro h <;> first | (cases h; done) | exact ⟨_, rfl⟩
    obtain ⟨x, hx, hc⟩ : ∃ x, xs[j]? = some x ∧ xs.drop j = x :: xs.drop (j + 1) := ⟨xs[j], List.getElem?_eq_getElem (by omega), List.drop_eq_getElem_cons (by omega)⟩
    obtain ⟨y, hy, hc'⟩ : ∃ y, ys[j]? = some y ∧ ys.drop j = y :: ys.drop (j + 1) := ⟨ys[j], List.getElem?_eq_getElem (by omega), List.drop_eq_getElem_cons (by omega)⟩
    have part_ok : ∀ (l : List Int) (x : Int), l[j]? = some x → (part f.type (ints k l).toArray f.offset).run P w = .ok (.int k x) w := fun l x hlx => by
      have := ints_get (k := k) hlx
      rw [ho]
      simp [part, isAgg, run_underlying hkt, this]
    rw [hc, hc']
    unfold Op.eqFields
    rw [if_pos hn, Sem.run_bind, part_ok xs _ hx, Result.andThen_ok, Sem.run_bind, part_ok ys _ hy, Result.andThen_ok, Sem.run_bind, run_equalIn_int w d f.type k kt _ _ hkt, Result.andThen_ok]
    by_cases he : x = y
    · rw [he]; simp [ih]
    · simp [he]

def intStruct (P : Program) (t : TypeId) (n : Nat) : Bool :=
  (match P.underlying t with | some (.struct fs) => intFs P 0 fs.toList && fs.size == n | _ => false) && (!P.stoodInHeld t && !P.eqGuardType P.depth t)
theorem equal_ints {P : Program} {t : TypeId} {n : Nat} (h : intStruct P t n = true) (w : World) (k : IntKind) {xs ys : List Int} (hx : xs.length = n) (hy : ys.length = n) :
    (Op.equal t (.agg (ints k xs).toArray) (.agg (ints k ys).toArray)).run P w = .ok (decide (xs = ys)) w := by
  simp only [intStruct, Bool.and_eq_true, Bool.not_eq_true'] at h
  obtain ⟨h1, h2, h3⟩ := h
  cases hu : P.underlying t with
  | none => rw [hu] at h1; cases h1
  | some d =>
    cases d <;> rw [hu] at h1 <;> first | (cases h1; done) | skip
    rename_i fs
    simp only [Bool.and_eq_true, beq_iff_eq] at h1
    have hf : P.underlying t = some (.struct (P.fieldsOf t)) := by simp [Program.fieldsOf, hu]
    have hf2 : (P.fieldsOf t) = fs := by simp [Program.fieldsOf, hu]
    show (Op.equalIn (9999 + 1) t (.agg (ints k xs).toArray) (.agg (ints k ys).toArray)).run P w = _
    rw [run_equalIn_struct (P := P) w 9999 t (ints k xs).toArray (ints k ys).toArray hf h2, hf2, eqFields_ints w 9998 k xs ys (by omega) fs.toList 0 h1.1 (by simp; omega)]
    simp
theorem ne_ints {P : Program} {w : World} {t : TypeId} {n : Nat} {cx cy : Bool} (h : intStruct P t n = true) {k : IntKind} {xs ys : List Int} (hx : xs.length = n) (hy : ys.length = n) {K : Value → Prop} :
    RunQ P (binS .neq t cx cy (.agg (ints k xs).toArray) (.agg (ints k ys).toArray)) w K = K (.bool !(decide (xs = ys))) :=
  binS_neq' (fun w' => run_eqGuard_agg (P := P) w' .neq t _ _ _ _ (by simp only [intStruct, Bool.and_eq_true, Bool.not_eq_true'] at h; exact h.2.2)) rfl fun w' _ => equal_ints h w' k hx hy
theorem eq_ints {P : Program} {w : World} {t : TypeId} {n : Nat} {cx cy : Bool} (h : intStruct P t n = true) {k : IntKind} {xs ys : List Int} (hx : xs.length = n) (hy : ys.length = n) {K : Value → Prop} :
    RunQ P (binS .eql t cx cy (.agg (ints k xs).toArray) (.agg (ints k ys).toArray)) w K = K (.bool (decide (xs = ys))) :=
  binS_eql' (fun w' => run_eqGuard_agg (P := P) w' .eql t _ _ _ _ (by simp only [intStruct, Bool.and_eq_true, Bool.not_eq_true'] at h; exact h.2.2)) rfl fun w' _ => equal_ints h w' k hx hy

/-! ### where ways meet -/
theorem join0 {J : World → Prop} {B : (World → Prop) → Prop} (G : World → Prop) (h1 : ∀ w, G w → J w) (h2 : ∀ J' : World → Prop, (∀ w, G w → J' w) → B J') : JoinC J B := h2 J h1
theorem join1 {J : Value → World → Prop} {B : (Value → World → Prop) → Prop} (G : Value → World → Prop) (h1 : ∀ v w, G v w → J v w)
    (h2 : ∀ J' : Value → World → Prop, (∀ v w, G v w → J' v w) → B J') : JoinC J B := h2 J h1
theorem join2 {J : Value → Value → World → Prop} {B : (Value → Value → World → Prop) → Prop} (G : Value → Value → World → Prop) (h1 : ∀ u v w, G u v w → J u v w)
    (h2 : ∀ J' : Value → Value → World → Prop, (∀ u v w, G u v w → J' u v w) → B J') : JoinC J B := h2 J h1
end Go.Vc
