/- Small facts and the walks of the small functions: costs, shapes, tables (several texts in one). -/
import Derived.Test.YtahhkeljejfgfaaBody
import Derived.Test.YtahhkeljejfgfaaTypes
import Derived.Test.YtahhkeljejfgfaaKj
import Derived.Test.YtahhkeljejfgfaaKe
/- Small functions of costs, and of slices of numbers: what they answer. -/
namespace Go.Proofs.Ytahhkeljejfgfaa
open Go Go.Vc Go.RowKit Go.Proofs Go.Proofs.Try
set_option maxRecDepth 100000

/-! ### costs, in plain numbers -/
def right (k : Int) : Prop := 1 ≤ k ∧ k ≤ 2147483648
def inK (a k : Int) : Prop := right k ∧ 0 ≤ a ∧ a ≤ k
instance (k : Int) : Decidable (right k) := by unfold right; infer_instance
instance (a k : Int) : Decidable (inK a k) := by unfold inK; infer_instance

theorem cRight {k : Int} {w : World} : Cal prog F.cost_Right [.int .i64 k] w fun v w' => v = .bool (decide (right k)) ∧ Ext w w' := by
  apply cost_Right.enter
  unfold cost_Right.body
  simp only [JoinC, binS_geq, binS_leq, split_dec]
  refine ⟨fun h => ⟨?_, Ext.refl _⟩, fun h => ⟨?_, Ext.refl _⟩⟩
  · congr 1; simp [right, h]
  · rw [decide_eq_false]; intro hr; exact h hr.1
theorem cIn {a k : Int} {w : World} : Cal prog F.cost_In [.int .i64 a, .int .i64 k] w fun v w' => v = .bool (decide (inK a k)) ∧ Ext w w' := by
  apply cost_In.enter
  unfold cost_In.body
  simp only [JoinC]
  refine cRight.mono ?_
  rintro _ w1 _ ⟨rfl, hx⟩
  simp only [binS_geq, binS_leq, split_dec]
  refine ⟨fun h => ⟨fun h2 => ⟨?_, hx⟩, fun h2 => ⟨?_, hx⟩⟩, fun h => ⟨?_, hx⟩⟩
  · congr 1; simp [inK, h, h2]
  · rw [decide_eq_false]; intro hr; exact h2 hr.2.1
  · rw [decide_eq_false]; intro hr; exact h hr.1
theorem rRight {k : Int} {w : World} : Cal prog F.ref01_Right [.int .i64 k] w fun v w' => v = .bool (decide (right k)) ∧ Ext w w' := by
  apply ref01_Right.enter
  unfold ref01_Right.body
  simp only [JoinC, binS_gtr, binS_leq, split_dec]
  refine ⟨fun h => ⟨?_, Ext.refl _⟩, fun h => ⟨?_, Ext.refl _⟩⟩
  · congr 1
    have h' : 1 ≤ k := by omega
    simp [right, h']
  · rw [decide_eq_false]; intro hr; have := hr.1; omega
theorem rIn {a k : Int} {w : World} : Cal prog F.ref01_In [.int .i64 a, .int .i64 k] w fun v w' => v = .bool (decide (inK a k)) ∧ Ext w w' := by
  apply ref01_In.enter
  unfold ref01_In.body
  simp only [JoinC]
  refine rRight.mono ?_
  rintro _ w1 _ ⟨rfl, hx⟩
  simp only [binS_geq, binS_leq, split_dec]
  refine ⟨fun h => ⟨fun h2 => ⟨?_, hx⟩, fun h2 => ⟨?_, hx⟩⟩, fun h => ⟨?_, hx⟩⟩
  · congr 1; simp [inK, h, h2]
  · rw [decide_eq_false]; intro hr; exact h2 hr.2.1
  · rw [decide_eq_false]; intro hr; exact h hr.1
end Go.Proofs.Ytahhkeljejfgfaa
/- Plain facts of sizes: their product. -/
namespace Go.Proofs.Ytahhkeljejfgfaa
open Go Go.Vc

def prodN : List Int → Int
  | [] => 1
  | x :: r => x * prodN r
theorem prodN_append : ∀ (a b : List Int), prodN (a ++ b) = prodN a * prodN b
  | [], b => by simp [prodN]
  | x :: a, b => by simp [prodN, prodN_append a b, Int.mul_assoc]
theorem prodN_take {l : List Int} {i : Nat} {x : Int} (h : l[i]? = some x) : prodN (l.take (i + 1)) = prodN (l.take i) * x := by
  rw [List.take_add_one, h, prodN_append]; simp [prodN]
/-- sizes as they may be -/
def Sizes (l : List Int) : Prop := l.length ≤ 6 ∧ ∀ x ∈ l, 1 ≤ x ∧ x ≤ 32
theorem Sizes.take {l : List Int} (h : Sizes l) (i : Nat) : Sizes (l.take i) := ⟨by rw [List.length_take]; have := h.1; omega, fun x hx => h.2 x (List.mem_of_mem_take hx)⟩
theorem Sizes.drop {l : List Int} (h : Sizes l) (i : Nat) : Sizes (l.drop i) := ⟨by rw [List.length_drop]; have := h.1; omega, fun x hx => h.2 x (List.mem_of_mem_drop hx)⟩
theorem prod_bound' : ∀ (l : List Int), (∀ x ∈ l, 1 ≤ x ∧ x ≤ 32) → 1 ≤ prodN l ∧ prodN l ≤ 32 ^ l.length
  | [], _ => by simp [prodN]
  | x :: r, h => by
    obtain ⟨h1, h2⟩ := prod_bound' r fun y hy => h y (.tail _ hy)
    obtain ⟨h3, h4⟩ := h x (.head _)
    simp only [prodN, List.length_cons]
    constructor
    · have := Int.mul_le_mul h3 h1 (by omega) (by omega)
      simpa using this
    · have := Int.mul_le_mul h4 h2 (by omega) (by omega)
      rw [Int.pow_succ]
      rw [Int.mul_comm (32 ^ r.length) 32]; exact this
theorem prod_bound {l : List Int} (h : Sizes l) : 1 ≤ prodN l ∧ prodN l ≤ 1073741824 := by
  obtain ⟨h1, h2⟩ := prod_bound' l h.2
  refine ⟨h1, Int.le_trans h2 ?_⟩
  have : (32 : Int) ^ l.length ≤ 32 ^ 6 := by
    have hl := h.1
    match l.length, hl with
    | 0, _ => decide
    | 1, _ => decide
    | 2, _ => decide
    | 3, _ => decide
    | 4, _ => decide
    | 5, _ => decide
    | 6, _ => decide
  simpa using this

/-- a tuple's number, with n ahead -/
def idxN : List Int → List Int → Int → Option Int
  | [], [], n => some n
  | k :: s, v :: t, n => if 0 ≤ v ∧ v < k then idxN s t (n * k + v) else none
  | _, _, _ => none
theorem idxN_len : ∀ (s t : List Int) (n : Int), s.length ≠ t.length → idxN s t n = none
  | [], [], _, h => absurd rfl h
  | [], _ :: _, _, _ => rfl
  | _ :: _, [], _, _ => rfl
  | k :: s, v :: t, n, h => by
    unfold idxN; split
    · exact idxN_len s t _ (by simpa using h)
    · rfl

/-- tuple number n of sizes -/
def tupN : List Int → Int → List Int
  | [], _ => []
  | k :: s, n => (n / prodN s) % k :: tupN s n
theorem tupN_length : ∀ (s : List Int) (n : Int), (tupN s n).length = s.length
  | [], _ => rfl
  | _ :: s, n => by simp [tupN, tupN_length s n]
theorem tupN_get : ∀ {s : List Int} {n : Int} {i : Nat} {k : Int}, s[i]? = some k → (tupN s n)[i]? = some ((n / prodN (s.drop (i + 1))) % k)
  | k0 :: s, n, 0, k, h => by simp at h; subst h; simp [tupN]
  | k0 :: s, n, i + 1, k, h => by
    simp only [List.getElem?_cons_succ] at h
    simp only [tupN, List.getElem?_cons_succ, List.drop_succ_cons]
    exact tupN_get h

theorem idxN_bound : ∀ {s t : List Int} {m n : Int}, (∀ x ∈ s, 1 ≤ x ∧ x ≤ 32) → idxN s t m = some n → m * prodN s ≤ n ∧ n < (m + 1) * prodN s
  | [], [], m, n, _, h => by simp [idxN] at h; subst h; simp [prodN]; omega
  | k :: s, v :: t, m, n, hs, h => by
    unfold idxN at h
    split at h
    · rename_i hv
      have ih := idxN_bound (fun x hx => hs x (.tail _ hx)) h
      have hp := (prod_bound' s fun x hx => hs x (.tail _ hx)).1
      simp only [prodN]
      have e1 : m * (k * prodN s) = m * k * prodN s := (Int.mul_assoc _ _ _).symm
      have e2 : (m + 1) * (k * prodN s) = (m * k + k) * prodN s := by rw [← Int.mul_assoc, Int.add_mul, Int.one_mul]
      rw [e1, e2]
      constructor
      · refine Int.le_trans ?_ ih.1
        exact Int.mul_le_mul_of_nonneg_right (by omega) (by omega)
      · refine Int.lt_of_lt_of_le ih.2 ?_
        exact Int.mul_le_mul_of_nonneg_right (by omega) (by omega)
    · cases h
  | [], _ :: _, _, _, _, h => by cases h
  | _ :: _, [], _, _, _, h => by cases h
end Go.Proofs.Ytahhkeljejfgfaa
/- Plain facts of sizes: all tuples. -/
namespace Go.Proofs.Ytahhkeljejfgfaa
open Go Go.Vc

/-- all tuples of sizes, in their order -/
def allT : List Int → List (List Int)
  | [] => [[]]
  | k :: s => (List.range k.toNat).flatMap fun (v : Nat) => (allT s).map fun t => (v : Int) :: t
theorem allT_length : ∀ {s : List Int}, (∀ x ∈ s, 1 ≤ x ∧ x ≤ 32) → (allT s).length = (prodN s).toNat
  | [], _ => rfl
  | k :: s, h => by
    have ih := allT_length (s := s) fun x hx => h x (.tail _ hx)
    have hk := h k (.head _)
    have hp := (prod_bound' s fun x hx => h x (.tail _ hx)).1
    simp only [allT, prodN, List.length_flatMap, List.length_map, ih]
    rw [List.map_const', List.length_range, List.sum_replicate_nat, Int.toNat_mul (by omega) (by omega)]
theorem allT_mem_len : ∀ {s x : List Int}, x ∈ allT s → x.length = s.length
  | [], x, h => by simp [allT] at h; subst h; rfl
  | k :: s, x, h => by
    simp only [allT, List.mem_flatMap, List.mem_map] at h
    obtain ⟨v, _, t, ht, rfl⟩ := h
    simp [allT_mem_len ht]
theorem allT_len {s x : List Int} {j : Nat} (h : (allT s)[j]? = some x) : x.length = s.length := allT_mem_len (List.mem_of_getElem? h)
theorem prod_small {l : List Int} (h3 : l.length ≤ 3) (h4 : ∀ x ∈ l, 1 ≤ x ∧ x ≤ 4) : 1 ≤ prodN l ∧ prodN l ≤ 64 := by
  have g : ∀ {r : List Int} (n : Nat), (∀ x ∈ r, 1 ≤ x ∧ x ≤ 4) → 1 ≤ prodN r ∧ prodN r ≤ 4 ^ r.length := by
    intro r n h
    induction r with
    | nil => simp [prodN]
    | cons x r ih =>
      obtain ⟨h1, h2⟩ := ih fun y hy => h y (.tail _ hy)
      obtain ⟨h3, h4⟩ := h x (.head _)
      simp only [prodN, List.length_cons]
      constructor
      · have := Int.mul_le_mul h3 h1 (by omega) (by omega)
        simpa using this
      · have := Int.mul_le_mul h4 h2 (by omega) (by omega)
        rw [Int.pow_succ, Int.mul_comm (4 ^ r.length) 4]; exact this
  obtain ⟨h1, h2⟩ := g 0 h4
  refine ⟨h1, Int.le_trans h2 ?_⟩
  match l.length, h3 with
  | 0, _ => decide
  | 1, _ => decide
  | 2, _ => decide
  | 3, _ => decide
end Go.Proofs.Ytahhkeljejfgfaa
/- Shapes: what they answer. -/
namespace Go.Proofs.Ytahhkeljejfgfaa
open Go Go.Vc Go.RowKit Go.Proofs Go.Proofs.Try
set_option maxRecDepth 100000

theorem rCount {sv : Value} {l : List Int} {w : World} (h : LS .i64 w sv l) (hs : Sizes l) :
    Cal prog F.ref03_Count [sv] w fun v w' => v = .int .i64 (prodN l) ∧ Ext w w' := by
  apply ref03_Count.enter
  unfold ref03_Count.body
  rw [len_ls T.t_sl_int.u h]
  refine ⟨fun n t w1 => Ext w w1 ∧ ∃ i : Nat, t = .int .i64 i ∧ i ≤ l.length ∧ n = .int .i64 (prodN (l.take i)), fun _ t _ => l.length - (ival t).toNat, ⟨Ext.refl _, 0, rfl, Nat.zero_le _, rfl⟩, ?_⟩
  rintro _ _ w1 ⟨hx, i, rfl, hi, rfl⟩
  have hl := hs.1
  simp only [binS_lss, split_dec]
  refine ⟨fun hlt => ?_, fun hge => ⟨?_, hx⟩⟩
  · obtain ⟨x, hxi⟩ : ∃ x, l[i]? = some x := ⟨_, List.getElem?_eq_getElem (by omega)⟩
    rw [get_ls T.t_sl_int.u T.t_int.i (by kernel_rfl) (h.ext hx) hxi]
    have hp := prod_bound (hs.take (i + 1))
    rw [prodN_take hxi] at hp
    simp only [binS_mul, binS_add]
    rw [wrap_i64 (by omega) (by omega), wrap_i64 (by omega) (by omega), ← prodN_take hxi]
    refine ⟨⟨hx, i + 1, rfl, by omega, rfl⟩, ?_⟩
    simp only [ival]; omega
  · have : i = l.length := by omega
    rw [this, List.take_length]

theorem sCount {sv : Value} {l : List Int} {w : World} (h : LS .i64 w sv l) (hs : Sizes l) :
    Cal prog F.shape_Shape_Count [.agg #[sv]] w fun v w' => v = .int .i64 (prodN l) ∧ Ext w w' := by
  apply shape_Shape_Count.enter
  unfold shape_Shape_Count.body
  refine box_c fun g w0 hg hx0 hb => ?_
  rw [field_at T.t_shape_Shape.p rfl, load_cell (by kernel_rfl) (hb.cell (o := 0 + 0) rfl), len_ls T.t_sl_int.u (h.ext hx0)]
  refine ⟨fun n t w1 => Ext w w1 ∧ ∃ i : Nat, t = .int .i64 i ∧ i ≤ l.length ∧ n = .int .i64 (prodN (l.take i)), fun _ t _ => l.length - (ival t).toNat, ⟨hx0, 0, rfl, Nat.zero_le _, rfl⟩, ?_⟩
  rintro _ _ w1 ⟨hx, i, rfl, hi, rfl⟩
  have hl := hs.1
  simp only [binS_lss, split_dec]
  refine ⟨fun hlt => ?_, fun hge => ⟨?_, hx⟩⟩
  · obtain ⟨x, hxi⟩ : ∃ x, l[i]? = some x := ⟨_, List.getElem?_eq_getElem (by omega)⟩
    rw [get_ls T.t_sl_int.u T.t_int.i (by kernel_rfl) (h.ext hx) hxi]
    have hp := prod_bound (hs.take (i + 1))
    rw [prodN_take hxi] at hp
    simp only [binS_mul, binS_add]
    rw [wrap_i64 (by omega) (by omega), wrap_i64 (by omega) (by omega), ← prodN_take hxi]
    refine ⟨⟨hx, i + 1, rfl, by omega, rfl⟩, ?_⟩
    simp only [ival]; omega
  · have : i = l.length := by omega
    rw [this, List.take_length]

theorem sStep {sv : Value} {l : List Int} {w : World} {i : Nat} (h : LS .i64 w sv l) (hs : Sizes l) (hi : i < l.length) :
    Cal prog F.shape_Shape_Step [.agg #[sv], .int .i64 i] w fun v w' => v = .int .i64 (prodN (l.drop (i + 1))) ∧ Ext w w' := by
  have hl := hs.1
  apply shape_Shape_Step.enter
  unfold shape_Shape_Step.body
  refine box_c fun g w0 hg hx0 hb => ?_
  have h0 := h.ext hx0
  simp only [JoinC, binS_lss, split_dec]
  refine ⟨fun hlt => by omega, fun _ => ?_⟩
  rw [field_at T.t_shape_Shape.p rfl, load_cell (by kernel_rfl) (hb.cell (o := 0 + 0) rfl), len_ls T.t_sl_int.u h0]
  simp only [binS_geq, split_dec]
  refine ⟨fun hge => by omega, fun _ => ?_⟩
  rw [field_at T.t_shape_Shape.p rfl, load_cell (by kernel_rfl) (hb.cell (o := 0 + 0) rfl)]
  simp only [binS_add]
  have e1 : IntKind.i64.wrap ((i : Int) + 1) = ((i + 1 : Nat) : Int) := by rw [wrap_i64 (by omega) (by omega)]; omega
  rw [e1]
  have h0' := h0
  obtain ⟨_, b, o, base, cap, rfl, hcap, hmax, hbb, hr⟩ := id h0
  rw [slice_slice T.t_sl_int.u T.t_int.i (l := i + 1) (h := l.length) (m := cap) lo_at hi_no mx_no (by omega) (by omega) (by omega)]
  have hp := Sl.part (l := i + 1) (h := l.length) (m := cap) h0' (by omega) (by omega) (by omega) (by omega)
  generalize hq : (Value.slice (if cap = i + 1 then base else Option.map (fun x => x.add ((i + 1) * 1)) base) (l.length - (i + 1)) (cap - (i + 1))) = q at hp ⊢
  have e2 : ((ints .i64 l).drop ((i + 1) * 1)).take ((l.length - (i + 1)) * 1) = ints .i64 (l.drop (i + 1)) := by
    rw [List.take_of_length_le (by simp), Nat.mul_one, ints, ← List.map_drop]
  rw [e2] at hp
  rw [build_eq (cs := #[q]) (by subst hq; kernel_rfl)]
  refine (sCount (LS.of hp) (hs.drop (i + 1))).mono ?_
  rintro _ w2 _ ⟨rfl, hx2⟩
  exact ⟨rfl, hx0.trans hx2⟩

def idxV (s t : List Int) : Value := match idxN s t 0 with
  | some n => .tuple #[.int .i64 n, .int .i64 0]
  | none => .tuple #[.int .i64 0, .int .i64 3]

theorem sIndex {sv tv : Value} {s t : List Int} {w : World} (h : LS .i64 w sv s) (ht : LS .i64 w tv t) (hs : Sizes s) :
    Cal prog F.shape_Shape_Index [.agg #[sv], tv] w fun v w' => v = idxV s t ∧ Ext w w' := by
  have hl := hs.1
  apply shape_Shape_Index.enter
  unfold shape_Shape_Index.body
  refine box_c fun g w0 hg hx0 hb => ?_
  rw [len_ls T.t_sl_int.u (ht.ext hx0), field_at T.t_shape_Shape.p rfl, load_cell (by kernel_rfl) (hb.cell (o := 0 + 0) rfl), len_ls T.t_sl_int.u (h.ext hx0)]
  simp only [binS_neq, split_dec]
  refine ⟨fun hne => ⟨?_, hx0⟩, fun heq => ?_⟩
  · unfold idxV; rw [idxN_len _ _ _ (by omega)]
  · have heq : s.length = t.length := by omega
    rw [len_ls T.t_sl_int.u (ht.ext hx0)]
    refine ⟨fun _ _ n c w1 => Ext w0 w1 ∧ ∃ (i : Nat) (m : Int), c = .int .i64 i ∧ i ≤ t.length ∧ n = .int .i64 m ∧ 0 ≤ m ∧ m < prodN (s.take i) ∧ idxN s t 0 = idxN (s.drop i) (t.drop i) m, fun _ _ _ c _ => t.length - (ival c).toNat,
      ⟨Ext.refl _, 0, 0, rfl, Nat.zero_le _, rfl, Int.le_refl _, by simp [prodN], rfl⟩, ?_⟩
    rintro _ _ _ _ w1 ⟨hx1, i, m, rfl, hi, rfl, hm0, hm1, hid⟩
    have hx := hx0.trans hx1
    simp only [binS_lss, split_dec]
    refine ⟨fun hlt => ?_, fun hge => ⟨?_, hx⟩⟩
    · obtain ⟨v, hv, hdt⟩ : ∃ v, t[i]? = some v ∧ t.drop i = v :: t.drop (i + 1) := ⟨t[i], List.getElem?_eq_getElem (by omega), List.drop_eq_getElem_cons (by omega)⟩
      obtain ⟨k, hk, hds⟩ : ∃ k, s[i]? = some k ∧ s.drop i = k :: s.drop (i + 1) := ⟨s[i], List.getElem?_eq_getElem (by omega), List.drop_eq_getElem_cons (by omega)⟩
      rw [hdt, hds] at hid
      have hp := prod_bound (hs.take (i + 1))
      have hp0 := prod_bound (hs.take i)
      have hkb := hs.2 k (List.mem_of_getElem? hk)
      rw [prodN_take hk] at hp
      have hfail : ¬ (0 ≤ v ∧ v < k) → idxV s t = .tuple #[.int .i64 0, .int .i64 3] := fun hn => by unfold idxV; rw [hid]; simp [idxN, hn]
      rw [get_ls T.t_sl_int.u T.t_int.i (by kernel_rfl) (ht.ext hx) hv]
      simp only [JoinC, binS_lss, split_dec, split_true]
      refine ⟨fun hneg => ⟨(hfail (by omega)).symm, hx⟩, fun hpos => ?_⟩
      rw [field_at T.t_shape_Shape.p rfl, load_cell (by kernel_rfl) ((hb.ext hx1).cell (o := 0 + 0) rfl), get_ls T.t_sl_int.u T.t_int.i (by kernel_rfl) (h.ext hx) hk]
      simp only [binS_geq, split_dec]
      refine ⟨fun hbig => ⟨(hfail (by omega)).symm, hx⟩, fun hsm => ?_⟩
      rw [field_at T.t_shape_Shape.p rfl, load_cell (by kernel_rfl) ((hb.ext hx1).cell (o := 0 + 0) rfl), get_ls T.t_sl_int.u T.t_int.i (by kernel_rfl) (h.ext hx) hk]
      have hmk : 0 ≤ m * k ∧ m * k + k ≤ prodN (s.take i) * k := by
        constructor
        · exact Int.mul_nonneg hm0 (by omega)
        · have := Int.mul_le_mul_of_nonneg_right (show m + 1 ≤ prodN (s.take i) by omega) (show 0 ≤ k by omega)
          rw [Int.add_mul, Int.one_mul] at this; exact this
      simp only [binS_mul, binS_add]
      rw [wrap_i64 (x := m * k) (by omega) (by omega), wrap_i64 (x := m * k + v) (by omega) (by omega), wrap_i64 (x := (i : Int) + 1) (by omega) (by omega)]
      refine ⟨⟨hx1, i + 1, m * k + v, rfl, by omega, rfl, by omega, by rw [prodN_take hk]; omega, ?_⟩, ?_⟩
      · rw [hid]; simp [idxN, show 0 ≤ v ∧ v < k from ⟨by omega, by omega⟩]
      · simp only [ival]; omega
    · have : i = t.length := by omega
      rw [this, List.drop_of_length_le (by omega), List.drop_of_length_le (by omega)] at hid
      unfold idxV; rw [hid]; rfl
end Go.Proofs.Ytahhkeljejfgfaa
/- Slices of numbers: compared, cloned. -/
namespace Go.Proofs.Ytahhkeljejfgfaa
open Go Go.Vc Go.RowKit Go.Proofs Go.Proofs.Try
set_option maxRecDepth 100000

theorem sEqual_ints0 {s1 s2 : Value} {w : World} {n1 n2 : Nat} {a b : List Int} (h1 : Sl w 1 s1 n1 (ints .i64 a)) (h2 : Sl w 1 s2 n2 (ints .i64 b)) :
    Cal prog F.slices_Equal_int_int [s1, s2] w fun v w' => v = .bool (decide (a = b)) ∧ Ext w w' := by
  have hl1 : a.length = n1 := by simpa using h1.1
  have hl2 : b.length = n2 := by simpa using h2.1
  have hmax := h1.le
  obtain ⟨_, b1, o1, base1, c1, rfl, hc1, hm1, hb1, hr1⟩ := h1
  obtain ⟨_, b2, o2, base2, c2, rfl, hc2, hm2, hb2, hr2⟩ := h2
  apply slices_Equal_int_int.enter
  unfold slices_Equal_int_int.body
  simp only [len_slice T.t_sl_int.u, binS_neq, split_dec]
  refine ⟨fun hne => ⟨?_, Ext.refl _⟩, fun heq => ?_⟩
  · rw [decide_eq_false]
    rintro rfl; omega
  · have heq : n1 = n2 := by omega
    refine ⟨fun t4 t13 w1 => Ext w w1 ∧ ∃ i : Nat, t13 = .int .i64 i ∧ i ≤ n1 ∧ a.take i = b.take i, fun _ t13 _ => n1 - (ival t13).toNat, ⟨Ext.refl _, 0, rfl, Nat.zero_le _, rfl⟩, ?_⟩
    rintro t4 _ w1 ⟨hx, i, rfl, hi, htake⟩
    simp only [binS_lss, split_dec, Drew]
    refine ⟨fun hlt w2 hx2 _ _ => ?_, fun hge => ⟨?_, hx⟩⟩
    · have hlt : i < n1 := by omega
      have hx := hx.trans hx2
      obtain ⟨x, hxa⟩ : ∃ x, a[i]? = some x := ⟨_, List.getElem?_eq_getElem (by omega)⟩
      obtain ⟨y, hyb⟩ : ∃ y, b[i]? = some y := ⟨_, List.getElem?_eq_getElem (by omega)⟩
      have ca := cell?_ext hx (hr1 i _ (ints_get hxa))
      have cb := cell?_ext hx (hr2 i _ (ints_get hyb))
      rw [index_nat T.t_sl_int.u T.t_int.i hlt hb1, Nat.mul_one, load_cell (by kernel_rfl) ca, index_nat T.t_sl_int.u T.t_int.i (heq ▸ hlt) hb2, Nat.mul_one, load_cell (by kernel_rfl) cb]
      simp only [binS_neq, split_dec, binS_add]
      refine ⟨fun hne => ⟨?_, hx⟩, fun hxy => ⟨⟨hx, i + 1, ?_, by omega, take_succ_eq htake hxa hyb (by omega)⟩, ?_⟩⟩
      · rw [decide_eq_false]
        rintro rfl
        rw [hxa] at hyb; cases hyb; exact hne rfl
      · rw [wrap_i64 (by omega) (by simp only [maxLen] at hmax; omega)]; rfl
      · rw [wrap_i64 (by omega) (by simp only [maxLen] at hmax; omega)]; simp only [ival]; omega
    · have hi' : i = n1 := by omega
      subst hi'
      rw [decide_eq_true]
      rw [List.take_of_length_le (by omega), List.take_of_length_le (by omega)] at htake
      exact htake

theorem sClone_ints0 {s : Value} {w : World} {n : Nat} {a : List Int} (h1 : Sl w 1 s n (ints .i64 a)) (hn : n ≤ 1000000) :
    Cal prog F.slices_Clone_int_int [s] w fun v w' => Ext w w' ∧ ∃ g, w.heap.size ≤ g ∧ Mine w' g T.t_int 1 v n (ints .i64 a) := by
  have h0 := h1
  obtain ⟨hl, b1, o1, base1, c1, rfl, hc1, hm1, hb1, hr1⟩ := h1
  apply slices_Clone_int_int.enter
  unfold slices_Clone_int_int.body
  simp only [eq_slice_nil T.t_sl_int.u, split_bool]
  refine ⟨fun hnil => ⟨Ext.refl _, w.heap.size, Nat.le_refl _, ?_⟩, fun _ => ?_⟩
  · have : n = 0 := by
      rcases Nat.eq_zero_or_pos n with h | h
      · exact h
      · rw [hb1 h] at hnil; cases hnil
    subst this
    have : ints .i64 a = [] := List.eq_nil_of_length_eq_zero (by simpa using hl)
    rw [this]; exact Mine.nil _ _ _ _
  · refine buildSlice_c T.t_sl_int.u T.t_int.i (by omega) (cs := #[]) (by kernel_rfl) ?_
    intro g w1 hg hx hb
    refine append_own (g := g) T.t_sl_int.u T.t_sl_int.u T.t_int.i rfl (Mine.full hb rfl (by omega)) (h0.ext hx) (one_ints _ _) (by omega) (by simp only [maxLen]; omega) ?_
    intro v' g' w2 hg' hown hchg
    refine ⟨hx.then hchg (by rintro r hr rfl; omega), g', ?_, ?_⟩
    · have := hx.size; omega
    · simpa using hown
theorem sEqual_longs0 {s1 s2 : Value} {w : World} {n1 n2 : Nat} {a b : List Int} (h1 : Sl w 1 s1 n1 (ints .i64 a)) (h2 : Sl w 1 s2 n2 (ints .i64 b)) :
    Cal prog F.slices_Equal_int64_int64 [s1, s2] w fun v w' => v = .bool (decide (a = b)) ∧ Ext w w' := by
  have hl1 : a.length = n1 := by simpa using h1.1
  have hl2 : b.length = n2 := by simpa using h2.1
  have hmax := h1.le
  obtain ⟨_, b1, o1, base1, c1, rfl, hc1, hm1, hb1, hr1⟩ := h1
  obtain ⟨_, b2, o2, base2, c2, rfl, hc2, hm2, hb2, hr2⟩ := h2
  apply slices_Equal_int64_int64.enter
  unfold slices_Equal_int64_int64.body
  simp only [len_slice T.t_sl_int64.u, binS_neq, split_dec]
  refine ⟨fun hne => ⟨?_, Ext.refl _⟩, fun heq => ?_⟩
  · rw [decide_eq_false]
    rintro rfl; omega
  · have heq : n1 = n2 := by omega
    refine ⟨fun t4 t13 w1 => Ext w w1 ∧ ∃ i : Nat, t13 = .int .i64 i ∧ i ≤ n1 ∧ a.take i = b.take i, fun _ t13 _ => n1 - (ival t13).toNat, ⟨Ext.refl _, 0, rfl, Nat.zero_le _, rfl⟩, ?_⟩
    rintro t4 _ w1 ⟨hx, i, rfl, hi, htake⟩
    simp only [binS_lss, split_dec, Drew]
    refine ⟨fun hlt w2 hx2 _ _ => ?_, fun hge => ⟨?_, hx⟩⟩
    · have hlt : i < n1 := by omega
      have hx := hx.trans hx2
      obtain ⟨x, hxa⟩ : ∃ x, a[i]? = some x := ⟨_, List.getElem?_eq_getElem (by omega)⟩
      obtain ⟨y, hyb⟩ : ∃ y, b[i]? = some y := ⟨_, List.getElem?_eq_getElem (by omega)⟩
      have ca := cell?_ext hx (hr1 i _ (ints_get hxa))
      have cb := cell?_ext hx (hr2 i _ (ints_get hyb))
      rw [index_nat T.t_sl_int64.u T.t_int64.i hlt hb1, Nat.mul_one, load_cell (by kernel_rfl) ca, index_nat T.t_sl_int64.u T.t_int64.i (heq ▸ hlt) hb2, Nat.mul_one, load_cell (by kernel_rfl) cb]
      simp only [binS_neq, split_dec, binS_add]
      refine ⟨fun hne => ⟨?_, hx⟩, fun hxy => ⟨⟨hx, i + 1, ?_, by omega, take_succ_eq htake hxa hyb (by omega)⟩, ?_⟩⟩
      · rw [decide_eq_false]
        rintro rfl
        rw [hxa] at hyb; cases hyb; exact hne rfl
      · rw [wrap_i64 (by omega) (by simp only [maxLen] at hmax; omega)]; rfl
      · rw [wrap_i64 (by omega) (by simp only [maxLen] at hmax; omega)]; simp only [ival]; omega
    · have hi' : i = n1 := by omega
      subst hi'
      rw [decide_eq_true]
      rw [List.take_of_length_le (by omega), List.take_of_length_le (by omega)] at htake
      exact htake

theorem sClone_longs0 {s : Value} {w : World} {n : Nat} {a : List Int} (h1 : Sl w 1 s n (ints .i64 a)) (hn : n ≤ 1000000) :
    Cal prog F.slices_Clone_int64_int64 [s] w fun v w' => Ext w w' ∧ ∃ g, w.heap.size ≤ g ∧ Mine w' g T.t_int64 1 v n (ints .i64 a) := by
  have h0 := h1
  obtain ⟨hl, b1, o1, base1, c1, rfl, hc1, hm1, hb1, hr1⟩ := h1
  apply slices_Clone_int64_int64.enter
  unfold slices_Clone_int64_int64.body
  simp only [eq_slice_nil T.t_sl_int64.u, split_bool]
  refine ⟨fun hnil => ⟨Ext.refl _, w.heap.size, Nat.le_refl _, ?_⟩, fun _ => ?_⟩
  · have : n = 0 := by
      rcases Nat.eq_zero_or_pos n with h | h
      · exact h
      · rw [hb1 h] at hnil; cases hnil
    subst this
    have : ints .i64 a = [] := List.eq_nil_of_length_eq_zero (by simpa using hl)
    rw [this]; exact Mine.nil _ _ _ _
  · refine buildSlice_c T.t_sl_int64.u T.t_int64.i (by omega) (cs := #[]) (by kernel_rfl) ?_
    intro g w1 hg hx hb
    refine append_own (g := g) T.t_sl_int64.u T.t_sl_int64.u T.t_int64.i rfl (Mine.full hb rfl (by omega)) (h0.ext hx) (one_ints _ _) (by omega) (by simp only [maxLen]; omega) ?_
    intro v' g' w2 hg' hown hchg
    refine ⟨hx.then hchg (by rintro r hr rfl; omega), g', ?_, ?_⟩
    · have := hx.size; omega
    · simpa using hown
theorem sEqual_ints {s1 s2 : Value} {w : World} {a b : List Int} (h1 : LS .i64 w s1 a) (h2 : LS .i64 w s2 b) :
    Cal prog F.slices_Equal_int_int [s1, s2] w fun v w' => v = .bool (decide (a = b)) ∧ Ext w w' := sEqual_ints0 h1 h2
theorem sClone_ints {s : Value} {w : World} {a : List Int} (h1 : LS .i64 w s a) (hn : a.length ≤ 1000000) :
    Cal prog F.slices_Clone_int_int [s] w fun v w' => Ext w w' ∧ ∃ g, w.heap.size ≤ g ∧ LM .i64 T.t_int w' g v a := sClone_ints0 h1 hn
theorem sEqual_longs {s1 s2 : Value} {w : World} {a b : List Int} (h1 : LS .i64 w s1 a) (h2 : LS .i64 w s2 b) :
    Cal prog F.slices_Equal_int64_int64 [s1, s2] w fun v w' => v = .bool (decide (a = b)) ∧ Ext w w' := sEqual_longs0 h1 h2
theorem sClone_longs {s : Value} {w : World} {a : List Int} (h1 : LS .i64 w s a) (hn : a.length ≤ 1000000) :
    Cal prog F.slices_Clone_int64_int64 [s] w fun v w' => Ext w w' ∧ ∃ g, w.heap.size ≤ g ∧ LM .i64 T.t_int64 w' g v a := sClone_longs0 h1 hn
end Go.Proofs.Ytahhkeljejfgfaa
/- Shapes: tuples, and all of them. -/
namespace Go.Proofs.Ytahhkeljejfgfaa
open Go Go.Vc Go.RowKit Go.Proofs Go.Proofs.Try
set_option maxRecDepth 100000

theorem sTuple {sv : Value} {l : List Int} {w : World} {n : Int} (h : LS .i64 w sv l) (hs : Sizes l) (h0 : 0 ≤ n) (hn : n < prodN l) :
    Cal prog F.shape_Shape_Tuple [.agg #[sv], .int .i64 n] w fun v w' => Ext w w' ∧ ∃ tv g, v = .tuple #[tv, .int .i64 0] ∧ w.heap.size ≤ g ∧ LM .i64 T.t_int w' g tv (tupN l n) := by
  have hl := hs.1
  have hpb := prod_bound hs
  apply shape_Shape_Tuple.enter
  unfold shape_Shape_Tuple.body
  refine box_c fun g w0 hg hx0 hb => ?_
  have hcell := h.cells
  simp only [JoinC, binS_lss, split_dec]
  refine ⟨fun hneg => by omega, fun _ => ?_⟩
  rw [load_struct T.t_shape_Shape.p T.t_shape_Shape.i rfl hb.range]
  refine (sCount (h.ext hx0) hs).mono ?_
  rintro _ w1 _ ⟨rfl, hx1⟩
  simp only [binS_geq, split_dec]
  refine ⟨fun hbig => by omega, fun _ => ?_⟩
  have hx01 := hx0.trans hx1
  rw [field_at T.t_shape_Shape.p rfl, load_cell (by kernel_rfl) ((hb.ext hx1).cell (o := 0 + 0) rfl), len_ls T.t_sl_int.u (h.ext hx01)]
  refine make_ints T.t_sl_int.u T.t_int.i (by omega) (by omega) ?_
  intro g2 w2 hg2 hx2 hb2
  simp only [len_slice T.t_sl_int.u]
  have hx02 := hx01.trans hx2
  have s0 := hx0.size
  have s1 := hx1.size
  have hgl := hb.lt
  refine ⟨fun t w3 => Ext w w3 ∧ Ext w0 w3 ∧ ∃ i : Nat, t = .int .i64 i ∧ i ≤ l.length ∧ Blk w3 g2 T.t_int (ints .i64 ((tupN l n).take i ++ List.replicate (l.length - i) 0)), fun t _ => l.length - (ival t).toNat,
    ⟨hx02, hx1.trans hx2, 0, rfl, Nat.zero_le _, by simpa using hb2⟩, ?_⟩
  rintro _ w3 ⟨hx3, hx03, i, rfl, hi, hb3⟩
  simp only [binS_lss, split_dec]
  refine ⟨fun hlt => ?_, fun hge => ?_⟩
  · have hlt : i < l.length := by omega
    rw [load_struct T.t_shape_Shape.p T.t_shape_Shape.i rfl (hb.ext hx03).range]
    refine (sStep (h.ext hx3) hs hlt).mono ?_
    rintro _ w4 _ ⟨rfl, hx4⟩
    simp only [Drew]
    intro w5 hx5 _ _
    have hx45 := hx4.trans hx5
    have hx5' := hx3.trans hx45
    obtain ⟨k, hk⟩ : ∃ k, l[i]? = some k := ⟨l[i], List.getElem?_eq_getElem (by omega)⟩
    have hkb := hs.2 k (List.mem_of_getElem? hk)
    have hp1 := prod_bound (hs.drop (i + 1))
    have hd0 : 0 ≤ n / prodN (l.drop (i + 1)) := Int.ediv_nonneg h0 (by omega)
    have hd1 : n / prodN (l.drop (i + 1)) ≤ n := Int.ediv_le_self _ h0
    rw [binS_quo (by omega), Int.tdiv_eq_ediv_of_nonneg h0, wrap_i64 (by omega) (by omega),
      field_at T.t_shape_Shape.p rfl, load_cell (by kernel_rfl) (((hb.ext hx03).ext hx45).cell (o := 0 + 0) rfl), get_ls T.t_sl_int.u T.t_int.i (by kernel_rfl) (h.ext hx5') hk,
      binS_rem (by omega), Int.tmod_eq_emod_of_nonneg hd0, index_nat T.t_sl_int.u T.t_int.i hlt (fun _ => rfl), Nat.mul_one]
    refine store_cell T.t_int.i rfl rfl (hb3.ext hx45) (by simp [tupN_length]; omega) ?_
    intro w6 hc6 hs6 hb6
    simp only [binS_add]
    rw [wrap_i64 (by omega) (by omega)]
    have hs2 := hx2.size
    have hs01 := hx01.size
    refine ⟨⟨hx5'.then hc6 (by rintro r hr rfl; omega), (hx03.trans hx45).then hc6 (by rintro r hr rfl; omega), i + 1, rfl, by omega, ?_⟩, ?_⟩
    · have hget := tupN_get (n := n) hk
      have e : (ints .i64 ((tupN l n).take i ++ List.replicate (l.length - i) 0)).set (0 + i) (.int .i64 (n / prodN (l.drop (i + 1)) % k)) = ints .i64 ((tupN l n).take (i + 1) ++ List.replicate (l.length - (i + 1)) 0) := by
        have hlen : ((tupN l n).take i).length = i := by rw [List.length_take, tupN_length]; omega
        rw [Nat.zero_add, ints, ← List.map_set]
        congr 1
        rw [List.set_append, if_neg (by omega), hlen, Nat.sub_self, show l.length - i = (l.length - (i + 1)) + 1 by omega, List.replicate_succ, List.set_cons_zero, List.take_add_one, hget]
        simp
      rw [← e]; exact hb6
    · simp only [ival]; omega
  · have hi' : i = l.length := by omega
    subst hi'
    refine ⟨hx3, _, g2, rfl, by have := hx01.size; omega, LM.of (n := l.length) (Mine.full ?_ (by simp [ints, tupN_length]) (by simp [maxLen]; omega))⟩
    have e : (tupN l n).take l.length ++ List.replicate (l.length - l.length) 0 = tupN l n := by rw [Nat.sub_self, List.take_of_length_le (by rw [tupN_length]; omega)]; simp
    rw [← e]; exact hb3
end Go.Proofs.Ytahhkeljejfgfaa
/- Shapes: made. -/
namespace Go.Proofs.Ytahhkeljejfgfaa
open Go Go.Vc Go.RowKit Go.Proofs Go.Proofs.Try
set_option maxRecDepth 100000

def okSize (x : Int) : Prop := 1 ≤ x ∧ x ≤ 32
instance (x : Int) : Decidable (okSize x) := by unfold okSize; infer_instance

theorem nBad {x : Int} {w : World} : Cal prog F.shape_New_c1 [.int .i64 x] w fun v w' => v = .bool (decide (¬ okSize x)) ∧ Ext w w' := by
  apply shape_New_c1.enter
  unfold shape_New_c1.body
  simp only [JoinC, binS_lss, binS_gtr, split_dec]
  refine ⟨fun h => ⟨?_, Ext.refl _⟩, fun h => ⟨?_, Ext.refl _⟩⟩
  · rw [decide_eq_true]; intro hn; have := hn.1; omega
  · congr 1
    have : (32 < x) = (¬ okSize x) := propext ⟨fun h2 hn => by have := hn.2; omega, fun h2 => by
      by_cases h3 : 32 < x
      · exact h3
      · exact absurd ⟨by omega, by omega⟩ h2⟩
    simp only [this]

theorem nIndexBad {sv : Value} {l : List Int} {w : World} (h : LS .i64 w sv l) :
    Cal prog F.slices_IndexFunc_int_int [sv, .func (.func F.shape_New_c1) #[] #[]] w fun v w' => Ext w w' ∧ ∃ n : Int, v = .int .i64 n ∧ ((0 ≤ n) = ¬ ∀ x ∈ l, okSize x) := by
  have hle := h.le
  apply slices_IndexFunc_int_int.enter
  unfold slices_IndexFunc_int_int.body
  rw [len_ls T.t_sl_int.u h]
  refine ⟨fun _ t w1 => Ext w w1 ∧ ∃ i : Nat, t = .int .i64 i ∧ i ≤ l.length ∧ ∀ x ∈ l.take i, okSize x, fun _ t _ => l.length - (ival t).toNat, ⟨Ext.refl _, 0, rfl, Nat.zero_le _, by simp⟩, ?_⟩
  rintro _ _ w1 ⟨hx, i, rfl, hi, hall⟩
  simp only [binS_lss, split_dec]
  refine ⟨fun hlt => ?_, fun hge => ⟨hx, -1, rfl, ?_⟩⟩
  · obtain ⟨x, hxi⟩ : ∃ x, l[i]? = some x := ⟨_, List.getElem?_eq_getElem (by omega)⟩
    rw [get_ls T.t_sl_int.u T.t_int.i (by kernel_rfl) (h.ext hx) hxi]
    show Cal prog F.shape_New_c1 [.int .i64 x] w1 _
    refine nBad.mono ?_
    rintro _ w2 _ ⟨rfl, hx2⟩
    simp only [split_dec, binS_add]
    refine ⟨fun hbad => ⟨hx.trans hx2, i, rfl, ?_⟩, fun hok => ?_⟩
    · exact propext ⟨fun _ ha => hbad (ha x (List.mem_of_getElem? hxi)), fun _ => by omega⟩
    · rw [wrap_i64 (by omega) (by omega)]
      refine ⟨⟨hx.trans hx2, i + 1, rfl, by omega, fun y hy => ?_⟩, ?_⟩
      · rw [List.take_add_one, hxi] at hy
        rcases List.mem_append.1 hy with hy | hy
        · exact hall y hy
        · simp at hy; subst hy; exact Decidable.not_not.1 hok
      · simp only [ival]; omega
  · have : i = l.length := by omega
    rw [this, List.take_length] at hall
    exact propext ⟨fun h => by omega, fun h => absurd hall h⟩

theorem nContains {sv : Value} {l : List Int} {w : World} (h : LS .i64 w sv l) :
    Cal prog F.slices_ContainsFunc_int_int [sv, .func (.func F.shape_New_c1) #[] #[]] w fun v w' => v = .bool (decide (¬ ∀ x ∈ l, okSize x)) ∧ Ext w w' := by
  apply slices_ContainsFunc_int_int.enter
  unfold slices_ContainsFunc_int_int.body
  refine (nIndexBad h).mono ?_
  rintro _ w1 _ ⟨hx, n, rfl, hn⟩
  simp only [binS_geq]
  exact ⟨by congr 1; simp only [hn], hx⟩

/-- what New answers -/
def NewShape (w : World) (l : List Int) (v : Value) (w' : World) : Prop :=
  Ext w w' ∧
      (¬ Sizes l → v = .tuple #[.agg #[.slice none 0 0], .int .i64 1]) ∧
      (Sizes l → 4096 < prodN l → v = .tuple #[.agg #[.slice none 0 0], .int .i64 5]) ∧
      (Sizes l → prodN l ≤ 4096 → ∃ g tv, v = .tuple #[.agg #[tv], .int .i64 0] ∧ w.heap.size ≤ g ∧ LM .i64 T.t_int w' g tv l)

theorem sNew {sv : Value} {l : List Int} {w : World} (h : LS .i64 w sv l) : Cal prog F.shape_New [sv] w (NewShape w l) := by
  apply shape_New.enter
  unfold shape_New.body
  refine alloc_c T.t_shape_Shape.i fun g0 w1 hg0 hx1 hb0 => ?_
  have l0 := hb0.lt
  refine join1 (fun v w2 => Ext w w2 ∧ Ext w1 w2 ∧ ∃ c : Bool, v = .bool c ∧ ((c = true) = ¬ Sizes l)) ?_ ?_
  · rintro _ w2 ⟨hx, hx12, c, rfl, hc⟩
    simp only [split_bool]
    refine ⟨fun ht => ?_, fun hf => ?_⟩
    · have hn : ¬ Sizes l := by rw [← hc]; exact ht
      rw [build_eq (cs := #[.slice none 0 0]) (by kernel_rfl)]
      refine store_whole (vs := [.slice none 0 0]) T.t_shape_Shape.i rfl rfl (by simp; rfl) (hb0.ext hx12) ?_
      intro w3 hc3 hs3 hb3
      rw [res_struct T.t_shape_Shape.p T.t_shape_Shape.i rfl hb3.range]
      exact ⟨hx.then hc3 (by rintro r hr rfl; omega), fun _ => rfl, fun h => absurd h hn, fun h => absurd h hn⟩
    · have hsz : Sizes l := by
        have h0 : ¬ (c = true) := by simp [hf]
        rw [hc] at h0; exact Classical.not_not.1 h0
      have hl := hsz.1
      refine (sClone_ints (h.ext hx) (by omega)).mono ?_
      rintro tv w4 _ ⟨hx4, gc, hgc, hm⟩
      have htv := hm.ls.cells
      rw [build_eq (cs := #[tv]) (by obtain ⟨_, _, _, _, _, rfl, _⟩ := hm.ls; kernel_rfl)]
      refine alloc_c T.t_shape_Shape.i fun gs w5 hgs hx5 hb5 => ?_
      refine store_whole (vs := [tv]) T.t_shape_Shape.i rfl rfl (by intro u hu; simp at hu; subst hu; exact htv.2) hb5 ?_
      intro w6 hc6 hs6 hb6
      rw [load_struct T.t_shape_Shape.p T.t_shape_Shape.i rfl hb6.range]
      have hs4 := hx4.size
      have hs5 := hx5.size
      have hs2 := hx12.size
      have c46 : Chg (fun r => r = gs) w4 w6 := (hx5.chg _).trans hc6
      have hx46 : Ext w4 w6 := hx5.then hc6 (by rintro r hr rfl; omega)
      have hx06 := (hx.trans hx4).trans hx46
      have hm6 : LM .i64 T.t_int w6 gc tv l := hm.ext hx46
      refine (sCount hm6.ls hsz).mono ?_
      rintro _ w7 _ ⟨rfl, hx7⟩
      have hx07 := hx06.trans hx7
      have hb07 : Blk w7 g0 T.t_shape_Shape [.slice none 0 0] := hb0.ext (((hx12.trans hx4).trans hx46).trans hx7)
      simp only [binS_gtr, split_dec]
      refine ⟨fun hbig => ?_, fun hsm => ?_⟩
      · rw [build_eq (cs := #[.slice none 0 0]) (by kernel_rfl)]
        refine store_whole (vs := [.slice none 0 0]) T.t_shape_Shape.i rfl rfl (by simp; rfl) hb07 ?_
        intro w8 hc8 hs8 hb8
        rw [res_struct T.t_shape_Shape.p T.t_shape_Shape.i rfl hb8.range]
        exact ⟨hx07.then hc8 (by rintro r hr rfl; omega), fun h => absurd hsz h, fun _ _ => rfl, fun _ h => by omega⟩
      · rw [load_struct T.t_shape_Shape.p T.t_shape_Shape.i rfl (hb6.ext hx7).range]
        refine store_whole (vs := [tv]) T.t_shape_Shape.i rfl rfl (by intro u hu; simp at hu; subst hu; exact htv.2) hb07 ?_
        intro w8 hc8 hs8 hb8
        rw [res_struct T.t_shape_Shape.p T.t_shape_Shape.i rfl hb8.range]
        have hs1 := hx1.size
        exact ⟨hx07.then hc8 (by rintro r hr rfl; omega), fun h => absurd hsz h, fun _ h => by omega, fun _ _ => ⟨gc, tv, rfl, by omega, (hm6.ext hx7).chg hc8 (by omega)⟩⟩
  · intro J hJ
    rw [len_ls T.t_sl_int.u (h.ext hx1)]
    simp only [binS_gtr, split_dec]
    refine ⟨fun hbig => hJ _ _ ⟨hx1, Ext.refl _, true, rfl, ?_⟩, fun hsm => ?_⟩
    · exact propext ⟨fun _ hs => by have := hs.1; omega, fun _ => rfl⟩
    · refine (nContains (h.ext hx1)).mono ?_
      rintro _ w2 _ ⟨rfl, hx2⟩
      refine hJ _ _ ⟨hx1.trans hx2, hx2, _, rfl, ?_⟩
      rw [decide_eq_true_eq]
      exact propext ⟨fun hb hs => hb hs.2, fun hb hs => hb ⟨by omega, hs⟩⟩
end Go.Proofs.Ytahhkeljejfgfaa
/- Repeat. -/
namespace Go.Proofs.Ytahhkeljejfgfaa
open Go Go.Vc Go.RowKit Go.Proofs Go.Proofs.Try
set_option maxRecDepth 100000

theorem and_mask {P : Program} {w : World} {t : TypeId} {cx cy : Bool} {a : Int} {K : Value → Prop} (h0 : 0 ≤ a) (h1 : a < 4294967296) :
    RunQ P (binS .and t cx cy (.int .u64 a) (.int .u64 4294967295)) w K = K (.int .u64 a) := RunQ.of fun w' _ => by
  obtain ⟨n, rfl⟩ := Int.eq_ofNat_of_zero_le h0
  have hn : n < 4294967296 := by omega
  have e : (BitVec.ofInt 64 (n : Int) &&& BitVec.ofInt 64 4294967295).toNat = n := by
    rw [BitVec.toNat_and, BitVec.toNat_ofInt, BitVec.toNat_ofInt]
    have e1 : ((n : Int) % ((2 ^ 64 : Nat) : Int)).toNat = n := by omega
    have e2 : ((4294967295 : Int) % ((2 ^ 64 : Nat) : Int)).toNat = 2 ^ 32 - 1 := by decide
    rw [e1, e2, Nat.and_two_pow_sub_one_eq_mod]
    omega
  have e' : (BitVec.ofInt IntKind.u64.bits (n : Int) &&& BitVec.ofInt IntKind.u64.bits 4294967295).toNat = n := e
  simp only [binS, eqGuard, binOp, Op.intBits, e']
  rw [wrap_u64 (by omega) (by omega)]
  rfl
theorem shr_32 {P : Program} {w : World} {t : TypeId} {cx cy : Bool} {a : Int} {K : Value → Prop} (h0 : 0 ≤ a) (h1 : a < 4294967296) :
    RunQ P (binS .shr t cx cy (.int .u64 a) (.int .u64 32)) w K = K (.int .u64 0) := RunQ.of fun w' _ => by
  have e : a.fdiv (2 ^ min 32 IntKind.u64.bits) = 0 := by
    have : (2 : Int) ^ min 32 IntKind.u64.bits = 4294967296 := rfl
    rw [this, Int.fdiv_eq_ediv_of_nonneg _ (by omega)]; omega
  simp [binS, eqGuard, binOp, Op.shift, e]

theorem bMul {x y : Int} {w : World} (hx : 0 ≤ x ∧ x < 65536) (hy : 0 ≤ y ∧ y < 65536) :
    Cal prog F.math_bits_Mul [.int .u64 x, .int .u64 y] w fun v w' => v = .tuple #[.int .u64 0, .int .u64 (x * y)] ∧ Ext w w' := by
  have hxy : 0 ≤ x * y ∧ x * y < 4294967296 := ⟨Int.mul_nonneg hx.1 hy.1, by
    have : x * y ≤ 65535 * 65535 := Int.mul_le_mul (by omega) (by omega) hy.1 (by omega)
    omega⟩
  apply math_bits_Mul.enter
  unfold math_bits_Mul.body
  refine Cal.mono (K := fun v w' => v = .tuple #[.int .u64 0, .int .u64 (x * y)] ∧ Ext w w') ?_ ?_
  · apply math_bits_Mul64.enter
    unfold math_bits_Mul64.body
    rw [and_mask (by omega) (by omega), shr_32 (by omega) (by omega), and_mask (by omega) (by omega), shr_32 (by omega) (by omega)]
    simp only [binS_mul, Int.zero_mul, Int.mul_zero]
    rw [wrap_u64 (x := x * y) (by omega) (by omega), show IntKind.u64.wrap 0 = 0 from rfl, shr_32 (a := x * y) (by omega) (by omega)]
    simp only [binS_add, Int.add_zero]
    rw [show IntKind.u64.wrap 0 = 0 from rfl, and_mask (by omega) (by omega), shr_32 (by omega) (by omega)]
    simp only [binS_mul, binS_add, Int.zero_mul, Int.mul_zero, Int.add_zero, show IntKind.u64.wrap 0 = 0 from rfl]
    rw [shr_32 (by omega) (by omega)]
    simp only [binS_mul, binS_add, Int.add_zero, show IntKind.u64.wrap 0 = 0 from rfl]
    exact ⟨trivial, Ext.refl _⟩
  · rintro _ w1 _ ⟨rfl, hx1⟩
    rw [extract_tuple (v := .int .u64 0) rfl, extract_tuple (v := .int .u64 (x * y)) rfl]
    exact ⟨rfl, hx1⟩

theorem sRepeat {xv : Value} {w : World} {c : Int} {n : Nat} (h : LS .i64 w xv [c]) (hn : n < 65536) :
    Cal prog F.slices_Repeat_int64_int64 [xv, .int .i64 n] w fun v w' => Ext w w' ∧ ∃ g, w.heap.size ≤ g ∧ LM .i64 T.t_int64 w' g v (List.replicate n c) := by
  apply slices_Repeat_int64_int64.enter
  unfold slices_Repeat_int64_int64.body
  refine join0 (fun w1 => w = w1) ?_ ?_
  · rintro _ rfl
    rw [len_ls T.t_sl_int64.u h, conv_int T.t_int.u T.t_uint.u, conv_int T.t_int.u T.t_uint.u, wrap_u64 (by simp) (by simp), wrap_u64 (by omega) (by omega)]
    refine (bMul (x := ([c].length : Int)) (by simp) (by omega)).mono ?_
    rintro _ w2 _ ⟨rfl, hx2⟩
    rw [extract_tuple (v := .int .u64 0) rfl, extract_tuple (v := .int .u64 (([c].length : Int) * n)) rfl]
    have e1 : (([c].length : Int) * n) = (n : Int) := by simp
    rw [e1]
    refine join0 (fun w3 => w2 = w3) ?_ ?_
    · rintro _ rfl
      rw [conv_int T.t_uint.u T.t_int.u, wrap_i64 (by omega) (by omega)]
      refine make_ints T.t_sl_int64.u T.t_int64.i (by omega) (by omega) ?_
      intro g w4 hg hx4 hb4
      have hx := hx2.trans hx4
      have hs2 := hx2.size
      refine copy_blk T.t_sl_int64.u T.t_int64.i hb4 (o := 0) (fun _ => rfl) (by simp) (h.ext hx) (one_ints _ _) ?_
      intro w5 hc5 hs5 hb5
      have hx5 := hx.then hc5 (by rintro r hr rfl; omega)
      have st : over (ints .i64 (List.replicate n 0)) 0 ((ints .i64 [c]).take n) = ints .i64 (List.replicate (min 1 n) c ++ List.replicate (n - min 1 n) 0) := by
        rcases Nat.eq_zero_or_pos n with rfl | hp
        · simp [over]
        · rw [List.take_of_length_le (by simp; omega), over_eq (by simp; omega)]
          have : min 1 n = 1 := by omega
          simp [this, ints]
      rw [st] at hb5
      refine ⟨fun t w6 => Ext w w6 ∧ ∃ i : Nat, t = .int .i64 i ∧ i ≤ n ∧ (0 < n → 0 < i) ∧ Blk w6 g T.t_int64 (ints .i64 (List.replicate i c ++ List.replicate (n - i) 0)), fun t _ => n - (ival t).toNat,
        ⟨hx5, min 1 n, by simp, by omega, by omega, hb5⟩, ?_⟩
      rintro _ w6 ⟨hx6, i, rfl, hi, hi0, hb6⟩
      simp only [len_slice T.t_sl_int64.u, binS_lss, split_dec, Drew]
      refine ⟨fun hlt w7 hx7 _ _ => ?_, fun hge => ?_⟩
      · have hlt : i < n := by omega
        have hb7 := hb6.ext hx7
        rw [slice_slice T.t_sl_int64.u T.t_int64.i (l := i) (h := n) (m := n) lo_at hi_no mx_no (by omega) (by omega) (by omega),
          slice_slice T.t_sl_int64.u T.t_int64.i (l := 0) (h := i) (m := n) lo_no hi_at mx_no (by omega) (by omega) (by omega)]
        have hsl : Sl w7 1 (.slice (some ⟨g, 0, none⟩) n n) n (ints .i64 (List.replicate i c ++ List.replicate (n - i) 0)) := (Mine.full hb7 (by simp <;> omega) (by simp [maxLen] <;> omega)).sl
        have hp := hsl.part (l := 0) (h := i) (m := n) (by omega) (by omega) (by omega) (by omega)
        have e3 : ((ints .i64 (List.replicate i c ++ List.replicate (n - i) 0)).drop (0 * 1)).take ((i - 0) * 1) = ints .i64 (List.replicate i c) := by
          simp [ints]
        rw [e3] at hp
        refine copy_blk T.t_sl_int64.u T.t_int64.i hb7 (o := i) (fun _ => ?_) (by simp <;> omega) hp (one_ints _ _) ?_
        · rw [if_neg (by omega)]; simp [Addr.add_mid]
        · intro w8 hc8 hs8 hb8
          have s6 := hx6.size
          have s7 := hx7.size
          have e4 : over (ints .i64 (List.replicate i c ++ List.replicate (n - i) 0)) i ((ints .i64 (List.replicate i c)).take (n - i)) = ints .i64 (List.replicate (i + min i (n - i)) c ++ List.replicate (n - (i + min i (n - i))) 0) := by
            apply List.ext_getElem?
            intro j
            rw [over_get _ _ _ (by simp [ints] <;> omega)]
            simp only [ints, List.map_append, List.map_replicate, List.getElem?_append, List.getElem?_take, List.getElem?_replicate, List.length_take, List.length_replicate]
            repeat' split
            all_goals first | rfl | omega
          rw [e4] at hb8
          have e5 : min (i - 0) (n - i) = min i (n - i) := by omega
          simp only [binS_add, e5]
          have e6 : IntKind.i64.wrap ((i : Int) + ((min i (n - i) : Nat) : Int)) = ((i + min i (n - i) : Nat) : Int) := by rw [wrap_i64 (by omega) (by omega)]; omega
          rw [e6]
          refine ⟨⟨(hx6.trans hx7).then hc8 (by rintro r hr rfl; omega), _, rfl, by omega, by omega, hb8⟩, ?_⟩
          simp only [ival, Int.toNat_natCast]; omega
      · have : i = n := by omega
        subst this
        rw [Nat.sub_self, List.replicate_zero, List.append_nil] at hb6
        exact ⟨hx6, g, by omega, LM.of (n := i) (Mine.full hb6 (by simp) (by simp [maxLen]; omega))⟩
    · intro J hJ
      refine join1 (fun v w3 => v = .bool false ∧ w2 = w3) ?_ ?_
      · rintro _ _ ⟨rfl, rfl⟩
        rw [split_false]; exact hJ _ rfl
      · intro J2 hJ2
        simp only [binS_gtr, split_dec]
        refine ⟨fun h => by omega, fun _ => hJ2 _ _ ⟨?_, rfl⟩⟩
        rw [decide_eq_false]; omega
  · intro J hJ
    simp only [binS_lss, split_dec]
    exact ⟨fun h => by omega, fun _ => hJ _ rfl⟩
end Go.Proofs.Ytahhkeljejfgfaa
/- Tables: made, looked at, written. -/
namespace Go.Proofs.Ytahhkeljejfgfaa
open Go Go.Vc Go.RowKit Go.Proofs Go.Proofs.Try
set_option maxRecDepth 100000

/-- the block that a slice leads to -/
def leads (v : Value) (r : Nat) : Prop := ∃ a n c, v = .slice (some a) n c ∧ a.block = r
theorem LM_leads {k : IntKind} {e : TypeId} {w : World} {g : Nat} {v : Value} {l : List Int} (h : LM k e w g v l) {r : Nat} (hr : leads v r) : r = g ∧ g < w.heap.size := by
  obtain ⟨a, n, c, rfl, rfl⟩ := hr
  obtain ⟨_, ⟨h, _⟩ | ⟨cap, cs, h, hb, _⟩⟩ := h
  · cases h
  · cases h; exact ⟨rfl, hb.lt⟩
theorem LM_chg {k : IntKind} {e : TypeId} {S : Nat → Prop} {w w' : World} {g : Nat} {v : Value} {l : List Int} (h : LM k e w g v l) (hx : Chg S w w') (hS : ∀ r, leads v r → ¬ S r) : LM k e w' g v l := by
  refine ⟨h.1, h.2.imp id fun ⟨cap, cs, h1, h2, h3⟩ => ⟨cap, cs, h1, h2.chg hx (hS g ⟨_, _, _, h1, rfl⟩), h3⟩⟩

/-- a table: in block g; its costs in block gc -/
def Tab (w : World) (g gc : Nat) (sv : Value) (szs : List Int) (k : Int) (cs : List Int) : Prop :=
  (∃ cv gs, Blk w g T.t_table_Table [sv, .int .i64 k, cv] ∧ LM .i64 T.t_int w gs sv szs ∧ LM .i64 T.t_int64 w gc cv cs) ∧ (g ≠ gc ∧ ¬ leads sv gc ∧ prodN szs ≤ 4096) ∧ Sizes szs ∧ cs.length = (prodN szs).toNat
theorem Tab.ext {w w' : World} {g gc : Nat} {sv : Value} {szs : List Int} {k : Int} {cs : List Int} (h : Tab w g gc sv szs k cs) (hx : Ext w w') : Tab w' g gc sv szs k cs := by
  obtain ⟨⟨cv, gs, h1, h2, h3⟩, h4⟩ := h
  exact ⟨⟨cv, gs, h1.ext hx, h2.ext hx, h3.ext hx⟩, h4⟩

/-- what New answers -/
def NewTable (w : World) (l : List Int) (k fill : Int) (v : Value) (w' : World) : Prop :=
  Ext w w' ∧
    (¬ Sizes l → v = .tuple #[.pointer none, .int .i64 1]) ∧
    (Sizes l → 4096 < prodN l → v = .tuple #[.pointer none, .int .i64 5]) ∧
    (Sizes l → prodN l ≤ 4096 → ¬ inK fill k → v = .tuple #[.pointer none, .int .i64 3]) ∧
    (Sizes l → prodN l ≤ 4096 → inK fill k → ∃ g gc sv, v = .tuple #[.pointer (some ⟨g, 0, none⟩), .int .i64 0] ∧ w.heap.size ≤ g ∧ w.heap.size ≤ gc ∧ (∀ r, leads sv r → w.heap.size ≤ r) ∧
      Tab w' g gc sv l k (List.replicate (prodN l).toNat fill))

theorem tNew {sv : Value} {l : List Int} {k fill : Int} {w : World} (h : LS .i64 w sv l) : Cal prog F.table_New [sv, .int .i64 k, .int .i64 fill] w (NewTable w l k fill) := by
  apply table_New.enter
  unfold table_New.body
  refine (sNew h).mono ?_
  rintro v w1 _ ⟨hx1, hbad, hlarge, hgood⟩
  obtain ⟨tv, e, rfl, htv1, he⟩ : ∃ (tv : Value) (e : Int), v = .tuple #[.agg #[tv], .int .i64 e] ∧ tv.oneCell' = true ∧
      ((e = 1 ∧ ¬ Sizes l) ∨ (e = 5 ∧ Sizes l ∧ 4096 < prodN l) ∨ (e = 0 ∧ Sizes l ∧ prodN l ≤ 4096 ∧ ∃ g, w.heap.size ≤ g ∧ LM .i64 T.t_int w1 g tv l)) := by
    by_cases hs : Sizes l
    · by_cases hp : prodN l ≤ 4096
      · obtain ⟨g, tv, rfl, h1, h2⟩ := hgood hs hp
        exact ⟨tv, 0, rfl, h2.ls.cells.2, .inr (.inr ⟨rfl, hs, hp, g, h1, h2⟩)⟩
      · exact ⟨_, _, hlarge hs (by omega), rfl, .inr (.inl ⟨rfl, hs, by omega⟩)⟩
    · exact ⟨_, _, hbad hs, rfl, .inl ⟨rfl, hs⟩⟩
  rw [extract_tuple (v := .agg #[tv]) rfl, extract_tuple (v := .int .i64 e) rfl]
  refine alloc_c T.t_shape_Shape.i fun g0 w2 hg0 hx2 hb0 => ?_
  refine store_whole (vs := [tv]) T.t_shape_Shape.i rfl rfl (by intro u hu; simp at hu; subst hu; exact htv1) hb0 ?_
  intro w3 hc3 hs3 hb3
  have hx13 : Ext w1 w3 := hx2.then hc3 (by rintro r hr rfl; omega)
  have hx03 := hx1.trans hx13
  simp only [binS_neq, split_dec]
  refine ⟨fun hne => ⟨hx03, ?_⟩, fun heq => ?_⟩
  · rcases he with ⟨rfl, hn⟩ | ⟨rfl, hs, hp⟩ | ⟨rfl, _⟩
    · exact ⟨fun _ => rfl, fun h => absurd h hn, fun h => absurd h hn, fun h => absurd h hn⟩
    · exact ⟨fun h => absurd hs h, fun _ _ => rfl, fun _ h => by omega, fun _ h => by omega⟩
    · exact absurd rfl hne
  · obtain ⟨rfl, hs, hp, gs, hgs, hm⟩ : e = 0 ∧ Sizes l ∧ prodN l ≤ 4096 ∧ ∃ g, w.heap.size ≤ g ∧ LM .i64 T.t_int w1 g tv l := by
      rcases he with ⟨rfl, hn⟩ | ⟨rfl, hs, hp⟩ | h
      · omega
      · omega
      · exact h
    have hpb := prod_bound hs
    refine cIn.mono ?_
    rintro _ w4 _ ⟨rfl, hx4⟩
    have hx04 := hx03.trans hx4
    simp only [un_not, split_bool]
    refine ⟨fun hf => ⟨hx04, fun h => absurd hs h, fun _ h => by omega, fun _ _ _ => rfl, fun _ _ h => by simp [h] at hf⟩, fun ht => ?_⟩
    have hin : inK fill k := by simpa using ht
    simp only [JoinC, Drew]
    intro w5 hx5 _ _
    have hx05 := hx04.trans hx5
    have hx15 := (hx13.trans hx4).trans hx5
    have hb5 := (hb3.ext hx4).ext hx5
    rw [load_struct T.t_shape_Shape.p T.t_shape_Shape.i rfl hb5.range, load_struct T.t_shape_Shape.p T.t_shape_Shape.i rfl hb5.range]
    have s1 := hx1.size
    have s15 := hx15.size
    have hcn : ((prodN l).toNat : Int) = prodN l := by omega
    have fin : ∀ {w8 : World} {rv : Value} {gc : Nat}, Ext w5 w8 → w5.heap.size ≤ gc → LM .i64 T.t_int64 w8 gc rv (List.replicate (prodN l).toNat fill) →
        RunQ prog (Instr.build T.t_table_Table #[(0, .agg #[tv]), (1, .int .i64 k), (2, rv)]) w8 fun t31 => RunC prog (Instr.box T.t_table_Table t31) w8 fun t32 w9 => NewTable w l k fill (.tuple #[t32, .int .i64 0]) w9 := by
      intro w8 rv gc hx8 hgc hr
      rw [build_eq (cs := #[tv, .int .i64 k, rv]) (by
        obtain ⟨_, _, _, _, _, rfl, _⟩ := hr.ls
        obtain ⟨_, _, _, _, _, rfl, _⟩ := hm.ls
        kernel_rfl)]
      refine box_c fun g w9 hg hx9 hb9 => ?_
      have s8 := hx8.size
      have hcell : leads rv gc := by
        obtain ⟨hlen, ⟨_, h0⟩ | ⟨cap, cs, rfl, _⟩⟩ := hr
        · simp at h0; omega
        · exact ⟨_, _, _, rfl, rfl⟩
      have hgl := (LM_leads hr hcell).2
      refine ⟨(hx05.trans hx8).trans hx9, fun h => absurd hs h, fun _ h => by omega, fun _ _ h => absurd hin h, fun _ _ _ => ⟨g, gc, tv, rfl, by omega, by omega, fun r hr' => ?_, ⟨rv, gs, hb9, ((hm.ext hx15).ext hx8).ext hx9, hr.ext hx9⟩, ⟨by omega, fun hl => ?_, hp⟩, hs, by simp⟩⟩
      · have := (LM_leads hm hr').1; omega
      · have := LM_leads hm hl; omega
    constructor
    · refine one_c T.t_sl_int64.u T.t_int64.i rfl fun xv gx w6 hgx hx6 hxv => ⟨.inl hx6, ?_⟩
      refine (sCount ((hm.ext hx15).ext hx6).ls hs).mono ?_
      rintro _ w7 _ ⟨rfl, hx7⟩
      refine ⟨.inl (hx6.trans hx7), ?_⟩
      rw [← hcn]
      refine (sRepeat (hxv.ext hx7).ls (by omega)).mono ?_
      rintro rv w8 _ ⟨hx8, gc, hgc, hr⟩
      have s6 := hx6.size
      have s7 := hx7.size
      exact ⟨.inl ((hx6.trans hx7).trans hx8), fin ((hx6.trans hx7).trans hx8) (by omega) hr⟩
    · refine (sCount (hm.ext hx15).ls hs).mono ?_
      rintro _ w6 _ ⟨rfl, hx6⟩
      refine ⟨.inl hx6, ?_⟩
      refine one_c T.t_sl_int64.u T.t_int64.i rfl fun xv gx w7 hgx hx7 hxv => ⟨.inl (hx6.trans hx7), ?_⟩
      rw [← hcn]
      refine (sRepeat hxv.ls (by omega)).mono ?_
      rintro rv w8 _ ⟨hx8, gc, hgc, hr⟩
      have s6 := hx6.size
      have s7 := hx7.size
      exact ⟨.inl ((hx6.trans hx7).trans hx8), fin ((hx6.trans hx7).trans hx8) (by omega) hr⟩
end Go.Proofs.Ytahhkeljejfgfaa
/- Tables: Get, Put, More. -/
namespace Go.Proofs.Ytahhkeljejfgfaa
open Go Go.Vc Go.RowKit Go.Proofs Go.Proofs.Try
set_option maxRecDepth 100000

theorem Blk_sub {w : World} {g : Nat} {e : TypeId} {cs ds : List Value} {o : Nat} (h : Blk w g e cs) (hd : ∀ j v, ds[j]? = some v → cs[o + j]? = some v) : w.rangeAt g o ds := fun j v hv => h.cell (hd j v hv)

theorem tAt {w : World} {g gc : Nat} {sv tv : Value} {szs t : List Int} {k : Int} {cs : List Int} (h : Tab w g gc sv szs k cs) (ht : LS .i64 w tv t) :
    Cal prog F.P_table_Table_at [.pointer (some ⟨g, 0, none⟩), tv] w fun v w' => v = idxV szs t ∧ Ext w w' := by
  obtain ⟨⟨cv, gs, hb, hm, hc⟩, _, hs, _⟩ := h
  apply P_table_Table_at.enter
  unfold P_table_Table_at.body
  rw [eq_ptr_nil T.t_p_table_Table.u]
  simp only [Option.isNone_some, split_false]
  rw [nil_check, field_at T.t_table_Table.p rfl, load_struct (cs := [sv]) T.t_shape_Shape.p T.t_shape_Shape.i rfl (Blk_sub hb (by
    intro j v hv
    match j, hv with
    | 0, hv => exact hv))]
  refine (sIndex hm.ls ht hs).mono ?_
  rintro _ w1 _ ⟨rfl, hx⟩
  unfold idxV
  cases idxN szs t 0 with
  | none => rw [extract_tuple (v := .int .i64 0) rfl, extract_tuple (v := .int .i64 3) rfl]; exact ⟨rfl, hx⟩
  | some n => rw [extract_tuple (v := .int .i64 n) rfl, extract_tuple (v := .int .i64 0) rfl]; exact ⟨rfl, hx⟩

def getV (szs t cs : List Int) : Value := match idxN szs t 0 with
  | some n => .tuple #[.int .i64 (cs.getD n.toNat 0), .int .i64 0]
  | none => .tuple #[.int .i64 0, .int .i64 3]

theorem idx_lt {szs t cs : List Int} {n : Int} (hs : Sizes szs) (hl : cs.length = (prodN szs).toNat) (h : idxN szs t 0 = some n) : n = (n.toNat : Int) ∧ n.toNat < cs.length := by
  have := idxN_bound hs.2 h
  simp only [Int.zero_mul, Int.zero_add, Int.one_mul] at this
  omega

/-- what a table comes to hold -/
def putC (szs t : List Int) (k c : Int) (cs : List Int) : List Int := match idxN szs t 0 with
  | some n => if inK c k then cs.set n.toNat c else cs
  | none => cs
def putE (szs t : List Int) (k c : Int) : Int := match idxN szs t 0 with
  | some _ => if inK c k then 0 else 3
  | none => 3

theorem tPut {w : World} {g gc : Nat} {sv tv : Value} {szs t : List Int} {k c : Int} {cs : List Int} (h : Tab w g gc sv szs k cs) (ht : LS .i64 w tv t) :
    Cal prog F.P_table_Table_Put [.pointer (some ⟨g, 0, none⟩), tv, .int .i64 c] w fun v w' => v = .int .i64 (putE szs t k c) ∧ Chg (fun r => r = gc) w w' ∧ Tab w' g gc sv szs k (putC szs t k c cs) := by
  apply P_table_Table_Put.enter
  unfold P_table_Table_Put.body
  refine (tAt h ht).mono ?_
  rintro _ w1 _ ⟨rfl, hx⟩
  have h1 := h.ext hx
  obtain ⟨⟨cv, gs, hb, hm, hc⟩, _, hs, hl⟩ := h1
  unfold idxV putE putC
  cases hi : idxN szs t 0 with
  | none =>
    rw [extract_tuple (v := .int .i64 0) rfl, extract_tuple (v := .int .i64 3) rfl]
    simp only [binS_neq, split_dec]
    exact ⟨fun _ => ⟨trivial, hx.chg _, h.ext hx⟩, fun h => by simp at h⟩
  | some n =>
    obtain ⟨hn, hlt⟩ := idx_lt hs hl hi
    rw [extract_tuple (v := .int .i64 n) rfl, extract_tuple (v := .int .i64 0) rfl]
    simp only [binS_neq, split_dec]
    refine ⟨fun h => absurd rfl h, fun _ => ?_⟩
    rw [nil_check, field_at T.t_table_Table.p rfl, load_cell (by kernel_rfl) (hb.cell (o := 0 + 1) rfl)]
    refine cIn.mono ?_
    rintro _ w2 _ ⟨rfl, hx2⟩
    have h2 := (h.ext hx).ext hx2
    by_cases hin : inK c k
    · simp only [hin, decide_true, un_not, Bool.not_true, split_false, if_true]
      obtain ⟨⟨cv, gs, hb, hm, hc⟩, ⟨hd1, hd2⟩, hs, hl⟩ := h2
      have hc0 := hc
      obtain ⟨hcl, ⟨rfl, h0⟩ | ⟨cap, full, rfl, hbc, h3, h4, h5, h6⟩⟩ := hc
      · omega
      · rw [nil_check, field_at T.t_table_Table.p rfl, load_cell (by kernel_rfl) (hb.cell (o := 0 + 2) rfl),
          index_slice (i := n) T.t_sl_int64.u T.t_int64.i (by omega) (by omega) (fun _ => rfl)]
        refine store_cell T.t_int64.i rfl rfl hbc (by omega) ?_
        intro w3 hc3 hs3 hb3
        refine ⟨trivial, ((hx.trans hx2).chg _).trans hc3, ⟨_, gs, hb.chg hc3 (by omega), LM_chg hm hc3 (fun r hr hrg => hd2.1 (hrg ▸ hr)), ?_⟩, ⟨hd1, hd2⟩, hs, by simp [hl]⟩
        refine ⟨by simp, .inr ⟨cap, full.set (0 + n.toNat * 1) (.int .i64 c), ?_, hb3, by simpa using h3, h4, by simpa using h5, ?_⟩⟩
        · simp
        · simp only [List.length_set, Nat.zero_add, Nat.mul_one] at h6 ⊢
          rw [List.take_set, h6, ints, ints, List.map_set]
    · simp only [hin, decide_false, un_not, Bool.not_false, split_true, if_false]
      exact ⟨trivial, (hx.trans hx2).chg _, h2⟩
end Go.Proofs.Ytahhkeljejfgfaa

