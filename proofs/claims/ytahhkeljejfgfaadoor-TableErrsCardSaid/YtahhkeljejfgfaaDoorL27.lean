/- The laws' scopes: variables that rise. -/
import Derived.Test.YtahhkeljejfgfaaDoorL26
namespace Go.Proofs.YtahhkeljejfgfaaDoor
open Go Go.Vc Go.RowKit Go.Proofs Go.Proofs.Tryd
set_option maxRecDepth 100000

/-- a scope of so many variables, and the next free one -/
def scp (p : List Int) : Nat → List Int × Int
  | 0 => ([], 0)
  | i + 1 => ((scp p i).1 ++ [(scp p i).2 + (if i < p.length then p.getD i 0 % 3 else 0)], (scp p i).2 + (if i < p.length then p.getD i 0 % 3 else 0) + 1)
theorem scp_facts (p : List Int) : ∀ n, (scp p n).1.length = n ∧ 0 ≤ (scp p n).2 ∧ (scp p n).2 ≤ 3 * n ∧ (∀ x ∈ (scp p n).1, 0 ≤ x ∧ x < (scp p n).2) ∧ Up (scp p n).1
  | 0 => ⟨rfl, by simp [scp], by simp [scp], fun x hx => by simp [scp] at hx, fun i j x y _ h => by simp [scp] at h⟩
  | n + 1 => by
    obtain ⟨h1, h2, h3, h4, h5⟩ := scp_facts p n
    have hd : 0 ≤ (if n < p.length then p.getD n 0 % 3 else 0) ∧ (if n < p.length then p.getD n 0 % 3 else 0) ≤ 2 := by split <;> omega
    simp only [scp]
    generalize (if n < p.length then p.getD n 0 % 3 else 0) = d at *
    refine ⟨by simp [h1], by omega, by omega, fun x hx => ?_, fun a b x y hab ha hb => ?_⟩
    · rcases List.mem_append.1 hx with h | h
      · have := h4 x h; omega
      · have := List.mem_singleton.1 h; omega
    · have hbl := (List.getElem?_eq_some_iff.1 hb).1
      simp only [List.length_append, List.length_cons, List.length_nil] at hbl
      rw [List.getElem?_append_left (by omega)] at ha
      by_cases hbe : b = (scp p n).1.length
      · subst hbe
        rw [List.getElem?_append_right (Nat.le_refl _), Nat.sub_self] at hb
        have hb := (Option.some.inj hb).symm
        have := h4 x (List.mem_of_getElem? ha); omega
      · rw [List.getElem?_append_left (by omega)] at hb
        exact h5 a b x y hab ha hb
theorem lScope {n : Nat} {w : World} {pv : Value} {p : List Int} (hp : LS .u8 w pv p) (h8 : ∀ x ∈ p, 0 ≤ x ∧ x < 256) (hn : n ≤ 1000) : Cal prog F.law04_scope [.int .i64 (n : Int), pv] w fun v w' => Ext w w' ∧ ∃ g, w.heap.size ≤ g ∧ LM .i64 T.t_int w' g v (scp p n).1 := by
  apply law04_scope.enter
  unfold law04_scope.body
  refine Loop3.range n (fun i out atv w1 => Ext w w1 ∧ atv = .int .i64 (scp p i).2 ∧ ∃ g, w.heap.size ≤ g ∧ LM .i64 T.t_int w1 g out (scp p i).1) (by omega) ⟨Ext.refl _, rfl, w.heap.size, Nat.le_refl _, LM.nil _ _ _ _⟩ ?_ ?_
  · rintro i out _ w1 kk hi ⟨hx1, rfl, g, hg, hm⟩ hkk
    obtain ⟨f1, f2, f3, _⟩ := scp_facts p i
    have hple := hp.le
    simp only [binS_lss, split_dec]
    refine ⟨fun _ => ?_, fun h => by omega⟩
    refine join1 (fun v w2 => v = .int .i64 ((scp p i).2 + (if i < p.length then p.getD i 0 % 3 else 0)) ∧ w1 = w2) ?_ ?_
    · rintro _ _ ⟨rfl, rfl⟩
      have hd : 0 ≤ (if i < p.length then p.getD i 0 % 3 else 0) ∧ (if i < p.length then p.getD i 0 % 3 else 0) ≤ 2 := by split <;> omega
      refine one_c T.t_sl_int.u T.t_int.i rfl fun a ga w3 hga hx3 ha => ?_
      refine push_lm T.t_sl_int.u T.t_int.i rfl (hm.ext hx3) ha.ls (by simp only [List.length_cons, List.length_nil]; omega) (by simp only [List.length_cons, List.length_nil]; omega) fun v' g' w4 hg' hv' hc4 => ?_
      have s1 := hx1.size
      have s3 := hx3.size
      simp only [binS_add]
      rw [wrap_i64 (x := (scp p i).2 + (if i < p.length then p.getD i 0 % 3 else 0) + 1) (by omega) (by omega)]
      exact hkk _ _ _ ⟨(hx1.trans hx3).then hc4 (by rintro r hr rfl; omega), rfl, g', by omega, hv'⟩
    · intro J hJ
      rw [len_ls T.t_sl_uint8.u (hp.ext hx1)]
      simp only [binS_lss, split_dec]
      refine ⟨fun h => ?_, fun h => hJ _ _ ⟨by rw [if_neg (by omega)]; congr 1; omega, rfl⟩⟩
      have hil : i < p.length := by omega
      obtain ⟨x, hx⟩ : ∃ x, p[i]? = some x := ⟨_, List.getElem?_eq_getElem hil⟩
      have hx8 := h8 x (List.mem_of_getElem? hx)
      rw [get_ls T.t_sl_uint8.u T.t_uint8.i (by kernel_rfl) (hp.ext hx1) hx, binS_rem (by decide), Int.tmod_eq_emod_of_nonneg hx8.1, conv_int T.t_uint8.u T.t_int.u, wrap_i64 (by omega) (by omega)]
      simp only [binS_add]
      rw [wrap_i64 (by omega) (by omega)]
      exact hJ _ _ ⟨by rw [if_pos hil, List.getD_eq_getElem?_getD, hx]; rfl, rfl⟩
  · rintro out _ w1 kk ⟨hx1, rfl, g, hg, hm⟩
    simp only [binS_lss, split_dec]
    exact ⟨fun h => by omega, fun _ => ⟨hx1, g, hg, hm⟩⟩
end Go.Proofs.YtahhkeljejfgfaaDoor
