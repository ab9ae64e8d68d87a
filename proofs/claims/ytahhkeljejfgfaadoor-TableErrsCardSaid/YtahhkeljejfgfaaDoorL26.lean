/- The document's place of a variable. -/
import Derived.Test.YtahhkeljejfgfaaDoorL25
namespace Go.Proofs.YtahhkeljejfgfaaDoor
open Go Go.Vc Go.RowKit Go.Proofs Go.Proofs.Tryd
set_option maxRecDepth 100000

theorem rFind {sv : Value} {l : List Int} {x : Int} {w : World} (h : LS .i64 w sv l) (hu : Up l) :
    Cal prog F.ref04_find [sv, .int .i64 x] w fun v w' => v = .int .i64 (idxI l x) ∧ Ext w w' := by
  apply ref04_find.enter
  unfold ref04_find.body
  rw [len_ls T.t_sl_int.u h]
  refine Loop2.range l.length (fun i _ w1 => Ext w w1 ∧ ∀ j, j < i → l[j]? ≠ some x) h.le ⟨Ext.refl _, fun j hj => by omega⟩ ?_ ?_
  · rintro i _ w1 k hi ⟨hx1, hno⟩ hk
    simp only [binS_lss, split_dec]
    refine ⟨fun _ => ?_, fun h => by omega⟩
    obtain ⟨y, hy⟩ : ∃ y, l[i]? = some y := ⟨_, List.getElem?_eq_getElem hi⟩
    rw [get_ls T.t_sl_int.u T.t_int.i (by kernel_rfl) (h.ext hx1) hy]
    simp only [binS_eql, split_dec, binS_add]
    refine ⟨fun he => ⟨?_, hx1⟩, fun he => hk _ _ ⟨hx1, fun j hj => ?_⟩⟩
    · subst he; rw [idxI_at hu hy]
    · by_cases hj2 : j = i
      · subst hj2; rw [hy]; intro h; exact he (Option.some.inj h)
      · exact hno j (by omega)
  · rintro _ w1 k ⟨hx1, hno⟩
    simp only [binS_lss, split_dec]
    refine ⟨fun h => by omega, fun _ => ⟨?_, hx1⟩⟩
    rw [idxI_none]
    intro hm
    obtain ⟨i, hi, he⟩ := List.getElem_of_mem hm
    exact hno i hi (by rw [List.getElem?_eq_getElem hi, he])
end Go.Proofs.YtahhkeljejfgfaaDoor
