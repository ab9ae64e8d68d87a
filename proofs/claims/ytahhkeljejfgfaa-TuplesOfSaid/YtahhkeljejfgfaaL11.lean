/- Slices: an element put in, an element taken out; the least. -/
import Derived.Test.YtahhkeljejfgfaaL10
import Derived.Test.YtahhkeljejfgfaaM2
import Derived.Test.YtahhkeljejfgfaaKl
namespace Go.Proofs.Ytahhkeljejfgfaa
open Go Go.Vc Go.RowKit Go.Proofs Go.Proofs.Try
set_option maxRecDepth 100000

theorem cells_of_take {k : IntKind} {cs : List Value} {l : List Int} (h : cs.take l.length = ints k l) {j : Nat} (hj : j < l.length) : cs[j]? = (ints k l)[j]? := by
  rw [← h, List.getElem?_take_of_lt hj]

theorem size_int (w : World) : (Go.sizeOf T.t_int).run prog w = .ok 1 w := by
  obtain ⟨i, hi, hs, _⟩ := T.t_int.i
  simp [sizeOf, typeInfo, hi, hs]
end Go.Proofs.Ytahhkeljejfgfaa

