/-
  The elements of the slices that come in: integers, and acts of three integers.
-/
import Derived.Test.YtohngmegombfgaaOpen
namespace Go.Proofs.Ytohngmegombfgaa
open Go.RowKit

section
variable {H : Type} {enc : TypeId × Value → H} {w : World} {base : Nat} {spare : Nat → Bool} {held : Bool}
theorem int_cells {n : Nat} {cs : List Value} {y : DataW H × List MemPlace} (h : DataW.trod enc Try.prog w base spare held n 3 cs = some y) : IntCells cs := by
  obtain ⟨x, h1, _, h2⟩ := Go.DataW.trod_int Try.underlying3 h
  exact ⟨x, h1, h2⟩

theorem act_cells {n : Nat} {cs : List Value} {y : DataW H × List MemPlace} (h : DataW.trod enc Try.prog w base spare held n 34 cs = some y) : ActCells cs := by
  obtain ⟨y0, y1, y2, m, _, hl, h0, h1, h2⟩ := Go.Deep.trod_struct3 Try.underlying34 h
  have hc : Try.prog.cellsOf 34 = 3 := by kernel_rfl
  have hc1 : Try.prog.cellsOf 3 = 1 := by kernel_rfl
  rw [hc] at hl
  match cs, hl with
  | [c0, c1, c2], _ =>
    simp only [hc1, List.drop_zero, List.take_succ_cons, List.take_zero, List.drop_succ_cons] at h0 h1 h2
    obtain ⟨x0, e0, _, w0⟩ := Go.DataW.trod_int Try.underlying3 h0
    obtain ⟨x1, e1, _, w1⟩ := Go.DataW.trod_int Try.underlying3 h1
    obtain ⟨x2, e2, _, w2⟩ := Go.DataW.trod_int Try.underlying3 h2
    simp only [List.cons.injEq, and_true] at e0 e1 e2
    subst e0 e1 e2
    exact ⟨x0, x1, x2, rfl, w0, w1, w2⟩
end

end Go.Proofs.Ytohngmegombfgaa
