/-
  What comes in: handles, bools.
-/
import Derived.Test.YtoifnljlnpkodaaOpen
import Derived.ChangeSame
namespace Go.Proofs.Ytoifnljlnpkodaa
open Go.RowKit Go.WideShapes Go.ChangeShapes

/-- One bool. -/
def BoolCells (cs : List Value) : Prop := ∃ x : Bool, cs = [.bool x]
/-- An act: a kind and a handle. -/
def HandleCells (cs : List Value) : Prop := ∃ x y z : Int, cs = [.int .i64 x, .int .i64 y, .int .u32 z] ∧ (Lit.int .i64 x).wf = true ∧ (Lit.int .i64 y).wf = true ∧ (Lit.int .u32 z).wf = true

section
variable {H : Type} {enc : TypeId × Value → H} {w : World} {base : Nat} {spare : Nat → Bool} {held : Bool}

theorem handle_trod {n : Nat} {cs : List Value} {y : DataW H × List MemPlace} (h : DataW.trod enc Try.prog w base spare held n 30 cs = some y) : ∃ a b : Int, cs = [.int .i64 a, .int .u32 b] ∧ (Lit.int .i64 a).wf = true ∧ (Lit.int .u32 b).wf = true := by
  obtain ⟨y0, y1, m, _, hl, h0, h1⟩ := trod_struct2 Try.underlying30 h
  have hc : Try.prog.cellsOf 30 = 2 := by kernel_rfl
  have hc1 : Try.prog.cellsOf 3 = 1 := by kernel_rfl
  have hc2 : Try.prog.cellsOf 26 = 1 := by kernel_rfl
  rw [hc] at hl
  match cs, hl with
  | [c0, c1], _ =>
    simp only [hc1, hc2, List.drop_zero, List.take_succ_cons, List.take_zero, List.drop_succ_cons] at h0 h1
    obtain ⟨x0, e0, _, w0⟩ := Go.DataW.trod_int Try.underlying3 h0
    obtain ⟨x1, e1, _, w1⟩ := Go.DataW.trod_int Try.underlying26 h1
    simp only [List.cons.injEq, and_true] at e0 e1
    subst e0 e1
    exact ⟨x0, x1, rfl, w0, w1⟩

/-- A handle, by value. -/
theorem open_handle {r : Reach} {b0 : Nat} {v : Value} {d : DataW H} {p : List MemPlace} (hv : Value.okWide Try.prog w r b0 30 v) (h : DataW.Trod enc Try.prog w base spare held 30 v d p) :
    ∃ a b : Int, v = .agg #[.int .i64 a, .int .u32 b] ∧ (Lit.int .i64 a).wf = true ∧ (Lit.int .u32 b).wf = true := by
  obtain ⟨cs, rfl, hsz⟩ := okWide_struct Try.underlying30 hv
  obtain ⟨l⟩ := cs
  obtain ⟨fuel, hf⟩ := h
  obtain ⟨a, b, e, w0, w1⟩ := handle_trod (by simpa [Value.cells] using hf)
  subst e
  exact ⟨a, b, rfl, w0, w1⟩

theorem bool_cells {n : Nat} {cs : List Value} {y : DataW H × List MemPlace} (h : DataW.trod enc Try.prog w base spare held n 4 cs = some y) : BoolCells cs := by
  obtain ⟨x, h1, _⟩ := Go.DataW.trod_bool Try.underlying4 h
  exact ⟨x, h1⟩

theorem handle_cells {n : Nat} {cs : List Value} {y : DataW H × List MemPlace} (h : DataW.trod enc Try.prog w base spare held n 46 cs = some y) : HandleCells cs := by
  obtain ⟨y0, y1, m, _, hl, h0, h1⟩ := trod_struct2 Try.underlying46 h
  have hc : Try.prog.cellsOf 46 = 3 := by kernel_rfl
  have hc1 : Try.prog.cellsOf 3 = 1 := by kernel_rfl
  have hc2 : Try.prog.cellsOf 30 = 2 := by kernel_rfl
  rw [hc] at hl
  match cs, hl with
  | [c0, c1, c2], _ =>
    simp only [hc1, hc2, List.drop_zero, List.take_succ_cons, List.take_zero, List.drop_succ_cons] at h0 h1
    obtain ⟨x0, e0, _, w0⟩ := Go.DataW.trod_int Try.underlying3 h0
    obtain ⟨a, b, e1, w1, w2⟩ := handle_trod h1
    simp only [List.cons.injEq, and_true] at e0 e1
    obtain ⟨rfl, rfl⟩ := e1
    subst e0
    exact ⟨x0, a, b, rfl, w0, w1, w2⟩
end

end Go.Proofs.Ytoifnljlnpkodaa
