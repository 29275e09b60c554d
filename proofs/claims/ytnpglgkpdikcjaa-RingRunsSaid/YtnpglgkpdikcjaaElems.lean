/-
  What comes in: acts of three integers, a pair of integers.
-/
import Derived.Test.YtnpglgkpdikcjaaOpen
import Derived.ChangeSame
namespace Go.Proofs.Ytnpglgkpdikcjaa
open Go.RowKit Go.WideShapes Go.ChangeShapes

section
variable {H : Type} {enc : TypeId × Value → H} {w : World} {base : Nat} {spare : Nat → Bool} {held : Bool}

theorem act_cells {n : Nat} {cs : List Value} {y : DataW H × List MemPlace} (h : DataW.trod enc Try.prog w base spare held n 30 cs = some y) : ActCells cs := by
  obtain ⟨y0, y1, y2, m, _, hl, h0, h1, h2⟩ := Go.Deep.trod_struct3 Try.underlying30 h
  have hc : Try.prog.cellsOf 30 = 3 := by kernel_rfl
  have hc1 : Try.prog.cellsOf 3 = 1 := by kernel_rfl
  rw [hc] at hl
  match cs, hl with
  | [c0, c1, c2], _ =>
    simp only [hc1, List.drop_zero, List.take_succ_cons, List.take_zero, List.drop_succ_cons] at h0 h1 h2
    obtain ⟨x0, e0, _, w0⟩ := Go.DataW.trod_int Try.underlying3 h0
    obtain ⟨x1, e1, _, w1⟩ := Go.DataW.trod_int Try.underlying3 h1
    obtain ⟨x2, e2, _, w2⟩ := Go.DataW.trod_int Try.underlying3 h2
    simp only [List.cons.injEq, and_true] at e0 e1 e2
    subst e0 e1 e2
    exact ⟨x0, x1, x2, rfl, w0, w1, w2⟩

theorem trod_array2 {P : Program} {t e : TypeId} {fuel : Nat} {c0 c1 : Value} {x : DataW H × List MemPlace} (ht : P.underlying t = some (.array 2 e)) (hce : P.cellsOf e = 1)
    (h : DataW.trod enc P w base spare held fuel t [c0, c1] = some x) :
    ∃ y0 y1 n, DataW.trod enc P w base spare held n e [c0] = some y0 ∧ DataW.trod enc P w base spare held n e [c1] = some y1 := by
  cases fuel with
  | zero => simp [DataW.trod] at h
  | succ n =>
    unfold DataW.trod at h
    rw [ht] at h
    have r2 : List.range 2 = [0, 1] := rfl
    simp [r2, hce] at h
    obtain ⟨_, h⟩ := h
    cases h0 : DataW.trod enc P w base spare held n e [c0] with
    | none => simp [h0] at h
    | some y0 =>
      cases h1 : DataW.trod enc P w base spare held n e [c1] with
      | none => simp [h0, h1] at h
      | some y1 => exact ⟨y0, y1, n, h0, h1⟩

/-- A pair, by value. -/
theorem open_pair {r : Reach} {b0 : Nat} {v : Value} {d : DataW H} {p : List MemPlace} (hv : Value.okWide Try.prog w r b0 23 v) (h : DataW.Trod enc Try.prog w base spare held 23 v d p) :
    ∃ a b : Int, v = .agg #[.int .i64 a, .int .i64 b] ∧ (Lit.int .i64 a).wf = true ∧ (Lit.int .i64 b).wf = true := by
  simp only [Value.okWide, Try.underlying23] at hv
  obtain ⟨cs, rfl, hsz, _⟩ := hv
  have hc : Try.prog.cellsOf 23 = 2 := by kernel_rfl
  rw [hc] at hsz
  obtain ⟨l⟩ := cs
  obtain ⟨fuel, hf⟩ := h
  match l, hsz with
  | [c0, c1], _ =>
    have hf' : DataW.trod enc Try.prog w base spare held fuel 23 [c0, c1] = some (d, p) := by simpa [Value.cells] using hf
    obtain ⟨y0, y1, n, h0, h1⟩ := trod_array2 Try.underlying23 (by kernel_rfl) hf'
    obtain ⟨x0, e0, _, w0⟩ := Go.DataW.trod_int Try.underlying3 h0
    obtain ⟨x1, e1, _, w1⟩ := Go.DataW.trod_int Try.underlying3 h1
    simp only [List.cons.injEq, and_true] at e0 e1
    subst e0 e1
    exact ⟨x0, x1, rfl, w0, w1⟩
end

end Go.Proofs.Ytnpglgkpdikcjaa
