/-
  Rings in plain Lean, the rest: what the laws ask.
-/
import Derived.Test.YtnpglgkpdikcjaaRingPlain
namespace Go.Proofs.Ytnpglgkpdikcjaa
set_option linter.unusedVariables false

section
variable {n : Nat} {N P : List Nat} {w : List (List Nat)}

/-- Whoever is in a ring with x is told with x. -/
theorem Rings.told (h : Rings n N P w) {x : Nat} (hx : x < n) {l : List Nat} (hl : l ∈ w) (hxl : x ∈ l) (z : Nat) : z ∈ allZ w x ↔ z ∈ l := by
  obtain ⟨l', r, h1, h2, h3, h4, h5, h6, h7⟩ := h.home hx
  rw [h3, h6, uniq h.nd h1 hl h2 hxl]

theorem Rings.told_len (h : Rings n N P w) {x : Nat} (hx : x < n) {l : List Nat} (hl : l ∈ w) (hxl : x ∈ l) : (allZ w x).length = l.length := by
  obtain ⟨l', r, h1, h2, h3, h4, h5, h6, h7⟩ := h.home hx
  have e := uniq h.nd h1 hl h2 hxl
  subst e
  rw [h3]
  exact ((List.perm_ext_iff_of_nodup h5 (nodup_of h.nd h1)).2 h6).length_eq

theorem Rings.flip (h : Rings n N P w) {x y : Nat} (hx : x < n) (hy : y < n) (hxy : x ≠ y) : (allZ (spliceZ w x y).1 x).any (isI y) = !(allZ w x).any (isI y) := by
  have hs := (h.splice hx hy).2
  obtain ⟨lx, rx, hlx, hxl, hax, hpx, hndx, hmx, hbx⟩ := h.home hx
  obtain ⟨ly, ry, hly, hyl, hay, hpy, hndy, hmy, hby⟩ := h.home hy
  have e' : ¬ ((x : Int) = (y : Int)) := by omega
  rw [any_isI, any_isI]
  by_cases hy2 : y ∈ allZ w x
  · rw [hax] at hy2
    have hyrx : y ∈ rx := by
      simp only [List.mem_cons] at hy2
      rcases hy2 with h1 | h1
      · exact absurd h1.symm hxy
      · exact h1
    obtain ⟨s, t, est, hys, _⟩ := split_at hyrx
    subst est
    have hfi : (x :: (s ++ y :: t)).findIdx? (isI y) = some (s.length + 1) := by
      have := findIdx_some (s := x :: s) (t := t) (y := y) (by simp only [List.mem_cons, not_or]; exact ⟨fun h => hxy h.symm, hys⟩)
      simpa using this
    have hyt : y ∉ t := by
      have hnd2 := (List.nodup_cons.1 hndx).2
      rw [List.nodup_append] at hnd2
      exact (List.nodup_cons.1 hnd2.2.1).1
    have hd1 : (x :: (s ++ y :: t)).drop (s.length + 1 + 1) = t := by simp
    have hd2 : ((x :: (s ++ y :: t)).take (s.length + 1)).tail = s := by simp
    have hsp : (spliceZ w x y).1 = withoutZ w x y ++ [x :: t, y :: s] := by
      simp only [spliceZ, hax, hay, hfi, hd1, hd2, e', Int.toNat_natCast]
      simp
    have ht := hs.told hx (l := x :: t) (by rw [hsp]; simp) (by simp) y
    have h1 : decide (y ∈ allZ (spliceZ w x y).1 x) = false := by
      rw [decide_eq_false_iff_not, ht]
      simp only [List.mem_cons, not_or]
      exact ⟨fun e => hxy e.symm, hyt⟩
    have h2 : decide (y ∈ allZ w x) = true := by rw [decide_eq_true_iff, hax]; exact hy2
    rw [h1, h2]; rfl
  · have h2 : decide (y ∈ allZ w x) = false := by rw [decide_eq_false_iff_not]; exact hy2
    rw [hax] at hy2
    have hfi : (x :: rx).findIdx? (isI y) = none := findIdx_none hy2
    have hsp : (spliceZ w x y).1 = withoutZ w x y ++ [x :: ry ++ y :: rx] := by
      simp only [spliceZ, hax, hay, hfi, e', Int.toNat_natCast]
      simp
    have ht := hs.told hx (l := x :: ry ++ y :: rx) (by rw [hsp]; simp) (by simp) y
    have h1 : decide (y ∈ allZ (spliceZ w x y).1 x) = true := by
      rw [decide_eq_true_iff, ht]
      simp
    rw [h1, h2]; rfl

theorem Rings.part_alone (h : Rings n N P w) {x : Nat} (hx : x < n) : allZ (partZ w x).1 x = [x] := by
  have hs := (h.part hx).2
  obtain ⟨lx, rx, hlx, hxl, hax, hpx, hndx, hmx, hbx⟩ := h.home hx
  obtain ⟨l', r', h1', h2', h3', h4', h5', h6', h7'⟩ := hs.home hx
  by_cases h1 : rx = []
  · subst h1
    have : (partZ w x).1 = w := by simp [partZ, hax]
    rw [this, hax]
  · have hne : ¬ (x :: rx).length = 1 := by simp [h1]
    have hsp : (partZ w x).1 = withoutZ w x x ++ [[x], rx] := by
      simp only [partZ, hax, if_neg hne, Int.toNat_natCast]
      simp
    have ht := hs.told_len hx (l := [x]) (by rw [hsp]; simp) (by simp)
    rw [h3'] at ht ⊢
    simp at ht
    rw [ht]

theorem Rings.mem_all (h : Rings n N P w) {x : Nat} (hx : x < n) : (allZ w x).Nodup ∧ 1 ≤ (allZ w x).length ∧ ∀ y ∈ allZ w x, y < n ∧ (allZ w y).length = (allZ w x).length := by
  obtain ⟨lx, rx, hlx, hxl, hax, hpx, hndx, hmx, hbx⟩ := h.home hx
  refine ⟨by rw [hax]; exact hndx, by rw [hax]; simp, fun y hy => ?_⟩
  rw [h.told hx hlx hxl] at hy
  have hyn : y < n := (h.mem y).1 (List.mem_flatten.2 ⟨lx, hlx, hy⟩)
  exact ⟨hyn, by rw [h.told_len hyn hlx hy, h.told_len hx hlx hxl]⟩

theorem alone_all (n x : Nat) (hx : x < n) : allZ ((List.range n).map fun i => [i]) x = [x] := by
  have h := Rings.new n
  obtain ⟨lx, rx, hlx, hxl, hax, hpx, hndx, hmx, hbx⟩ := h.home hx
  have ht := h.told_len hx (l := [x]) (by simp [hx]) (by simp)
  rw [hax] at ht ⊢
  simp at ht
  rw [ht]
end

end Go.Proofs.Ytnpglgkpdikcjaa
