/-
  The contracts of 'Splice' and 'Part' of package haycockref15, whatever comes in.
-/
import Derived.Test.YtnpglgkpdikcjaaRef15E
namespace Go.Proofs.Ytnpglgkpdikcjaa
open Go.RowKit
set_option linter.unusedVariables false

theorem r15_splice (w : World) (B : Nat) (v : Value) (n : Nat) (N P : List Nat) (W : List (List Nat)) (hst : Rings n N P W) (hn : n < 60000) (h : WR B w v W) (hB : B ≤ w.heap.size) (x y : Int) :
    Calls Try.prog 21 #[v, .int .i64 x, .int .i64 y] w fun e w' => ∃ v', e = .returned (.tuple #[v', .bool (spliceZ W x y).2]) ∧ WR B w' v' (spliceZ W x y).1 ∧ Below w.heap.size w w' := by
  by_cases hx : (x < 0 ∨ (n : Int) ≤ x) ∨ (y < 0 ∨ (n : Int) ≤ y)
  · refine (r15_splice_no w B v n N P W hst hn h hB x y hx).mono ?_
    rintro e w' ⟨rfl, hb⟩
    rw [hst.splice_no hx]
    exact ⟨v, rfl, h.below hb, hb⟩
  · obtain ⟨i, rfl⟩ := Int.eq_ofNat_of_zero_le (show 0 ≤ x by omega)
    obtain ⟨j, rfl⟩ := Int.eq_ofNat_of_zero_le (show 0 ≤ y by omega)
    have hi : i < n := by omega
    have hj : j < n := by omega
    have h2 := (hst.splice hi hj).1
    rw [h2]
    by_cases e : i = j
    · subst e
      refine (r15_splice_self w B v n N P W hst hn h hB i hi).mono ?_
      rintro e w' ⟨rfl, hb⟩
      obtain ⟨l, r, h1, h2, h3, h4, h5, h6, h7⟩ := hst.home hi
      have hself : (spliceZ W i i).1 = W := by simp [spliceZ, h3]
      rw [hself]
      exact ⟨v, rfl, h.below hb, hb⟩
    · have e' : ¬ ((i : Int) = (j : Int)) := by omega
      obtain ⟨lx, rx, _, _, hax, _, hndx, _⟩ := hst.home hi
      obtain ⟨ly, ry, _, _, hay, _⟩ := hst.home hj
      cases hf : (allZ W i).findIdx? (isI j) with
      | none =>
        refine (r15_splice_join w B v n N P W hst hn h hB i j hi hj e hf).mono ?_
        rintro e w' ⟨v', rfl, hw, hb⟩
        have hsp : (spliceZ W i j).1 = withoutZ W i j ++ [i :: (allZ W j).tail ++ j :: (allZ W i).tail] := by
          simp only [spliceZ, e', hax, hay, Int.toNat_natCast]
          rw [hax] at hf
          simp [hf]
        rw [hsp]
        exact ⟨v', rfl, hw, hb⟩
      | some k =>
        have hmem : j ∈ allZ W i := by
          have hs : ((allZ W i).findIdx? (isI j)).isSome := by rw [hf]; rfl
          rw [List.findIdx?_isSome, any_isI] at hs
          simpa using hs
        rw [hax] at hmem
        have hyrx : j ∈ rx := by
          simp only [List.mem_cons] at hmem
          rcases hmem with h1 | h1
          · exact absurd h1.symm e
          · exact h1
        obtain ⟨s, t, est, hys, _⟩ := split_at hyrx
        subst est
        refine (r15_splice_cut w B v n N P W hst hn h hB i j hi hj e s t hax hys).mono ?_
        rintro e2 w' ⟨v', rfl, hw, hb⟩
        have hfi : (i :: (s ++ j :: t)).findIdx? (isI j) = some (s.length + 1) := by
          have := findIdx_some (s := i :: s) (t := t) (y := j) (by simp only [List.mem_cons, not_or]; exact ⟨fun h => e h.symm, hys⟩)
          simpa using this
        have hd1 : (i :: (s ++ j :: t)).drop (s.length + 1 + 1) = t := by simp
        have hd2 : ((i :: (s ++ j :: t)).take (s.length + 1)).tail = s := by simp
        have hsp : (spliceZ W i j).1 = withoutZ W i j ++ [i :: t, j :: s] := by
          simp only [spliceZ, hax, hay, hfi, hd1, hd2, e', Int.toNat_natCast]
          simp
        rw [hsp]
        exact ⟨v', rfl, hw, hb⟩

theorem r15_part (w : World) (B : Nat) (v : Value) (n : Nat) (N P : List Nat) (W : List (List Nat)) (hst : Rings n N P W) (hn : n < 60000) (h : WR B w v W) (hB : B ≤ w.heap.size) (x : Int) :
    Calls Try.prog 22 #[v, .int .i64 x] w fun e w' => ∃ v', e = .returned (.tuple #[v', .bool (partZ W x).2]) ∧ WR B w' v' (partZ W x).1 ∧ Below w.heap.size w w' := by
  by_cases hx : x < 0 ∨ (n : Int) ≤ x
  · refine (r15_part_no w B v n N P W hst hn h hB x hx).mono ?_
    rintro e w' ⟨rfl, hb⟩
    rw [hst.part_no hx]
    exact ⟨v, rfl, h.below hb, hb⟩
  · obtain ⟨i, rfl⟩ := Int.eq_ofNat_of_zero_le (show 0 ≤ x by omega)
    have hi : i < n := by omega
    rw [(hst.part hi).1]
    obtain ⟨lx, rx, _, _, hax, _⟩ := hst.home hi
    by_cases h1 : rx = []
    · subst h1
      refine (r15_part_one w B v n N P W hst hn h hB i (by rw [hax]; rfl)).mono ?_
      rintro e w' ⟨rfl, hb⟩
      have hself : (partZ W i).1 = W := by simp [partZ, hax]
      rw [hself]
      exact ⟨v, rfl, h.below hb, hb⟩
    · have hne : ¬ (i :: rx).length = 1 := by simp [h1]
      refine (r15_part_more w B v n N P W hst hn h hB i rx hax (List.length_pos_iff.2 h1)).mono ?_
      rintro e w' ⟨v', rfl, hw, hb⟩
      have hsp : (partZ W i).1 = withoutZ W i i ++ [[i], rx] := by
        simp only [partZ, hax, if_neg hne, Int.toNat_natCast]
        simp
      rw [hsp]
      exact ⟨v', rfl, hw, hb⟩

end Go.Proofs.Ytnpglgkpdikcjaa
