/-
  The contracts of package names: what each method leaves of a 'Names' in memory.
-/
import Derived.Test.YtohngmegombfgaaRows
import Derived.Test.YtohngmegombfgaaHeap
import Derived.Test.YtohngmegombfgaaPlain
import Derived.WalkLawsBesides
import Derived.WalkSpells
import Derived.Deep.QuietTactic
import Derived.BigQuiet
import Derived.StillTailTactics
import Derived.RegionTactic
import Derived.BigRegion
import Derived.Outline
import Derived.Lib.Hide
namespace Go.Proofs.Ytohngmegombfgaa
open Go.RowKit

/-- In memory at block p: a 'Names' whose row is at block g. -/
structure NamesAt (w : World) (p g cap : Nat) (L : List Int) (most cnt : Int) : Prop where
  blk : w.heap[p]? = some (.cells #[.slice (some ⟨g, 0, none⟩) L.length cap, .int .i64 most, .int .i64 cnt] 51 (0, 0))
  row : w.ownsRow 0 3 1 (.slice (some ⟨g, 0, none⟩) L.length cap) L.length (L.map fun n => .int .i64 n)
  ne : g ≠ p

theorem made_yes (w : World) (p g cap : Nat) (L : List Int) (most cnt id : Int) (h : NamesAt w p g cap L most cnt) (h1 : 0 < id) (h2 : id < L.length) :
    Calls Try.prog 21 #[.pointer (some ⟨p, 0, none⟩), .int .i64 id] w fun e w' => e = .returned (.bool true) ∧ w = w' := by
  have c0 : w.cell? ⟨p, 0, none⟩ = some (.slice (some ⟨g, 0, none⟩) L.length cap) := by rw [cell_of_blk h.blk]; rfl
  go_enter Try.func21, Try.ntmps21
  go_wp2
  go_ret
  exact ⟨rfl, rfl⟩

theorem made_no (w : World) (p g cap : Nat) (L : List Int) (most cnt id : Int) (h : NamesAt w p g cap L most cnt) (h1 : ¬ (0 < id ∧ id < L.length)) :
    Calls Try.prog 21 #[.pointer (some ⟨p, 0, none⟩), .int .i64 id] w fun e w' => e = .returned (.bool false) ∧ w = w' := by
  have c0 : w.cell? ⟨p, 0, none⟩ = some (.slice (some ⟨g, 0, none⟩) L.length cap) := by rw [cell_of_blk h.blk]; rfl
  by_cases h0 : 0 < id
  · have h2 : (L.length : Int) ≤ id := by omega
    clear h1
    go_enter Try.func21, Try.ntmps21
    go_wp2
    go_ret
    exact ⟨by simp; omega, rfl⟩
  · clear h1
    go_enter Try.func21, Try.ntmps21
    go_wp2
    go_ret
    exact ⟨rfl, rfl⟩

theorem last_calls (w : World) (p g cap : Nat) (L : List Int) (most cnt : Int) (h : NamesAt w p g cap L most cnt) (h0 : 0 < L.length) (hl : L.length < 70000) :
    Calls Try.prog 10 #[.pointer (some ⟨p, 0, none⟩)] w fun e w' => e = .returned (.int .i64 (L.length - 1)) ∧ w = w' := by
  have c0 : w.cell? ⟨p, 0, none⟩ = some (.slice (some ⟨g, 0, none⟩) L.length cap) := by rw [cell_of_blk h.blk]; rfl
  go_enter Try.func10, Try.ntmps10
  go_wp2
  go_ret
  exact ⟨rfl, rfl⟩

theorem count_calls (w : World) (p g cap : Nat) (L : List Int) (most cnt : Int) (h : NamesAt w p g cap L most cnt) :
    Calls Try.prog 11 #[.pointer (some ⟨p, 0, none⟩)] w fun e w' => e = .returned (.int .i64 cnt) ∧ w = w' := by
  have c0 : w.cell? ⟨p, 2, none⟩ = some (.int .i64 cnt) := by rw [cell_of_blk h.blk]; rfl
  go_enter Try.func11, Try.ntmps11
  go_wp2
  go_ret
  exact ⟨rfl, rfl⟩

theorem getElem_of_getD {L : List Int} {i : Nat} {x : Int} (h2 : i < L.length) (h3 : L.getD i 0 = x) : L[i]? = some x := by
  rw [← h3]; simp [List.getD, h2]

theorem NamesAt.cell {w : World} {p g cap : Nat} {L : List Int} {most cnt : Int} (h : NamesAt w p g cap L most cnt) (i : Nat) (h2 : i < L.length) :
    w.cell? ⟨g, i, none⟩ = some (.int .i64 (L.getD i 0)) := by
  rw [h.row.cellAt i (by simpa using h2), List.getElem?_map, getElem_of_getD h2 rfl]; rfl

theorem has_yes (w : World) (p g cap : Nat) (L : List Int) (most cnt : Int) (i : Nat) (h : NamesAt w p g cap L most cnt) (h1 : 0 < i) (h2 : i < L.length) (h3 : L.getD i 0 = i) :
    Calls Try.prog 12 #[.pointer (some ⟨p, 0, none⟩), .int .i64 i] w fun e w' => e = .returned (.bool true) ∧ w = w' := by
  have c0 : w.cell? ⟨p, 0, none⟩ = some (.slice (some ⟨g, 0, none⟩) L.length cap) := by rw [cell_of_blk h.blk]; rfl
  have c1 : w.cell? ⟨g, i, none⟩ = some (.int .i64 i) := by rw [h.cell i h2, h3]
  clear h3
  go_enter Try.func12, Try.ntmps12
  go_wp2_with (go_at_call 21; refine (made_yes _ _ _ _ _ _ _ _ h (by omega) (by omega)).mono ?_; rintro e w' ⟨rfl, rfl⟩)
  go_ret
  exact ⟨rfl, rfl⟩

theorem has_no (w : World) (p g cap : Nat) (L : List Int) (most cnt id : Int) (h : NamesAt w p g cap L most cnt) (h1 : ¬ (0 < id ∧ id < L.length ∧ L.getD id.toNat 0 = id)) :
    Calls Try.prog 12 #[.pointer (some ⟨p, 0, none⟩), .int .i64 id] w fun e w' => e = .returned (.bool false) ∧ w = w' := by
  have c0 : w.cell? ⟨p, 0, none⟩ = some (.slice (some ⟨g, 0, none⟩) L.length cap) := by rw [cell_of_blk h.blk]; rfl
  by_cases h0 : 0 < id ∧ id < L.length
  · obtain ⟨ha, hb⟩ := h0
    obtain ⟨i, rfl⟩ := Int.eq_ofNat_of_zero_le (show 0 ≤ id by omega)
    have c1 := h.cell i (by omega)
    obtain ⟨x, hx⟩ : ∃ x, x = L.getD i 0 := ⟨_, rfl⟩
    have hne : (x == (i : Int)) = false := by
      rw [beq_eq_false_iff_ne]; intro e; exact h1 ⟨ha, hb, by rw [Int.toNat_natCast, ← hx]; exact e⟩
    rw [← hx] at c1
    clear h1 hx
    go_enter Try.func12, Try.ntmps12
    go_wp2_with (go_at_call 21; refine (made_yes _ _ _ _ _ _ _ _ h (by omega) (by omega)).mono ?_; rintro e w' ⟨rfl, rfl⟩)
    go_ret
    exact ⟨rfl, rfl⟩
  · have H := Lib.hid h0
    clear h1 h0
    go_enter Try.func12, Try.ntmps12
    go_wp2_with (go_at_call 21; refine (made_no _ _ _ _ _ _ _ _ h H.out).mono ?_; rintro e w' ⟨rfl, rfl⟩)
    go_ret
    exact ⟨rfl, rfl⟩

theorem Try.infoInt : (Try.prog.info? 3).map (fun i => (i.zero, i.size, i.bytes)) = some (some (.int .i64 0), 1, 8) := by kernel_rfl

theorem NamesAt.drewN {w : World} {p g cap : Nat} {L : List Int} {most cnt : Int} (h : NamesAt w p g cap L most cnt) (n : Nat) : NamesAt (w.drewN n) p g cap L most cnt :=
  ⟨h.blk, h.row, h.ne⟩

theorem make_no (w : World) (p g cap : Nat) (L : List Int) (most cnt : Int) (h : NamesAt w p g cap L most cnt) (h0 : 0 < L.length) (hl : L.length < 70000) (hm : most = L.length - 1) :
    Calls Try.prog 13 #[.pointer (some ⟨p, 0, none⟩)] w fun e w' => e = .returned (.tuple #[.int .i64 0, .bool false]) ∧ ∃ n, w' = w.drewN n := by
  have c1 : w.cell? ⟨p, 1, none⟩ = some (.int .i64 most) := by rw [cell_of_blk h.blk]; rfl
  have hne : ((L.length : Int) - 1 == most) = true := by rw [beq_iff_eq]; omega
  clear hm
  go_enter Try.func13, Try.ntmps13
  go_wp2_with fail
  go_quiet ((go_at_call 10; refine Calls.quiet_of_same ((last_calls _ p g cap L most cnt (h.drewN _) (by omega) (by omega)).mono fun _ _ hh => ⟨hh.1, hh.2.symm⟩)))
  go_wp2
  go_ret2
  exact ⟨rfl, _, rfl⟩

def MadeOne (w : World) (p g : Nat) (L : List Int) (most cnt : Int) (w' : World) : Prop :=
  ∃ g' cap', NamesAt w' p g' cap' (L ++ [(L.length : Int)]) most (cnt + 1) ∧ Keeps [p, g] w w' ∧ (g' = g ∨ w.heap.size ≤ g')

theorem make_yes (w : World) (p g cap : Nat) (L : List Int) (most cnt : Int) (h : NamesAt w p g cap L most cnt) (h0 : 0 < L.length) (hl : L.length < 70000) (hm : (L.length : Int) ≤ most) (hc : -70000 < cnt) (hc' : cnt < 70000) :
    Calls Try.prog 13 #[.pointer (some ⟨p, 0, none⟩)] w fun e w' => e = .returned (.tuple #[.int .i64 L.length, .bool true]) ∧ MadeOne w p g L most cnt w' := by
  have c0 : w.cell? ⟨p, 0, none⟩ = some (.slice (some ⟨g, 0, none⟩) L.length cap) := by rw [cell_of_blk h.blk]; rfl
  have c1 : w.cell? ⟨p, 1, none⟩ = some (.int .i64 most) := by rw [cell_of_blk h.blk]; rfl
  have c2 : w.cell? ⟨p, 2, none⟩ = some (.int .i64 cnt) := by rw [cell_of_blk h.blk]; rfl
  have f0 : w.frozen? ⟨p, 0, none⟩ = false := frozen_of_blk h.blk
  have f2 : w.frozen? ⟨p, 2, none⟩ = false := frozen_of_blk h.blk
  have hp := lt_of_block h.blk
  have hne : ((L.length : Int) - 1 == most) = false := by rw [beq_eq_false_iff_ne]; omega
  go_enter Try.func13, Try.ntmps13
  go_wp2_with fail
  go_quiet ((go_at_call 10; refine Calls.quiet_of_same ((last_calls _ p g cap L most cnt (h.drewN _) (by omega) (by omega)).mono fun _ _ hh => ⟨hh.1, hh.2.symm⟩)))
  go_wp2_with (at_builtin; (refine wpList_push _ 3 (.int .i64 L.length) (0, 0) rfl _ _ 47 rfl (.int .i64 0) 8 Try.underlying47 Try.infoInt rfl rfl _ _ _ rfl (h.drewN nq).row rfl (by unfold maxLen; omega) (by omega) ?_))
  intro g' cap' w1 hr hk hf
  have hb1 := hk.blk h.blk (by simpa [Value.ownBlock] using h.ne.symm)
  have hlt := hk.size
  have hne' : g' ≠ p := by
    rcases hf with hf | hf
    · simp only [Value.ownBlock, Option.some.injEq] at hf; subst hf; exact h.ne
    · have hf2 : w.heap.size ≤ g' := hf
      omega
  have d0 : w1.cell? ⟨p, 0, none⟩ = some (.slice (some ⟨g, 0, none⟩) L.length cap) := by rw [cell_of_blk hb1]; rfl
  have d2 : w1.cell? ⟨p, 2, none⟩ = some (.int .i64 cnt) := by rw [cell_of_blk hb1]; rfl
  have e0 : w1.frozen? ⟨p, 0, none⟩ = false := frozen_of_blk hb1
  have e2 : w1.frozen? ⟨p, 2, none⟩ = false := frozen_of_blk hb1
  have hfin : MadeOne w p g L most cnt ((w1.setCell ⟨p, 0, none⟩ (.slice (some ⟨g', 0, none⟩) (L.length + 1) cap')).setCell ⟨p, 2, none⟩ (.int .i64 (cnt + 1))) := by
    have hk' : Keeps [p] w1 ((w1.setCell ⟨p, 0, none⟩ (.slice (some ⟨g', 0, none⟩) (L.length + 1) cap')).setCell ⟨p, 2, none⟩ (.int .i64 (cnt + 1))) :=
      ((Keeps.refl _ _).setCell (.inl (by simp)) _).setCell (.inl (by simp)) _
    refine ⟨g', cap', ⟨?_, ?_, hne'⟩, ?_, ?_⟩
    · rw [blk_setCell _ (blk_setCell _ hb1)]; simp
    · have := hk'.row hr (by simpa using hne')
      simpa using this
    · have hk0 : Keeps [p, g] w w1 := Keeps.mono (S := [g]) ⟨hk.os, hk.tape, hk.output, hk.size, hk.block⟩ (by simp)
      exact hk0.trans hk' (by simp)
    · rcases hf with hf | hf
      · simp only [Value.ownBlock, Option.some.injEq] at hf; exact .inl hf.symm
      · exact .inr hf
  clear hk hf hr hb1
  go_wp2
  go_ret2
  exact ⟨rfl, hfin⟩

theorem NamesAt.set {w : World} {p g cap : Nat} {L : List Int} {most cnt : Int} (h : NamesAt w p g cap L most cnt) (i : Nat) (x : Int) :
    NamesAt (w.setCell ⟨g, i, none⟩ (.int .i64 x)) p g cap (L.set i x) most cnt := by
  refine ⟨?_, ?_, h.ne⟩
  · rw [blk_setCell_ne _ (by simpa using h.ne.symm), List.length_set]; exact h.blk
  · have := (h.row.stored i (.int .i64 x)).1
    rwa [List.length_set, List.map_set]

def Rooted (w : World) (p g cap n : Nat) (R d : Nat → Nat) (most cnt : Int) (w' : World) : Prop :=
  ∃ L', L'.length = n ∧ NamesAt w' p g cap L' most cnt ∧ Good L' R d ∧ Keeps [g] w w'

theorem root_yes (w : World) (p g cap : Nat) (L : List Int) (R d : Nat → Nat) (most cnt : Int) (i : Nat) (h : NamesAt w p g cap L most cnt) (hg : Good L R d) (h1 : 0 < i) (h2 : i < L.length) :
    Calls Try.prog 17 #[.pointer (some ⟨p, 0, none⟩), .int .i64 i] w fun e w' => e = .returned (.tuple #[.int .i64 (R i), .bool true]) ∧ Rooted w p g cap L.length R d most cnt w' := by
  go_enter Try.func17, Try.ntmps17
  go_wp2_with (go_at_call 21; refine (made_yes _ _ _ _ _ _ _ _ h (by omega) (by omega)).mono ?_; rintro e w' ⟨rfl, rfl⟩)
  go_loopw [1] (fun s wr => ∃ k : Nat, 0 < k ∧ k < L.length ∧ s = .int .i64 k ∧ R k = R i ∧ Rooted w p g cap L.length R d most cnt wr) (fun s _ => d (intOf s).toNat)
  case atStart => exact ⟨i, h1, h2, rfl, rfl, L, rfl, h, hg, Keeps.refl _ _⟩
  case round =>
    obtain ⟨k, hk0, hk1, rfl, hR, L', hL', h', hg', hkeep⟩ := hrel
    have c0 : wr.cell? ⟨p, 0, none⟩ = some (.slice (some ⟨g, 0, none⟩) L.length cap) := by rw [cell_of_blk h'.blk, hL']; rfl
    have c1 := h'.cell k (by omega)
    have f1 : wr.frozen? ⟨g, k, none⟩ = false := h'.row.frozenAt k
    obtain ⟨j, hj, hjl, hst⟩ := hg'.step k (by omega)
    rw [hj] at c1
    by_cases hjk : j = k
    · subst hjk
      have hRk : R i = j := by
        rcases hst with ⟨_, e⟩ | ⟨e, _⟩
        · rw [← hR]; exact e
        · exact absurd rfl e
      have hfin : Rooted w p g cap L.length R d most cnt wr := ⟨L', hL', h', hg', hkeep⟩
      have HR := Lib.hid hRk
      clear hR hL' hj hst hRk hg' hkeep
      go_wp2
      go_ret2
      exact ⟨by rw [HR.out]; rfl, hfin⟩
    · have c2 := h'.cell j (by omega)
      obtain ⟨m, hm, hml, _⟩ := hg'.step j hjl
      rw [hm] at c2
      obtain ⟨hh, hm0, hm1, hm2, hm3⟩ := hg'.halve (by omega) hj hjk hm
      have hfin : Rooted w p g cap L.length R d most cnt (wr.drew.setCell ⟨g, k, none⟩ (.int .i64 m)) := by
        refine ⟨L'.set k m, by simpa using hL', ?_, hh, ?_⟩
        · exact NamesAt.set (w := wr.drew) ⟨h'.blk, h'.row, h'.ne⟩ k m
        · exact hkeep.drew.setCell (.inl (by simp)) _
      have hne : ((j : Int) != (k : Int)) = true := by rw [bne_iff_ne]; omega
      have hjl2 : j < L.length := by omega
      have HL := Lib.hid hL'
      have HR := Lib.hid (hm2.trans hR)
      have HD := Lib.hid hm3
      clear hL' hR hst hj hm hg' hkeep hh hm2 hm3 hjl hml
      go_wp2
      go_region
      go_wp2
      go_roundw
      case rel => exact ⟨m, hm0, by have := HL.out; omega, rfl, HR.out, hfin⟩
      case measure => simpa [intOf] using HD.out

theorem root_no (w : World) (p g cap : Nat) (L : List Int) (most cnt id : Int) (h : NamesAt w p g cap L most cnt) (h1 : ¬ (0 < id ∧ id < L.length)) :
    Calls Try.prog 17 #[.pointer (some ⟨p, 0, none⟩), .int .i64 id] w fun e w' => e = .returned (.tuple #[.int .i64 0, .bool false]) ∧ w = w' := by
  have H := Lib.hid h1
  clear h1
  go_enter Try.func17, Try.ntmps17
  go_wp2_with (go_at_call 21; refine (made_no _ _ _ _ _ _ _ _ h H.out).mono ?_; rintro e w' ⟨rfl, rfl⟩)
  go_ret2
  exact ⟨rfl, rfl⟩

/-- Both count as themselves, and they are two. -/
def CanJoin (L : List Int) (a b : Int) : Prop :=
  (0 < a ∧ a < L.length ∧ L.getD a.toNat 0 = a) ∧ (0 < b ∧ b < L.length ∧ L.getD b.toNat 0 = b) ∧ a ≠ b

theorem join_no (w : World) (p g cap : Nat) (L : List Int) (most cnt a b : Int) (h : NamesAt w p g cap L most cnt) (h1 : ¬ CanJoin L a b) :
    Calls Try.prog 16 #[.pointer (some ⟨p, 0, none⟩), .int .i64 a, .int .i64 b] w fun e w' => e = .returned (.bool false) ∧ w = w' := by
  by_cases ha : 0 < a ∧ a < L.length ∧ L.getD a.toNat 0 = a
  · by_cases hb : 0 < b ∧ b < L.length ∧ L.getD b.toNat 0 = b
    · have hab : a = b := Classical.not_not.1 fun h2 => h1 ⟨ha, hb, h2⟩
      subst hab
      clear h1 hb
      obtain ⟨ha0, ha1, ha2⟩ := ha
      obtain ⟨i, rfl⟩ := Int.eq_ofNat_of_zero_le (show 0 ≤ a by omega)
      have HA := Lib.hid (show L.getD i 0 = i by simpa using ha2)
      clear ha2
      go_enter Try.func16, Try.ntmps16
      go_wp2_with (go_at_call 12; refine (has_yes _ _ _ _ _ _ _ _ h (by omega) (by omega) HA.out).mono ?_; rintro e w' ⟨rfl, rfl⟩)
      go_ret
      exact ⟨rfl, rfl⟩
    · have HB := Lib.hid hb
      clear h1 hb
      obtain ⟨ha0, ha1, ha2⟩ := ha
      obtain ⟨i, rfl⟩ := Int.eq_ofNat_of_zero_le (show 0 ≤ a by omega)
      have HA := Lib.hid (show L.getD i 0 = i by simpa using ha2)
      clear ha2
      go_enter Try.func16, Try.ntmps16
      go_wp2_with fail
      refine (has_yes _ _ _ _ _ _ _ _ h (by omega) (by omega) HA.out).mono ?_
      rintro e w' ⟨rfl, rfl⟩
      go_wp2_with fail
      refine (has_no _ _ _ _ _ _ _ _ h HB.out).mono ?_
      rintro e w' ⟨rfl, rfl⟩
      go_wp2
      go_ret
      exact ⟨rfl, rfl⟩
  · have HA := Lib.hid ha
    clear h1 ha
    go_enter Try.func16, Try.ntmps16
    go_wp2_with (go_at_call 12; refine (has_no _ _ _ _ _ _ _ _ h HA.out).mono ?_; rintro e w' ⟨rfl, rfl⟩)
    go_ret
    exact ⟨rfl, rfl⟩

def Joined (w : World) (p g cap : Nat) (L : List Int) (most cnt : Int) (a b : Nat) (w' : World) : Prop :=
  NamesAt w' p g cap (L.set b (a : Int)) most (cnt - 1) ∧ Keeps [p, g] w w'

theorem join_yes (w : World) (p g cap : Nat) (L : List Int) (most cnt : Int) (a b : Nat) (h : NamesAt w p g cap L most cnt) (ha0 : 0 < a) (ha : a < L.length) (hLa : L.getD a 0 = a) (hb0 : 0 < b) (hb : b < L.length) (hLb : L.getD b 0 = b)
    (hab : a ≠ b) (hc : -70000 < cnt) (hc' : cnt < 70000) :
    Calls Try.prog 16 #[.pointer (some ⟨p, 0, none⟩), .int .i64 a, .int .i64 b] w fun e w' => e = .returned (.bool true) ∧ Joined w p g cap L most cnt a b w' := by
  have c0 : w.cell? ⟨p, 0, none⟩ = some (.slice (some ⟨g, 0, none⟩) L.length cap) := by rw [cell_of_blk h.blk]; rfl
  have c2 : w.cell? ⟨p, 2, none⟩ = some (.int .i64 cnt) := by rw [cell_of_blk h.blk]; rfl
  have cb := h.cell b hb
  have f2 : w.frozen? ⟨p, 2, none⟩ = false := frozen_of_blk h.blk
  have fb : w.frozen? ⟨g, b, none⟩ = false := h.row.frozenAt b
  have HA := Lib.hid hLa
  have HB := Lib.hid hLb
  have hgp : g ≠ p := h.ne
  have hne : ((a : Int) == (b : Int)) = false := by rw [beq_eq_false_iff_ne]; omega
  have h' := h.set b a
  have hfin : Joined w p g cap L most cnt a b ((w.setCell ⟨g, b, none⟩ (.int .i64 a)).setCell ⟨p, 2, none⟩ (.int .i64 (cnt - 1))) := by
    refine ⟨⟨?_, ?_, h.ne⟩, ((Keeps.refl _ _).setCell (.inl (by simp)) _).setCell (.inl (by simp)) _⟩
    · rw [blk_setCell _ h'.blk]; simp
    · exact ((Keeps.refl [p] _).setCell (.inl (by simp)) _).row h'.row (by simpa using hgp)
  clear hLa hLb h'
  go_enter Try.func16, Try.ntmps16
  go_wp2_with fail
  refine (has_yes _ _ _ _ _ _ _ _ h (by omega) (by omega) HA.out).mono ?_
  rintro e w' ⟨rfl, rfl⟩
  go_wp2_with fail
  refine (has_yes _ _ _ _ _ _ _ _ h (by omega) (by omega) HB.out).mono ?_
  rintro e w' ⟨rfl, rfl⟩
  go_wp2
  go_ret
  exact ⟨rfl, hfin⟩

def NewNames (w : World) (most : Int) (w' : World) : Prop :=
  NamesAt w' (w.heap.size + 1) w.heap.size 1 [0] most 0 ∧ Keeps [] w w' ∧ w'.heap.size = w.heap.size + 2

theorem new_yes (w : World) (most : Int) (h0 : 0 ≤ most) (h1 : most ≤ 65536) :
    Calls Try.prog 8 #[.int .i64 most] w fun e w' => e = .returned (.tuple #[.pointer (some ⟨w.heap.size + 1, 0, none⟩), .int .i64 0]) ∧ NewNames w most w' := by
  have hfin : NewNames w most ((w.alloc (.cells #[.int .i64 0] 3)).alloc (.cells #[.slice (some ⟨w.heap.size, 0, none⟩) 1 1, .int .i64 most, .int .i64 0] 51)) := by
    refine ⟨⟨?_, ?_, by omega⟩, ((Keeps.refl _ _).alloc _).alloc _, by simp⟩
    · have := blk_alloc_new (w := w.alloc (.cells #[.int .i64 0] 3)) (.cells #[.slice (some ⟨w.heap.size, 0, none⟩) 1 1, .int .i64 most, .int .i64 0] 51)
      simpa using this
    · refine ⟨by simp, .inr ⟨w.heap.size, 1, #[.int .i64 0], rfl, Nat.zero_le _, ?_, by simp, by decide, by simp, by simp⟩⟩
      rw [blk_alloc_old _ (by simp), blk_alloc_new]
  go_enter Try.func8, Try.ntmps8
  go_wp2
  go_ret2
  exact ⟨rfl, hfin⟩

theorem new_no (w : World) (most : Int) (h : most < 0 ∨ 65536 < most) :
    Calls Try.prog 8 #[.int .i64 most] w fun e w' => e = .returned (.tuple #[.pointer none, .int .i64 31]) ∧ w = w' := by
  rcases h with h | h
  · go_enter Try.func8, Try.ntmps8
    go_wp2
    go_ret2
    exact ⟨rfl, rfl⟩
  · have h' : ¬ most < 0 := by omega
    go_enter Try.func8, Try.ntmps8
    go_wp2
    go_ret2
    exact ⟨rfl, rfl⟩

end Go.Proofs.Ytohngmegombfgaa
