/-
  The contracts of the document's answer for names (package haycockref04).
-/
import Derived.Test.YtohngmegombfgaaStates
import Derived.Laws.AppendOwnNone
namespace Go.Proofs.Ytohngmegombfgaa
open Go.RowKit

/-- Pairs as cells. -/
def pairCells (J : List (Int × Int)) : List Value := J.flatMap fun p => [.int .i64 p.1, .int .i64 p.2]

theorem pairCells_at (J : List (Int × Int)) (k : Nat) (hk : k < J.length) :
    (pairCells J)[k * 2]? = some (.int .i64 (J.getD k (0, 0)).1) ∧ (pairCells J)[k * 2 + 1]? = some (.int .i64 (J.getD k (0, 0)).2) := by
  induction J generalizing k with
  | nil => simp at hk
  | cons p J ih =>
    cases k with
    | zero => simp [pairCells]
    | succ k =>
      have := ih k (by simpa using hk)
      simp only [pairCells, List.flatMap_cons, List.cons_append, List.nil_append, List.getD_cons_succ] at this ⊢
      rw [show (k + 1) * 2 = k * 2 + 1 + 1 by omega, show k * 2 + 1 + 1 + 1 = (k * 2 + 1) + 1 + 1 by omega]
      simpa using this

/-- A slice of pairs in memory. -/
def IsPairs (w : World) (v : Value) (J : List (Int × Int)) : Prop := w.ownsRow 0 53 2 v J.length (pairCells J)

theorem IsPairs.one (J : List (Int × Int)) : ∀ u ∈ pairCells J, u.oneCell' = true := by
  intro u hu
  simp only [pairCells, List.mem_flatMap] at hu
  obtain ⟨p, _, hu⟩ := hu
  simp at hu
  rcases hu with rfl | rfl <;> rfl

/-- Does one count as itself, by the document. -/
def refHas (last : Int) (J : List (Int × Int)) (id : Int) : Bool := !(J.any fun p => p.2 == id) && (decide (1 ≤ id) && decide (id ≤ last))

theorem ref_has (w : World) (most last : Int) (v : Value) (J : List (Int × Int)) (id : Int) (h : IsPairs w v J) (hl : J.length < 70000) :
    Calls Try.prog 19 #[.agg #[.int .i64 most, .int .i64 last, v], .int .i64 id] w fun e w' => e = .returned (.bool (refHas last J id)) ∧ Below w.heap.size w w' := by
  have hpc : ∀ g cap, v = .slice (some ⟨g, 0, none⟩) J.length cap → ∀ k, k < J.length → w.cell? ⟨g, k * 2, none⟩ = some (.int .i64 (J.getD k (0, 0)).1) ∧ w.cell? ⟨g, k * 2 + 1, none⟩ = some (.int .i64 (J.getD k (0, 0)).2) := by
    rintro g cap rfl k hk
    rw [h.cellAt (k * 2) (by omega), h.cellAt (k * 2 + 1) (by omega)]
    exact pairCells_at J k hk
  rcases h.2 with ⟨rfl, h0⟩ | ⟨g, cap, cur, rfl, hb, hg, hnc, hcm, hcs, htake⟩
  · obtain rfl : J = [] := List.eq_nil_of_length_eq_zero h0
    clear hpc
    by_cases h1 : 1 ≤ id
    · by_cases h2 : id ≤ last
      all_goals
        go_enter Try.func19, Try.ntmps19
        go_wp2_with fail
        refine wp_loop_rounds 1 ?_
        rw [rounds_succ]
        go_wp2
        go_ret
        exact ⟨by simp [refHas, h1]; try omega, (Below.refl _ _).alloc (Nat.le_refl _) _⟩
    · go_enter Try.func19, Try.ntmps19
      go_wp2_with fail
      refine wp_loop_rounds 1 ?_
      rw [rounds_succ]
      go_wp2
      go_ret
      exact ⟨by simp [refHas]; try omega, (Below.refl _ _).alloc (Nat.le_refl _) _⟩
  · have hglt := lt_of_block hg
    have hpc' := hpc g cap rfl
    clear hpc htake hcs
    go_enter Try.func19, Try.ntmps19
    go_wp2_with fail
    go_loopw [4, 10] (fun r s wr => ∃ k : Nat, r = .bool false ∧ k ≤ J.length ∧ s = .int .i64 k ∧ (J.take k).any (fun p => p.2 == id) = false ∧ Below w.heap.size w wr ∧ w.heap.size < wr.heap.size ∧ wr.cell? ⟨w.heap.size, 1, none⟩ = some (.int .i64 last)) (fun _ s _ => J.length - (intOf s).toNat)
    case atStart =>
      refine ⟨0, rfl, Nat.zero_le _, rfl, rfl, (Below.refl _ _).alloc (Nat.le_refl _) _, by simp, ?_⟩
      rw [cell_of_blk (blk_alloc_new _)]; rfl
    case round =>
      obtain ⟨k, rfl, hk, rfl, hno, hbel, hsz, hlast⟩ := hrel
      have HNO := Lib.hid hno
      clear hno
      by_cases hlt : k < J.length
      · obtain ⟨⟨x, y⟩, hxy⟩ : ∃ q, q = J.getD k (0, 0) := ⟨_, rfl⟩
        obtain ⟨c0, c1⟩ := hpc' k hlt
        rw [← hxy] at c0 c1
        have d0 : wr.cell? ⟨g, k * 2, none⟩ = some (.int .i64 x) := (hbel.cell (p := ⟨g, k * 2, none⟩) hglt).trans c0
        have d1 : wr.cell? ⟨g, k * 2 + 1, none⟩ = some (.int .i64 y) := (hbel.cell (p := ⟨g, k * 2 + 1, none⟩) hglt).trans c1
        have htk : J.take (k + 1) = J.take k ++ [(x, y)] := by
          rw [List.take_succ_eq_append_getElem hlt, hxy]; simp [List.getD, hlt]
        have HT := Lib.hid htk
        have hb' : Below w.heap.size w (wr.alloc (.cells #[.int .i64 x, .int .i64 y] 53)) := hbel.alloc (by omega) _
        clear c0 c1 hxy htk hpc'
        by_cases hy : y = id
        · have hyb : (y == id) = true := by simpa using hy
          have hfin : refHas last J id = false := by
            have : J.any (fun p => p.2 == id) = true := by
              rw [← List.take_append_drop (k + 1) J, HT.out]; simp [hy]
            simp [refHas, this]
          have HF := Lib.hid hfin
          clear hy hfin
          go_wp2
          go_ret
          exact ⟨by rw [HF.out]; rfl, hb'⟩
        · have hyb : (y == id) = false := by simpa using hy
          clear hy
          go_wp2
          go_roundw
          case rel =>
            refine ⟨k + 1, rfl, by omega, by go_num, ?_, hb', by simp; omega, ?_⟩
            · rw [HT.out, List.any_append, HNO.out]; simp [hyb]
            · rw [World.cell?_alloc_past _ _ _ hsz]; exact hlast
          case measure => simp [intOf]; omega
      · obtain rfl : k = J.length := by omega
        have hno : J.any (fun p => p.2 == id) = false := by
          have := HNO.out
          rwa [List.take_length] at this
        have HN := Lib.hid hno
        clear hno hpc'
        by_cases h1 : 1 ≤ id
        · by_cases h2 : id ≤ last
          all_goals
            go_wp2
            go_ret
            exact ⟨by simp [refHas, HN.out, h1]; try omega, hbel⟩
        · go_wp2
          go_ret
          exact ⟨by simp [refHas, HN.out]; try omega, hbel⟩

/-- As which one counts, by the document: the joins are gone through in their order. -/
def refFold (J : List (Int × Int)) (id : Int) : Int := J.foldl (fun i p => if p.2 = i then p.1 else i) id

theorem refFold_snoc (J : List (Int × Int)) (p : Int × Int) (id : Int) : refFold (J ++ [p]) id = if p.2 = refFold J id then p.1 else refFold J id := by
  simp only [refFold, List.foldl_append]; rfl

def refRoot (last : Int) (J : List (Int × Int)) (id : Int) : Int × Bool := if 1 ≤ id ∧ id ≤ last then (refFold J id, true) else (0, false)

theorem ref_root (w : World) (most last : Int) (v : Value) (J : List (Int × Int)) (id : Int) (h : IsPairs w v J) (hl : J.length < 70000) :
    Calls Try.prog 18 #[.agg #[.int .i64 most, .int .i64 last, v], .int .i64 id] w fun e w' => e = .returned (.tuple #[.int .i64 (refRoot last J id).1, .bool (refRoot last J id).2]) ∧ Below w.heap.size w w' := by
  have hpc : ∀ g cap, v = .slice (some ⟨g, 0, none⟩) J.length cap → ∀ k, k < J.length → w.cell? ⟨g, k * 2, none⟩ = some (.int .i64 (J.getD k (0, 0)).1) ∧ w.cell? ⟨g, k * 2 + 1, none⟩ = some (.int .i64 (J.getD k (0, 0)).2) := by
    rintro g cap rfl k hk
    rw [h.cellAt (k * 2) (by omega), h.cellAt (k * 2 + 1) (by omega)]
    exact pairCells_at J k hk
  by_cases hin : 1 ≤ id ∧ id ≤ last
  · rw [refRoot, if_pos hin]
    obtain ⟨h1, h2⟩ := hin
    rcases h.2 with ⟨rfl, h0⟩ | ⟨g, cap, cur, rfl, hb, hg, hnc, hcm, hcs, htake⟩
    · obtain rfl : J = [] := List.eq_nil_of_length_eq_zero h0
      clear hpc
      go_enter Try.func18, Try.ntmps18
      go_wp2_with fail
      refine wp_loop_rounds 1 ?_
      rw [rounds_succ]
      go_wp2
      go_ret2
      exact ⟨rfl, (Below.refl _ _).alloc (Nat.le_refl _) _⟩
    · have hglt := lt_of_block hg
      have hpc' := hpc g cap rfl
      clear hpc htake hcs
      go_enter Try.func18, Try.ntmps18
      go_wp2_with fail
      go_loopw [1, 19] (fun r s wr => ∃ k : Nat, r = .int .i64 (refFold (J.take k) id) ∧ k ≤ J.length ∧ s = .int .i64 k ∧ Below w.heap.size w wr ∧ w.heap.size < wr.heap.size) (fun _ s _ => J.length - (intOf s).toNat)
      case atStart => exact ⟨0, rfl, Nat.zero_le _, rfl, (Below.refl _ _).alloc (Nat.le_refl _) _, by simp⟩
      case round =>
        obtain ⟨k, rfl, hk, rfl, hbel, hsz⟩ := hrel
        obtain ⟨r, hr⟩ : ∃ r, r = refFold (J.take k) id := ⟨_, rfl⟩
        rw [← hr]
        by_cases hlt : k < J.length
        · obtain ⟨⟨x, y⟩, hxy⟩ : ∃ q, q = J.getD k (0, 0) := ⟨_, rfl⟩
          obtain ⟨c0, c1⟩ := hpc' k hlt
          rw [← hxy] at c0 c1
          have d0 : wr.cell? ⟨g, k * 2, none⟩ = some (.int .i64 x) := (hbel.cell (p := ⟨g, k * 2, none⟩) hglt).trans c0
          have d1 : wr.cell? ⟨g, k * 2 + 1, none⟩ = some (.int .i64 y) := (hbel.cell (p := ⟨g, k * 2 + 1, none⟩) hglt).trans c1
          have htk : refFold (J.take (k + 1)) id = if y = r then x else r := by
            rw [List.take_succ_eq_append_getElem hlt, show J[k] = (x, y) by rw [hxy]; simp [List.getD, hlt], hr, refFold_snoc]
          have hb' : Below w.heap.size w (wr.alloc (.cells #[.int .i64 x, .int .i64 y] 53)) := hbel.alloc (by omega) _
          by_cases hy : y = r
          · have hyb : (y == r) = true := by simpa using hy
            rw [if_pos hy] at htk
            have HT := Lib.hid htk
            clear hy c0 c1 hxy htk hpc' hr
            go_wp2
            go_roundw
            case rel => exact ⟨k + 1, by rw [HT.out], by omega, by go_num, hb', by simp; omega⟩
            case measure => simp [intOf]; omega
          · have hyb : (y == r) = false := by simpa using hy
            rw [if_neg hy] at htk
            have HT := Lib.hid htk
            clear hy c0 c1 hxy htk hpc' hr
            go_wp2
            go_roundw
            case rel => exact ⟨k + 1, by rw [HT.out], by omega, by go_num, hb', by simp; omega⟩
            case measure => simp [intOf]; omega
        · obtain rfl : k = J.length := by omega
          rw [List.take_length] at hr
          have HR := Lib.hid hr
          clear hr hpc'
          go_wp2
          go_ret2
          exact ⟨by rw [← HR.out]; rfl, hbel⟩
  · rw [refRoot, if_neg hin]
    clear hpc
    by_cases h1 : 1 ≤ id
    · have h2 : last < id := by omega
      clear hin
      go_enter Try.func18, Try.ntmps18
      go_wp2
      go_ret2
      exact ⟨rfl, (Below.refl _ _).alloc (Nat.le_refl _) _⟩
    · clear hin
      go_enter Try.func18, Try.ntmps18
      go_wp2
      go_ret2
      exact ⟨rfl, (Below.refl _ _).alloc (Nat.le_refl _) _⟩

theorem ref_count (w : World) (most last : Int) (ao : Option Addr) (len cap : Nat) (h0 : 0 ≤ last) (h1 : last < 70000) (hl : len < 70000) :
    Calls Try.prog 20 #[.agg #[.int .i64 most, .int .i64 last, .slice ao len cap]] w fun e w' => e = .returned (.int .i64 (last - len)) ∧ Below w.heap.size w w' := by
  go_enter Try.func20, Try.ntmps20
  go_wp2
  go_ret
  exact ⟨rfl, (Below.refl _ _).alloc (Nat.le_refl _) _⟩

theorem ref_make (w : World) (most last : Int) (ao : Option Addr) (len cap : Nat) (h0 : 0 ≤ last) (h1 : last < 70000) (h : last < most) :
    Calls Try.prog 14 #[.agg #[.int .i64 most, .int .i64 last, .slice ao len cap]] w fun e w' => e = .returned (.tuple #[.agg #[.int .i64 most, .int .i64 (last + 1), .slice ao len cap], .int .i64 (last + 1), .bool true]) ∧ Below w.heap.size w w' := by
  go_enter Try.func14, Try.ntmps14
  go_wp2
  go_region
  go_wp2
  refine bodyPost_ret (v := .tuple #[.agg #[.int .i64 most, .int .i64 (last + 1), .slice ao len cap], .int .i64 (last + 1), .bool true]) (by simp [results, Try.results14, go_sem]) rfl ⟨rfl, ?_⟩
  exact (((Below.refl _ _).alloc (Nat.le_refl _) _).alloc (by simp) _).drew

theorem ref_make_no (w : World) (most last : Int) (ao : Option Addr) (len cap : Nat) (h : most ≤ last) :
    Calls Try.prog 14 #[.agg #[.int .i64 most, .int .i64 last, .slice ao len cap]] w fun e w' => e = .returned (.tuple #[.agg #[.int .i64 most, .int .i64 last, .slice ao len cap], .int .i64 0, .bool false]) ∧ Below w.heap.size w w' := by
  go_enter Try.func14, Try.ntmps14
  go_wp2
  refine bodyPost_ret (v := .tuple #[.agg #[.int .i64 most, .int .i64 last, .slice ao len cap], .int .i64 0, .bool false]) (by simp [results, Try.results14, go_sem]) rfl ⟨rfl, ?_⟩
  exact ((Below.refl _ _).alloc (Nat.le_refl _) _).alloc (by simp) _

def refCan (last : Int) (J : List (Int × Int)) (a b : Int) : Bool := refHas last J a && refHas last J b && !(a == b)

theorem ref_join_no (w : World) (most last : Int) (ao : Option Addr) (cap : Nat) (J : List (Int × Int)) (a b : Int) (h : IsPairs w (.slice ao J.length cap) J) (hl : J.length < 70000) (hc : refCan last J a b = false) :
    Calls Try.prog 15 #[.agg #[.int .i64 most, .int .i64 last, .slice ao J.length cap], .int .i64 a, .int .i64 b] w fun e w' => e = .returned (.tuple #[.agg #[.int .i64 most, .int .i64 last, .slice ao J.length cap], .bool false]) ∧ Below w.heap.size w w' := by
  have hw : ∀ o1 o2, IsPairs ((w.alloc o1).alloc o2) (.slice ao J.length cap) J := fun o1 o2 => (h.alloc o1).alloc o2
  cases ha : refHas last J a with
  | false =>
    clear hc
    go_enter Try.func15, Try.ntmps15
    go_wp2_with fail
    refine (ref_has _ _ _ _ _ _ (hw _ _) hl).mono ?_
    rintro e w1 ⟨rfl, h1⟩
    rw [ha]
    have hz := h1.size
    obtain ⟨hc1, hf1⟩ := bcell h1
    clear ha
    go_wp2
    refine bodyPost_ret (v := .tuple #[.agg #[.int .i64 most, .int .i64 last, .slice ao J.length cap], .bool false]) (by simp [results, Try.results15, go_sem, hc1]) rfl ⟨rfl, ?_⟩
    exact (((((Below.refl _ w).alloc (Nat.le_refl _) _).alloc (by simp) _).trans (h1.mono (by simp; omega))).setCell (by simp) _ |>.setCell (by simp) _ |>.setCell (by simp) _)
  | true =>
    cases hb : refHas last J b with
    | false =>
      clear hc
      go_enter Try.func15, Try.ntmps15
      go_wp2_with fail
      refine (ref_has _ _ _ _ _ _ (hw _ _) hl).mono ?_
      rintro e w1 ⟨rfl, h1⟩
      rw [ha]
      have hz := h1.size
      obtain ⟨hc1, hf1⟩ := bcell h1
      have hw1 : IsPairs w1 (.slice ao J.length cap) J := row_below (hw _ _) h1 (Nat.le_refl _)
      clear ha
      go_wp2_with fail
      refine (ref_has _ _ _ _ _ _ hw1 hl).mono ?_
      rintro e w2 ⟨rfl, h2⟩
      rw [hb]
      have hz2 := h2.size
      obtain ⟨hc2, hf2⟩ := bcell h2
      have hz3 : w.heap.size + 1 < w1.heap.size := by simp at hz; omega
      have hz4 : w.heap.size < w1.heap.size := by omega
      have q0 : w2.cell? ⟨w.heap.size + 1, 0, none⟩ = some (.int .i64 0) := by rw [hc2 _ _ hz3, hc1 _ _ (by simp <;> omega)]; simp [go_sem]
      have q1 : w2.cell? ⟨w.heap.size + 1, 1, none⟩ = some (.int .i64 0) := by rw [hc2 _ _ hz3, hc1 _ _ (by simp <;> omega)]; simp [go_sem]
      have q2 : w2.cell? ⟨w.heap.size + 1, 2, none⟩ = some (.slice none 0 0) := by rw [hc2 _ _ hz3, hc1 _ _ (by simp <;> omega)]; simp [go_sem]
      have hB : Below w.heap.size w w2 := ((((Below.refl _ w).alloc (Nat.le_refl _) _).alloc (by simp) _).trans (h1.mono (by simp; omega))).trans (h2.mono (by omega))
      clear hb
      go_wp2
      refine bodyPost_ret (v := .tuple #[.agg #[.int .i64 most, .int .i64 last, .slice ao J.length cap], .bool false]) (by simp [results, Try.results15, go_sem, q0, q1, q2]) rfl ⟨rfl, ?_⟩
      exact ((hB.setCell (by simp) _).setCell (by simp) _).setCell (by simp) _
    | true =>
      obtain rfl : a = b := by simpa [refCan, ha, hb] using hc
      clear hc hb
      go_enter Try.func15, Try.ntmps15
      go_wp2_with fail
      refine (ref_has _ _ _ _ _ _ (hw _ _) hl).mono ?_
      rintro e w1 ⟨rfl, h1⟩
      rw [ha]
      have hz := h1.size
      obtain ⟨hc1, hf1⟩ := bcell h1
      have hw1 : IsPairs w1 (.slice ao J.length cap) J := row_below (hw _ _) h1 (Nat.le_refl _)
      have HA := Lib.hid ha
      clear ha
      go_wp2_with fail
      refine (ref_has _ _ _ _ _ _ hw1 hl).mono ?_
      rintro e w2 ⟨rfl, h2⟩
      rw [HA.out]
      have hz2 := h2.size
      obtain ⟨hc2, hf2⟩ := bcell h2
      have hz3 : w.heap.size + 1 < w1.heap.size := by simp at hz; omega
      have hz4 : w.heap.size < w1.heap.size := by omega
      have q0 : w2.cell? ⟨w.heap.size + 1, 0, none⟩ = some (.int .i64 0) := by rw [hc2 _ _ hz3, hc1 _ _ (by simp <;> omega)]; simp [go_sem]
      have q1 : w2.cell? ⟨w.heap.size + 1, 1, none⟩ = some (.int .i64 0) := by rw [hc2 _ _ hz3, hc1 _ _ (by simp <;> omega)]; simp [go_sem]
      have q2 : w2.cell? ⟨w.heap.size + 1, 2, none⟩ = some (.slice none 0 0) := by rw [hc2 _ _ hz3, hc1 _ _ (by simp <;> omega)]; simp [go_sem]
      have hB : Below w.heap.size w w2 := ((((Below.refl _ w).alloc (Nat.le_refl _) _).alloc (by simp) _).trans (h1.mono (by simp; omega))).trans (h2.mono (by omega))
      go_wp2
      refine bodyPost_ret (v := .tuple #[.agg #[.int .i64 most, .int .i64 last, .slice ao J.length cap], .bool false]) (by simp [results, Try.results15, go_sem, q0, q1, q2]) rfl ⟨rfl, ?_⟩
      exact ((hB.setCell (by simp) _).setCell (by simp) _).setCell (by simp) _

/-- What 'Join' leaves. -/
def RefJoined (w : World) (most last : Int) (J : List (Int × Int)) (a b : Int) (e : Ending) (w' : World) : Prop :=
  ∃ g cap, e = .returned (.tuple #[.agg #[.int .i64 most, .int .i64 last, .slice (some ⟨g, 0, none⟩) (J.length + 1) cap], .bool true]) ∧ IsPairs w' (.slice (some ⟨g, 0, none⟩) (J ++ [(a, b)]).length cap) (J ++ [(a, b)]) ∧ Below w.heap.size w w' ∧ w.heap.size ≤ g

theorem Try.infoPair : (Try.prog.info? 53).map (fun i => (i.zero, i.size, i.bytes)) = some (some (.agg #[.int .i64 0, .int .i64 0]), 2, 16) := by kernel_rfl

theorem ref_join_yes (w : World) (most last : Int) (ao : Option Addr) (cap : Nat) (J : List (Int × Int)) (a b : Int) (h : IsPairs w (.slice ao J.length cap) J) (hnil : J = [] → ao = none ∧ cap = 0) (hl : J.length < 70000) (hc : refCan last J a b = true) :
    Calls Try.prog 15 #[.agg #[.int .i64 most, .int .i64 last, .slice ao J.length cap], .int .i64 a, .int .i64 b] w (RefJoined w most last J a b) := by
  have hw : ∀ o1 o2, IsPairs ((w.alloc o1).alloc o2) (.slice ao J.length cap) J := fun o1 o2 => (h.alloc o1).alloc o2
  simp only [refCan, Bool.and_eq_true, Bool.not_eq_true'] at hc
  obtain ⟨⟨ha, hb⟩, hab⟩ := hc
  have HA := Lib.hid ha
  have HB := Lib.hid hb
  clear ha hb
  go_enter Try.func15, Try.ntmps15
  go_wp2_with fail
  refine (ref_has _ _ _ _ _ _ (hw _ _) hl).mono ?_
  rintro e w1 ⟨rfl, h1⟩
  rw [HA.out]
  have hz := h1.size
  obtain ⟨hc1, hf1⟩ := bcell h1
  have hw1 : IsPairs w1 (.slice ao J.length cap) J := row_below (hw _ _) h1 (Nat.le_refl _)
  go_wp2_with fail
  refine (ref_has _ _ _ _ _ _ hw1 hl).mono ?_
  rintro e w2 ⟨rfl, h2⟩
  rw [HB.out]
  have hz2 := h2.size
  obtain ⟨hc2, hf2⟩ := bcell h2
  have hw2 : IsPairs w2 (.slice ao J.length cap) J := row_below hw1 h2 (Nat.le_refl _)
  have hz3 : w.heap.size + 1 < w1.heap.size := by simp at hz; omega
  have hz4 : w.heap.size < w1.heap.size := by omega
  have hB : Below w.heap.size w w2 := ((((Below.refl _ w).alloc (Nat.le_refl _) _).alloc (by simp) _).trans (h1.mono (by simp; omega))).trans (h2.mono (by omega))
  have q0 : w2.cell? ⟨w.heap.size, 0, none⟩ = some (.int .i64 most) := by rw [hc2 _ _ hz4, hc1 _ _ (by simp <;> omega)]; simp [go_sem]
  have q1 : w2.cell? ⟨w.heap.size, 1, none⟩ = some (.int .i64 last) := by rw [hc2 _ _ hz4, hc1 _ _ (by simp <;> omega)]; simp [go_sem]
  have q2 : w2.cell? ⟨w.heap.size, 2, none⟩ = some (.slice ao J.length cap) := by rw [hc2 _ _ hz4, hc1 _ _ (by simp <;> omega)]; simp [go_sem]
  have p0 : w2.cell? ⟨w.heap.size + 1, 0, none⟩ = some (.int .i64 0) := by rw [hc2 _ _ hz3, hc1 _ _ (by simp <;> omega)]; simp [go_sem]
  have p1 : w2.cell? ⟨w.heap.size + 1, 1, none⟩ = some (.int .i64 0) := by rw [hc2 _ _ hz3, hc1 _ _ (by simp <;> omega)]; simp [go_sem]
  have p2 : w2.cell? ⟨w.heap.size + 1, 2, none⟩ = some (.slice none 0 0) := by rw [hc2 _ _ hz3, hc1 _ _ (by simp <;> omega)]; simp [go_sem]
  have q3 : w2.frozen? ⟨w.heap.size, 2, none⟩ = false := by rw [hf2 _ _ hz4, hf1 _ _ (by simp <;> omega)]; simp [go_sem]
  have p3 : ∀ i, w2.frozen? ⟨w.heap.size + 1, i, none⟩ = false := by intro i; rw [hf2 _ _ hz3, hf1 _ _ (by simp <;> omega)]; simp [go_sem]
  clear hc1 hf1 hc2 hf2 hw
  have hz5 : w.heap.size < w2.heap.size := by omega
  have hz6 : w.heap.size + 1 < w2.heap.size := by omega
  obtain ⟨i0, hi, hz0, hz1, hzb⟩ := info_parts Try.infoPair
  have hown0 : (w2.alloc (.cells #[] 53)).ownsRow 0 53 2 (.slice (some ⟨w2.heap.size, 0, none⟩) 0 0) 0 [] :=
    World.ownsRow_made w2 #[] 0 (Nat.zero_le _) (Nat.zero_le _) (by simp)
  by_cases hJ : J = []
  · obtain ⟨rfl, rfl⟩ := hnil hJ
    subst hJ
    simp only [List.length_nil] at *
    go_wp2_with (first
      | (at_builtin; refine wpList_append_own_none rfl (.tmp 24) (.tmp 26) 30 rfl 0 53 i0 2 Try.underlying30 hi _ 0 [] rfl hown0 rfl ?_)
      | (at_builtin; refine wpList_push_agg _ 53 #[.int .i64 a, .int .i64 b] (0, 0) rfl (.tmp 27) (.tmp 31) 30 rfl (.agg #[.int .i64 0, .int .i64 0]) 2 16 Try.underlying30 Try.infoPair rfl (by decide) rfl (by simp [Value.oneCell']) _ 0 [] rfl hown0 (by simp [Act.eval]) (by unfold maxLen; omega) (by omega) ?_))
    intro g2 cap2 W4 hrow hk hf
    have hB4 : Below w.heap.size w W4 := hB.trans (((Below.refl w.heap.size w2).alloc (by omega) _).trans (hk.below (by simp; omega) (by simp [Value.ownBlock]; omega)))
    have hold : ∀ b o, b < w2.heap.size → W4.cell? ⟨b, o, none⟩ = w2.cell? ⟨b, o, none⟩ ∧ W4.frozen? ⟨b, o, none⟩ = w2.frozen? ⟨b, o, none⟩ := by
      intro b o hb
      have e : W4.heap[b]? = w2.heap[b]? := (hk.block b (by simp; omega) (by simp [Value.ownBlock]; omega)).trans (blk_alloc_old _ hb)
      exact ⟨World.cell?_of_block (a := ⟨b, o, none⟩) e, World.frozen?_of_block (a := ⟨b, o, none⟩) e⟩
    have hg2 : w2.heap.size ≤ g2 := by
      rcases hf with hf | hf
      · simp [Value.ownBlock] at hf; omega
      · omega
    clear hk hf
    have s0 : W4.cell? ⟨w.heap.size, 0, none⟩ = some (.int .i64 most) := (hold _ _ hz5).1.trans q0
    have s1 : W4.cell? ⟨w.heap.size, 1, none⟩ = some (.int .i64 last) := (hold _ _ hz5).1.trans q1
    have s2 : W4.cell? ⟨w.heap.size, 2, none⟩ = _ := (hold _ _ hz5).1.trans q2
    have s3 : W4.frozen? ⟨w.heap.size, 2, none⟩ = false := (hold _ _ hz5).2.trans q3
    have t0 : W4.cell? ⟨w.heap.size + 1, 0, none⟩ = some (.int .i64 0) := (hold _ _ hz6).1.trans p0
    have t1 : W4.cell? ⟨w.heap.size + 1, 1, none⟩ = some (.int .i64 0) := (hold _ _ hz6).1.trans p1
    have t2 : W4.cell? ⟨w.heap.size + 1, 2, none⟩ = some (.slice none 0 0) := (hold _ _ hz6).1.trans p2
    have t3 : ∀ i, W4.frozen? ⟨w.heap.size + 1, i, none⟩ = false := fun i => (hold _ _ hz6).2.trans (p3 i)
    clear hold q0 q1 q2 q3 p0 p1 p2 p3 h1 h2 hz hz2 hw1 hw2 HA HB hown0 hnil
    have hne1 : g2 ≠ w.heap.size := by omega
    have hne2 : g2 ≠ w.heap.size + 1 := by omega
    go_wp2
    refine bodyPost_ret (v := .tuple #[.agg #[.int .i64 most, .int .i64 last, .slice (some ⟨g2, 0, none⟩) (1) cap2], .bool true]) (by simp [results, Try.results15, go_sem, t0, t1, t2]) rfl ⟨g2, cap2, ?_, ?_, ?_, by omega⟩
    · simp
    · have hk4 : Keeps [w.heap.size, w.heap.size + 1] W4 ((((W4.setCell ⟨w.heap.size, 2, none⟩ (.slice (some ⟨g2, 0, none⟩) (1) cap2)).setCell ⟨w.heap.size + 1, 0, none⟩ (.int .i64 most)).setCell ⟨w.heap.size + 1, 1, none⟩ (.int .i64 last)).setCell ⟨w.heap.size + 1, 2, none⟩ (.slice (some ⟨g2, 0, none⟩) (1) cap2)) :=
        ((((Keeps.refl _ _).setCell (.inl (by simp)) _).setCell (.inl (by simp)) _).setCell (.inl (by simp)) _).setCell (.inl (by simp)) _
      have := hk4.row hrow (by simp [hne1, hne2])
      simpa [IsPairs, pairCells] using this
    · exact (((hB4.setCell (by simp) _).setCell (by simp) _).setCell (by simp) _).setCell (by simp) _
  · obtain ⟨g, rfl⟩ : ∃ g, ao = some ⟨g, 0, none⟩ := by
      rcases h.2 with ⟨_, h0⟩ | ⟨g, cap', cur, hv, _⟩
      · exact absurd (List.eq_nil_of_length_eq_zero h0) hJ
      · cases hv; exact ⟨g, rfl⟩
    have hJ0 : 0 < J.length := List.length_pos_iff.2 hJ
    have hcells := IsPairs.one J
    have hsrc : ∀ j u, (pairCells J)[j]? = some u → (w2.alloc (.cells #[] 53)).cell? ((⟨g, 0, none⟩ : Addr).add j) = some u := (hw2.alloc _).cells rfl
    have hlen : (pairCells J).length = J.length * 2 := h.1
    go_wp2_with (first
      | (at_builtin; (refine wpList_app _ rfl (.tmp 24) (.tmp 26) 30 rfl 53 i0 (.agg #[.int .i64 0, .int .i64 0]) 2 16 Try.underlying30 hi hz0 hz1 hzb rfl (by decide) (.slice (some ⟨w2.heap.size, 0, none⟩) 0 0) 0 [] rfl hown0 ⟨g, 0, none⟩ J.length cap (pairCells J) rfl hlen hsrc hcells (by unfold maxLen; omega) (by omega) hJ0 ?_); intro g1 cap1 W3 hr1 hk1 hf1; simp only [Nat.zero_add, List.nil_append] at hr1; have hz7 : w2.heap.size + 1 ≤ W3.heap.size := by (have := hk1.size; simpa using this))
      | (at_builtin; (refine wpList_push_agg _ 53 #[.int .i64 a, .int .i64 b] (0, 0) rfl (.tmp 27) (.tmp 31) 30 rfl (.agg #[.int .i64 0, .int .i64 0]) 2 16 Try.underlying30 Try.infoPair rfl (by decide) rfl (by simp [Value.oneCell']) _ J.length (pairCells J) (by simp [Act.eval]) hr1 (by simp [Act.eval]) (by unfold maxLen; omega) (by omega) ?_)))
    intro g2 cap2 W4 hrow hk hf
    have hB3 : Below w.heap.size w W3 := hB.trans (((Below.refl w.heap.size w2).alloc (by omega) _).trans (hk1.below (by simp; omega) (by simp [Value.ownBlock]; omega)))
    have hg1 : w2.heap.size ≤ g1 := by
      rcases hf1 with hf1 | hf1
      · simp [Value.ownBlock] at hf1; omega
      · simp at hf1; omega
    have hB4 : Below w.heap.size w W4 := hB3.trans (hk.below (by omega) (by simp [Value.ownBlock]; omega))
    have hold : ∀ b o, b < w2.heap.size → W4.cell? ⟨b, o, none⟩ = w2.cell? ⟨b, o, none⟩ ∧ W4.frozen? ⟨b, o, none⟩ = w2.frozen? ⟨b, o, none⟩ := by
      intro b o hb
      have e : W4.heap[b]? = w2.heap[b]? := ((hk.block b (by omega) (by simp [Value.ownBlock]; omega)).trans (hk1.block b (by simp; omega) (by simp [Value.ownBlock]; omega))).trans (blk_alloc_old _ hb)
      exact ⟨World.cell?_of_block (a := ⟨b, o, none⟩) e, World.frozen?_of_block (a := ⟨b, o, none⟩) e⟩
    have hg2 : w2.heap.size ≤ g2 := by
      rcases hf with hf | hf
      · simp [Value.ownBlock] at hf; omega
      · omega
    clear hk hf hk1 hf1 hr1 hB3
    have s0 : W4.cell? ⟨w.heap.size, 0, none⟩ = some (.int .i64 most) := (hold _ _ hz5).1.trans q0
    have s1 : W4.cell? ⟨w.heap.size, 1, none⟩ = some (.int .i64 last) := (hold _ _ hz5).1.trans q1
    have s2 : W4.cell? ⟨w.heap.size, 2, none⟩ = _ := (hold _ _ hz5).1.trans q2
    have s3 : W4.frozen? ⟨w.heap.size, 2, none⟩ = false := (hold _ _ hz5).2.trans q3
    have t0 : W4.cell? ⟨w.heap.size + 1, 0, none⟩ = some (.int .i64 0) := (hold _ _ hz6).1.trans p0
    have t1 : W4.cell? ⟨w.heap.size + 1, 1, none⟩ = some (.int .i64 0) := (hold _ _ hz6).1.trans p1
    have t2 : W4.cell? ⟨w.heap.size + 1, 2, none⟩ = some (.slice none 0 0) := (hold _ _ hz6).1.trans p2
    have t3 : ∀ i, W4.frozen? ⟨w.heap.size + 1, i, none⟩ = false := fun i => (hold _ _ hz6).2.trans (p3 i)
    clear hold q0 q1 q2 q3 p0 p1 p2 p3 h1 h2 hz hz2 hw1 hw2 HA HB hown0 hnil hsrc hcells hlen
    have hne1 : g2 ≠ w.heap.size := by omega
    have hne2 : g2 ≠ w.heap.size + 1 := by omega
    go_wp2
    refine bodyPost_ret (v := .tuple #[.agg #[.int .i64 most, .int .i64 last, .slice (some ⟨g2, 0, none⟩) (J.length + 1) cap2], .bool true]) (by simp [results, Try.results15, go_sem, t0, t1, t2]) rfl ⟨g2, cap2, ?_, ?_, ?_, by omega⟩
    · simp
    · have hk4 : Keeps [w.heap.size, w.heap.size + 1] W4 ((((W4.setCell ⟨w.heap.size, 2, none⟩ (.slice (some ⟨g2, 0, none⟩) (J.length + 1) cap2)).setCell ⟨w.heap.size + 1, 0, none⟩ (.int .i64 most)).setCell ⟨w.heap.size + 1, 1, none⟩ (.int .i64 last)).setCell ⟨w.heap.size + 1, 2, none⟩ (.slice (some ⟨g2, 0, none⟩) (J.length + 1) cap2)) :=
        ((((Keeps.refl _ _).setCell (.inl (by simp)) _).setCell (.inl (by simp)) _).setCell (.inl (by simp)) _).setCell (.inl (by simp)) _
      have := hk4.row hrow (by simp [hne1, hne2])
      simpa [IsPairs, pairCells] using this
    · exact (((hB4.setCell (by simp) _).setCell (by simp) _).setCell (by simp) _).setCell (by simp) _

end Go.Proofs.Ytohngmegombfgaa
