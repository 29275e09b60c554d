/-
  Contracts that the law rests on. Conditions: none.
-/
import Derived.Test.YtkdbjelhkfdfjaaGreatDoorQs25
set_option linter.unusedVariables false
set_option maxRecDepth 100000
set_option maxHeartbeats 16000000
namespace Go.Proofs.YtkdbjelhkfdfjaaGreatDoor
open Go.RowKit
section
variable {w w' : World} {p pc pf gf gr rc cap hs : Nat} {F Fc S : List Nat} {E E' : Ent} {T T' : Nat → TwigR} {U U' : Nat → Option Nat} {R R' : Nat → BRow}
theorem BinQ.cells (q : BinQ w p pc pf gf gr rc Fc cap hs E T U R) (hc : CellsAt w' Fc pc cap hs E') (k : Keeps Fc w w') : BinQ w' p pc pf gf gr rc Fc cap hs E' T U R :=
  ⟨k.blk q.blk q.ne.2.1, hc, q.fo.keep k (fun b hb e => q.ne.2.2.2.2.2 b e hb), k.row q.rows q.ne.2.2.1,fun g hg => ir_keep' (q.mem g hg) k (fun b e => (q.own g b hg e).2.2.1), q.ne, q.own, q.dis⟩
def BestOf (E : Ent) (l : List Nat) (i b : Nat) : Prop := b ∈ l.take i ∧ ∀ y ∈ l.take i, y ≠ b → ahead E b y = true
theorem BestOf.one (E : Ent) (x : Nat) (t : List Nat) : BestOf E (x :: t) 1 x := by
  refine ⟨by simp,fun y hy hne => ?_⟩
  simp at hy; exact absurd hy hne
theorem BestOf.more {l : List Nat} {i b y : Nat} (h : BestOf E l i b) (hy : l[i]? = some y) (ha : ahead E y b = true) : BestOf E l (i + 1) y := by
  unfold BestOf
  rw [List.take_add_one, hy]
  refine ⟨by simp,fun z hz hne => ?_⟩
  simp only [Option.toList_some, List.mem_append, List.mem_singleton] at hz
  rcases hz with hz | hz
  · by_cases c : z = b
    · subst c; exact ha
    · exact ahead_tr ha (h.2 z hz c)
  · exact absurd hz hne
theorem BestOf.less {l : List Nat} {i b y : Nat} (h : BestOf E l i b) (hy : l[i]? = some y) (ha : ahead E y b = false) (hb : (E b).isSome) (hys : (E y).isSome) : BestOf E l (i + 1) b := by
  unfold BestOf
  rw [List.take_add_one, hy]
  refine ⟨by simp [h.1],fun z hz hne => ?_⟩
  simp only [Option.toList_some, List.mem_append, List.mem_singleton] at hz
  rcases hz with hz | rfl
  · exact h.2 z hz hne
  · rcases ahead_tot hys hb hne with c | c
    · rw [ha] at c; cases c
    · exact c
end
section
variable (w : World) (p pc pf gf gr rc cap hs : Nat) (Fc : List Nat) (E : Ent) (T : Nat → TwigR) (U : Nat → Option Nat) (R : Nat → BRow)
theorem bin_row (q : BinQ w p pc pf gf gr rc Fc cap hs E T U R) (h : Nat) (h1 : 1 ≤ h) (h2 : h ≤ hs) :
    Calls Tryz.prog 353 #[.pointer (some ⟨p,0,none⟩), .int .i64 h] w fun e w' => e = .returned (.slice (R h).ao (R h).l.length (R h).ca) ∧ w = w' := by
  have hbh := q.ce.ok.bh
  have hhas := cells_has w Fc pc cap hs E q.ce h
  rw [decide_eq_true (by omega)] at hhas
  have c0 := q.c0
  have c2 := q.c2
  have d1 := q.at h2
  have hh3 : (h : Int) < ((hs + 1 : Nat) : Int) := by omega
  have hh4 : (h : Int) < (hs : Int) + 1 := by omega
  clear q
  go_enter Tryz.func353, Tryz.ntmps353
  go_wp2_with (go_at_call 301; refine hhas.mono ?_; rintro e w' ⟨rfl,rfl⟩)
  go_ret
  exact ⟨rfl,rfl⟩
theorem bin_row_no (q : BinQ w p pc pf gf gr rc Fc cap hs E T U R) (h : Nat) (h1 : ¬ (1 ≤ h ∧ h ≤ hs)) :
    Calls Tryz.prog 353 #[.pointer (some ⟨p,0,none⟩), .int .i64 h] w fun e w' => e = .returned (.slice none 0 0) ∧ w = w' := by
  have hhas := cells_has w Fc pc cap hs E q.ce h
  rw [decide_eq_false (by omega)] at hhas
  have c0 := q.c0
  clear q
  go_enter Tryz.func353, Tryz.ntmps353
  go_wp2_with (go_at_call 301; refine hhas.mono ?_; rintro e w' ⟨rfl,rfl⟩)
  go_ret
  exact ⟨rfl,rfl⟩
theorem bin_min_no (q : BinQ w p pc pf gf gr rc Fc cap hs E T U R) (o : BinO E (fun x => (T x).kids) U (fun g => (R g).l)) (h : Nat) (hi : ∀ y, ¬ isIn E h y) :
    Calls Tryz.prog 346 #[.pointer (some ⟨p,0,none⟩), .int .i64 h] w fun e w' => e = .returned (.tuple #[.int .i64 0, .bool false]) ∧ w = w' := by
  have hr : ∃ ao ca, Calls Tryz.prog 353 #[.pointer (some ⟨p,0,none⟩), .int .i64 h] w fun e w' => e = .returned (.slice ao 0 ca) ∧ w = w' := by
    by_cases c : 1 ≤ h ∧ h ≤ hs
    · have := bin_row w p pc pf gf gr rc cap hs Fc E T U R q h c.1 c.2
      have e : (R h).l = [] := by
        cases e : (R h).l with
        | nil => rfl
        | cons x t => exact absurd ((o.mem h x).1 (by simp [e])).1 (hi x)
      rw [e] at this
      exact ⟨_, _, this⟩
    · exact ⟨_, _, bin_row_no w p pc pf gf gr rc cap hs Fc E T U R q h c⟩
  obtain ⟨ao, ca, hr⟩ := hr
  clear q o hi
  go_enter Tryz.func346, Tryz.ntmps346
  go_wp2_with (go_at_call 353; refine hr.mono ?_; rintro e w' ⟨rfl,rfl⟩)
  go_ret2
  exact ⟨rfl,rfl⟩
def BinMin (h : Nat) (e : Ending) (w' : World) : Prop := ∃ x : Nat, e = .returned (.tuple #[.int .i64 x, .bool true]) ∧ least E h x ∧ x ∈ (R h).l ∧ BinQ w' p pc pf gf gr rc Fc cap hs E T U R ∧ Keeps Fc w w'
theorem bin_min_yes (q : BinQ w p pc pf gf gr rc Fc cap hs E T U R) (o : BinO E (fun x => (T x).kids) U (fun g => (R g).l)) (h : Nat) (h1 : 1 ≤ h) (h2 : h ≤ hs) (hi : ∃ y, isIn E h y) :
    Calls Tryz.prog 346 #[.pointer (some ⟨p,0,none⟩), .int .i64 h] w (BinMin w p pc pf gf gr rc cap hs Fc E T U R h) := by
  have hr := bin_row w p pc pf gf gr rc cap hs Fc E T U R q h h1 h2
  have hn := fun y (hy : (E y).isSome) => q.ce.ok.lt y hy
  have hbn := q.fo.cap
  obtain ⟨x, t, el⟩ : ∃ x t, (R h).l = x :: t := by
    cases e : (R h).l with
    | nil => obtain ⟨y, hy⟩ := hi; exact absurd hy (o.none_of hn e y)
    | cons x t => exact ⟨x, t,rfl⟩
  have hmem : ∀ y, y ∈ x :: t → (E y).isSome := fun y hy => ((o.mem h y).1 (by rw [el]; exact hy)).1.some
  have hlen : (x :: t).length ≤ 65536 := by
    rw [← el]
    exact Nat.le_trans (nodup_len (o.row h).nodup fun y hy => hn y (hmem y (by rw [← el]; exact hy))) hbn
  have hfin : ∀ y w', BestOf E (x :: t) (t.length + 1) y → BinQ w' p pc pf gf gr rc Fc cap hs E T U R → Keeps Fc w w' → BinMin w p pc pf gf gr rc cap hs Fc E T U R h (.returned (.tuple #[.int .i64 y, .bool true])) w' := fun y w' hb hq hk => by
    have e : (x :: t).take (t.length + 1) = x :: t := by simp
    unfold BestOf at hb
    rw [e] at hb
    exact ⟨y,rfl, o.first hn (by show y ∈ (R h).l; rw [el]; exact hb.1) (fun z hz hne => hb.2 z (by rw [← el]; exact hz) hne),by rw [el]; exact hb.1, hq, hk⟩
  have hir := q.mem h h2
  unfold BRow.v at hir
  rw [el] at hir hr
  simp only [List.length_cons] at hir hr hlen
  obtain ⟨g, e, hg1, _, d0⟩ := hir.at 0 (by simp)
  rw [e] at hir hr
  have hat : ∀ u i y, Keeps Fc w u → (x :: t)[i]? = some y → u.cell? ⟨g,i,none⟩ = some (.int .i64 (y : Nat)) := fun u i y k hy => by
    have hb : ∀ b, (Value.slice (some ⟨g,0,none⟩) (t.length + 1) (R h).ca).ownBlock = some b → b ∉ Fc := fun b eb => (q.own h b h2 (by unfold BRow.v; rw [el, e]; exact eb)).2.2.1
    obtain ⟨g', e', _, _, c⟩ := (ir_keep' hir k hb).at i (List.getElem?_eq_some_iff.1 hy).1
    cases e'
    rw [c, Rg.fn, List.getD, hy]; rfl
  have hca : t.length + 1 ≤ (R h).ca := by
    rcases hir.2 with ⟨e, _⟩ | ⟨g', cap, cur, e, _, _, h1, _⟩
    · cases e
    · cases e; simpa using h1
  generalize (R h).ca = ca at *
  have d1 := hat w 0 x (Keeps.refl _ _) rfl
  have hge : (1 : Int) ≤ (t.length : Int) + 1 := by omega
  have HF := Lib.hid hfin
  have HA := Lib.hid hat
  have HM := Lib.hid hmem
  have hn0 : ((t.length : Int) + 1 == 0) = false := by rw [beq_eq_false_iff_ne]; omega
  have Q := Lib.hid q
  clear hfin hat hmem hir d0 el e o hi hn q
  go_enter Tryz.func346, Tryz.ntmps346
  by_cases hq : ca = 1
  · obtain rfl : t = [] := List.length_eq_zero_iff.1 (by omega)
    subst hq
    go_wp2_with (go_at_call 353; refine hr.mono ?_; rintro e w' ⟨rfl,rfl⟩)
    go_loopg [7,22] 1 (fun m s u wr => m = 1 ∧ s = .int .i64 x ∧ u = .int .i64 0 ∧ wr = w)
    case atStart => exact ⟨rfl,rfl,rfl,rfl⟩
    case round =>
      obtain ⟨_,rfl,rfl,rfl⟩ := hrel
      go_wp2_with fail
      go_ret2
      exact HF.out _ _ (BestOf.one E x []) Q.out (Keeps.refl _ _)
  · go_wp2_with (go_at_call 353; refine hr.mono ?_; rintro e w' ⟨rfl,rfl⟩)
    go_loopg [7,22] (t.length + 1) (fun m s u wr => ∃ i b : Nat, m + i = t.length + 1 ∧ i ≤ t.length ∧ s = .int .i64 b ∧ u = .int .i64 i ∧ BestOf E (x :: t) (i + 1) b ∧ BinQ wr p pc pf gf gr rc Fc cap hs E T U R ∧ Keeps Fc w wr)
    case atStart => exact ⟨0, x,by omega,by omega,rfl,rfl, BestOf.one E x t, Q.out, Keeps.refl _ _⟩
    case round =>
      clear Q d1 hr
      obtain ⟨i, b, hk, hin,rfl,rfl, hb, q, kp⟩ := hrel
      have HK := Lib.hid hk
      clear hk
      by_cases hi : i < t.length
      · obtain ⟨y, hy⟩ : ∃ y, (x :: t)[i + 1]? = some y := ⟨_, List.getElem?_eq_getElem (by simp; omega)⟩
        have d1 := HA.out wr (i + 1) y kp hy
        rw [Nat.add_comm] at d1
        have hys := HM.out y (List.mem_of_getElem? hy)
        have hbs := HM.out b (List.mem_of_mem_take hb.1)
        have hal := cells_ahead wr Fc pc cap hs E q.ce y b hys hbs
        have c0 := q.c0
        have hi3 : (i : Int) < (t.length : Int) := by omega
        have HB := Lib.hid hb
        have HY := Lib.hid hy
        have Q := Lib.hid q
        have KP := Lib.hid kp
        clear hb hy q kp
        cases ha : ahead E y b with
        | true =>
          rw [ha] at hal
          have HH := Lib.hid ha
          clear ha
          go_wp2_with (go_at_call 339; refine hal.mono ?_; rintro e w1 ⟨rfl, hc1, hk1⟩)
          go_roundg (gk - 1)
          case measure => have := HK.out; omega
          case rel => exact ⟨i + 1, y,by have := HK.out; omega,by omega,rfl,by go_num, HB.out.more HY.out HH.out, Q.out.cells hc1 hk1, KP.out.trans hk1 (fun x hx => .inl hx)⟩
        | false =>
          rw [ha] at hal
          have HH := Lib.hid ha
          clear ha
          go_wp2_with (go_at_call 339; refine hal.mono ?_; rintro e w1 ⟨rfl, hc1, hk1⟩)
          go_roundg (gk - 1)
          case measure => have := HK.out; omega
          case rel => exact ⟨i + 1, b,by have := HK.out; omega,by omega,rfl,by go_num, HB.out.less HY.out HH.out hbs hys, Q.out.cells hc1 hk1, KP.out.trans hk1 (fun x hx => .inl hx)⟩
      · obtain rfl : i = t.length := by omega
        go_wp2_with fail
        go_ret2
        exact HF.out _ _ hb q kp
end
end Go.Proofs.YtkdbjelhkfdfjaaGreatDoor

