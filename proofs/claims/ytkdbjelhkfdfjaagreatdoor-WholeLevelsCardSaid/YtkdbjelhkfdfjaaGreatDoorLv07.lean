/-
  Contracts that the law rests on. Conditions: none.
-/
import Derived.Test.YtkdbjelhkfdfjaaGreatDoorLv02
import Derived.Test.YtkdbjelhkfdfjaaGreatDoorLv04
import Derived.ChangeKeysEq
import Derived.Deep.AppendLies
import Derived.Deep.Cut
import Derived.Deep.CutBlock
import Derived.Deep.DeepCutAuto
import Derived.Deep.LoopGhost
import Derived.Deep.RegionHeld3
import Derived.Deep.RegionLaw
import Derived.DeepKeys4
import Derived.IntWalk
import Derived.Laws.Entries
import Derived.Laws.IdiomStrings
import Derived.Laws.ResultCell
import Derived.Laws.Rows
import Derived.Laws.StructEq
import Derived.Lib.SliceRun
set_option linter.unusedVariables false
set_option maxRecDepth 100000
set_option maxHeartbeats 32000000
namespace Go.Proofs.YtkdbjelhkfdfjaaGreatDoor
open Go.RowKit
def SAt (w : World) (g off : Nat) (l : List ByteArray) : Prop := ∀ i s, l[i]? = some s -> w.cell? ⟨g, off + i, none⟩ = some (.string s)
theorem Keeps.cell' {w w' : World} {b j : Nat} {u : Value} (k : Keeps [] w w') (e : w.cell? ⟨b,j,none⟩ = some u) : w'.cell? ⟨b,j,none⟩ = some u := by
  have hb := World.block_lt_of_cell? w _ e
  rw [World.cell?_of_block (a := ⟨b,j,none⟩) (k.block b hb (by simp))]; exact e
theorem SAt.keep {w w' : World} {g off : Nat} {l : List ByteArray} (h : SAt w g off l) (k : Keeps [] w w') : SAt w' g off l := fun i s e => k.cell' (h i s e)
theorem SAt.tail {w : World} {g off : Nat} {a : ByteArray} {l : List ByteArray} (h : SAt w g off (a :: l)) : SAt w g (off + 1) l := fun i s e => by
  have := h (i + 1) s e
  rw [show off + 1 + i = off + (i + 1) by omega]; exact this
section
variable (w : World)
theorem index_none (g off cap : Nat) (l : List ByteArray) (x : ByteArray) (h : SAt w g off l) (hx : ∀ s ∈ l,(x.toList == s.toList) = false) (hl : l.length <= 65536) :
    Calls Tryz.prog 100 #[.slice (some ⟨g,off,none⟩) l.length cap,.string x] w fun e w' => e = .returned (.int .i64 (-1)) ∧ w = w' := by
  have H := Lib.hid h
  have HX := Lib.hid hx
  clear h hx
  go_enter Tryz.func100, Tryz.ntmps100
  go_wp2_with fail
  go_loopg [5,8] (l.length + 1) (fun k i t wr => ∃ j : Nat, k + j = l.length + 1 ∧ j <= l.length ∧ t = .int .i64 j ∧ wr = w)
  case atStart => exact ⟨0,by omega,by omega,rfl,rfl⟩
  case round =>
    obtain ⟨j, hk, hj,rfl,rfl⟩ := hrel
    have HK := Lib.hid hk
    clear hk
    by_cases hi : j < l.length
    · have hi3 : (j : Int) < (l.length : Int) := by omega
      obtain ⟨s, hs⟩ : ∃ s, l[j]? = some s := ⟨_, List.getElem?_eq_getElem hi⟩
      have hc := H.out j s hs
      have he := HX.out s (List.mem_of_getElem? hs)
      clear hs
      go_wp2_with fail
      go_roundg (gk - 1)
      case measure => have := HK.out; omega
      case rel => exact ⟨j + 1,by have := HK.out; omega,by omega,by go_num,rfl⟩
    · obtain rfl : j = l.length := by omega
      go_wp2_with fail
      go_ret
      exact ⟨rfl,rfl⟩
theorem index_some (g off cap : Nat) (l : List ByteArray) (x : ByteArray) (n : Nat) (h : SAt w g off l) (hn : n < l.length) (hx : ∀ i s, i < n -> l[i]? = some s -> (x.toList == s.toList) = false) (hx' : ∀ s, l[n]? = some s -> (x.toList == s.toList) = true) (hl : l.length <= 65536) :
    Calls Tryz.prog 100 #[.slice (some ⟨g,off,none⟩) l.length cap,.string x] w fun e w' => e = .returned (.int .i64 n) ∧ w = w' := by
  have H := Lib.hid h
  have HX := Lib.hid hx
  have HX' := Lib.hid hx'
  clear h hx hx'
  go_enter Tryz.func100, Tryz.ntmps100
  go_wp2_with fail
  go_loopg [5,8] (n + 1) (fun k i t wr => ∃ j : Nat, k + j = n + 1 ∧ j <= n ∧ t = .int .i64 j ∧ wr = w)
  case atStart => exact ⟨0,by omega,by omega,rfl,rfl⟩
  case round =>
    obtain ⟨j, hk, hj,rfl,rfl⟩ := hrel
    have HK := Lib.hid hk
    clear hk
    have hi3 : (j : Int) < (l.length : Int) := by omega
    obtain ⟨s, hs⟩ : ∃ s, l[j]? = some s := ⟨_, List.getElem?_eq_getElem (by omega)⟩
    have hc := H.out j s hs
    by_cases hi : j < n
    · have he := HX.out j s hi hs
      clear hs
      go_wp2_with fail
      go_roundg (gk - 1)
      case measure => have := HK.out; omega
      case rel => exact ⟨j + 1,by have := HK.out; omega,by omega,by go_num,rfl⟩
    · obtain rfl : j = n := by omega
      have he := HX'.out s hs
      clear hs
      go_wp2_with fail
      go_ret
      exact ⟨rfl,rfl⟩
theorem contains_none (g off cap : Nat) (l : List ByteArray) (x : ByteArray) (h : SAt w g off l) (hx : ∀ s ∈ l,(x.toList == s.toList) = false) (hl : l.length <= 65536) :
    Calls Tryz.prog 79 #[.slice (some ⟨g,off,none⟩) l.length cap,.string x] w fun e w' => e = .returned (.bool false) ∧ w = w' := by
  have hi := index_none w g off cap l x h hx hl
  clear h hx
  go_enter Tryz.func79, Tryz.ntmps79
  go_wp2_with (go_at_call 100; refine hi.mono ?_; rintro e w' ⟨rfl,rfl⟩)
  go_ret
  exact ⟨rfl,rfl⟩
theorem verb_sort (d : Value) : Calls Tryz.prog 81 #[d,.string ⟨#[115,111,114,116]⟩] w fun e w' => e = .returned (.func (.func 104) #[d] #[]) ∧ w = w' := by
  have hmf : ∀ (fn : Fn) (first cap : Array Value) (w : World),(Instr.makeFunc fn first cap).run Tryz.prog w = .ok (.func fn first cap) w := fun _ _ _ _ => rfl
  go_enter Tryz.func81, Tryz.ntmps81
  go_wp2_with fail
  go_ret
  exact ⟨rfl,rfl⟩
theorem verb_kind (d : Value) : Calls Tryz.prog 81 #[d,.string ⟨#[107,105,110,100]⟩] w fun e w' => e = .returned (.func (.func 101) #[d] #[]) ∧ w = w' := by
  have hmf : ∀ (fn : Fn) (first cap : Array Value) (w : World),(Instr.makeFunc fn first cap).run Tryz.prog w = .ok (.func fn first cap) w := fun _ _ _ _ => rfl
  go_enter Tryz.func81, Tryz.ntmps81
  go_wp2_with fail
  go_ret
  exact ⟨rfl,rfl⟩
theorem rep_check : Calls Tryz.prog 128 #[.int .i64 0] w fun e w' => e = .returned (.tuple #[]) ∧ w = w' := by
  go_enter Tryz.func128, Tryz.ntmps128
  go_wp2_with fail
  first | go_end0 | refine bodyPost_ret (results_none rfl _ _ _) rfl ?_
  exact ⟨rfl,rfl⟩
theorem rep_want (a : Option Addr) (n c : Nat) (m : Nat) (h : m <= n) : Calls Tryz.prog 125 #[.slice a n c,.int .i64 m] w fun e w' => e = .returned (.tuple #[]) ∧ w = w' := by
  have h1 : ¬ (n : Int) < (m : Int) := by omega
  go_enter Tryz.func125, Tryz.ntmps125
  go_wp2_with fail
  first | go_end0 | refine bodyPost_ret (results_none rfl _ _ _) rfl ?_
  exact ⟨rfl,rfl⟩
def kindsW : List ByteArray := [⟨#[]⟩,⟨#[98,105,110,97,114,121]⟩,⟨#[100,97,114,121]⟩,⟨#[98,105,110,111,109,105,97,108]⟩,⟨#[112,97,105,114,105,110,103]⟩,⟨#[102,105,98,111,110,97,99,99,105]⟩,⟨#[108,101,102,116,105,115,116]⟩,⟨#[115,107,101,119]⟩,⟨#[108,105,98,114,97,114,121]⟩]
def kindsO : Obj := .cells (kindsW.map Value.string).toArray 9 (0,0)
theorem rep_names : Calls Tryz.prog 126 #[] w fun e w' => e = .returned (.slice (some ⟨w.heap.size,0,none⟩) 9 9) ∧ w' = w.alloc kindsO := by
  go_enter Tryz.func126, Tryz.ntmps126
  go_wp2_with fail
  go_ret
  exact ⟨rfl,rfl⟩
theorem kindsO_at (w : World) : SAt (w.alloc kindsO) w.heap.size 0 kindsW := fun i s e => by
  rw [cell_of_blk (blk_alloc_new (w := w) kindsO), Nat.zero_add]
  simp [e]
end
def cmpV (x y : Int) : Int := if x < y then -1 else if y < x then 1 else 0
theorem cmpV_lt {x y : Int} (h : x < y) : cmpV x y = -1 := by simp [cmpV, h]
theorem cmpV_gt {x y : Int} (h : y < x) : cmpV x y = 1 := by simp [cmpV, h]; omega
theorem cmpV_eq (x : Int) : cmpV x x = 0 := by simp [cmpV]
theorem isNaN_i64 (w : World) (x : Int) : Calls Tryz.prog 84 #[.int .i64 x] w fun e w' => e = .returned (.bool false) ∧ w = w' := by
  go_enter Tryz.func84, Tryz.ntmps84
  go_wp2
  go_ret
  exact ⟨by simp,rfl⟩
theorem isNaN_u64 (w : World) (x : Int) : Calls Tryz.prog 338 #[.int .u64 x] w fun e w' => e = .returned (.bool false) ∧ w = w' := by
  go_enter Tryz.func338, Tryz.ntmps338
  go_wp2
  go_ret
  exact ⟨by simp,rfl⟩
theorem cmp_i64 (w : World) (x y : Int) : Calls Tryz.prog 335 #[.int .i64 x,.int .i64 y] w fun e w' => e = .returned (.int .i64 (cmpV x y)) ∧ w = w' := by
  rcases Int.lt_trichotomy x y with h | h | h
  · rw [cmpV_lt h]
    go_enter Tryz.func335, Tryz.ntmps335
    go_wp2_with (go_at_call 84; refine (isNaN_i64 _ _).mono ?_; rintro e w' ⟨rfl,rfl⟩)
    go_ret
    exact ⟨rfl,rfl⟩
  · subst h
    rw [cmpV_eq]
    have h : decide (x < x) = false := by simp
    go_enter Tryz.func335, Tryz.ntmps335
    go_wp2_with (go_at_call 84; refine (isNaN_i64 _ _).mono ?_; rintro e w' ⟨rfl,rfl⟩)
    go_ret
    exact ⟨rfl,rfl⟩
  · rw [cmpV_gt h]
    have h' : decide (x < y) = false := by simp; omega
    go_enter Tryz.func335, Tryz.ntmps335
    go_wp2_with (go_at_call 84; refine (isNaN_i64 _ _).mono ?_; rintro e w' ⟨rfl,rfl⟩)
    go_ret
    exact ⟨rfl,rfl⟩
theorem cmp_u64 (w : World) (x y : Int) : Calls Tryz.prog 336 #[.int .u64 x,.int .u64 y] w fun e w' => e = .returned (.int .i64 (cmpV x y)) ∧ w = w' := by
  rcases Int.lt_trichotomy x y with h | h | h
  · rw [cmpV_lt h]
    go_enter Tryz.func336, Tryz.ntmps336
    go_wp2_with (go_at_call 338; refine (isNaN_u64 _ _).mono ?_; rintro e w' ⟨rfl,rfl⟩)
    go_ret
    exact ⟨rfl,rfl⟩
  · subst h
    rw [cmpV_eq]
    have h : decide (x < x) = false := by simp
    go_enter Tryz.func336, Tryz.ntmps336
    go_wp2_with (go_at_call 338; refine (isNaN_u64 _ _).mono ?_; rintro e w' ⟨rfl,rfl⟩)
    go_ret
    exact ⟨rfl,rfl⟩
  · rw [cmpV_gt h]
    have h' : decide (x < y) = false := by simp; omega
    go_enter Tryz.func336, Tryz.ntmps336
    go_wp2_with (go_at_call 338; refine (isNaN_u64 _ _).mono ?_; rintro e w' ⟨rfl,rfl⟩)
    go_ret
    exact ⟨rfl,rfl⟩
def orV (x y : Int) : Int := if x = 0 then y else x
theorem orV_zero (y : Int) : orV 0 y = y := by simp [orV]
theorem orV_else {x : Int} (y : Int) (h : x ≠ 0) : orV x y = x := by simp [orV, h]
theorem or2 (w : World) (b : Nat) (x y : Int) (h0 : w.cell? ⟨b,0,none⟩ = some (.int .i64 x)) (h1 : w.cell? ⟨b,1,none⟩ = some (.int .i64 y)) :
    Calls Tryz.prog 234 #[.slice (some ⟨b,0,none⟩) 2 2] w fun e w' => e = .returned (.int .i64 (orV x y)) ∧ w = w' := by
  by_cases hx : x = 0
  · subst hx
    rw [orV_zero]
    by_cases hy : y = 0
    · subst hy
      go_enter Tryz.func234, Tryz.ntmps234
      go_wp2
      go_loop [8] (fun i => ∃ k : Nat, k <= 2 ∧ i = .int .i64 k) (fun i => 2 - (intOf i).toNat)
      case atStart => exact ⟨0,by omega,rfl⟩
      case round =>
        obtain ⟨k, hk,rfl⟩ := hrel
        by_cases hlt : k < 2
        · have h2 : w.cell? ⟨b,k,none⟩ = some (.int .i64 0) := by
            rcases Nat.lt_or_ge k 1 with c | c
            · have : k = 0 := by omega
              subst this; exact h0
            · have : k = 1 := by omega
              subst this; exact h1
          clear h0 h1
          go_wp2
          go_round
          case rel => exact ⟨k + 1,by omega,by go_num⟩
          case measure => simp [intOf]; omega
        · go_wp2
          go_ret
          exact ⟨rfl,rfl⟩
    · have hyb : (y != 0) = true := by simpa using hy
      go_enter Tryz.func234, Tryz.ntmps234
      go_wp2
      go_loop [8] (fun i => ∃ k : Nat, k <= 1 ∧ i = .int .i64 k) (fun i => 2 - (intOf i).toNat)
      case atStart => exact ⟨0,by omega,rfl⟩
      case round =>
        obtain ⟨k, hk,rfl⟩ := hrel
        rcases Nat.lt_or_ge k 1 with c | c
        · obtain rfl : k = 0 := by omega
          go_wp2
          go_round
          case rel => exact ⟨1,by omega,rfl⟩
          case measure => simp [intOf]
        · obtain rfl : k = 1 := by omega
          go_wp2
          go_ret
          exact ⟨rfl,rfl⟩
  · have hxb : (x != 0) = true := by simpa using hx
    rw [orV_else y hx]
    go_enter Tryz.func234, Tryz.ntmps234
    go_wp2
    go_loop [8] (fun i => i = .int .i64 0) (fun i => 0)
    case atStart => rfl
    case round =>
      subst hrel
      go_wp2
      go_ret
      exact ⟨rfl,rfl⟩
def cmpE (k q l r : Int) : Int := orV (cmpV k l) (cmpV q r)
structure CmpW (w w' : World) (k q l r : Int) : Prop where
  c : w'.cell? ⟨w.heap.size,0,none⟩ = some (.int .i64 k) ∧ w'.cell? ⟨w.heap.size,1,none⟩ = some (.int .u64 q) ∧ w'.cell? ⟨w.heap.size + 1,0,none⟩ = some (.int .i64 l) ∧ w'.cell? ⟨w.heap.size + 1,1,none⟩ = some (.int .u64 r)
  b : Below w.heap.size w w'
  s : w.heap.size + 2 <= w'.heap.size
theorem CmpW.new (w : World) (k q l r : Int) (t : TypeId) : CmpW w ((w.alloc (.cells #[.int .i64 k,.int .u64 q] t)).alloc (.cells #[.int .i64 l,.int .u64 r] t)) k q l r := by
  refine ⟨⟨?_,?_,?_,?_⟩,((Below.refl _ _).alloc (Nat.le_refl _) _).alloc (by simp) _,by simp⟩
  · rw [cell_of_blk ((blk_alloc_old _ (by simp)).trans (blk_alloc_new _))]; rfl
  · rw [cell_of_blk ((blk_alloc_old _ (by simp)).trans (blk_alloc_new _))]; rfl
  · have := blk_alloc_new (w := w.alloc (.cells #[.int .i64 k,.int .u64 q] t)) (.cells #[.int .i64 l,.int .u64 r] t)
    simp only [World.size_alloc] at this
    rw [cell_of_blk this]; rfl
  · have := blk_alloc_new (w := w.alloc (.cells #[.int .i64 k,.int .u64 q] t)) (.cells #[.int .i64 l,.int .u64 r] t)
    simp only [World.size_alloc] at this
    rw [cell_of_blk this]; rfl
theorem CmpW.next {w w' w'' : World} {k q l r : Int} (h : CmpW w w' k q l r) (n : Below w'.heap.size w' w'') : CmpW w w'' k q l r := by
  have hs := h.s
  refine ⟨?_, h.b.trans ⟨n.os, n.tape, n.output, n.size,fun i hi => n.block i (by omega)⟩,by have := n.size; omega⟩
  obtain ⟨c0, c1, c2, c3⟩ := h.c
  exact ⟨(n.cell (p := ⟨_,_,none⟩) (by simp; omega)).trans c0,(n.cell (p := ⟨_,_,none⟩) (by simp; omega)).trans c1,(n.cell (p := ⟨_,_,none⟩) (by simp; omega)).trans c2,(n.cell (p := ⟨_,_,none⟩) (by simp; omega)).trans c3⟩
theorem CmpW.alloc {w w' : World} {k q l r : Int} (h : CmpW w w' k q l r) (o : Obj) : CmpW w (w'.alloc o) k q l r := h.next ((Below.refl _ _).alloc (Nat.le_refl _) _)
theorem CmpW.drew {w w' : World} {k q l r : Int} (h : CmpW w w' k q l r) : CmpW w w'.drew k q l r := h.next ⟨rfl,rfl,rfl, Nat.le_refl _,fun _ _ => rfl⟩
theorem compare_calls (w : World) (k q l r : Int) : Calls Tryz.prog 330 #[.agg #[.int .i64 k,.int .u64 q],.agg #[.int .i64 l,.int .u64 r]] w fun e w' => e = .returned (.int .i64 (cmpE k q l r)) ∧ Below w.heap.size w w' := by
  have k0 := CmpW.new w k q l r 104
  go_enter Tryz.func330, Tryz.ntmps330
  go_wp2_with fail
  generalize (w.alloc (.cells #[.int .i64 k,.int .u64 q] 104)).alloc (.cells #[.int .i64 l,.int .u64 r] 104) = w2 at *
  have k1 := k0.drew
  go_region_held3 (fun w' => w'.cell? ⟨w.heap.size,0,none⟩ = some (.int .i64 k) ∧ w'.cell? ⟨w.heap.size,1,none⟩ = some (.int .u64 q) ∧ w'.cell? ⟨w.heap.size + 1,0,none⟩ = some (.int .i64 l) ∧ w'.cell? ⟨w.heap.size + 1,1,none⟩ = some (.int .u64 r))
    (first | exact CmpW.c (by assumption) | exact CmpW.c (CmpW.alloc (by assumption) _))
    (first
      | (go_at_call 335; refine (cmp_i64 _ _ _).mono ?_; rintro e w' ⟨rfl,rfl⟩)
      | (go_at_call 336; refine (cmp_u64 _ _ _).mono ?_; rintro e w' ⟨rfl,rfl⟩)
      | (go_at_call 234; refine (or2 _ _ (cmpV k l) (cmpV q r) (by show (w2.alloc _).cell? _ = _; rw [cell_of_blk (blk_alloc_new _)]; rfl) (by show (w2.alloc _).cell? _ = _; rw [cell_of_blk (blk_alloc_new _)]; rfl)).mono ?_; rintro e w' ⟨rfl,rfl⟩))
  all_goals
    have kb := k0.b
    have ks := kb.size
    go_wp2_with fail
    go_ret
    exact ⟨rfl,(kb.alloc ks _).drew⟩
theorem cmpE_lt (k q l r : Int) : cmpE k q l r < 0 ↔ k < l ∨ (k = l ∧ q < r) := by
  simp only [cmpE, orV, cmpV]
  split <;> split <;> (try split) <;> (try split) <;> omega
theorem cmpE_zero (k q l r : Int) : cmpE k q l r = 0 ↔ k = l ∧ q = r := by
  simp only [cmpE, orV, cmpV]
  split <;> split <;> (try split) <;> (try split) <;> omega
theorem count_calls (w : World) (p : Nat) (cs : List Value) (T : TypeId) (s : Int) (hb : w.heap[p]? = some (.cells (.int .i64 s :: cs).toArray T (0,0))) (h0 : 0 <= s) (h1 : s <= 4611686018427387904) :
    Calls Tryz.prog 347 #[.pointer (some ⟨p,0,none⟩),.int .i64 1] w fun e w' => e = .returned (.tuple #[]) ∧ ∃ s', 0 <= s' ∧ s' <= 4611686018427387904 ∧ w' = w.setCell ⟨p,0,none⟩ (.int .i64 s') := by
  have c0 : w.cell? ⟨p,0,none⟩ = some (.int .i64 s) := by rw [cell_of_blk hb]; rfl
  have f0 : w.frozen? ⟨p,0,none⟩ = false := frozen_of_blk hb
  by_cases hs : s < 4611686018427387904
  · have hx : ¬ (4611686018427387904 - s < 1) := by omega
    go_enter Tryz.func347, Tryz.ntmps347
    go_wp2
    go_end0
    exact ⟨rfl, s + 1,by omega,by omega,rfl⟩
  · have hx : 4611686018427387904 - s < 1 := by omega
    go_enter Tryz.func347, Tryz.ntmps347
    go_wp2
    go_end0
    exact ⟨rfl, 4611686018427387904,by omega,by omega,rfl⟩
end Go.Proofs.YtkdbjelhkfdfjaaGreatDoor
namespace Go.Proofs.YtkdbjelhkfdfjaaGreatDoor
structure CarI (E : Ent) (K0 : Nat -> List Nat) (U0 : Nat -> Option Nat) (a0 b0 : List Nat) (d da db od : Nat) (K : Nat -> List Nat) (U : Nat -> Option Nat) (a b held out : List Nat) : Prop where
  cubes : Cubes K U
  up : ∀ x y, U x = some y -> U0 x = some y ∨ ((x ∈ a0 ∨ x ∈ b0) ∧ (y ∈ a0 ∨ y ∈ b0) ∧ ahead E y x = true)
  fr : ∀ x, x ∉ a0 -> x ∉ b0 -> K x = K0 x ∧ U x = U0 x
  ra : a.Pairwise fun x y => (K x).length < (K y).length
  rb : b.Pairwise fun x y => (K x).length < (K y).length
  ro : out.Pairwise fun x y => (K x).length < (K y).length
  ga : ∀ x ∈ a, da <= (K x).length
  gb : ∀ x ∈ b, db <= (K x).length
  go : ∀ x ∈ out,(K x).length < od
  gh : ∀ x ∈ held,(K x).length = d
  nd : (a ++ b ++ held ++ out).Nodup
  mem : ∀ x, x ∈ a ++ b ++ held ++ out ↔ (x ∈ a0 ∨ x ∈ b0) ∧ U x = none
section
variable {E : Ent} {K0 K : Nat -> List Nat} {U0 U : Nat -> Option Nat} {a0 b0 a b held out : List Nat} {d da db od x y : Nat}
theorem CarI.start (h : Cubes K U) (ha : CRow K U a) (hb : CRow K U b) (hd : ∀ x ∈ a, x ∉ b) : CarI E K U a b 0 0 0 0 K U a b [] [] := by
  refine ⟨h,fun x y e => .inl e,fun x _ _ => ⟨rfl,rfl⟩, ha.2, hb.2,by simp,by simp,by simp,by simp,by simp,?_,?_⟩
  · simp only [List.append_nil]
    rw [List.nodup_append]
    exact ⟨ha.nodup, hb.nodup,fun x hx y hy e => hd x hx (e ▸ hy)⟩
  · intro x
    simp only [List.append_nil, List.mem_append]
    constructor
    · rintro (q | q)
      · exact ⟨.inl q, ha.1 x q⟩
      · exact ⟨.inr q, hb.1 x q⟩
    · rintro ⟨q, _⟩; exact q
theorem CarI.takeA (h : CarI E K0 U0 a0 b0 d d db od K U (x :: a) b held out) (e : (K x).length = d) : CarI E K0 U0 a0 b0 d (d + 1) db od K U a b (held ++ [x]) out := by
  have hr := List.pairwise_cons.1 h.ra
  have hp : ((x :: a) ++ b ++ held ++ out).Perm (a ++ b ++ (held ++ [x]) ++ out) := by
    rw [List.perm_iff_count]; intro z; simp only [List.count_append, List.count_cons, List.count_nil]; omega
  refine ⟨h.cubes, h.up, h.fr, hr.2, h.rb, h.ro,?_, h.gb, h.go,?_,(hp.nodup_iff).1 h.nd,fun z => by rw [<- hp.mem_iff]; exact h.mem z⟩
  · intro z hz; have := hr.1 z hz; omega
  · intro z hz
    rcases List.mem_append.1 hz with q | q
    · exact h.gh z q
    · simp only [List.mem_singleton] at q; subst q; exact e
theorem CarI.skipA (h : CarI E K0 U0 a0 b0 d d db od K U a b held out) (e : ∀ x, a.head? = some x -> (K x).length ≠ d) : CarI E K0 U0 a0 b0 d (d + 1) db od K U a b held out := by
  refine ⟨h.cubes, h.up, h.fr, h.ra, h.rb, h.ro,?_, h.gb, h.go, h.gh, h.nd, h.mem⟩
  intro z hz
  have hr := h.ra
  have hg := h.ga
  cases a with
  | nil => cases hz
  | cons w l =>
    have h1 := e w rfl
    have h2 := hg w (by simp)
    rcases List.mem_cons.1 hz with q | q
    · subst q; omega
    · have := (List.pairwise_cons.1 hr).1 z q; omega
theorem CarI.takeB (h : CarI E K0 U0 a0 b0 d da d od K U a (x :: b) held out) (e : (K x).length = d) : CarI E K0 U0 a0 b0 d da (d + 1) od K U a b (held ++ [x]) out := by
  have hr := List.pairwise_cons.1 h.rb
  have hp : (a ++ (x :: b) ++ held ++ out).Perm (a ++ b ++ (held ++ [x]) ++ out) := by
    rw [List.perm_iff_count]; intro z; simp only [List.count_append, List.count_cons, List.count_nil]; omega
  refine ⟨h.cubes, h.up, h.fr, h.ra, hr.2, h.ro, h.ga,?_, h.go,?_,(hp.nodup_iff).1 h.nd,fun z => by rw [<- hp.mem_iff]; exact h.mem z⟩
  · intro z hz; have := hr.1 z hz; omega
  · intro z hz
    rcases List.mem_append.1 hz with q | q
    · exact h.gh z q
    · simp only [List.mem_singleton] at q; subst q; exact e
theorem CarI.skipB (h : CarI E K0 U0 a0 b0 d da d od K U a b held out) (e : ∀ x, b.head? = some x -> (K x).length ≠ d) : CarI E K0 U0 a0 b0 d da (d + 1) od K U a b held out := by
  refine ⟨h.cubes, h.up, h.fr, h.ra, h.rb, h.ro, h.ga,?_, h.go, h.gh, h.nd, h.mem⟩
  intro z hz
  have hr := h.rb
  have hg := h.gb
  cases b with
  | nil => cases hz
  | cons w l =>
    have h1 := e w rfl
    have h2 := hg w (by simp)
    rcases List.mem_cons.1 hz with q | q
    · subst q; omega
    · have := (List.pairwise_cons.1 hr).1 z q; omega
theorem CarI.done (h : CarI E K0 U0 a0 b0 d da db d K U a b (x :: held) out) : CarI E K0 U0 a0 b0 d da db (d + 1) K U a b held (out ++ [x]) := by
  have hp : (a ++ b ++ (x :: held) ++ out).Perm (a ++ b ++ held ++ (out ++ [x])) := by
    rw [List.perm_iff_count]; intro z; simp only [List.count_append, List.count_cons, List.count_nil]; omega
  have hx := h.gh x (by simp)
  refine ⟨h.cubes, h.up, h.fr, h.ra, h.rb,?_, h.ga, h.gb,?_,fun z hz => h.gh z (by simp [hz]),(hp.nodup_iff).1 h.nd,fun z => by rw [<- hp.mem_iff]; exact h.mem z⟩
  · rw [List.pairwise_append]
    refine ⟨h.ro,by simp,fun z hz w hw => ?_⟩
    simp only [List.mem_singleton] at hw; subst hw
    have := h.go z hz; omega
  · intro z hz
    rcases List.mem_append.1 hz with q | q
    · have := h.go z q; omega
    · simp only [List.mem_singleton] at q; subst q; omega
theorem CarI.notDone (h : CarI E K0 U0 a0 b0 d da db d K U a b held out) : CarI E K0 U0 a0 b0 d da db (d + 1) K U a b held out :=
  ⟨h.cubes, h.up, h.fr, h.ra, h.rb, h.ro, h.ga, h.gb,fun z hz => Nat.lt_succ_of_lt (h.go z hz), h.gh, h.nd, h.mem⟩
theorem CarI.next (h : CarI E K0 U0 a0 b0 d da db od K U a b [] out) (d' : Nat) : CarI E K0 U0 a0 b0 d' da db od K U a b [] out :=
  ⟨h.cubes, h.up, h.fr, h.ra, h.rb, h.ro, h.ga, h.gb, h.go,by simp, h.nd, h.mem⟩
theorem CarI.pair (h : CarI E K0 U0 a0 b0 d da db od K U a b [x, y] out) : x ≠ y ∧ U x = none ∧ U y = none ∧ (K x).length = (K y).length ∧ (x ∈ a0 ∨ x ∈ b0) ∧ (y ∈ a0 ∨ y ∈ b0) := by
  have h1 := (h.mem x).1 (by simp)
  have h2 := (h.mem y).1 (by simp)
  refine ⟨?_, h1.2, h2.2,by rw [h.gh x (by simp), h.gh y (by simp)], h1.1, h2.1⟩
  rintro rfl
  have := h.nd
  rw [List.nodup_append] at this
  have := (List.nodup_append.1 this.1).2.1
  simp at this
theorem CarI.swap (h : CarI E K0 U0 a0 b0 d da db od K U a b [x, y] out) : CarI E K0 U0 a0 b0 d da db od K U a b [y, x] out := by
  have hp : (a ++ b ++ [x, y] ++ out).Perm (a ++ b ++ [y, x] ++ out) := by
    rw [List.perm_iff_count]; intro z; simp only [List.count_append, List.count_cons, List.count_nil]; omega
  exact ⟨h.cubes, h.up, h.fr, h.ra, h.rb, h.ro, h.ga, h.gb, h.go,fun z hz => h.gh z (by simp only [List.mem_cons, List.not_mem_nil, or_false] at hz ⊢; exact hz.symm),(hp.nodup_iff).1 h.nd,fun z => by rw [<- hp.mem_iff]; exact h.mem z⟩
theorem CarI.join (h : CarI E K0 U0 a0 b0 d (d + 1) (d + 1) (d + 1) K U a b [x, y] out) (had : ahead E x y = true) :
    CarI E K0 U0 a0 b0 (d + 1) (d + 1) (d + 1) (d + 1) (upd K x (K x ++ [y])) (upd U y (some x)) a b [x] out := by
  obtain ⟨hne, hux, huy, hd, hx0, hy0⟩ := h.pair
  have hp : (a ++ b ++ [x, y] ++ out).Perm (y :: (a ++ b ++ [x] ++ out)) := by
    rw [List.perm_iff_count]; intro z; simp only [List.count_append, List.count_cons, List.count_nil]; omega
  have hq : (a ++ b ++ [x, y] ++ out).Perm (x :: y :: (a ++ b ++ out)) := by
    rw [List.perm_iff_count]; intro z; simp only [List.count_append, List.count_cons, List.count_nil]; omega
  have hn1 := List.nodup_cons.1 ((hp.nodup_iff).1 h.nd)
  have hn2 := List.nodup_cons.1 ((hq.nodup_iff).1 h.nd)
  have hx : x ∉ a ∧ x ∉ b ∧ x ∉ out := by
    have := hn2.1
    simp only [List.mem_cons, List.mem_append, not_or] at this
    exact ⟨this.2.1.1, this.2.1.2, this.2.2⟩
  have other : ∀ (l : List Nat) (R : Nat -> Nat -> Prop), x ∉ l -> l.Pairwise (fun u v => (K u).length < (K v).length) -> l.Pairwise fun u v => (upd K x (K x ++ [y]) u).length < (upd K x (K x ++ [y]) v).length := by
    intro l _ hl hr
    refine List.Pairwise.imp_of_mem ?_ hr
    intro u v hu hv e
    rw [upd_other _ _ (by rintro rfl; exact hl hu), upd_other _ _ (by rintro rfl; exact hl hv)]; exact e
  refine ⟨h.cubes.link hne hux huy hd,?_,?_, other a (fun _ _ => True) hx.1 h.ra, other b (fun _ _ => True) hx.2.1 h.rb, other out (fun _ _ => True) hx.2.2 h.ro,?_,?_,?_,?_, hn1.2,?_⟩
  · intro u v e
    by_cases c : u = y
    · subst c; rw [upd_same] at e; cases e; exact .inr ⟨hy0, hx0, had⟩
    · rw [upd_other _ _ c] at e; exact h.up u v e
  · intro u hu hv
    have c1 : u ≠ x := by rintro rfl; exact hx0.elim hu hv
    have c2 : u ≠ y := by rintro rfl; exact hy0.elim hu hv
    rw [upd_other _ _ c1, upd_other _ _ c2]; exact h.fr u hu hv
  · intro u hu; rw [upd_other _ _ (by rintro rfl; exact hx.1 hu)]; exact h.ga u hu
  · intro u hu; rw [upd_other _ _ (by rintro rfl; exact hx.2.1 hu)]; exact h.gb u hu
  · intro u hu; rw [upd_other _ _ (by rintro rfl; exact hx.2.2 hu)]; exact h.go u hu
  · intro u hu
    simp only [List.mem_singleton] at hu; subst hu
    rw [upd_same, List.length_append, h.gh u (by simp)]; rfl
  · intro u
    have h1 := h.mem u
    rw [hp.mem_iff, List.mem_cons] at h1
    by_cases c : u = y
    · subst c
      rw [upd_same]
      constructor
      · intro q; exact absurd q hn1.1
      · rintro ⟨_, q⟩; cases q
    · rw [upd_other _ _ c, <- h1]; simp only [c, false_or]
structure CarDone (E : Ent) (K0 : Nat -> List Nat) (U0 : Nat -> Option Nat) (a0 b0 : List Nat) (K : Nat -> List Nat) (U : Nat -> Option Nat) (out : List Nat) : Prop where
  cubes : Cubes K U
  up : ∀ x y, U x = some y -> U0 x = some y ∨ ((x ∈ a0 ∨ x ∈ b0) ∧ (y ∈ a0 ∨ y ∈ b0) ∧ ahead E y x = true)
  fr : ∀ x, x ∉ a0 -> x ∉ b0 -> K x = K0 x ∧ U x = U0 x
  row : CRow K U out
  mem : ∀ x, x ∈ out ↔ (x ∈ a0 ∨ x ∈ b0) ∧ U x = none
theorem CarI.fin (h : CarI E K0 U0 a0 b0 d da db od K U [] [] [] out) : CarDone E K0 U0 a0 b0 K U out := by
  have hm : ∀ x, x ∈ out ↔ (x ∈ a0 ∨ x ∈ b0) ∧ U x = none := fun x => by have := h.mem x; simpa using this
  exact ⟨h.cubes, h.up, h.fr,⟨fun x hx => ((hm x).1 hx).2, h.ro⟩, hm⟩
end
end Go.Proofs.YtkdbjelhkfdfjaaGreatDoor

