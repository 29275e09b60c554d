/-
  Contracts that the law rests on. Conditions: none.
-/
import Derived.Test.YtkdbjelhkfdfjaaGreatDoorQs04
import Derived.ChangeKeysEq
import Derived.Deep.AppendLies
import Derived.Deep.Cut
import Derived.Deep.CutBlock
import Derived.Deep.DeepCutAuto
import Derived.Deep.LoopGhost
import Derived.Deep.OwnRows
import Derived.Deep.RegionHeld3
import Derived.Deep.RegionLaw
import Derived.DeepKeys4
import Derived.IntWalk
import Derived.Laws.Entries
import Derived.Laws.IdiomStrings
import Derived.Laws.ResultCell
import Derived.Laws.Rows
import Derived.Laws.StructEq
import Derived.Lib.SliceRun
import Derived.Maps.OwnSet
import Derived.Maps.Views
import Derived.OwnWalk
set_option linter.unusedVariables false
set_option maxRecDepth 100000
set_option maxHeartbeats 16000000

namespace Go.Proofs.YtkdbjelhkfdfjaaGreatDoor
open Go.RowKit
theorem sp32 : ((⟨#[32]⟩ : ByteArray)[0]'(by decide)).toNat = 32 := rfl
theorem count_sort (w : World) : Calls Tryz.prog 123 #[.string ⟨#[115,111,114,116,32,50,32,49]⟩, .string ⟨#[32]⟩] w fun e w' => e = .returned (.int .i64 2) ∧ w = w' := by
  have hx : ∀ u, (callFunc 153 #[.string ⟨#[115,111,114,116,32,50,32,49]⟩, .int .u8 32]).run Tryz.prog u = .ok (.value (.int .i64 2)) u := fun u => by kernel_rfl
  have h32 := sp32
  go_enter Tryz.func123, Tryz.ntmps123
  go_wp2_with fail
  go_ret
  exact ⟨rfl,rfl⟩
theorem count_kind (w : World) : Calls Tryz.prog 123 #[.string ⟨#[107,105,110,100,32,115,107,101,119]⟩, .string ⟨#[32]⟩] w fun e w' => e = .returned (.int .i64 1) ∧ w = w' := by
  have hx : ∀ u, (callFunc 153 #[.string ⟨#[107,105,110,100,32,115,107,101,119]⟩, .int .u8 32]).run Tryz.prog u = .ok (.value (.int .i64 1)) u := fun u => by kernel_rfl
  have h32 := sp32
  go_enter Tryz.func123, Tryz.ntmps123
  go_wp2_with fail
  go_ret
  exact ⟨rfl,rfl⟩
theorem index_sort0 (w : World) : Calls Tryz.prog 124 #[.string ⟨#[115,111,114,116,32,50,32,49]⟩, .string ⟨#[32]⟩] w fun e w' => e = .returned (.int .i64 4) ∧ w = w' := by
  have hx : ∀ u, (callFunc 121 #[.string ⟨#[115,111,114,116,32,50,32,49]⟩, .int .u8 32]).run Tryz.prog u = .ok (.value (.int .i64 4)) u := fun u => by kernel_rfl
  have h0 : Calls Tryz.prog 97 #[.string ⟨#[115,111,114,116,32,50,32,49]⟩, .int .u8 32] w fun e w' => e = .returned (.int .i64 4) ∧ w = w' := by
    go_enter Tryz.func97, Tryz.ntmps97
    go_wp2_with fail
    go_ret
    exact ⟨rfl,rfl⟩
  have h32 := sp32
  have h1 : Calls Tryz.prog 154 #[.string ⟨#[115,111,114,116,32,50,32,49]⟩, .string ⟨#[32]⟩] w fun e w' => e = .returned (.int .i64 4) ∧ w = w' := by
    go_enter Tryz.func154, Tryz.ntmps154
    go_wp2_with (go_at_call 97; refine h0.mono ?_; rintro e w' ⟨rfl,rfl⟩)
    go_ret
    exact ⟨rfl,rfl⟩
  go_enter Tryz.func124, Tryz.ntmps124
  go_wp2_with (go_at_call 154; refine h1.mono ?_; rintro e w' ⟨rfl,rfl⟩)
  go_ret
  exact ⟨rfl,rfl⟩
theorem index_sort1 (w : World) : Calls Tryz.prog 124 #[.string ⟨#[50,32,49]⟩, .string ⟨#[32]⟩] w fun e w' => e = .returned (.int .i64 1) ∧ w = w' := by
  have hx : ∀ u, (callFunc 121 #[.string ⟨#[50,32,49]⟩, .int .u8 32]).run Tryz.prog u = .ok (.value (.int .i64 1)) u := fun u => by kernel_rfl
  have h0 : Calls Tryz.prog 97 #[.string ⟨#[50,32,49]⟩, .int .u8 32] w fun e w' => e = .returned (.int .i64 1) ∧ w = w' := by
    go_enter Tryz.func97, Tryz.ntmps97
    go_wp2_with fail
    go_ret
    exact ⟨rfl,rfl⟩
  have h32 := sp32
  have h1 : Calls Tryz.prog 154 #[.string ⟨#[50,32,49]⟩, .string ⟨#[32]⟩] w fun e w' => e = .returned (.int .i64 1) ∧ w = w' := by
    go_enter Tryz.func154, Tryz.ntmps154
    go_wp2_with (go_at_call 97; refine h0.mono ?_; rintro e w' ⟨rfl,rfl⟩)
    go_ret
    exact ⟨rfl,rfl⟩
  go_enter Tryz.func124, Tryz.ntmps124
  go_wp2_with (go_at_call 154; refine h1.mono ?_; rintro e w' ⟨rfl,rfl⟩)
  go_ret
  exact ⟨rfl,rfl⟩
theorem index_kind0 (w : World) : Calls Tryz.prog 124 #[.string ⟨#[107,105,110,100,32,115,107,101,119]⟩, .string ⟨#[32]⟩] w fun e w' => e = .returned (.int .i64 4) ∧ w = w' := by
  have hx : ∀ u, (callFunc 121 #[.string ⟨#[107,105,110,100,32,115,107,101,119]⟩, .int .u8 32]).run Tryz.prog u = .ok (.value (.int .i64 4)) u := fun u => by kernel_rfl
  have h0 : Calls Tryz.prog 97 #[.string ⟨#[107,105,110,100,32,115,107,101,119]⟩, .int .u8 32] w fun e w' => e = .returned (.int .i64 4) ∧ w = w' := by
    go_enter Tryz.func97, Tryz.ntmps97
    go_wp2_with fail
    go_ret
    exact ⟨rfl,rfl⟩
  have h32 := sp32
  have h1 : Calls Tryz.prog 154 #[.string ⟨#[107,105,110,100,32,115,107,101,119]⟩, .string ⟨#[32]⟩] w fun e w' => e = .returned (.int .i64 4) ∧ w = w' := by
    go_enter Tryz.func154, Tryz.ntmps154
    go_wp2_with (go_at_call 97; refine h0.mono ?_; rintro e w' ⟨rfl,rfl⟩)
    go_ret
    exact ⟨rfl,rfl⟩
  go_enter Tryz.func124, Tryz.ntmps124
  go_wp2_with (go_at_call 154; refine h1.mono ?_; rintro e w' ⟨rfl,rfl⟩)
  go_ret
  exact ⟨rfl,rfl⟩
theorem Tryz.infoStr : (Tryz.prog.info? 9).map (fun i => (i.zero, i.size, i.bytes)) = some (some (.string ⟨#[]⟩), 1,16) := by kernel_rfl
theorem made2 : madeCells #[.string ⟨#[]⟩] 2 = #[.string ⟨#[]⟩, .string ⟨#[]⟩] := by
  have h : Array.range 2 = #[0,1] := by decide
  simp [madeCells, h]
theorem made3 : madeCells #[.string ⟨#[]⟩] 3 = #[.string ⟨#[]⟩, .string ⟨#[]⟩, .string ⟨#[]⟩] := by
  have h : Array.range 3 = #[0,1,2] := by decide
  simp [madeCells, h]
theorem gen_sort (w : World) : Calls Tryz.prog 99 #[.string ⟨#[115,111,114,116,32,50,32,49]⟩, .string ⟨#[32]⟩, .int .i64 0, .int .i64 (-1)] w fun e w' => e = .returned (.slice (some ⟨w.heap.size,0,none⟩) 3 3) ∧ Keeps [] w w' ∧ w'.heap[w.heap.size]? = some (.cells #[.string ⟨#[115,111,114,116]⟩, .string ⟨#[50]⟩, .string ⟨#[49]⟩] 9 (0,0)) := by
  have hmk : ∀ u : World, (Instr.makeSlice 65 (.int .i64 3) (.int .i64 3)).run Tryz.prog u = .ok (.slice (some ⟨u.heap.size,0,none⟩) 3 3) (u.alloc (.cells #[.string ⟨#[]⟩, .string ⟨#[]⟩, .string ⟨#[]⟩] 9)) := fun u => by
    have := run_make_row' (P := Tryz.prog) 65 9 (.string ⟨#[]⟩) 16 Tryz.underlying65 Tryz.infoStr rfl .i64 .i64 3 (by omega) (by omega) u
    rwa [made3] at this
  have hct := count_sort
  have h0 := index_sort0
  have h1 := index_sort1
  obtain ⟨w1, hw1⟩ : ∃ w1, w1 = w.alloc (.cells #[.string ⟨#[]⟩, .string ⟨#[]⟩, .string ⟨#[]⟩] 9) := ⟨_,rfl⟩
  have hb : w1.heap[w.heap.size]? = some (.cells #[.string ⟨#[]⟩, .string ⟨#[]⟩, .string ⟨#[]⟩] 9 (0,0)) := by rw [hw1]; exact blk_alloc_new _
  have k1 : Keeps [] w w1 := by rw [hw1]; exact (Keeps.refl _ _).alloc _
  go_enter Tryz.func99, Tryz.ntmps99
  go_upto_region 9 with (go_at_call 123; refine (hct _).mono ?_; rintro e w' ⟨rfl,rfl⟩)
  rw [← hw1]
  clear hw1
  go_wp2_with fail
  go_loopg [0,10,11] 3 (fun k s i m wr => (k = 3 ∧ s = .string ⟨#[115,111,114,116,32,50,32,49]⟩ ∧ i = .int .i64 0 ∧ Keeps [] w wr ∧ wr.heap[w.heap.size]? = some (.cells #[.string ⟨#[]⟩, .string ⟨#[]⟩, .string ⟨#[]⟩] 9 (0,0)))
    ∨ (k = 2 ∧ s = .string ⟨#[50,32,49]⟩ ∧ i = .int .i64 1 ∧ Keeps [] w wr ∧ wr.heap[w.heap.size]? = some (.cells #[.string ⟨#[115,111,114,116]⟩, .string ⟨#[]⟩, .string ⟨#[]⟩] 9 (0,0)))
    ∨ (k = 1 ∧ s = .string ⟨#[49]⟩ ∧ i = .int .i64 2 ∧ Keeps [] w wr ∧ wr.heap[w.heap.size]? = some (.cells #[.string ⟨#[115,111,114,116]⟩, .string ⟨#[50]⟩, .string ⟨#[]⟩] 9 (0,0))))
  case atStart => exact .inl ⟨rfl,rfl,rfl, k1, hb⟩
  case round =>
    clear hb k1
    rcases hrel with ⟨hk,rfl,rfl, kk, bb⟩ | ⟨hk,rfl,rfl, kk, bb⟩ | ⟨hk,rfl,rfl, kk, bb⟩
    · have hf : wr.frozen? ⟨w.heap.size,0,none⟩ = false := frozen_of_blk bb
      have hc : wr.cell? ⟨w.heap.size,0,none⟩ = some (.string ⟨#[]⟩) := by rw [cell_of_blk bb]; rfl
      have hs : (wr.setCell ⟨w.heap.size,0,none⟩ (.string ⟨#[115,111,114,116]⟩)).heap[w.heap.size]? = some (.cells #[.string ⟨#[115,111,114,116]⟩, .string ⟨#[]⟩, .string ⟨#[]⟩] 9 (0,0)) := (blk_setCell _ bb).trans rfl
      have hkk := kk.setCell (p := ⟨w.heap.size,0,none⟩) (.inr (Nat.le_refl _)) (.string ⟨#[115,111,114,116]⟩)
      have HS := Lib.hid hs
      have HK := Lib.hid hkk
      clear hs hkk kk bb
      go_wp2_with (go_at_call 124; refine (h0 _).mono ?_; rintro e w' ⟨rfl,rfl⟩)
      go_roundg 2
      case measure => omega
      case rel => exact .inr (.inl ⟨rfl,rfl,rfl, HK.out, HS.out⟩)
    · have hf : wr.frozen? ⟨w.heap.size,1,none⟩ = false := frozen_of_blk bb
      have hc : wr.cell? ⟨w.heap.size,1,none⟩ = some (.string ⟨#[]⟩) := by rw [cell_of_blk bb]; rfl
      have hs : (wr.setCell ⟨w.heap.size,1,none⟩ (.string ⟨#[50]⟩)).heap[w.heap.size]? = some (.cells #[.string ⟨#[115,111,114,116]⟩, .string ⟨#[50]⟩, .string ⟨#[]⟩] 9 (0,0)) := (blk_setCell _ bb).trans rfl
      have hkk := kk.setCell (p := ⟨w.heap.size,1,none⟩) (.inr (Nat.le_refl _)) (.string ⟨#[50]⟩)
      have HS := Lib.hid hs
      have HK := Lib.hid hkk
      clear hs hkk kk bb
      go_wp2_with (go_at_call 124; refine (h1 _).mono ?_; rintro e w' ⟨rfl,rfl⟩)
      go_roundg 1
      case measure => omega
      case rel => exact .inr (.inr (⟨rfl,rfl,rfl, HK.out, HS.out⟩))
    · have hf : wr.frozen? ⟨w.heap.size,2,none⟩ = false := frozen_of_blk bb
      have hc : wr.cell? ⟨w.heap.size,2,none⟩ = some (.string ⟨#[]⟩) := by rw [cell_of_blk bb]; rfl
      have hs : (wr.setCell ⟨w.heap.size,2,none⟩ (.string ⟨#[49]⟩)).heap[w.heap.size]? = some (.cells #[.string ⟨#[115,111,114,116]⟩, .string ⟨#[50]⟩, .string ⟨#[49]⟩] 9 (0,0)) := (blk_setCell _ bb).trans rfl
      have hkk := kk.setCell (p := ⟨w.heap.size,2,none⟩) (.inr (Nat.le_refl _)) (.string ⟨#[49]⟩)
      have HS := Lib.hid hs
      have HK := Lib.hid hkk
      clear hs hkk kk bb
      go_wp2_with fail
      go_ret
      exact ⟨rfl, HK.out, HS.out⟩
theorem gen_kind (w : World) : Calls Tryz.prog 99 #[.string ⟨#[107,105,110,100,32,115,107,101,119]⟩, .string ⟨#[32]⟩, .int .i64 0, .int .i64 (-1)] w fun e w' => e = .returned (.slice (some ⟨w.heap.size,0,none⟩) 2 2) ∧ Keeps [] w w' ∧ w'.heap[w.heap.size]? = some (.cells #[.string ⟨#[107,105,110,100]⟩, .string ⟨#[115,107,101,119]⟩] 9 (0,0)) := by
  have hmk : ∀ u : World, (Instr.makeSlice 65 (.int .i64 2) (.int .i64 2)).run Tryz.prog u = .ok (.slice (some ⟨u.heap.size,0,none⟩) 2 2) (u.alloc (.cells #[.string ⟨#[]⟩, .string ⟨#[]⟩] 9)) := fun u => by
    have := run_make_row' (P := Tryz.prog) 65 9 (.string ⟨#[]⟩) 16 Tryz.underlying65 Tryz.infoStr rfl .i64 .i64 2 (by omega) (by omega) u
    rwa [made2] at this
  have hct := count_kind
  have h0 := index_kind0
  obtain ⟨w1, hw1⟩ : ∃ w1, w1 = w.alloc (.cells #[.string ⟨#[]⟩, .string ⟨#[]⟩] 9) := ⟨_,rfl⟩
  have hb : w1.heap[w.heap.size]? = some (.cells #[.string ⟨#[]⟩, .string ⟨#[]⟩] 9 (0,0)) := by rw [hw1]; exact blk_alloc_new _
  have k1 : Keeps [] w w1 := by rw [hw1]; exact (Keeps.refl _ _).alloc _
  go_enter Tryz.func99, Tryz.ntmps99
  go_upto_region 9 with (go_at_call 123; refine (hct _).mono ?_; rintro e w' ⟨rfl,rfl⟩)
  rw [← hw1]
  clear hw1
  go_wp2_with fail
  go_loopg [0,10,11] 2 (fun k s i m wr => (k = 2 ∧ s = .string ⟨#[107,105,110,100,32,115,107,101,119]⟩ ∧ i = .int .i64 0 ∧ Keeps [] w wr ∧ wr.heap[w.heap.size]? = some (.cells #[.string ⟨#[]⟩, .string ⟨#[]⟩] 9 (0,0)))
    ∨ (k = 1 ∧ s = .string ⟨#[115,107,101,119]⟩ ∧ i = .int .i64 1 ∧ Keeps [] w wr ∧ wr.heap[w.heap.size]? = some (.cells #[.string ⟨#[107,105,110,100]⟩, .string ⟨#[]⟩] 9 (0,0))))
  case atStart => exact .inl ⟨rfl,rfl,rfl, k1, hb⟩
  case round =>
    clear hb k1
    rcases hrel with ⟨hk,rfl,rfl, kk, bb⟩ | ⟨hk,rfl,rfl, kk, bb⟩
    · have hf : wr.frozen? ⟨w.heap.size,0,none⟩ = false := frozen_of_blk bb
      have hc : wr.cell? ⟨w.heap.size,0,none⟩ = some (.string ⟨#[]⟩) := by rw [cell_of_blk bb]; rfl
      have hs : (wr.setCell ⟨w.heap.size,0,none⟩ (.string ⟨#[107,105,110,100]⟩)).heap[w.heap.size]? = some (.cells #[.string ⟨#[107,105,110,100]⟩, .string ⟨#[]⟩] 9 (0,0)) := (blk_setCell _ bb).trans rfl
      have hkk := kk.setCell (p := ⟨w.heap.size,0,none⟩) (.inr (Nat.le_refl _)) (.string ⟨#[107,105,110,100]⟩)
      have HS := Lib.hid hs
      have HK := Lib.hid hkk
      clear hs hkk kk bb
      go_wp2_with (go_at_call 124; refine (h0 _).mono ?_; rintro e w' ⟨rfl,rfl⟩)
      go_roundg 1
      case measure => omega
      case rel => exact .inr (⟨rfl,rfl,rfl, HK.out, HS.out⟩)
    · have hf : wr.frozen? ⟨w.heap.size,1,none⟩ = false := frozen_of_blk bb
      have hc : wr.cell? ⟨w.heap.size,1,none⟩ = some (.string ⟨#[]⟩) := by rw [cell_of_blk bb]; rfl
      have hs : (wr.setCell ⟨w.heap.size,1,none⟩ (.string ⟨#[115,107,101,119]⟩)).heap[w.heap.size]? = some (.cells #[.string ⟨#[107,105,110,100]⟩, .string ⟨#[115,107,101,119]⟩] 9 (0,0)) := (blk_setCell _ bb).trans rfl
      have hkk := kk.setCell (p := ⟨w.heap.size,1,none⟩) (.inr (Nat.le_refl _)) (.string ⟨#[115,107,101,119]⟩)
      have HS := Lib.hid hs
      have HK := Lib.hid hkk
      clear hs hkk kk bb
      go_wp2_with fail
      go_ret
      exact ⟨rfl, HK.out, HS.out⟩
def SAt (w : World) (g off : Nat) (l : List ByteArray) : Prop := ∀ i s, l[i]? = some s → w.cell? ⟨g, off + i, none⟩ = some (.string s)
theorem Keeps.cell' {w w' : World} {b j : Nat} {u : Value} (k : Keeps [] w w') (e : w.cell? ⟨b,j,none⟩ = some u) : w'.cell? ⟨b,j,none⟩ = some u := by
  have hb := World.block_lt_of_cell? w _ e
  rw [World.cell?_of_block (a := ⟨b,j,none⟩) (k.block b hb (by simp))]; exact e
theorem SAt.keep {w w' : World} {g off : Nat} {l : List ByteArray} (h : SAt w g off l) (k : Keeps [] w w') : SAt w' g off l := fun i s e => k.cell' (h i s e)
theorem SAt.tail {w : World} {g off : Nat} {a : ByteArray} {l : List ByteArray} (h : SAt w g off (a :: l)) : SAt w g (off + 1) l := fun i s e => by
  have := h (i + 1) s e
  rw [show off + 1 + i = off + (i + 1) by omega]; exact this
section
variable (w : World)
theorem index_none (g off cap : Nat) (l : List ByteArray) (x : ByteArray) (h : SAt w g off l) (hx : ∀ s ∈ l, (x.toList == s.toList) = false) (hl : l.length ≤ 65536) :
    Calls Tryz.prog 100 #[.slice (some ⟨g,off,none⟩) l.length cap, .string x] w fun e w' => e = .returned (.int .i64 (-1)) ∧ w = w' := by
  have H := Lib.hid h
  have HX := Lib.hid hx
  clear h hx
  go_enter Tryz.func100, Tryz.ntmps100
  go_wp2_with fail
  go_loopg [5,8] (l.length + 1) (fun k i t wr => ∃ j : Nat, k + j = l.length + 1 ∧ j ≤ l.length ∧ t = .int .i64 j ∧ wr = w)
  case atStart => exact ⟨0,by omega,by omega,rfl,rfl⟩
  case round =>
    obtain ⟨j, hk, hj,rfl,rfl⟩ := hrel
    have HK := Lib.hid hk
    clear hk
    by_cases hi : j < l.length
    · have hi3 : (j : Int) < (l.length : Int) := by omega
      obtain ⟨s, hs⟩ : ∃ s, l[j]? = some s := ⟨_, List.getElem?_eq_getElem hi⟩
      have hc := H.out j s hs
      have he := HX.out s (List.mem_of_getElem? hs)
      clear hs
      go_wp2_with fail
      go_roundg (gk - 1)
      case measure => have := HK.out; omega
      case rel => exact ⟨j + 1,by have := HK.out; omega,by omega,by go_num,rfl⟩
    · obtain rfl : j = l.length := by omega
      go_wp2_with fail
      go_ret
      exact ⟨rfl,rfl⟩
theorem index_some (g off cap : Nat) (l : List ByteArray) (x : ByteArray) (n : Nat) (h : SAt w g off l) (hn : n < l.length) (hx : ∀ i s, i < n → l[i]? = some s → (x.toList == s.toList) = false) (hx' : ∀ s, l[n]? = some s → (x.toList == s.toList) = true) (hl : l.length ≤ 65536) :
    Calls Tryz.prog 100 #[.slice (some ⟨g,off,none⟩) l.length cap, .string x] w fun e w' => e = .returned (.int .i64 n) ∧ w = w' := by
  have H := Lib.hid h
  have HX := Lib.hid hx
  have HX' := Lib.hid hx'
  clear h hx hx'
  go_enter Tryz.func100, Tryz.ntmps100
  go_wp2_with fail
  go_loopg [5,8] (n + 1) (fun k i t wr => ∃ j : Nat, k + j = n + 1 ∧ j ≤ n ∧ t = .int .i64 j ∧ wr = w)
  case atStart => exact ⟨0,by omega,by omega,rfl,rfl⟩
  case round =>
    obtain ⟨j, hk, hj,rfl,rfl⟩ := hrel
    have HK := Lib.hid hk
    clear hk
    have hi3 : (j : Int) < (l.length : Int) := by omega
    obtain ⟨s, hs⟩ : ∃ s, l[j]? = some s := ⟨_, List.getElem?_eq_getElem (by omega)⟩
    have hc := H.out j s hs
    by_cases hi : j < n
    · have he := HX.out j s hi hs
      clear hs
      go_wp2_with fail
      go_roundg (gk - 1)
      case measure => have := HK.out; omega
      case rel => exact ⟨j + 1,by have := HK.out; omega,by omega,by go_num,rfl⟩
    · obtain rfl : j = n := by omega
      have he := HX'.out s hs
      clear hs
      go_wp2_with fail
      go_ret
      exact ⟨rfl,rfl⟩
theorem contains_none (g off cap : Nat) (l : List ByteArray) (x : ByteArray) (h : SAt w g off l) (hx : ∀ s ∈ l, (x.toList == s.toList) = false) (hl : l.length ≤ 65536) :
    Calls Tryz.prog 79 #[.slice (some ⟨g,off,none⟩) l.length cap, .string x] w fun e w' => e = .returned (.bool false) ∧ w = w' := by
  have hi := index_none w g off cap l x h hx hl
  clear h hx
  go_enter Tryz.func79, Tryz.ntmps79
  go_wp2_with (go_at_call 100; refine hi.mono ?_; rintro e w' ⟨rfl,rfl⟩)
  go_ret
  exact ⟨rfl,rfl⟩
theorem verb_sort (d : Value) : Calls Tryz.prog 81 #[d, .string ⟨#[115,111,114,116]⟩] w fun e w' => e = .returned (.func (.func 104) #[d] #[]) ∧ w = w' := by
  have hmf : ∀ (fn : Fn) (first cap : Array Value) (w : World), (Instr.makeFunc fn first cap).run Tryz.prog w = .ok (.func fn first cap) w := fun _ _ _ _ => rfl
  go_enter Tryz.func81, Tryz.ntmps81
  go_wp2_with fail
  go_ret
  exact ⟨rfl,rfl⟩
theorem verb_kind (d : Value) : Calls Tryz.prog 81 #[d, .string ⟨#[107,105,110,100]⟩] w fun e w' => e = .returned (.func (.func 101) #[d] #[]) ∧ w = w' := by
  have hmf : ∀ (fn : Fn) (first cap : Array Value) (w : World), (Instr.makeFunc fn first cap).run Tryz.prog w = .ok (.func fn first cap) w := fun _ _ _ _ => rfl
  go_enter Tryz.func81, Tryz.ntmps81
  go_wp2_with fail
  go_ret
  exact ⟨rfl,rfl⟩
theorem rep_check : Calls Tryz.prog 128 #[.int .i64 0] w fun e w' => e = .returned (.tuple #[]) ∧ w = w' := by
  go_enter Tryz.func128, Tryz.ntmps128
  go_wp2_with fail
  first | go_end0 | refine bodyPost_ret (results_none rfl _ _ _) rfl ?_
  exact ⟨rfl,rfl⟩
theorem rep_want (a : Option Addr) (n c : Nat) (m : Nat) (h : m ≤ n) : Calls Tryz.prog 125 #[.slice a n c, .int .i64 m] w fun e w' => e = .returned (.tuple #[]) ∧ w = w' := by
  have h1 : ¬ (n : Int) < (m : Int) := by omega
  go_enter Tryz.func125, Tryz.ntmps125
  go_wp2_with fail
  first | go_end0 | refine bodyPost_ret (results_none rfl _ _ _) rfl ?_
  exact ⟨rfl,rfl⟩
def kindsW : List ByteArray := [⟨#[]⟩, ⟨#[98,105,110,97,114,121]⟩, ⟨#[100,97,114,121]⟩, ⟨#[98,105,110,111,109,105,97,108]⟩, ⟨#[112,97,105,114,105,110,103]⟩, ⟨#[102,105,98,111,110,97,99,99,105]⟩, ⟨#[108,101,102,116,105,115,116]⟩, ⟨#[115,107,101,119]⟩, ⟨#[108,105,98,114,97,114,121]⟩]
def kindsO : Obj := .cells (kindsW.map Value.string).toArray 9 (0,0)
theorem rep_names : Calls Tryz.prog 126 #[] w fun e w' => e = .returned (.slice (some ⟨w.heap.size,0,none⟩) 9 9) ∧ w' = w.alloc kindsO := by
  go_enter Tryz.func126, Tryz.ntmps126
  go_wp2_with fail
  go_ret
  exact ⟨rfl,rfl⟩
theorem kindsO_at (w : World) : SAt (w.alloc kindsO) w.heap.size 0 kindsW := fun i s e => by
  rw [cell_of_blk (blk_alloc_new (w := w) kindsO), Nat.zero_add]
  simp [e]
end
end Go.Proofs.YtkdbjelhkfdfjaaGreatDoor

