/-
  Contracts that the law rests on. Conditions: none.
-/
import Derived.Test.YtkdbjelhkfdfjaaGreatDoorLv02
import Derived.ChangeKeysEq
import Derived.Deep.AppendLies
import Derived.Deep.Cut
import Derived.Deep.CutBlock
import Derived.Deep.DeepCutAuto
import Derived.Deep.LoopGhost
import Derived.Deep.RegionHeld3
import Derived.Deep.RegionLaw
import Derived.DeepKeys4
import Derived.IntWalk
import Derived.Laws.Entries
import Derived.Laws.IdiomStrings
import Derived.Laws.ResultCell
import Derived.Laws.Rows
import Derived.Laws.StructEq
import Derived.Lib.SliceRun
set_option linter.unusedVariables false
set_option maxRecDepth 100000
set_option maxHeartbeats 32000000
namespace Go.Proofs.YtkdbjelhkfdfjaaGreatDoor
open Go.RowKit
theorem sp32 : ((⟨#[32]⟩ : ByteArray)[0]'(by decide)).toNat = 32 := rfl
theorem count_sort (w : World) : Calls Tryz.prog 123 #[.string ⟨#[115,111,114,116,32,50,32,49]⟩,.string ⟨#[32]⟩] w fun e w' => e = .returned (.int .i64 2) ∧ w = w' := by
  have hx : ∀ u,(callFunc 153 #[.string ⟨#[115,111,114,116,32,50,32,49]⟩,.int .u8 32]).run Tryz.prog u = .ok (.value (.int .i64 2)) u := fun u => by kernel_rfl
  have h32 := sp32
  go_enter Tryz.func123, Tryz.ntmps123
  go_wp2_with fail
  go_ret
  exact ⟨rfl,rfl⟩
theorem count_kind (w : World) : Calls Tryz.prog 123 #[.string ⟨#[107,105,110,100,32,115,107,101,119]⟩,.string ⟨#[32]⟩] w fun e w' => e = .returned (.int .i64 1) ∧ w = w' := by
  have hx : ∀ u,(callFunc 153 #[.string ⟨#[107,105,110,100,32,115,107,101,119]⟩,.int .u8 32]).run Tryz.prog u = .ok (.value (.int .i64 1)) u := fun u => by kernel_rfl
  have h32 := sp32
  go_enter Tryz.func123, Tryz.ntmps123
  go_wp2_with fail
  go_ret
  exact ⟨rfl,rfl⟩
theorem index_sort0 (w : World) : Calls Tryz.prog 124 #[.string ⟨#[115,111,114,116,32,50,32,49]⟩,.string ⟨#[32]⟩] w fun e w' => e = .returned (.int .i64 4) ∧ w = w' := by
  have hx : ∀ u,(callFunc 121 #[.string ⟨#[115,111,114,116,32,50,32,49]⟩,.int .u8 32]).run Tryz.prog u = .ok (.value (.int .i64 4)) u := fun u => by kernel_rfl
  have h0 : Calls Tryz.prog 97 #[.string ⟨#[115,111,114,116,32,50,32,49]⟩,.int .u8 32] w fun e w' => e = .returned (.int .i64 4) ∧ w = w' := by
    go_enter Tryz.func97, Tryz.ntmps97
    go_wp2_with fail
    go_ret
    exact ⟨rfl,rfl⟩
  have h32 := sp32
  have h1 : Calls Tryz.prog 154 #[.string ⟨#[115,111,114,116,32,50,32,49]⟩,.string ⟨#[32]⟩] w fun e w' => e = .returned (.int .i64 4) ∧ w = w' := by
    go_enter Tryz.func154, Tryz.ntmps154
    go_wp2_with (go_at_call 97; refine h0.mono ?_; rintro e w' ⟨rfl,rfl⟩)
    go_ret
    exact ⟨rfl,rfl⟩
  go_enter Tryz.func124, Tryz.ntmps124
  go_wp2_with (go_at_call 154; refine h1.mono ?_; rintro e w' ⟨rfl,rfl⟩)
  go_ret
  exact ⟨rfl,rfl⟩
theorem index_sort1 (w : World) : Calls Tryz.prog 124 #[.string ⟨#[50,32,49]⟩,.string ⟨#[32]⟩] w fun e w' => e = .returned (.int .i64 1) ∧ w = w' := by
  have hx : ∀ u,(callFunc 121 #[.string ⟨#[50,32,49]⟩,.int .u8 32]).run Tryz.prog u = .ok (.value (.int .i64 1)) u := fun u => by kernel_rfl
  have h0 : Calls Tryz.prog 97 #[.string ⟨#[50,32,49]⟩,.int .u8 32] w fun e w' => e = .returned (.int .i64 1) ∧ w = w' := by
    go_enter Tryz.func97, Tryz.ntmps97
    go_wp2_with fail
    go_ret
    exact ⟨rfl,rfl⟩
  have h32 := sp32
  have h1 : Calls Tryz.prog 154 #[.string ⟨#[50,32,49]⟩,.string ⟨#[32]⟩] w fun e w' => e = .returned (.int .i64 1) ∧ w = w' := by
    go_enter Tryz.func154, Tryz.ntmps154
    go_wp2_with (go_at_call 97; refine h0.mono ?_; rintro e w' ⟨rfl,rfl⟩)
    go_ret
    exact ⟨rfl,rfl⟩
  go_enter Tryz.func124, Tryz.ntmps124
  go_wp2_with (go_at_call 154; refine h1.mono ?_; rintro e w' ⟨rfl,rfl⟩)
  go_ret
  exact ⟨rfl,rfl⟩
theorem index_kind0 (w : World) : Calls Tryz.prog 124 #[.string ⟨#[107,105,110,100,32,115,107,101,119]⟩,.string ⟨#[32]⟩] w fun e w' => e = .returned (.int .i64 4) ∧ w = w' := by
  have hx : ∀ u,(callFunc 121 #[.string ⟨#[107,105,110,100,32,115,107,101,119]⟩,.int .u8 32]).run Tryz.prog u = .ok (.value (.int .i64 4)) u := fun u => by kernel_rfl
  have h0 : Calls Tryz.prog 97 #[.string ⟨#[107,105,110,100,32,115,107,101,119]⟩,.int .u8 32] w fun e w' => e = .returned (.int .i64 4) ∧ w = w' := by
    go_enter Tryz.func97, Tryz.ntmps97
    go_wp2_with fail
    go_ret
    exact ⟨rfl,rfl⟩
  have h32 := sp32
  have h1 : Calls Tryz.prog 154 #[.string ⟨#[107,105,110,100,32,115,107,101,119]⟩,.string ⟨#[32]⟩] w fun e w' => e = .returned (.int .i64 4) ∧ w = w' := by
    go_enter Tryz.func154, Tryz.ntmps154
    go_wp2_with (go_at_call 97; refine h0.mono ?_; rintro e w' ⟨rfl,rfl⟩)
    go_ret
    exact ⟨rfl,rfl⟩
  go_enter Tryz.func124, Tryz.ntmps124
  go_wp2_with (go_at_call 154; refine h1.mono ?_; rintro e w' ⟨rfl,rfl⟩)
  go_ret
  exact ⟨rfl,rfl⟩
theorem Tryz.infoStr : (Tryz.prog.info? 9).map (fun i => (i.zero, i.size, i.bytes)) = some (some (.string ⟨#[]⟩), 1,16) := by kernel_rfl
theorem made2 : madeCells #[.string ⟨#[]⟩] 2 = #[.string ⟨#[]⟩,.string ⟨#[]⟩] := by
  have h : Array.range 2 = #[0,1] := by decide
  simp [madeCells, h]
theorem made3 : madeCells #[.string ⟨#[]⟩] 3 = #[.string ⟨#[]⟩,.string ⟨#[]⟩,.string ⟨#[]⟩] := by
  have h : Array.range 3 = #[0,1,2] := by decide
  simp [madeCells, h]
theorem gen_sort (w : World) : Calls Tryz.prog 99 #[.string ⟨#[115,111,114,116,32,50,32,49]⟩,.string ⟨#[32]⟩,.int .i64 0,.int .i64 (-1)] w fun e w' => e = .returned (.slice (some ⟨w.heap.size,0,none⟩) 3 3) ∧ Keeps [] w w' ∧ w'.heap[w.heap.size]? = some (.cells #[.string ⟨#[115,111,114,116]⟩,.string ⟨#[50]⟩,.string ⟨#[49]⟩] 9 (0,0)) := by
  have hmk : ∀ u : World,(Instr.makeSlice 65 (.int .i64 3) (.int .i64 3)).run Tryz.prog u = .ok (.slice (some ⟨u.heap.size,0,none⟩) 3 3) (u.alloc (.cells #[.string ⟨#[]⟩,.string ⟨#[]⟩,.string ⟨#[]⟩] 9)) := fun u => by
    have := run_make_row' (P := Tryz.prog) 65 9 (.string ⟨#[]⟩) 16 Tryz.underlying65 Tryz.infoStr rfl .i64 .i64 3 (by omega) (by omega) u
    rwa [made3] at this
  have hct := count_sort
  have h0 := index_sort0
  have h1 := index_sort1
  obtain ⟨w1, hw1⟩ : ∃ w1, w1 = w.alloc (.cells #[.string ⟨#[]⟩,.string ⟨#[]⟩,.string ⟨#[]⟩] 9) := ⟨_,rfl⟩
  have hb : w1.heap[w.heap.size]? = some (.cells #[.string ⟨#[]⟩,.string ⟨#[]⟩,.string ⟨#[]⟩] 9 (0,0)) := by rw [hw1]; exact blk_alloc_new _
  have k1 : Keeps [] w w1 := by rw [hw1]; exact (Keeps.refl _ _).alloc _
  go_enter Tryz.func99, Tryz.ntmps99
  go_upto_region 9 with (go_at_call 123; refine (hct _).mono ?_; rintro e w' ⟨rfl,rfl⟩)
  rw [<- hw1]
  clear hw1
  go_wp2_with fail
  go_loopg [0,10,11] 3 (fun k s i m wr => (k = 3 ∧ s = .string ⟨#[115,111,114,116,32,50,32,49]⟩ ∧ i = .int .i64 0 ∧ Keeps [] w wr ∧ wr.heap[w.heap.size]? = some (.cells #[.string ⟨#[]⟩,.string ⟨#[]⟩,.string ⟨#[]⟩] 9 (0,0)))
    ∨ (k = 2 ∧ s = .string ⟨#[50,32,49]⟩ ∧ i = .int .i64 1 ∧ Keeps [] w wr ∧ wr.heap[w.heap.size]? = some (.cells #[.string ⟨#[115,111,114,116]⟩,.string ⟨#[]⟩,.string ⟨#[]⟩] 9 (0,0)))
    ∨ (k = 1 ∧ s = .string ⟨#[49]⟩ ∧ i = .int .i64 2 ∧ Keeps [] w wr ∧ wr.heap[w.heap.size]? = some (.cells #[.string ⟨#[115,111,114,116]⟩,.string ⟨#[50]⟩,.string ⟨#[]⟩] 9 (0,0))))
  case atStart => exact .inl ⟨rfl,rfl,rfl, k1, hb⟩
  case round =>
    clear hb k1
    rcases hrel with ⟨hk,rfl,rfl, kk, bb⟩ | ⟨hk,rfl,rfl, kk, bb⟩ | ⟨hk,rfl,rfl, kk, bb⟩
    · have hf : wr.frozen? ⟨w.heap.size,0,none⟩ = false := frozen_of_blk bb
      have hc : wr.cell? ⟨w.heap.size,0,none⟩ = some (.string ⟨#[]⟩) := by rw [cell_of_blk bb]; rfl
      have hs : (wr.setCell ⟨w.heap.size,0,none⟩ (.string ⟨#[115,111,114,116]⟩)).heap[w.heap.size]? = some (.cells #[.string ⟨#[115,111,114,116]⟩,.string ⟨#[]⟩,.string ⟨#[]⟩] 9 (0,0)) := (blk_setCell _ bb).trans rfl
      have hkk := kk.setCell (p := ⟨w.heap.size,0,none⟩) (.inr (Nat.le_refl _)) (.string ⟨#[115,111,114,116]⟩)
      have HS := Lib.hid hs
      have HK := Lib.hid hkk
      clear hs hkk kk bb
      go_wp2_with (go_at_call 124; refine (h0 _).mono ?_; rintro e w' ⟨rfl,rfl⟩)
      go_roundg 2
      case measure => omega
      case rel => exact .inr (.inl ⟨rfl,rfl,rfl, HK.out, HS.out⟩)
    · have hf : wr.frozen? ⟨w.heap.size,1,none⟩ = false := frozen_of_blk bb
      have hc : wr.cell? ⟨w.heap.size,1,none⟩ = some (.string ⟨#[]⟩) := by rw [cell_of_blk bb]; rfl
      have hs : (wr.setCell ⟨w.heap.size,1,none⟩ (.string ⟨#[50]⟩)).heap[w.heap.size]? = some (.cells #[.string ⟨#[115,111,114,116]⟩,.string ⟨#[50]⟩,.string ⟨#[]⟩] 9 (0,0)) := (blk_setCell _ bb).trans rfl
      have hkk := kk.setCell (p := ⟨w.heap.size,1,none⟩) (.inr (Nat.le_refl _)) (.string ⟨#[50]⟩)
      have HS := Lib.hid hs
      have HK := Lib.hid hkk
      clear hs hkk kk bb
      go_wp2_with (go_at_call 124; refine (h1 _).mono ?_; rintro e w' ⟨rfl,rfl⟩)
      go_roundg 1
      case measure => omega
      case rel => exact .inr (.inr (⟨rfl,rfl,rfl, HK.out, HS.out⟩))
    · have hf : wr.frozen? ⟨w.heap.size,2,none⟩ = false := frozen_of_blk bb
      have hc : wr.cell? ⟨w.heap.size,2,none⟩ = some (.string ⟨#[]⟩) := by rw [cell_of_blk bb]; rfl
      have hs : (wr.setCell ⟨w.heap.size,2,none⟩ (.string ⟨#[49]⟩)).heap[w.heap.size]? = some (.cells #[.string ⟨#[115,111,114,116]⟩,.string ⟨#[50]⟩,.string ⟨#[49]⟩] 9 (0,0)) := (blk_setCell _ bb).trans rfl
      have hkk := kk.setCell (p := ⟨w.heap.size,2,none⟩) (.inr (Nat.le_refl _)) (.string ⟨#[49]⟩)
      have HS := Lib.hid hs
      have HK := Lib.hid hkk
      clear hs hkk kk bb
      go_wp2_with fail
      go_ret
      exact ⟨rfl, HK.out, HS.out⟩
theorem gen_kind (w : World) : Calls Tryz.prog 99 #[.string ⟨#[107,105,110,100,32,115,107,101,119]⟩,.string ⟨#[32]⟩,.int .i64 0,.int .i64 (-1)] w fun e w' => e = .returned (.slice (some ⟨w.heap.size,0,none⟩) 2 2) ∧ Keeps [] w w' ∧ w'.heap[w.heap.size]? = some (.cells #[.string ⟨#[107,105,110,100]⟩,.string ⟨#[115,107,101,119]⟩] 9 (0,0)) := by
  have hmk : ∀ u : World,(Instr.makeSlice 65 (.int .i64 2) (.int .i64 2)).run Tryz.prog u = .ok (.slice (some ⟨u.heap.size,0,none⟩) 2 2) (u.alloc (.cells #[.string ⟨#[]⟩,.string ⟨#[]⟩] 9)) := fun u => by
    have := run_make_row' (P := Tryz.prog) 65 9 (.string ⟨#[]⟩) 16 Tryz.underlying65 Tryz.infoStr rfl .i64 .i64 2 (by omega) (by omega) u
    rwa [made2] at this
  have hct := count_kind
  have h0 := index_kind0
  obtain ⟨w1, hw1⟩ : ∃ w1, w1 = w.alloc (.cells #[.string ⟨#[]⟩,.string ⟨#[]⟩] 9) := ⟨_,rfl⟩
  have hb : w1.heap[w.heap.size]? = some (.cells #[.string ⟨#[]⟩,.string ⟨#[]⟩] 9 (0,0)) := by rw [hw1]; exact blk_alloc_new _
  have k1 : Keeps [] w w1 := by rw [hw1]; exact (Keeps.refl _ _).alloc _
  go_enter Tryz.func99, Tryz.ntmps99
  go_upto_region 9 with (go_at_call 123; refine (hct _).mono ?_; rintro e w' ⟨rfl,rfl⟩)
  rw [<- hw1]
  clear hw1
  go_wp2_with fail
  go_loopg [0,10,11] 2 (fun k s i m wr => (k = 2 ∧ s = .string ⟨#[107,105,110,100,32,115,107,101,119]⟩ ∧ i = .int .i64 0 ∧ Keeps [] w wr ∧ wr.heap[w.heap.size]? = some (.cells #[.string ⟨#[]⟩,.string ⟨#[]⟩] 9 (0,0)))
    ∨ (k = 1 ∧ s = .string ⟨#[115,107,101,119]⟩ ∧ i = .int .i64 1 ∧ Keeps [] w wr ∧ wr.heap[w.heap.size]? = some (.cells #[.string ⟨#[107,105,110,100]⟩,.string ⟨#[]⟩] 9 (0,0))))
  case atStart => exact .inl ⟨rfl,rfl,rfl, k1, hb⟩
  case round =>
    clear hb k1
    rcases hrel with ⟨hk,rfl,rfl, kk, bb⟩ | ⟨hk,rfl,rfl, kk, bb⟩
    · have hf : wr.frozen? ⟨w.heap.size,0,none⟩ = false := frozen_of_blk bb
      have hc : wr.cell? ⟨w.heap.size,0,none⟩ = some (.string ⟨#[]⟩) := by rw [cell_of_blk bb]; rfl
      have hs : (wr.setCell ⟨w.heap.size,0,none⟩ (.string ⟨#[107,105,110,100]⟩)).heap[w.heap.size]? = some (.cells #[.string ⟨#[107,105,110,100]⟩,.string ⟨#[]⟩] 9 (0,0)) := (blk_setCell _ bb).trans rfl
      have hkk := kk.setCell (p := ⟨w.heap.size,0,none⟩) (.inr (Nat.le_refl _)) (.string ⟨#[107,105,110,100]⟩)
      have HS := Lib.hid hs
      have HK := Lib.hid hkk
      clear hs hkk kk bb
      go_wp2_with (go_at_call 124; refine (h0 _).mono ?_; rintro e w' ⟨rfl,rfl⟩)
      go_roundg 1
      case measure => omega
      case rel => exact .inr (⟨rfl,rfl,rfl, HK.out, HS.out⟩)
    · have hf : wr.frozen? ⟨w.heap.size,1,none⟩ = false := frozen_of_blk bb
      have hc : wr.cell? ⟨w.heap.size,1,none⟩ = some (.string ⟨#[]⟩) := by rw [cell_of_blk bb]; rfl
      have hs : (wr.setCell ⟨w.heap.size,1,none⟩ (.string ⟨#[115,107,101,119]⟩)).heap[w.heap.size]? = some (.cells #[.string ⟨#[107,105,110,100]⟩,.string ⟨#[115,107,101,119]⟩] 9 (0,0)) := (blk_setCell _ bb).trans rfl
      have hkk := kk.setCell (p := ⟨w.heap.size,1,none⟩) (.inr (Nat.le_refl _)) (.string ⟨#[115,107,101,119]⟩)
      have HS := Lib.hid hs
      have HK := Lib.hid hkk
      clear hs hkk kk bb
      go_wp2_with fail
      go_ret
      exact ⟨rfl, HK.out, HS.out⟩
end Go.Proofs.YtkdbjelhkfdfjaaGreatDoor

