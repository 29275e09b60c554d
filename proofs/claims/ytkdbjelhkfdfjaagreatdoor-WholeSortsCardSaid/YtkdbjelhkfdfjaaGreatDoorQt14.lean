/-
  Contracts that the law rests on. Conditions: none.
-/
import Derived.Test.YtkdbjelhkfdfjaaGreatDoorQs23
import Derived.Test.YtkdbjelhkfdfjaaGreatDoorQs45
import Derived.Below
import Derived.ChangeOld
import Derived.Deep.Slices
import Derived.Deep.Strs
import Derived.Defers
import Derived.OpenShut
import Derived.ProofKit
import Derived.Recover
import Derived.ShutString
set_option linter.unusedVariables false
set_option maxRecDepth 100000
set_option maxHeartbeats 16000000
namespace Go.Proofs.YtkdbjelhkfdfjaaGreatDoor
open Go.RowKit
def dig (i : Nat) : ByteArray := ⟨#[(48 + i).toUInt8]⟩
theorem small_calls (w : World) (i : Nat) (hi : i < 3) : Calls Tryz.prog 147 #[.int .i64 (i : Int)] w fun e w' => e = .returned (.string (dig i)) ∧ w = w' := by
  have h : i = 0 ∨ i = 1 ∨ i = 2 := by omega
  rcases h with rfl | rfl | rfl
  all_goals
    go_enter Tryz.func147, Tryz.ntmps147
    go_wp2_with fail
    go_ret
    exact ⟨rfl,rfl⟩
theorem formatInt0_calls (w : World) (i : Nat) (hi : i < 3) : Calls Tryz.prog 120 #[.int .i64 (i : Int),.int .i64 10] w fun e w' => e = .returned (.string (dig i)) ∧ w = w' := by
  have hs := small_calls w i hi
  have h1 : (i : Int) < 100 := by omega
  go_enter Tryz.func120, Tryz.ntmps120
  go_wp2_with (go_at_call 147; refine hs.mono ?_; rintro e w' ⟨rfl,rfl⟩)
  go_ret
  exact ⟨rfl,rfl⟩
theorem formatInt_calls (w : World) (i : Nat) (hi : i < 3) : Calls Tryz.prog 96 #[.int .i64 (i : Int),.int .i64 10] w fun e w' => e = .returned (.string (dig i)) ∧ w = w' := by
  have hs := formatInt0_calls w i hi
  go_enter Tryz.func96, Tryz.ntmps96
  go_wp2_with (go_at_call 120; refine hs.mono ?_; rintro e w' ⟨rfl,rfl⟩)
  go_ret
  exact ⟨rfl,rfl⟩
theorem digits_calls (w : World) (i : Nat) (hi : i < 3) : Calls Tryz.prog 74 #[.int .i64 (i : Int)] w fun e w' => e = .returned (.string (dig i)) ∧ w = w' := by
  have hs := formatInt_calls w i hi
  go_enter Tryz.func74, Tryz.ntmps74
  go_wp2_with (go_at_call 96; refine hs.mono ?_; rintro e w' ⟨rfl,rfl⟩)
  go_ret
  exact ⟨rfl,rfl⟩
theorem bytesRow_one (b : UInt8) (n : Nat) : bytesRow ⟨#[b]⟩ n = #[Value.int .u8 (b.toNat : Int)] ++ Array.replicate (n - 1) (Value.int .u8 0) := by
  have h : ByteArray.size ⟨#[b]⟩ = 1 := rfl
  unfold bytesRow
  rw [h]
  simp
theorem bytes_one (w : World) (b : UInt8) : ∃ cap w2,(convert 9 120 (.string ⟨#[b]⟩)).run Tryz.prog w = .ok (.slice (some ⟨w.heap.size,0,none⟩) 1 cap) w2 ∧ Keeps [] w w2 ∧ w2.cell? ⟨w.heap.size,0,none⟩ = some (.int .u8 (b.toNat : Int)) := by
  refine ⟨_, _, run_bytes_of_string w 9 120 5 ⟨#[b]⟩ Tryz.underlying9 Tryz.underlying120 Tryz.underlying5,((Keeps.refl _ _).drew).alloc _,?_⟩
  have h := blk_alloc_new (w := w.drew) (.cells (bytesRow ⟨#[b]⟩ (grownCap w (ByteArray.size ⟨#[b]⟩) 0 5)) 5 ((bytesRow ⟨#[b]⟩ (grownCap w (ByteArray.size ⟨#[b]⟩) 0 5)).size,(bytesRow ⟨#[b]⟩ (grownCap w (ByteArray.size ⟨#[b]⟩) 0 5)).size + 1))
  refine (cell_of_blk (w := w.drew.alloc _) (b := w.heap.size) h).trans ?_
  rw [bytesRow_one, Array.getElem?_append_left (show 0 < 1 from by decide)]
  rfl
theorem parseUint_0 (w : World) : Calls Tryz.prog 239 #[.string ⟨#[48]⟩,.int .i64 10,.int .i64 64] w fun e w' => e = .returned (.tuple #[.int .u64 0,.nilIface]) ∧ Keeps [] w w' := by
  obtain ⟨cap, w2, hr, hk, hc⟩ := bytes_one w 48
  have hww : IntKind.u64.wrap (IntKind.u64.wrap 18446744073709551616 - 1) = 18446744073709551615 := by decide
  have hc2 : w2.cell? ⟨w.heap.size,0,none⟩ = some (.int .u8 48) := hc
  have HK := Lib.hid hk
  clear hk hc
  go_enter Tryz.func239, Tryz.ntmps239
  go_wp2_with fail
  go_loopg [12,13,101] 2 (fun k z a t wr => (k = 2 ∧ z = .bool false ∧ a = .int .u64 0 ∧ t = .int .i64 0 ∧ wr = w2) ∨ (k = 1 ∧ z = .bool false ∧ a = .int .u64 0 ∧ t = .int .i64 1 ∧ wr = w2))
  case atStart => exact .inl ⟨rfl,rfl,rfl,rfl,rfl⟩
  case round =>
    rcases hrel with ⟨hk,rfl,rfl,rfl,rfl⟩ | ⟨hk,rfl,rfl,rfl,rfl⟩
    · go_wp2_with fail
      go_roundg 1
      case measure => omega
      case rel => exact .inr ⟨rfl,rfl,by first | rfl | go_num,by first | rfl | go_num,rfl⟩
    · go_wp2_with fail
      go_ret2
      exact ⟨rfl, HK.out⟩
theorem parseUint_1 (w : World) : Calls Tryz.prog 239 #[.string ⟨#[49]⟩,.int .i64 10,.int .i64 64] w fun e w' => e = .returned (.tuple #[.int .u64 1,.nilIface]) ∧ Keeps [] w w' := by
  obtain ⟨cap, w2, hr, hk, hc⟩ := bytes_one w 49
  have hww : IntKind.u64.wrap (IntKind.u64.wrap 18446744073709551616 - 1) = 18446744073709551615 := by decide
  have hc2 : w2.cell? ⟨w.heap.size,0,none⟩ = some (.int .u8 49) := hc
  have HK := Lib.hid hk
  clear hk hc
  go_enter Tryz.func239, Tryz.ntmps239
  go_wp2_with fail
  go_loopg [12,13,101] 2 (fun k z a t wr => (k = 2 ∧ z = .bool false ∧ a = .int .u64 0 ∧ t = .int .i64 0 ∧ wr = w2) ∨ (k = 1 ∧ z = .bool false ∧ a = .int .u64 1 ∧ t = .int .i64 1 ∧ wr = w2))
  case atStart => exact .inl ⟨rfl,rfl,rfl,rfl,rfl⟩
  case round =>
    rcases hrel with ⟨hk,rfl,rfl,rfl,rfl⟩ | ⟨hk,rfl,rfl,rfl,rfl⟩
    · go_wp2_with fail
      go_roundg 1
      case measure => omega
      case rel => exact .inr ⟨rfl,rfl,by first | rfl | go_num,by first | rfl | go_num,rfl⟩
    · go_wp2_with fail
      go_ret2
      exact ⟨rfl, HK.out⟩
theorem parseUint_2 (w : World) : Calls Tryz.prog 239 #[.string ⟨#[50]⟩,.int .i64 10,.int .i64 64] w fun e w' => e = .returned (.tuple #[.int .u64 2,.nilIface]) ∧ Keeps [] w w' := by
  obtain ⟨cap, w2, hr, hk, hc⟩ := bytes_one w 50
  have hww : IntKind.u64.wrap (IntKind.u64.wrap 18446744073709551616 - 1) = 18446744073709551615 := by decide
  have hc2 : w2.cell? ⟨w.heap.size,0,none⟩ = some (.int .u8 50) := hc
  have HK := Lib.hid hk
  clear hk hc
  go_enter Tryz.func239, Tryz.ntmps239
  go_wp2_with fail
  go_loopg [12,13,101] 2 (fun k z a t wr => (k = 2 ∧ z = .bool false ∧ a = .int .u64 0 ∧ t = .int .i64 0 ∧ wr = w2) ∨ (k = 1 ∧ z = .bool false ∧ a = .int .u64 2 ∧ t = .int .i64 1 ∧ wr = w2))
  case atStart => exact .inl ⟨rfl,rfl,rfl,rfl,rfl⟩
  case round =>
    rcases hrel with ⟨hk,rfl,rfl,rfl,rfl⟩ | ⟨hk,rfl,rfl,rfl,rfl⟩
    · go_wp2_with fail
      go_roundg 1
      case measure => omega
      case rel => exact .inr ⟨rfl,rfl,by first | rfl | go_num,by first | rfl | go_num,rfl⟩
    · go_wp2_with fail
      go_ret2
      exact ⟨rfl, HK.out⟩
theorem parseInt0_0 (w : World) : Calls Tryz.prog 210 #[.string ⟨#[48]⟩,.int .i64 10,.int .i64 64] w fun e w' => e = .returned (.tuple #[.int .i64 0,.nilIface]) ∧ Keeps [] w w' := by
  have hp := parseUint_0 w
  go_enter Tryz.func210, Tryz.ntmps210
  go_wp2_with (go_at_call 239; refine hp.mono ?_; rintro e w2 ⟨rfl, hk⟩; have HK := Lib.hid hk; clear hk)
  go_ret2
  exact ⟨rfl, HK.out⟩
theorem parseInt_0 (w : World) : Calls Tryz.prog 183 #[.string ⟨#[48]⟩,.int .i64 10,.int .i64 64] w fun e w' => e = .returned (.tuple #[.int .i64 0,.nilIface]) ∧ Keeps [] w w' := by
  have hp := parseInt0_0 w
  go_enter Tryz.func183, Tryz.ntmps183
  go_wp2_with (go_at_call 210; refine hp.mono ?_; rintro e w2 ⟨rfl, hk⟩; have HK := Lib.hid hk; clear hk)
  go_ret2
  exact ⟨rfl, HK.out⟩
theorem number_0 (w : World) : Calls Tryz.prog 155 #[.string ⟨#[48]⟩] w fun e w' => e = .returned (.tuple #[.int .i64 0,.bool true]) ∧ Keeps [] w w' := by
  have hp := parseInt_0 w
  have hd : ∀ u, Calls Tryz.prog 74 #[.int .i64 0] u fun e w' => e = .returned (.string ⟨#[48]⟩) ∧ u = w' := fun u => digits_calls u 0 (by omega)
  go_enter Tryz.func155, Tryz.ntmps155
  go_wp2_with (first
    | (go_at_call 183; refine hp.mono ?_; rintro e w2 ⟨rfl, hk⟩; have HK := Lib.hid hk; clear hk)
    | (go_at_call 74; refine (hd _).mono ?_; rintro e w3 ⟨rfl,rfl⟩))
  go_ret2
  exact ⟨rfl, HK.out⟩
theorem parseInt0_1 (w : World) : Calls Tryz.prog 210 #[.string ⟨#[49]⟩,.int .i64 10,.int .i64 64] w fun e w' => e = .returned (.tuple #[.int .i64 1,.nilIface]) ∧ Keeps [] w w' := by
  have hp := parseUint_1 w
  go_enter Tryz.func210, Tryz.ntmps210
  go_wp2_with (go_at_call 239; refine hp.mono ?_; rintro e w2 ⟨rfl, hk⟩; have HK := Lib.hid hk; clear hk)
  go_ret2
  exact ⟨rfl, HK.out⟩
theorem parseInt_1 (w : World) : Calls Tryz.prog 183 #[.string ⟨#[49]⟩,.int .i64 10,.int .i64 64] w fun e w' => e = .returned (.tuple #[.int .i64 1,.nilIface]) ∧ Keeps [] w w' := by
  have hp := parseInt0_1 w
  go_enter Tryz.func183, Tryz.ntmps183
  go_wp2_with (go_at_call 210; refine hp.mono ?_; rintro e w2 ⟨rfl, hk⟩; have HK := Lib.hid hk; clear hk)
  go_ret2
  exact ⟨rfl, HK.out⟩
theorem number_1 (w : World) : Calls Tryz.prog 155 #[.string ⟨#[49]⟩] w fun e w' => e = .returned (.tuple #[.int .i64 1,.bool true]) ∧ Keeps [] w w' := by
  have hp := parseInt_1 w
  have hd : ∀ u, Calls Tryz.prog 74 #[.int .i64 1] u fun e w' => e = .returned (.string ⟨#[49]⟩) ∧ u = w' := fun u => digits_calls u 1 (by omega)
  go_enter Tryz.func155, Tryz.ntmps155
  go_wp2_with (first
    | (go_at_call 183; refine hp.mono ?_; rintro e w2 ⟨rfl, hk⟩; have HK := Lib.hid hk; clear hk)
    | (go_at_call 74; refine (hd _).mono ?_; rintro e w3 ⟨rfl,rfl⟩))
  go_ret2
  exact ⟨rfl, HK.out⟩
theorem parseInt0_2 (w : World) : Calls Tryz.prog 210 #[.string ⟨#[50]⟩,.int .i64 10,.int .i64 64] w fun e w' => e = .returned (.tuple #[.int .i64 2,.nilIface]) ∧ Keeps [] w w' := by
  have hp := parseUint_2 w
  go_enter Tryz.func210, Tryz.ntmps210
  go_wp2_with (go_at_call 239; refine hp.mono ?_; rintro e w2 ⟨rfl, hk⟩; have HK := Lib.hid hk; clear hk)
  go_ret2
  exact ⟨rfl, HK.out⟩
theorem parseInt_2 (w : World) : Calls Tryz.prog 183 #[.string ⟨#[50]⟩,.int .i64 10,.int .i64 64] w fun e w' => e = .returned (.tuple #[.int .i64 2,.nilIface]) ∧ Keeps [] w w' := by
  have hp := parseInt0_2 w
  go_enter Tryz.func183, Tryz.ntmps183
  go_wp2_with (go_at_call 210; refine hp.mono ?_; rintro e w2 ⟨rfl, hk⟩; have HK := Lib.hid hk; clear hk)
  go_ret2
  exact ⟨rfl, HK.out⟩
theorem number_2 (w : World) : Calls Tryz.prog 155 #[.string ⟨#[50]⟩] w fun e w' => e = .returned (.tuple #[.int .i64 2,.bool true]) ∧ Keeps [] w w' := by
  have hp := parseInt_2 w
  have hd : ∀ u, Calls Tryz.prog 74 #[.int .i64 2] u fun e w' => e = .returned (.string ⟨#[50]⟩) ∧ u = w' := fun u => digits_calls u 2 (by omega)
  go_enter Tryz.func155, Tryz.ntmps155
  go_wp2_with (first
    | (go_at_call 183; refine hp.mono ?_; rintro e w2 ⟨rfl, hk⟩; have HK := Lib.hid hk; clear hk)
    | (go_at_call 74; refine (hd _).mono ?_; rintro e w3 ⟨rfl,rfl⟩))
  go_ret2
  exact ⟨rfl, HK.out⟩
theorem number_dig (w : World) (i : Nat) (hi : i < 3) : Calls Tryz.prog 155 #[.string (dig i)] w fun e w' => e = .returned (.tuple #[.int .i64 (i : Int),.bool true]) ∧ Keeps [] w w' := by
  have h : i = 0 ∨ i = 1 ∨ i = 2 := by omega
  rcases h with rfl | rfl | rfl
  · exact number_0 w
  · exact number_1 w
  · exact number_2 w
abbrev wSort : ByteArray := ⟨#[115,111,114,116]⟩
abbrev wKind : ByteArray := ⟨#[107,105,110,100]⟩
abbrev wSkew : ByteArray := ⟨#[115,107,101,119]⟩
abbrev deskO (a b : Int) (st : Value) : Obj := .cells #[.int .i64 a,.int .i64 b, st] 184 (0,0)
section
variable (w : World)
theorem split_sort : Calls Tryz.prog 78 #[.string ⟨#[115,111,114,116,32,50,32,49]⟩,.string ⟨#[32]⟩] w fun e w' => e = .returned (.slice (some ⟨w.heap.size,0,none⟩) 3 3) ∧ Keeps [] w w' ∧ SAt w' w.heap.size 0 [wSort,⟨#[50]⟩,⟨#[49]⟩] := by
  have h := gen_sort w
  go_enter Tryz.func78, Tryz.ntmps78
  go_wp2_with (go_at_call 99; refine h.mono ?_; rintro e w' ⟨rfl, hk, hb⟩)
  go_ret
  refine ⟨rfl, hk,fun i s e => ?_⟩
  rw [cell_of_blk hb, Nat.zero_add]
  match i, e with
  | 0, e => cases e; rfl
  | 1, e => cases e; rfl
  | 2, e => cases e; rfl
theorem split_kind : Calls Tryz.prog 78 #[.string ⟨#[107,105,110,100,32,115,107,101,119]⟩,.string ⟨#[32]⟩] w fun e w' => e = .returned (.slice (some ⟨w.heap.size,0,none⟩) 2 2) ∧ Keeps [] w w' ∧ SAt w' w.heap.size 0 [wKind, wSkew] := by
  have h := gen_kind w
  go_enter Tryz.func78, Tryz.ntmps78
  go_wp2_with (go_at_call 99; refine h.mono ?_; rintro e w' ⟨rfl, hk, hb⟩)
  go_ret
  refine ⟨rfl, hk,fun i s e => ?_⟩
  rw [cell_of_blk hb, Nat.zero_add]
  match i, e with
  | 0, e => cases e; rfl
  | 1, e => cases e; rfl
theorem do_idle (p : Addr) : CallsD Tryz.prog 80 #[.pointer (some p)] .returning w fun e u' w' => e = .returned (.tuple #[]) ∧ u' = .returning ∧ w' = w := by
  refine callsD_of_wpS Tryz.func80 rfl fun c₀ cs hu => ?_
  apply wpS_seq
  apply wpS_region
  simp [wpOpsS, go_sem, recoverD, hu, Tryz.ntmps80, Exit.thenS]
  refine wpS_of_wp ?_
  go_wp2_with fail
  cases c₀
  simp_all [bodyPostS, results, Tryz.results80]
end
section
variable (w : World)
theorem rep_names' : Calls Tryz.prog 126 #[] w fun e w' => e = .returned (.slice (some ⟨w.heap.size,0,none⟩) 9 9) ∧ Keeps [] w w' ∧ SAt w' w.heap.size 0 kindsW :=
  (rep_names w).mono fun e w' h => ⟨h.1,by rw [h.2]; exact (Keeps.refl _ _).alloc _,by rw [h.2]; exact kindsO_at w⟩
theorem skew_at (gg : Nat) (u : World) (h : SAt u gg 0 kindsW) : Calls Tryz.prog 100 #[.slice (some ⟨gg,0,none⟩) 9 9,.string ⟨#[115,107,101,119]⟩] u fun e w' => e = .returned (.int .i64 7) ∧ u = w' :=
  index_some u gg 0 9 kindsW ⟨#[115,107,101,119]⟩ 7 h (by decide) (fun i s hi hs => by
    have : i = 0 ∨ i = 1 ∨ i = 2 ∨ i = 3 ∨ i = 4 ∨ i = 5 ∨ i = 6 := by omega
    rcases this with rfl | rfl | rfl | rfl | rfl | rfl | rfl <;> (cases hs; rw [ByteArray.toList_eq, ByteArray.toList_eq]; rfl)) (fun s hs => by cases hs; rw [ByteArray.toList_eq]; rfl) (by decide)
theorem rep_kind (db : Nat) (a b : Int) (st : Value) (hb : w.heap[db]? = some (deskO a b st)) (g off cap : Nat) (h : SAt w g off [⟨#[115,107,101,119]⟩]) :
    Calls Tryz.prog 101 #[.pointer (some ⟨db,0,none⟩),.slice (some ⟨g,off,none⟩) 1 cap] w fun e w' => e = .returned (.string ⟨#[111,107]⟩) ∧ w'.heap[db]? = some (deskO 7 0 st) ∧ Keeps [db] w w' := by
  have h0 : w.cell? ⟨g,off,none⟩ = some (.string ⟨#[115,107,101,119]⟩) := h 0 _ rfl
  have hS : ∀ u, Keeps [] w u -> u.cell? ⟨g,off,none⟩ = some (.string ⟨#[115,107,101,119]⟩) := fun u k => k.cell' h0
  have hdb := lt_of_block hb
  have hgw : g ≠ w.heap.size := Nat.ne_of_lt (World.block_lt_of_cell? w _ h0)
  have hfin : ∀ X c, Keeps [] w X -> X.heap[c]? = some (.cells #[.int .i64 7,.int .i64 0] 23 (0,0)) -> X.cell? ⟨c,0,none⟩ = some (.int .i64 7) ∧ X.cell? ⟨c,1,none⟩ = some (.int .i64 0) ∧
      Hid (∀ X2, Keeps [] X X2 -> X2.cell? ⟨c,0,none⟩ = some (.int .i64 7) ∧ X2.cell? ⟨c,1,none⟩ = some (.int .i64 0) ∧ X2.cell? ⟨db,0,none⟩ = some (.int .i64 a) ∧ X2.cell? ⟨db,1,none⟩ = some (.int .i64 b) ∧ X2.frozen? ⟨db,0,none⟩ = false ∧ X2.frozen? ⟨db,1,none⟩ = false ∧
        Hid (((X2.setCell ⟨db,0,none⟩ (.int .i64 7)).setCell ⟨db,1,none⟩ (.int .i64 0)).heap[db]? = some (deskO 7 0 st) ∧ Keeps [db] w ((X2.setCell ⟨db,0,none⟩ (.int .i64 7)).setCell ⟨db,1,none⟩ (.int .i64 0)))) := by
    intro X c kX bX
    refine ⟨by rw [cell_of_blk bX]; rfl,by rw [cell_of_blk bX]; rfl,fun X2 k2 => ?_⟩
    have c2 := k2.blk bX (by simp)
    have d2 := (kX.trans k2 (by simp)).blk hb (by simp)
    refine ⟨by rw [cell_of_blk c2]; rfl,by rw [cell_of_blk c2]; rfl,by rw [cell_of_blk d2]; rfl,by rw [cell_of_blk d2]; rfl, frozen_of_blk d2, frozen_of_blk d2,(blk_setCell (i := 1) _ (blk_setCell (i := 0) _ d2)).trans rfl,?_⟩
    exact Keeps.setCell (p := ⟨db,1,none⟩) (Keeps.setCell (p := ⟨db,0,none⟩) ((kX.trans k2 (by simp)).mono (by simp)) (.inl (by simp)) _) (.inl (by simp)) _
  have HF := Lib.hid hfin
  have hck := fun u => check_ok u 7 0 (by decide)
  clear h hfin
  go_enter Tryz.func101, Tryz.ntmps101
  go_upto_region 2 with (go_at_call 125; refine (rep_want _ _ 1 _ 1 (by omega)).mono ?_; rintro e w3 ⟨rfl,rfl⟩)
  go_region_held3 (fun u => u.cell? ⟨g,off,none⟩ = some (.string ⟨#[115,107,101,119]⟩)) (first | exact h0 | exact q1 | exact ((Keeps.refl [] _).alloc _).cell' h0 | exact ((Keeps.refl [] _).alloc _).cell' q1 | exact cell_set_ne hgw (cell_set_ne hgw q1) | (exact cell_set_ne (Nat.ne_of_lt (World.block_lt_of_cell? _ _ q1)) (cell_set_ne (Nat.ne_of_lt (World.block_lt_of_cell? _ _ q1)) (((Keeps.refl [] _).alloc _).cell' q1))))
    (first
      | (go_at_call 126; refine (rep_names' _).mono ?_; rintro e w1 ⟨rfl, hk1, hks⟩; have q1 := hk1.cell' (b := g) (j := off) (u := .string ⟨#[115,107,101,119]⟩) (by first | exact h0 | exact ((Keeps.refl [] _).alloc _).cell' h0); (try have zb := hk1.blk (blk_alloc_new (w := w) (.cells #[.int .i64 0,.int .i64 0] 23)) (by simp)); (try have z0 : w1.cell? ⟨w.heap.size,0,none⟩ = some (.int .i64 0) := (cell_of_blk zb).trans rfl); (try have z1 : w1.cell? ⟨w.heap.size,1,none⟩ = some (.int .i64 0) := (cell_of_blk zb).trans rfl); (try have f0 : w1.frozen? ⟨w.heap.size,0,none⟩ = false := frozen_of_blk zb); (try have f1 : w1.frozen? ⟨w.heap.size,1,none⟩ = false := frozen_of_blk zb))
      | (go_at_call 100; refine Calls.mono (skew_at _ _ ?_) ?_; (first | exact hks | exact hks.keep ((Keeps.refl [] _).alloc _) | simpa using hks); rintro e w2 ⟨rfl,rfl⟩))
  all_goals
    first
      | (have k1 : Keeps [] w w1 := ⟨hk1.os, hk1.tape, hk1.output, hk1.size, hk1.block⟩)
      | (have k1 : Keeps [] w w1 := ((Keeps.refl [] w).alloc (.cells #[.int .i64 0,.int .i64 0] 23 (0,0))).trans ⟨hk1.os, hk1.tape, hk1.output, hk1.size, hk1.block⟩ (by simp))
    first
      | (obtain ⟨X, hX⟩ : ∃ X, X = w1.alloc (.cells #[.int .i64 7,.int .i64 0] 23 (0,0)) := ⟨_,rfl⟩
         have kX : Keeps [] w X := by rw [hX]; exact k1.alloc _
         have bX : X.heap[w1.heap.size]? = some (.cells #[.int .i64 7,.int .i64 0] 23 (0,0)) := by rw [hX]; exact blk_alloc_new _
         rw [<- hX]
         clear hX
         generalize w1.heap.size = c at bX ⊢)
      | (obtain ⟨X, hX⟩ : ∃ X, X = (w1.setCell ⟨w.heap.size,0,none⟩ (.int .i64 7)).setCell ⟨w.heap.size,1,none⟩ (.int .i64 0) := ⟨_,rfl⟩
         have kX : Keeps [] w X := by rw [hX]; exact Keeps.setCell (p := ⟨w.heap.size,1,none⟩) (Keeps.setCell (p := ⟨w.heap.size,0,none⟩) k1 (.inr (Nat.le_refl _)) _) (.inr (Nat.le_refl _)) _
         have bX : X.heap[w.heap.size]? = some (.cells #[.int .i64 7,.int .i64 0] 23 (0,0)) := by rw [hX]; exact (blk_setCell (i := 1) _ (blk_setCell (i := 0) _ zb)).trans rfl
         rw [<- hX]
         clear hX zb z0 z1 f0 f1
         generalize w.heap.size = c at bX ⊢)
      | trace_state
    obtain ⟨x0, x1, x2⟩ := HF.out X c kX bX
    clear HF kX bX hk1 hks q1 k1 h0 hS hb hdb hgw
    go_wp2_with (first
      | (go_at_call 33; refine (hck _).mono ?_; rintro e X2 ⟨rfl, k2⟩; obtain ⟨y0, y1, y2, y3, y4, y5, y6⟩ := x2.out X2 k2; clear k2)
      | (go_at_call 128; refine (rep_check _).mono ?_; rintro e w' ⟨rfl,rfl⟩))
    go_ret
    exact ⟨rfl, y6.out⟩
end
end Go.Proofs.YtkdbjelhkfdfjaaGreatDoor

