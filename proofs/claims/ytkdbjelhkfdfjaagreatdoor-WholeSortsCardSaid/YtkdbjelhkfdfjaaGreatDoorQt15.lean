/-
  Contracts that the law rests on. Conditions: none.
-/
import Derived.Test.YtkdbjelhkfdfjaaGreatDoorQt10
import Derived.Test.YtkdbjelhkfdfjaaGreatDoorQt14
set_option linter.unusedVariables false
set_option maxRecDepth 100000
set_option maxHeartbeats 16000000
namespace Go.Proofs.YtkdbjelhkfdfjaaGreatDoor
open Go.RowKit
section
variable (w : World)
def NumW (l : List ByteArray) (ns : List Int) : Prop :=
  l.length = ns.length ∧ ∀ (i : Nat) s n, l[i]? = some s -> ns[i]? = some n -> (Lit.int .i64 n).wf = true ∧ ∀ u, Calls Tryz.prog 155 #[.string s] u fun e w' => e = .returned (.tuple #[.int .i64 n,.bool true]) ∧ Keeps [] u w'
theorem numbers_calls (g off cap : Nat) (l : List ByteArray) (ns : List Int) (h : SAt w g off l) (hn : NumW l ns) (hl : l.length <= 65536) :
    Calls Tryz.prog 129 #[.slice (some ⟨g,off,none⟩) l.length cap] w fun e w' => ∃ ao ca, e = .returned (.slice ao ns.length ca) ∧ KRow w.heap.size w' (.slice ao ns.length ca) ns ∧ Keeps [] w w' := by
  have H := Lib.hid h
  have HN := Lib.hid hn
  clear h hn
  have HS : Hid (Keeps [] w w ∧ KRow w.heap.size w (.slice none 0 0) ([] : List Int)) := Lib.hid ⟨Keeps.refl _ _, KRow.nil _ _⟩
  go_enter Tryz.func129, Tryz.ntmps129
  go_wp2_with fail
  go_loopg [3,5,6,7,10] (l.length + 1) (fun k v s n ok t wr => ∃ j : Nat, k + j = l.length + 1 ∧ j <= l.length ∧ t = .int .i64 j ∧ Keeps [] w wr ∧ KRow w.heap.size wr v (ns.take j))
  case atStart => exact ⟨0,by omega,by omega,rfl, HS.out.1, HS.out.2⟩
  case round =>
    clear HS
    obtain ⟨j, hk, hj,rfl, kp, hv⟩ := hrel
    have HK := Lib.hid hk
    clear hk
    obtain ⟨ao, ca,rfl⟩ := hv.form
    have htl : (ns.take j).length = j := by rw [List.length_take]; have := HN.out.1; omega
    by_cases hi : j < l.length
    · have hi3 : (j : Int) < (l.length : Int) := by omega
      obtain ⟨s, hs⟩ : ∃ s, l[j]? = some s := ⟨_, List.getElem?_eq_getElem hi⟩
      obtain ⟨x, hx⟩ : ∃ x, ns[j]? = some x := ⟨_, List.getElem?_eq_getElem (by have := HN.out.1; omega)⟩
      have hc := (H.out.keep kp) j s hs
      obtain ⟨_, hnum⟩ := HN.out.2 j s x hs hx
      have htk : ns.take (j + 1) = ns.take j ++ [x] := by rw [List.take_add_one, hx]; rfl
      have hfin : ∀ w1, Keeps [] wr w1 -> w1.ownsRow 0 2 1 (.slice ao j ca) j (keysV (ns.take j)) ∧
          Hid (∀ g' c' w2, w2.ownsRow 0 2 1 (.slice (some ⟨g',0,none⟩) (j + 1) c') (j + 1) (keysV (ns.take j) ++ [.int .i64 x]) -> Keeps (Value.slice ao j ca).ownBlock.toList w1 w2 -> ((Value.slice ao j ca).ownBlock = some g' ∨ w1.heap.size <= g') ->
            Keeps [] w w2 ∧ KRow w.heap.size w2 (.slice (some ⟨g',0,none⟩) (j + 1) c') (ns.take (j + 1))) := by
        intro w1 k1
        have hrow := hv.keep k1 (by simp)
        rw [htl] at hrow
        have hown := hv.own
        rw [htl] at hown
        refine ⟨?_,fun g' c' w2 hr2 k2 hg2 => ⟨?_,?_⟩⟩
        · have := hrow.lo (Nat.zero_le _)
          unfold KRow at this
          rw [htl] at this
          exact this
        · exact (kp.trans k1 (by simp)).trans k2 (fun b hb => .inr (hown b (by simpa [Option.mem_toList] using hb)).1)
        · have hg' : w.heap.size <= g' := by
            rcases hg2 with e | e
            · exact (hown g' e).1
            · have := kp.size; have := k1.size; omega
          rw [htk]
          have := KRow.pushed (B := w.heap.size) (l := ns.take j) (g := g') (ca := c') (x := x) (w := w2) (by rw [htl]; exact hr2) hg'
          rw [htl] at this
          exact this
      have HF := Lib.hid hfin
      clear hfin hv kp hs hx htk
      rw [htl]
      go_wp2_with (first
        | (go_at_call 155; refine (hnum _).mono ?_; rintro e w1 ⟨rfl, k1⟩; obtain ⟨z1, z2⟩ := HF.out w1 k1; clear k1)
        | (at_builtin; refine wpList_push _ 2 (.int .i64 x) (0,0) rfl (.tmp 23) (.tmp 25) 25 rfl (.int .i64 0) 8 Tryz.underlying25 Tryz.infoInt64 rfl rfl (.slice ao j ca) j (keysV (ns.take j)) (by simp [Act.eval]) z1 (by simp [Act.eval]) (by unfold maxLen; omega) (by omega) ?_; intro g' cap' w4 hr4 hk4 hf4; have z3 := Lib.hid (z2.out g' cap' w4 hr4 hk4 hf4); clear hr4 hk4 hf4))
      go_roundg (gk - 1)
      case measure => have := HK.out; omega
      case rel => exact ⟨j + 1,by have := HK.out; omega,by omega,by go_num, z3.out.1, z3.out.2⟩
    · obtain rfl : j = l.length := by omega
      have hns : ns.take l.length = ns := by rw [HN.out.1]; exact List.take_length
      rw [hns] at hv ⊢
      have HF := Lib.hid (show KRow w.heap.size wr (.slice ao ns.length ca) ns ∧ Keeps [] w wr from ⟨hv, kp⟩)
      clear hv kp
      go_wp2_with fail
      go_ret
      exact ⟨_, _,rfl, HF.out⟩
def sayW (a : List UInt8) (l : List Nat) : List UInt8 := a ++ l.flatMap fun i => [32,(48 + i).toUInt8]
theorem sayW_len (a : List UInt8) (l : List Nat) : (sayW a l).length = a.length + 2 * l.length := by
  unfold sayW
  rw [List.length_append]
  congr 1
  induction l with
  | nil => rfl
  | cons x l ih => simp only [List.flatMap_cons, List.length_append, List.length_cons, List.length_nil, ih]; omega
theorem said_calls (a : ByteArray) (B : Nat) (l : List Nat) (v : Value) (h : NRow B w v l) (hl : ∀ i ∈ l, i < 3) (hlen : l.length <= 65536) (ha : a.size <= 65536) :
    Calls Tryz.prog 134 #[.string a, v] w fun e w' => e = .returned (.string ⟨(sayW a.data.toList l).toArray⟩) ∧ w = w' := by
  obtain ⟨ao, ca,rfl⟩ := h.form
  have H := Lib.hid h
  clear h
  go_enter Tryz.func134, Tryz.ntmps134
  go_wp2_with fail
  go_loopg [0,6,9] (l.length + 1) (fun k s i t wr => ∃ j : Nat, k + j = l.length + 1 ∧ j <= l.length ∧ t = .int .i64 j ∧ s = .string ⟨(sayW a.data.toList (l.take j)).toArray⟩ ∧ wr = w)
  case atStart => exact ⟨0,by omega,by omega,rfl,by simp [sayW],rfl⟩
  case round =>
    obtain ⟨j, hk, hj,rfl,rfl,rfl⟩ := hrel
    have HK := Lib.hid hk
    clear hk
    by_cases hi : j < l.length
    · have hi3 : (j : Int) < (l.length : Int) := by omega
      obtain ⟨x, hx⟩ : ∃ x, l[j]? = some x := ⟨_, List.getElem?_eq_getElem hi⟩
      obtain ⟨g,rfl, _, hc⟩ := H.out.at hx
      have hd := digits_calls wr x (hl x (List.mem_of_getElem? hx))
      have htk : l.take (j + 1) = l.take j ++ [x] := by rw [List.take_add_one, hx]; rfl
      have hsay : (sayW a.data.toList (l.take (j + 1))) = sayW a.data.toList (l.take j) ++ [32,(48 + x).toUInt8] := by rw [htk]; simp [sayW]
      have HS := Lib.hid hsay
      have hq : ¬ 9223372036854775807 < (sayW a.data.toList (l.take j)).length + (1 + (dig x).size) := by
        have : (dig x).size = 1 := rfl
        rw [this, sayW_len, List.length_take]
        have : a.data.toList.length = a.size := rfl
        omega
      clear hx htk hsay
      go_wp2_with (go_at_call 74; refine hd.mono ?_; rintro e w' ⟨rfl,rfl⟩)
      go_roundg (gk - 1)
      case measure => have := HK.out; omega
      case rel => exact ⟨j + 1,by have := HK.out; omega,by omega,by go_num,by rw [HS.out, <- ByteArray.mk_append_mk, show (⟨#[32]⟩ ++ dig x : ByteArray) = ByteArray.mk [32,(48 + x).toUInt8].toArray from ByteArray.mk_append_mk [32] [(48 + x).toUInt8]],rfl⟩
    · obtain rfl : j = l.length := by omega
      rw [List.take_length]
      go_wp2_with fail
      go_ret
      exact ⟨rfl,rfl⟩
end
theorem KRow.toIn {B : Nat} {w : World} {v : Value} {ns : List Int} (h : KRow B w v ns) (hw : ∀ n ∈ ns,(Lit.int .i64 n).wf = true) : KIn w v ns := by
  obtain ⟨ao, ca,rfl⟩ := h.form
  refine ⟨⟨ao, ca,rfl⟩,fun i x hx => ?_⟩
  obtain ⟨g,rfl, _, hc⟩ := h.at hx
  exact ⟨hw x (List.mem_of_getElem? hx), g, 0, ca,rfl,by rw [Nat.zero_add]; exact hc⟩
section
variable (w : World)
theorem rep_sort (db : Nat) (a b : Int) (st : Value) (hb : w.heap[db]? = some (deskO a b st)) (hc : okC a b) (g off cap : Nat) (l : List ByteArray) (ns : List Int) (h : SAt w g off l) (hn : NumW l ns) (hl : ns.length <= 3) :
    Calls Tryz.prog 104 #[.pointer (some ⟨db,0,none⟩),.slice (some ⟨g,off,none⟩) l.length cap] w fun e w' => ∃ lst : List Nat, e = .returned (.string ⟨(sayW [115,111,114,116] lst).toArray⟩) ∧ Sorted ns lst ∧ Keeps [] w w' := by
  have e0 : w.cell? ⟨db,0,none⟩ = some (.int .i64 a) := by rw [cell_of_blk hb]; rfl
  have e1 : w.cell? ⟨db,1,none⟩ = some (.int .i64 b) := by rw [cell_of_blk hb]; rfl
  have hS : ∀ u, Keeps [] w u -> u.cell? ⟨db,0,none⟩ = some (.int .i64 a) ∧ u.cell? ⟨db,1,none⟩ = some (.int .i64 b) := fun u k => ⟨k.cell' e0, k.cell' e1⟩
  have hll := hn.1
  have hwf : ∀ n ∈ ns,(Lit.int .i64 n).wf = true := fun n hm => by
    obtain ⟨i, hi⟩ := List.getElem?_of_mem hm
    obtain ⟨s, hs⟩ : ∃ s, l[i]? = some s := ⟨_, List.getElem?_eq_getElem (by have := (List.getElem?_eq_some_iff.1 hi).1; omega)⟩
    exact (hn.2 i s n hs hi).1
  have hl65 : l.length <= 65536 := by omega
  have hnum := fun u (hu : SAt u g off l) => numbers_calls u g off cap l ns hu hn hl65
  have hsort := fun u v (hv : KIn u v ns) => sort_calls u ns a b hc v hv (by omega)
  have H := Lib.hid h
  have HW := Lib.hid hwf
  clear h hn hwf hb hll
  go_enter Tryz.func104, Tryz.ntmps104
  go_upto_region 1 with fail
  go_region_held3 (fun u => u.cell? ⟨db,0,none⟩ = some (.int .i64 a) ∧ u.cell? ⟨db,1,none⟩ = some (.int .i64 b)) (first | exact ⟨e0, e1⟩ | exact q1 | exact q2)
    (first
      | (go_at_call 129; refine (hnum _ (by exact H.out)).mono ?_; rintro e w1 ⟨ao1, ca1,rfl, hr, hk1⟩; have q1 := hS w1 hk1.ofDrew)
      | (go_at_call 9; refine (hsort w1 _ (hr.toIn HW.out)).mono ?_; rintro e w2 ⟨lst, v2,rfl, hso, hrow, hk2⟩; have q2 := hS w2 (hk1.ofDrew.trans hk2 (by simp))))
  all_goals
    have hsm : ∀ i ∈ lst, i < 3 := fun i hi => by have := (hso.2 i).1 hi; omega
    have hlen := hso.length
    have HF := Lib.hid (show Sorted ns lst ∧ Keeps [] w w2 from ⟨hso, hk1.ofDrew.trans hk2 (by simp)⟩)
    have hsaid := fun u (hu : Keeps [] w2 u) => said_calls u ⟨#[115,111,114,116]⟩ _ lst v2 (hrow.keep hu (by simp)) hsm (by omega) (by decide)
    clear hso hk1 hk2 q1 q2 e0 e1 hS hr hnum hsort hsm
    go_wp2_with (first
      | (go_at_call 128; refine (rep_check _).mono ?_; rintro e w3 ⟨rfl,rfl⟩)
      | (go_at_call 134; refine (hsaid _ (Keeps.refl _ _)).mono ?_; rintro e w3 ⟨rfl,rfl⟩))
    go_ret
    exact ⟨lst,rfl, HF.out⟩
end
end Go.Proofs.YtkdbjelhkfdfjaaGreatDoor

