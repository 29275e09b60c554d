/-
  Contracts that the law rests on. Conditions: none.
-/
import Derived.Test.YtkdbjelhkfdfjaaGreatDoorQs48
import Derived.Test.YtkdbjelhkfdfjaaGreatDoorQt14
set_option linter.unusedVariables false
set_option maxRecDepth 100000
set_option maxHeartbeats 16000000
namespace Go.Proofs.YtkdbjelhkfdfjaaGreatDoor
open Go.RowKit Go.Shelf
attribute [local go_sem] Oper.semAt_some
abbrev outA : List UInt8 := [115,111,114,116,32,49,32,48]
abbrev outK : List UInt8 := [111,107]
def DoGives (a : Int) (d : ByteArray) (o : List UInt8) (a' : Int) : Prop := ∀ (db : Nat) (u : World), u.heap[db]? = some (deskO a 0 (.pointer none)) ->
  Calls Tryz.prog 46 #[.pointer (some ⟨db,0,none⟩),.string d] u fun e w' => e = .returned (.string ⟨o.toArray⟩) ∧ w'.heap[db]? = some (deskO a' 0 (.pointer none)) ∧ Keeps [db] u w'
def RunT (pre : List ByteArray) (a : Int) (t : List UInt8) : Prop :=
  (pre = [] ∧ a = 1 ∧ t = []) ∨ (pre = [lineA] ∧ a = 1 ∧ t = outA ++ [10]) ∨ (pre = [lineA, lineK] ∧ a = 7 ∧ t = outA ++ [10] ++ (outK ++ [10])) ∨ (pre = [lineA, lineK, lineA] ∧ a = 7 ∧ t = outA ++ [10] ++ (outK ++ [10]) ++ (outA ++ [10]))
theorem RunT.len {pre : List ByteArray} {a : Int} {t : List UInt8} (h : RunT pre a t) : t.length <= 30 := by
  rcases h with ⟨_, _,rfl⟩ | ⟨_, _,rfl⟩ | ⟨_, _,rfl⟩ | ⟨_, _,rfl⟩ <;> decide
theorem RunT.next {pre : List ByteArray} {a : Int} {t : List UInt8} {x : ByteArray} (h : RunT pre a t) (hx : pre ++ [x] <+: [lineA, lineK, lineA])
    (d1 : DoGives 1 ⟨#[115,111,114,116,32,50,32,49]⟩ outA 1) (d7 : DoGives 7 ⟨#[115,111,114,116,32,50,32,49]⟩ outA 7) (dk : DoGives 1 ⟨#[107,105,110,100,32,115,107,101,119]⟩ outK 7) :
    ∃ d o a',(∀ u, Calls Tryz.prog 47 #[.string x,.string ⟨#[10]⟩] u fun e w' => e = .returned (.string d) ∧ u = w') ∧ DoGives a d o a' ∧ RunT (pre ++ [x]) a' (t ++ (o ++ [10])) ∧ o.length <= 8 := by
  obtain ⟨s, hs⟩ := hx
  rcases h with ⟨rfl,rfl,rfl⟩ | ⟨rfl,rfl,rfl⟩ | ⟨rfl,rfl,rfl⟩ | ⟨rfl,rfl,rfl⟩
  · simp only [List.nil_append, List.singleton_append, List.cons.injEq] at hs
    obtain rfl := hs.1
    exact ⟨_, _, _, trim_A, d1,.inr (.inl ⟨rfl,rfl,rfl⟩),by decide⟩
  · simp only [List.nil_append, List.cons_append, List.cons.injEq] at hs
    obtain rfl := hs.2.1
    exact ⟨_, _, _, trim_K, dk,.inr (.inr (.inl ⟨rfl,rfl,rfl⟩)),by decide⟩
  · simp only [List.nil_append, List.cons_append, List.cons.injEq] at hs
    obtain rfl := hs.2.2.1
    exact ⟨_, _, _, trim_A, d7,.inr (.inr (.inr ⟨rfl,rfl,rfl⟩)),by decide⟩
  · have := congrArg List.length hs
    simp at this
def RunI (w : World) (B db dp bp : Nat) (pre : List ByteArray) (W : World) : Prop :=
  ∃ (a : Int) (t : List UInt8) (v : Value), RunT pre a t ∧ W.heap[db]? = some (deskO a 0 (.pointer none)) ∧ W.heap[dp]? = some (.cells #[.pointer (some ⟨db,0,none⟩)] 117 (0,0)) ∧
    BldAt W bp t v ∧ (∀ b, v.ownBlock = some b -> B <= b) ∧ Keeps [] w W ∧ B <= W.heap.size
section
variable (w : World)
theorem new_calls : Calls Tryz.prog 43 #[] w fun e w' => e = .returned (.pointer (some ⟨w.heap.size,0,none⟩)) ∧ w' = w.alloc (deskO 1 0 (.pointer none)) := by
  go_enter Tryz.func43, Tryz.ntmps43
  go_wp2_with fail
  go_ret
  exact ⟨rfl,rfl⟩
theorem seqlines_calls : Calls Tryz.prog 44 #[.string textA] w fun e w' => e = .returned (.func (.func 75) #[] #[.pointer (some ⟨w.heap.size,0,none⟩)]) ∧ w' = w.alloc (.cells #[.string textA] 9 (0,0)) := by
  have hmf : ∀ (fn : Fn) (first cap : Array Value) (w : World),(Instr.makeFunc fn first cap).run Tryz.prog w = .ok (.func fn first cap) w := fun _ _ _ _ => rfl
  go_enter Tryz.func44, Tryz.ntmps44
  go_wp2_with fail
  go_ret
  exact ⟨rfl,rfl⟩
end
theorem RunI.own {w : World} {B db dp bp : Nat} (hB : w.heap.size <= B) : OwnFrom B (RunI w B db dp bp) := by
  rintro pre W W' row ⟨a, t, v, h1, h2, h3, h4, h5, h6, h7⟩ hg hr
  have hr' : ∀ r, row = some r -> ∃ o : Obj, W.heap[r]? = some o ∧ o.isCells = false := fun r e => (hr r e).2
  refine ⟨a, t, v, h1,(grownBy_keeps_cells hg hr' h2 rfl).trans h2,(grownBy_keeps_cells hg hr' h3 rfl).trans h3,?_, h5, h6.grown hg (fun k e => .inr (Nat.le_trans hB (hr k e).1)), Nat.le_trans h7 hg.size⟩
  obtain ⟨p, g1, g2, g3, g4⟩ := h4
  refine ⟨p,(grownBy_keeps_cells hg hr' g1 rfl).trans g1, g2,⟨g3.1,?_⟩, g4⟩
  rcases g3.2 with c | ⟨g, cap, cur, e, hb, hgg, r⟩
  · exact .inl c
  · exact .inr ⟨g, cap, cur, e, hb,(grownBy_keeps_cells hg hr' hgg rfl).trans hgg, r⟩
theorem RunI.cell {w : World} {B db dp bp c : Nat} (hc : c < B) (hcw : w.heap.size <= c) (h1 : c ≠ db) (h2 : c ≠ dp) (h3 : c ≠ bp) : ∀ s X v, RunI w B db dp bp s X -> RunI w B db dp bp s (X.setCell ⟨c,0,none⟩ v) := by
  rintro pre W u ⟨a, t, v, g1, g2, g3, g4, g5, g6, g7⟩
  have k : Keeps [c] W (W.setCell ⟨c,0,none⟩ u) := (Keeps.refl _ _).setCell (p := ⟨c,0,none⟩) (.inl (by simp)) _
  exact ⟨a, t, v, g1, k.blk g2 (by simpa using h1.symm), k.blk g3 (by simpa using h2.symm), g4.keep k (by simpa using h3.symm) (fun b e => by have := g5 b e; simp; omega), g5, g6.setCell (p := ⟨c,0,none⟩) (.inr hcw) u, Nat.le_trans g7 k.size⟩
theorem keeps_from {S : List Nat} {B : Nat} {W X : World} (k : Keeps S W X) (h : ∀ b ∈ S, b < B ∨ ∃ o : Obj, W.heap[b]? = some o ∧ o.isCells = true) : KeepsFrom B W X :=
  ⟨k.size,fun i o hi ho hc => k.blk ho (fun hm => by
    rcases h i hm with e | ⟨o', e1, e2⟩
    · omega
    · rw [ho] at e1; cases e1; rw [hc] at e2; cases e2)⟩
theorem run_calls (w : World) (d1 : DoGives 1 ⟨#[115,111,114,116,32,50,32,49]⟩ outA 1) (d7 : DoGives 7 ⟨#[115,111,114,116,32,50,32,49]⟩ outA 7) (dk : DoGives 1 ⟨#[107,105,110,100,32,115,107,101,119]⟩ outK 7) :
    Calls Tryz.prog 18 #[.string textA] w fun e w' => e = .returned (.string ⟨(outA ++ [10] ++ (outK ++ [10]) ++ (outA ++ [10])).toArray⟩) ∧ Keeps [] w w' := by
  refine (callsIn_wide (n := 9)).1 ?_
  refine callsIn_of_wp_marks Tryz.func18 rfl trivial ?_ rfl
  simp only [Tryz.ntmps18, List.size_toArray, List.length_cons, List.length_nil, Nat.reduceAdd, Nat.reduceSub, Array.replicate_succ, Array.replicate_zero, List.push_toArray, List.append_toArray, List.nil_append, List.cons_append]
  have hsz : ¬ (65536 : Int) < (textA.size : Int) := by decide
  gi_wp2_with (first
    | (refine ⟨trivial,?_⟩; gi_at_call 43; refine (callsIn_wide.2 (new_calls _)).mono ?_; rintro e w' ⟨rfl,rfl⟩)
    | (refine ⟨trivial,?_⟩; gi_at_call 44; refine (callsIn_wide.2 (seqlines_calls _)).mono ?_; rintro e w' ⟨rfl,rfl⟩))
  obtain ⟨W0, hW0⟩ : ∃ W0, W0 = (((w.alloc (deskO 1 0 (.pointer none))).alloc (.cells #[.pointer (some ⟨w.heap.size,0,none⟩)] 117 (0,0))).alloc (.cells #[.pointer none,.slice none 0 0] 122 (0,0))).alloc (.cells #[.string textA] 9 (0,0)) := ⟨_,rfl⟩
  have hs0 : W0.heap.size = w.heap.size + 4 := by rw [hW0]; simp
  have b0 : W0.heap[w.heap.size]? = some (deskO 1 0 (.pointer none)) := by
    rw [hW0]; exact (blk_alloc_old _ (by simp <;> omega)).trans ((blk_alloc_old _ (by simp <;> omega)).trans ((blk_alloc_old _ (by simp)).trans (blk_alloc_new _)))
  have b1 : W0.heap[w.heap.size + 1]? = some (.cells #[.pointer (some ⟨w.heap.size,0,none⟩)] 117 (0,0)) := by
    rw [hW0]
    have := blk_alloc_new (w := w.alloc (deskO 1 0 (.pointer none))) (.cells #[.pointer (some ⟨w.heap.size,0,none⟩)] 117 (0,0))
    rw [World.size_alloc] at this
    exact (blk_alloc_old _ (by simp <;> omega)).trans ((blk_alloc_old _ (by simp)).trans this)
  have b2 : BldAt W0 (w.heap.size + 1 + 1) [] (.slice none 0 0) := by
    have := BldAt.new ((w.alloc (deskO 1 0 (.pointer none))).alloc (.cells #[.pointer (some ⟨w.heap.size,0,none⟩)] 117 (0,0)))
    rw [World.size_alloc, World.size_alloc] at this
    rw [hW0]
    exact this.keep ((Keeps.refl [] _).alloc _) (by simp) (by simp [Value.ownBlock])
  have b3 : W0.heap[w.heap.size + 1 + 1 + 1]? = some (.cells #[.string textA] 9 (0,0)) := by
    rw [hW0]
    have := blk_alloc_new (w := ((w.alloc (deskO 1 0 (.pointer none))).alloc (.cells #[.pointer (some ⟨w.heap.size,0,none⟩)] 117 (0,0))).alloc (.cells #[.pointer none,.slice none 0 0] 122 (0,0))) (.cells #[.string textA] 9 (0,0))
    rw [World.size_alloc, World.size_alloc, World.size_alloc] at this
    exact this
  have kk : Keeps [] w W0 := by rw [hW0]; exact ((((Keeps.refl _ _).alloc _).alloc _).alloc _).alloc _
  rw [<- hW0]
  clear hW0
  obtain ⟨N, hN⟩ : ∃ N, N = w.heap.size := ⟨_,rfl⟩
  rw [<- hN] at hs0 b0 b1 b2 b3 ⊢
  have HN := Lib.hid hN
  have HK := Lib.hid kk
  clear hN kk
  have hseq := lines_seq 8 (by omega) W0 (N + 1 + 1 + 1) b3
  have h0 : RunI w W0.heap.size N (N + 1) (N + 1 + 1) [] W0 := ⟨1, [],.slice none 0 0,.inl ⟨rfl,rfl,rfl⟩, b0, b1, b2,by simp [Value.ownBlock], HK.out, Nat.le_refl _⟩
  refine range_cell (F := Fence.wide) (n := 9) rfl (by omega) (gf := 75) (lb := #[.pointer (some ⟨N + 1 + 1 + 1,0,none⟩)]) rfl trivial (enters_of Tryz.func75 (by kernel_rfl) rfl) (c := N + 1 + 1 + 1) (L := [lineA, lineK, lineA]) (by omega) hseq (fun _ => rfl)
    (RunI w W0.heap.size N (N + 1) (N + 1 + 1)) (RunI.own (by have := HK.out.size; omega)) (RunI.cell (by omega) (by have := HN.out; omega) (by omega) (by omega) (by omega)) h0
    (fun x => { tmps := #[.string textA, undef,.string ⟨#[]⟩,.pointer (some ⟨N + 1,0,none⟩),.pointer (some ⟨N + 1 + 1,0,none⟩),.string x,.string textA,.int .i64 28,.bool false, undef, undef,.pointer (some ⟨N,0,none⟩),.string textA,.func (.func 75) #[] #[.pointer (some ⟨N + 1 + 1 + 1,0,none⟩)],.string x, undef, undef, undef, undef, undef, undef, undef], defers := [] }) ?assign ?body ?done
  case assign =>
    intro l x W K hK
    gi_wp2
    exact hK
  case body =>
    rintro l pre x W ⟨a, t, v, h1, h2, h3, h4, h5, h6, hsW⟩ hpre
    rw [hs0] at h5 hsW
    have hl := h1.len
    obtain ⟨d, o, a', ht, hd, hn, ho⟩ := h1.next hpre d1 d7 dk
    have hmx : Tryz.prog.follows .mixedOrders = true := by kernel_rfl
    have hq : ¬ 9223372036854775807 < o.length + 1 := by omega
    have e3 : W.cell? ⟨N + 1,0,none⟩ = some (.pointer (some ⟨N,0,none⟩)) := by rw [cell_of_blk h3]; rfl
    have hsl : ((⟨o.toArray⟩ : ByteArray) ++ ⟨#[10]⟩).data.toList = o ++ [10] := by
      rw [show ((⟨o.toArray⟩ : ByteArray) ++ ⟨#[10]⟩) = ByteArray.mk (o ++ [10]).toArray from ByteArray.mk_append_mk o [10]]
    have hss : ((⟨o.toArray⟩ : ByteArray) ++ ⟨#[10]⟩).size = o.length + 1 := by
      rw [show ((⟨o.toArray⟩ : ByteArray) ++ ⟨#[10]⟩) = ByteArray.mk (o ++ [10]).toArray from ByteArray.mk_append_mk o [10]]
      simp [ByteArray.size]
    have hdo := hd N W.drew h2
    have hfin : ∀ w1, w1.heap[N]? = some (deskO a' 0 (.pointer none)) -> Keeps [N] W.drew w1 ->
        Calls Tryz.prog 45 #[.pointer (some ⟨N + 1 + 1,0,none⟩),.string (⟨o.toArray⟩ ++ ⟨#[10]⟩)] w1 fun e w2 => (∃ r, e = .returned r) ∧ Hid (KeepsFrom (N + 4) W w2 ∧ w2.heap[N + 1 + 1 + 1]? = W.heap[N + 1 + 1 + 1]? ∧ RunI w (N + 4) N (N + 1) (N + 1 + 1) (pre ++ [x]) w2) := by
      intro w1 g1 k1
      have k1' : Keeps [N] W w1 := ⟨k1.os, k1.tape, k1.output, k1.size, k1.block⟩
      have hb1 : BldAt w1 (N + 1 + 1) t v := h4.keep k1' (by simp <;> omega) (fun b e => by have := h5 b e; simp; omega)
      have hsz0 : N + 4 <= W.heap.size := hsW
      refine (bld_write w1 (N + 1 + 1) t v hb1 _ (by rw [hss]; omega) (N + 4) (Nat.le_trans hsz0 k1'.size) h5).mono ?_
      rintro e w2 ⟨v',rfl, hb2, k2, hv2⟩
      rw [hsl] at hb2
      have hcell : ∀ b, v.ownBlock = some b -> b < W.heap.size ∧ ∃ o : Obj, W.heap[b]? = some o ∧ o.isCells = true := fun b e => by
        obtain ⟨cur, hc⟩ := h4.rowBlk e
        exact ⟨lt_of_block hc, _, hc,rfl⟩
      have kAll : Keeps (N :: (N + 1 + 1) :: v.ownBlock.toList) W w2 := (k1'.mono (T := N :: (N + 1 + 1) :: v.ownBlock.toList) (fun x hx => .inl (by simp at hx; simp [hx]))).trans k2 (fun x hx => .inl (by simp at hx ⊢; exact .inr hx))
      have hmem : ∀ x, x ∈ v.ownBlock.toList -> N + 4 <= x := fun x hx => h5 x (by simpa [Option.mem_toList] using hx)
      have hnot : ∀ x, N <= x -> x < N + 4 -> x ≠ N -> x ≠ N + 1 + 1 -> x ∉ N :: (N + 1 + 1) :: v.ownBlock.toList := fun x h1 h2 h3 h4 hm => by
        rcases List.mem_cons.1 hm with e | hm
        · exact h3 e
        · rcases List.mem_cons.1 hm with e | hm
          · exact h4 e
          · have := hmem x hm; omega
      refine ⟨⟨_,rfl⟩, keeps_from kAll ?_, kAll.block _ (by omega) (hnot _ (by omega) (by omega) (by omega) (by omega)), a', _, v', hn,?_,?_, hb2, hv2,?_⟩
      · intro b hb
        rcases List.mem_cons.1 hb with rfl | hb
        · exact .inl (by omega)
        · rcases List.mem_cons.1 hb with rfl | hb
          · exact .inl (by omega)
          · exact .inr (hcell b (by simpa [Option.mem_toList] using hb)).2
      · refine k2.blk g1 (fun hm => ?_)
        rcases List.mem_cons.1 hm with e | hm
        · omega
        · have := hmem _ hm; omega
      · exact kAll.blk h3 (hnot _ (by omega) (by omega) (by omega) (by omega))
      · refine ⟨h6.trans kAll (fun x hx => .inr ?_), Nat.le_trans hsz0 kAll.size⟩
        rcases List.mem_cons.1 hx with rfl | hx
        · rw [<- HN.out]; omega
        · rcases List.mem_cons.1 hx with rfl | hx
          · have := HN.out; omega
          · have := HN.out; have := hmem x hx; omega
    have HF := Lib.hid hfin
    clear hfin hd hn h1 h2 h3 h4 h5 h6 hseq h0 b0 b1 b2 b3 hsl hss d1 d7 dk hpre hsz
    gi_wp2
    gi_region_with_o (first
      | (refine ⟨trivial,?_⟩; gi_at_call 47; refine (CallsIn.inRound l (callsIn_wide.2 (ht _))).mono ?_; rintro e w' ⟨rfl,rfl⟩)
      | (refine ⟨trivial,?_⟩; gi_at_call 46; refine (CallsIn.inRound l (callsIn_wide.2 hdo)).mono ?_; rintro e w1 ⟨rfl, y1, y2⟩; have z1 := HF.out w1 y1 y2)
      | (refine ⟨trivial,?_⟩; gi_at_call 45; refine (CallsIn.inRound l (callsIn_wide.2 z1)).mono ?_; rintro e w2 ⟨⟨r,rfl⟩, z2⟩))
    all_goals
      rw [hs0]
      exact z2.out
  case done =>
    rintro D W hD ⟨a, t, v, h1, h2, h3, h4, h5, h6, hsW⟩ hK
    have ht : t = outA ++ [10] ++ (outK ++ [10]) ++ (outA ++ [10]) := by
      rcases h1 with ⟨e, _⟩ | ⟨e, _⟩ | ⟨e, _⟩ | ⟨_, _, e⟩
      · cases e
      · cases e
      · cases e
      · exact e
    subst ht
    have hst := bld_string W (N + 1 + 1) _ v h4 (by simp) (by decide)
    have hfin : ∀ w2, Keeps v.ownBlock.toList W w2 -> w2.heap[D]? = some (.deferred (some [])) ∧ Hid (Keeps [] w (w2.putObj D (.deferred none))) := by
      intro w2 k2
      have hmem : ∀ x, x ∈ v.ownBlock.toList -> N + 4 <= x := fun x hx => by rw [<- hs0]; exact h5 x (by simpa [Option.mem_toList] using hx)
      refine ⟨k2.blk hK (fun hm => ?_),?_⟩
      · obtain ⟨cur, hc⟩ := h4.rowBlk (b := D) (by simpa [Option.mem_toList] using hm)
        rw [hK] at hc; cases hc
      · refine (h6.trans k2 (fun x hx => .inr ?_)).grown (grownBy_putObj' w2 D (.deferred none)) (fun k e => .inr ?_)
        · have := hmem x hx; have := HN.out; omega
        · cases e; have := HN.out; omega
    have HF := Lib.hid hfin
    clear hfin h1 h2 h3 h4 h5 h6 hsW hK hseq h0 b0 b1 b2 b3 d1 d7 dk
    gi_wp2_with (refine ⟨trivial,?_⟩; gi_at_call 48; refine (callsIn_wide.2 hst).mono ?_; rintro e w2 ⟨rfl, k2⟩; obtain ⟨z1, z2⟩ := HF.out w2 k2; clear k2)
    refine ⟨by simp,.inl ⟨_, _,rfl, run_takeDeferred z1,?_⟩⟩
    exact ⟨_, results_tmp rfl _ _ _,rfl, z2.out⟩
end Go.Proofs.YtkdbjelhkfdfjaaGreatDoor
namespace Go.Proofs.YtkdbjelhkfdfjaaGreatDoor
open Go.RowKit
theorem do_sort (a a' : Int) (o : List UInt8) (rep : ∀ (db g : Nat) (u : World), u.heap[db]? = some (deskO a 0 (.pointer none)) -> SAt u g 1 [⟨#[50]⟩,⟨#[49]⟩] ->
      Calls Tryz.prog 104 #[.pointer (some ⟨db,0,none⟩),.slice (some ⟨g,1,none⟩) 2 2] u fun e w' => e = .returned (.string ⟨o.toArray⟩) ∧ w'.heap[db]? = some (deskO a' 0 (.pointer none)) ∧ Keeps [db] u w') :
    DoGives a ⟨#[115,111,114,116,32,50,32,49]⟩ o a' := fun db w hb => by
  obtain ⟨w0, hw0⟩ : ∃ w0, w0 = w.alloc (.cells #[.string ⟨#[]⟩] 9 (0,0)) := ⟨_,rfl⟩
  obtain ⟨r, hr⟩ : ∃ r, r = w.heap.size := ⟨_,rfl⟩
  have k0 : Keeps [] w w0 := by rw [hw0]; exact (Keeps.refl _ _).alloc _
  have hr0 : w0.heap[r]? = some (.cells #[.string ⟨#[]⟩] 9 (0,0)) := by rw [hw0, hr]; exact blk_alloc_new _
  have hdr : db < r := by rw [hr]; exact lt_of_block hb
  have hwr : w.heap.size <= r := by omega
  have hd0 := k0.blk hb (by simp)
  have hsp := split_sort w0
  obtain ⟨g, hg⟩ : ∃ g, g = w0.heap.size := ⟨_,rfl⟩
  rw [<- hg] at hsp
  have hgr : r < g := by have := lt_of_block hr0; omega
  have hmf : ∀ (fn : Fn) (first cap : Array Value) (w : World),(Instr.makeFunc fn first cap).run Tryz.prog w = .ok (.func fn first cap) w := fun _ _ _ _ => rfl
  have hcn := fun (u : World) (hu : SAt u g 0 [wSort,⟨#[50]⟩,⟨#[49]⟩]) => contains_none u g 0 3 [wSort,⟨#[50]⟩,⟨#[49]⟩] ⟨#[]⟩ hu (by simp [ByteArray.toList_eq]) (by decide)
  have hvb := fun u => verb_sort u (.pointer (some ⟨db,0,none⟩))
  have hfin : ∀ w1, Keeps [] w0 w1 -> SAt w1 g 0 [wSort,⟨#[50]⟩,⟨#[49]⟩] -> SAt w1 g 0 [wSort,⟨#[50]⟩,⟨#[49]⟩] ∧ w1.cell? ⟨g,0,none⟩ = some (.string wSort) ∧
      (Calls Tryz.prog 104 #[.pointer (some ⟨db,0,none⟩),.slice (some ⟨g,1,none⟩) 2 2] w1.drew fun e w2 => e = .returned (.string ⟨o.toArray⟩) ∧
        w2.cell? ⟨g,0,none⟩ = some (.string wSort) ∧ w2.cell? ⟨r,0,none⟩ = some (.string ⟨#[]⟩) ∧ w2.frozen? ⟨r,0,none⟩ = false ∧
        Hid ((w2.setCell ⟨r,0,none⟩ (.string ⟨o.toArray⟩)).heap[db]? = some (deskO a' 0 (.pointer none)) ∧ Keeps [db] w (w2.setCell ⟨r,0,none⟩ (.string ⟨o.toArray⟩)))) := by
    intro w1 k1 hs1
    refine ⟨hs1, hs1 0 _ rfl,?_⟩
    have b1 := k1.blk hr0 (by simp)
    have d1 := k1.blk hd0 (by simp)
    have hs1' : SAt w1.drew g 1 [⟨#[50]⟩,⟨#[49]⟩] := hs1.tail
    refine (rep db g w1.drew d1 hs1').mono ?_
    rintro e w2 ⟨rfl, d2, k2⟩
    have k2' : Keeps [db] w1 w2 := ⟨k2.os, k2.tape, k2.output, k2.size, k2.block⟩
    have b2 := k2'.blk b1 (by simp; omega)
    have kk : Keeps [db] w w2 := ((k0.trans k1 (by simp)).mono (T := [db]) (by simp)).trans k2' (by simp)
    refine ⟨rfl,?_,by rw [cell_of_blk b2]; rfl, frozen_of_blk b2,?_,?_⟩
    · have c := hs1 0 _ rfl
      have hlt := World.block_lt_of_cell? w1 _ c
      rw [World.cell?_of_block (a := ⟨g,0,none⟩) (k2'.block g hlt (by simp; omega))]; exact c
    · exact (blk_setCell_ne (a := ⟨r,0,none⟩) _ (by show db ≠ r; omega)).trans d2
    · exact kk.setCell (p := ⟨r,0,none⟩) (.inr hwr) _
  have HF := Lib.hid hfin
  clear hfin rep hd0 hb hg
  go_enter_defers Tryz.func46, Tryz.ntmps46
  go_upto_region 1 with fail
  rw [<- hw0, <- hr]
  have hgr' : g ≠ r := by omega
  clear hw0 k0 hr0 hr hwr hdr hgr
  go_upto_region 5 with (first
    | (go_at_call 78; refine hsp.mono ?_; rintro e w1 ⟨rfl, k1, hs1⟩; obtain ⟨y0, y1, y2⟩ := HF.out w1 k1 hs1; clear hs1 k1)
    | (go_at_call 79; refine (hcn _ y0).mono ?_; rintro e w' ⟨rfl,rfl⟩))
  have HY := Lib.hid y0
  clear HF y0 hsp hcn
  go_region_held3 (fun u => u.cell? ⟨g,0,none⟩ = some (.string wSort)) (first | exact y1 | exact q2 | exact (World.cell?_of_block (a := ⟨g,0,none⟩) (blk_setCell_ne _ hgr')).trans q2)
    (first
      | (go_at_call 81; refine (hvb _).mono ?_; rintro e w' ⟨rfl,rfl⟩)
      | (go_at_call 104; refine y2.mono ?_; rintro e w2 ⟨rfl, q2, c2, f2, z2⟩))
  all_goals
    have hc3 := World.cell?_setCell_same' w2 ⟨r,0,none⟩ (.string ⟨o.toArray⟩) (by rw [c2]; rfl)
    clear y1 y2 q2 c2 f2 hvb
    go_wp2_with fail
    refine leaves_cons (f := 80) (args := #[.pointer (some ⟨r,0,none⟩)]) (by simp) (by simp [go_sem]) ?_
    refine (do_idle _ ⟨r,0,none⟩).mono ?_
    rintro e u' w'' ⟨rfl,rfl,rfl⟩
    have hz := z2.out
    simp [Leaves, settle, results, Tryz.results46, go_sem, hc3]
    exact hz
theorem do_kind (a a' : Int) (o : List UInt8) (rep : ∀ (db g : Nat) (u : World), u.heap[db]? = some (deskO a 0 (.pointer none)) -> SAt u g 1 [wSkew] ->
      Calls Tryz.prog 101 #[.pointer (some ⟨db,0,none⟩),.slice (some ⟨g,1,none⟩) 1 1] u fun e w' => e = .returned (.string ⟨o.toArray⟩) ∧ w'.heap[db]? = some (deskO a' 0 (.pointer none)) ∧ Keeps [db] u w') :
    DoGives a ⟨#[107,105,110,100,32,115,107,101,119]⟩ o a' := fun db w hb => by
  obtain ⟨w0, hw0⟩ : ∃ w0, w0 = w.alloc (.cells #[.string ⟨#[]⟩] 9 (0,0)) := ⟨_,rfl⟩
  obtain ⟨r, hr⟩ : ∃ r, r = w.heap.size := ⟨_,rfl⟩
  have k0 : Keeps [] w w0 := by rw [hw0]; exact (Keeps.refl _ _).alloc _
  have hr0 : w0.heap[r]? = some (.cells #[.string ⟨#[]⟩] 9 (0,0)) := by rw [hw0, hr]; exact blk_alloc_new _
  have hdr : db < r := by rw [hr]; exact lt_of_block hb
  have hwr : w.heap.size <= r := by omega
  have hd0 := k0.blk hb (by simp)
  have hsp := split_kind w0
  obtain ⟨g, hg⟩ : ∃ g, g = w0.heap.size := ⟨_,rfl⟩
  rw [<- hg] at hsp
  have hgr : r < g := by have := lt_of_block hr0; omega
  have hmf : ∀ (fn : Fn) (first cap : Array Value) (w : World),(Instr.makeFunc fn first cap).run Tryz.prog w = .ok (.func fn first cap) w := fun _ _ _ _ => rfl
  have hcn := fun (u : World) (hu : SAt u g 0 [wKind, wSkew]) => contains_none u g 0 2 [wKind, wSkew] ⟨#[]⟩ hu (by simp [ByteArray.toList_eq]) (by decide)
  have hvb := fun u => verb_kind u (.pointer (some ⟨db,0,none⟩))
  have hfin : ∀ w1, Keeps [] w0 w1 -> SAt w1 g 0 [wKind, wSkew] -> SAt w1 g 0 [wKind, wSkew] ∧ w1.cell? ⟨g,0,none⟩ = some (.string wKind) ∧
      (Calls Tryz.prog 101 #[.pointer (some ⟨db,0,none⟩),.slice (some ⟨g,1,none⟩) 1 1] w1.drew fun e w2 => e = .returned (.string ⟨o.toArray⟩) ∧
        w2.cell? ⟨g,0,none⟩ = some (.string wKind) ∧ w2.cell? ⟨r,0,none⟩ = some (.string ⟨#[]⟩) ∧ w2.frozen? ⟨r,0,none⟩ = false ∧
        Hid ((w2.setCell ⟨r,0,none⟩ (.string ⟨o.toArray⟩)).heap[db]? = some (deskO a' 0 (.pointer none)) ∧ Keeps [db] w (w2.setCell ⟨r,0,none⟩ (.string ⟨o.toArray⟩)))) := by
    intro w1 k1 hs1
    refine ⟨hs1, hs1 0 _ rfl,?_⟩
    have b1 := k1.blk hr0 (by simp)
    have d1 := k1.blk hd0 (by simp)
    have hs1' : SAt w1.drew g 1 [wSkew] := hs1.tail
    refine (rep db g w1.drew d1 hs1').mono ?_
    rintro e w2 ⟨rfl, d2, k2⟩
    have k2' : Keeps [db] w1 w2 := ⟨k2.os, k2.tape, k2.output, k2.size, k2.block⟩
    have b2 := k2'.blk b1 (by simp; omega)
    have kk : Keeps [db] w w2 := ((k0.trans k1 (by simp)).mono (T := [db]) (by simp)).trans k2' (by simp)
    refine ⟨rfl,?_,by rw [cell_of_blk b2]; rfl, frozen_of_blk b2,?_,?_⟩
    · have c := hs1 0 _ rfl
      have hlt := World.block_lt_of_cell? w1 _ c
      rw [World.cell?_of_block (a := ⟨g,0,none⟩) (k2'.block g hlt (by simp; omega))]; exact c
    · exact (blk_setCell_ne (a := ⟨r,0,none⟩) _ (by show db ≠ r; omega)).trans d2
    · exact kk.setCell (p := ⟨r,0,none⟩) (.inr hwr) _
  have HF := Lib.hid hfin
  clear hfin rep hd0 hb hg
  go_enter_defers Tryz.func46, Tryz.ntmps46
  go_upto_region 1 with fail
  rw [<- hw0, <- hr]
  have hgr' : g ≠ r := by omega
  clear hw0 k0 hr0 hr hwr hdr hgr
  go_upto_region 5 with (first
    | (go_at_call 78; refine hsp.mono ?_; rintro e w1 ⟨rfl, k1, hs1⟩; obtain ⟨y0, y1, y2⟩ := HF.out w1 k1 hs1; clear hs1 k1)
    | (go_at_call 79; refine (hcn _ y0).mono ?_; rintro e w' ⟨rfl,rfl⟩))
  have HY := Lib.hid y0
  clear HF y0 hsp hcn
  go_region_held3 (fun u => u.cell? ⟨g,0,none⟩ = some (.string wKind)) (first | exact y1 | exact q2 | exact (World.cell?_of_block (a := ⟨g,0,none⟩) (blk_setCell_ne _ hgr')).trans q2)
    (first
      | (go_at_call 81; refine (hvb _).mono ?_; rintro e w' ⟨rfl,rfl⟩)
      | (go_at_call 101; refine y2.mono ?_; rintro e w2 ⟨rfl, q2, c2, f2, z2⟩))
  all_goals
    have hc3 := World.cell?_setCell_same' w2 ⟨r,0,none⟩ (.string ⟨o.toArray⟩) (by rw [c2]; rfl)
    clear y1 y2 q2 c2 f2 hvb
    go_wp2_with fail
    refine leaves_cons (f := 80) (args := #[.pointer (some ⟨r,0,none⟩)]) (by simp) (by simp [go_sem]) ?_
    refine (do_idle _ ⟨r,0,none⟩).mono ?_
    rintro e u' w'' ⟨rfl,rfl,rfl⟩
    have hz := z2.out
    simp [Leaves, settle, results, Tryz.results46, go_sem, hc3]
    exact hz
theorem alive_of (w : World) (d1 : DoGives 1 ⟨#[115,111,114,116,32,50,32,49]⟩ outA 1) (d7 : DoGives 7 ⟨#[115,111,114,116,32,50,32,49]⟩ outA 7) (dk : DoGives 1 ⟨#[107,105,110,100,32,115,107,101,119]⟩ outK 7) :
    Calls Tryz.prog 7 #[] w fun e w' => e = .returned (.bool true) ∧ Keeps [] w w' := by
  have hrun := run_calls w d1 d7 dk
  have hk := kinds_calls
  clear d1 d7 dk
  go_enter Tryz.func7, Tryz.ntmps7
  go_wp2_with (first
    | (go_at_call 18; refine hrun.mono ?_; rintro e w1 ⟨rfl, k1⟩; have K1 := Lib.hid k1; clear k1)
    | (go_at_call 21; refine (hk _).mono ?_; rintro e w2 ⟨ao, ca,rfl, k2⟩; have K2 := Lib.hid k2; clear k2))
  go_ret
  exact ⟨rfl, K1.out.trans K2.out (by simp)⟩
end Go.Proofs.YtkdbjelhkfdfjaaGreatDoor

