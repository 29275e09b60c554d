/-
  Contracts that the law rests on. Conditions: none.
-/
import Derived.Test.YtkdbjelhkfdfjaaGreatDoorLv24
import Derived.Test.YtkdbjelhkfdfjaaGreatDoorLv29
set_option linter.unusedVariables false
set_option maxRecDepth 100000
set_option maxHeartbeats 32000000
namespace Go.Proofs.YtkdbjelhkfdfjaaGreatDoor
open Go.RowKit
section
variable (w : World) (F : List Nat) (p cap hs : Nat) (E : Ent)
theorem dary_min_yes (c : DaryAt w F p cap hs E) (h : Nat) (h1 : 1 <= h) (h2 : h <= hs) (hi : ∃ y, isIn E h y) :
    Calls Tryz.prog 307 #[.pointer (some ⟨p,0,none⟩),.int .i64 h] w fun e w' => (∃ x : Nat, e = .returned (.tuple #[.int .i64 x,.bool true]) ∧ least E h x) ∧ w = w' := by
  obtain ⟨pc, gr, rc, d, Fc, R,rfl, m⟩ := c
  have hhas := cells_has w Fc pc cap hs E m.ce h
  rw [decide_eq_true (by omega)] at hhas
  have c0 := m.c0
  have c2 := m.c2
  have c3 := m.row h1 h2
  have hok := m.ok h h1 h2
  obtain ⟨Lm, r, hl, hlv⟩ := m.mem h h1 h2
  have hn : 0 < (R h).n := by
    obtain ⟨y, hy⟩ := hi
    obtain ⟨j, hj, _⟩ := (hok.mem y).1 hy
    omega
  have hat := rw_at w _ _ _ _ _ Lm _ _ r (by omega)
  rw [hlv 0 hn] at hat
  have hord : Ord (ahead E) (R h).v (R h).n := ordOf hok.inj (m.isSome h1 h2)
  have hl := hok.heap.least m.d1 hord hn hok.mem
  have HL := Lib.hid hl
  have hhs3 : (h : Int) < ((hs + 1 : Nat) : Int) := by omega
  clear hl hok r hlv hn hord m hi
  go_enter Tryz.func307, Tryz.ntmps307
  go_wp2_with (first
    | (go_at_call 301; refine hhas.mono ?_; rintro e w' ⟨rfl,rfl⟩)
    | (go_at_call 322; refine hat.mono ?_; rintro e w' ⟨rfl,rfl⟩))
  go_ret2
  exact ⟨⟨_,rfl, HL.out⟩,rfl⟩
theorem dary_min_no (c : DaryAt w F p cap hs E) (h : Nat) (h1 : 1 <= h) (h2 : h <= hs) (hi : ∀ y, ¬ isIn E h y) :
    Calls Tryz.prog 307 #[.pointer (some ⟨p,0,none⟩),.int .i64 h] w fun e w' => e = .returned (.tuple #[.int .i64 0,.bool false]) ∧ w = w' := by
  obtain ⟨pc, gr, rc, d, Fc, R,rfl, m⟩ := c
  have hhas := cells_has w Fc pc cap hs E m.ce h
  rw [decide_eq_true (by omega)] at hhas
  have c0 := m.c0
  have c2 := m.c2
  have c3 := m.row h1 h2
  have hok := m.ok h h1 h2
  obtain ⟨Lm, r, hl, hlv⟩ := m.mem h h1 h2
  have hn : (R h).n = 0 := by
    rcases Nat.eq_zero_or_pos (R h).n with e | e
    · exact e
    · exact absurd ((hok.mem _).2 ⟨0, e,rfl⟩) (hi _)
  have hat := rw_at_no w _ _ _ _ _ Lm _ _ r (by omega)
  have hhs3 : (h : Int) < ((hs + 1 : Nat) : Int) := by omega
  clear hl hok r hlv hn m hi
  go_enter Tryz.func307, Tryz.ntmps307
  go_wp2_with (first
    | (go_at_call 301; refine hhas.mono ?_; rintro e w' ⟨rfl,rfl⟩)
    | (go_at_call 322; refine hat.mono ?_; rintro e w' ⟨rfl,rfl⟩))
  go_ret2
  exact ⟨rfl,rfl⟩
def DaryIn (w : World) (F : List Nat) (p cap hs : Nat) (E' : Ent) (e : Ending) (w' : World) : Prop := e = .returned (.bool true) ∧ ∃ F', DaryAt w' F' p cap hs E' ∧ Moved F w F' w'
theorem dary_insert (c : DaryAt w F p cap hs E) (h x q : Nat) (k : Int) (h1 : 1 <= h) (h2 : h <= hs) (hx : x < cap) (he : E x = none) (hk : (Lit.int .i64 k).wf = true) (hq : (Lit.int .u64 (q : Int)).wf = true) :
    Calls Tryz.prog 303 #[.pointer (some ⟨p,0,none⟩),.int .i64 h,.int .i64 x,.agg #[.int .i64 k,.int .u64 (q : Int)]] w (DaryIn w F p cap hs (put E x (some (h, k, q)))) := by
  have hlt := c.lt
  obtain ⟨pc, gr, rc, d, Fc, R,rfl, m⟩ := c
  have hbc := m.ce.ok.bc
  have hb0 : Below w.heap.size w (w.alloc (.cells #[.int .i64 k,.int .u64 (q : Int)] 104)) := (Below.refl _ w).alloc (Nat.le_refl _) _
  have e0 : (w.alloc (.cells #[.int .i64 k,.int .u64 (q : Int)] 104)).cell? ⟨w.heap.size,0,none⟩ = some (.int .i64 k) := by rw [cell_of_blk (blk_alloc_new _)]; rfl
  have e1 : (w.alloc (.cells #[.int .i64 k,.int .u64 (q : Int)] 104)).cell? ⟨w.heap.size,1,none⟩ = some (.int .u64 (q : Int)) := by rw [cell_of_blk (blk_alloc_new _)]; rfl
  have m0 := m.keep (S := []) (Below.keeps hb0 (Nat.le_refl _) []) (by simp)
  have hw0 : w.heap.size < (w.alloc (.cells #[.int .i64 k,.int .u64 (q : Int)] 104)).heap.size := by simp
  have hkw : Keeps [] w (w.alloc (.cells #[.int .i64 k,.int .u64 (q : Int)] 104)) := Below.keeps hb0 (Nat.le_refl _) []
  have hhs3 : (h : Int) < ((hs + 1 : Nat) : Int) := by omega
  have hhs4 : (h : Int) < (hs : Int) + 1 := by omega
  have hmv := Moved.below hlt hb0
  have hnx : ∀ j, j < (R h).n -> (R h).v j ≠ x := fun j hj e => by have := m.isSome h1 h2 j hj; rw [e, he] at this; cases this
  clear m
  go_enter Tryz.func303, Tryz.ntmps303
  go_upto_region 1 with fail
  generalize hW0 : w.alloc (.cells #[.int .i64 k,.int .u64 (q : Int)] 104) = w0 at *
  clear hW0
  have d0 := m0.c0
  have d2 := m0.c2
  have d3 := m0.row h1 h2
  have hS : ∀ u, Keeps ((R h).fp ++ Fc) w0 u -> u.cell? ⟨p,0,none⟩ = some (.pointer (some ⟨pc,0,none⟩)) ∧ u.cell? ⟨p,2,none⟩ = some (.slice (some ⟨gr,0,none⟩) (hs + 1) rc) ∧ u.cell? ⟨gr,h,none⟩ = some (.pointer (some ⟨(R h).p,0,none⟩)) ∧ u.cell? ⟨w.heap.size,0,none⟩ = some (.int .i64 k) ∧ u.cell? ⟨w.heap.size,1,none⟩ = some (.int .u64 (q : Int)) := fun u kk =>
    have hp : p ∉ (R h).fp ++ Fc := fun e => by rcases List.mem_append.1 e with e | e; exact (m0.own h h1 h2 p e).1 rfl; exact m0.ne.2.1 e
    have hg : gr ∉ (R h).fp ++ Fc := fun e => by rcases List.mem_append.1 e with e | e; exact (m0.own h h1 h2 gr e).2.1 rfl; exact m0.ne.2.2 e
    have hz : w.heap.size ∉ (R h).fp ++ Fc := fun e => Nat.lt_irrefl _ (hlt _ (nestF_mem.2 (by rcases List.mem_append.1 e with e | e; exact .inr (.inr (.inr ⟨h, h1, h2, e⟩)); exact .inr (.inr (.inl e)))))
    ⟨(World.cell?_of_block (a := ⟨p,0,none⟩) (kk.block p (lt_of_block m0.blk) hp)).trans d0,(World.cell?_of_block (a := ⟨p,2,none⟩) (kk.block p (lt_of_block m0.blk) hp)).trans d2,(World.cell?_of_block (a := ⟨gr,h,none⟩) (kk.block gr (row_lt m0.rows) hg)).trans d3,
      (World.cell?_of_block (a := ⟨_,0,none⟩) (kk.block _ hw0 hz)).trans e0,(World.cell?_of_block (a := ⟨_,1,none⟩) (kk.block _ hw0 hz)).trans e1⟩
  have kdr : Keeps ((R h).fp ++ Fc) w0 w0.drew := ⟨rfl,rfl,rfl, Nat.le_refl _,fun _ _ _ => rfl⟩
  have hput := fun u (hu : CellsAt u Fc pc cap hs E) => cells_put u Fc pc cap hs E hu h x q k h1 h2 hx he hk hq
  have hE2 : ∀ j, j < (R h).n -> (put E x (some (h, k, q)) ((R h).v j)).isSome := fun j hj => by rw [put_other E x _ (hnx j hj)]; exact m0.isSome h1 h2 j hj
  have hrok := m0.ok h h1 h2
  have hheap : Heap' d (ahead (put E x (some (h, k, q)))) (R h).v (R h).n := hrok.heap.cong m0.d1 (fun _ _ => rfl) fun i j hi hj => ahead_put_other (hnx i hi) (hnx j hj)
  have hnle : (R h).n + 1 <= 65536 := by
    have : (R h).n + 1 <= cap := by
      have h5 := nodup_len (n := cap) (l := x :: (List.range (R h).n).map (R h).v) (by
        rw [List.nodup_cons]
        refine ⟨fun e => ?_,?_⟩
        · obtain ⟨j, hj, e⟩ := List.mem_map.1 e
          exact hnx j (List.mem_range.1 hj) e
        · exact List.pairwise_map.2 (List.Pairwise.imp_of_mem (fun {a b} ha hb hne e => hne (hrok.inj a b (List.mem_range.1 ha) (List.mem_range.1 hb) e)) List.nodup_range)) (by
        intro y hy
        simp only [List.mem_cons, List.mem_map, List.mem_range] at hy
        rcases hy with rfl | ⟨j, hj,rfl⟩
        · exact hx
        · exact m0.ce.ok.lt _ (m0.isSome h1 h2 j hj))
      simpa using h5
    omega
  have hadd := fun u (ho : OrdAt u p pc Fc cap hs (put E x (some (h, k, q)))) (hr : RowFull u (R h).p d (R h).ao (R h).ca (R h).mb (R h).n (R h).v) =>
    row_add u p pc Fc cap hs _ (R h).p d (R h).ao (R h).ca (R h).mb (R h).n (R h).v x hr ho hrok.inj hE2 (by rw [put_same]; rfl) hnx hnle m0.d1 m0.d2 hheap (m0.apart h1 h2)
  have HADD := Lib.hid hadd
  have HPUT := Lib.hid hput
  have HX := Lib.hid hnx
  have HE := Lib.hid he
  clear hadd hput hE2 hheap hrok hnx hlt he
  go_region_held3 (fun u => u.cell? ⟨p,0,none⟩ = some (.pointer (some ⟨pc,0,none⟩)) ∧ u.cell? ⟨p,2,none⟩ = some (.slice (some ⟨gr,0,none⟩) (hs + 1) rc) ∧ u.cell? ⟨gr,h,none⟩ = some (.pointer (some ⟨(R h).p,0,none⟩)) ∧ u.cell? ⟨w.heap.size,0,none⟩ = some (.int .i64 k) ∧ u.cell? ⟨w.heap.size,1,none⟩ = some (.int .u64 (q : Int)))
    (first | exact hS _ kdr | exact q1 | exact q2)
    (first
      | (go_at_call 316; refine (HPUT.out _ (by exact m0.ce.drew)).mono ?_; rintro e w1 ⟨rfl, hc1, hk1⟩; have k1 : Keeps Fc w0 w1 := hk1.ofDrew; have q1 := hS w1 (k1.mono fun b hb => .inl (by simp [hb])))
      | (go_at_call 317; refine (HADD.out _ ⟨q1.1, Nat.lt_of_lt_of_le (lt_of_block m0.blk) k1.size, m0.ne.2.1, hc1⟩ ((m0.mem h h1 h2).keep k1 (fun b hb e => (m0.own h h1 h2 b hb).2.2 e))).mono ?_; rintro e w2 ⟨ao', ca', v',rfl, hf2, ho2, hv2, hm2, hh2, k2, fp2⟩; have q2 := hS w2 ((k1.mono fun b hb => .inl (by simp [hb])).trans k2 fun b hb => .inl (by simpa [RowR.fp] using hb))))
  all_goals
    have kw : Keeps ((R h).fp ++ Fc) w0 w2 := (k1.mono (T := (R h).fp ++ Fc) fun b hb => .inl (by simp [hb])).trans k2 fun b hb => .inl (by simpa [RowR.fp] using hb)
    have hrok := m0.ok h h1 h2
    have hch := m0.change h1 h2 (E' := put E x (some (h, k, q))) (r := { p := (R h).p, mb := (R h).mb, ao := ao', ca := ca', n := (R h).n + 1, v := v' }) kw rfl
      (fun b hb => by rcases fp2 b hb with c | c; exact .inl c; exact .inr (Nat.le_trans k1.size c)) ho2.ce hf2
      ⟨hv2,fun z => by
        show _ ↔ ∃ j, j < (R h).n + 1 ∧ v' j = z
        rw [hm2 z, isIn_put, <- hrok.mem z]
        constructor
        · rintro (⟨c, _⟩ | ⟨_, c⟩)
          · exact .inl c
          · exact .inr c
        · rintro (c | c)
          · exact .inl ⟨c,rfl⟩
          · refine .inr ⟨?_, c⟩
            obtain ⟨j, hj, e⟩ := (hrok.mem z).1 c
            rw [<- e]; exact HX.out j hj, hh2⟩
      (fun g' a b c => (m0.ok g' a b).other m0.d1 (fun j hj e => by have := m0.isSome a b j hj; rw [e, HE.out] at this; cases this) fun y => by
        rw [isIn_put]
        constructor
        · rintro (⟨_, e⟩ | ⟨_, e⟩)
          · exact absurd e c
          · exact e
        · intro e
          refine .inr ⟨?_, e⟩
          rintro rfl
          have := e.some
          rw [HE.out] at this; cases this)
    have HCH := Lib.hid hch
    clear hch hS q1 q2 kdr
    go_wp2_with fail
    go_ret
    exact ⟨rfl, _,⟨pc, gr, rc, d, Fc, _,rfl, HCH.out.1⟩, hmv.trans HCH.out.2⟩
end
section
variable (w : World) (F : List Nat) (p cap hs : Nat) (E : Ent)
theorem dary_delete (c : DaryAt w F p cap hs E) (h x : Nat) (hx : isIn E h x) :
    Calls Tryz.prog 298 #[.pointer (some ⟨p,0,none⟩),.int .i64 x] w (DaryIn w F p cap hs (put E x none)) := by
  have hlt := c.lt
  obtain ⟨pc, gr, rc, d, Fc, R,rfl, m⟩ := c
  have hbc := m.ce.ok.bc
  obtain ⟨h1, h2⟩ : 1 <= h ∧ h <= hs := by obtain ⟨k, e⟩ := hx; exact m.ce.ok.heap x h k e
  have hrok := m.ok h h1 h2
  obtain ⟨i, hi, hvi⟩ := (hrok.mem x).1 hx
  obtain ⟨n, hn⟩ : ∃ n,(R h).n = n + 1 := ⟨(R h).n - 1,by omega⟩
  have hfull := m.mem h h1 h2
  have hinj := hrok.inj
  have hheap := hrok.heap
  have hsome := m.isSome h1 h2
  rw [hn] at hfull hinj hheap hsome hi
  have hnle : n + 1 <= 65536 := by
    have h5 := nodup_len (n := cap) (l := (List.range (n + 1)).map (R h).v)
      (List.pairwise_map.2 (List.Pairwise.imp_of_mem (fun {a b} ha hb hne e => hne (hinj a b (List.mem_range.1 ha) (List.mem_range.1 hb) e)) List.nodup_range)) (by
        intro y hy
        obtain ⟨j, hj,rfl⟩ := List.mem_map.1 hy
        exact m.ce.ok.lt _ (hsome j (List.mem_range.1 hj)))
    simp at h5
    omega
  have hhome := cells_home w Fc pc cap hs E m.ce x h hx
  have hdr : ∀ a, DaryP (w.drewN a) p pc gr rc d Fc cap hs E R := fun a => m.keep (S := []) ⟨rfl,rfl,rfl, Nat.le_refl _,fun _ _ _ => rfl⟩ (by simp)
  have hrem := fun a => row_remove (w.drewN a) p pc Fc cap hs E (R h).p d (R h).ao (R h).ca (R h).mb n (R h).v i (hfull.keep (S := []) ⟨rfl,rfl,rfl, Nat.le_refl _,fun _ _ _ => rfl⟩ (by simp)) (hdr a).ord hinj hsome hi hnle m.d1 m.d2 hheap (m.apart h1 h2)
  rw [hvi] at hrem
  have hdrop := fun u (hu : CellsAt u Fc pc cap hs E) => cells_drop u Fc pc cap hs E hu x h hx
  have d0 := m.c0
  have d2 := m.c2
  have d3 := m.row h1 h2
  have hS : ∀ u, Keeps ((R h).fp ++ Fc) w u -> u.cell? ⟨p,0,none⟩ = some (.pointer (some ⟨pc,0,none⟩)) := fun u kk =>
    have hp : p ∉ (R h).fp ++ Fc := fun e => by rcases List.mem_append.1 e with e | e; exact (m.own h h1 h2 p e).1 rfl; exact m.ne.2.1 e
    (World.cell?_of_block (a := ⟨p,0,none⟩) (kk.block p (lt_of_block m.blk) hp)).trans d0
  have hfin : ∀ (w2 w3 : World) (v' : Nat -> Nat), RowFull w2 (R h).p d (R h).ao (R h).ca (R h).mb n v' -> OrdAt w2 p pc Fc cap hs E -> Inj v' n -> (∀ z,(∃ j, j < n ∧ v' j = z) ↔ z ≠ x ∧ ∃ j, j < n + 1 ∧ (R h).v j = z) -> Heap' d (ahead E) v' n -> Keeps (rfp (R h).p (R h).mb (R h).ao ++ Fc) w w2 ->
      CellsAt w3 Fc pc cap hs (put E x none) -> Keeps Fc w2 w3 -> DaryIn w (nestF p gr Fc hs fun g => (R g).fp) p cap hs (put E x none) (.returned (.bool true)) w3 := by
    intro w2 w3 v' hf2 ho2 hv2 hm2 hh2 k2 hc3 k3
    have hne : ∀ j, j < n -> v' j ≠ x := fun j hj => ((hm2 (v' j)).1 ⟨j, hj,rfl⟩).1
    have hch := m.change h1 h2 (w' := w3) (E' := put E x none) (r := { p := (R h).p, mb := (R h).mb, ao := (R h).ao, ca := (R h).ca, n := n, v := v' }) (k2.trans k3 fun b hb => .inl (by simp [hb])) rfl
      (fun b hb => .inl hb) hc3 (hf2.keep k3 fun b hb e => (m.own h h1 h2 b hb).2.2 e)
      ⟨hv2,fun z => by
        show _ ↔ ∃ j, j < n ∧ v' j = z
        rw [hm2 z, isIn_drop, hrok.mem z, hn], hh2.cong m.d1 (fun _ _ => rfl) fun i j hi hj => ahead_put_other (hne i hi) (hne j hj)⟩
      (fun g' a b c => (m.ok g' a b).other m.d1 (fun j hj e => c (isIn_one (((m.ok g' a b).mem x).2 ⟨j, hj, e⟩) hx)) fun y => by
        rw [isIn_drop]
        constructor
        · exact fun e => e.2
        · intro e
          refine ⟨?_, e⟩
          rintro rfl
          exact c (isIn_one e hx))
    exact ⟨rfl, _,⟨pc, gr, rc, d, Fc, _,rfl, hch.1⟩, hch.2⟩
  have hhs3 : (h : Int) < ((hs + 1 : Nat) : Int) := by omega
  have hhs4 : (h : Int) < (hs : Int) + 1 := by omega
  have HF := Lib.hid hfin
  have HR := Lib.hid hrem
  have HD := Lib.hid hdrop
  have HS := Lib.hid hS
  clear hfin hrem hdrop hS m hrok hvi hfull hinj hheap hsome hdr hlt hx hn
  go_enter Tryz.func298, Tryz.ntmps298
  go_wp2_with (first
    | (go_at_call 302; refine hhome.mono ?_; rintro e w' ⟨rfl, n1,rfl⟩)
    | (go_at_call 311; refine (HR.out n1).mono ?_; rintro e w2 ⟨v',rfl, hf2, ho2, hv2, hm2, hh2, k2⟩; have e0 := HS.out w2 k2.ofDrewN)
    | (go_at_call 312; refine (HD.out _ ho2.ce).mono ?_; rintro e w3 ⟨rfl, hc3, k3⟩))
  go_ret
  exact HF.out w2 w3 v' hf2 ho2 hv2 hm2 hh2 k2.ofDrewN hc3 k3
def DaryExt (w : World) (F : List Nat) (p cap hs : Nat) (E : Ent) (h : Nat) (e : Ending) (w' : World) : Prop :=
  ∃ x : Nat, e = .returned (.tuple #[.int .i64 x,.bool true]) ∧ least E h x ∧ ∃ F', DaryAt w' F' p cap hs (put E x none) ∧ Moved F w F' w'
theorem dary_extract (c : DaryAt w F p cap hs E) (h : Nat) (h1 : 1 <= h) (h2 : h <= hs) (hi : ∃ y, isIn E h y) :
    Calls Tryz.prog 300 #[.pointer (some ⟨p,0,none⟩),.int .i64 h] w (DaryExt w F p cap hs E h) := by
  have hm := dary_min_yes w F p cap hs E c h h1 h2 hi
  have hd := fun x (hl : least E h x) => dary_delete w F p cap hs E c h x hl.1
  clear c hi
  go_enter Tryz.func300, Tryz.ntmps300
  go_wp2_with (first
    | (go_at_call 307; refine hm.mono ?_; rintro e w1 ⟨⟨x,rfl, hl⟩,rfl⟩)
    | (go_at_call 298; refine (hd _ hl).mono ?_; rintro e w2 ⟨rfl, F', c2, k2⟩))
  go_ret2
  exact ⟨x,rfl, hl, F', c2, k2⟩
end
def RowNew (w : World) (d : Nat) (e : Ending) (w' : World) : Prop :=
  ∃ p mb, e = .returned (.tuple #[.pointer (some ⟨p,0,none⟩),.int .i64 0]) ∧ (∀ v, RowFull w' p d none 0 mb 0 v) ∧ Keeps [] w w' ∧ w.heap.size <= p ∧ w.heap.size <= mb
theorem row_new (w : World) (d : Nat) (h1 : 2 <= d) (h2 : d <= 16) : Calls Tryz.prog 88 #[.int .i64 d] w (RowNew w d) := by
  have hmm := @run_makeMap Tryz.prog
  go_enter Tryz.func88, Tryz.ntmps88
  go_wp2_with (go_at_call 118; refine (fine_yes _ d h1 h2).mono ?_; rintro e w' ⟨rfl,rfl⟩)
  go_ret2
  refine ⟨w.heap.size + 1, w.heap.size,rfl,fun v => ⟨[],⟨?_, Rg.IR.nil _ _,?_,by omega,by simp⟩,rfl,by simp⟩,((Keeps.refl _ _).alloc _).alloc _,by omega,by omega⟩
  · have := blk_alloc_new (w := w.alloc (.map #[] 0)) (.cells #[.int .i64 (d : Int),.slice none 0 0,.map (some w.heap.size)] 260 (0,0))
    simpa using this
  · have : posF v 0 = fun _ => none := by funext z; unfold posF; split <;> simp
    rw [this]
    exact (IMap.made Tryz.prog 3 w).keep ((Keeps.refl [] _).alloc _) (by simp)
theorem Tryz.infoRowP : (Tryz.prog.info? 203).map (fun i => (i.zero, i.size, i.bytes)) = some (some (.pointer none), 1,8) := by kernel_rfl
section
variable (w : World) (F : List Nat) (p cap hs : Nat) (E : Ent)
def DaryMade (w : World) (F : List Nat) (p cap hs : Nat) (E : Ent) (e : Ending) (w' : World) : Prop := ∃ F', e = .returned (.int .i64 ((hs + 1 : Nat) : Int)) ∧ DaryAt w' F' p cap (hs + 1) E ∧ Moved F w F' w'
theorem dary_make (c : DaryAt w F p cap hs E) (hh : hs < 65536) : Calls Tryz.prog 305 #[.pointer (some ⟨p,0,none⟩)] w (DaryMade w F p cap hs E) := by
  have hlt := c.lt
  obtain ⟨pc, gr, rc, d, Fc, R,rfl, m⟩ := c
  have hmk := cells_make w Fc pc cap hs E m.ce hh
  have d0 := m.c0
  have d1 : w.cell? ⟨p,1,none⟩ = some (.int .i64 (d : Int)) := by rw [cell_of_blk m.blk]; rfl
  have hno : ∀ x, ¬ isIn E (hs + 1) x := fun x ⟨k, e⟩ => by have := (m.ce.ok.heap x _ k e).2; omega
  obtain ⟨n1, n2, n3⟩ := m.ne
  have hpl := lt_of_block m.blk
  have hgl := row_lt m.rows
  have hfin : ∀ (w1 w2 w4 : World) (Fc' : List Nat) (pr mb g' cap' : Nat), CellsAt w1 Fc' pc cap (hs + 1) E -> Moved Fc w Fc' w1 -> (∀ v, RowFull w2 pr d none 0 mb 0 v) -> Keeps [] w1 w2 -> w1.heap.size <= pr -> w1.heap.size <= mb ->
      w4.ownsRow 0 203 1 (.slice (some ⟨g',0,none⟩) (hs + 1 + 1) cap') (hs + 1 + 1) (rowsV (fun i => (R i).p) (hs + 1) ++ [.pointer (some ⟨pr,0,none⟩)]) -> Keeps [gr] w2 w4 -> (g' = gr ∨ w2.heap.size <= g') ->
      w4.frozen? ⟨p,2,none⟩ = false ∧ w4.cell? ⟨p,2,none⟩ = some (.slice (some ⟨gr,0,none⟩) (hs + 1) rc) ∧ DaryMade w (nestF p gr Fc hs fun g => (R g).fp) p cap hs E (.returned (.int .i64 ((hs + 1 : Nat) : Int))) (w4.setCell ⟨p,2,none⟩ (.slice (some ⟨g',0,none⟩) (hs + 1 + 1) cap')) := by
    intro w1 w2 w4 Fc' pr mb g' cap' hc1 hm1 hf2 k2 hpr hmb hr4 k4 hg4
    have s1 := hm1.keeps.size
    have s2 := k2.size
    have s4 := k4.size
    have hcl := hc1.lt
    have hf0 := (hf2 (fun _ => 0)).lt
    have hprl := hf0 pr (by simp [rfp])
    have hmbl := hf0 mb (by simp [rfp])
    have hnew : ∀ b, b ∉ Fc -> b < w.heap.size -> b ∉ Fc' := fun b a c e => by
      rcases hm1.from' b e with f | f
      · exact a f
      · omega
    have k12 : Keeps Fc w w2 := hm1.keeps.trans k2 (by simp)
    have b2 := k12.blk m.blk n2
    have b4 := k4.blk b2 (by simpa using n1)
    have hgp : g' ≠ p := by rcases hg4 with e | e; rw [e]; exact fun e => n1 e.symm; omega
    have k5 : Keeps [p] w4 (w4.setCell ⟨p,2,none⟩ (.slice (some ⟨g',0,none⟩) (hs + 1 + 1) cap')) := (Keeps.refl _ _).setCell (.inl (by simp)) _
    have kall : Keeps ([p, gr] ++ Fc) w (w4.setCell ⟨p,2,none⟩ (.slice (some ⟨g',0,none⟩) (hs + 1 + 1) cap')) := ((k12.mono (T := [p, gr] ++ Fc) fun b hb => .inl (by simp [hb])).trans k4 fun b hb => .inl (by simp at hb; simp [hb])).trans k5 fun b hb => .inl (by simp at hb; simp [hb])
    have kold : Keeps [p, gr] w2 (w4.setCell ⟨p,2,none⟩ (.slice (some ⟨g',0,none⟩) (hs + 1 + 1) cap')) := (k4.mono (T := [p, gr]) (by simp)).trans k5 (by simp)
    have hD : DaryP (w4.setCell ⟨p,2,none⟩ (.slice (some ⟨g',0,none⟩) (hs + 1 + 1) cap')) p pc g' cap' d Fc' cap (hs + 1) E (upd R (hs + 1) ⟨pr, mb, none, 0,0,fun _ => 0⟩) := by
      have hgF : g' ∉ Fc' := by rcases hg4 with e | e; rw [e]; exact hnew gr n3 hgl; exact fun f => by have := hcl _ f; omega
      refine ⟨?_,(hc1.keep k2 (by simp)).keep kold ?_,?_,⟨fun e => hgp e.symm, hnew p n2 hpl, hgF⟩,?_,?_,?_,?_, m.d1, m.d2⟩
      · rw [blk_setCell _ b4]; simp
      · intro b hb e
        simp only [List.mem_cons, List.not_mem_nil, or_false] at e
        rcases e with rfl | rfl
        · exact hnew b n2 hpl hb
        · exact hnew b n3 hgl hb
      · have := k5.row hr4 (by simpa using hgp)
        rw [rowsV_snoc _ _ (by omega), rowsV_congr (r := fun i => (R i).p) (r' := fun i => (upd R (hs + 1) ⟨pr, mb, none, 0,0,fun _ => 0⟩ i).p)]
        · simp only [upd_same]; exact this
        · intro i a b
          simp only [upd_other R _ (show i ≠ hs + 1 by omega)]
      · intro g a b x hx
        by_cases c : g = hs + 1
        · subst c
          rw [upd_same] at hx
          simp only [RowR.fp, rfp, Option.toList_none, List.map_nil, List.mem_cons, List.not_mem_nil, or_false] at hx
          have : x ∉ Fc' := fun e => by have := hcl _ e; rcases hx with rfl | rfl <;> omega
          refine ⟨by rcases hx with rfl | rfl <;> omega,?_, this⟩
          rcases hg4 with e | e
          · rw [e]; rcases hx with rfl | rfl <;> omega
          · rcases hx with rfl | rfl <;> omega
        · rw [upd_other R _ c] at hx
          obtain ⟨q1, q2, q3⟩ := m.own g a (by omega) x hx
          have hxl := hlt x (nestF_mem.2 (.inr (.inr (.inr ⟨g, a,by omega, hx⟩))))
          refine ⟨q1,?_, hnew x q3 hxl⟩
          rcases hg4 with e | e
          · rw [e]; exact q2
          · omega
      · intro g1 g2 a1 a2 b1 b2 hne x hx hx2
        by_cases c1 : g1 = hs + 1
        · subst c1
          rw [upd_same] at hx
          rw [upd_other R _ (fun e => hne e.symm)] at hx2
          have hxl := hlt x (nestF_mem.2 (.inr (.inr (.inr ⟨g2, b1,by omega, hx2⟩))))
          simp only [RowR.fp, rfp, Option.toList_none, List.map_nil, List.mem_cons, List.not_mem_nil, or_false] at hx
          rcases hx with rfl | rfl <;> omega
        · rw [upd_other R _ c1] at hx
          have hxl := hlt x (nestF_mem.2 (.inr (.inr (.inr ⟨g1, a1,by omega, hx⟩))))
          by_cases c2 : g2 = hs + 1
          · subst c2
            rw [upd_same] at hx2
            simp only [RowR.fp, rfp, Option.toList_none, List.map_nil, List.mem_cons, List.not_mem_nil, or_false] at hx2
            rcases hx2 with rfl | rfl <;> omega
          · rw [upd_other R _ c2] at hx2
            exact m.dis g1 g2 a1 (by omega) b1 (by omega) hne x hx hx2
      · intro g a b
        by_cases c : g = hs + 1
        · subst c
          rw [upd_same]
          exact (hf2 _).keep kold fun x hx e => by
            simp only [rfp, Option.toList_none, List.map_nil, List.mem_cons, List.not_mem_nil, or_false] at hx e
            rcases hx with rfl | rfl <;> omega
        · rw [upd_other R _ c]
          refine (m.mem g a (by omega)).keep kall fun x hx e => ?_
          obtain ⟨q1, q2, q3⟩ := m.own g a (by omega) x hx
          simp only [List.mem_append, List.mem_cons, List.not_mem_nil, or_false] at e
          rcases e with (e | e) | e
          · exact q1 e
          · exact q2 e
          · exact q3 e
      · intro g a b
        by_cases c : g = hs + 1
        · subst c
          rw [upd_same]
          exact ⟨fun i j hi => by simp at hi,fun x => ⟨fun e => absurd e (hno x),fun ⟨j, hj, _⟩ => by simp at hj⟩,fun j _ hj => by simp at hj⟩
        · rw [upd_other R _ c]; exact m.ok g a (by omega)
    refine ⟨frozen_of_blk b4,by rw [cell_of_blk b4]; rfl, _,rfl,⟨pc, g', cap', d, Fc', _,rfl, hD⟩, kall.mono fun b hb => .inl (nestF_mem.2 ?_),fun b hb => ?_, hD.lt⟩
    · simp only [List.mem_append, List.mem_cons, List.not_mem_nil, or_false] at hb
      rcases hb with (e | e) | e
      · exact .inl e
      · exact .inr (.inl e)
      · exact .inr (.inr (.inl e))
    · rcases nestF_mem.1 hb with e | e | e | ⟨i, a1, a2, e⟩
      · exact .inl (nestF_mem.2 (.inl e))
      · rcases hg4 with f | f
        · exact .inl (nestF_mem.2 (.inr (.inl (e.trans f))))
        · exact .inr (by omega)
      · rcases hm1.from' b e with f | f
        · exact .inl (nestF_mem.2 (.inr (.inr (.inl f))))
        · exact .inr f
      · by_cases c : i = hs + 1
        · subst c
          rw [upd_same] at e
          simp only [RowR.fp, rfp, Option.toList_none, List.map_nil, List.mem_cons, List.not_mem_nil, or_false] at e
          exact .inr (by rcases e with rfl | rfl <;> omega)
        · rw [upd_other R _ c] at e
          exact .inl (nestF_mem.2 (.inr (.inr (.inr ⟨i, a1,by omega, e⟩))))
  have hstep : ∀ (w1 w2 : World) (Fc' : List Nat), Moved Fc w Fc' w1 -> Keeps [] w1 w2 -> w1.cell? ⟨p,1,none⟩ = some (.int .i64 (d : Int)) ∧ w2.cell? ⟨p,2,none⟩ = some (.slice (some ⟨gr,0,none⟩) (hs + 1) rc) ∧ w2.ownsRow 0 203 1 (.slice (some ⟨gr,0,none⟩) (hs + 1) rc) (hs + 1) (rowsV (fun i => (R i).p) (hs + 1)) := fun w1 w2 Fc' h1 h2 =>
    ⟨(World.cell?_of_block (a := ⟨p,1,none⟩) (h1.keeps.block p hpl n2)).trans d1,by rw [cell_of_blk ((h1.keeps.trans h2 (by simp)).blk m.blk n2)]; rfl,(h1.keeps.trans h2 (by simp)).row m.rows n3⟩
  have hnew := fun u => row_new u d m.d1 m.d2
  have hh3 : (0 : Int) < ((hs + 1 : Nat) : Int) := by omega
  have HF := Lib.hid hfin
  have HS := Lib.hid hstep
  clear hfin hstep m hlt d1 hno
  go_enter Tryz.func305, Tryz.ntmps305
  go_upto_region 3 with (go_at_call 318; refine hmk.mono ?_; rintro e w1 ⟨Fc',rfl, hc1, hm1⟩)
  have q1 := (HS.out w1 w1 Fc' hm1 (Keeps.refl _ _)).1
  go_upto_region 4 with (go_at_call 88; refine (hnew w1).mono ?_; rintro e w2 ⟨pr, mb,rfl, hf2, k2, hpr, hmb⟩)
  obtain ⟨_, q2, q3⟩ := HS.out w1 w2 Fc' hm1 k2
  clear q1
  go_wp2_with (first
    | (at_builtin; refine wpList_push _ 203 (.pointer (some ⟨pr,0,none⟩)) (0,0) rfl (.tmp 25) (.tmp 27) 206 rfl (.pointer none) 8 Tryz.underlying206 Tryz.infoRowP rfl rfl _ (hs + 1) (rowsV (fun i => (R i).p) (hs + 1)) (by simp [Act.eval]) q3 (by simp [Act.eval]) (by unfold maxLen; omega) (by omega) ?_; intro g' cap' w4 hr4 hk4 hf4; obtain ⟨f5, c5, hD5⟩ := HF.out w1 w2 w4 Fc' pr mb g' cap' hc1 hm1 hf2 k2 hpr hmb hr4 (by simpa [Value.ownBlock] using hk4) (by simpa [Value.ownBlock, eq_comm] using hf4); clear hr4 hk4 hf4))
  go_ret
  exact hD5
def DaryNew (w : World) (n : Nat) (e : Ending) (w' : World) : Prop :=
  ∃ (F : List Nat) (p : Nat), e = .returned (.tuple #[.pointer (some ⟨p,0,none⟩),.int .i64 0]) ∧ DaryAt w' F p n 0 (fun _ => none) ∧ Keeps [] w w' ∧ ∀ b ∈ F, w.heap.size <= b
theorem dary_new (w : World) (n d : Nat) (hn : n <= 65536) (h1 : 2 <= d) (h2 : d <= 16) : Calls Tryz.prog 57 #[.int .i64 n,.int .i64 d] w (DaryNew w n) := by
  have hs := fun u => row_new u d h1 h2
  go_enter Tryz.func57, Tryz.ntmps57
  go_wp2_with (first
    | (go_at_call 87; refine (cells_new w n hn).mono ?_; rintro e w1 ⟨Fc, pc,rfl, hc1, hk1, hF1⟩)
    | (go_at_call 88; refine (hs w1).mono ?_; rintro e w2 ⟨pr, mb,rfl, hf2, hk2, hp2, hm2⟩))
  go_ret2
  have hl1 := hc1.lt
  have k1 := hk1.size
  have k2 := hk2.size
  have hk3 : ∀ o o', Keeps [] w2 ((w2.alloc o).alloc o') := fun o o' => ((Keeps.refl _ _).alloc _).alloc _
  have hsz : ∀ o o' : Obj,((w2.alloc o).alloc o').heap.size = w2.heap.size + 2 := fun o o' => by simp
  refine ⟨nestF (w2.heap.size + 1) w2.heap.size Fc 0 (fun _ => []), w2.heap.size + 1,rfl,⟨pc, w2.heap.size, 1, d, Fc,fun _ => ⟨0,0, none, 0,0,fun _ => 0⟩,by simp [nestF],⟨?_,(hc1.keep hk2 (by simp)).keep (hk3 _ _) (by simp),?_,?_,fun g a b => by omega,fun g g' a b => by omega,fun g a b => by omega,fun g a b => by omega, h1, h2⟩⟩,(hk1.trans hk2 (by simp)).trans (hk3 _ _) (by simp),?_⟩
  · have := blk_alloc_new (w := w2.alloc (.cells #[.pointer none] 203 (0,0))) (.cells #[.pointer (some ⟨pc,0,none⟩),.int .i64 (d : Int),.slice (some ⟨w2.heap.size,0,none⟩) 1 1] 208 (0,0))
    simpa using this
  · refine ⟨by simp [rowsV],.inr ⟨w2.heap.size, 1, #[.pointer none],rfl, Nat.zero_le _,?_,by simp,by decide,by simp,by simp [rowsV]⟩⟩
    rw [blk_alloc_old _ (by simp), blk_alloc_new]
  · exact ⟨by omega,fun e => by have := hl1 _ e; omega,fun e => by have := hl1 _ e; omega⟩
  · intro b hb
    rcases nestF_mem.1 hb with rfl | rfl | e | ⟨i, a, b, _⟩
    · omega
    · omega
    · exact hF1 b e
    · omega
end
section
variable {w w' : World} {p pc pf gf gr rc cap hs : Nat} {F Fc S : List Nat} {E E' : Ent} {T T' : Nat -> TwigR} {U U' : Nat -> Option Nat} {R R' : Nat -> BRow}
theorem BinQ.cells (q : BinQ w p pc pf gf gr rc Fc cap hs E T U R) (hc : CellsAt w' Fc pc cap hs E') (k : Keeps Fc w w') : BinQ w' p pc pf gf gr rc Fc cap hs E' T U R :=
  ⟨k.blk q.blk q.ne.2.1, hc, q.fo.keep k (fun b hb e => q.ne.2.2.2.2.2 b e hb), k.row q.rows q.ne.2.2.1,fun g hg => ir_keep' (q.mem g hg) k (fun b e => (q.own g b hg e).2.2.1), q.ne, q.own, q.dis⟩
def BestOf (E : Ent) (l : List Nat) (i b : Nat) : Prop := b ∈ l.take i ∧ ∀ y ∈ l.take i, y ≠ b -> ahead E b y = true
theorem BestOf.one (E : Ent) (x : Nat) (t : List Nat) : BestOf E (x :: t) 1 x := by
  refine ⟨by simp,fun y hy hne => ?_⟩
  simp at hy; exact absurd hy hne
theorem BestOf.more {l : List Nat} {i b y : Nat} (h : BestOf E l i b) (hy : l[i]? = some y) (ha : ahead E y b = true) : BestOf E l (i + 1) y := by
  unfold BestOf
  rw [List.take_add_one, hy]
  refine ⟨by simp,fun z hz hne => ?_⟩
  simp only [Option.toList_some, List.mem_append, List.mem_singleton] at hz
  rcases hz with hz | hz
  · by_cases c : z = b
    · subst c; exact ha
    · exact ahead_tr ha (h.2 z hz c)
  · exact absurd hz hne
theorem BestOf.less {l : List Nat} {i b y : Nat} (h : BestOf E l i b) (hy : l[i]? = some y) (ha : ahead E y b = false) (hb : (E b).isSome) (hys : (E y).isSome) : BestOf E l (i + 1) b := by
  unfold BestOf
  rw [List.take_add_one, hy]
  refine ⟨by simp [h.1],fun z hz hne => ?_⟩
  simp only [Option.toList_some, List.mem_append, List.mem_singleton] at hz
  rcases hz with hz | rfl
  · exact h.2 z hz hne
  · rcases ahead_tot hys hb hne with c | c
    · rw [ha] at c; cases c
    · exact c
end
section
variable (w : World) (p pc pf gf gr rc cap hs : Nat) (Fc : List Nat) (E : Ent) (T : Nat -> TwigR) (U : Nat -> Option Nat) (R : Nat -> BRow)
theorem bin_row (q : BinQ w p pc pf gf gr rc Fc cap hs E T U R) (h : Nat) (h1 : 1 <= h) (h2 : h <= hs) :
    Calls Tryz.prog 353 #[.pointer (some ⟨p,0,none⟩),.int .i64 h] w fun e w' => e = .returned (.slice (R h).ao (R h).l.length (R h).ca) ∧ w = w' := by
  have hbh := q.ce.ok.bh
  have hhas := cells_has w Fc pc cap hs E q.ce h
  rw [decide_eq_true (by omega)] at hhas
  have c0 := q.c0
  have c2 := q.c2
  have d1 := q.at h2
  have hh3 : (h : Int) < ((hs + 1 : Nat) : Int) := by omega
  have hh4 : (h : Int) < (hs : Int) + 1 := by omega
  clear q
  go_enter Tryz.func353, Tryz.ntmps353
  go_wp2_with (go_at_call 301; refine hhas.mono ?_; rintro e w' ⟨rfl,rfl⟩)
  go_ret
  exact ⟨rfl,rfl⟩
theorem bin_row_no (q : BinQ w p pc pf gf gr rc Fc cap hs E T U R) (h : Nat) (h1 : ¬ (1 <= h ∧ h <= hs)) :
    Calls Tryz.prog 353 #[.pointer (some ⟨p,0,none⟩),.int .i64 h] w fun e w' => e = .returned (.slice none 0 0) ∧ w = w' := by
  have hhas := cells_has w Fc pc cap hs E q.ce h
  rw [decide_eq_false (by omega)] at hhas
  have c0 := q.c0
  clear q
  go_enter Tryz.func353, Tryz.ntmps353
  go_wp2_with (go_at_call 301; refine hhas.mono ?_; rintro e w' ⟨rfl,rfl⟩)
  go_ret
  exact ⟨rfl,rfl⟩
theorem bin_min_no (q : BinQ w p pc pf gf gr rc Fc cap hs E T U R) (o : BinO E (fun x => (T x).kids) U (fun g => (R g).l)) (h : Nat) (hi : ∀ y, ¬ isIn E h y) :
    Calls Tryz.prog 346 #[.pointer (some ⟨p,0,none⟩),.int .i64 h] w fun e w' => e = .returned (.tuple #[.int .i64 0,.bool false]) ∧ w = w' := by
  have hr : ∃ ao ca, Calls Tryz.prog 353 #[.pointer (some ⟨p,0,none⟩),.int .i64 h] w fun e w' => e = .returned (.slice ao 0 ca) ∧ w = w' := by
    by_cases c : 1 <= h ∧ h <= hs
    · have := bin_row w p pc pf gf gr rc cap hs Fc E T U R q h c.1 c.2
      have e : (R h).l = [] := by
        cases e : (R h).l with
        | nil => rfl
        | cons x t => exact absurd ((o.mem h x).1 (by simp [e])).1 (hi x)
      rw [e] at this
      exact ⟨_, _, this⟩
    · exact ⟨_, _, bin_row_no w p pc pf gf gr rc cap hs Fc E T U R q h c⟩
  obtain ⟨ao, ca, hr⟩ := hr
  clear q o hi
  go_enter Tryz.func346, Tryz.ntmps346
  go_wp2_with (go_at_call 353; refine hr.mono ?_; rintro e w' ⟨rfl,rfl⟩)
  go_ret2
  exact ⟨rfl,rfl⟩
def BinMin (h : Nat) (e : Ending) (w' : World) : Prop := ∃ x : Nat, e = .returned (.tuple #[.int .i64 x,.bool true]) ∧ least E h x ∧ x ∈ (R h).l ∧ BinQ w' p pc pf gf gr rc Fc cap hs E T U R ∧ Keeps Fc w w'
theorem bin_min_yes (q : BinQ w p pc pf gf gr rc Fc cap hs E T U R) (o : BinO E (fun x => (T x).kids) U (fun g => (R g).l)) (h : Nat) (h1 : 1 <= h) (h2 : h <= hs) (hi : ∃ y, isIn E h y) :
    Calls Tryz.prog 346 #[.pointer (some ⟨p,0,none⟩),.int .i64 h] w (BinMin w p pc pf gf gr rc cap hs Fc E T U R h) := by
  have hr := bin_row w p pc pf gf gr rc cap hs Fc E T U R q h h1 h2
  have hn := fun y (hy : (E y).isSome) => q.ce.ok.lt y hy
  have hbn := q.fo.cap
  obtain ⟨x, t, el⟩ : ∃ x t,(R h).l = x :: t := by
    cases e : (R h).l with
    | nil => obtain ⟨y, hy⟩ := hi; exact absurd hy (o.none_of hn e y)
    | cons x t => exact ⟨x, t,rfl⟩
  have hmem : ∀ y, y ∈ x :: t -> (E y).isSome := fun y hy => ((o.mem h y).1 (by rw [el]; exact hy)).1.some
  have hlen : (x :: t).length <= 65536 := by
    rw [<- el]
    exact Nat.le_trans (nodup_len (o.row h).nodup fun y hy => hn y (hmem y (by rw [<- el]; exact hy))) hbn
  have hfin : ∀ y w', BestOf E (x :: t) (t.length + 1) y -> BinQ w' p pc pf gf gr rc Fc cap hs E T U R -> Keeps Fc w w' -> BinMin w p pc pf gf gr rc cap hs Fc E T U R h (.returned (.tuple #[.int .i64 y,.bool true])) w' := fun y w' hb hq hk => by
    have e : (x :: t).take (t.length + 1) = x :: t := by simp
    unfold BestOf at hb
    rw [e] at hb
    exact ⟨y,rfl, o.first hn (by show y ∈ (R h).l; rw [el]; exact hb.1) (fun z hz hne => hb.2 z (by rw [<- el]; exact hz) hne),by rw [el]; exact hb.1, hq, hk⟩
  have hir := q.mem h h2
  unfold BRow.v at hir
  rw [el] at hir hr
  simp only [List.length_cons] at hir hr hlen
  obtain ⟨g, e, hg1, _, d0⟩ := hir.at 0 (by simp)
  rw [e] at hir hr
  have hat : ∀ u i y, Keeps Fc w u -> (x :: t)[i]? = some y -> u.cell? ⟨g,i,none⟩ = some (.int .i64 (y : Nat)) := fun u i y k hy => by
    have hb : ∀ b,(Value.slice (some ⟨g,0,none⟩) (t.length + 1) (R h).ca).ownBlock = some b -> b ∉ Fc := fun b eb => (q.own h b h2 (by unfold BRow.v; rw [el, e]; exact eb)).2.2.1
    obtain ⟨g', e', _, _, c⟩ := (ir_keep' hir k hb).at i (List.getElem?_eq_some_iff.1 hy).1
    cases e'
    rw [c, Rg.fn, List.getD, hy]; rfl
  have hca : t.length + 1 <= (R h).ca := by
    rcases hir.2 with ⟨e, _⟩ | ⟨g', cap, cur, e, _, _, h1, _⟩
    · cases e
    · cases e; simpa using h1
  generalize (R h).ca = ca at *
  have d1 := hat w 0 x (Keeps.refl _ _) rfl
  have hge : (1 : Int) <= (t.length : Int) + 1 := by omega
  have HF := Lib.hid hfin
  have HA := Lib.hid hat
  have HM := Lib.hid hmem
  have hn0 : ((t.length : Int) + 1 == 0) = false := by rw [beq_eq_false_iff_ne]; omega
  have Q := Lib.hid q
  clear hfin hat hmem hir d0 el e o hi hn q
  go_enter Tryz.func346, Tryz.ntmps346
  by_cases hq : ca = 1
  · obtain rfl : t = [] := List.length_eq_zero_iff.1 (by omega)
    subst hq
    go_wp2_with (go_at_call 353; refine hr.mono ?_; rintro e w' ⟨rfl,rfl⟩)
    go_loopg [7,22] 1 (fun m s u wr => m = 1 ∧ s = .int .i64 x ∧ u = .int .i64 0 ∧ wr = w)
    case atStart => exact ⟨rfl,rfl,rfl,rfl⟩
    case round =>
      obtain ⟨_,rfl,rfl,rfl⟩ := hrel
      go_wp2_with fail
      go_ret2
      exact HF.out _ _ (BestOf.one E x []) Q.out (Keeps.refl _ _)
  · go_wp2_with (go_at_call 353; refine hr.mono ?_; rintro e w' ⟨rfl,rfl⟩)
    go_loopg [7,22] (t.length + 1) (fun m s u wr => ∃ i b : Nat, m + i = t.length + 1 ∧ i <= t.length ∧ s = .int .i64 b ∧ u = .int .i64 i ∧ BestOf E (x :: t) (i + 1) b ∧ BinQ wr p pc pf gf gr rc Fc cap hs E T U R ∧ Keeps Fc w wr)
    case atStart => exact ⟨0, x,by omega,by omega,rfl,rfl, BestOf.one E x t, Q.out, Keeps.refl _ _⟩
    case round =>
      clear Q d1 hr
      obtain ⟨i, b, hk, hin,rfl,rfl, hb, q, kp⟩ := hrel
      have HK := Lib.hid hk
      clear hk
      by_cases hi : i < t.length
      · obtain ⟨y, hy⟩ : ∃ y,(x :: t)[i + 1]? = some y := ⟨_, List.getElem?_eq_getElem (by simp; omega)⟩
        have d1 := HA.out wr (i + 1) y kp hy
        rw [Nat.add_comm] at d1
        have hys := HM.out y (List.mem_of_getElem? hy)
        have hbs := HM.out b (List.mem_of_mem_take hb.1)
        have hal := cells_ahead wr Fc pc cap hs E q.ce y b hys hbs
        have c0 := q.c0
        have hi3 : (i : Int) < (t.length : Int) := by omega
        have HB := Lib.hid hb
        have HY := Lib.hid hy
        have Q := Lib.hid q
        have KP := Lib.hid kp
        clear hb hy q kp
        cases ha : ahead E y b with
        | true =>
          rw [ha] at hal
          have HH := Lib.hid ha
          clear ha
          go_wp2_with (go_at_call 339; refine hal.mono ?_; rintro e w1 ⟨rfl, hc1, hk1⟩)
          go_roundg (gk - 1)
          case measure => have := HK.out; omega
          case rel => exact ⟨i + 1, y,by have := HK.out; omega,by omega,rfl,by go_num, HB.out.more HY.out HH.out, Q.out.cells hc1 hk1, KP.out.trans hk1 (fun x hx => .inl hx)⟩
        | false =>
          rw [ha] at hal
          have HH := Lib.hid ha
          clear ha
          go_wp2_with (go_at_call 339; refine hal.mono ?_; rintro e w1 ⟨rfl, hc1, hk1⟩)
          go_roundg (gk - 1)
          case measure => have := HK.out; omega
          case rel => exact ⟨i + 1, b,by have := HK.out; omega,by omega,rfl,by go_num, HB.out.less HY.out HH.out hbs hys, Q.out.cells hc1 hk1, KP.out.trans hk1 (fun x hx => .inl hx)⟩
      · obtain rfl : i = t.length := by omega
        go_wp2_with fail
        go_ret2
        exact HF.out _ _ hb q kp
end
def tabV (tab : List (Option Nat)) : List Value := tab.map fun o => .int .i64 (oZ o)
theorem tabV_push (tab : List (Option Nat)) : tabV tab ++ [.int .i64 (-1)] = tabV (tab ++ [none]) := by simp [tabV, oZ]
theorem tabV_set (tab : List (Option Nat)) (i : Nat) (o : Option Nat) : (tabV tab).set i (.int .i64 (oZ o)) = tabV (tab.set i o) := by simp [tabV, List.map_set]
theorem tabV_at {tab : List (Option Nat)} {i : Nat} {o : Option Nat} (h : tab[i]? = some o) : (tabV tab)[i]? = some (.int .i64 (oZ o)) := by simp [tabV, h]
def TabAt (B : Nat) (w : World) (v : Value) (tab : List (Option Nat)) : Prop := w.ownsRow B 3 1 v tab.length (tabV tab)
section
variable {w w' : World} {B i g cap : Nat} {v : Value} {tab : List (Option Nat)} {S : List Nat} {o : Option Nat}
theorem TabAt.keep (h : TabAt B w v tab) (k : Keeps S w w') (hS : ∀ b, v.ownBlock = some b -> b ∉ S) : TabAt B w' v tab := by
  refine ⟨h.1,?_⟩
  rcases h.2 with h0 | ⟨g, cap', cur, e, hb, hg, r⟩
  · exact .inl h0
  · exact .inr ⟨g, cap', cur, e, hb, k.blk hg (hS g (by rw [e]; exact ownBlock_some _ _ _ _)), r⟩
theorem TabAt.own (h : TabAt B w v tab) : ∀ b, v.ownBlock = some b -> B <= b ∧ b < w.heap.size := by
  intro b e
  rcases h.2 with ⟨h0, _⟩ | ⟨g, cap', cur, e', hb, hg, r⟩
  · rw [h0] at e; cases e
  · rw [e', ownBlock_some] at e; cases e; exact ⟨hb, lt_of_block hg⟩
theorem TabAt.form (h : TabAt B w v tab) : ∃ ao cap, v = .slice ao tab.length cap := by
  rcases h.2 with ⟨rfl, h0⟩ | ⟨g, cap', cur,rfl, _⟩
  · exact ⟨none, 0,by rw [h0]⟩
  · exact ⟨_, _,rfl⟩
theorem TabAt.at (h : TabAt B w v tab) (hi : tab[i]? = some o) : ∃ g cap, v = .slice (some ⟨g,0,none⟩) tab.length cap ∧ B <= g ∧ w.cell? ⟨g,i,none⟩ = some (.int .i64 (oZ o)) ∧ w.frozen? ⟨g,i,none⟩ = false := by
  have hl := (List.getElem?_eq_some_iff.1 hi).1
  have h' := h
  rcases h.2 with ⟨_, h0⟩ | ⟨g, cap', cur,rfl, hb, hg, _⟩
  · omega
  · refine ⟨g, cap',rfl, hb,?_, frozen_of_blk hg⟩
    rw [World.ownsRow.cellAt h' i (by omega)]
    exact tabV_at hi
theorem TabAt.set (h : TabAt B w (.slice (some ⟨g,0,none⟩) tab.length cap) tab) (hi : i < tab.length) (o : Option Nat) : TabAt B (w.setCell ⟨g,i,none⟩ (.int .i64 (oZ o))) (.slice (some ⟨g,0,none⟩) (tab.set i o).length cap) (tab.set i o) := by
  have := Rg.row_set h i hi (.int .i64 (oZ o))
  unfold TabAt
  rw [<- tabV_set, List.length_set]
  exact this
theorem win_get {L : List Nat} {x : Nat} (h : Win B w v L) (hx : L[i]? = some x) : ∃ g off cap, v = .slice (some ⟨g,off,none⟩) L.length cap ∧ B <= g ∧ w.cell? ⟨g, off + i, none⟩ = some (.int .i64 (x : Nat)) := by
  have hi := (List.getElem?_eq_some_iff.1 hx).1
  rcases h with ⟨_, h0⟩ | ⟨g, off, cap, cur,rfl, hb, hg, h1, h2, h3⟩
  · subst h0; cases hx
  · refine ⟨g, off, cap,rfl, hb,?_⟩
    rw [cell_of_blk hg]
    simpa using h3 i x hx
end
section
variable (w : World) (p pc pr gn gp gt gT cT : Nat) (Fc : List Nat) (cap hs : Nat) (E : Ent) (top : Nat -> Option Nat) (h x : Nat)
def TidyP (c : Option Nat) (rest : List Nat) (wl : List (List Nat)) (U kid : Nat -> Option Nat) (deg : Nat -> Nat) (mk : Nat -> Bool) (tab : List (Option Nat)) (v : Value) (wr : World) : Prop :=
  FibQ wr p pc pr gn gp gt gT cT Fc cap hs E wl U kid deg mk top ∧ Tidy E cap (Rl wl) U kid deg top h x tab c rest ∧ TabAt w.heap.size wr v tab ∧ tab.length <= 65537 ∧ Keeps (p :: pr :: gn :: gp :: gt :: gT :: Fc) w wr
def TidyS (c : Option Nat) (rest : List Nat) (v : Value) (wr : World) : Prop := ∃ wl U kid deg mk tab, TidyP w p pc pr gn gp gt gT cT Fc cap hs E top h x c rest wl U kid deg mk tab v wr
end
section
variable {w wr w' : World} {p pc pr gn gp gt gT cT : Nat} {Fc : List Nat} {cap hs : Nat} {E : Ent} {top : Nat -> Option Nat} {h x : Nat} {c : Option Nat} {rest : List Nat} {wl : List (List Nat)} {U kid : Nat -> Option Nat} {deg : Nat -> Nat} {mk : Nat -> Bool} {tab : List (Option Nat)} {v v' : Value}
theorem TidyP.apart (t : TidyP w p pc pr gn gp gt gT cT Fc cap hs E top h x c rest wl U kid deg mk tab v wr) (hF : ∀ b ∈ p :: pr :: gn :: gp :: gt :: gT :: Fc, b < w.heap.size) : ∀ b, v.ownBlock = some b -> b ∉ p :: pr :: gn :: gp :: gt :: gT :: Fc := fun b e f => by
  have h1 := (t.2.2.1.own b e).1
  have h2 := hF b f
  omega
theorem TidyP.table {tab' : List (Option Nat)} {c' : Option Nat} {rest' : List Nat} (t : TidyP w p pc pr gn gp gt gT cT Fc cap hs E top h x c rest wl U kid deg mk tab v wr) (hF : ∀ b ∈ p :: pr :: gn :: gp :: gt :: gT :: Fc, b < w.heap.size) (k : Keeps v.ownBlock.toList wr w')
    (z : Tidy E cap (Rl wl) U kid deg top h x tab' c' rest') (ht : TabAt w.heap.size w' v' tab') (hl : tab'.length <= 65537) : TidyP w p pc pr gn gp gt gT cT Fc cap hs E top h x c' rest' wl U kid deg mk tab' v' w' := by
  have ha := t.apart hF
  obtain ⟨q, _, tt, _, kp⟩ := t
  refine ⟨q.keep k (fun b hb e => ha b (by simpa [Option.mem_toList] using e) hb), z, ht, hl, kp.trans k (fun b hb => .inr (tt.own b (by simpa [Option.mem_toList] using hb)).1)⟩
end
section
variable (w : World) (p pc pr gn gp gt gT cT : Nat) (Fc : List Nat) (cap hs : Nat) (E : Ent) (wl : List (List Nat)) (U kid : Nat -> Option Nat) (deg : Nat -> Nat) (mk : Nat -> Bool) (top : Nat -> Option Nat)
theorem tab_up {B g cap : Nat} {u : World} {tab : List (Option Nat)} (h : TabAt 0 u (.slice (some ⟨g,0,none⟩) tab.length cap) tab) (hg : B <= g) : TabAt B u (.slice (some ⟨g,0,none⟩) tab.length cap) tab := by
  refine ⟨h.1,?_⟩
  rcases h.2 with ⟨h0, _⟩ | ⟨g', cap', cur, e, hb, r⟩
  · cases h0
  · cases e; exact .inr ⟨g, cap, cur,rfl, hg, r⟩
theorem tab_lo {B : Nat} {u : World} {v : Value} {tab : List (Option Nat)} (h : TabAt B u v tab) : TabAt 0 u v tab := by
  refine ⟨h.1,?_⟩
  rcases h.2 with h0 | ⟨g', cap', cur, e, hb, r⟩
  · exact .inl h0
  · exact .inr ⟨g', cap', cur, e, Nat.zero_le _, r⟩
theorem fib_tidy (q : FibQ w p pc pr gn gp gt gT cT Fc cap hs E wl U kid deg mk top) (h x : Nat) (roots : List Nat) (ao : Option Addr) (ca : Nat) (hw : Win 0 w (.slice ao roots.length ca) roots)
    (hvr : ∀ b,(Value.slice ao roots.length ca).ownBlock = some b -> b ∉ p :: pr :: gn :: gp :: gt :: gT :: Fc) (t : Tidy E cap (Rl wl) U kid deg top h x [] none roots) (hrl : roots.length <= 65536) :
    Calls Tryz.prog 392 #[.pointer (some ⟨p,0,none⟩),.slice ao roots.length ca] w fun e w' => ∃ v, e = .returned v ∧ TidyS w p pc pr gn gp gt gT cT Fc cap hs E top h x none [] v w' := by
  have hF := q.lt
  have hcp := q.cp
  have hs0 : TidyS w p pc pr gn gp gt gT cT Fc cap hs E top h x none (roots.drop 0) (.slice none 0 0) w := ⟨wl, U, kid, deg, mk, [], q, t, World.ownsRow_nil _ _ _ _,by simp, Keeps.refl _ _⟩
  have HFF := Lib.hid hF
  have HW := Lib.hid hw
  have HV := Lib.hid hvr
  have HS := Lib.hid hs0
  clear hF hw hvr hs0 q t
  go_enter Tryz.func392, Tryz.ntmps392
  go_wp2_with fail
  go_loopg [5,12] (roots.length + 1) (fun n v s wr => ∃ i : Nat, n + i = roots.length + 1 ∧ i <= roots.length ∧ s = .int .i64 i ∧ TidyS w p pc pr gn gp gt gT cT Fc cap hs E top h x none (roots.drop i) v wr)
  case atStart => exact ⟨0,by omega,by omega,rfl, HS.out⟩
  case round =>
    clear HS
    obtain ⟨i, hk, hin,rfl, ts⟩ := hrel
    have HK := Lib.hid hk
    clear hk
    by_cases hi : i < roots.length
    · obtain ⟨y, hy⟩ : ∃ y, roots[i]? = some y := ⟨_, List.getElem?_eq_getElem hi⟩
      have hdr : roots.drop i = y :: roots.drop (i + 1) := by
        rw [List.drop_eq_getElem_cons hi]
        rw [List.getElem?_eq_getElem hi] at hy
        cases hy; rfl
      rw [hdr] at ts
      obtain ⟨wl1, U1, kid1, deg1, mk1, tab1, q1, t1, ta1, hl1, k1⟩ := ts
      obtain ⟨g, off, cap', e, _, d0⟩ := win_get (HW.out.keep' k1 (fun b eb => HV.out b eb)) hy
      cases e
      have hdl1 := t1.m.degLe y
      have T1 : Hid (TidyP w p pc pr gn gp gt gT cT Fc cap hs E top h x (some y) (roots.drop (i + 1)) wl1 U1 kid1 deg1 mk1 tab1 _ wr) := Lib.hid ⟨q1, t1.take, ta1, hl1, k1⟩
      have hi3 : (i : Int) < (roots.length : Int) := by omega
      clear hdr hy q1 t1 ta1 hl1 k1
      generalize hrest : roots.drop (i + 1) = rest at *
      have HRR := Lib.hid hrest
      clear hrest
      go_upto_block 1 with fail
      go_cut [5] (fun v wx => TidyS w p pc pr gn gp gt gT cT Fc cap hs E top h x none rest v wx)
      case first =>
        go_wp2_with fail
        go_loopg [7,5] (cap + 1 - deg1 y) (fun n s v wr => ∃ c wl U kid deg mk tab, n + deg c = cap + 1 ∧ s = .int .i64 (c : Nat) ∧ TidyP w p pc pr gn gp gt gT cT Fc cap hs E top h x (some c) rest wl U kid deg mk tab v wr)
        case atStart => exact ⟨y, wl1, U1, kid1, deg1, mk1, tab1,by omega,rfl, T1.out⟩
        case round =>
          clear T1 hdl1 d0
          obtain ⟨c, wl2, U2, kid2, deg2, mk2, tab2, hk,rfl, tp⟩ := hrel
          have HK2 := Lib.hid hk
          clear hk
          have hcR := tp.2.1.curRoot
          have hcc := hcR.1.lt tp.2.1.m
          have hdl := tp.2.1.m.degLe c
          have c2 := tp.1.c2
          have d2 := tp.1.k2 hcc
          have hcc3 : (c : Int) < (cap : Int) := by omega
          obtain ⟨dc, hdc⟩ : ∃ dc, deg2 c = dc := ⟨_,rfl⟩
          rw [hdc] at d2 hdl
          have TP := Lib.hid tp
          have HDC := Lib.hid hdc
          clear tp hcR hdc
          go_upto_block 4 with fail
          go_cut [5] (fun v wx => ∃ tab', dc < tab'.length ∧ TidyP w p pc pr gn gp gt gT cT Fc cap hs E top h x (some c) rest wl2 U2 kid2 deg2 mk2 tab' v wx)
          case first =>
            clear c2 d2
            go_wp2_with fail
            go_loopg [5] (dc + 1 - tab2.length) (fun n v wr => ∃ tab', n = dc + 1 - tab'.length ∧ TidyP w p pc pr gn gp gt gT cT Fc cap hs E top h x (some c) rest wl2 U2 kid2 deg2 mk2 tab' v wr)
            case atStart => exact ⟨tab2,rfl, TP.out⟩
            case round =>
              clear TP
              obtain ⟨tab3, hk, tp⟩ := hrel
              have HK3 := Lib.hid hk
              clear hk
              obtain ⟨ta, tca,rfl⟩ := tp.2.2.1.form
              have hl3 := tp.2.2.2.1
              by_cases htl : tab3.length <= dc
              · have hrow := tab_lo tp.2.2.1
                unfold TabAt at hrow
                have htl3 : (tab3.length : Int) <= (dc : Int) := by omega
                have TP := Lib.hid tp
                clear tp
                go_wp2_with (at_builtin; refine wpList_push _ 3 (.int .i64 (-1)) (0,0) rfl (.tmp 28) (.tmp 29) 28 rfl (.int .i64 0) 8 Tryz.underlying28 Rg.Tryz.infoInt rfl rfl (.slice ta tab3.length tca) tab3.length (tabV tab3) (by simp [Act.eval]) hrow (by simp [Act.eval]) (by unfold maxLen; omega) (by omega) ?_)
                intro g' cap' w4 hr4 hk4 hf4
                have hT : TidyP w p pc pr gn gp gt gT cT Fc cap hs E top h x (some c) rest wl2 U2 kid2 deg2 mk2 (tab3 ++ [none]) (.slice (some ⟨g',0,none⟩) (tab3.length + 1) cap') w4 := by
                  have hg' : w.heap.size <= g' := by
                    rcases hf4 with e | e
                    · exact (TP.out.2.2.1.own g' e).1
                    · exact Nat.le_trans TP.out.2.2.2.2.size e
                  have h4 : TabAt 0 w4 (.slice (some ⟨g',0,none⟩) (tab3 ++ [none]).length cap') (tab3 ++ [none]) := by
                    unfold TabAt
                    rw [<- tabV_push, List.length_append]
                    exact hr4
                  have h5 := tab_up h4 hg'
                  rw [List.length_append] at h5
                  exact TP.out.table HFF.out hk4 TP.out.2.1.pad h5 (by rw [List.length_append]; simp; omega)
                have HT := Lib.hid hT
                clear hT hr4 hk4 hf4 hrow TP
                go_wp2_with fail
                go_roundg (gk - 1)
                case measure => have := HK3.out; omega
                case rel => exact ⟨tab3 ++ [none],by rw [List.length_append]; have := HK3.out; simp; omega, HT.out⟩
              · have htl3 : ¬ (tab3.length : Int) <= (dc : Int) := by omega
                have TP := Lib.hid tp
                clear tp
                go_wp2_with fail
                go_meet
                case rel => exact ⟨tab3,by omega, TP.out⟩
          case rest =>
            clear TP tab2 c2 d2
            obtain ⟨tab3, htl, tp⟩ := hcut
            obtain ⟨o, ho⟩ : ∃ o, tab3[dc]? = some o := ⟨_, List.getElem?_eq_getElem htl⟩
            obtain ⟨g3, c3, e3, hg3, d3, f3⟩ := tp.2.2.1.at ho
            subst e3
            have htl3 : (dc : Int) < (tab3.length : Int) := by omega
            have hn3 := tp.2.2.2.1
            have kS : ∀ u, Keeps (Value.slice (some ⟨g3,0,none⟩) tab3.length c3).ownBlock.toList wc (wc.setCell ⟨g3,dc,none⟩ u) := fun u => (Keeps.refl _ _).setCell (.inl (by rw [ownBlock_some]; simp)) _
            cases o with
            | none =>
              simp only [oZ_none] at d3
              have hT : TidyP w p pc pr gn gp gt gT cT Fc cap hs E top h x none rest wl2 U2 kid2 deg2 mk2 (tab3.set dc (some c)) (.slice (some ⟨g3,0,none⟩) tab3.length c3) (wc.setCell ⟨g3,dc,none⟩ (.int .i64 (c : Int))) := by
                have h5 := tp.2.2.1.set htl (some c)
                rw [List.length_set] at h5
                have h6 := tp.2.1.put (by rw [HDC.out]; exact ho)
                rw [HDC.out] at h6
                exact tp.table HFF.out (kS _) h6 h5 (by rw [List.length_set]; exact hn3)
              have HT := Lib.hid hT
              clear hT tp ho kS
              go_wp2_with fail
              go_meet
              case rel => exact ⟨wl2, U2, kid2, deg2, mk2, _, HT.out⟩
            | some y2 =>
              simp only [oZ_some] at d3
              have hy3 : ((y2 : Int) == -1) = false := by rw [beq_eq_false_iff_ne]; omega
              have hyR := tp.2.1.tabRoot ⟨dc, ho⟩
              have hcR := tp.2.1.curRoot
              have hap := tp.apart HFF.out
              obtain ⟨w4, hw4⟩ : ∃ w4, w4 = wc.setCell ⟨g3,dc,none⟩ (.int .i64 (-1)) := ⟨_,rfl⟩
              have k4 : Keeps (Value.slice (some ⟨g3,0,none⟩) tab3.length c3).ownBlock.toList wc w4 := by rw [hw4]; exact kS _
              have q4 := tp.1.keep k4 (fun b hb e => hap b (by simpa [Option.mem_toList] using e) hb)
              have t4 : TabAt w.heap.size w4 (.slice (some ⟨g3,0,none⟩) tab3.length c3) (tab3.set dc none) := by
                have h5 := tp.2.2.1.set htl none
                rw [List.length_set] at h5
                rw [hw4]; exact h5
              have kp4 : Keeps (p :: pr :: gn :: gp :: gt :: gT :: Fc) w w4 := tp.2.2.2.2.trans k4 (fun b hb => .inr (tp.2.2.1.own b (by simpa [Option.mem_toList] using hb)).1)
              have e0 := q4.c0
              have hne : c ≠ y2 := by rintro rfl; exact (tp.2.1.c1 c rfl).1 ⟨dc, ho⟩
              have htot : ahead E y2 c = false -> ahead E c y2 = true := fun hf => by
                rcases ahead_tot hyR.1.1.some hcR.1.1.some (fun e => hne e.symm) with z | z
                · rw [hf] at z; cases z
                · exact z
              have hal := cells_ahead w4 Fc pc cap hs E q4.ce y2 c hyR.1.1.some hcR.1.1.some
              have hstep : ∀ w5, CellsAt w5 Fc pc cap hs E -> Keeps Fc w4 w5 -> ∀ win lose,((win = c ∧ lose = y2) ∨ (win = y2 ∧ lose = c)) -> ahead E win lose = true ->
                  Calls Tryz.prog 398 #[.pointer (some ⟨p,0,none⟩),.int .i64 (lose : Nat),.int .i64 (win : Nat)] w5 fun e w6 => e = .returned (.tuple #[]) ∧
                    Hid (∃ wl U kid deg mk tab, deg win = dc + 1 ∧ TidyP w p pc pr gn gp gt gT cT Fc cap hs E top h x (some win) rest wl U kid deg mk tab (.slice (some ⟨g3,0,none⟩) tab3.length c3) w6) := by
                intro w5 hc5 k5 win lose hwl ha
                have q5 := q4.cells hc5 k5
                have hwR : rootOf E U2 h win := by rcases hwl with ⟨rfl,rfl⟩ | ⟨rfl,rfl⟩; exact hcR.1; exact hyR.1
                have hlR : rootOf E U2 h lose := by rcases hwl with ⟨rfl,rfl⟩ | ⟨rfl,rfl⟩; exact hyR.1; exact hcR.1
                refine (fib_under w5 p pc pr gn gp gt gT cT Fc cap hs E wl2 U2 kid2 deg2 mk2 top q5 h win lose tp.2.1.m hwR hlR (ahead_ne ha)).mono ?_
                rintro e w6 ⟨rfl, wl6, mk6, q6, hR6, k6⟩
                obtain ⟨j1, j2⟩ := tp.2.1.join (by rw [HDC.out]; exact ho) hwl ha hR6
                rw [HDC.out] at j1 j2
                have hos : ∀ b,(Value.slice (some ⟨g3,0,none⟩) tab3.length c3).ownBlock = some b -> b ∉ p :: pr :: gn :: gp :: gt :: gT :: Fc := hap
                refine ⟨rfl, wl6, _, _, _, mk6, _,?_, q6, j1,?_,by rw [List.length_set]; exact hn3,?_⟩
                · rw [upd_same, j2]
                · exact (t4.keep k5 (fun b eb f => hos b eb (by simp [f]))).keep k6 hos
                · exact (kp4.trans k5 (fun b hb => .inl (by simp [hb]))).trans k6 (fun b hb => .inl hb)
              have HS := Lib.hid hstep
              have HTT := Lib.hid htot
              clear htot
              clear hstep tp ho kS hyR hcR hap k4 q4 t4 kp4
              go_upto_region 12 with fail
              rw [<- hw4]
              clear hw4 d3 f3
              cases ha : ahead E y2 c with
              | true =>
                rw [ha] at hal
                have HA := Lib.hid ha
                clear ha
                go_wp2_with (first
                  | (go_at_call 339; refine hal.mono ?_; rintro e w5 ⟨rfl, hc5, k5⟩; have hun := HS.out w5 hc5 k5 y2 c (.inr ⟨rfl,rfl⟩) HA.out; clear hc5 k5)
                  | (go_at_call 398; refine hun.mono ?_; rintro e w6 ⟨rfl, hfin⟩))
                obtain ⟨wl6, U6, kid6, deg6, mk6, tab6, hd6, tp6⟩ := hfin.out
                go_roundg (gk - 1)
                case measure => have := HK2.out; have := HDC.out; omega
                case rel => exact ⟨y2, wl6, U6, kid6, deg6, mk6, tab6,by have := HK2.out; have := HDC.out; omega,rfl, tp6⟩
              | false =>
                rw [ha] at hal
                have HA := Lib.hid ha
                clear ha
                have hcy : ahead E c y2 = true := HTT.out HA.out
                go_wp2_with (first
                  | (go_at_call 339; refine hal.mono ?_; rintro e w5 ⟨rfl, hc5, k5⟩; have hun := HS.out w5 hc5 k5 c y2 (.inl ⟨rfl,rfl⟩) hcy; clear hc5 k5)
                  | (go_at_call 398; refine hun.mono ?_; rintro e w6 ⟨rfl, hfin⟩))
                obtain ⟨wl6, U6, kid6, deg6, mk6, tab6, hd6, tp6⟩ := hfin.out
                go_roundg (gk - 1)
                case measure => have := HK2.out; have := HDC.out; omega
                case rel => exact ⟨c, wl6, U6, kid6, deg6, mk6, tab6,by have := HK2.out; have := HDC.out; omega,rfl, tp6⟩
      case rest =>
        clear T1 d0 hdl1
        have HC := Lib.hid hcut
        clear hcut
        go_wp2_with fail
        go_roundg (gk - 1)
        case measure => have := HK.out; omega
        case rel => exact ⟨i + 1,by have := HK.out; omega,by omega,by go_num,by rw [HRR.out]; exact HC.out⟩
    · obtain rfl : i = roots.length := by omega
      rw [List.drop_length] at ts
      have TS := Lib.hid ts
      clear ts
      go_wp2_with fail
      go_ret
      exact ⟨_,rfl, TS.out⟩
end
end Go.Proofs.YtkdbjelhkfdfjaaGreatDoor
namespace Go.Proofs.YtkdbjelhkfdfjaaGreatDoor
abbrev Dst := Nat -> Option Nat
structure IsDst (es : List (Nat × Nat)) (s : Nat) (D : Dst) : Prop where
  src : D s = some 0
  rel : ∀ u v k,(u, v) ∈ es -> D u = some k -> ∃ j, D v = some j ∧ j <= k + 1
  pre : ∀ v k, D v = some k -> (v = s ∧ k = 0) ∨ ∃ u j,(u, v) ∈ es ∧ D u = some j ∧ k = j + 1
section
variable {es : List (Nat × Nat)} {s n k i m u v : Nat} {D D' : Dst}
theorem IsDst.le (a : IsDst es s D) (b : IsDst es s D') : ∀ k v, D v = some k -> ∃ j, D' v = some j ∧ j <= k := by
  intro k
  induction k with
  | zero =>
    intro v h
    rcases a.pre v 0 h with ⟨rfl, _⟩ | ⟨u, j, _, _, e⟩
    · exact ⟨0, b.src, Nat.le_refl _⟩
    · omega
  | succ k ih =>
    intro v h
    rcases a.pre v (k + 1) h with ⟨_, e⟩ | ⟨u, j, h1, h2, e⟩
    · omega
    · obtain rfl : j = k := by omega
      obtain ⟨i, h3, h4⟩ := ih u h2
      obtain ⟨i', h5, h6⟩ := b.rel u v i h1 h3
      exact ⟨i', h5,by omega⟩
theorem IsDst.one (a : IsDst es s D) (b : IsDst es s D') : D = D' := by
  funext v
  cases h : D v with
  | none =>
    cases h' : D' v with
    | none => rfl
    | some k => obtain ⟨j, e, _⟩ := b.le a k v h'; rw [h] at e; cases e
  | some k =>
    obtain ⟨j, e, l⟩ := a.le b k v h
    obtain ⟨i, e', l'⟩ := b.le a j v e
    rw [h] at e'; cases e'
    rw [e, Nat.le_antisymm l l']
def preD (es : List (Nat × Nat)) (s : Nat) (D : Dst) : Prop := ∀ v k, D v = some k -> (v = s ∧ k = 0) ∨ ∃ u j,(u, v) ∈ es ∧ D u = some j ∧ k = j + 1
theorem preD.upd (h : preD es s D) (he : (u, v) ∈ es) (hu : D u = some k) (hv : D v = none) : preD es s (upd D v (some (k + 1))) := by
  intro x j hx
  by_cases e : x = v
  · subst e
    rw [upd_same] at hx; cases hx
    exact .inr ⟨u, k, he,by rw [upd_other _ _ (fun c => by rw [c, hv] at hu; cases hu)]; exact hu,rfl⟩
  · rw [upd_other _ _ e] at hx
    rcases h x j hx with c | ⟨y, l, h1, h2, h3⟩
    · exact .inl c
    · exact .inr ⟨y, l, h1,by rw [upd_other _ _ (fun c => by rw [c, hv] at h2; cases h2)]; exact h2, h3⟩
theorem nodup_below {l : List Nat} {n : Nat} (hd : l.Nodup) (h : ∀ i ∈ l, i < n) : l.length <= n := by
  induction n generalizing l with
  | zero =>
    cases l with
    | nil => simp
    | cons a l => exact absurd (h a (by simp)) (by omega)
  | succ n ih =>
    by_cases c : n ∈ l
    · have h1 : (l.erase n).Nodup := hd.erase n
      have h2 := ih h1 (fun i hi => by
        have := (List.Nodup.mem_erase_iff hd).1 hi
        have := h i this.2
        omega)
      rw [List.length_erase_of_mem c] at h2
      omega
    · have := ih hd (fun i hi => by have := h i hi; have : i ≠ n := fun e => c (e ▸ hi); omega)
      omega
theorem preD.chain (h : preD es s D) (hl : ∀ v, D v ≠ none -> v < n) : ∀ j v, D v = some j -> ∃ l : List Nat, l.length = j + 1 ∧ l.Nodup ∧ ∀ x ∈ l, x < n ∧ ∃ i, i <= j ∧ D x = some i := by
  intro j
  induction j with
  | zero =>
    intro v hv
    refine ⟨[v],rfl,by simp,fun x hx => ?_⟩
    simp at hx; subst hx
    exact ⟨hl _ (by rw [hv]; simp), 0, Nat.le_refl _, hv⟩
  | succ j ih =>
    intro v hv
    rcases h v (j + 1) hv with ⟨_, e⟩ | ⟨u, i, h1, h2, e⟩
    · omega
    · obtain rfl : i = j := by omega
      obtain ⟨l, a1, a2, a3⟩ := ih u h2
      refine ⟨v :: l,by simp [a1], List.nodup_cons.2 ⟨fun hm => ?_, a2⟩,fun x hx => ?_⟩
      · obtain ⟨_, q, b1, b2⟩ := a3 v hm
        rw [hv] at b2; cases b2; omega
      · simp only [List.mem_cons] at hx
        rcases hx with rfl | hx
        · exact ⟨hl _ (by rw [hv]; simp), _, Nat.le_refl _, hv⟩
        · obtain ⟨b1, q, b2, b3⟩ := a3 x hx
          exact ⟨b1, q,by omega, b3⟩
theorem preD.low (h : preD es s D) (hl : ∀ v, D v ≠ none -> v < n) {v j : Nat} (hv : D v = some j) : j < n := by
  obtain ⟨l, a1, a2, a3⟩ := h.chain hl j v hv
  have := nodup_below a2 fun x hx => (a3 x hx).1
  omega
structure Lvl (es : List (Nat × Nat)) (s n k i : Nat) (D : Dst) : Prop where
  src : D s = some 0
  pre : preD es s D
  lt : ∀ v, D v ≠ none -> v < n
  top : ∀ v j, D v = some j -> j <= k + 1
  old : ∀ u v j,(u, v) ∈ es -> D u = some j -> j < k -> ∃ j', D v = some j' ∧ j' <= j + 1
  new : ∀ u v,(u, v) ∈ es.take i -> D u = some k -> ∃ j', D v = some j' ∧ j' <= k + 1
theorem Lvl.start (hs : s < n) : Lvl es s n 0 0 (upd (fun _ => none) s (some 0)) := by
  have hd : ∀ y w, upd (fun _ => none) s (some 0) y = some w -> y = s ∧ w = 0 := fun y w h => by
    by_cases e : y = s
    · subst e; rw [upd_same] at h; cases h; exact ⟨rfl,rfl⟩
    · rw [upd_other _ _ e] at h; cases h
  refine ⟨upd_same _ _ _,fun v k h => .inl (hd v k h),fun v h => ?_,fun v j h => by have := (hd v j h).2; omega,fun u v j _ _ h => by omega,fun u v h => by simp at h⟩
  cases e : upd (fun _ => none) s (some 0) v with
  | none => exact absurd e h
  | some j => exact (hd v j e).1 ▸ hs
theorem take_mem_succ {α : Type} {l : List α} {i : Nat} {x y : α} (h : l[i]? = some x) : y ∈ l.take (i + 1) ↔ y ∈ l.take i ∨ y = x := by
  rw [List.take_add_one, h]
  simp
theorem Lvl.pass (h : Lvl es s n k i D) (he : es[i]? = some (u, v)) (hp : D u = some k -> ∃ j, D v = some j) : Lvl es s n k (i + 1) D :=
  ⟨h.src, h.pre, h.lt, h.top, h.old,fun x y hm hx => by
    rcases (take_mem_succ he).1 hm with c | c
    · exact h.new x y c hx
    · cases c
      obtain ⟨j, e⟩ := hp hx
      exact ⟨j, e, h.top _ _ e⟩⟩
theorem Lvl.reach (h : Lvl es s n k i D) (he : es[i]? = some (u, v)) (hvn : v < n) (hu : D u = some k) (hv : D v = none) : Lvl es s n k (i + 1) (upd D v (some (k + 1))) := by
  have hus : s ≠ v := fun c => by rw [<- c, h.src] at hv; cases hv
  have hold : ∀ x j, D x = some j -> upd D v (some (k + 1)) x = some j := fun x j hx => by
    rw [upd_other _ _ (fun c => by rw [c, hv] at hx; cases hx)]; exact hx
  have hback : ∀ x j, upd D v (some (k + 1)) x = some j -> (x = v ∧ j = k + 1) ∨ D x = some j := fun x j hx => by
    by_cases e : x = v
    · subst e; rw [upd_same] at hx; cases hx; exact .inl ⟨rfl,rfl⟩
    · rw [upd_other _ _ e] at hx; exact .inr hx
  refine ⟨hold _ _ h.src, h.pre.upd (List.mem_of_getElem? he) hu hv,fun x hx => ?_,fun x j hx => ?_,fun x y j hm hx hj => ?_,fun x y hm hx => ?_⟩
  · by_cases e : x = v
    · exact e ▸ hvn
    · rw [upd_other _ _ e] at hx; exact h.lt x hx
  · rcases hback x j hx with ⟨_, e⟩ | e
    · omega
    · exact h.top x j e
  · rcases hback x j hx with ⟨_, e⟩ | e
    · omega
    · obtain ⟨j', a, b⟩ := h.old x y j hm e hj
      exact ⟨j', hold _ _ a, b⟩
  · rcases hback x k hx with ⟨_, e⟩ | e
    · omega
    · rcases (take_mem_succ he).1 hm with c | c
      · obtain ⟨j', a, b⟩ := h.new x y c e
        exact ⟨j', hold _ _ a, b⟩
      · cases c
        exact ⟨k + 1, upd_same _ _ _, Nat.le_refl _⟩
theorem Lvl.round (h : Lvl es s n k es.length D) : Lvl es s n (k + 1) 0 D :=
  ⟨h.src, h.pre, h.lt,fun v j e => by have := h.top v j e; omega,fun u v j hm hu hj => by
    by_cases c : j = k
    · subst c
      exact h.new u v (by rw [List.take_length]; exact hm) hu
    · exact h.old u v j hm hu (by omega),fun u v hm => by simp at hm⟩
theorem Lvl.done (h : Lvl es s n n 0 D) : IsDst es s D :=
  ⟨h.src,fun u v k hm hu => h.old u v k hm hu (h.pre.low h.lt hu), h.pre⟩
end
def told (f : Nat -> Option Nat) (n : Nat) : Nat := ((List.range n).filter fun x => (f x).isSome).length
theorem told_upd {f : Nat -> Option Nat} {n x y : Nat} (hx : x < n) (h : f x = none) : told (upd f x (some y)) n = told f n + 1 := by
  refine filter_range_one n x hx _ _ (by simp [h]) (by rw [upd_same]; rfl) fun z hz => by rw [upd_other _ _ hz]
theorem told_le (f : Nat -> Option Nat) (n : Nat) : told f n <= n := by
  have := List.length_filter_le (fun x => (f x).isSome) (List.range n)
  simpa [told] using this
theorem told_room {f : Nat -> Option Nat} {n : Nat} (h : told f n < n) : ∃ x, x < n ∧ f x = none := by
  refine Classical.byContradiction fun hne => ?_
  have : told f n = n := by
    unfold told
    rw [List.filter_eq_self.2 fun x hx => ?_, List.length_range]
    cases e : f x with
    | none => exact absurd ⟨x, List.mem_range.1 hx, e⟩ hne
    | some _ => rfl
  omega
theorem told_none (n : Nat) : told (fun _ => none) n = 0 := by simp [told]
structure Dij (es : List (Nat × Nat)) (s n m : Nat) (D : Dst) (K : Nat -> Option Nat) (E : Ent) (todo : List Nat) : Prop where
  src : D s = some 0
  pre : preD es s D
  lt : ∀ v, D v ≠ none -> v < n
  top : ∀ v j, D v = some j -> j <= m + 1
  key : ∀ x h k q, E x = some (h, k, q) -> h = 1 ∧ x < n ∧ ∃ v j, K x = some v ∧ D v = some j ∧ k = (j : Int) ∧ m <= j
  inj : ∀ x y v, K x = some v -> K y = some v -> x = y
  kd : ∀ x v, K x = some v -> D v ≠ none
  kx : ∀ x, K x ≠ none -> x < n
  num : told K n = told D n
  rel : ∀ (i u v k : Nat), es[i]? = some (u, v) -> D u = some k -> (∃ x,(E x).isSome ∧ K x = some u) ∨ i ∈ todo ∨ ∃ j, D v = some j ∧ j <= k + 1
  cur : ∀ i ∈ todo, ∃ u v, es[i]? = some (u, v) ∧ D u = some m
section
variable {es : List (Nat × Nat)} {s n m i u v x q : Nat} {D : Dst} {K : Nat -> Option Nat} {E : Ent} {todo : List Nat}
theorem Dij.start (hs : s < n) (hx : x < n) : Dij es s n 0 (upd (fun _ => none) s (some 0)) (upd (fun _ => none) x (some s)) (put (fun _ => none) x (some (1,0, q))) [] := by
  have hb : ∀ y w, upd (fun _ => none) x (some s) y = some w -> y = x ∧ w = s := fun y w h => by
    by_cases e : y = x
    · subst e; rw [upd_same] at h; cases h; exact ⟨rfl,rfl⟩
    · rw [upd_other _ _ e] at h; cases h
  have hd : ∀ y w, upd (fun _ => none) s (some 0) y = some w -> y = s ∧ w = 0 := fun y w h => by
    by_cases e : y = s
    · subst e; rw [upd_same] at h; cases h; exact ⟨rfl,rfl⟩
    · rw [upd_other _ _ e] at h; cases h
  refine ⟨upd_same _ _ _,fun v k h => ?_,fun v h => ?_,fun v j h => ?_,fun y h k r e => ?_,fun y z v a b => ?_,fun y v a => ?_,fun y a => ?_,?_,fun i u v k he hu => ?_,by simp⟩
  · exact .inl (hd v k h)
  · cases e : upd (fun _ => none) s (some 0) v with
    | none => exact absurd e h
    | some j => exact (hd v j e).1 ▸ hs
  · have := (hd v j h).2; omega
  · by_cases c : y = x
    · subst c
      rw [put_same] at e; cases e
      exact ⟨rfl, hx, s, 0, upd_same _ _ _, upd_same _ _ _,rfl, Nat.le_refl _⟩
    · rw [put_other _ _ _ c] at e; cases e
  · rw [(hb y v a).1,(hb z v b).1]
  · rw [(hb y v a).2, upd_same]; simp
  · cases e : upd (fun _ => none) x (some s) y with
    | none => exact absurd e a
    | some j => exact (hb y j e).1 ▸ hx
  · rw [told_upd hx rfl, told_upd hs rfl, told_none]
  · obtain ⟨rfl, _⟩ := hd u k hu
    exact .inl ⟨x,by rw [put_same]; rfl, upd_same _ _ _⟩
theorem Dij.take (h : Dij es s n m D K E []) (hl : least E 1 x) (tl : List Nat) : ∃ (v m' q : Nat), E x = some (1,(m' : Int), q) ∧ K x = some v ∧ v < n ∧ D v = some m' ∧
    ((∀ i, i ∈ tl ↔ ∃ w, es[i]? = some (v, w)) -> Dij es s n m' D K (put E x none) tl) := by
  obtain ⟨⟨k, q⟩, hx⟩ := hl.1
  obtain ⟨_, hxn, v, m', h1, h2,rfl, h3⟩ := h.key x 1 k q hx
  refine ⟨v, m', q, hx, h1, h.lt v (by rw [h2]; simp), h2,fun htl => ?_⟩
  have hin : ∀ y hh k' q', put E x none y = some (hh, k', q') -> y ≠ x ∧ E y = some (hh, k', q') := fun y hh k' q' e => by
    by_cases c : y = x
    · subst c; rw [put_same] at e; cases e
    · rw [put_other _ _ _ c] at e; exact ⟨c, e⟩
  refine ⟨h.src, h.pre, h.lt,fun w j e => by have := h.top w j e; omega,fun y hh k' q' e => ?_, h.inj, h.kd, h.kx, h.num,fun i u w k' he hu => ?_,fun i hi => ?_⟩
  · obtain ⟨hne, hy⟩ := hin y hh k' q' e
    obtain ⟨rfl, hyn, w, j, a1, a2,rfl, a3⟩ := h.key y hh k' q' hy
    refine ⟨rfl, hyn, w, j, a1, a2,rfl,?_⟩
    have := hl.2 y ⟨_, hy⟩ hne
    obtain ⟨g1, l1, g2, l2, b1, b2, b3⟩ := ahead_iff.1 this
    rw [hx] at b1; rw [hy] at b2
    cases b1; cases b2
    simp only at b3
    omega
  · rcases h.rel i u w k' he hu with ⟨y, a1, a2⟩ | a | a
    · by_cases c : y = x
      · subst c
        rw [h1] at a2; cases a2
        exact .inr (.inl ((htl i).2 ⟨w, he⟩))
      · exact .inl ⟨y,by rw [put_other _ _ _ c]; exact a1, a2⟩
    · cases a
    · exact .inr (.inr a)
  · obtain ⟨w, e⟩ := (htl i).1 hi
    exact ⟨v, w, e, h2⟩
theorem Dij.pass (h : Dij es s n m D K E (i :: todo)) (he : es[i]? = some (u, v)) (hv : D v ≠ none) : Dij es s n m D K E todo :=
  ⟨h.src, h.pre, h.lt, h.top, h.key, h.inj, h.kd, h.kx, h.num,fun i' u' v' k he' hu => by
    rcases h.rel i' u' v' k he' hu with a | a | a
    · exact .inl a
    · simp only [List.mem_cons] at a
      rcases a with rfl | a
      · rw [he] at he'; cases he'
        obtain ⟨u2, v2, b1, b2⟩ := h.cur i' (by simp)
        rw [he] at b1; cases b1
        rw [hu] at b2; cases b2
        cases e : D v with
        | none => exact absurd e hv
        | some j => exact .inr (.inr ⟨j,rfl, h.top _ _ e⟩)
      · exact .inr (.inl a)
    · exact .inr (.inr a),
   fun i' hi => h.cur i' (by simp [hi])⟩
theorem Dij.reach (h : Dij es s n m D K E (i :: todo)) (he : es[i]? = some (u, v)) (hvn : v < n) (hv : D v = none) (hx : x < n) (hk : K x = none) (hE : E x = none) :
    Dij es s n m (upd D v (some (m + 1))) (upd K x (some v)) (put E x (some (1,((m + 1 : Nat) : Int), q))) todo := by
  have hold : ∀ y j, D y = some j -> upd D v (some (m + 1)) y = some j := fun y j hy => by
    rw [upd_other _ _ (fun c => by rw [c, hv] at hy; cases hy)]; exact hy
  have hback : ∀ y j, upd D v (some (m + 1)) y = some j -> (y = v ∧ j = m + 1) ∨ (y ≠ v ∧ D y = some j) := fun y j hy => by
    by_cases e : y = v
    · subst e; rw [upd_same] at hy; cases hy; exact .inl ⟨rfl,rfl⟩
    · rw [upd_other _ _ e] at hy; exact .inr ⟨e, hy⟩
  have hkold : ∀ y w, K y = some w -> upd K x (some v) y = some w := fun y w hy => by
    rw [upd_other _ _ (fun c => by rw [c, hk] at hy; cases hy)]; exact hy
  have hkback : ∀ y w, upd K x (some v) y = some w -> (y = x ∧ w = v) ∨ (y ≠ x ∧ K y = some w) := fun y w hy => by
    by_cases e : y = x
    · subst e; rw [upd_same] at hy; cases hy; exact .inl ⟨rfl,rfl⟩
    · rw [upd_other _ _ e] at hy; exact .inr ⟨e, hy⟩
  obtain ⟨u2, v2, b1, b2⟩ := h.cur i (by simp)
  rw [he] at b1; cases b1
  refine ⟨hold _ _ h.src, h.pre.upd (List.mem_of_getElem? he) b2 hv,fun y hy => ?_,fun y j hy => ?_,fun y hh k q' e => ?_,fun y z w a b => ?_,fun y w a => ?_,fun y a => ?_,?_,fun i' u' v' k he' hu => ?_,fun i' hi => ?_⟩
  · by_cases e : y = v
    · exact e ▸ hvn
    · rw [upd_other _ _ e] at hy; exact h.lt y hy
  · rcases hback y j hy with ⟨_, e⟩ | ⟨_, e⟩
    · omega
    · exact h.top y j e
  · by_cases c : y = x
    · subst c
      rw [put_same] at e; cases e
      exact ⟨rfl, hx, v, m + 1, upd_same _ _ _, upd_same _ _ _,rfl,by omega⟩
    · rw [put_other _ _ _ c] at e
      obtain ⟨a1, a2, w, j, a3, a4, a5, a6⟩ := h.key y hh k q' e
      exact ⟨a1, a2, w, j, hkold _ _ a3, hold _ _ a4, a5, a6⟩
  · rcases hkback y w a with ⟨a1, a2⟩ | ⟨a1, a2⟩
    · rcases hkback z w b with ⟨c1, c2⟩ | ⟨c1, c2⟩
      · rw [a1, c1]
      · subst a2; exact absurd hv (h.kd z _ c2)
    · rcases hkback z w b with ⟨c1, c2⟩ | ⟨c1, c2⟩
      · subst c2; exact absurd hv (h.kd y _ a2)
      · exact h.inj y z w a2 c2
  · rcases hkback y w a with ⟨_, a2⟩ | ⟨_, a2⟩
    · rw [a2, upd_same]; simp
    · by_cases e : w = v
      · rw [e, upd_same]; simp
      · rw [upd_other _ _ e]; exact h.kd y w a2
  · by_cases e : y = x
    · exact e ▸ hx
    · rw [upd_other _ _ e] at a; exact h.kx y a
  · rw [told_upd hx hk, told_upd hvn hv, h.num]
  · rcases hback u' k hu with ⟨a1, a2⟩ | ⟨a1, a2⟩
    · subst a1
      exact .inl ⟨x,by rw [put_same]; rfl, upd_same _ _ _⟩
    · rcases h.rel i' u' v' k he' a2 with ⟨y, c1, c2⟩ | c | ⟨j, c1, c2⟩
      · refine .inl ⟨y,?_, hkold _ _ c2⟩
        by_cases e : y = x
        · subst e; rw [put_same]; rfl
        · rw [put_other _ _ _ e]; exact c1
      · simp only [List.mem_cons] at c
        rcases c with rfl | c
        · rw [he] at he'; cases he'
          rw [b2] at a2; cases a2
          exact .inr (.inr ⟨m + 1, upd_same _ _ _, Nat.le_refl _⟩)
        · exact .inr (.inl c)
      · exact .inr (.inr ⟨j, hold _ _ c1, c2⟩)
  · obtain ⟨u2, v2, c1, c2⟩ := h.cur i' (by simp [hi])
    exact ⟨u2, v2, c1, hold _ _ c2⟩
theorem Dij.room (h : Dij es s n m D K E todo) (hvn : v < n) (hv : D v = none) : ∃ x, x < n ∧ K x = none ∧ E x = none := by
  have h1 : told D n < n := by
    have := told_upd (y := 0) hvn hv
    have := told_le (upd D v (some 0)) n
    omega
  obtain ⟨x, a, b⟩ := told_room (by rw [h.num]; exact h1)
  refine ⟨x, a, b,?_⟩
  cases e : E x with
  | none => rfl
  | some t =>
    obtain ⟨hh, k, q⟩ := t
    obtain ⟨_, _, w, j, c, _⟩ := h.key x hh k q e
    rw [b] at c; cases c
theorem Dij.done (h : Dij es s n m D K E []) (hn : ∀ y, ¬ isIn E 1 y) : IsDst es s D :=
  ⟨h.src,fun u v k hm hu => by
    obtain ⟨i, hi⟩ := List.getElem?_of_mem hm
    rcases h.rel i u v k hi hu with ⟨x, a, b⟩ | a | a
    · cases e : E x with
      | none => rw [e] at a; cases a
      | some t =>
        obtain ⟨hh, k', q⟩ := t
        obtain ⟨rfl, _⟩ := h.key x hh k' q e
        exact absurd ⟨_, e⟩ (hn x)
    · cases a
    · exact a, h.pre⟩
end
end Go.Proofs.YtkdbjelhkfdfjaaGreatDoor

