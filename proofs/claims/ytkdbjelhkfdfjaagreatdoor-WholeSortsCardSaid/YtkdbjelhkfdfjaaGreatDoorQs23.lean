/-
  Contracts that the law rests on. Conditions: none.
-/
import Derived.Test.YtkdbjelhkfdfjaaGreatDoorQs15
import Derived.Test.YtkdbjelhkfdfjaaGreatDoorQs22
set_option linter.unusedVariables false
set_option maxRecDepth 100000
set_option maxHeartbeats 16000000
namespace Go.Proofs.YtkdbjelhkfdfjaaGreatDoor
open Go.RowKit
section
variable (w : World) (F : List Nat) (p cap hs : Nat) (E : Ent)
def ShedIn (w : World) (F : List Nat) (p cap hs : Nat) (E' : Ent) (e : Ending) (w' : World) : Prop := e = .returned (.bool true) ∧ ∃ F', ShedAt w' F' p cap hs E' ∧ Moved F w F' w'
theorem shed_insert (c : ShedAt w F p cap hs E) (h x q : Nat) (k : Int) (h1 : 1 ≤ h) (h2 : h ≤ hs) (hx : x < cap) (he : E x = none) (hk : (Lit.int .i64 k).wf = true) (hq : (Lit.int .u64 (q : Int)).wf = true) :
    Calls Tryz.prog 436 #[.pointer (some ⟨p,0,none⟩), .int .i64 h, .int .i64 x, .agg #[.int .i64 k, .int .u64 (q : Int)]] w (ShedIn w F p cap hs (put E x (some (h, k, q)))) := by
  have hlt := c.lt
  obtain ⟨pc, gr, rc, ga, Fc, R, f,rfl, m⟩ := c
  have hbc := m.ce.ok.bc
  have hb0 : Below w.heap.size w (w.alloc (.cells #[.int .i64 k, .int .u64 (q : Int)] 104)) := (Below.refl _ w).alloc (Nat.le_refl _) _
  have e0 : (w.alloc (.cells #[.int .i64 k, .int .u64 (q : Int)] 104)).cell? ⟨w.heap.size,0,none⟩ = some (.int .i64 k) := by rw [cell_of_blk (blk_alloc_new _)]; rfl
  have e1 : (w.alloc (.cells #[.int .i64 k, .int .u64 (q : Int)] 104)).cell? ⟨w.heap.size,1,none⟩ = some (.int .u64 (q : Int)) := by rw [cell_of_blk (blk_alloc_new _)]; rfl
  have m0 := m.keep (S := []) (Below.keeps hb0 (Nat.le_refl _) []) (by simp)
  have hw0 : w.heap.size < (w.alloc (.cells #[.int .i64 k, .int .u64 (q : Int)] 104)).heap.size := by simp
  have hhs3 : (h : Int) < ((hs + 1 : Nat) : Int) := by omega
  have hhs4 : (h : Int) < (hs : Int) + 1 := by omega
  have hmv := Moved.below hlt hb0
  have hnx : ∀ j, j < (R h).n → (R h).v j ≠ x := fun j hj e => by have := m.isSome h1 h2 j hj; rw [e, he] at this; cases this
  clear m
  go_enter Tryz.func436, Tryz.ntmps436
  go_upto_region 1 with fail
  generalize hW0 : w.alloc (.cells #[.int .i64 k, .int .u64 (q : Int)] 104) = w0 at *
  clear hW0
  have d0 := m0.c0
  have d1 := m0.c1
  have d3 := m0.row h1 h2
  obtain ⟨n1, n2, n3, n4, n5, n6⟩ := m0.ne
  have hS : ∀ u, Keeps Fc w0 u → u.cell? ⟨p,0,none⟩ = some (.pointer (some ⟨pc,0,none⟩)) ∧ u.cell? ⟨w.heap.size,0,none⟩ = some (.int .i64 k) ∧ u.cell? ⟨w.heap.size,1,none⟩ = some (.int .u64 (q : Int)) := fun u kk =>
    have hz : w.heap.size ∉ Fc := fun e => Nat.lt_irrefl _ (hlt _ (nestF_mem.2 (.inr (.inr (.inl (by simp [e]))))))
    ⟨(World.cell?_of_block (a := ⟨p,0,none⟩) (kk.block p (lt_of_block m0.blk) n4)).trans d0,
      (World.cell?_of_block (a := ⟨_,0,none⟩) (kk.block _ hw0 hz)).trans e0, (World.cell?_of_block (a := ⟨_,1,none⟩) (kk.block _ hw0 hz)).trans e1⟩
  have hT : ∀ u, Keeps Fc w0 u → u.cell? ⟨p,1,none⟩ = some (.slice (some ⟨gr,0,none⟩) (hs + 1) rc) ∧ u.cell? ⟨gr,h,none⟩ = some (.pointer (some ⟨(R h).p,0,none⟩)) := fun u kk =>
    ⟨(World.cell?_of_block (a := ⟨p,1,none⟩) (kk.block p (lt_of_block m0.blk) n4)).trans d1, (World.cell?_of_block (a := ⟨gr,h,none⟩) (kk.block gr (row_lt m0.rows) n5)).trans d3⟩
  have kdr : Keeps Fc w0 w0.drew := ⟨rfl,rfl,rfl, Nat.le_refl _,fun _ _ _ => rfl⟩
  have hput := fun u (hu : CellsAt u Fc pc cap hs E) => cells_put u Fc pc cap hs E hu h x q k h1 h2 hx he hk hq
  have hrok := m0.ok h h1 h2
  have hE2 : ∀ j, j < (R h).n → (put E x (some (h, k, q)) ((R h).v j)).isSome := fun j hj => by rw [put_other E x _ (hnx j hj)]; exact m0.isSome h1 h2 j hj
  have hheap : Heap' 2 (ahead (put E x (some (h, k, q)))) (R h).v (R h).n := hrok.heap.cong (by decide) (fun _ _ => rfl) fun i j hi hj => ahead_put_other (hnx i hi) (hnx j hj)
  have hnle : (R h).n + 1 ≤ 65536 := by
    have : (R h).n + 1 ≤ cap := by
      have h5 := nodup_len (n := cap) (l := x :: (List.range (R h).n).map (R h).v) (by
        rw [List.nodup_cons]
        refine ⟨fun e => ?_,?_⟩
        · obtain ⟨j, hj, e⟩ := List.mem_map.1 e
          exact hnx j (List.mem_range.1 hj) e
        · exact List.pairwise_map.2 (List.Pairwise.imp_of_mem (fun {a b} ha hb hne e => hne (hrok.inj a b (List.mem_range.1 ha) (List.mem_range.1 hb) e)) List.nodup_range)) (by
        intro y hy
        simp only [List.mem_cons, List.mem_map, List.mem_range] at hy
        rcases hy with rfl | ⟨j, hj,rfl⟩
        · exact hx
        · exact m0.ce.ok.lt _ (m0.isSome h1 h2 j hj))
      simpa using h5
    omega
  have hadd : ∀ u, CellsAt u Fc pc cap hs (put E x (some (h, k, q))) → Keeps Fc w0 u → Calls Tryz.prog 442 #[.iface 478 (.pointer (some ⟨(R h).p,0,none⟩)), .iface 3 (.int .i64 x)] u (HAdd u p pc ga (R h).p (R h).ao (.slice (some ⟨gr,0,none⟩) (hs + 1) rc) Fc cap hs (put E x (some (h, k, q))) (R h).n (R h).v f x) := fun u hu kk =>
    heap_push u p pc ga (R h).p (R h).ao (R h).ca _ Fc cap hs _ (R h).n (R h).v f ((m0.mem h h1 h2).cells hu kk) x hnx hE2 (by rw [put_same]; rfl) hnle hheap
  have hfin : ∀ u w2, Keeps Fc w0 u → HAdd u p pc ga (R h).p (R h).ao (.slice (some ⟨gr,0,none⟩) (hs + 1) rc) Fc cap hs (put E x (some (h, k, q))) (R h).n (R h).v f x (.returned (.tuple #[])) w2 → ShedIn w (nestF p gr (ga :: Fc) hs fun g => pf (R g)) p cap hs (put E x (some (h, k, q))) (.returned (.bool true)) w2 := by
    rintro u w2 k1 ⟨ao', ca', v', f', _, hp2, hm2, hh2, k2, fp2, ho2⟩
    have hch := m0.change h1 h2 (w' := w2) (E' := put E x (some (h, k, q))) (r := { p := (R h).p, mb := 0, ao := ao', ca := ca', n := (R h).n + 1, v := v' }) ((k1.mono (T := ga :: (pf (R h) ++ Fc)) fun b hb => .inl (by simp [hb])).trans k2 fun b hb => .inl hb) rfl
      (fun b hb => by rcases fp2 b hb with c | c; exact .inl c; exact .inr (Nat.le_trans k1.size c)) hp2
      ⟨hp2.inj,fun z => by
        show _ ↔ ∃ j, j < (R h).n + 1 ∧ v' j = z
        rw [hm2 z, isIn_put, ← hrok.mem z]
        constructor
        · rintro (⟨c, _⟩ | ⟨_, c⟩)
          · exact .inl c
          · exact .inr c
        · rintro (c | c)
          · exact .inl ⟨c,rfl⟩
          · refine .inr ⟨?_, c⟩
            obtain ⟨j, hj, e⟩ := (hrok.mem z).1 c
            rw [← e]; exact hnx j hj, hh2⟩
      (fun g' a b c => (m0.ok g' a b).other (by decide) (fun j hj e => by have := m0.isSome a b j hj; rw [e, he] at this; cases this) fun y => by
        rw [isIn_put]
        constructor
        · rintro (⟨_, e⟩ | ⟨_, e⟩)
          · exact absurd e c
          · exact e
        · intro e
          refine .inr ⟨?_, e⟩
          rintro rfl
          have := e.some
          rw [he] at this; cases this)
      (fun g' a b c j hj => ho2 _ (fun e => by have := m0.isSome a b j hj; rw [e, he] at this; cases this) (fun i hi e => c (isIn_one (((m0.ok g' a b).mem _).2 ⟨j, hj, e.symm⟩) ((hrok.mem _).2 ⟨i, hi,rfl⟩))))
    exact ⟨rfl, _, ⟨pc, gr, rc, ga, Fc, _, f',rfl, hch.1⟩, hmv.trans hch.2⟩
  have HF := Lib.hid hfin
  have HADD := Lib.hid hadd
  have HPUT := Lib.hid hput
  have HT := Lib.hid hT
  have hce := m0.ce
  clear hfin hadd hput hE2 hheap hrok hnx hlt he hT m0 d1 d3
  go_region_held3 (fun u => u.cell? ⟨p,0,none⟩ = some (.pointer (some ⟨pc,0,none⟩)) ∧ u.cell? ⟨w.heap.size,0,none⟩ = some (.int .i64 k) ∧ u.cell? ⟨w.heap.size,1,none⟩ = some (.int .u64 (q : Int)))
    (first | exact hS _ kdr | exact q1)
    (first
      | (go_at_call 316; refine (HPUT.out _ (by exact hce.drew)).mono ?_; rintro e w1 ⟨rfl, hc1, hk1⟩; have k1 : Keeps Fc w0 w1 := hk1.ofDrew; have q1 := hS w1 k1))
  all_goals
    obtain ⟨d1, d3⟩ := HT.out w1 k1
    clear hS q1 kdr d0 e0 e1
    go_wp2_with (go_at_call 442; refine (HADD.out _ hc1 k1).mono ?_; intro e w2 hd; obtain ⟨_, _, _, _,rfl, _⟩ := id hd; have hr := HF.out _ _ k1 hd; have HR := Lib.hid hr; clear hd hr)
    go_ret
    exact HR.out
theorem shed_delete (c : ShedAt w F p cap hs E) (h x : Nat) (hx : isIn E h x) :
    Calls Tryz.prog 434 #[.pointer (some ⟨p,0,none⟩), .int .i64 x] w (ShedIn w F p cap hs (put E x none)) := by
  have hlt := c.lt
  obtain ⟨pc, gr, rc, ga, Fc, R, f,rfl, m⟩ := c
  have hbc := m.ce.ok.bc
  obtain ⟨h1, h2⟩ : 1 ≤ h ∧ h ≤ hs := by obtain ⟨k, e⟩ := hx; exact m.ce.ok.heap x h k e
  have hrok := m.ok h h1 h2
  obtain ⟨i, hi, hvi⟩ := (hrok.mem x).1 hx
  obtain ⟨n, hn⟩ : ∃ n, (R h).n = n + 1 := ⟨(R h).n - 1,by omega⟩
  have hfull := m.mem h h1 h2
  have hinj := hrok.inj
  have hheap := hrok.heap
  have hsome := m.isSome h1 h2
  have hat := (hfull.pl hi).1
  rw [hvi] at hat
  rw [hn] at hfull hinj hheap hsome hi
  have hnle : n + 1 ≤ 65536 := by
    have h5 := nodup_len (n := cap) (l := (List.range (n + 1)).map (R h).v)
      (List.pairwise_map.2 (List.Pairwise.imp_of_mem (fun {a b} ha hb hne e => hne (hinj a b (List.mem_range.1 ha) (List.mem_range.1 hb) e)) List.nodup_range)) (by
        intro y hy
        obtain ⟨j, hj,rfl⟩ := List.mem_map.1 hy
        exact m.ce.ok.lt _ (hsome j (List.mem_range.1 hj)))
    simp at h5
    omega
  have hhome := cells_home w Fc pc cap hs E m.ce x h hx
  have hrem : ∀ u, u.heap = w.heap → u.os = w.os → u.tape = w.tape → u.output = w.output → Calls Tryz.prog 441 #[.iface 478 (.pointer (some ⟨(R h).p,0,none⟩)), .int .i64 i] u (HRem u p pc ga (R h).p (R h).ao (R h).ca (.slice (some ⟨gr,0,none⟩) (hs + 1) rc) Fc cap hs E n (R h).v f i) := fun u e1 e2 e3 e4 =>
    heap_remove u p pc ga (R h).p (R h).ao (R h).ca _ Fc cap hs E n (R h).v f (hfull.same ⟨e2, e3, e4,by rw [e1]; exact Nat.le_refl _,fun k _ _ => by rw [e1]⟩) i hi hsome hnle hheap
  have hdrop := fun u (hu : CellsAt u Fc pc cap hs E) => cells_drop u Fc pc cap hs E hu x h hx
  obtain ⟨n1, n2, n3, n4, n5, n6⟩ := m.ne
  have d0 := m.c0
  have d1 := m.c1
  have d2 := m.c2
  have d3 := m.row h1 h2
  have hpl := lt_of_block m.blk
  have hpno : p ∉ ga :: (pf (R h) ++ Fc) := fun e => by
    simp only [List.mem_cons, List.mem_append] at e
    rcases e with e | e | e
    · exact n2 e
    · exact (m.own h h1 h2 p e).1 rfl
    · exact n4 e
  have hmid : ∀ u w2 r, u.heap = w.heap → u.os = w.os → u.tape = w.tape → u.output = w.output → HRem u p pc ga (R h).p (R h).ao (R h).ca (.slice (some ⟨gr,0,none⟩) (hs + 1) rc) Fc cap hs E n (R h).v f i r w2 →
      w2.cell? ⟨p,0,none⟩ = some (.pointer (some ⟨pc,0,none⟩)) ∧ CellsAt w2 Fc pc cap hs E ∧ ∀ w3, CellsAt w3 Fc pc cap hs (put E x none) → Keeps Fc w2 w3 → ShedIn w (nestF p gr (ga :: Fc) hs fun g => pf (R g)) p cap hs (put E x none) (.returned (.bool true)) w3 := by
    rintro u w2 r e1 e2 e3 e4 ⟨v', f', _, hp2, hm2, hh2, k2, ho2⟩
    have ku : Keeps [] w u := ⟨e2, e3, e4,by rw [e1]; exact Nat.le_refl _,fun k _ _ => by rw [e1]⟩
    have kw : Keeps (ga :: (pf (R h) ++ Fc)) w w2 := (ku.mono (T := ga :: (pf (R h) ++ Fc)) (by simp)).trans k2 (fun b hb => .inl hb)
    refine ⟨by rw [cell_of_blk (kw.blk m.blk hpno)]; rfl, hp2.ce,fun w3 hc3 k3 => ?_⟩
    have hne : ∀ j, j < n → v' j ≠ x := fun j hj e => ((hm2 (v' j)).1 ⟨j, hj,rfl⟩).1 (e.trans hvi.symm)
    have hch := m.change h1 h2 (w' := w3) (E' := put E x none) (r := { p := (R h).p, mb := 0, ao := (R h).ao, ca := (R h).ca, n := n, v := v' }) (kw.trans k3 fun b hb => .inl (by simp [hb])) rfl
      (fun b hb => .inl hb) (hp2.cells hc3 k3)
      ⟨hp2.inj,fun z => by
        show _ ↔ ∃ j, j < n ∧ v' j = z
        rw [hm2 z, isIn_drop, hrok.mem z, hn, hvi], hh2.cong (by decide) (fun _ _ => rfl) fun a b ha hb => ahead_put_other (hne a ha) (hne b hb)⟩
      (fun g' a b c => (m.ok g' a b).other (by decide) (fun j hj e => c (isIn_one (((m.ok g' a b).mem x).2 ⟨j, hj, e⟩) hx)) fun y => by
        rw [isIn_drop]
        constructor
        · exact fun e => e.2
        · intro e
          refine ⟨?_, e⟩
          rintro rfl
          exact c (isIn_one e hx))
      (fun g' a b c j hj => ho2 _ (fun i' hi' e => c (isIn_one (((m.ok g' a b).mem _).2 ⟨j, hj, e.symm⟩) ((hrok.mem _).2 ⟨i',by omega,rfl⟩))))
    exact ⟨rfl, _, ⟨pc, gr, rc, ga, Fc, _, f',rfl, hch.1⟩, hch.2⟩
  have hhs3 : (h : Int) < ((hs + 1 : Nat) : Int) := by omega
  have hhs4 : (h : Int) < (hs : Int) + 1 := by omega
  have hxc : x < cap := by rw [← hvi]; exact m.ce.ok.lt _ (hsome i hi)
  have hx3 : (x : Int) < (cap : Int) := by omega
  have HM := Lib.hid hmid
  have HR := Lib.hid hrem
  have HD := Lib.hid hdrop
  clear hmid hrem hdrop m hrok hvi hfull hinj hheap hsome hlt hx hn
  go_enter Tryz.func434, Tryz.ntmps434
  go_upto_region 4 with (go_at_call 302; refine hhome.mono ?_; rintro e w' ⟨rfl, a1,rfl⟩)
  go_region_law (first
    | (go_simp; go_at_call 441; refine (HR.out _ (by rfl) (by rfl) (by rfl) (by rfl)).mono ?_; intro e w2 hd; obtain ⟨_, _,rfl, _⟩ := id hd; obtain ⟨c0, ce2, hr⟩ := HM.out _ _ _ (by rfl) (by rfl) (by rfl) (by rfl) hd; have HFIN := Lib.hid hr; clear hd hr))
  all_goals
    clear d0 d1 d2 d3 hat
    go_wp2_with (go_at_call 312; refine (HD.out _ ce2).mono ?_; rintro e w3 ⟨rfl, hc3, k3⟩)
    go_ret
    exact HFIN.out _ hc3 k3
def ShedExt (w : World) (F : List Nat) (p cap hs : Nat) (E : Ent) (h : Nat) (e : Ending) (w' : World) : Prop :=
  ∃ x : Nat, e = .returned (.tuple #[.int .i64 x, .bool true]) ∧ least E h x ∧ ∃ F', ShedAt w' F' p cap hs (put E x none) ∧ Moved F w F' w'
theorem shed_extract (c : ShedAt w F p cap hs E) (h : Nat) (h1 : 1 ≤ h) (h2 : h ≤ hs) (hi : ∃ y, isIn E h y) :
    Calls Tryz.prog 435 #[.pointer (some ⟨p,0,none⟩), .int .i64 h] w (ShedExt w F p cap hs E h) := by
  have hm := shed_min_yes w F p cap hs E c h h1 h2 hi
  have hd := fun x (hl : least E h x) => shed_delete w F p cap hs E c h x hl.1
  clear c hi
  go_enter Tryz.func435, Tryz.ntmps435
  go_wp2_with (first
    | (go_at_call 439; refine hm.mono ?_; rintro e w1 ⟨⟨x,rfl, hl⟩,rfl⟩)
    | (go_at_call 434; refine (hd _ hl).mono ?_; rintro e w2 ⟨rfl, F', c2, k2⟩))
  go_ret2
  exact ⟨x,rfl, hl, F', c2, k2⟩
end
theorem Tryz.infoPileP : (Tryz.prog.info? 478).map (fun i => (i.zero, i.size, i.bytes)) = some (some (.pointer none), 1,8) := by kernel_rfl
section
variable (w : World) (F : List Nat) (p cap hs : Nat) (E : Ent)
def ShedMade (w : World) (F : List Nat) (p cap hs : Nat) (E : Ent) (e : Ending) (w' : World) : Prop := ∃ F', e = .returned (.int .i64 ((hs + 1 : Nat) : Int)) ∧ ShedAt w' F' p cap (hs + 1) E ∧ Moved F w F' w'
theorem shed_make (c : ShedAt w F p cap hs E) (hh : hs < 65536) : Calls Tryz.prog 437 #[.pointer (some ⟨p,0,none⟩)] w (ShedMade w F p cap hs E) := by
  have hlt := c.lt
  obtain ⟨pc, gr, rc, ga, Fc, R, f,rfl, m⟩ := c
  have hmk := cells_make w Fc pc cap hs E m.ce hh
  have d0 := m.c0
  have hno : ∀ x, ¬ isIn E (hs + 1) x := fun x ⟨k, e⟩ => by have := (m.ce.ok.heap x _ k e).2; omega
  obtain ⟨n1, n2, n3, n4, n5, n6⟩ := m.ne
  have hpl := lt_of_block m.blk
  have hgl := row_lt m.rows
  have hal := m.ar.lt
  have hfin : ∀ (w1 w4 : World) (Fc' : List Nat) (g' cap' : Nat), CellsAt w1 Fc' pc cap (hs + 1) E → Moved Fc w Fc' w1 →
      w4.ownsRow 0 478 1 (.slice (some ⟨g',0,none⟩) (hs + 1 + 1) cap') (hs + 1 + 1) (rowsV (fun i => (R i).p) (hs + 1) ++ [.pointer (some ⟨w1.heap.size,0,none⟩)]) → Keeps [gr] (w1.alloc (.cells #[.pointer (some ⟨p,0,none⟩), .slice none 0 0] 482)) w4 → (g' = gr ∨ w1.heap.size + 1 ≤ g') →
      w4.frozen? ⟨p,1,none⟩ = false ∧ w4.cell? ⟨p,1,none⟩ = some (.slice (some ⟨gr,0,none⟩) (hs + 1) rc) ∧ ShedMade w (nestF p gr (ga :: Fc) hs fun g => pf (R g)) p cap hs E (.returned (.int .i64 ((hs + 1 : Nat) : Int))) (w4.setCell ⟨p,1,none⟩ (.slice (some ⟨g',0,none⟩) (hs + 1 + 1) cap')) := by
    intro w1 w4 Fc' g' cap' hc1 hm1 hr4 k4 hg4
    obtain ⟨w2, hw2⟩ : ∃ w2, w2 = w1.alloc (.cells #[.pointer (some ⟨p,0,none⟩), .slice none 0 0] 482) := ⟨_,rfl⟩
    rw [← hw2] at k4
    have k2 : Keeps [] w1 w2 := by rw [hw2]; exact (Keeps.refl _ _).alloc _
    have z2 : w2.heap.size = w1.heap.size + 1 := by rw [hw2]; simp
    have hbq : w2.heap[w1.heap.size]? = some (.cells #[.pointer (some ⟨p,0,none⟩), .slice none 0 0] 482 (0,0)) := by rw [hw2]; exact blk_alloc_new _
    have s1 := hm1.keeps.size
    have s2 := k2.size
    have s4 := k4.size
    have hcl := hc1.lt
    obtain ⟨pr, hpr⟩ : ∃ pr, pr = w1.heap.size := ⟨_,rfl⟩
    rw [← hpr] at hr4 hbq
    have hnew : ∀ b, b ∉ Fc → b < w.heap.size → b ∉ Fc' := fun b a c e => by
      rcases hm1.from' b e with q | q
      · exact a q
      · omega
    have k12 : Keeps Fc w w2 := hm1.keeps.trans k2 (by simp)
    have b2 := k12.blk m.blk n4
    have b4 := k4.blk b2 (by simpa using n1)
    have hgp : g' ≠ p ∧ g' ≠ ga := by rcases hg4 with e | e; rw [e]; exact ⟨fun e => n1 e.symm, n3⟩; exact ⟨by omega,by omega⟩
    have k5 : Keeps [p] w4 (w4.setCell ⟨p,1,none⟩ (.slice (some ⟨g',0,none⟩) (hs + 1 + 1) cap')) := (Keeps.refl _ _).setCell (.inl (by simp)) _
    have hbp : (w4.setCell ⟨p,1,none⟩ (.slice (some ⟨g',0,none⟩) (hs + 1 + 1) cap')).heap[p]? = some (.cells #[.pointer (some ⟨pc,0,none⟩), .slice (some ⟨g',0,none⟩) (hs + 1 + 1) cap', .slice (some ⟨ga,0,none⟩) cap cap] 238 (0,0)) := by
      rw [blk_setCell _ b4]; simp
    have hw4f := frozen_of_blk b4 (i := 1)
    have hw4c : w4.cell? ⟨p,1,none⟩ = some (.slice (some ⟨gr,0,none⟩) (hs + 1) rc) := by rw [cell_of_blk b4]; rfl
    have k5r := k5.row hr4 (by simpa using hgp.1)
    have kall : Keeps ([p, gr] ++ Fc) w (w4.setCell ⟨p,1,none⟩ (.slice (some ⟨g',0,none⟩) (hs + 1 + 1) cap')) := ((k12.mono (T := [p, gr] ++ Fc) fun b hb => .inl (by simp [hb])).trans k4 fun b hb => .inl (by simp at hb; simp [hb])).trans k5 fun b hb => .inl (by simp at hb; simp [hb])
    have kold : Keeps [p, gr] w2 (w4.setCell ⟨p,1,none⟩ (.slice (some ⟨g',0,none⟩) (hs + 1 + 1) cap')) := (k4.mono (T := [p, gr]) (by simp)).trans k5 (by simp)
    generalize w4.setCell ⟨p,1,none⟩ (.slice (some ⟨g',0,none⟩) (hs + 1 + 1) cap') = w5 at *
    have hgF : g' ∉ Fc' := by rcases hg4 with e | e; rw [e]; exact hnew gr n5 hgl; exact fun q => by have := hcl _ q; omega
    have hce : CellsAt w5 Fc' pc cap (hs + 1) E := (hc1.keep k2 (by simp)).keep kold (by
      intro b hb e
      simp only [List.mem_cons, List.not_mem_nil, or_false] at e
      rcases e with rfl | rfl
      · exact hnew b n4 hpl hb
      · exact hnew b n5 hgl hb)
    have har : Arr w5 3 1 cap ga (numV f) := m.ar.keep kall (by simp only [List.mem_append, List.mem_cons, List.not_mem_nil, or_false]; rintro ((e | e) | e); exact n2 e.symm; exact n3 e.symm; exact n6 e)
    have hold : ∀ g, 1 ≤ g → g ≤ hs → ∀ b ∈ pf (R g), b ∉ [p, gr] ++ Fc := fun g a b x hx e => by
      obtain ⟨q1, q2, q3, q4⟩ := m.own g a b x hx
      simp only [List.mem_append, List.mem_cons, List.not_mem_nil, or_false] at e
      rcases e with (e | e) | e
      · exact q1 e
      · exact q2 e
      · exact q4 e
    have hpf0 : ∀ x, x ∈ pf (⟨pr, 0, none, 0,0,fun _ => 0⟩ : RowR) → x = pr := fun x hx => by simpa [pf, pfp] using hx
    have hD : ShedP w5 p pc g' cap' ga Fc' cap (hs + 1) E (upd R (hs + 1) ⟨pr, 0, none, 0,0,fun _ => 0⟩) f := by
      refine ⟨hbp, hce,?_, har, ⟨fun e => hgp.1 e.symm, n2, hgp.2, hnew p n4 hpl, hgF, hnew ga n6 hal⟩,?_,?_,?_,?_⟩
      · rw [rowsV_snoc _ _ (by omega), rowsV_congr (r := fun i => (R i).p) (r' := fun i => (upd R (hs + 1) ⟨pr, 0, none, 0,0,fun _ => 0⟩ i).p)]
        · simp only [upd_same]; exact k5r
        · intro i a b
          simp only [upd_other R _ (show i ≠ hs + 1 by omega)]
      · intro g a b x hx
        by_cases c : g = hs + 1
        · subst c
          rw [upd_same] at hx
          have hx := hpf0 x hx
          have : x ∉ Fc' := fun e => by have := hcl _ e; omega
          refine ⟨by omega,?_,by omega, this⟩
          rcases hg4 with e | e <;> omega
        · rw [upd_other R _ c] at hx
          obtain ⟨q1, q2, q3, q4⟩ := m.own g a (by omega) x hx
          have hxl := hlt x (nestF_mem.2 (.inr (.inr (.inr ⟨g, a,by omega, hx⟩))))
          refine ⟨q1,?_, q3, hnew x q4 hxl⟩
          rcases hg4 with e | e
          · rw [e]; exact q2
          · omega
      · intro g1 g2 a1 a2 b1 b2 hne x hx hx2
        by_cases c1 : g1 = hs + 1
        · subst c1
          rw [upd_same] at hx
          rw [upd_other R _ (fun e => hne e.symm)] at hx2
          have hxl := hlt x (nestF_mem.2 (.inr (.inr (.inr ⟨g2, b1,by omega, hx2⟩))))
          have hx := hpf0 x hx
          omega
        · rw [upd_other R _ c1] at hx
          have hxl := hlt x (nestF_mem.2 (.inr (.inr (.inr ⟨g1, a1,by omega, hx⟩))))
          by_cases c2 : g2 = hs + 1
          · subst c2
            rw [upd_same] at hx2
            have hx2 := hpf0 x hx2
            omega
          · rw [upd_other R _ c2] at hx2
            exact m.dis g1 g2 a1 (by omega) b1 (by omega) hne x hx hx2
      · intro g a b
        by_cases c : g = hs + 1
        · subst c
          rw [upd_same]
          have hpn : pr ∉ [p, gr] := by simp; exact ⟨by omega,by omega⟩
          exact ⟨hbp, kold.blk hbq hpn, hce, har, ⟨[],rfl, Rg.IR.nil _ _,by simp⟩, ⟨by show p ≠ pr; omega, n2,by show pr ≠ ga; omega, hnew p n4 hpl,fun (e : pr ∈ Fc') => by have := hcl pr e; omega, hnew ga n6 hal⟩,fun x e => by (cases e),fun j hj => by simp at hj,fun j hj => by simp at hj,fun i j hi => by simp at hi⟩
        · rw [upd_other R _ c]
          have hm := m.mem g a (by omega)
          obtain ⟨Lm, l1, l2, l3⟩ := hm.row
          have hno2 := hold g a (by omega)
          have hown := m.own g a (by omega)
          obtain ⟨q1, q2, q3, q4⟩ := hown (R g).p (by simp [pf, pfp])
          have hql := hlt (R g).p (nestF_mem.2 (.inr (.inr (.inr ⟨g, a,by omega,by simp [pf, pfp]⟩))))
          refine ⟨hbp, kall.blk hm.bq (hno2 _ (by simp [pf, pfp])), hce, har, ⟨Lm, l1, ir_keep l2 kall (fun x e => hno2 _ (by simp [pf, pfp, e])), l3⟩, ⟨hm.ne.1, n2, hm.ne.2.2.1, hnew p n4 hpl, hnew _ q4 hql, hnew ga n6 hal⟩,fun x e => ?_, hm.pos, hm.lt, hm.inj⟩
          obtain ⟨t1, t2, t3, t4⟩ := hm.na x e
          exact ⟨t1, t2, t3, hnew _ t4 (hlt x.block (nestF_mem.2 (.inr (.inr (.inr ⟨g, a,by omega,by simp [pf, pfp, e]⟩)))))⟩
      · intro g a b
        by_cases c : g = hs + 1
        · subst c
          rw [upd_same]
          exact ⟨fun i j hi => by simp at hi,fun x => ⟨fun e => absurd e (hno x),fun ⟨j, hj, _⟩ => by simp at hj⟩,fun j _ hj => by simp at hj⟩
        · rw [upd_other R _ c]; exact m.ok g a (by omega)
    refine ⟨hw4f, hw4c, _,rfl, ⟨pc, g', cap', ga, Fc', _, f,rfl, hD⟩, kall.mono fun b hb => .inl (nestF_mem.2 ?_),fun b hb => ?_, hD.lt⟩
    · simp only [List.mem_append, List.mem_cons, List.not_mem_nil, or_false] at hb ⊢
      rcases hb with (e | e) | e
      · exact .inl e
      · exact .inr (.inl e)
      · exact .inr (.inr (.inl (.inr e)))
    · rcases nestF_mem.1 hb with e | e | e | ⟨i, a1, a2, e⟩
      · exact .inl (nestF_mem.2 (.inl e))
      · rcases hg4 with q | q
        · exact .inl (nestF_mem.2 (.inr (.inl (e.trans q))))
        · exact .inr (by omega)
      · rcases List.mem_cons.1 e with e | e
        · exact .inl (nestF_mem.2 (.inr (.inr (.inl (by simp [e])))))
        · rcases hm1.from' b e with q | q
          · exact .inl (nestF_mem.2 (.inr (.inr (.inl (by simp [q])))))
          · exact .inr q
      · by_cases c : i = hs + 1
        · subst c
          rw [upd_same] at e
          have := hpf0 b e
          exact .inr (by omega)
        · rw [upd_other R _ c] at e
          exact .inl (nestF_mem.2 (.inr (.inr (.inr ⟨i, a1,by omega, e⟩))))
  have hstep : ∀ (w1 : World) (Fc' : List Nat) (o : Obj), Moved Fc w Fc' w1 → w1.cell? ⟨p,1,none⟩ = some (.slice (some ⟨gr,0,none⟩) (hs + 1) rc) ∧ (w1.alloc o).ownsRow 0 478 1 (.slice (some ⟨gr,0,none⟩) (hs + 1) rc) (hs + 1) (rowsV (fun i => (R i).p) (hs + 1)) := fun w1 Fc' o h1 =>
    ⟨by rw [cell_of_blk (h1.keeps.blk m.blk n4)]; rfl, (h1.keeps.alloc o).row m.rows n5⟩
  have hh3 : (0 : Int) < ((hs + 1 : Nat) : Int) := by omega
  have HF := Lib.hid hfin
  have HS := Lib.hid hstep
  clear hfin hstep m hlt hno
  go_enter Tryz.func437, Tryz.ntmps437
  go_upto_region 3 with (go_at_call 318; refine hmk.mono ?_; rintro e w1 ⟨Fc',rfl, hc1, hm1⟩)
  obtain ⟨q2, q3⟩ := HS.out w1 Fc' (.cells #[.pointer (some ⟨p,0,none⟩), .slice none 0 0] 482 (0,0)) hm1
  go_wp2_with (first
    | (at_builtin; refine wpList_push _ 478 (.pointer (some ⟨w1.heap.size,0,none⟩)) (0,0) rfl (.tmp 15) (.tmp 19) 236 rfl (.pointer none) 8 Tryz.underlying236 Tryz.infoPileP rfl rfl _ (hs + 1) (rowsV (fun i => (R i).p) (hs + 1)) (by simp [Act.eval]) q3 (by simp [Act.eval]) (by unfold maxLen; omega) (by omega) ?_; intro g' cap' w4 hr4 hk4 hf4; obtain ⟨f5, c5, hD5⟩ := HF.out w1 w4 Fc' g' cap' hc1 hm1 hr4 (by simpa [Value.ownBlock] using hk4) (by simpa [Value.ownBlock, eq_comm] using hf4); clear hr4 hk4 hf4))
  go_ret
  exact hD5
def ShedNew (w : World) (n : Nat) (e : Ending) (w' : World) : Prop :=
  ∃ (F : List Nat) (p : Nat), e = .returned (.tuple #[.pointer (some ⟨p,0,none⟩), .int .i64 0]) ∧ ShedAt w' F p n 0 (fun _ => none) ∧ Keeps [] w w' ∧ ∀ b ∈ F, w.heap.size ≤ b
theorem shed_new (w : World) (n : Nat) (hn : n ≤ 65536) : Calls Tryz.prog 70 #[.int .i64 n] w (ShedNew w n) := by
  obtain ⟨i0, hi, hz0, hz1, hzb⟩ := info_parts Rg.Tryz.infoInt
  go_enter Tryz.func70, Tryz.ntmps70
  go_wp2_with (first
    | (go_at_call 87; refine (cells_new w n hn).mono ?_; rintro e w1 ⟨Fc, pc,rfl, hc1, hk1, hF1⟩)
    | (at_make; refine wpList_make_full _ rfl _ _ 28 rfl 0 3 i0 (.int .i64 0) 1 Tryz.underlying28 hi hz0 hz1 .i64 .i64 n n n rfl rfl rfl rfl (by rw [hzb]; omega) (by unfold maxLen; omega) (Nat.zero_le _) ?_; intro w3 hr3 hg3))
  go_ret2
  have hl1 := hc1.lt
  have k1 := hk1.size
  obtain ⟨w2, hw2⟩ : ∃ w2, w2 = w1.alloc (.cells #[.pointer none] 478) := ⟨_,rfl⟩
  have k2 : Keeps [] w1 w2 := by rw [hw2]; exact (Keeps.refl _ _).alloc _
  have z2 : w2.heap.size = w1.heap.size + 1 := by rw [hw2]; simp
  have b2 : w2.heap[w1.heap.size]? = some (.cells #[.pointer none] 478 (0,0)) := by rw [hw2]; exact blk_alloc_new _
  rw [← hw2] at hr3 hg3
  have k3 : Keeps [] w2 w3 := (Keeps.refl _ _).grown hg3 (fun k h => by cases h)
  have z3 := row_lt hr3
  have ha : Arr w3 3 1 n w2.heap.size (numV fun _ => 0) := Arr.made rfl (by decide) hr3
  rw [z2] at z3 ha
  obtain ⟨w5, hw5⟩ : ∃ w5, w5 = w3.alloc (.cells #[.pointer (some ⟨pc,0,none⟩), .slice (some ⟨w1.heap.size,0,none⟩) 1 1, .slice (some ⟨w1.heap.size + 1,0,none⟩) n n] 238) := ⟨_,rfl⟩
  rw [← hw5]
  have k5 : Keeps [] w3 w5 := by rw [hw5]; exact (Keeps.refl _ _).alloc _
  have b5 : w5.heap[w3.heap.size]? = some (.cells #[.pointer (some ⟨pc,0,none⟩), .slice (some ⟨w1.heap.size,0,none⟩) 1 1, .slice (some ⟨w1.heap.size + 1,0,none⟩) n n] 238 (0,0)) := by rw [hw5]; exact blk_alloc_new _
  have k15 : Keeps [] w1 w5 := (k2.trans k3 (by simp)).trans k5 (by simp)
  refine ⟨nestF w3.heap.size w1.heap.size ((w1.heap.size + 1) :: Fc) 0 (fun _ => []), w3.heap.size,rfl, ⟨pc, w1.heap.size, 1, w1.heap.size + 1, Fc,fun _ => ⟨0,0, none, 0,0,fun _ => 0⟩,fun _ => 0,by simp [nestF], ⟨b5, hc1.keep k15 (by simp),?_, ha.keep k5 (by simp),?_,fun g a b => by omega,fun g g' a b => by omega,fun g a b => by omega,fun g a b => by omega⟩⟩, hk1.trans k15 (by simp),?_⟩
  · refine ⟨by simp [rowsV], .inr ⟨w1.heap.size, 1, #[.pointer none],rfl, Nat.zero_le _,?_,by simp,by decide,by simp,by simp [rowsV]⟩⟩
    exact (k3.trans k5 (by simp)).blk b2 (by simp)
  · exact ⟨by omega,by omega,by omega,fun e => by have := hl1 _ e; omega,fun e => by have := hl1 _ e; omega,fun e => by have := hl1 _ e; omega⟩
  · intro b hb
    rcases nestF_mem.1 hb with rfl | rfl | e | ⟨i, a, b, _⟩
    · have := k15.size; omega
    · omega
    · rcases List.mem_cons.1 e with rfl | e
      · omega
      · exact hF1 b e
    · omega
end
def okC (a b : Int) : Prop := (1 ≤ a ∧ a ≤ 8) ∧ ((a = 2 ∧ 2 ≤ b ∧ b ≤ 16) ∨ (a ≠ 2 ∧ b = 0))
instance (a b : Int) : Decidable (okC a b) := by unfold okC; infer_instance
section
variable (w : World) (a b : Int)
theorem check_calls : Calls Tryz.prog 33 #[.agg #[.int .i64 a, .int .i64 b]] w fun e w' => (∃ r : Int, e = .returned (.int .i64 r) ∧ (r = 0 ↔ okC a b)) ∧ Keeps [] w w' := by
  have hk : Keeps [] w (w.alloc (.cells #[.int .i64 a, .int .i64 b] 23 (0,0))) := (Keeps.refl _ _).alloc _
  obtain ⟨w0, hw0⟩ : ∃ w0, w0 = w.alloc (.cells #[.int .i64 a, .int .i64 b] 23 (0,0)) := ⟨_,rfl⟩
  have e0 : w0.cell? ⟨w.heap.size,0,none⟩ = some (.int .i64 a) := by rw [hw0, cell_of_blk (blk_alloc_new _)]; rfl
  have e1 : w0.cell? ⟨w.heap.size,1,none⟩ = some (.int .i64 b) := by rw [hw0, cell_of_blk (blk_alloc_new _)]; rfl
  rw [← hw0] at hk
  have HK := Lib.hid hk
  clear hk
  go_enter Tryz.func33, Tryz.ntmps33
  go_upto_region 1 with fail
  rw [← hw0]
  clear hw0
  by_cases h1 : a < 1
  · go_wp2_with fail
    go_ret
    exact ⟨⟨_,rfl,by unfold okC; constructor <;> intro h <;> omega⟩, HK.out⟩
  · by_cases h2 : 8 < a
    · go_wp2_with fail
      go_ret
      exact ⟨⟨_,rfl,by unfold okC; constructor <;> intro h <;> omega⟩, HK.out⟩
    · by_cases h3 : a = 2
      · subst h3
        by_cases h4 : b < 2
        · go_wp2_with fail
          go_ret
          exact ⟨⟨_,rfl,by unfold okC; constructor <;> intro h <;> omega⟩, HK.out⟩
        · by_cases h5 : 16 < b
          · go_wp2_with fail
            go_ret
            exact ⟨⟨_,rfl,by unfold okC; constructor <;> intro h <;> omega⟩, HK.out⟩
          · go_wp2_with fail
            go_ret
            exact ⟨⟨_,rfl,by unfold okC; constructor <;> intro h <;> omega⟩, HK.out⟩
      · have h6 : (a == 2) = false := by rw [beq_eq_false_iff_ne]; exact h3
        have h7 : (a != 2) = true := by rw [bne_iff_ne]; exact h3
        have H3 := Lib.hid h3
        clear h3
        by_cases h4 : b = 0
        · subst h4
          go_wp2_with fail
          go_ret
          exact ⟨⟨_,rfl,by have := H3.out; unfold okC; constructor <;> intro h <;> omega⟩, HK.out⟩
        · have h8 : (b != 0) = true := by rw [bne_iff_ne]; exact h4
          have H4 := Lib.hid h4
          clear h4
          go_wp2_with fail
          go_ret
          exact ⟨⟨_,rfl,by have := H3.out; have := H4.out; unfold okC; constructor <;> intro h <;> omega⟩, HK.out⟩
theorem ref_check_calls : Calls Tryz.prog 8 #[.agg #[.int .i64 a, .int .i64 b]] w fun e w' => (∃ r : Int, e = .returned (.int .i64 r) ∧ (r = 0 ↔ okC a b)) ∧ Keeps [] w w' := by
  have hk : Keeps [] w (w.alloc (.cells #[.int .i64 a, .int .i64 b] 23 (0,0))) := (Keeps.refl _ _).alloc _
  obtain ⟨w0, hw0⟩ : ∃ w0, w0 = w.alloc (.cells #[.int .i64 a, .int .i64 b] 23 (0,0)) := ⟨_,rfl⟩
  have e0 : w0.cell? ⟨w.heap.size,0,none⟩ = some (.int .i64 a) := by rw [hw0, cell_of_blk (blk_alloc_new _)]; rfl
  have e1 : w0.cell? ⟨w.heap.size,1,none⟩ = some (.int .i64 b) := by rw [hw0, cell_of_blk (blk_alloc_new _)]; rfl
  rw [← hw0] at hk
  have HK := Lib.hid hk
  clear hk
  go_enter Tryz.func8, Tryz.ntmps8
  go_upto_region 1 with fail
  rw [← hw0]
  clear hw0
  by_cases h1 : a < 1
  · go_wp2_with fail
    go_ret
    exact ⟨⟨_,rfl,by unfold okC; constructor <;> intro h <;> omega⟩, HK.out⟩
  · by_cases h2 : 8 < a
    · go_wp2_with fail
      go_ret
      exact ⟨⟨_,rfl,by unfold okC; constructor <;> intro h <;> omega⟩, HK.out⟩
    · by_cases h3 : a = 2
      · subst h3
        by_cases h4 : 2 ≤ b
        · by_cases h5 : b ≤ 16
          · go_wp2_with fail
            go_ret
            exact ⟨⟨_,rfl,by unfold okC; constructor <;> intro h <;> omega⟩, HK.out⟩
          · go_wp2_with fail
            go_ret
            exact ⟨⟨_,rfl,by unfold okC; constructor <;> intro h <;> omega⟩, HK.out⟩
        · go_wp2_with fail
          go_ret
          exact ⟨⟨_,rfl,by unfold okC; constructor <;> intro h <;> omega⟩, HK.out⟩
      · have h6 : (a == 2) = false := by rw [beq_eq_false_iff_ne]; exact h3
        have h7 : (a != 2) = true := by rw [bne_iff_ne]; exact h3
        have H3 := Lib.hid h3
        clear h3
        by_cases h4 : b = 0
        · subst h4
          go_wp2_with fail
          go_ret
          exact ⟨⟨_,rfl,by have := H3.out; unfold okC; constructor <;> intro h <;> omega⟩, HK.out⟩
        · have h8 : (b == 0) = false := by rw [beq_eq_false_iff_ne]; exact h4
          have H4 := Lib.hid h4
          clear h4
          go_wp2_with fail
          go_ret
          exact ⟨⟨_,rfl,by have := H3.out; have := H4.out; unfold okC; constructor <;> intro h <;> omega⟩, HK.out⟩
theorem check_ok (h : okC a b) : Calls Tryz.prog 33 #[.agg #[.int .i64 a, .int .i64 b]] w fun e w' => e = .returned (.int .i64 0) ∧ Keeps [] w w' := by
  refine (check_calls w a b).mono ?_
  rintro e w' ⟨⟨r,rfl, hr⟩, k⟩
  rw [hr.2 h]
  exact ⟨rfl, k⟩
theorem arity_calls (h : okC a b) (ha : a = 1 ∨ a = 2) : Calls Tryz.prog 58 #[.agg #[.int .i64 a, .int .i64 b]] w fun e w' => (∃ d : Nat, e = .returned (.int .i64 d) ∧ 2 ≤ d ∧ d ≤ 16) ∧ Keeps [] w w' := by
  obtain ⟨w0, hw0⟩ : ∃ w0, w0 = w.alloc (.cells #[.int .i64 a, .int .i64 b] 23 (0,0)) := ⟨_,rfl⟩
  have hk : Keeps [] w w0 := by rw [hw0]; exact (Keeps.refl _ _).alloc _
  have hb0 : w0.heap[w.heap.size]? = some (.cells #[.int .i64 a, .int .i64 b] 23 (0,0)) := by rw [hw0]; exact blk_alloc_new _
  have e0 : w0.cell? ⟨w.heap.size,0,none⟩ = some (.int .i64 a) := by rw [cell_of_blk hb0]; rfl
  have e1 : w0.cell? ⟨w.heap.size,1,none⟩ = some (.int .i64 b) := by rw [cell_of_blk hb0]; rfl
  have hc := check_ok w0 a b h
  have hstep : ∀ w1, Keeps [] w0 w1 → w1.cell? ⟨w.heap.size,0,none⟩ = some (.int .i64 a) ∧ w1.cell? ⟨w.heap.size,1,none⟩ = some (.int .i64 b) ∧ Hid (Keeps [] w w1) := fun w1 k => by
    have := k.blk hb0 (by simp)
    exact ⟨by rw [cell_of_blk this]; rfl,by rw [cell_of_blk this]; rfl, hk.trans k (by simp)⟩
  have HS := Lib.hid hstep
  have HO := Lib.hid h
  clear hstep hk hb0 h
  go_enter Tryz.func58, Tryz.ntmps58
  go_upto_region 1 with fail
  rw [← hw0]
  clear hw0
  rcases ha with rfl | rfl
  · go_wp2_with (go_at_call 33; refine hc.mono ?_; rintro e w1 ⟨rfl, k1⟩; obtain ⟨z0, z1, z2⟩ := HS.out w1 k1; clear k1)
    go_ret
    exact ⟨⟨2,rfl,by omega,by omega⟩, z2.out⟩
  · obtain ⟨d,rfl⟩ : ∃ d : Nat, b = d := ⟨b.toNat,by have := HO.out; unfold okC at this; omega⟩
    go_wp2_with (go_at_call 33; refine hc.mono ?_; rintro e w1 ⟨rfl, k1⟩; obtain ⟨z0, z1, z2⟩ := HS.out w1 k1; clear k1)
    go_ret
    exact ⟨⟨d,rfl,by have := HO.out; unfold okC at this; omega,by have := HO.out; unfold okC at this; omega⟩, z2.out⟩
end
theorem Tryz.infoCfg : (Tryz.prog.info? 23).map (fun i => (i.zero, i.size, i.bytes)) = some (some (.agg #[.int .i64 0, .int .i64 0]), 2,16) := by kernel_rfl
def baseK (k : Nat) : Nat := if k ≤ 2 then k - 1 else k + 13
def cntK (k d : Nat) : Nat := baseK k + (if k = 2 then d - 2 else if d = 0 then 0 else 1)
theorem cntK_yes {k d : Nat} (h : okC k d) : cntK k (d + 1) = cntK k d + 1 := by
  unfold okC at h; unfold cntK
  obtain ⟨h1, h2 | h2⟩ := h
  · have : k = 2 := by omega
    subst this; simp; omega
  · have h3 : ¬ k = 2 := by omega
    have h4 : d = 0 := by omega
    subst h4; simp [h3]
theorem cntK_no {k d : Nat} (h1 : 1 ≤ k) (h8 : k ≤ 8) (hd : d ≤ 16) (h : ¬ okC k d) : cntK k (d + 1) = cntK k d := by
  unfold okC at h; unfold cntK
  by_cases h2 : k = 2
  · subst h2; simp; omega
  · by_cases h0 : d = 0
    · exact absurd ⟨⟨by omega,by omega⟩, .inr ⟨by omega,by omega⟩⟩ h
    · simp [h2, h0]
theorem cntK_last {k : Nat} (h1 : 1 ≤ k) : cntK k 17 = baseK (k + 1) := by
  unfold cntK baseK
  by_cases h2 : k = 2
  · subst h2; rfl
  · by_cases h3 : k ≤ 2
    · have : k = 1 := by omega
      subst this; rfl
    · simp [h2, show ¬ k + 1 ≤ 2 by omega, h3]
theorem cntK_zero (k : Nat) : cntK k 0 = baseK k := by unfold cntK; by_cases h : k = 2 <;> simp [h]
theorem cntK_le {k d : Nat} (h8 : k ≤ 8) (hd : d ≤ 17) : cntK k d ≤ 60 := by
  unfold cntK baseK; split <;> split <;> (try split) <;> omega
def GRow (w0 w : World) (v : Value) (n : Nat) : Prop := (∃ xs, w.ownsRow 0 23 2 v n xs) ∧ (∀ b, v.ownBlock = some b → w0.heap.size ≤ b) ∧ Keeps [] w0 w
theorem GRow.form {w0 w : World} {v : Value} {n : Nat} (h : GRow w0 w v n) : ∃ ao ca, v = .slice ao n ca := by
  obtain ⟨⟨xs, h⟩, _⟩ := h
  rcases h.2 with ⟨rfl,rfl⟩ | ⟨g, cap, cur,rfl, _⟩
  · exact ⟨_, _,rfl⟩
  · exact ⟨_, _,rfl⟩
theorem kinds_calls (w : World) : Calls Tryz.prog 21 #[] w fun e w' => ∃ ao ca, e = .returned (.slice ao 22 ca) ∧ Keeps [] w w' := by
  have HS := Lib.hid (show GRow w w (.slice none 0 0) (baseK 1) from ⟨⟨[],rfl, .inl ⟨rfl,rfl⟩⟩,by simp [Value.ownBlock], Keeps.refl _ _⟩)
  go_enter Tryz.func21, Tryz.ntmps21
  go_wp2_with fail
  go_loopg [1,2] 8 (fun j v t wr => ∃ k : Nat, j + k = 9 ∧ 1 ≤ k ∧ k ≤ 9 ∧ t = .int .i64 k ∧ GRow w wr v (baseK k))
  case atStart => exact ⟨1,by omega,by omega,by omega,rfl, HS.out⟩
  case round =>
    clear HS
    obtain ⟨k, hj, hk1, hk9,rfl, hcr⟩ := hrel
    have HJ := Lib.hid hj
    clear hj
    by_cases hk8 : k ≤ 8
    · have hk8' : (k : Int) ≤ 8 := by omega
      have HS := Lib.hid (show GRow w wr _ (cntK k 0) by rw [cntK_zero]; exact hcr)
      clear hcr
      go_wp2_with fail
      go_loopg [1,9] 17 (fun j v t wr => ∃ d : Nat, j + d = 17 ∧ d ≤ 17 ∧ t = .int .i64 d ∧ GRow w wr v (cntK k d))
      case atStart => exact ⟨0,by omega,by omega,rfl, HS.out⟩
      case round =>
        clear HS
        obtain ⟨d, hi, hd,rfl, hcr⟩ := hrel
        have HI := Lib.hid hi
        clear hi
        by_cases hd16 : d < 17
        · have hd16' : (d : Int) < 17 := by omega
          obtain ⟨ao, ca,rfl⟩ := hcr.form
          obtain ⟨⟨xs, hr⟩, hob, kp⟩ := hcr
          have hcnt := cntK_le (k := k) (d := d) hk8 (by omega)
          have hc := check_calls (wr.alloc (.cells #[.int .i64 (k : Int), .int .i64 (d : Int)] 23 (0,0))) k d
          have hfin : ∀ w1, Keeps [] (wr.alloc (.cells #[.int .i64 (k : Int), .int .i64 (d : Int)] 23 (0,0))) w1 → w1.cell? ⟨wr.heap.size,0,none⟩ = some (.int .i64 k) ∧ w1.cell? ⟨wr.heap.size,1,none⟩ = some (.int .i64 d) ∧
              w1.ownsRow 0 23 2 (.slice ao (cntK k d) ca) (cntK k d) xs ∧
              Hid ((¬ okC k d → GRow w w1 (.slice ao (cntK k d) ca) (cntK k (d + 1))) ∧
                ∀ g' c' w2, okC k d → w2.ownsRow 0 23 2 (.slice (some ⟨g',0,none⟩) (cntK k d + 1) c') (cntK k d + 1) (xs ++ [.int .i64 k, .int .i64 d]) → Keeps (Value.slice ao (cntK k d) ca).ownBlock.toList w1 w2 → ((Value.slice ao (cntK k d) ca).ownBlock = some g' ∨ w1.heap.size ≤ g') →
                  GRow w w2 (.slice (some ⟨g',0,none⟩) (cntK k d + 1) c') (cntK k (d + 1))) := by
            intro w1 k1
            have kk : Keeps [] wr w1 := ((Keeps.refl [] wr).alloc _).trans k1 (by simp)
            have hb := k1.blk (blk_alloc_new (w := wr) (.cells #[.int .i64 (k : Int), .int .i64 (d : Int)] 23 (0,0))) (by simp)
            have hr1 : w1.ownsRow 0 23 2 (.slice ao (cntK k d) ca) (cntK k d) xs := by
              refine ⟨hr.1,?_⟩
              rcases hr.2 with c | ⟨g, cap, cur, e, hb', hg, r⟩
              · exact .inl c
              · exact .inr ⟨g, cap, cur, e, hb', kk.blk hg (by simp), r⟩
            refine ⟨by rw [cell_of_blk hb]; rfl,by rw [cell_of_blk hb]; rfl, hr1,fun hno => ?_,fun g' c' w2 hok h2 k2 hg => ⟨⟨xs ++ [.int .i64 (k : Int), .int .i64 (d : Int)],?_⟩,fun b e => ?_,?_⟩⟩
            · rw [cntK_no hk1 hk8 (by omega) hno]
              exact ⟨⟨_, hr1⟩, hob, kp.trans kk (by simp)⟩
            · rw [cntK_yes hok]; exact h2
            · cases e
              rcases hg with e | e
              · exact hob _ e
              · have := kp.size; have := kk.size; show w.heap.size ≤ g'; omega
            · exact (kp.trans kk (by simp)).trans k2 (fun b hb => .inr (hob b (by simpa [Option.mem_toList] using hb)))
          have HF := Lib.hid hfin
          clear hfin hr hob kp
          by_cases hok : okC k d
          · go_wp2_with (first
              | (go_at_call 33; refine hc.mono ?_; rintro e w1 ⟨⟨r,rfl, hr⟩, k1⟩; obtain rfl : r = 0 := hr.2 hok; obtain ⟨c0, c1, hro, z1⟩ := HF.out w1 k1; clear hr k1)
              | (at_builtin; refine wpList_push_agg _ 23 #[.int .i64 (k : Int), .int .i64 (d : Int)] (0,0) rfl (.tmp 18) (.tmp 20) 72 rfl (.agg #[.int .i64 0, .int .i64 0]) 2 16 Tryz.underlying72 Tryz.infoCfg rfl (by decide) rfl (by simp [Value.oneCell']) (.slice ao (cntK k d) ca) (cntK k d) xs (by simp [Act.eval]) hro (by simp [Act.eval]) (by unfold maxLen; omega) (by omega) ?_; intro g' cap' w9 hr9 hk9 hf9; have z9 := Lib.hid (z1.out.2 g' cap' w9 hok hr9 hk9 hf9); clear hr9 hk9 hf9))
            go_roundg (gk - 1)
            case measure => have := HI.out; omega
            case rel => exact ⟨d + 1,by have := HI.out; omega,by omega,by go_num, z9.out⟩
          · go_wp2_with (go_at_call 33; refine hc.mono ?_; rintro e w1 ⟨⟨r,rfl, hr⟩, k1⟩; have hr0 : ¬ r = 0 := fun c => hok (hr.1 c); obtain ⟨c0, c1, hro, z1⟩ := HF.out w1 k1; clear hr k1)
            go_roundg (gk - 1)
            case measure => have := HI.out; omega
            case rel => exact ⟨d + 1,by have := HI.out; omega,by omega,by go_num, z1.out.1 hok⟩
        · obtain rfl : d = 17 := by omega
          have HS := Lib.hid hcr
          clear hcr
          go_wp2_with fail
          go_roundg (8 - k)
          case measure => have := HJ.out; omega
          case rel => exact ⟨k + 1,by have := HJ.out; omega,by omega,by omega,by go_num,by rw [← cntK_last hk1]; exact HS.out⟩
    · obtain rfl : k = 9 := by omega
      obtain ⟨ao, ca,rfl⟩ := hcr.form
      have HS := Lib.hid hcr.2.2
      clear hcr
      go_wp2_with fail
      go_ret
      exact ⟨_, _,rfl, HS.out⟩
end Go.Proofs.YtkdbjelhkfdfjaaGreatDoor

