/-
  Contracts that the law rests on. Conditions: none.
-/
import Derived.Test.YtkdbjelhkfdfjaaGreatDoorQt05
import Derived.Test.YtkdbjelhkfdfjaaGreatDoorQt08
import Derived.Test.YtkdbjelhkfdfjaaGreatDoorQt11
set_option linter.unusedVariables false
set_option maxRecDepth 100000
set_option maxHeartbeats 16000000
namespace Go.Proofs.YtkdbjelhkfdfjaaGreatDoor
open Go.RowKit
def plF (E : Ent) (x g : Nat) : Option (Nat × Nat) := (numF E x g).map fun i => (i, 0)
theorem plF_put {E : Ent} {h i : Nat} (he : E i = none) (key : Int) (n : Nat) : plF (put E i (some (h, key, n + 1))) = fun u v => if u = i ∧ v = 1 then some (n, 0) else plF E u v := by
  funext u v
  unfold plF
  rw [numF_put he]
  by_cases c : u = i ∧ v = 1 <;> simp [c]
theorem plF_some {E : Ent} {h x n : Nat} {k : Int} (e : E x = some (h, k, n)) : plF E x 1 = some (n - 1,0) := by simp [plF, numF_some e]
theorem plF_ok {E : Ent} {cap : Nat} (hc : ∀ x,(E x).isSome -> x < cap) (hcap : cap <= 65536) : ∀ x g, plF E x g ≠ none -> okH x g := by
  intro x g hn
  refine numF_ok hc hcap x g fun e => hn ?_
  simp [plF, e]
theorem plF_nil : plF (fun _ => none) = fun _ _ => none := by funext x g; simp [plF, numF]
theorem Keeps.cell {w w' : World} {b j : Nat} {u : Value} (k : Keeps [] w w') (e : w.cell? ⟨b,j,none⟩ = some u) : w'.cell? ⟨b,j,none⟩ = some u := by
  have hb := World.block_lt_of_cell? w _ e
  rw [World.cell?_of_block (a := ⟨b,j,none⟩) (k.block b hb (by simp))]; exact e
abbrev mergerO (s mb : Nat) (lv : Value) : Obj := .cells #[.pointer (some ⟨s,0,none⟩), lv,.map (some mb)] 82 (0,0)
def MSt (w : World) (s k mp mb : Nat) (lv : Value) (keys : List Int) (i : Nat) (wr : World) : Prop :=
  ∃ (E : Ent) (G : Nat -> Nat) (F : List Nat) (c : Nat), FillS wr F s k keys.length 1 4294967295 (keys.take i) E G ∧ HMap elmPlace wr mb c (plF E) ∧ c <= i ∧ wr.heap[mp]? = some (mergerO s mb lv) ∧ Keeps [] w wr ∧
    (∀ b ∈ F, w.heap.size <= b) ∧ w.heap.size <= mb ∧ w.heap.size <= mp ∧ mb ∉ F ∧ mp ∉ F ∧ mp ≠ mb
section
variable (w : World) (s k mp mb : Nat) (lv : Value) (keys : List Int)
theorem MSt.next {i : Nat} {key : Int} {E : Ent} {G : Nat -> Nat} {F : List Nat} {c : Nat} {wr w1 : World} (hcap : keys.length <= 65536)
    (hi : keys[i]? = some key) (f : FillS wr F s k keys.length 1 4294967295 (keys.take i) E G) (hm : HMap elmPlace wr mb c (plF E)) (hc : c <= i) (hb : wr.heap[mp]? = some (mergerO s mb lv)) (kp : Keeps [] w wr) (hF : ∀ b ∈ F, w.heap.size <= b) (hwm : w.heap.size <= mb) (hwp : w.heap.size <= mp) (hmF : mb ∉ F) (hpF : mp ∉ F) (hne : mp ≠ mb) (e : Ending)
    (d : InsDone wr F s k keys.length 1 E (keys.take i).length 4294967295 G 1 key e w1) :
    ∃ x : Nat, e = .returned (.tuple #[.agg #[.int .i64 (x : Int),.int .u32 1],.int .i64 0]) ∧ okH x 1 ∧ (∀ b o, b ∉ F -> wr.heap[b]? = some o -> w1.heap[b]? = some o) ∧ ∀ wB T, Keeps T w1 wB -> (∀ b ∈ T,(∀ f ∈ F, f < b) ∧ w.heap.size <= b ∧ mb < b ∧ mp < b ∧ b < wr.heap.size) -> wB.heap[mp]? = some (mergerO s mb lv) ∧ HMap elmPlace wB mb c (plF E) ∧
      Hid (∀ w2, HMap elmPlace w2 mb (if (plF E x 1).isSome then c else c + 1) (fun u v => if u = x ∧ v = 1 then some (i, 0) else plF E u v) -> wB.grownBy w2 (some mb) -> MSt w s k mp mb lv keys (i + 1) w2) := by
  obtain ⟨x, hx, hn,rfl, F', st, mv⟩ := d
  have hil := (List.getElem?_eq_some_iff.1 hi).1
  have htl : (keys.take i).length = i := by rw [List.length_take]; omega
  have htk : keys.take (i + 1) = keys.take i ++ [key] := by rw [List.take_add_one, hi]; rfl
  have hlt := f.1.lt
  have hml := hm.lt
  have hpl := lt_of_block hb
  have s1 := mv.keeps.size
  have hmF' : mb ∉ F' := fun h => by
    rcases mv.from' mb h with c | c
    · exact hmF c
    · omega
  have hpF' : mp ∉ F' := fun h => by
    rcases mv.from' mp h with c | c
    · exact hpF c
    · omega
  refine ⟨x,by rw [f.2.g0 x hn]; rfl,⟨by omega,by omega⟩,fun b o hbF ho => mv.keeps.blk ho hbF,fun wB T kA hT => ?_⟩
  have hmT : mb ∉ T := fun h => by have := (hT _ h).2.2.1; omega
  have hpT : mp ∉ T := fun h => by have := (hT _ h).2.2.2.1; omega
  have hFT : ∀ b ∈ F', b ∉ T := fun b hb h => by
    rcases mv.from' b hb with c | c
    · have := (hT _ h).1 b c; omega
    · have := (hT _ h).2.2.2.2; omega
  have hbB := kA.blk (mv.keeps.blk hb hpF) hpT
  refine ⟨hbB,(hm.keep mv.keeps hmF).keep kA hmT,fun w2 hm2 hg => ?_⟩
  have k2 : Keeps [mb] wB w2 := (Keeps.refl [mb] _).grown hg (fun b hb => .inl (by cases hb; simp))
  have hF' : ∀ b ∈ F', w.heap.size <= b := fun b hb => by
    rcases mv.from' b hb with c | c
    · exact hF b c
    · have := kp.size; omega
  refine ⟨put E x (some (1, key,(keys.take i).length + 1)), upd G x (G x + 1), F',(if (plF E x 1).isSome then c else c + 1),⟨?_,?_⟩,?_,?_, k2.blk hbB (by simpa using hne),?_, hF', hwm, hwp, hmF', hpF', hne⟩
  · rw [htk, List.length_append]
    exact (st.keep kA hFT).keep k2 (fun b hb e => hmF' (by simp at e; exact e ▸ hb))
  · rw [htk]
    exact f.2.step hx hn key
  · rw [htl, plF_put hn]; exact hm2
  · split <;> omega
  · exact ((kp.trans mv.keeps (fun b hb => .inr (hF b hb))).trans kA (fun b hb => .inr (hT b hb).2.1)).trans k2 (fun b hb => .inr (by simp at hb; omega))
theorem MSt.keep0 {i : Nat} {wr w2 : World} (h : MSt w s k mp mb lv keys i wr) (kk : Keeps [] wr w2) : MSt w s k mp mb lv keys i w2 := by
  obtain ⟨E, G, F, c, f, hm, hc, hb, kp, h1⟩ := h
  exact ⟨E, G, F, c,⟨f.1.keep kk (by simp), f.2⟩, hm.keep kk (by simp), hc, kk.blk hb (by simp), kp.trans kk (by simp), h1⟩
theorem push_do {i : Nat} {wr : World} (hcap : keys.length <= 65536) (h : MSt w s k mp mb lv keys i wr) (hi : i < keys.length) (hl : LIn wr lv keys) :
    Calls Tryz.prog 28 #[.pointer (some ⟨mp,0,none⟩),.agg #[.int .i64 (i : Int),.int .i64 0]] wr fun e w' => e = .returned (.tuple #[]) ∧ MSt w s k mp mb lv keys (i + 1) w' := by
  obtain ⟨w0, hw0⟩ : ∃ w0, w0 = wr.alloc (.cells #[.int .i64 (i : Int),.int .i64 0] 51 (0,0)) := ⟨_,rfl⟩
  have k0 : Keeps [] wr w0 := by rw [hw0]; exact (Keeps.refl _ _).alloc _
  have hb0 : w0.heap[wr.heap.size]? = some (.cells #[.int .i64 (i : Int),.int .i64 0] 51 (0,0)) := by rw [hw0]; exact blk_alloc_new _
  have h0 := h.keep0 _ _ _ _ _ _ _ k0
  have hl0 := hl.keep k0 (by simp)
  have hlt0 : ∀ (E : Ent) (G : Nat -> Nat) (F : List Nat) q, StoreAt wr F s k keys.length 1 E q 4294967295 G -> wr.heap.size ∉ F := fun E G F q st hf => Nat.lt_irrefl _ (st.lt _ hf)
  obtain ⟨key, hkey⟩ : ∃ key, keys[i]? = some key := ⟨_, List.getElem?_eq_getElem hi⟩
  obtain ⟨E, G, F, c, f, hm, hci, hb, kp, hF, hwm, hwp, hmF, hpF, hne⟩ := h
  have hpnF := hlt0 E G F _ f.1
  have hcells : ∀ u, Keeps [] w0 u -> u.cell? ⟨mp,0,none⟩ = some (.pointer (some ⟨s,0,none⟩)) ∧ u.cell? ⟨mp,1,none⟩ = some lv ∧ u.cell? ⟨mp,2,none⟩ = some (.map (some mb)) ∧ u.cell? ⟨wr.heap.size,0,none⟩ = some (.int .i64 (i : Int)) ∧ u.cell? ⟨wr.heap.size,1,none⟩ = some (.int .i64 0) := fun u ku => by
    have e1 := ku.blk (k0.blk hb (by simp)) (by simp)
    have e2 := ku.blk hb0 (by simp)
    exact ⟨by rw [cell_of_blk e1]; rfl,by rw [cell_of_blk e1]; rfl,by rw [cell_of_blk e1]; rfl,by rw [cell_of_blk e2]; rfl,by rw [cell_of_blk e2]; rfl⟩
  have hroom := f.2.room (by rw [List.length_take]; omega)
  have htl : (keys.take i).length = i := by rw [List.length_take]; omega
  obtain ⟨hwf, g, ca, gi, hv, c1, c2⟩ := hl0.2 i key hkey
  have hins : ∀ u, Keeps [] w0 u -> Calls Tryz.prog 14 #[.pointer (some ⟨s,0,none⟩),.int .i64 1,.int .i64 key] u fun e w1 =>
      ∃ x : Nat, e = .returned (.tuple #[.agg #[.int .i64 (x : Int),.int .u32 1],.int .i64 0]) ∧ okH x 1 ∧ (∀ b o, w0.heap.size <= b -> u.heap[b]? = some o -> w1.heap[b]? = some o) ∧ ∀ wB T, Keeps T w1 wB -> (∀ b ∈ T, w0.heap.size <= b ∧ b < u.heap.size) -> wB.cell? ⟨mp,2,none⟩ = some (.map (some mb)) ∧ wB.cell? ⟨wr.heap.size,0,none⟩ = some (.int .i64 (i : Int)) ∧ wB.cell? ⟨wr.heap.size,1,none⟩ = some (.int .i64 0) ∧ HMap elmPlace wB mb c (plF E) ∧
        Hid (∀ w2, HMap elmPlace w2 mb (if (plF E x 1).isSome then c else c + 1) (fun u v => if u = x ∧ v = 1 then some (i, 0) else plF E u v) -> wB.grownBy w2 (some mb) -> MSt w s k mp mb lv keys (i + 1) w2) := fun u ku => by
    have kk := k0.trans ku (by simp)
    have fu : FillS u F s k keys.length 1 4294967295 (keys.take i) E G := ⟨f.1.keep kk (by simp), f.2⟩
    refine (pq_insert u F s k keys.length 1 E (keys.take i).length 4294967295 G fu.1 1 key (by omega) (by omega) hwf (by omega) (by obtain ⟨x, a, b, c⟩ := hroom; exact ⟨x, a, b,by rw [c]; decide⟩)).mono ?_
    intro e w1 d
    obtain ⟨x, he, hok, hbk, z⟩ := MSt.next w s k mp mb lv keys hcap hkey fu (hm.keep kk (by simp)) hci (kk.blk hb (by simp)) (kp.trans kk (by simp)) hF hwm hwp hmF hpF hne e d
    have hltw := f.1.lt
    have hs0 := k0.size
    have hmw := hm.lt
    have hpw := lt_of_block hb
    have hpz := lt_of_block hb0
    refine ⟨x, he, hok,fun b o hb1 hb2 => hbk b o (fun hf => by have := hltw b hf; omega) hb2,fun wB T kB hT => ?_⟩
    obtain ⟨z1, z2, z3⟩ := z wB T kB (fun b hb => ⟨fun f hf => by have := hltw f hf; have := (hT b hb).1; omega,by have := (hT b hb).1; have := kp.size; omega,by have := (hT b hb).1; omega,by have := (hT b hb).1; omega,(hT b hb).2⟩)
    have e2 := kB.blk (hbk _ _ hpnF (ku.blk hb0 (by simp))) (fun hf => by have := (hT _ hf).1; omega)
    exact ⟨by rw [cell_of_blk z1]; rfl,by rw [cell_of_blk e2]; rfl,by rw [cell_of_blk e2]; rfl, z2, z3⟩
  have NOK := Lib.hid (plF_ok (E := E) f.1.ok.lt hcap)
  have HINS := Lib.hid hins
  have HC := Lib.hid hcells
  obtain ⟨e0, e1, e2, e3, e4⟩ := hcells w0 (Keeps.refl _ _)
  subst hv
  have hi3 : (i : Int) < (keys.length : Int) := by omega
  have hi4 : i < keys.length := hi
  clear hins hcells f hm hb kp hF hwm hwp hmF hpF hl hl0 h0 hroom hb0 k0 hlt0 hpnF htl
  go_enter Tryz.func28, Tryz.ntmps28
  go_upto_region 1 with fail
  rw [<- hw0]
  clear hw0
  go_quiet (fail)
  have hku : Keeps [] w0 (w0.drewN nq) := (Keeps.refl _ _).drewN nq
  have d1 := hku.cell c1
  have d2 := hku.cell c2
  clear c1 c2 e0 e1 e2 e3 e4
  generalize w0.drewN nq = wu at *
  obtain ⟨e0, e1, e2, e3, e4⟩ := HC.out wu hku
  go_upto_region 3 with fail
  have hkd : Keeps [] w0 wu.drew := hku.drew
  have hsu := hku.size
  have kz : Keeps [] wu (wu.alloc (.cells #[.int .i64 0,.int .u32 0] 45 (0,0))) := (Keeps.refl _ _).alloc _
  have a0 := kz.cell e0
  have a2 := kz.cell e4
  have a3 := kz.cell d2
  clear kz
  go_region_law (first
    | (go_simp; go_at_call 14; refine (HINS.out _ hkd).mono ?_; rintro e w1 ⟨x,rfl, hok, hbk, z⟩; have Z := Lib.hid z; clear z hbk)
    | (go_simp; go_at_call 14; refine (HINS.out _ (hkd.alloc _)).mono ?_; rintro e w1 ⟨x,rfl, hok, hbk, z⟩; have Z := Lib.hid z; clear z; have hA := hbk wu.heap.size _ hsu (blk_alloc_new (w := wu.drew) _); clear hbk; have y1 := (cell_of_blk (i := 0) hA).trans rfl; have y2 := (cell_of_blk (i := 1) hA).trans rfl; have y3 : w1.frozen? ⟨wu.heap.size,0,none⟩ = false := frozen_of_blk hA; have y4 : w1.frozen? ⟨wu.heap.size,1,none⟩ = false := frozen_of_blk hA))
  all_goals first
    | (have kA : Keeps [wu.heap.size] w1 ((w1.setCell ⟨wu.heap.size,0,none⟩ (.int .i64 (x : Int))).setCell ⟨wu.heap.size,1,none⟩ (.int .u32 1)) := ((Keeps.refl _ _).setCell (.inl (by simp)) _).setCell (.inl (by simp)) _
       have hB := blk_setCell (i := 1) (.int .u32 1) (blk_setCell (i := 0) (.int .i64 (x : Int)) hA)
       generalize ((w1.setCell ⟨wu.heap.size,0,none⟩ (.int .i64 (x : Int))).setCell ⟨wu.heap.size,1,none⟩ (.int .u32 1)) = wF at *
       have z3 : wF.cell? ⟨wu.heap.size,0,none⟩ = some (.int .i64 (x : Int)) := (cell_of_blk hB).trans rfl
       have z4 : wF.cell? ⟨wu.heap.size,1,none⟩ = some (.int .u32 1) := (cell_of_blk hB).trans rfl
       have hT : ∀ b ∈ [wu.heap.size], w0.heap.size <= b ∧ b < (wu.drew.alloc (.cells #[.int .i64 0,.int .u32 0] 45 (0,0))).heap.size := fun b hb => by
         simp only [List.mem_singleton] at hb
         subst hb
         exact ⟨hsu,by simp⟩
       obtain ⟨z0, z1, z2, _, _⟩ := Z.out wF _ kA hT
       have Z2 := Lib.hid (Z.out wF.drew _ kA.drew hT)
       clear hB hA hT y1 y2 y3 y4
       clear kA Z hkd hku HINS HC e0 e1 e2 e3 e4 d1 d2 a0 a2 a3 hsu
       go_upto_region 4 with fail
       go_still_tail 6,(by kernel_rfl)
       change wpList _ _ _ _ _ wF.drew
       generalize wF.drew = wE at *
       obtain ⟨_, _, _, zm, zn⟩ := Z2.out
       go_wp2_with (at_mapUpdate; refine wpList_hmap_put (E := elmPlace) rfl _ _ _ rfl Tryz.underlying80 mb c _ rfl zm NOK.out (by unfold maxLen; omega) x 1 rfl hok (i, 0) rfl trivial ?_; intro w2 hm2 hg2; have zf := Lib.hid (zn.out w2 hm2 hg2); clear hm2 hg2)
       go_end0
       exact ⟨rfl, zf.out⟩)
    | (have kA : Keeps [] w1 (w1.alloc (.cells #[.int .i64 (x : Int),.int .u32 1] 45 (0,0))) := (Keeps.refl _ _).alloc _
       have hA : (w1.alloc (.cells #[.int .i64 (x : Int),.int .u32 1] 45 (0,0))).heap[w1.heap.size]? = some (.cells #[.int .i64 (x : Int),.int .u32 1] 45 (0,0)) := blk_alloc_new _
       generalize (w1.alloc (.cells #[.int .i64 (x : Int),.int .u32 1] 45 (0,0))) = wF at *
       have z3 : wF.cell? ⟨w1.heap.size,0,none⟩ = some (.int .i64 (x : Int)) := (cell_of_blk hA).trans rfl
       have z4 : wF.cell? ⟨w1.heap.size,1,none⟩ = some (.int .u32 1) := (cell_of_blk hA).trans rfl
       obtain ⟨z0, z1, z2, _, _⟩ := Z.out wF [] kA (by simp)
       have Z2 := Lib.hid (Z.out wF.drew [] kA.drew (by simp))
       clear kA Z hkd hku HINS HC e0 e1 e2 e3 e4 d1 d2 a0 a2 a3 hsu
       go_upto_region 4 with fail
       go_still_tail 6,(by kernel_rfl)
       change wpList _ _ _ _ _ wF.drew
       generalize wF.drew = wE at *
       obtain ⟨_, _, _, zm, zn⟩ := Z2.out
       go_wp2_with (at_mapUpdate; refine wpList_hmap_put (E := elmPlace) rfl _ _ _ rfl Tryz.underlying80 mb c _ rfl zm NOK.out (by unfold maxLen; omega) x 1 rfl hok (i, 0) rfl trivial ?_; intro w2 hm2 hg2; have zf := Lib.hid (zn.out w2 hm2 hg2); clear hm2 hg2)
       go_end0
       exact ⟨rfl, zf.out⟩)
theorem push_no (lv : Value) {i : Nat} {wr : World} (hcap : keys.length <= 65536) (hb : wr.heap[mp]? = some (mergerO s mb lv)) (hi : i < keys.length) (hl : LIn wr lv keys) :
    Calls Tryz.prog 28 #[.pointer (some ⟨mp,0,none⟩),.agg #[.int .i64 (i : Int),.int .i64 1]] wr fun e w' => e = .returned (.tuple #[]) ∧ Keeps [] wr w' := by
  obtain ⟨w0, hw0⟩ : ∃ w0, w0 = wr.alloc (.cells #[.int .i64 (i : Int),.int .i64 1] 51 (0,0)) := ⟨_,rfl⟩
  have k0 : Keeps [] wr w0 := by rw [hw0]; exact (Keeps.refl _ _).alloc _
  have hb0 : w0.heap[wr.heap.size]? = some (.cells #[.int .i64 (i : Int),.int .i64 1] 51 (0,0)) := by rw [hw0]; exact blk_alloc_new _
  have e1 : w0.cell? ⟨mp,1,none⟩ = some lv := by rw [cell_of_blk (k0.blk hb (by simp))]; rfl
  have e3 : w0.cell? ⟨wr.heap.size,0,none⟩ = some (.int .i64 (i : Int)) := by rw [cell_of_blk hb0]; rfl
  have e4 : w0.cell? ⟨wr.heap.size,1,none⟩ = some (.int .i64 1) := by rw [cell_of_blk hb0]; rfl
  obtain ⟨key, hkey⟩ : ∃ key, keys[i]? = some key := ⟨_, List.getElem?_eq_getElem hi⟩
  obtain ⟨hwf, g, ca, gi, hv, c1, c2⟩ := (hl.keep k0 (by simp)).2 i key hkey
  subst hv
  have K0 := Lib.hid k0
  have hi3 : (i : Int) < (keys.length : Int) := by omega
  clear k0 hb0 hb hl
  go_enter Tryz.func28, Tryz.ntmps28
  go_upto_region 1 with fail
  rw [<- hw0]
  clear hw0
  go_quiet (fail)
  have hku : Keeps [] w0 (w0.drewN nq) := (Keeps.refl _ _).drewN nq
  have d1 := hku.cell c1
  have d2 := hku.cell c2
  have f1 := hku.cell e1
  have f3 := hku.cell e3
  have f4 := hku.cell e4
  clear c1 c2 e1 e3 e4
  generalize w0.drewN nq = wu at *
  have KU := Lib.hid hku
  clear hku
  go_wp2_with fail
  go_end0
  exact ⟨rfl, K0.out.trans KU.out (by simp)⟩
end
end Go.Proofs.YtkdbjelhkfdfjaaGreatDoor

