/-
  Rings in plain Lean: a list of rings, each thing in one of them; what follows each thing, and what it follows.
-/
namespace Go.Proofs.Ytnpglgkpdikcjaa
set_option linter.unusedVariables false

/-- From x on, by what follows, through all of a list, to z. -/
def Path (N : Nat → Nat) : Nat → List Nat → Nat → Prop
  | x, [], z => N x = z
  | x, y :: t, z => N x = y ∧ Path N y t z

theorem path_append {N : Nat → Nat} {s : List Nat} {x y z : Nat} {t : List Nat} : Path N x (s ++ y :: t) z ↔ Path N x s y ∧ Path N y t z := by
  induction s generalizing x with
  | nil => simp [Path]
  | cons a s ih => simp only [List.cons_append, Path, ih, and_assoc]

theorem Path.turn {N N' : Nat → Nat} {s : List Nat} {x x' z : Nat} (h : Path N x s z) (hx : N' x' = N x) (hs : ∀ v ∈ s, N' v = N v) : Path N' x' s z := by
  cases s with
  | nil => exact hx.trans h
  | cons a s =>
    refine ⟨hx.trans h.1, ?_⟩
    have h2 := h.2
    clear h hx
    induction s generalizing a with
    | nil => exact (hs a (by simp)).trans h2
    | cons b s ih => exact ⟨(hs a (by simp)).trans h2.1, ih b (fun v hv => hs v (by simp at hv ⊢; exact .inr hv)) h2.2⟩

/-- There is one way round alone. -/
theorem Path.one {N : Nat → Nat} {r r' : List Nat} {y x : Nat} (h : Path N y r x) (hx : x ∉ r) (h' : Path N y r' x) (hx' : x ∉ r') : r = r' := by
  induction r generalizing y r' with
  | nil =>
    cases r' with
    | nil => rfl
    | cons b t => exact absurd (h'.1.symm.trans h) (fun e => hx' (by simp [e]))
  | cons a s ih =>
    cases r' with
    | nil => exact absurd (h.1.symm.trans h') (fun e => hx (by simp [e]))
    | cons b t =>
      obtain rfl : a = b := h.1.symm.trans h'.1
      rw [ih h.2 (fun e => hx (by simp [e])) h'.2 (fun e => hx' (by simp [e]))]

/-- The last one of a way leads to its end. -/
theorem Path.last {N : Nat → Nat} {r : List Nat} {y x : Nat} (h : Path N y r x) : N ((y :: r).getLast (by simp)) = x := by
  induction r generalizing y with
  | nil => exact h
  | cons a s ih => rw [List.getLast_cons (by simp)]; exact ih h.2

/-- What follows the k-th of a way. -/
theorem Path.at {N : Nat → Nat} {r : List Nat} {y x : Nat} (h : Path N y r x) (k : Nat) (hk : k ≤ r.length) : N ((y :: r).getD k 0) = (r ++ [x]).getD k 0 := by
  induction r generalizing y k with
  | nil =>
    obtain rfl : k = 0 := by simpa using hk
    exact h
  | cons a s ih =>
    cases k with
    | zero => exact h.1
    | succ k => exact ih h.2 k (by simpa using hk)

/-- A ring. -/
def Ring (N : Nat → Nat) (l : List Nat) : Prop := ∃ x t, l = x :: t ∧ Path N x t x

/-- A ring, told from another thing on. -/
theorem Ring.from {N : Nat → Nat} {s t : List Nat} {x : Nat} (h : Ring N (s ++ x :: t)) : Path N x (t ++ s) x := by
  obtain ⟨y, u, e, hp⟩ := h
  cases s with
  | nil =>
    simp only [List.nil_append, List.cons.injEq] at e
    obtain ⟨rfl, rfl⟩ := e
    simpa using hp
  | cons a s =>
    simp only [List.cons_append, List.cons.injEq] at e
    obtain ⟨rfl, rfl⟩ := e
    rw [path_append] at hp
    exact path_append.2 ⟨hp.2, hp.1⟩

/-- Is it this thing? -/
def isI (x : Int) (y : Nat) : Bool := ((y : Nat) : Int) == x

theorem isI_nat (x y : Nat) : isI x y = decide (y = x) := by
  simp only [isI]
  by_cases h : y = x
  · subst h; simp
  · rw [decide_eq_false h, beq_eq_false_iff_ne]; omega

/-- All of a thing's ring, from it on. -/
def rotZ (l : List Nat) (x : Int) : List Nat := l.dropWhile (fun y => !isI x y) ++ l.takeWhile (fun y => !isI x y)

def allZ (w : List (List Nat)) (x : Int) : List Nat :=
  match w.find? (fun l => l.any (isI x)) with
  | some l => rotZ l x
  | none => []

def withoutZ (w : List (List Nat)) (x y : Int) : List (List Nat) := w.filter fun l => !l.any (isI x) && !l.any (isI y)

def spliceZ (w : List (List Nat)) (x y : Int) : List (List Nat) × Bool :=
  if allZ w x = [] ∨ allZ w y = [] then (w, false)
  else if x = y then (w, true)
  else match (allZ w x).findIdx? (isI y) with
    | none => (withoutZ w x y ++ [x.toNat :: (allZ w y).tail ++ y.toNat :: (allZ w x).tail], true)
    | some i => (withoutZ w x y ++ [x.toNat :: (allZ w x).drop (i + 1), y.toNat :: ((allZ w x).take i).tail], true)

def partZ (w : List (List Nat)) (x : Int) : List (List Nat) × Bool :=
  if allZ w x = [] then (w, false)
  else if (allZ w x).length = 1 then (w, true)
  else (withoutZ w x x ++ [[x.toNat], (allZ w x).tail], true)

/-- What follows each thing, as a function. -/
def fn (L : List Nat) : Nat → Nat := fun i => L.getD i 0

theorem fn_set_eq {L : List Nat} {i x : Nat} (h : i < L.length) : fn (L.set i x) i = x := by simp [fn, List.getD, h]
theorem fn_set_ne {L : List Nat} {i j x : Nat} (h : i ≠ j) : fn (L.set i x) j = fn L j := by simp [fn, List.getD, h]

/-- The rings of n things. -/
structure Rings (n : Nat) (N P : List Nat) (w : List (List Nat)) : Prop where
  ln : N.length = n
  lp : P.length = n
  inv : ∀ i, i < n → fn N i < n ∧ fn P i < n ∧ fn P (fn N i) = i ∧ fn N (fn P i) = i
  ring : ∀ l ∈ w, Ring (fn N) l
  nd : w.flatten.Nodup
  mem : ∀ i, i ∈ w.flatten ↔ i < n

theorem uniq {w : List (List Nat)} (h : w.flatten.Nodup) {l l' : List Nat} {z : Nat} (h1 : l ∈ w) (h2 : l' ∈ w) (h3 : z ∈ l) (h4 : z ∈ l') : l = l' := by
  induction w with
  | nil => cases h1
  | cons a w ih =>
    rw [List.flatten_cons, List.nodup_append] at h
    simp only [List.mem_cons] at h1 h2
    rcases h1 with rfl | h1
    · rcases h2 with rfl | h2
      · rfl
      · exact absurd rfl (h.2.2 z h3 z (List.mem_flatten.2 ⟨_, h2, h4⟩))
    · rcases h2 with rfl | h2
      · exact absurd rfl (h.2.2 z h4 z (List.mem_flatten.2 ⟨_, h1, h3⟩))
      · exact ih h.2.1 h1 h2

theorem nodup_of {w : List (List Nat)} (h : w.flatten.Nodup) {l : List Nat} (h1 : l ∈ w) : l.Nodup := by
  induction w with
  | nil => cases h1
  | cons a w ih =>
    rw [List.flatten_cons, List.nodup_append] at h
    simp only [List.mem_cons] at h1
    rcases h1 with rfl | h1
    · exact h.1
    · exact ih h.2.1 h1

theorem flatten_filter (w : List (List Nat)) (p : List Nat → Bool) : (w.filter p).flatten.Sublist w.flatten := by
  induction w with
  | nil => simp
  | cons a w ih =>
    rw [List.filter_cons, List.flatten_cons]
    split
    · rw [List.flatten_cons]; exact List.Sublist.append (List.Sublist.refl _) ih
    · exact ih.trans (List.sublist_append_right _ _)

theorem any_isI (l : List Nat) (x : Nat) : l.any (isI x) = decide (x ∈ l) := by
  rw [Bool.eq_iff_iff]
  simp only [List.any_eq_true, isI_nat, decide_eq_true_eq]
  constructor
  · rintro ⟨y, h, rfl⟩; exact h
  · intro h; exact ⟨x, h, rfl⟩

theorem split_at {l : List Nat} {x : Nat} (h : x ∈ l) : ∃ s t, l = s ++ x :: t ∧ x ∉ s ∧ rotZ l x = x :: t ++ s := by
  induction l with
  | nil => cases h
  | cons a l ih =>
    by_cases e : a = x
    · subst e
      exact ⟨[], l, rfl, by simp, by simp [rotZ, isI_nat]⟩
    · have hx : x ∈ l := by
        simp only [List.mem_cons] at h
        rcases h with h | h
        · exact absurd h.symm e
        · exact h
      obtain ⟨s, t, rfl, h2, h3⟩ := ih hx
      refine ⟨a :: s, t, rfl, by simp only [List.mem_cons, not_or]; exact ⟨fun h => e h.symm, h2⟩, ?_⟩
      simp only [rotZ, isI_nat, List.cons_append, List.dropWhile_cons, List.takeWhile_cons, decide_eq_false e, Bool.not_false, if_true] at h3 ⊢
      have hd : (s ++ x :: t).dropWhile (fun y => !decide (y = x)) = x :: t := by
        clear h3 ih h hx
        induction s with
        | nil => simp
        | cons b s ih2 =>
          have hb : b ≠ x := fun e => h2 (by simp [e])
          simp only [List.cons_append, List.dropWhile_cons, decide_eq_false hb, Bool.not_false, if_true]
          exact ih2 (fun hm => h2 (by simp [hm]))
      have ht : (s ++ x :: t).takeWhile (fun y => !decide (y = x)) = s := by
        clear h3 ih h hx hd
        induction s with
        | nil => simp
        | cons b s ih2 =>
          have hb : b ≠ x := fun e => h2 (by simp [e])
          simp only [List.cons_append, List.takeWhile_cons, decide_eq_false hb, Bool.not_false, if_true]
          rw [ih2 (fun hm => h2 (by simp [hm]))]
      rw [hd, ht]
      simp

section
variable {n : Nat} {N P : List Nat} {w : List (List Nat)}

/-- The ring of a thing. -/
theorem Rings.home (h : Rings n N P w) {x : Nat} (hx : x < n) : ∃ l r, l ∈ w ∧ x ∈ l ∧ allZ w x = x :: r ∧ Path (fn N) x r x ∧ (x :: r).Nodup ∧ (∀ z, z ∈ x :: r ↔ z ∈ l) ∧ (∀ z ∈ r, z < n) := by
  obtain ⟨l0, hl0, hx0⟩ := List.mem_flatten.1 ((h.mem x).2 hx)
  cases hf : w.find? (fun l => l.any (isI x)) with
  | none =>
    rw [List.find?_eq_none] at hf
    exact absurd (by rw [any_isI]; simpa using hx0) (hf l0 hl0)
  | some l =>
    have h1 := List.find?_some hf
    have h2 := List.mem_of_find?_eq_some hf
    rw [any_isI, decide_eq_true_eq] at h1
    obtain ⟨s, t, e, h3, h4⟩ := split_at h1
    have hr := h.ring l h2
    have hnd := nodup_of h.nd h2
    rw [e] at hr
    have hmem : ∀ z, z ∈ x :: (t ++ s) ↔ z ∈ l := by
      intro z
      rw [e]
      simp only [List.mem_cons, List.mem_append]
      constructor
      · rintro (h | h | h)
        · exact .inr (.inl h)
        · exact .inr (.inr h)
        · exact .inl h
      · rintro (h | h | h)
        · exact .inr (.inr h)
        · exact .inl h
        · exact .inr (.inl h)
    refine ⟨l, t ++ s, h2, h1, ?_, hr.from, ?_, hmem, ?_⟩
    · simp only [allZ, hf, h4, List.cons_append]
    · have hp : (x :: (t ++ s)).Perm l := by
        rw [e]
        have : (x :: t ++ s).Perm (s ++ x :: t) := List.perm_append_comm
        simpa using this
      exact hp.nodup_iff.2 hnd
    · intro z hz
      exact (h.mem z).1 (List.mem_flatten.2 ⟨l, h2, (hmem z).1 (by simp [hz])⟩)

theorem Rings.out (h : Rings n N P w) {x : Int} (hx : x < 0 ∨ (n : Int) ≤ x) : allZ w x = [] := by
  have : w.find? (fun l => l.any (isI x)) = none := by
    rw [List.find?_eq_none]
    intro l hl hc
    rw [List.any_eq_true] at hc
    obtain ⟨y, hy, hi⟩ := hc
    have := (h.mem y).1 (List.mem_flatten.2 ⟨l, hl, hy⟩)
    simp only [isI, beq_iff_eq] at hi
    omega
  simp only [allZ, this]

/-- New rings in the place of those of x and y. -/
theorem Rings.build (h : Rings n N P w) {x y : Nat} {N' P' : List Nat} (K : List (List Nat)) (ln : N'.length = n) (lp : P'.length = n)
    (inv : ∀ i, i < n → fn N' i < n ∧ fn P' i < n ∧ fn P' (fn N' i) = i ∧ fn N' (fn P' i) = i) (hK : ∀ l ∈ K, Ring (fn N') l) (hnd : K.flatten.Nodup)
    {lx ly : List Nat} (hlx : lx ∈ w) (hly : ly ∈ w) (hxl : x ∈ lx) (hyl : y ∈ ly) (hmem : ∀ z, z ∈ K.flatten ↔ z ∈ lx ∨ z ∈ ly) (hN : ∀ v, v ≠ x → v ≠ y → fn N' v = fn N v) :
    Rings n N' P' (withoutZ w x y ++ K) := by
  have hwo : ∀ l, l ∈ withoutZ w x y ↔ l ∈ w ∧ x ∉ l ∧ y ∉ l := by
    intro l
    simp only [withoutZ, List.mem_filter, any_isI, Bool.and_eq_true, Bool.not_eq_true', decide_eq_false_iff_not]
  refine ⟨ln, lp, inv, ?_, ?_, ?_⟩
  · intro l hl
    rcases List.mem_append.1 hl with hl | hl
    · obtain ⟨h1, h2, h3⟩ := (hwo l).1 hl
      obtain ⟨a, t, rfl, hp⟩ := h.ring l h1
      refine ⟨a, t, rfl, hp.turn (hN a (fun e => h2 (by simp [e])) (fun e => h3 (by simp [e]))) ?_⟩
      intro v hv
      exact hN v (fun e => h2 (by simp [← e, hv])) (fun e => h3 (by simp [← e, hv]))
    · exact hK l hl
  · rw [List.flatten_append, List.nodup_append]
    refine ⟨h.nd.sublist (flatten_filter _ _), hnd, ?_⟩
    intro a ha b hb e
    subst e
    obtain ⟨l, hl, hal⟩ := List.mem_flatten.1 ha
    obtain ⟨h1, h2, h3⟩ := (hwo l).1 hl
    rcases (hmem a).1 hb with h4 | h4
    · exact h2 ((uniq h.nd h1 hlx hal h4) ▸ hxl)
    · exact h3 ((uniq h.nd h1 hly hal h4) ▸ hyl)
  · intro i
    rw [List.flatten_append, List.mem_append, hmem, ← h.mem]
    constructor
    · rintro (h1 | h1 | h1)
      · obtain ⟨l, hl, hil⟩ := List.mem_flatten.1 h1
        exact List.mem_flatten.2 ⟨l, ((hwo l).1 hl).1, hil⟩
      · exact List.mem_flatten.2 ⟨lx, hlx, h1⟩
      · exact List.mem_flatten.2 ⟨ly, hly, h1⟩
    · intro h1
      obtain ⟨l, hl, hil⟩ := List.mem_flatten.1 h1
      by_cases e1 : x ∈ l
      · exact .inr (.inl ((uniq h.nd hl hlx e1 hxl) ▸ hil))
      · by_cases e2 : y ∈ l
        · exact .inr (.inr ((uniq h.nd hl hly e2 hyl) ▸ hil))
        · exact .inl (List.mem_flatten.2 ⟨l, (hwo l).2 ⟨hl, e1, e2⟩, hil⟩)

/-- What follows each thing, behind a splice. -/
def nextS (N : List Nat) (x y : Nat) : List Nat := (N.set x (fn N y)).set y (fn N x)
def prevS (N P : List Nat) (x y : Nat) : List Nat := (P.set (fn N y) x).set (fn N x) y

theorem nextS_x (h : N.length = n) {x y : Nat} (hx : x < n) (hy : y < n) : fn (nextS N x y) x = fn N y := by
  rw [nextS]
  by_cases e : y = x
  · subst e; rw [fn_set_eq (by simpa using h ▸ hx)]
  · rw [fn_set_ne e, fn_set_eq (by rw [h]; exact hx)]
theorem nextS_y (h : N.length = n) {x y : Nat} (hy : y < n) : fn (nextS N x y) y = fn N x := by
  rw [nextS, fn_set_eq (by simpa using h ▸ hy)]
theorem nextS_o {x y v : Nat} (h1 : v ≠ x) (h2 : v ≠ y) : fn (nextS N x y) v = fn N v := by
  rw [nextS, fn_set_ne (Ne.symm h2), fn_set_ne (Ne.symm h1)]

theorem Rings.inj (h : Rings n N P w) {i j : Nat} (hi : i < n) (hj : j < n) (e : fn N i = fn N j) : i = j := by
  rw [← (h.inv i hi).2.2.1, e, (h.inv j hj).2.2.1]

theorem Rings.invS (h : Rings n N P w) {x y : Nat} (hx : x < n) (hy : y < n) :
    (nextS N x y).length = n ∧ (prevS N P x y).length = n ∧ ∀ i, i < n → fn (nextS N x y) i < n ∧ fn (prevS N P x y) i < n ∧ fn (prevS N P x y) (fn (nextS N x y) i) = i ∧ fn (nextS N x y) (fn (prevS N P x y) i) = i := by
  have ln := h.ln
  have lp := h.lp
  obtain ⟨a1, a2, a3, a4⟩ := h.inv x hx
  obtain ⟨b1, b2, b3, b4⟩ := h.inv y hy
  have pa : fn (prevS N P x y) (fn N x) = y := by rw [prevS, fn_set_eq (by simpa [lp] using a1)]
  have pb : fn (prevS N P x y) (fn N y) = x := by
    rw [prevS]
    by_cases e : fn N x = fn N y
    · rw [e, fn_set_eq (by simpa [lp] using b1)]
      exact (h.inj hx hy e).symm
    · rw [fn_set_ne e, fn_set_eq (by rw [lp]; exact b1)]
  have po : ∀ v, v ≠ fn N x → v ≠ fn N y → fn (prevS N P x y) v = fn P v := by
    intro v h1 h2
    rw [prevS, fn_set_ne (Ne.symm h1), fn_set_ne (Ne.symm h2)]
  refine ⟨by simp [nextS, ln], by simp [prevS, lp], fun i hi => ?_⟩
  obtain ⟨c1, c2, c3, c4⟩ := h.inv i hi
  refine ⟨?_, ?_, ?_, ?_⟩
  · by_cases e1 : i = x
    · subst e1; rw [nextS_x ln hx hy]; exact b1
    · by_cases e2 : i = y
      · subst e2; rw [nextS_y ln hy]; exact a1
      · rw [nextS_o e1 e2]; exact c1
  · by_cases e1 : i = fn N x
    · rw [e1, pa]; exact hy
    · by_cases e2 : i = fn N y
      · rw [e2, pb]; exact hx
      · rw [po i e1 e2]; exact c2
  · by_cases e1 : i = x
    · subst e1; rw [nextS_x ln hx hy]; exact pb
    · by_cases e2 : i = y
      · subst e2; rw [nextS_y ln hy]; exact pa
      · rw [nextS_o e1 e2, po _ (fun e => e1 (h.inj hi hx e)) (fun e => e2 (h.inj hi hy e))]; exact c3
  · by_cases e1 : i = fn N x
    · rw [e1, pa, nextS_y ln hy]
    · by_cases e2 : i = fn N y
      · rw [e2, pb, nextS_x ln hx hy]
      · rw [po i e1 e2, nextS_o (fun e => e1 (by rw [← e, c4])) (fun e => e2 (by rw [← e, c4]))]; exact c4

theorem set_fn {L : List Nat} {i : Nat} : L.set i (fn L i) = L := by
  apply List.ext_getElem (by simp)
  intro j h1 h2
  by_cases e : i = j
  · subst e
    simp only [List.length_set] at h1
    simp [fn, List.getD, h2]
  · simp [e]

theorem nextS_self {x : Nat} : nextS N x x = N := by rw [nextS, set_fn, set_fn]
theorem prevS_self (h : Rings n N P w) {x : Nat} (hx : x < n) : prevS N P x x = P := by
  have := (h.inv x hx).2.2.1
  have e : P.set (fn N x) x = P := by
    have h2 := set_fn (L := P) (i := fn N x)
    rwa [this] at h2
  rw [prevS, e, e]

theorem findIdx_none {l : List Nat} {y : Nat} (h : y ∉ l) : l.findIdx? (isI y) = none := by
  rw [List.findIdx?_eq_none_iff]
  intro z hz
  rw [isI_nat, decide_eq_false_iff_not]
  intro e; subst e; exact h hz

theorem findIdx_some {s t : List Nat} {y : Nat} (h : y ∉ s) : (s ++ y :: t).findIdx? (isI y) = some s.length := by
  have h0 : (y :: t).findIdx? (isI y) = some 0 := by rw [List.findIdx?_cons]; simp [isI]
  rw [List.findIdx?_append, findIdx_none h, h0]
  simp

/-- A splice. -/
theorem Rings.splice (h : Rings n N P w) {x y : Nat} (hx : x < n) (hy : y < n) : (spliceZ w x y).2 = true ∧ Rings n (nextS N x y) (prevS N P x y) (spliceZ w x y).1 := by
  obtain ⟨lx, rx, hlx, hxl, hax, hpx, hndx, hmx, hbx⟩ := h.home hx
  obtain ⟨ly, ry, hly, hyl, hay, hpy, hndy, hmy, hby⟩ := h.home hy
  by_cases e : x = y
  · subst e
    rw [nextS_self, prevS_self h hx]
    simp [spliceZ, hax, h]
  · have e' : ¬ ((x : Int) = (y : Int)) := by omega
    obtain ⟨i1, i2, i3⟩ := h.invS hx hy
    have hN : ∀ v, v ≠ x → v ≠ y → fn (nextS N x y) v = fn N v := fun v h1 h2 => nextS_o h1 h2
    have hnx := nextS_x h.ln hx hy
    have hny := nextS_y (x := x) h.ln hy
    have hxr : x ∉ rx := (List.nodup_cons.1 hndx).1
    have hyr : y ∉ ry := (List.nodup_cons.1 hndy).1
    by_cases hy2 : y ∈ x :: rx
    · have hyrx : y ∈ rx := by
        simp only [List.mem_cons] at hy2
        rcases hy2 with h1 | h1
        · exact absurd h1.symm e
        · exact h1
      obtain ⟨s, t, est, hys, _⟩ := split_at hyrx
      subst est
      have hfi : (x :: (s ++ y :: t)).findIdx? (isI y) = some (s.length + 1) := by
        have := findIdx_some (s := x :: s) (t := t) (y := y) (by simp only [List.mem_cons, not_or]; exact ⟨fun h => e h.symm, hys⟩)
        simpa using this
      rw [path_append] at hpx
      have hxs : x ∉ s := fun h => hxr (by simp [h])
      have hxt : x ∉ t := fun h => hxr (by simp [h])
      have hnd2 := (List.nodup_cons.1 hndx).2
      rw [List.nodup_append] at hnd2
      obtain ⟨n1, n2, n3⟩ := hnd2
      have hyt : y ∉ t := (List.nodup_cons.1 n2).1
      have hr1 : Ring (fn (nextS N x y)) (x :: t) := ⟨x, t, rfl, hpx.2.turn hnx fun v hv => hN v (fun e => hxt (e ▸ hv)) (fun e => hyt (e ▸ hv))⟩
      have hr2 : Ring (fn (nextS N x y)) (y :: s) := ⟨y, s, rfl, hpx.1.turn hny fun v hv => hN v (fun e => hxs (e ▸ hv)) (fun e => hys (e ▸ hv))⟩
      have hd1 : (x :: (s ++ y :: t)).drop (s.length + 1 + 1) = t := by simp
      have hd2 : ((x :: (s ++ y :: t)).take (s.length + 1)).tail = s := by simp
      have hk := h.build (x := x) (y := y) [x :: t, y :: s] i1 i2 i3 (by
        intro l hl
        simp only [List.mem_cons, List.not_mem_nil, or_false] at hl
        rcases hl with rfl | rfl
        · exact hr1
        · exact hr2) (by
        have hp : ([x :: t, y :: s] : List (List Nat)).flatten.Perm (x :: (s ++ y :: t)) := by
          simp only [List.flatten_cons, List.flatten_nil, List.append_nil, List.cons_append]
          refine List.Perm.cons _ ?_
          have h1 : (t ++ y :: s).Perm (y :: s ++ t) := List.perm_append_comm
          have h2 : (y :: s ++ t).Perm (s ++ y :: t) := by simpa using (List.perm_middle (l₁ := s) (l₂ := t) (a := y)).symm
          exact h1.trans h2
        exact hp.nodup_iff.2 hndx) hlx hly hxl hyl (by
        intro z
        have hz1 := hmx z
        have hl : ly = lx := uniq h.nd hly hlx hyl ((hmx y).1 hy2)
        rw [hl, or_self, ← hz1]
        simp only [List.flatten_cons, List.flatten_nil, List.append_nil, List.cons_append, List.mem_cons, List.mem_append]
        constructor
        · rintro (h1 | h1 | h1 | h1)
          · exact .inl h1
          · exact .inr (.inr (.inr h1))
          · exact .inr (.inr (.inl h1))
          · exact .inr (.inl h1)
        · rintro (h1 | h1 | h1 | h1)
          · exact .inl h1
          · exact .inr (.inr (.inr h1))
          · exact .inr (.inr (.inl h1))
          · exact .inr (.inl h1)) hN
      have hsp : spliceZ w x y = (withoutZ w x y ++ [x :: t, y :: s], true) := by
        simp only [spliceZ, hax, hay, hfi, hd1, hd2, e', Int.toNat_natCast]
        simp
      rw [hsp]
      exact ⟨rfl, hk⟩
    · have hfi : (x :: rx).findIdx? (isI y) = none := findIdx_none hy2
      have hne : ∀ z, z ∈ x :: rx → z ∉ y :: ry := by
        intro z hz1 hz2
        have := uniq h.nd hlx hly ((hmx z).1 hz1) ((hmy z).1 hz2)
        exact hy2 ((hmx y).2 (this ▸ hyl))
      have hxy2 : x ∉ ry := fun h => hne x (by simp) (by simp [h])
      have hyx2 : y ∉ rx := fun h => hy2 (by simp [h])
      have hr : Ring (fn (nextS N x y)) (x :: (ry ++ y :: rx)) := by
        refine ⟨x, _, rfl, path_append.2 ⟨hpy.turn hnx fun v hv => hN v (fun e => hxy2 (e ▸ hv)) (fun e => hyr (e ▸ hv)), hpx.turn hny fun v hv => hN v (fun e => hxr (e ▸ hv)) (fun e => hyx2 (e ▸ hv))⟩⟩
      have hk := h.build (x := x) (y := y) [x :: ry ++ y :: rx] i1 i2 i3 (by
        intro l hl
        simp only [List.mem_singleton] at hl
        subst hl
        exact hr) (by
        have hp : ([x :: ry ++ y :: rx] : List (List Nat)).flatten.Perm (x :: rx ++ y :: ry) := by
          simp only [List.flatten_cons, List.flatten_nil, List.append_nil, List.cons_append]
          refine List.Perm.cons _ ?_
          have h1 : (ry ++ y :: rx).Perm (y :: rx ++ ry) := List.perm_append_comm
          have h2 : (y :: rx ++ ry).Perm (rx ++ y :: ry) := by simpa using (List.perm_middle (l₁ := rx) (l₂ := ry) (a := y)).symm
          exact h1.trans h2
        refine hp.nodup_iff.2 (List.nodup_append.2 ⟨hndx, hndy, fun a ha b hb e => ?_⟩)
        subst e
        exact hne a ha hb) hlx hly hxl hyl (by
        intro z
        rw [← hmx z, ← hmy z]
        simp only [List.flatten_cons, List.flatten_nil, List.append_nil, List.cons_append, List.mem_cons, List.mem_append]
        constructor
        · rintro (h1 | h1 | h1 | h1)
          · exact .inl (.inl h1)
          · exact .inr (.inr h1)
          · exact .inr (.inl h1)
          · exact .inl (.inr h1)
        · rintro ((h1 | h1) | (h1 | h1))
          · exact .inl h1
          · exact .inr (.inr (.inr h1))
          · exact .inr (.inr (.inl h1))
          · exact .inr (.inl h1)) hN
      have hsp : spliceZ w x y = (withoutZ w x y ++ [x :: ry ++ y :: rx], true) := by
        simp only [spliceZ, hax, hay, hfi, e', Int.toNat_natCast]
        simp
      rw [hsp]
      exact ⟨rfl, hk⟩

theorem Rings.splice_no (h : Rings n N P w) {x y : Int} (hx : (x < 0 ∨ (n : Int) ≤ x) ∨ (y < 0 ∨ (n : Int) ≤ y)) : spliceZ w x y = (w, false) := by
  rcases hx with hx | hx
  · simp [spliceZ, h.out hx]
  · simp [spliceZ, h.out hx]

theorem last_snoc (l : List Nat) (y : Nat) (h : l ++ [y] ≠ []) : (l ++ [y]).getLast h = y := by simp

/-- What a thing follows is the last one of its ring. -/
theorem Rings.prev (h : Rings n N P w) {x : Nat} (hx : x < n) {r : List Nat} (hp : Path (fn N) x r x) (hb : ∀ z ∈ r, z < n) : fn P x = (x :: r).getLast (by simp) := by
  have h1 := hp.last
  have h2 : (x :: r).getLast (by simp) < n := by
    have := List.getLast_mem (l := x :: r) (by simp)
    simp only [List.mem_cons] at this
    rcases this with h3 | h3
    · omega
    · exact hb _ h3
  have h3 := (h.inv _ h2).2.2.1
  rw [h1] at h3
  exact h3

theorem Rings.part (h : Rings n N P w) {x : Nat} (hx : x < n) : (partZ w x).2 = true ∧ Rings n (nextS N x (fn P x)) (prevS N P x (fn P x)) (partZ w x).1 := by
  obtain ⟨lx, rx, hlx, hxl, hax, hpx, hndx, hmx, hbx⟩ := h.home hx
  have hpr := h.prev hx hpx hbx
  have hxr : x ∉ rx := (List.nodup_cons.1 hndx).1
  rcases List.eq_nil_or_concat rx with rfl | ⟨s, y, rfl⟩
  · have e : fn P x = x := by rw [hpr]; rfl
    rw [e, nextS_self, prevS_self h hx]
    simp [partZ, hax, h]
  · have e : fn P x = y := by
      rw [hpr]
      simp only [List.concat_eq_append]
      exact last_snoc (x :: s) y _
    rw [List.concat_eq_append] at *
    have hy : y < n := hbx y (by simp)
    have hxy : y ≠ x := fun e => hxr (by simp [e])
    obtain ⟨i1, i2, i3⟩ := h.invS hx hy
    have hN : ∀ v, v ≠ x → v ≠ y → fn (nextS N x y) v = fn N v := fun v h1 h2 => nextS_o h1 h2
    have hnx := nextS_x h.ln hx hy
    have hny := nextS_y (x := x) h.ln hy
    rw [path_append] at hpx
    have hys : y ∉ s := by
      have := (List.nodup_cons.1 hndx).2
      rw [List.nodup_append] at this
      exact fun h => this.2.2 y h y (by simp) rfl
    have hxs : x ∉ s := fun h => hxr (by simp [h])
    have hr1 : Ring (fn (nextS N x y)) [x] := ⟨x, [], rfl, hnx.trans hpx.2⟩
    have hr2' : Path (fn (nextS N x y)) y s y := hpx.1.turn hny fun v hv => hN v (fun e => hxs (e ▸ hv)) (fun e => hys (e ▸ hv))
    have hr2 : Ring (fn (nextS N x y)) (s ++ [y]) := by
      cases s with
      | nil => exact ⟨y, [], rfl, hr2'⟩
      | cons a s => exact ⟨a, s ++ [y], rfl, path_append.2 ⟨hr2'.2, hr2'.1⟩⟩
    have hmem : ∀ z, z ∈ ([[x], s ++ [y]] : List (List Nat)).flatten ↔ z ∈ lx := by
      intro z
      rw [← hmx z]
      simp
    have hk := h.build (x := x) (y := y) [[x], s ++ [y]] i1 i2 i3 (by
      intro l hl
      simp only [List.mem_cons, List.not_mem_nil, or_false] at hl
      rcases hl with rfl | rfl
      · exact hr1
      · exact hr2) (by simpa using hndx) hlx hlx hxl ((hmx y).1 (by simp)) (by intro z; rw [hmem, or_self]) hN
    have hw : withoutZ w x x = withoutZ w x y := by
      simp only [withoutZ]
      apply List.filter_congr
      intro l hl
      simp only [any_isI]
      by_cases e1 : x ∈ l
      · simp [e1]
      · have : y ∉ l := fun e2 => e1 ((uniq h.nd hlx hl ((hmx y).1 (by simp)) e2) ▸ hxl)
        simp [e1, this]
    have hsp : partZ w x = (withoutZ w x y ++ [[x], s ++ [y]], true) := by
      simp only [partZ, hax, hw, Int.toNat_natCast]
      simp
    rw [e, hsp]
    exact ⟨rfl, hk⟩

theorem Rings.part_no (h : Rings n N P w) {x : Int} (hx : x < 0 ∨ (n : Int) ≤ x) : partZ w x = (w, false) := by
  simp [partZ, h.out hx]

theorem Rings.new (n : Nat) : Rings n (List.range n) (List.range n) ((List.range n).map fun i => [i]) := by
  have hf : ∀ i, i < n → fn (List.range n) i = i := by
    intro i hi; simp [fn, List.getD, hi]
  have hfl : ((List.range n).map fun i => [i]).flatten = List.range n := by
    rw [← List.flatMap_def]; simp
  refine ⟨by simp, by simp, fun i hi => ⟨by rw [hf i hi]; exact hi, by rw [hf i hi]; exact hi, by rw [hf i hi, hf i hi], by rw [hf i hi, hf i hi]⟩, ?_, ?_, ?_⟩
  · intro l hl
    simp only [List.mem_map, List.mem_range] at hl
    obtain ⟨i, hi, rfl⟩ := hl
    exact ⟨i, [], rfl, hf i hi⟩
  · rw [hfl]; exact List.nodup_range
  · intro i; rw [hfl]; simp

/-- The same rings, whoever tells them. -/
theorem Rings.same (h : Rings n N P w) {P' : List Nat} {w' : List (List Nat)} (h' : Rings n N P' w') {x : Nat} (hx : x < n) : allZ w x = allZ w' x := by
  obtain ⟨_, r, _, _, h1, h2, h3, _⟩ := h.home hx
  obtain ⟨_, r', _, _, h1', h2', h3', _⟩ := h'.home hx
  rw [h1, h1', h2.one (List.nodup_cons.1 h3).1 h2' (List.nodup_cons.1 h3').1]

/-- Twice the same splice. -/
theorem nextS_twice (h : N.length = n) {x y : Nat} (hx : x < n) (hy : y < n) : nextS (nextS N x y) y x = N := by
  apply List.ext_getElem (by simp [nextS])
  intro j h1 h2
  have key : ∀ L : List Nat, ∀ hl : j < L.length, L[j] = fn L j := by intro L hl; simp [fn, List.getD, hl]
  rw [key _ h1, key _ h2]
  have hl : (nextS N x y).length = n := by simp [nextS, h]
  by_cases e1 : j = x
  · subst e1
    rw [nextS_y hl hx, nextS_y h hy]
  · by_cases e2 : j = y
    · subst e2
      rw [nextS_x hl hy hx, nextS_x h hx hy]
    · rw [nextS_o e2 e1, nextS_o e1 e2]
end

end Go.Proofs.Ytnpglgkpdikcjaa
