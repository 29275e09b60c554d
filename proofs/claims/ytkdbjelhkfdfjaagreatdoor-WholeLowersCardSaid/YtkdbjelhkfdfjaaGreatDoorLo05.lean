/-
  Contracts that the law rests on. Conditions: none.
-/
import Derived.Test.YtkdbjelhkfdfjaaGreatDoorLo02
import Derived.Test.YtkdbjelhkfdfjaaGreatDoorLo03
import Derived.Test.YtkdbjelhkfdfjaaGreatDoorLo04
set_option linter.unusedVariables false
set_option maxRecDepth 100000
set_option maxHeartbeats 32000000
namespace Go.Proofs.YtkdbjelhkfdfjaaGreatDoor
def Inj (v:Nat->Nat) (n:Nat):Prop:=∀i j,i<n->j<n->v i=v j->i=j
theorem Inj.sw {v:Nat->Nat} {n i j:Nat} (h:Inj v n) (hi:i<n) (hj:j<n):Inj (sw v i j) n:=by
 intro a b ha hb e
 obtain ⟨m,m1,m2,m3,m4⟩:=sw_idx v i j a
 obtain ⟨k,k1,k2,k3,k4⟩:=sw_idx v i j b
 have hm:m<n:=by
  by_cases e1:a=i
  .rw [m2 e1];exact hj
  .by_cases e2:a=j
   .rw [m3 e2 e1];exact hi
   .rw [m4 e1 e2];exact ha
 have hk:k<n:=by
  by_cases e1:b=i
  .rw [k2 e1];exact hj
  .by_cases e2:b=j
   .rw [k3 e2 e1];exact hi
   .rw [k4 e1 e2];exact hb
 rw [m1,k1] at e
 have hmk:=h m k hm hk e
 by_cases a1:a=i
 .have:=m2 a1
  by_cases b1:b=i
  .omega
  .have h1:=k3
   by_cases b2:b=j
   .have:=k3 b2 b1;omega
   .have:=k4 b1 b2;omega
 .by_cases a2:a=j
  .have:=m3 a2 a1
   by_cases b1:b=i
   .have:=k2 b1;omega
   .by_cases b2:b=j
    .omega
    .have:=k4 b1 b2;omega
  .have:=m4 a1 a2
   by_cases b1:b=i
   .have:=k2 b1;omega
   .by_cases b2:b=j
    .have:=k3 b2 b1;omega
    .have:=k4 b1 b2;omega
def posF (v:Nat->Nat) (n:Nat) (z:Int):Option Int:=if 0<=z then ((List.range n).find? fun j=>v j==z.toNat).map fun (j:Nat)=>(j:Int) else none
section
variable {v v':Nat->Nat} {n i p x:Nat} {z:Int} {o:Option Int}
theorem posF_iff (h:Inj v n) (k:Int):posF v n z=some k↔∃j:Nat,j<n∧z=(v j:Int)∧k=(j:Int):=by
 unfold posF
 by_cases c:0<=z
 .rw [if_pos c,Option.map_eq_some_iff]
  constructor
  .rintro ⟨j,hj,rfl⟩
   have h1:=List.find?_some hj
   have h2:=List.mem_of_find?_eq_some hj
   simp only [beq_iff_eq] at h1
   exact ⟨j,List.mem_range.1 h2,by omega,rfl⟩
  .rintro ⟨j,hj,rfl,rfl⟩
   refine ⟨j,?_,rfl⟩
   have h0:((List.range n).find? fun j'=>v j'==(v j:Int).toNat).isSome:=by
    rw [List.find?_isSome]
    exact ⟨j,List.mem_range.2 hj,by simp⟩
   obtain ⟨j',hj'⟩:=Option.isSome_iff_exists.1 h0
   have h1:=List.find?_some hj'
   have h2:=List.mem_range.1 (List.mem_of_find?_eq_some hj')
   simp only [beq_iff_eq,Int.toNat_natCast] at h1
   rw [hj',h j' j h2 hj h1]
 .rw [if_neg c]
  constructor
  .rintro ⟨⟩
  .rintro ⟨j,_,rfl,_⟩;omega
theorem posF_at (h:Inj v n) {j:Nat} (hj:j<n):posF v n (v j:Int)=some (j:Int):=(posF_iff h _).2 ⟨j,hj,rfl,rfl⟩
theorem posF_no (hn:∀j,j<n->v j≠x):posF v n (x:Int)=none:=by
 unfold posF
 rw [if_pos (by omega)]
 have:((List.range n).find? fun j=>v j==(x:Int).toNat)=none:=by
  rw [List.find?_eq_none]
  intro j hj
  simpa using hn j (List.mem_range.1 hj)
 rw [this];rfl
theorem opt_ext {α:Type} {a b:Option α} (h:∀k,a=some k↔b=some k):a=b:=by
 cases a with
 | none=>cases b with
  | none=>rfl
  | some y=>exact absurd ((h y).2 rfl) (by simp)
 | some x=>exact ((h x).1 rfl).symm
def holeF (v:Nat->Nat) (n i:Nat) (o:Option Int) (z:Int):Option Int:=if z=(v i:Int) then o else posF v n z
theorem hole_full (h:Inj v n) (hi:i<n):holeF v n i (some (i:Int))=posF v n:=by
 funext z
 unfold holeF
 by_cases e:z=(v i:Int)
 .rw [if_pos e,e,posF_at h hi]
 .rw [if_neg e]
theorem hole_close (h:Inj v n) (hi:i<n):(fun z=>if z=(v i:Int) then some (i:Int) else holeF v n i o z)=posF v n:=by
 funext z
 unfold holeF
 by_cases e:z=(v i:Int)
 .simp only [if_pos e];rw [e,posF_at h hi]
 .simp only [if_neg e]
theorem hole_move (h:Inj v n) (hi:i<n) (hp:p<n) (hne:i≠p):(fun z=>if z=(v p:Int) then some (i:Int) else holeF v n i o z)=holeF (sw v i p) n p o:=by
 have hv:v i≠v p:=fun e=>hne (h i p hi hp e)
 have hs:=h.sw hi hp
 funext z
 unfold holeF
 rw [sw_right]
 by_cases e1:z=(v p:Int)
 .rw [if_pos e1,if_neg (by omega),e1]
  have:=posF_at hs hi
  rw [sw_left] at this
  exact this.symm
 .rw [if_neg e1]
  by_cases e2:z=(v i:Int)
  .rw [if_pos e2,if_pos e2]
  .rw [if_neg e2,if_neg e2]
   refine opt_ext fun k=>?_
   rw [posF_iff h,posF_iff hs]
   constructor
   .rintro ⟨j,hj,e,rfl⟩
    refine ⟨j,hj,?_,rfl⟩
    rw [sw_other]
    .exact e
    .rintro rfl;exact e2 e
    .rintro rfl;exact e1 e
   .rintro ⟨j,hj,e,rfl⟩
    refine ⟨j,hj,?_,rfl⟩
    by_cases c1:j=i
    .subst c1;rw [sw_left] at e;exact absurd e e1
    .by_cases c2:j=p
     .subst c2;rw [sw_right] at e;exact absurd e e2
     .rw [sw_other _ _ _ _ c1 c2] at e;exact e
theorem hole_add (h:Inj v n) (hx:∀j,j<n->v j≠x):posF v n=holeF (fun k=>if k=n then x else v k) (n+1) n none∧Inj (fun k=>if k=n then x else v k) (n+1):=by
 have hi:Inj (fun k=>if k=n then x else v k) (n+1):=by
  intro a b ha hb e
  simp only at e
  by_cases ea:a=n
  .by_cases eb:b=n
   .omega
   .rw [if_pos ea,if_neg eb] at e;exact absurd e.symm (hx b (by omega))
  .by_cases eb:b=n
   .rw [if_neg ea,if_pos eb] at e;exact absurd e (hx a (by omega))
   .rw [if_neg ea,if_neg eb] at e;exact h a b (by omega) (by omega) e
 refine ⟨?_,hi⟩
 funext z
 unfold holeF
 simp only [if_true]
 by_cases e:z=(x:Int)
 .rw [if_pos e,e];exact posF_no hx
 .rw [if_neg e]
  refine opt_ext fun k=>?_
  rw [posF_iff h,posF_iff hi]
  constructor
  .rintro ⟨j,hj,e',rfl⟩
   exact ⟨j,by omega,by rw [if_neg (by omega)];exact e',rfl⟩
  .rintro ⟨j,hj,e',rfl⟩
   by_cases c:j=n
   .rw [if_pos c] at e';exact absurd e' e
   .rw [if_neg c] at e';exact ⟨j,by omega,e',rfl⟩
theorem hole_take (h:Inj v (n+1)) (hi:i<n):(fun z=>if z=(v i:Int) then none else posF v (n+1) z)=holeF (fun k=>if k=i then v n else v k) n i (some (n:Int))∧Inj (fun k=>if k=i then v n else v k) n:=by
 have hinj:Inj (fun k=>if k=i then v n else v k) n:=by
  intro a b ha hb e
  simp only at e
  by_cases ea:a=i
  .by_cases eb:b=i
   .omega
   .rw [if_pos ea,if_neg eb] at e;have:=h n b (by omega) (by omega) e;omega
  .by_cases eb:b=i
   .rw [if_neg ea,if_pos eb] at e;have:=h a n (by omega) (by omega) e;omega
   .rw [if_neg ea,if_neg eb] at e;exact h a b (by omega) (by omega) e
 refine ⟨?_,hinj⟩
 have hv:v i≠v n:=fun e=>by have:=h i n (by omega) (by omega) e;omega
 funext z
 unfold holeF
 simp only [if_true]
 by_cases e:z=(v n:Int)
 .rw [if_pos e,if_neg (by omega),e];exact posF_at h (by omega)
 .rw [if_neg e]
  refine opt_ext fun k=>?_
  rw [posF_iff hinj]
  by_cases e2:z=(v i:Int)
  .rw [if_pos e2]
   constructor
   .rintro ⟨⟩
   .rintro ⟨j,hj,e',rfl⟩
    by_cases c:j=i
    .rw [if_pos c] at e';exact absurd e' e
    .rw [if_neg c,e2] at e';have:=h i j (by omega) (by omega) (by omega);omega
  .rw [if_neg e2,posF_iff h]
   constructor
   .rintro ⟨j,hj,e',rfl⟩
    refine ⟨j,?_,?_,rfl⟩
    .rcases Nat.lt_or_ge j n with c|c
     .exact c
     .obtain rfl:j=n:=by omega
      exact absurd e' e
    .rw [if_neg (by rintro rfl;exact e2 e')];exact e'
   .rintro ⟨j,hj,e',rfl⟩
    by_cases c:j=i
    .rw [if_pos c] at e';exact absurd e' e
    .rw [if_neg c] at e';exact ⟨j,by omega,e',rfl⟩
theorem hole_last (h:Inj v (n+1)):(fun z=>if z=(v n:Int) then none else posF v (n+1) z)=posF v n:=by
 have hn:Inj v n:=fun a b ha hb e=>h a b (by omega) (by omega) e
 funext z
 refine opt_ext fun k=>?_
 rw [posF_iff hn]
 by_cases e:z=(v n:Int)
 .simp only [if_pos e]
  constructor
  .rintro ⟨⟩
  .rintro ⟨j,hj,e',rfl⟩
   have:=h n j (by omega) (by omega) (by omega);omega
 .simp only [if_neg e]
  rw [posF_iff h]
  constructor
  .rintro ⟨j,hj,e',rfl⟩
   refine ⟨j,?_,e',rfl⟩
   rcases Nat.lt_or_ge j n with c|c
   .exact c
   .obtain rfl:j=n:=by omega
    exact absurd e' e
  .rintro ⟨j,hj,e',rfl⟩
   exact ⟨j,by omega,e',rfl⟩
end
end Go.Proofs.YtkdbjelhkfdfjaaGreatDoor
namespace Go.Proofs.YtkdbjelhkfdfjaaGreatDoor
open Go.RowKit
def cellV (E:Ent) (i:Nat):List Value :=
 match E i with
 | some (h,k,q)=>[.int .i64 (h:Int),.int .i64 k,.int .u64 (q:Int)]
 | none=>[.int .i64 0,.int .i64 0,.int .u64 0]
structure EntOk (E:Ent) (cap hs:Nat):Prop where
 bc:cap<=65536
 bh:hs<=65536
 lt:∀x,(E x).isSome->x<cap
 heap:∀x h k,E x=some (h,k)->1<=h∧h<=hs
 wf:∀x h k q,E x=some (h,k,q)->(Lit.int .i64 k).wf=true∧(Lit.int .u64 (q:Int)).wf=true
def CellsAt (w:World) (F:List Nat) (p cap hs:Nat) (E:Ent):Prop :=
 ∃(steps:Int) (gs pn gn cn mb:Nat),F=[p,gs,pn,gn,mb]∧F.Nodup∧EntOk E cap hs∧0<=steps∧steps<=4611686018427387904 ∧
  w.heap[p]?=some (.cells #[.int .i64 steps,.slice (some ⟨gs,0,none⟩) cap cap,.pointer (some ⟨pn,0,none⟩),.map (some mb)] 258 (0,0)) ∧
  Arr w 448 3 cap gs (cellV E) ∧
  Nm.NamesAt w pn gn cn ((List.range (hs+1)).map fun (n:Nat)=>(n:Int)) 65536 hs ∧
  IMap Tryz.prog 3 w mb (full E cap hs) (manyF E cap)
def idL (hs:Nat):List Int:=(List.range (hs+1)).map fun (n:Nat)=>(n:Int)
theorem idL_len (hs:Nat):(idL hs).length=hs+1:=by simp [idL]
theorem idL_at (hs:Nat) {i:Nat} (h:i<=hs):(idL hs).getD i 0=i:=by
 have:i<hs+1:=by omega
 simp [idL,List.getD,this]
section
variable (w:World) (F:List Nat) (p cap hs:Nat) (E:Ent)
theorem cells_has (hc:CellsAt w F p cap hs E) (h:Int) :
  Calls Tryz.prog 301 #[.pointer (some ⟨p,0,none⟩),.int .i64 h] w fun e w'=>e=.returned (.bool (decide (1<=h∧h<=hs)))∧w=w':=by
 obtain ⟨steps,gs,pn,gn,cn,mb,rfl,hnd,hok,hs0,hs1,hb,ha,hn,hm⟩:=hc
 have c2:w.cell? ⟨p,2,none⟩=some (.pointer (some ⟨pn,0,none⟩)):=by rw [cell_of_blk hb];rfl
 have hl:=idL_len hs
 by_cases hy:1<=h∧h<=hs
 .obtain ⟨i,rfl⟩:∃i:Nat,h=i:=⟨h.toNat,by omega⟩
  rw [decide_eq_true hy]
  go_enter Tryz.func301,Tryz.ntmps301
  go_wp2_with (go_at_call 314;refine (Nm.has_yes w pn gn cn _ _ _ i hn (by omega) (by change i<(idL hs).length;omega) (idL_at hs (by omega))).mono ?_;rintro e w' ⟨rfl,rfl⟩)
  go_ret
  exact ⟨rfl,rfl⟩
 .rw [decide_eq_false hy]
  go_enter Tryz.func301,Tryz.ntmps301
  go_wp2_with (go_at_call 314;refine (Nm.has_no w pn gn cn _ _ _ h hn (by change ¬(0<h∧h<((idL hs).length:Int)∧_);omega)).mono ?_;rintro e w' ⟨rfl,rfl⟩)
  go_ret
  exact ⟨rfl,rfl⟩
theorem cells_there (hc:CellsAt w F p cap hs E) (x:Nat) (hx:x<cap) :
  Calls Tryz.prog 326 #[.pointer (some ⟨p,0,none⟩),.int .i64 x] w fun e w'=>e=.returned (.bool true)∧w=w':=by
 obtain ⟨steps,gs,pn,gn,cn,mb,rfl,hnd,hok,hs0,hs1,hb,ha,hn,hm⟩:=hc
 have c1:w.cell? ⟨p,1,none⟩=some (.slice (some ⟨gs,0,none⟩) cap cap):=by rw [cell_of_blk hb];rfl
 have hx0:decide ((0:Int)<=(x:Int))=true:=by rw [decide_eq_true_iff];omega
 clear hb ha hn hm hok hnd
 go_enter Tryz.func326,Tryz.ntmps326
 go_wp2
 go_ret
 exact ⟨rfl,rfl⟩
theorem cellV_at {E:Ent} {x h q:Nat} {k:Int} (e:E x=some (h,k,q)):cellV E x=[.int .i64 (h:Int),.int .i64 k,.int .u64 (q:Int)]:=by simp [cellV,e]
theorem cellV_none {E:Ent} {x:Nat} (e:E x=none):cellV E x=[.int .i64 0,.int .i64 0,.int .u64 0]:=by simp [cellV,e]
theorem cells_in (hc:CellsAt w F p cap hs E) (x:Nat) (hx:x<cap) :
  Calls Tryz.prog 313 #[.pointer (some ⟨p,0,none⟩),.int .i64 x] w fun e w'=>e=.returned (.bool (E x).isSome)∧w=w':=by
 have hc0:=hc
 obtain ⟨steps,gs,pn,gn,cn,mb,rfl,hnd,hok,hs0,hs1,hb,ha,hn,hm⟩:=hc
 have c1:w.cell? ⟨p,1,none⟩=some (.slice (some ⟨gs,0,none⟩) cap cap):=by rw [cell_of_blk hb];rfl
 have d0:=ha.cell hx (j:=0) (by omega)
 cases e:E x with
 | none =>
  rw [cellV_none e] at d0
  simp only [List.getElem?_cons_zero,Nat.add_zero] at d0
  clear hb ha hn hm hok hnd
  go_enter Tryz.func313,Tryz.ntmps313
  go_wp2_with (go_at_call 326;refine (cells_there w _ p cap hs E hc0 x hx).mono ?_;rintro e w' ⟨rfl,rfl⟩)
  go_ret
  exact ⟨rfl,rfl⟩
 | some r =>
  obtain ⟨h,k,q⟩:=r
  have hh:=(hok.heap x h _ e).1
  have hh0:0<h:=by omega
  rw [cellV_at e] at d0
  simp only [List.getElem?_cons_zero,Nat.add_zero] at d0
  clear hb ha hn hm hok hnd hh
  go_enter Tryz.func313,Tryz.ntmps313
  go_wp2_with (go_at_call 326;refine (cells_there w _ p cap hs E hc0 x hx).mono ?_;rintro e w' ⟨rfl,rfl⟩)
  go_ret
  exact ⟨by simp,rfl⟩
end
theorem Arr.set3 {w:World} {T n g i:Nat} {F:Nat->List Value} (h:Arr w T 3 n g F) (hi:i<n) (a b c:Value) :
  Arr (((w.setCell ⟨g,i*3,none⟩ a).setCell ⟨g,i*3+1,none⟩ b).setCell ⟨g,i*3+2,none⟩ c) T 3 n g (upd F i [a,b,c]):=by
 have h1:=((h.set hi (j:=0) (by omega) a).set hi (j:=1) (by omega) b).set hi (j:=2) (by omega) c
 refine h1.congr fun k _=>?_
 by_cases e:k=i
 .subst e
  simp only [upd_same]
  have hl:=h.size k hi
  match hF:F k,hl with
  | [x,y,z],_=>rfl
 .simp only [upd_other _ _ e]
theorem cellV_put (E:Ent) (x h q:Nat) (k:Int):cellV (put E x (some (h,k,q)))=upd (cellV E) x [.int .i64 (h:Int),.int .i64 k,.int .u64 (q:Int)]:=by
 funext i
 by_cases e:i=x
 .subst e;rw [upd_same];exact cellV_at (put_same _ _ _)
 .rw [upd_other _ _ e];simp only [cellV,put_other E x _ e]
theorem cellV_drop (E:Ent) (x:Nat):cellV (put E x none)=upd (cellV E) x [.int .i64 0,.int .i64 0,.int .u64 0]:=by
 funext i
 by_cases e:i=x
 .subst e;rw [upd_same];exact cellV_none (put_same _ _ _)
 .rw [upd_other _ _ e];simp only [cellV,put_other E x _ e]
theorem EntOk.put {E:Ent} {cap hs x h q:Nat} {k:Int} (ok:EntOk E cap hs) (hx:x<cap) (h1:1<=h) (h2:h<=hs) (hk:(Lit.int .i64 k).wf=true) (hq:(Lit.int .u64 (q:Int)).wf=true):EntOk (put E x (some (h,k,q))) cap hs:=by
 refine ⟨ok.bc,ok.bh,fun y hy=>?_,fun y g l e=>?_,fun y g l r e=>?_⟩
 .by_cases c:y=x
  .rw [c];exact hx
  .rw [put_other E x _ c] at hy;exact ok.lt y hy
 .by_cases c:y=x
  .subst c;rw [put_same] at e;cases e;exact ⟨h1,h2⟩
  .rw [put_other E x _ c] at e;exact ok.heap y g l e
 .by_cases c:y=x
  .subst c;rw [put_same] at e;cases e;exact ⟨hk,hq⟩
  .rw [put_other E x _ c] at e;exact ok.wf y g l r e
theorem EntOk.drop {E:Ent} {cap hs x:Nat} (ok:EntOk E cap hs):EntOk (Go.Proofs.YtkdbjelhkfdfjaaGreatDoor.put E x none) cap hs:=by
 refine ⟨ok.bc,ok.bh,fun y hy=>?_,fun y g l e=>?_,fun y g l r e=>?_⟩
 .by_cases c:y=x
  .subst c;rw [put_same] at hy;cases hy
  .rw [put_other E x _ c] at hy;exact ok.lt y hy
 .by_cases c:y=x
  .subst c;rw [put_same] at e;cases e
  .rw [put_other E x _ c] at e;exact ok.heap y g l e
 .by_cases c:y=x
  .subst c;rw [put_same] at e;cases e
  .rw [put_other E x _ c] at e;exact ok.wf y g l r e
theorem Nm.NamesAt.keep {S:List Nat} {w w':World} {p g c:Nat} {L:List Int} {m n:Int} (h:Nm.NamesAt w p g c L m n) (k:Keeps S w w') (h1:p∉S) (h2:g∉S):Nm.NamesAt w' p g c L m n :=
 ⟨k.blk h.blk h1,k.row h.row h2,h.ne⟩
section
variable {w w':World} {F:List Nat} {p cap hs:Nat} {E:Ent}
theorem CellsAt.keep {S:List Nat} (hc:CellsAt w F p cap hs E) (k:Keeps S w w') (hS:∀b∈F,b∉S):CellsAt w' F p cap hs E:=by
 obtain ⟨steps,gs,pn,gn,cn,mb,rfl,hnd,hok,hs0,hs1,hb,ha,hn,hm⟩:=hc
 simp only [List.mem_cons,List.not_mem_nil,or_false,forall_eq_or_imp,forall_eq] at hS
 obtain ⟨s1,s2,s3,s4,s5⟩:=hS
 exact ⟨steps,gs,pn,gn,cn,mb,rfl,hnd,hok,hs0,hs1,k.blk hb s1,ha.keep k s2,hn.keep k s3 s4,hm.keep k s5⟩
theorem CellsAt.below (hc:CellsAt w F p cap hs E) (k:Below w.heap.size w w'):CellsAt w' F p cap hs E:=hc.keep (Below.keeps k (Nat.le_refl _) []) (by simp)
theorem CellsAt.lt (hc:CellsAt w F p cap hs E):∀b∈F,b<w.heap.size:=by
 obtain ⟨steps,gs,pn,gn,cn,mb,rfl,hnd,hok,hs0,hs1,hb,ha,hn,hm⟩:=hc
 simp only [List.mem_cons,List.not_mem_nil,or_false,forall_eq_or_imp,forall_eq]
 exact ⟨lt_of_block hb,ha.lt,lt_of_block hn.blk,row_lt hn.row,hm.lt⟩
theorem CellsAt.nodup (hc:CellsAt w F p cap hs E):F.Nodup:=by obtain ⟨steps,gs,pn,gn,cn,mb,rfl,hnd,r⟩:=hc;exact hnd
theorem CellsAt.ok (hc:CellsAt w F p cap hs E):EntOk E cap hs:=by obtain ⟨steps,gs,pn,gn,cn,mb,rfl,hnd,hok,r⟩:=hc;exact hok
theorem CellsAt.mem (hc:CellsAt w F p cap hs E):p∈F:=by obtain ⟨steps,gs,pn,gn,cn,mb,rfl,r⟩:=hc;simp
end
theorem mapTy:MapTy Tryz.prog 233 3:=⟨Tryz.underlying233,Tryz.underlying3,fun w=>by kernel_rfl⟩
section
variable (w:World) (F:List Nat) (p cap hs:Nat) (E:Ent)
theorem cells_len (hc:CellsAt w F p cap hs E) (h:Nat) (hh:h<=65536) :
  Calls Tryz.prog 304 #[.pointer (some ⟨p,0,none⟩),.int .i64 h] w fun e w'=>e=.returned (.int .i64 (count E cap h:Nat))∧w=w':=by
 obtain ⟨steps,gs,pn,gn,cn,mb,rfl,hnd,hok,hs0,hs1,hb,ha,hn,hm⟩:=hc
 have c3:w.cell? ⟨p,3,none⟩=some (.map (some mb)):=by rw [cell_of_blk hb];rfl
 have hv:=Lib.hid (manyF_getD E cap h)
 have HM:=Lib.hid hm
 clear hb ha hn hok hnd hm hs0 hs1
 go_enter Tryz.func304,Tryz.ntmps304
 go_wp2_with (at_lookup;refine wpList_imap_look rfl _ _ rfl mapTy mb _ _ rfl HM.out (h:Int) rfl (WalkArith.wf_i64 (by omega)) ?_)
 go_ret
 exact ⟨by rw [hv.out];rfl,rfl⟩
end
structure RowRaw (w:World) (p d:Nat) (ao:Option Addr) (cap mb:Nat) (Lm:List Nat) (c:Nat) (f:Int->Option Int):Prop where
 blk:w.heap[p]?=some (.cells #[.int .i64 (d:Int),.slice ao Lm.length cap,.map (some mb)] 260 (0,0))
 row:Rg.IR 0 w (.slice ao Lm.length cap) Lm
 map:IMap Tryz.prog 3 w mb c f
 ne:p≠mb
 na:∀x,ao=some x->x.block≠p∧x.block≠mb
def rfp (p mb:Nat) (ao:Option Addr):List Nat:=p::mb::ao.toList.map (·.block)
section
variable {w w':World} {p d cap mb c:Nat} {ao:Option Addr} {Lm S:List Nat} {f:Int->Option Int}
theorem ir_keep {w w':World} {S:List Nat} {ao:Option Addr} {n cap:Nat} {L:List Nat} (h:Rg.IR 0 w (.slice ao n cap) L) (k:Keeps S w w') (hs:∀x,ao=some x->x.block∉S):Rg.IR 0 w' (.slice ao n cap) L:=by
 refine ⟨h.1,?_⟩
 rcases h.2 with h0|⟨g,cap',cur,e,hb,hg,r⟩
 .exact .inl h0
 .cases e
  exact .inr ⟨g,cap,cur,rfl,hb,k.blk hg (hs _ rfl),r⟩
theorem RowRaw.keep (h:RowRaw w p d ao cap mb Lm c f) (k:Keeps S w w') (hS:∀b∈rfp p mb ao,b∉S):RowRaw w' p d ao cap mb Lm c f :=
 ⟨k.blk h.blk (hS p (by simp [rfp])),ir_keep h.row k (fun x e=>hS _ (by simp [rfp,e])),h.map.keep k (hS mb (by simp [rfp])),h.ne,h.na⟩
theorem RowRaw.lt (h:RowRaw w p d ao cap mb Lm c f):∀b∈rfp p mb ao,b<w.heap.size:=by
 intro b hb
 simp only [rfp,List.mem_cons,List.mem_map,Option.mem_toList] at hb
 rcases hb with rfl|rfl|⟨x,e,rfl⟩
 .exact lt_of_block h.blk
 .exact h.map.lt
 .rcases h.row.2 with ⟨h0,_⟩|⟨g,cap',cur,e',hb,hg,r⟩
  .simp only [Value.slice.injEq] at h0
   rw [h0.1] at e;cases e
  .cases e';cases e;exact lt_of_block hg
theorem RowRaw.c0 (h:RowRaw w p d ao cap mb Lm c f):w.cell? ⟨p,0,none⟩=some (.int .i64 (d:Int)):=by rw [cell_of_blk h.blk];rfl
theorem RowRaw.c1 (h:RowRaw w p d ao cap mb Lm c f):w.cell? ⟨p,1,none⟩=some (.slice ao Lm.length cap):=by rw [cell_of_blk h.blk];rfl
theorem RowRaw.c2 (h:RowRaw w p d ao cap mb Lm c f):w.cell? ⟨p,2,none⟩=some (.map (some mb)):=by rw [cell_of_blk h.blk];rfl
theorem RowRaw.at (h:RowRaw w p d ao cap mb Lm c f) {i:Nat} (hi:i<Lm.length):∃g,ao=some ⟨g,0,none⟩∧g≠p∧g≠mb∧g<w.heap.size∧w.cell? ⟨g,i,none⟩=some (.int .i64 (Rg.fn Lm i:Nat))∧w.frozen? ⟨g,i,none⟩=false:=by
 obtain ⟨g,e,hlt,_,hc⟩:=h.row.at i hi
 subst e
 obtain ⟨n1,n2⟩:=h.na _ rfl
 refine ⟨g,rfl,n1,n2,hlt,hc,?_⟩
 rcases h.row.2 with ⟨h0,_⟩|⟨g',cap',cur,e',hb,hg,r⟩
 .cases h0
 .cases e';exact frozen_of_blk hg
end
section
variable (w:World) (p d:Nat) (ao:Option Addr) (cap mb:Nat) (Lm:List Nat) (c:Nat) (f:Int->Option Int)
def RowSet (i x:Nat) (e:Ending) (w':World):Prop :=
 e=.returned (.tuple #[])∧RowRaw w' p d ao cap mb (Lm.set i x) (if (f (x:Int)).isSome then c else c+1) (fun z=>if z=(x:Int) then some (i:Int) else f z)∧Keeps (rfp p mb ao) w w'
theorem rw_set (h:RowRaw w p d ao cap mb Lm c f) (i x:Nat) (hi:i<Lm.length) (hl:Lm.length<=65536) (hx:x<=65536) (hc:c<maxLen) :
  Calls Tryz.prog 332 #[.pointer (some ⟨p,0,none⟩),.int .i64 i,.int .i64 x] w (RowSet w p d ao cap mb Lm c f i x):=by
 have c1:=h.c1
 have c2:=h.c2
 obtain ⟨g,rfl,n1,n2,hgl,d0,f0⟩:=h.at hi
 have k1:Keeps [g] w (w.setCell ⟨g,i,none⟩ (.int .i64 (x:Int))):=(Keeps.refl _ _).setCell (.inl (by simp)) _
 have hm:IMap Tryz.prog 3 (w.setCell ⟨g,i,none⟩ (.int .i64 (x:Int))) mb c f:=h.map.keep k1 (by simpa using n2.symm)
 have hpost:∀w',IMap Tryz.prog 3 w' mb (if (f (x:Int)).isSome then c else c+1) (fun z=>if z=(x:Int) then some (i:Int) else f z)->(w.setCell ⟨g,i,none⟩ (.int .i64 (x:Int))).grownBy w' (some mb) ->
   RowRaw w' p d (some ⟨g,0,none⟩) cap mb (Lm.set i x) (if (f (x:Int)).isSome then c else c+1) (fun z=>if z=(x:Int) then some (i:Int) else f z)∧Keeps (rfp p mb (some ⟨g,0,none⟩)) w w':=by
  intro w' hm' hg
  have k2:Keeps [mb] (w.setCell ⟨g,i,none⟩ (.int .i64 (x:Int))) w':=(Keeps.refl _ _).grown hg (by simp)
  have k3:Keeps [g,mb] w w':=(k1.mono (T:=[g,mb]) (by simp)).trans k2 (by simp)
  refine ⟨⟨?_,?_,hm',h.ne,h.na⟩,k3.mono (by simp [rfp])⟩
  .rw [List.length_set];exact k3.blk h.blk (by simp;exact ⟨fun e=>n1 e.symm,h.ne⟩)
  .rw [List.length_set]
   have r1:=Rg.row_set h.row i hi (.int .i64 (x:Int))
   have r2:Rg.IR 0 (w.setCell ⟨g,i,none⟩ (.int .i64 (x:Int))) (.slice (some ⟨g,0,none⟩) Lm.length cap) (Lm.set i x):=by
    unfold Rg.IR
    rw [List.length_set,Rg.nCells_set]
    exact r1
   exact ir_keep r2 k2 (by rintro y e;cases e;simpa using n2)
 have hi3:(i:Int)<(Lm.length:Int):=by omega
 have HM:=Lib.hid hm
 have HP:=Lib.hid hpost
 have HC:=Lib.hid hc
 clear h hm hpost k1 hc
 go_enter Tryz.func332,Tryz.ntmps332
 go_wp2_with (first
  | (at_mapUpdate;refine wpList_imap_put rfl _ _ _ rfl mapTy mb _ _ rfl HM.out HC.out (x:Int) (i:Int) rfl rfl (WalkArith.wf_i64 (by omega)) (WalkArith.wf_i64 (by omega)) ?_;intro w4 hm4 hg4))
 go_end0
 obtain ⟨r1,r2⟩:=HP.out _ hm4 hg4
 exact ⟨rfl,r1,r2⟩
theorem rw_at (h:RowRaw w p d ao cap mb Lm c f) (h0:0<Lm.length) :
  Calls Tryz.prog 322 #[.pointer (some ⟨p,0,none⟩),.int .i64 0] w fun e w'=>e=.returned (.tuple #[.int .i64 (Rg.fn Lm 0:Nat),.bool true])∧w=w':=by
 have c1:=h.c1
 obtain ⟨g,rfl,n1,n2,hgl,d0,f0⟩:=h.at h0
 clear h
 generalize Lm.length=n at *
 go_enter Tryz.func322,Tryz.ntmps322
 go_wp2
 go_ret2
 exact ⟨rfl,rfl⟩
theorem rw_at_no (h:RowRaw w p d ao cap mb Lm c f) (h0:Lm.length=0) :
  Calls Tryz.prog 322 #[.pointer (some ⟨p,0,none⟩),.int .i64 0] w fun e w'=>e=.returned (.tuple #[.int .i64 0,.bool false])∧w=w':=by
 have c1:=h.c1
 rw [h0] at c1
 clear h
 go_enter Tryz.func322,Tryz.ntmps322
 go_wp2
 go_ret2
 exact ⟨rfl,rfl⟩
end
theorem fine_yes (w:World) (d:Nat) (h1:2<=d) (h2:d<=16):Calls Tryz.prog 118 #[.int .i64 d] w fun e w'=>e=.returned (.bool true)∧w=w':=by
 have b1:(2:Int)<=(d:Int):=by omega
 have b2:decide ((d:Int)<=16)=true:=by rw [decide_eq_true_iff];omega
 go_enter Tryz.func118,Tryz.ntmps118
 go_wp2
 go_ret
 exact ⟨rfl,rfl⟩
theorem par_int (d i:Nat) (hi:1<=i):((par d i:Nat):Int)=((i:Int) - 1) / (d:Int):=by
 unfold par
 have:((i - 1:Nat):Int)=(i:Int) - 1:=by omega
 rw [Int.natCast_ediv,this]
theorem parent_yes (w:World) (d i:Nat) (h1:2<=d) (h2:d<=16) (hi:1<=i) (hl:i<=65536):Calls Tryz.prog 331 #[.int .i64 d,.int .i64 i] w fun e w'=>e=.returned (.tuple #[.int .i64 (par d i:Nat),.bool true])∧w=w':=by
 have hp:=Lib.hid (par_int d i hi)
 have b1:(1:Int)<=(i:Int):=by omega
 have b2:decide ((i:Int)<1)=false:=by rw [decide_eq_false_iff_not];omega
 have b3:¬(d:Int)=0:=by omega
 have b4:(0:Int)<=(i:Int) - 1:=by omega
 have b5:(0:Int)<(d:Int):=by omega
 go_enter Tryz.func331,Tryz.ntmps331
 go_wp2_with (go_at_call 118;refine (fine_yes _ d h1 h2).mono ?_;rintro e w' ⟨rfl,rfl⟩)
 go_ret2
 exact ⟨by rw [hp.out];rfl,rfl⟩
theorem parent_no (w:World) (d:Nat) (h1:2<=d) (h2:d<=16):Calls Tryz.prog 331 #[.int .i64 d,.int .i64 0] w fun e w'=>e=.returned (.tuple #[.int .i64 0,.bool false])∧w=w':=by
 go_enter Tryz.func331,Tryz.ntmps331
 go_wp2_with (go_at_call 118;refine (fine_yes _ d h1 h2).mono ?_;rintro e w' ⟨rfl,rfl⟩)
 go_ret2
 exact ⟨rfl,rfl⟩
theorem child_calls (w:World) (d i k:Nat) (h1:2<=d) (h2:d<=16) (hi:i<=65536) (hk:1<=k) (hk2:k<=d):Calls Tryz.prog 337 #[.int .i64 d,.int .i64 i,.int .i64 k] w fun e w'=>e=.returned (.tuple #[.int .i64 (d*i+k:Nat),.bool true])∧w=w':=by
 have hmul:d*i<=1048576:=by
  have:d*i<=16*65536:=Nat.mul_le_mul h2 hi
  omega
 have e1:((d*i+k:Nat):Int)=(d:Int)*(i:Int)+(k:Int):=by push_cast;rfl
 have e0:((d*i:Nat):Int)=(d:Int)*(i:Int):=by push_cast;rfl
 have e2:(0:Int)<=(d:Int)*(i:Int):=by omega
 have e3:(d:Int)*(i:Int)<=1048576:=by omega
 have b2:decide ((i:Int)<0)=false:=by rw [decide_eq_false_iff_not];omega
 have b3:decide (1099511627776<(i:Int))=false:=by rw [decide_eq_false_iff_not];omega
 have b4:decide ((k:Int)<1)=false:=by rw [decide_eq_false_iff_not];omega
 have b5:decide ((d:Int)<(k:Int))=false:=by rw [decide_eq_false_iff_not];omega
 have b6:decide (d<k)=false:=by rw [decide_eq_false_iff_not];omega
 have E1:=Lib.hid e1
 clear e1 hmul e0
 go_enter Tryz.func337,Tryz.ntmps337
 go_wp2_with (go_at_call 118;refine (fine_yes _ d h1 h2).mono ?_;rintro e w' ⟨rfl,rfl⟩)
 go_ret2
 exact ⟨by rw [E1.out];rfl,rfl⟩
structure OrdAt (w:World) (pn pc:Nat) (Fc:List Nat) (cap hs:Nat) (E:Ent):Prop where
 c0:w.cell? ⟨pn,0,none⟩=some (.pointer (some ⟨pc,0,none⟩))
 lt:pn<w.heap.size
 nf:pn∉Fc
 ce:CellsAt w Fc pc cap hs E
section
variable {w w':World} {pn pc cap hs:Nat} {Fc S:List Nat} {E:Ent}
theorem OrdAt.keep (h:OrdAt w pn pc Fc cap hs E) (k:Keeps S w w') (hS:∀b∈pn::Fc,b∉S):OrdAt w' pn pc Fc cap hs E :=
 ⟨(World.cell?_of_block (a:=⟨pn,0,none⟩) (k.block pn h.lt (hS pn (by simp)))).trans h.c0,Nat.lt_of_lt_of_le h.lt k.size,h.nf,h.ce.keep k fun b hb=>hS b (by simp [hb])⟩
theorem OrdAt.cells (h:OrdAt w pn pc Fc cap hs E) (c:CellsAt w' Fc pc cap hs E) (k:Keeps Fc w w'):OrdAt w' pn pc Fc cap hs E :=
 ⟨(World.cell?_of_block (a:=⟨pn,0,none⟩) (k.block pn h.lt h.nf)).trans h.c0,Nat.lt_of_lt_of_le h.lt k.size,h.nf,c⟩
end
def RowHole (w:World) (p d:Nat) (ao:Option Addr) (cap mb n:Nat) (v:Nat->Nat) (i:Nat) (o:Option Int):Prop :=
 ∃(Lm:List Nat) (c:Nat),RowRaw w p d ao cap mb Lm c (holeF v n i o)∧Lm.length=n∧(∀j,j<n->j≠i->Rg.fn Lm j=v j)∧c+1=n+(if o.isSome then 1 else 0)
def RowFull (w:World) (p d:Nat) (ao:Option Addr) (cap mb n:Nat) (v:Nat->Nat):Prop :=
 ∃Lm:List Nat,RowRaw w p d ao cap mb Lm n (posF v n)∧Lm.length=n∧∀j,j<n->Rg.fn Lm j=v j
theorem fn_set_same {L:List Nat} {i x:Nat} (h:i<L.length):Rg.fn (L.set i x) i=x:=by simp [Rg.fn,List.getD,h]
theorem fn_set_other {L:List Nat} {i j x:Nat} (h:j≠i):Rg.fn (L.set i x) j=Rg.fn L j:=by
 simp [Rg.fn,List.getD,show i≠j from fun e=>h e.symm]
section
variable {w w':World} {p d cap mb n i q:Nat} {ao:Option Addr} {v:Nat->Nat} {o:Option Int} {S:List Nat}
theorem RowHole.keep (h:RowHole w p d ao cap mb n v i o) (k:Keeps S w w') (hS:∀b∈rfp p mb ao,b∉S):RowHole w' p d ao cap mb n v i o:=by
 obtain ⟨Lm,c,r,x⟩:=h
 exact ⟨Lm,c,r.keep k hS,x⟩
theorem RowFull.keep (h:RowFull w p d ao cap mb n v) (k:Keeps S w w') (hS:∀b∈rfp p mb ao,b∉S):RowFull w' p d ao cap mb n v:=by
 obtain ⟨Lm,r,x⟩:=h
 exact ⟨Lm,r.keep k hS,x⟩
theorem RowHole.lt (h:RowHole w p d ao cap mb n v i o):∀b∈rfp p mb ao,b<w.heap.size:=by obtain ⟨Lm,c,r,x⟩:=h;exact r.lt
theorem RowFull.lt (h:RowFull w p d ao cap mb n v):∀b∈rfp p mb ao,b<w.heap.size:=by obtain ⟨Lm,r,x⟩:=h;exact r.lt
theorem RowFull.hole (h:RowFull w p d ao cap mb n v) (hv:Inj v n) (hi:i<n):RowHole w p d ao cap mb n v i (some (i:Int)):=by
 obtain ⟨Lm,r,h1,h2⟩:=h
 refine ⟨Lm,n,?_,h1,fun j hj _=>h2 j hj,by simp⟩
 rw [hole_full hv hi];exact r
theorem rh_close (h:RowHole w p d ao cap mb n v i o) (hv:Inj v n) (hi:i<n) (hn:n<=65536) (hx:v i<=65536) :
  Calls Tryz.prog 332 #[.pointer (some ⟨p,0,none⟩),.int .i64 i,.int .i64 (v i:Nat)] w fun e w'=>e=.returned (.tuple #[])∧RowFull w' p d ao cap mb n v∧Keeps (rfp p mb ao) w w':=by
 obtain ⟨Lm,c,r,h1,h2,h3⟩:=h
 refine (rw_set w p d ao cap mb Lm c _ r i (v i) (by omega) (by omega) hx (by unfold maxLen;split at h3<;>omega)).mono ?_
 rintro e w' ⟨rfl,r',k⟩
 refine ⟨rfl,⟨Lm.set i (v i),?_,by rw [List.length_set];exact h1,fun j hj=>?_⟩,k⟩
 .rw [hole_close hv hi] at r'
  have:(if (holeF v n i o (v i:Int)).isSome then c else c+1)=n:=by
   simp only [holeF,if_true]
   split<;>simp_all<;>omega
  rw [this] at r'
  exact r'
 .by_cases e:j=i
  .subst e;exact fn_set_same (by omega)
  .rw [fn_set_other e];exact h2 j hj e
theorem rh_move (h:RowHole w p d ao cap mb n v i o) (hv:Inj v n) (hi:i<n) (hq:q<n) (hne:i≠q) (hn:n<=65536) (hx:v q<=65536) :
  Calls Tryz.prog 332 #[.pointer (some ⟨p,0,none⟩),.int .i64 i,.int .i64 (v q:Nat)] w fun e w'=>e=.returned (.tuple #[])∧RowHole w' p d ao cap mb n (sw v i q) q o∧Keeps (rfp p mb ao) w w':=by
 obtain ⟨Lm,c,r,h1,h2,h3⟩:=h
 refine (rw_set w p d ao cap mb Lm c _ r i (v q) (by omega) (by omega) hx (by unfold maxLen;split at h3<;>omega)).mono ?_
 rintro e w' ⟨rfl,r',k⟩
 refine ⟨rfl,⟨Lm.set i (v q),c,?_,by rw [List.length_set];exact h1,fun j hj hjq=>?_,h3⟩,k⟩
 .rw [hole_move hv hi hq hne] at r'
  have:(if (holeF v n i o (v q:Int)).isSome then c else c+1)=c:=by
   have hvq:¬((v q:Nat):Int)=(v i:Int):=fun e=>hne (hv i q hi hq (by omega))
   simp only [holeF,if_neg hvq,posF_at hv hq]
   simp
  rw [this] at r'
  exact r'
 .by_cases e:j=i
  .subst e;rw [sw_left];exact fn_set_same (by omega)
  .rw [fn_set_other e,sw_other _ _ _ _ e hjq];exact h2 j hj e
theorem RowHole.at (h:RowHole w p d ao cap mb n v i o) (hq:q<n) (hne:q≠i):∃g,ao=some ⟨g,0,none⟩∧g∈rfp p mb ao∧w.cell? ⟨p,1,none⟩=some (.slice (some ⟨g,0,none⟩) n cap)∧w.cell? ⟨g,q,none⟩=some (.int .i64 (v q:Nat)):=by
 obtain ⟨Lm,c,r,h1,h2,h3⟩:=h
 obtain ⟨g,e,n1,n2,hlt,hc,hf⟩:=r.at (i:=q) (by omega)
 have c1:=r.c1
 subst e
 rw [h1] at c1
 rw [h2 q hq hne] at hc
 exact ⟨g,rfl,by simp [rfp],c1,hc⟩
theorem RowHole.c0 (h:RowHole w p d ao cap mb n v i o):w.cell? ⟨p,0,none⟩=some (.int .i64 (d:Int)):=by
 obtain ⟨Lm,c,r,h1,h2,h3⟩:=h
 exact r.c0
theorem RowHole.c1 (h:RowHole w p d ao cap mb n v i o):w.cell? ⟨p,1,none⟩=some (.slice ao n cap):=by
 obtain ⟨Lm,c,r,h1,h2,h3⟩:=h
 have:=r.c1
 rwa [h1] at this
end
def Win (B:Nat) (w:World) (v:Value) (L:List Nat):Prop :=
 (v=.slice none 0 0∧L=[])∨∃(g off cap:Nat) (cur:Array Value),v=.slice (some ⟨g,off,none⟩) L.length cap∧B<=g∧w.heap[g]?=some (.cells cur 3 (0,0))∧L.length<=cap∧off+cap<=cur.size∧∀j x,L[j]?=some x->cur[off+j]?=some (.int .i64 (x:Nat))
section
variable {w w':World} {B:Nat} {v:Value} {L S:List Nat} {x:Nat}
theorem Win.form (h:Win B w v L):∃ao cap,v=.slice ao L.length cap∧L.length<=cap:=by
 rcases h with ⟨rfl,rfl⟩|⟨g,off,cap,cur,rfl,_,_,c,_⟩
 .exact ⟨none,0,rfl,by simp⟩
 .exact ⟨_,_,rfl,c⟩
theorem Win.block (h:Win B w v L):∀b,v.ownBlock=some b->B<=b∧b<w.heap.size:=by
 intro b e
 rcases h with ⟨rfl,rfl⟩|⟨g,off,cap,cur,rfl,hb,hg,_⟩
 .simp [Value.ownBlock] at e
 .simp only [Value.ownBlock] at e
  first
   | (cases e;exact ⟨hb,lt_of_block hg⟩)
   | (split at e<;>cases e<;>exact ⟨hb,lt_of_block hg⟩)
theorem Win.keep (h:Win B w v L) (k:Keeps S w w') (hS:∀g off cap,v=.slice (some ⟨g,off,none⟩) L.length cap->g∉S):Win B w' v L:=by
 rcases h with h|⟨g,off,cap,cur,e,hb,hg,r⟩
 .exact .inl h
 .exact .inr ⟨g,off,cap,cur,e,hb,k.blk hg (hS g off cap e),r⟩
theorem Win.of (h:Rg.IR B w v L):Win B w v L:=by
 obtain ⟨ao,ca,rfl⟩:=h.form
 rcases h.2 with ⟨h0,h1⟩|⟨g,cap',cur,e,hb,hg,r1,r2,r3,r4⟩
 .have:L=[]:=List.length_eq_zero_iff.1 h1
  exact .inl ⟨h0,this⟩
 .refine .inr ⟨g,0,cap',cur,e,hb,hg,r1,by omega,fun j x hx=>?_⟩
  have hj:j<L.length:=(List.getElem?_eq_some_iff.1 hx).1
  have h1:(cur.toList.take (L.length*1))[j]?=some (.int .i64 (x:Nat)):=by rw [r4];simp [Rg.nCells,hx]
  rw [List.getElem?_take_of_lt (by omega)] at h1
  simpa using h1
theorem Win.head (h:Win B w v (x::L)):∃g off cap,v=.slice (some ⟨g,off,none⟩) (L.length+1) cap∧B<=g∧L.length+1<=cap∧w.cell? ⟨g,off,none⟩=some (.int .i64 (x:Nat))∧Win B w (.slice (some ⟨g,off+1,none⟩) L.length (cap - 1)) L:=by
 rcases h with ⟨_,h⟩|⟨g,off,cap,cur,rfl,hb,hg,h1,h2,h3⟩
 .cases h
 .simp only [List.length_cons] at h1
  refine ⟨g,off,cap,rfl,hb,h1,?_,.inr ⟨g,off+1,cap - 1,cur,rfl,hb,hg,by omega,by omega,fun j y e=>?_⟩⟩
  .have:=h3 0 x rfl
   rw [cell_of_blk hg]
   simpa using this
  .have:=h3 (j+1) y (by simpa using e)
   rw [show off+1+j=off+(j+1) by omega];exact this
end
section
variable {P:Program}
theorem run_win (w W:World) (B y:Nat) (t ty:TypeId) (ht:P.underlying t=some (.slice 3)) (hi:(P.info? 3).map (fun i=>(i.zero,i.size,i.bytes))=some (some (.int .i64 0),1,8)) (hB:B<=w.heap.size)
  (hW:W.heap=(w.alloc (.cells #[.int .i64 (y:Int)] 3 (0,0))).heap) (hW1:W.os=w.os) (hW2:W.tape=w.tape) (hW3:W.output=w.output) (v:Value) (L:List Nat) (h:Win B w v L) (hl:L.length+1<=65536) :
  ∃v' w',(Builtin.append_ #[t,t] ty #[v,.slice (some ⟨w.heap.size,0,none⟩) 1 1]).run P W=.ok v' w'∧Win B w' v' (L++[y])∧Keeps v.ownBlock.toList w w'∧(v'.ownBlock=v.ownBlock∨∃b,v'.ownBlock=some b∧w.heap.size<=b):=by
 obtain ⟨i,hi,hz,hsize,hby⟩:=info_parts hi
 have k1:Keeps [] w W:=by
  have k:Keeps [] w (w.alloc (.cells #[.int .i64 (y:Int)] 3 (0,0))):=(Keeps.refl _ _).alloc _
  exact ⟨hW1.trans k.os,hW2.trans k.tape,hW3.trans k.output,by rw [hW];exact k.size,by rw [hW];exact k.block⟩
 have hcell:∀j u,([.int .i64 (y:Int)]:List Value)[j]?=some u->W.cell? ((⟨w.heap.size,0,none⟩:Addr).add j)=some u:=by
  intro j u hj
  match j,hj with
  | 0,hj =>
   simp at hj;subst hj
   have:W.heap[w.heap.size]?=some (.cells #[.int .i64 (y:Int)] 3 (0,0)):=by rw [hW];exact blk_alloc_new _
   show W.cell? ⟨w.heap.size,0,none⟩=_
   rw [cell_of_blk this];rfl
 have hone:∀u∈([.int .i64 (y:Int)]:List Value),u.oneCell'=true:=by intro u hu;simp at hu;subst hu;rfl
 have hws:w.heap.size<=W.heap.size:=k1.size
 rcases h with ⟨rfl,rfl⟩|⟨g,off,cap,cur,rfl,hb,hg,h1,h2,h3⟩
 .obtain ⟨v',w',hr,r1,r2,_,r4⟩:=run_append_own_at (P:=P) W B t ty 3 i (.int .i64 0) 1 8 ht hi hz hsize hby rfl (by decide) (.slice none 0 0) 0 [] (World.ownsRow_nil W _ _ _) ⟨w.heap.size,0,none⟩ 1 1 [.int .i64 (y:Int)] rfl hcell hone (by unfold maxLen;omega) (by omega) (Nat.le_trans hB hws)
  refine ⟨v',w',hr,Win.of (by unfold Rg.IR;simpa [Rg.nCells] using r1),k1.trans ((Keeps.refl [] W).grown r2 (fun k e=>by simp [Value.ownBlock] at e)) (by simp) |>.mono (by simp),?_⟩
  rcases r4 with q|q
  .exact .inl q
  .exact .inr ⟨_,q,hws⟩
 .have hgl:=lt_of_block hg
  have hgW:=k1.blk hg (by simp)
  by_cases hroom:L.length+1<=cap
  .have hc:∃u,cur[off+L.length]?=some u:=⟨_,Array.getElem?_eq_getElem (show off+L.length<cur.size by omega)⟩
   obtain ⟨u0,hc⟩:=hc
   have hr:=run_append_room_cells (P:=P) (w:=W) t ty 3 i ht hi g off L.length cap ⟨w.heap.size,0,none⟩ 1 1 [.int .i64 (y:Int)] (by rw [hsize];rfl) hcell hone hroom (by
    intro j hj
    obtain rfl:j=0:=by simpa using hj
    rw [hsize,cell_of_blk hgW];simp [hc]) (by
    intro j hj
    exact frozen_of_blk hgW)
   rw [hsize] at hr
   refine ⟨_,_,hr,.inr ⟨g,off,cap,cur.setIfInBounds (off+L.length*1) (.int .i64 (y:Int)),by simp,hb,blk_setCell _ hgW,by simpa using hroom,by simpa using h2,fun j x e=>?_⟩,?_,.inl rfl⟩
   rotate_left
   .have k2:Keeps [g] W (W.setCell ⟨g,off+L.length*1,none⟩ (.int .i64 (y:Int))):=(Keeps.refl _ _).setCell (.inl (by simp)) _
    exact (k1.mono (T:=[g]) (by simp)).trans k2 (fun b hb=>.inl hb)
   rw [Nat.mul_one]
   by_cases c:j<L.length
   .rw [List.getElem?_append_left c] at e
    rw [Array.getElem?_setIfInBounds_ne (by omega)]
    exact h3 j x e
   .rw [List.getElem?_append_right (by omega)] at e
    obtain rfl:j=L.length:=by
     have:=(List.getElem?_eq_some_iff.1 e).1
     simp at this;omega
    simp at e
    subst e
    rw [Array.getElem?_setIfInBounds_self_of_lt (by omega)]
  .obtain ⟨v',w',hr,r1,r2⟩:=run_append_arg_grows (P:=P) (w:=W) t ty 3 i (.int .i64 0) 1 8 ht hi hz hsize hby rfl (by decide) ⟨g,off,none⟩ L.length cap (Rg.nCells L) (by simp [Rg.nCells]) (by
    intro j u e
    obtain ⟨x,hx,rfl⟩:∃x:Nat,L[j]?=some x∧u=.int .i64 (x:Int):=by
     simp only [Rg.nCells,List.getElem?_map,Option.map_eq_some_iff] at e
     obtain ⟨x,a,b⟩:=e
     exact ⟨x,a,b.symm⟩
    have:=h3 j x hx
    rw [Addr.add_lit,cell_of_blk hgW];exact this) ⟨w.heap.size,0,none⟩ 1 1 [.int .i64 (y:Int)] rfl hcell (by omega) (by unfold maxLen;omega) (by omega)
   have hir:Rg.IR W.heap.size w' v' (L++[y]):=by
    unfold Rg.IR
    rw [List.length_append]
    simpa [Rg.nCells] using r1
   refine ⟨v',w',hr,Win.of (hir.lo (Nat.le_trans hB hws)),(k1.trans ((Keeps.refl [] W).grown r2 (fun k e=>by simp at e)) (by simp)).mono (by simp),?_⟩
   obtain ⟨a5,c5,rfl⟩:=hir.form
   have:=hir.own
   cases a5 with
   | none =>
    rcases hir.2 with ⟨_,h0⟩|⟨_,_,_,e,_⟩
    .simp at h0
    .simp at e
   | some q =>
    obtain ⟨qb,qo,qi⟩:=q
    exact .inr ⟨qb,rfl,Nat.le_trans hws (this qb rfl).1⟩
theorem step_win {ops:Array Oper} {o:Oper} {a:Act} {K:Act->World->Prop} {Q:Exit->Act->World->Prop} {X:Prop} (hgd:o.guard=none) (s x:Operand) (t:TypeId)
  (ho:o.op=.call { callee:=.builtin .append,args:=#[s,x],argTypes:=#[t,t] })
  (ht:P.underlying t=some (.slice 3)) (hi:(P.info? 3).map (fun i=>(i.zero,i.size,i.bytes))=some (some (.int .i64 0),1,8))
  (w W:World) (B y:Nat) (hB:B<=w.heap.size) (hW:W.heap=(w.alloc (.cells #[.int .i64 (y:Int)] 3 (0,0))).heap) (hW1:W.os=w.os) (hW2:W.tape=w.tape) (hW3:W.output=w.output)
  (v:Value) (L:List Nat) (hs:a.eval s=v) (hwin:Win B w v L) (hx:a.eval x=.slice (some ⟨w.heap.size,0,none⟩) 1 1) (hl:L.length+1<=65536)
  (h:∀v' w',Win B w' v' (L++[y])->Keeps v.ownBlock.toList w w'->(v'.ownBlock=v.ownBlock∨∃b,v'.ownBlock=some b∧w.heap.size<=b)->K (a.put o.dst v') w') :
  if Region.wanted o (yielded ops a.tmps)=true then Oper.wp P o a W K Q else X:=by
 have hw:Region.wanted o (yielded ops a.tmps)=true:=by simp [Region.wanted,hgd]
 rw [if_pos hw]
 obtain ⟨v',w',hr,h2,h3,h4⟩:=run_win (P:=P) w W B y t o.type ht hi hB hW hW1 hW2 hW3 v L hwin hl
 have hfin:=h v' w' h2 h3 h4
 unfold Oper.wp execOp
 simp only [ho,resolve,invoke,builtin,Sem.run_bind,Sem.run_pure,Result.andThen_ok,List.map_toArray,List.map_cons,List.map_nil,hs,hx,hr]
 exact hfin
end
section
variable {P:Program}
theorem run_push (w:World) (B y:Nat) (t ty:TypeId) (ht:P.underlying t=some (.slice 3)) (hi:(P.info? 3).map (fun i=>(i.zero,i.size,i.bytes))=some (some (.int .i64 0),1,8)) (hB:B<=w.heap.size)
  (v:Value) (L:List Nat) (h:Rg.IR B w v L) (hl:L.length+1<=65536) :
  ∃v' w',(Builtin.append_ #[t,t] ty #[v,.slice (some ⟨w.heap.size,0,none⟩) 1 1]).run P (w.alloc (.cells #[.int .i64 (y:Int)] 3 (0,0)))=.ok v' w'∧Rg.IR B w' v' (L++[y])∧Keeps v.ownBlock.toList w w'∧(v'.ownBlock=v.ownBlock∨∃b,v'.ownBlock=some b∧w.heap.size<=b):=by
 obtain ⟨i,hi,hz,hsize,hby⟩:=info_parts hi
 have k1:Keeps [] w (w.alloc (.cells #[.int .i64 (y:Int)] 3 (0,0))):=(Keeps.refl _ _).alloc _
 have hcell:∀j u,([.int .i64 (y:Int)]:List Value)[j]?=some u->(w.alloc (.cells #[.int .i64 (y:Int)] 3 (0,0))).cell? ((⟨w.heap.size,0,none⟩:Addr).add j)=some u:=by
  intro j u hj
  match j,hj with
  | 0,hj =>
   simp at hj;subst hj
   have:(w.alloc (.cells #[.int .i64 (y:Int)] 3 (0,0))).heap[w.heap.size]?=some (.cells #[.int .i64 (y:Int)] 3 (0,0)):=blk_alloc_new _
   show (w.alloc _).cell? ⟨w.heap.size,0,none⟩=_
   rw [cell_of_blk this];rfl
 have hws:w.heap.size<=(w.alloc (.cells #[.int .i64 (y:Int)] 3 (0,0))).heap.size:=k1.size
 obtain ⟨v',w',hr,r1,r2,_,r4⟩:=run_append_own_at (P:=P) (w.alloc (.cells #[.int .i64 (y:Int)] 3 (0,0))) B t ty 3 i (.int .i64 0) 1 8 ht hi hz hsize hby rfl (by decide) v L.length (Rg.nCells L) (h.alloc _) ⟨w.heap.size,0,none⟩ 1 1 [.int .i64 (y:Int)] rfl hcell (by intro u hu;simp at hu;subst hu;rfl) (by unfold maxLen;omega) (by omega) (Nat.le_trans hB hws)
 refine ⟨v',w',hr,by unfold Rg.IR;rw [List.length_append,Rg.nCells_append];exact r1,(k1.mono (T:=v.ownBlock.toList) (by simp)).trans ((Keeps.refl v.ownBlock.toList (w.alloc (.cells #[.int .i64 (y:Int)] 3 (0,0)))).grown r2 (fun k e=>.inl (by simp [e]))) (fun _ hb=>.inl hb),?_⟩
 rcases r4 with q|q
 .exact .inl q
 .exact .inr ⟨_,q,hws⟩
theorem wpList_push1 {ops:Array Oper} {rest:List Oper} {o:Oper} {a:Act} {Q:Exit->Act->World->Prop} (hgd:o.guard=none) (s x:Operand) (t:TypeId)
  (ho:o.op=.call { callee:=.builtin .append,args:=#[s,x],argTypes:=#[t,t] })
  (ht:P.underlying t=some (.slice 3)) (hi:(P.info? 3).map (fun i=>(i.zero,i.size,i.bytes))=some (some (.int .i64 0),1,8))
  (w:World) (B y:Nat) (hB:B<=w.heap.size)
  (v:Value) (L:List Nat) (hs:a.eval s=v) (hwin:Rg.IR B w v L) (hx:a.eval x=.slice (some ⟨w.heap.size,0,none⟩) 1 1) (hl:L.length+1<=65536)
  (h:∀v' w',Rg.IR B w' v' (L++[y])->Keeps v.ownBlock.toList w w'->(v'.ownBlock=v.ownBlock∨∃b,v'.ownBlock=some b∧w.heap.size<=b)->wpList P ops Q rest (a.put o.dst v') w'):wpList P ops Q (o::rest) a (w.alloc (.cells #[.int .i64 (y:Int)] 3 (0,0))):=by
 refine wpList_plain hgd fun K hK=>?_
 obtain ⟨v',w',hr,h2,h3,h4⟩:=run_push (P:=P) w B y t o.type ht hi hB v L hwin hl
 have hfin:=hK _ _ (h v' w' h2 h3 h4)
 unfold Oper.wp execOp
 simp only [ho,resolve,invoke,builtin,Sem.run_bind,Sem.run_pure,Result.andThen_ok,List.map_toArray,List.map_cons,List.map_nil,hs,hx,hr]
 exact hfin
end
end Go.Proofs.YtkdbjelhkfdfjaaGreatDoor

