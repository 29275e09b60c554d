/-
  Contracts that the law rests on. Conditions: none.
-/
import Derived.Test.YtkdbjelhkfdfjaaGreatDoorLo01
import Derived.Test.YtkdbjelhkfdfjaaGreatDoorRows
import Derived.BigQuiet
import Derived.BigRegion
import Derived.Deep.AppendLies
import Derived.Deep.QuietTactic
import Derived.Deep.RegionHeld3
import Derived.Deep.RegionLaw
import Derived.Laws.StructEq
import Derived.Lib.Hide
import Derived.Outline
import Derived.RegionTactic
import Derived.WalkLawsBesides
import Derived.WalkSpells
set_option linter.unusedVariables false
set_option maxRecDepth 100000
set_option maxHeartbeats 32000000
namespace Go.Proofs.YtkdbjelhkfdfjaaGreatDoor.Ar
open Go.RowKit
def slotCells (S:List (Int×Bool)):List Value:=S.flatMap fun s=>[.int .u32 s.1,.bool s.2]
theorem slotCells_at (S:List (Int×Bool)) (k:Nat) (hk:k<S.length) :
  (slotCells S)[k*2]?=some (.int .u32 (S.getD k (0,false)).1)∧(slotCells S)[k*2+1]?=some (.bool (S.getD k (0,false)).2):=by
 induction S generalizing k with
 | nil=>simp at hk
 | cons p S ih =>
  cases k with
  | zero=>simp [slotCells]
  | succ k =>
   have:=ih k (by simpa using hk)
   simp only [slotCells,List.flatMap_cons,List.cons_append,List.nil_append,List.getD_cons_succ] at this ⊢
   rw [show (k+1)*2=k*2+1+1 by omega,show k*2+1+1+1=(k*2+1)+1+1 by omega]
   simpa using this
theorem slotCells_set (S:List (Int×Bool)) (k:Nat) (a:Int) (b:Bool):slotCells (S.set k (a,b))=((slotCells S).set (k*2) (.int .u32 a)).set (k*2+1) (.bool b):=by
 induction S generalizing k with
 | nil=>simp [slotCells]
 | cons p S ih =>
  cases k with
  | zero=>simp [slotCells]
  | succ k =>
   simp only [slotCells,List.set_cons_succ,List.flatMap_cons,List.cons_append,List.nil_append] at ih ⊢
   rw [ih k,show (k+1)*2=k*2+1+1 by omega,show k*2+1+1+1=(k*2+1)+1+1 by omega]
   simp
structure ArenaAt (w:World) (p gs:Nat) (ao:Option Addr) (cw:Nat) (S:List (Int×Bool)) (W:List Nat) (next:Nat) (cnt most:Int):Prop where
 blk:w.heap[p]?=some (.cells #[.slice (some ⟨gs,0,none⟩) S.length S.length,.slice ao W.length cw,.int .i64 next,.int .i64 cnt,.int .u32 most] 146 (0,0))
 slots:w.ownsRow 0 178 2 (.slice (some ⟨gs,0,none⟩) S.length S.length) S.length (slotCells S)
 wait:w.ownsRow 0 3 1 (.slice ao W.length cw) W.length (W.map fun (n:Nat)=>.int .i64 (n:Int))
 ne:gs≠p
 na:∀x,ao=some x->x.block≠p∧x.block≠gs
theorem ArenaAt.cell {w:World} {p gs cw next:Nat} {ao:Option Addr} {S:List (Int×Bool)} {W:List Nat} {cnt most:Int} (h:ArenaAt w p gs ao cw S W next cnt most) (i:Nat) (hi:i<S.length) :
  w.cell? ⟨gs,i*2,none⟩=some (.int .u32 (S.getD i (0,false)).1)∧w.cell? ⟨gs,i*2+1,none⟩=some (.bool (S.getD i (0,false)).2):=by
 rw [h.slots.cellAt (i*2) (by omega),h.slots.cellAt (i*2+1) (by omega)]
 exact slotCells_at S i hi
def fp (p gs:Nat) (ao:Option Addr):List Nat:=p::gs::ao.toList.map (·.block)
theorem row_keep {w w':World} {S:List Nat} {e size n cap:Nat} {ao:Option Addr} {xs:List Value} (h:w.ownsRow 0 e size (.slice ao n cap) n xs) (k:Keeps S w w') (hs:∀x,ao=some x->x.block∉S) :
  w'.ownsRow 0 e size (.slice ao n cap) n xs:=by
 refine ⟨h.1,?_⟩
 rcases h.2 with h0|⟨g,cap',cur,hv,hb,hg,r⟩
 .exact .inl h0
 .cases hv
  exact .inr ⟨g,cap,cur,rfl,hb,k.blk hg (hs ⟨g,0,none⟩ rfl),r⟩
theorem ArenaAt.keep {w w':World} {p gs cw next:Nat} {ao:Option Addr} {S:List (Int×Bool)} {W:List Nat} {cnt most:Int} {F:List Nat} (h:ArenaAt w p gs ao cw S W next cnt most) (k:Keeps F w w') (hf:∀b∈fp p gs ao,b∉F) :
  ArenaAt w' p gs ao cw S W next cnt most :=
 ⟨k.blk h.blk (hf p (by simp [fp])),row_keep h.slots k (fun x hx=>by cases hx;exact hf gs (by simp [fp])),row_keep h.wait k (fun x hx=>hf x.block (by simp [fp,hx])),h.ne,h.na⟩
theorem ArenaAt.alloc {w:World} {p gs cw next:Nat} {ao:Option Addr} {S:List (Int×Bool)} {W:List Nat} {cnt most:Int} (h:ArenaAt w p gs ao cw S W next cnt most) (o:Obj):ArenaAt (w.alloc o) p gs ao cw S W next cnt most :=
 h.keep ((Keeps.refl [] _).alloc o) (by simp)
theorem ArenaAt.drewN {w:World} {p gs cw next:Nat} {ao:Option Addr} {S:List (Int×Bool)} {W:List Nat} {cnt most:Int} (h:ArenaAt w p gs ao cw S W next cnt most) (n:Nat):ArenaAt (w.drewN n) p gs ao cw S W next cnt most :=
 h.keep ((Keeps.refl [] _).drewN n) (by simp)
theorem eqSlot (a c:Int) (b d:Bool) (w:World):(Op.equalIn 10000 178 (.agg #[.int .u32 a,.bool b]) (.agg #[.int .u32 c,.bool d])).run Tryz.prog w=.ok (a==c&&b==d) w:=by
 have u1:=Tryz.underlying41
 have u2:=Tryz.underlying4
 have hS:Tryz.prog.underlying 178=some (.struct (Tryz.prog.fieldsOf 178)):=by kernel_rfl
 have hp:Tryz.prog.stoodInHeld 178=false:=by kernel_rfl
 rw [show (10000:Nat)=9999+1 from rfl,run_equalIn_agg w 9999 178 _ _ hS hp]
 simp only [Program.fieldsOf,Tryz.underlying178]
 go_simp
 by_cases h1:a=c<;>by_cases h2:b=d<;>simp [h1,h2]
theorem guardSlot:Tryz.prog.eqGuardType Tryz.prog.depth 178=false:=by kernel_rfl
def liveB (S:List (Int×Bool)) (slot gen:Int):Bool:=decide (0<=slot)&&(decide (slot<S.length)&&((S.getD slot.toNat (0,false)).1==gen&&(S.getD slot.toNat (0,false)).2))
theorem live_calls (w:World) (p gs:Nat) (ao:Option Addr) (cw:Nat) (S:List (Int×Bool)) (W:List Nat) (next:Nat) (cnt most slot gen:Int) (h:ArenaAt w p gs ao cw S W next cnt most) (hl:S.length<70000) :
  Calls Tryz.prog 83 #[.pointer (some ⟨p,0,none⟩),.agg #[.int .i64 slot,.int .u32 gen]] w fun e w'=>e=.returned (.bool (liveB S slot gen))∧Below w.heap.size w w':=by
 have hp:=lt_of_block h.blk
 have hgs:=row_lt h.slots
 have c0:w.cell? ⟨p,0,none⟩=some (.slice (some ⟨gs,0,none⟩) S.length S.length):=by rw [cell_of_blk h.blk];rfl
 have hB:∀n,Below w.heap.size w ((w.alloc (.cells #[.int .i64 slot,.int .u32 gen] 45)).drewN n):=fun n=>((Below.refl _ _).alloc (Nat.le_refl _) _).trans ⟨rfl,rfl,rfl,Nat.le_refl _,fun _ _=>rfl⟩
 by_cases h1:0<=slot
 .by_cases h2:slot<S.length
  .obtain ⟨i,rfl⟩:=Int.eq_ofNat_of_zero_le h1
   obtain ⟨c1,c2⟩:=h.cell i (by omega)
   obtain ⟨⟨a,b⟩,hab⟩:∃q,q=S.getD i (0,false):=⟨_,rfl⟩
   rw [<-hab] at c1 c2
   have e:liveB S i gen=(a==gen&&b):=by
    simp only [liveB,Int.toNat_natCast,<-hab,decide_eq_true h1,decide_eq_true h2,Bool.true_and]
   rw [e]
   clear e hab
   have es:=eqSlot
   have eg:=guardSlot
   go_enter Tryz.func83,Tryz.ntmps83
   go_wp2
   go_quiet (fail)
   go_wp2
   go_ret
   exact ⟨rfl,hB _⟩
  .have e:liveB S slot gen=false:=by simp [liveB,h2]
   have e2:decide (slot<(S.length:Int))=false:=by rw [decide_eq_false_iff_not];exact h2
   rw [e]
   clear e h2
   go_enter Tryz.func83,Tryz.ntmps83
   go_wp2
   go_quiet (fail)
   go_wp2
   go_ret
   exact ⟨rfl,hB _⟩
 .have e:liveB S slot gen=false:=by simp [liveB];omega
  have e2:decide ((0:Int)<=slot)=false:=by rw [decide_eq_false_iff_not];exact h1
  rw [e]
  clear e h1
  go_enter Tryz.func83,Tryz.ntmps83
  go_wp2
  go_quiet (fail)
  go_wp2
  go_ret
  exact ⟨rfl,hB _⟩
def ArenaAft (w:World) (p gs:Nat) (ao:Option Addr) (S':List (Int×Bool)) (W':List Nat) (next':Nat) (cnt' most:Int) (w':World):Prop :=
 ∃ao' cw',ArenaAt w' p gs ao' cw' S' W' next' cnt' most∧Keeps (fp p gs ao) w w'∧(∀x,ao'=some x->ao=some x∨w.heap.size<=x.block)
theorem pick_none (w:World) (p gs:Nat) (ao:Option Addr) (cw:Nat) (S:List (Int×Bool)) (W:List Nat) (next:Nat) (cnt most:Int) (h:ArenaAt w p gs ao cw S W next cnt most) (hW:W=[]) (hn:next=S.length) :
  Calls Tryz.prog 71 #[.pointer (some ⟨p,0,none⟩)] w fun e w'=>e=.returned (.tuple #[.int .i64 0,.bool false])∧∃n,w'=w.drewN n:=by
 subst hW
 have c0:w.cell? ⟨p,0,none⟩=some (.slice (some ⟨gs,0,none⟩) S.length S.length):=by rw [cell_of_blk h.blk];rfl
 have c1:w.cell? ⟨p,1,none⟩=some (.slice ao 0 cw):=by rw [cell_of_blk h.blk];rfl
 have c2:w.cell? ⟨p,2,none⟩=some (.int .i64 next):=by rw [cell_of_blk h.blk];rfl
 have hb:((next:Int)==(S.length:Int))=true:=by rw [beq_iff_eq];omega
 clear hn
 go_enter Tryz.func71,Tryz.ntmps71
 go_wp2
 go_quiet (fail)
 go_wp2
 go_ret2
 exact ⟨rfl,_,rfl⟩
theorem pick_new (w:World) (p gs:Nat) (ao:Option Addr) (cw:Nat) (S:List (Int×Bool)) (W:List Nat) (next:Nat) (cnt most:Int) (h:ArenaAt w p gs ao cw S W next cnt most) (hW:W=[]) (hn:next<S.length) (hl:S.length<70000) :
  Calls Tryz.prog 71 #[.pointer (some ⟨p,0,none⟩)] w fun e w'=>e=.returned (.tuple #[.int .i64 next,.bool true])∧ArenaAft w p gs ao S W (next+1) cnt most w':=by
 subst hW
 have c0:w.cell? ⟨p,0,none⟩=some (.slice (some ⟨gs,0,none⟩) S.length S.length):=by rw [cell_of_blk h.blk];rfl
 have c1:w.cell? ⟨p,1,none⟩=some (.slice ao 0 cw):=by rw [cell_of_blk h.blk];rfl
 have c2:w.cell? ⟨p,2,none⟩=some (.int .i64 next):=by rw [cell_of_blk h.blk];rfl
 have f2:w.frozen? ⟨p,2,none⟩=false:=frozen_of_blk h.blk
 have hb:((next:Int)==(S.length:Int))=false:=by rw [beq_eq_false_iff_ne];omega
 have hfin:∀n,ArenaAft w p gs ao S [] (next+1) cnt most ((w.drewN n).setCell ⟨p,2,none⟩ (.int .i64 ((next:Int)+1))):=by
  intro n
  have hk:Keeps [p] w ((w.drewN n).setCell ⟨p,2,none⟩ (.int .i64 ((next:Int)+1))):=((Keeps.refl _ _).drewN n).setCell (.inl (by simp)) _
  refine ⟨ao,cw,⟨?_,row_keep h.slots hk (fun x hx=>by cases hx;simpa using h.ne),row_keep h.wait hk (fun x hx=>by simpa using (h.na x hx).1),h.ne,h.na⟩,hk.mono (by simp [fp]),fun x hx=>.inl hx⟩
  rw [blk_setCell _ (show (w.drewN n).heap[p]?=_ from h.blk)]
  simp
 go_enter Tryz.func71,Tryz.ntmps71
 go_wp2
 go_quiet (fail)
 go_wp2
 go_ret2
 exact ⟨rfl,hfin _⟩
theorem row_some {w:World} {e size n cap:Nat} {ao:Option Addr} {xs:List Value} (h:w.ownsRow 0 e size (.slice ao n cap) n xs) (h0:0<n):∃g,ao=some ⟨g,0,none⟩:=by
 rcases h.2 with ⟨_,h1⟩|⟨g,cap',cur,hv,_⟩
 .omega
 .cases hv;exact ⟨g,rfl⟩
theorem pick_pop (w:World) (p gs:Nat) (ao:Option Addr) (cw:Nat) (S:List (Int×Bool)) (W:List Nat) (next:Nat) (cnt most:Int) (h:ArenaAt w p gs ao cw S W next cnt most) (W':List Nat) (i:Nat) (hW:W=W'++[i]) (hl:W.length<70000) :
  Calls Tryz.prog 71 #[.pointer (some ⟨p,0,none⟩)] w fun e w'=>e=.returned (.tuple #[.int .i64 i,.bool true])∧ArenaAft w p gs ao S W' next cnt most w':=by
 have hlen:W.length=W'.length+1:=by rw [hW];simp
 obtain ⟨gw,rfl⟩:=row_some h.wait (by omega)
 have c1:w.cell? ⟨p,1,none⟩=some (.slice (some ⟨gw,0,none⟩) W.length cw):=by rw [cell_of_blk h.blk];rfl
 have f1:w.frozen? ⟨p,1,none⟩=false:=frozen_of_blk h.blk
 have hna:=h.na _ rfl
 have hcell:w.cell? ⟨gw,W'.length,none⟩=some (.int .i64 i):=by
  rw [h.wait.cellAt W'.length (by omega)]
  rw [hW];simp
 have hcap:=row_cap h.wait
 have hfin:ArenaAft w p gs (some ⟨gw,0,none⟩) S W' next cnt most (w.setCell ⟨p,1,none⟩ (.slice (some ⟨gw,0,none⟩) W'.length cw)):=by
  have hk:Keeps [p] w (w.setCell ⟨p,1,none⟩ (.slice (some ⟨gw,0,none⟩) W'.length cw)):=(Keeps.refl _ _).setCell (.inl (by simp)) _
  refine ⟨some ⟨gw,0,none⟩,cw,⟨?_,row_keep h.slots hk (fun x hx=>by cases hx;simpa using h.ne),?_,h.ne,h.na⟩,hk.mono (by simp [fp]),fun x hx=>.inl hx⟩
  .rw [blk_setCell _ h.blk];simp
  .have hr:=row_keep h.wait hk (fun x hx=>by cases hx;simpa using hna.1)
   rcases hr.2 with ⟨h0,_⟩|⟨g',cap',cur,hv,hb,hh,r1,r2,r3,r4⟩
   .cases h0
   .cases hv
    refine ⟨by simp,.inr ⟨gw,cw,cur,rfl,hb,hh,by omega,r2,r3,?_⟩⟩
    rw [Nat.mul_one] at r4 ⊢
    have e:cur.toList.take W'.length=(cur.toList.take W.length).take W'.length:=by rw [List.take_take,Nat.min_eq_left (by omega)]
    rw [e,r4,hW];simp
 rw [hlen] at c1 hcap
 have hl':W'.length<70000:=by omega
 clear hW hlen hl
 go_enter Tryz.func71,Tryz.ntmps71
 go_wp2
 go_ret2
 exact ⟨rfl,hfin⟩
theorem slotCells_live (S:List (Int×Bool)) (k:Nat) (b:Bool):slotCells (S.set k ((S.getD k (0,false)).1,b))=(slotCells S).set (k*2+1) (.bool b):=by
 induction S generalizing k with
 | nil=>simp [slotCells]
 | cons p S ih =>
  cases k with
  | zero=>simp [slotCells]
  | succ k =>
   simp only [slotCells,List.set_cons_succ,List.flatMap_cons,List.cons_append,List.nil_append,List.getD_cons_succ] at ih ⊢
   rw [ih k,show (k+1)*2=k*2+1+1 by omega]
   simp
section
variable {w:World} {p gs cw next:Nat} {ao:Option Addr} {S:List (Int×Bool)} {W:List Nat} {cnt most:Int}
theorem ArenaAt.slot (h:ArenaAt w p gs ao cw S W next cnt most) (i:Nat) (a:Int) (b:Bool) :
  ArenaAt ((w.setCell ⟨gs,i*2,none⟩ (.int .u32 a)).setCell ⟨gs,i*2+1,none⟩ (.bool b)) p gs ao cw (S.set i (a,b)) W next cnt most:=by
 have hk:Keeps [gs] w ((w.setCell ⟨gs,i*2,none⟩ (.int .u32 a)).setCell ⟨gs,i*2+1,none⟩ (.bool b)):=((Keeps.refl _ _).setCell (.inl (by simp)) _).setCell (.inl (by simp)) _
 refine ⟨?_,?_,row_keep h.wait hk (fun x hx=>by simpa using (h.na x hx).2),h.ne,h.na⟩
 .rw [List.length_set];exact hk.blk h.blk (by simpa using h.ne.symm)
 .have h1:=(h.slots.stored (i*2) (.int .u32 a)).1
  have h2:=(h1.stored (i*2+1) (.bool b)).1
  rw [List.length_set,slotCells_set];exact h2
theorem ArenaAt.off (h:ArenaAt w p gs ao cw S W next cnt most) (i:Nat) (b:Bool) :
  ArenaAt (w.setCell ⟨gs,i*2+1,none⟩ (.bool b)) p gs ao cw (S.set i ((S.getD i (0,false)).1,b)) W next cnt most:=by
 have hk:Keeps [gs] w (w.setCell ⟨gs,i*2+1,none⟩ (.bool b)):=(Keeps.refl _ _).setCell (.inl (by simp)) _
 refine ⟨?_,?_,row_keep h.wait hk (fun x hx=>by simpa using (h.na x hx).2),h.ne,h.na⟩
 .rw [List.length_set];exact hk.blk h.blk (by simpa using h.ne.symm)
 .have h1:=(h.slots.stored (i*2+1) (.bool b)).1
  rw [List.length_set,slotCells_live];exact h1
theorem ArenaAt.setCnt (h:ArenaAt w p gs ao cw S W next cnt most) (c:Int):ArenaAt (w.setCell ⟨p,3,none⟩ (.int .i64 c)) p gs ao cw S W next c most:=by
 have hk:Keeps [p] w (w.setCell ⟨p,3,none⟩ (.int .i64 c)):=(Keeps.refl _ _).setCell (.inl (by simp)) _
 refine ⟨?_,row_keep h.slots hk (fun x hx=>by cases hx;simpa using h.ne),row_keep h.wait hk (fun x hx=>by simpa using (h.na x hx).1),h.ne,h.na⟩
 rw [blk_setCell _ h.blk];simp
theorem ArenaAt.lt (h:ArenaAt w p gs ao cw S W next cnt most):∀b∈fp p gs ao,b<w.heap.size:=by
 intro b hb
 simp only [fp,List.mem_cons,List.mem_map,Option.mem_toList] at hb
 rcases hb with rfl|rfl|⟨x,hx,rfl⟩
 .exact lt_of_block h.blk
 .exact row_lt h.slots
 .rcases h.wait.2 with ⟨h0,_⟩|⟨g,cap',cur,hv,hb,hg,_⟩
  .simp only [Value.slice.injEq] at h0;rw [h0.1] at hx;cases hx
  .simp only [Value.slice.injEq] at hv;rw [hv.1] at hx;cases hx;exact lt_of_block hg
end
def pickS (n:Nat) (W:List Nat) (next:Nat):Option (Nat×List Nat×Nat) :=
 match W.getLast? with
 | some i=>some (i,W.dropLast,next)
 | none=>if next<n then some (next,[],next+1) else none
theorem pick_calls (w:World) (p gs:Nat) (ao:Option Addr) (cw:Nat) (S:List (Int×Bool)) (W:List Nat) (next:Nat) (cnt most:Int) (h:ArenaAt w p gs ao cw S W next cnt most) (hl:S.length<70000) (hW:W.length<70000) (hn:next<=S.length) :
  Calls Tryz.prog 71 #[.pointer (some ⟨p,0,none⟩)] w fun e w'=>match pickS S.length W next with
   | some (i,W',next')=>e=.returned (.tuple #[.int .i64 i,.bool true])∧ArenaAft w p gs ao S W' next' cnt most w'
   | none=>e=.returned (.tuple #[.int .i64 0,.bool false])∧ArenaAft w p gs ao S W next cnt most w':=by
 cases hg:W.getLast? with
 | some i =>
  simp only [pickS,hg]
  obtain ⟨ys,rfl⟩:=List.getLast?_eq_some_iff.1 hg
  rw [List.dropLast_concat]
  exact pick_pop _ _ _ _ _ _ _ _ _ _ h ys i rfl hW
 | none =>
  simp only [pickS,hg]
  have hW0:W=[]:=List.getLast?_eq_none_iff.1 hg
  by_cases hlt:next<S.length
  .rw [if_pos hlt]
   have:=pick_new _ _ _ _ _ _ _ _ _ _ h hW0 hlt hl
   rw [hW0] at this
   exact this
  .rw [if_neg hlt]
   refine (pick_none _ _ _ _ _ _ _ _ _ _ h hW0 (by omega)).mono ?_
   rintro e w' ⟨rfl,n,rfl⟩
   exact ⟨rfl,ao,cw,h.drewN n,(Keeps.refl _ _).drewN n,fun x hx=>.inl hx⟩
theorem keeps_old {F:List Nat} {w w':World} (k:Keeps F w w') (b:Nat) (hb:b<w.heap.size) (hf:b∉F):(∀o,w'.cell? ⟨b,o,none⟩=w.cell? ⟨b,o,none⟩)∧∀o,w'.frozen? ⟨b,o,none⟩=w.frozen? ⟨b,o,none⟩ :=
 ⟨fun o=>World.cell?_of_block (a:=⟨b,o,none⟩) (k.block b hb hf),fun o=>World.frozen?_of_block (a:=⟨b,o,none⟩) (k.block b hb hf)⟩
theorem ArenaAt.fresh {w:World} {p gs cw next:Nat} {ao:Option Addr} {S:List (Int×Bool)} {W:List Nat} {cnt most:Int} (h:ArenaAt w p gs ao cw S W next cnt most):w.heap.size∉fp p gs ao:=by
 intro hb
 have:=h.lt _ hb
 omega
theorem take_calls (w:World) (p gs:Nat) (ao:Option Addr) (cw:Nat) (S:List (Int×Bool)) (W:List Nat) (next:Nat) (cnt most:Int) (h:ArenaAt w p gs ao cw S W next cnt most) (hl:S.length<70000) (hW:W.length<70000) (hn:next<=S.length) (i:Nat) (W':List Nat) (next':Nat) (hp:pickS S.length W next=some (i,W',next')) (hi:i<S.length)
  (gen:Int) (hgen:(S.getD i (0,false)).1=gen) (hg0:0<=gen) (hg1:gen<4294967295) (hc:-70000<cnt) (hc':cnt<70000) :
  Calls Tryz.prog 36 #[.pointer (some ⟨p,0,none⟩)] w fun e w'=>e=.returned (.tuple #[.agg #[.int .i64 i,.int .u32 (gen+1)],.int .i64 0])∧ArenaAft w p gs ao (S.set i (gen+1,true)) W' next' (cnt+1) most w':=by
 have hpick:=pick_calls _ _ _ _ _ _ _ _ _ _ (h.alloc (.cells #[.int .i64 0,.int .u32 0] 45)) hl hW hn
 rw [hp] at hpick
 have HP:=Lib.hid hpick
 have hfb:=h.fresh
 clear hpick hp
 go_enter Tryz.func36,Tryz.ntmps36
 go_wp2_with fail
 refine HP.out.mono ?_
 rintro e w1 ⟨rfl,ao',cw',h1,hk,hfr⟩
 obtain ⟨k1,k2⟩:=keeps_old hk w.heap.size (by simp) hfb
 have d0:w1.cell? ⟨w.heap.size,0,none⟩=some (.int .i64 0):=by rw [k1];simp [go_sem]
 have d1:w1.cell? ⟨w.heap.size,1,none⟩=some (.int .u32 0):=by rw [k1];simp [go_sem]
 have e0:w1.frozen? ⟨w.heap.size,0,none⟩=false:=by rw [k2];simp [go_sem]
 have e1:w1.frozen? ⟨w.heap.size,1,none⟩=false:=by rw [k2];simp [go_sem]
 have a0:w1.cell? ⟨p,0,none⟩=some (.slice (some ⟨gs,0,none⟩) S.length S.length):=by rw [cell_of_blk h1.blk];rfl
 have a3:w1.cell? ⟨p,3,none⟩=some (.int .i64 cnt):=by rw [cell_of_blk h1.blk];rfl
 have b3:w1.frozen? ⟨p,3,none⟩=false:=frozen_of_blk h1.blk
 obtain ⟨s0,s1⟩:=h1.cell i hi
 rw [hgen] at s0
 obtain ⟨lv,hlv⟩:∃q,q=(S.getD i (0,false)).2:=⟨_,rfl⟩
 rw [<-hlv] at s1
 have t0:w1.frozen? ⟨gs,i*2,none⟩=false:=h1.slots.frozenAt _
 have t1:w1.frozen? ⟨gs,i*2+1,none⟩=false:=h1.slots.frozenAt _
 have hnot:∀b∈fp p gs ao',b≠w.heap.size:=by
  intro b hb e
  subst e
  simp only [fp,List.mem_cons,List.mem_map,Option.mem_toList] at hb hfb
  rcases hb with hb|hb|⟨y,hy,hb⟩
  .exact hfb (.inl hb)
  .exact hfb (.inr (.inl hb))
  .rcases hfr y hy with h0|h0
   .exact hfb (.inr (.inr ⟨y,h0,hb⟩))
   .simp at h0;omega
 have n1:p≠w.heap.size:=hnot p (by simp [fp])
 have n2:gs≠w.heap.size:=hnot gs (by simp [fp])
 have n3:gs≠p:=h1.ne
 have hfin:ArenaAft w p gs ao (S.set i (gen+1,true)) W' next' (cnt+1) most (((((w1.setCell ⟨gs,i*2,none⟩ (.int .u32 (gen+1))).setCell ⟨gs,i*2+1,none⟩ (.bool true)).setCell ⟨p,3,none⟩ (.int .i64 (cnt+1))).setCell ⟨w.heap.size,0,none⟩ (.int .i64 i)).setCell ⟨w.heap.size,1,none⟩ (.int .u32 (gen+1))):=by
  have h2:=(h1.slot i (gen+1) true).setCnt (cnt+1)
  generalize hx:((w1.setCell ⟨gs,i*2,none⟩ (.int .u32 (gen+1))).setCell ⟨gs,i*2+1,none⟩ (.bool true)).setCell ⟨p,3,none⟩ (.int .i64 (cnt+1))=w2 at h2
  have hk1:Keeps [p,gs] w1 w2:=by
   rw [<-hx];exact (((Keeps.refl _ _).setCell (.inl (by simp)) _).setCell (.inl (by simp)) _).setCell (.inl (by simp)) _
  have hk2:Keeps [w.heap.size] w2 ((w2.setCell ⟨w.heap.size,0,none⟩ (.int .i64 i)).setCell ⟨w.heap.size,1,none⟩ (.int .u32 (gen+1))):=((Keeps.refl _ _).setCell (.inl (by simp)) _).setCell (.inl (by simp)) _
  refine ⟨ao',cw',h2.keep hk2 (by simpa using hnot),?_,fun x hx=>?_⟩
  .refine ((((Keeps.refl _ _).alloc _).trans hk (fun x hx=>.inl hx)).trans hk1 ?_).trans hk2 (by simp)
   simp [fp]
  .rcases hfr x hx with h0|h0
   .exact .inl h0
   .right;simp at h0;omega
 have hi2:(i:Int)<S.length:=by omega
 clear hk hfr k1 k2 HP hgen hlv hnot
 go_wp2
 refine bodyPost_ret (v:=.tuple #[.agg #[.int .i64 i,.int .u32 (gen+1)],.int .i64 0]) (by simp [results,Tryz.results36,go_sem,d0,d1]) rfl ⟨rfl,hfin⟩
def atS (S:List (Int×Bool)) (slot:Int):Option Int:=if 0<=slot∧slot<S.length∧(S.getD slot.toNat (0,false)).2=true then some (S.getD slot.toNat (0,false)).1 else none
theorem at_yes (w:World) (p gs:Nat) (ao:Option Addr) (cw:Nat) (S:List (Int×Bool)) (W:List Nat) (next:Nat) (cnt most slot gen:Int) (h:ArenaAt w p gs ao cw S W next cnt most) (hl:S.length<70000) (hn:atS S slot=some gen) :
  Calls Tryz.prog 86 #[.pointer (some ⟨p,0,none⟩),.int .i64 slot] w fun e w'=>e=.returned (.tuple #[.agg #[.int .i64 slot,.int .u32 gen],.bool true])∧Below w.heap.size w w':=by
 have hp:=h.lt p (by simp [fp])
 have hgs:=h.lt gs (by simp [fp])
 have c0:w.cell? ⟨p,0,none⟩=some (.slice (some ⟨gs,0,none⟩) S.length S.length):=by rw [cell_of_blk h.blk];rfl
 rw [atS] at hn
 split at hn
 .rename_i hc
  obtain ⟨h1,h2,h3⟩:=hc
  obtain ⟨i,rfl⟩:=Int.eq_ofNat_of_zero_le h1
  rw [Int.toNat_natCast] at h3 hn
  obtain ⟨c1,c2⟩:=h.cell i (by omega)
  rw [h3] at c2
  simp only [Option.some.injEq] at hn
  rw [hn] at c1
  have e2:decide ((S.length:Int)<=(i:Int))=false:=by rw [decide_eq_false_iff_not];omega
  have e3:decide (S.length<=i)=false:=by rw [decide_eq_false_iff_not];omega
  clear h3 hn
  go_enter Tryz.func86,Tryz.ntmps86
  go_wp2
  refine bodyPost_ret (v:=.tuple #[.agg #[.int .i64 i,.int .u32 gen],.bool true]) (by simp [results,Tryz.results86,go_sem]) rfl ⟨rfl,?_⟩
  exact (Below.refl _ _).alloc (Nat.le_refl _) _
 .cases hn
theorem Tryz.infoInt:(Tryz.prog.info? 3).map (fun i=>(i.zero,i.size,i.bytes))=some (some (.int .i64 0),1,8):=by kernel_rfl
def waitS (W:List Nat) (i:Nat) (gen most:Int):List Nat:=if gen<most then W++[i] else W
theorem push_fin {w w2 w3:World} {p gs cw next i n g cap:Nat} {ao:Option Addr} {S:List (Int×Bool)} {W:List Nat} {cnt most gen:Int} {o:Obj} (h2:ArenaAt w2 p gs ao cw S W next cnt most) (hk3:Keeps (fp p gs ao) w w2) (hgm:gen<most)
  (hr:w3.ownsRow 0 3 1 (.slice (some ⟨g,0,none⟩) (W.length+1) cap) (W.length+1) (W.map (fun (n:Nat)=>.int .i64 (n:Int))++[.int .i64 i]))
  (hg:((w2.drewN n).alloc o).grownBy w3 (Value.slice ao W.length cw).ownBlock) (hat:(Value.slice ao W.length cw).ownBlock=some g∨g=((w2.drewN n).alloc o).heap.size) :
  ArenaAft w p gs ao S (waitS W i gen most) next cnt most (w3.setCell ⟨p,1,none⟩ (.slice (some ⟨g,0,none⟩) (W.length+1) cap))∧w3.cell? ⟨p,1,none⟩=some (.slice ao W.length cw)∧w3.frozen? ⟨p,1,none⟩=false:=by
 have hk:Keeps (ao.toList.map (·.block)) w2 w3:=by
  refine (((Keeps.refl _ _).drewN n).alloc o).grown hg (fun k hk=>.inl ?_)
  cases ao with
  | none=>simp [Value.ownBlock] at hk
  | some x=>simp [Value.ownBlock] at hk;simp [hk]
 have hpn:p∉ao.toList.map (·.block):=by
  intro hp
  simp only [List.mem_map,Option.mem_toList] at hp
  obtain ⟨x,hx,e⟩:=hp
  exact (h2.na x hx).1 e
 have hgn:gs∉ao.toList.map (·.block):=by
  intro hp
  simp only [List.mem_map,Option.mem_toList] at hp
  obtain ⟨x,hx,e⟩:=hp
  exact (h2.na x hx).2 e
 have hb:=hk.blk h2.blk hpn
 have hgw:(∃x,ao=some x∧x.block=g)∨w2.heap.size<=g:=by
  rcases hat with h0|h0
  .cases ao with
   | none=>simp [Value.ownBlock] at h0
   | some x=>simp [Value.ownBlock] at h0;exact .inl ⟨x,rfl,h0⟩
  .exact .inr (by rw [h0];simp only [World.size_alloc];show w2.heap.size<=w2.heap.size+1;omega)
 have hgp:g≠p∧g≠gs:=by
  rcases hgw with ⟨x,hx,rfl⟩|h0
  .exact h2.na x hx
  .have l1:=h2.lt p (by simp [fp])
   have l2:=h2.lt gs (by simp [fp])
   omega
 refine ⟨⟨some ⟨g,0,none⟩,cap,⟨?_,?_,?_,h2.ne,?_⟩,?_,?_⟩,by rw [cell_of_blk hb];rfl,frozen_of_blk hb⟩
 .rw [blk_setCell _ hb,waitS,if_pos hgm];simp
 .exact row_keep (row_keep h2.slots hk (fun x hx=>by cases hx;exact hgn)) ((Keeps.refl [p] _).setCell (.inl (by simp)) _) (fun x hx=>by cases hx;simpa using h2.ne)
 .have:=row_keep hr ((Keeps.refl [p] _).setCell (p:=⟨p,1,none⟩) (.inl (by simp)) (.slice (some ⟨g,0,none⟩) (W.length+1) cap)) (fun x hx=>by cases hx;simpa using hgp.1)
  rw [waitS,if_pos hgm];simpa using this
 .intro x hx;cases hx;exact hgp
 .refine (hk3.trans hk ?_).setCell (.inl (by simp [fp])) _
  intro x hx
  left
  simp only [fp,List.mem_cons]
  exact .inr (.inr hx)
 .intro x hx
  cases hx
  rcases hgw with ⟨y,hy,e⟩|h0
  .left
   have hspot:y=⟨g,0,none⟩:=by
    have hw:=h2.wait
    rcases hw.2 with ⟨h1,_⟩|⟨g',cap',cur,hv,_⟩
    .simp only [Value.slice.injEq] at h1;rw [h1.1] at hy;cases hy
    .simp only [Value.slice.injEq] at hv;rw [hv.1] at hy;cases hy;rw [<-e]
   rw [hy,hspot]
  .right;have:=hk3.size;simp only;omega
theorem give_live (w:World) (p gs:Nat) (ao:Option Addr) (cw:Nat) (S:List (Int×Bool)) (W:List Nat) (next:Nat) (cnt most gen:Int) (h:ArenaAt w p gs ao cw S W next cnt most) (i:Nat) (hl:S.length<70000) (hW:W.length<70000) (hi:i<S.length) (hg:(S.getD i (0,false))=(gen,true)) (hc:-70000<cnt) (hc':cnt<70000) :
  Calls Tryz.prog 50 #[.pointer (some ⟨p,0,none⟩),.agg #[.int .i64 i,.int .u32 gen]] w fun e w'=>e=.returned (.int .i64 0)∧ArenaAft w p gs ao (S.set i (gen,false)) (waitS W i gen most) next (cnt - 1) most w':=by
 have hlv:liveB S i gen=true:=by simp only [liveB,Int.toNat_natCast,hg];simp;omega
 have hfb:=h.fresh
 have hi2:(i:Int)<S.length:=by omega
 go_enter Tryz.func50,Tryz.ntmps50
 go_wp2_with fail
 refine (live_calls _ _ _ _ _ _ _ _ _ _ _ _ (h.alloc _) hl).mono ?_
 rintro e w1 ⟨rfl,hb⟩
 rw [hlv]
 have hk:=((Keeps.refl (fp p gs ao) w).alloc (.cells #[.int .i64 i,.int .u32 gen] 45)).trans (Below.keeps hb (Nat.le_refl _) []) (by simp)
 have h1:ArenaAt w1 p gs ao cw S W next cnt most:=(h.alloc _).keep (Below.keeps hb (Nat.le_refl _) []) (by simp)
 obtain ⟨q1,q2⟩:=bcell hb
 have d0:w1.cell? ⟨w.heap.size,0,none⟩=some (.int .i64 i):=by rw [q1 _ _ (by simp)];simp [go_sem]
 have d1:w1.cell? ⟨w.heap.size,1,none⟩=some (.int .u32 gen):=by rw [q1 _ _ (by simp)];simp [go_sem]
 have a0:w1.cell? ⟨p,0,none⟩=some (.slice (some ⟨gs,0,none⟩) S.length S.length):=by rw [cell_of_blk h1.blk];rfl
 have a1:w1.cell? ⟨p,1,none⟩=some (.slice ao W.length cw):=by rw [cell_of_blk h1.blk];rfl
 have a3:w1.cell? ⟨p,3,none⟩=some (.int .i64 cnt):=by rw [cell_of_blk h1.blk];rfl
 have a4:w1.cell? ⟨p,4,none⟩=some (.int .u32 most):=by rw [cell_of_blk h1.blk];rfl
 have b1:w1.frozen? ⟨p,1,none⟩=false:=frozen_of_blk h1.blk
 have b3:w1.frozen? ⟨p,3,none⟩=false:=frozen_of_blk h1.blk
 obtain ⟨s0,s1⟩:=h1.cell i hi
 rw [hg] at s0 s1
 have t1:w1.frozen? ⟨gs,i*2+1,none⟩=false:=h1.slots.frozenAt _
 have n1:p≠w.heap.size:=fun e=>hfb (by rw [<-e];simp [fp])
 have n2:gs≠w.heap.size:=fun e=>hfb (by rw [<-e];simp [fp])
 have n3:gs≠p:=h1.ne
 have hsz:w.heap.size<w1.heap.size:=by have:=hb.size;simp at this;omega
 have h2:=(h1.off i false).setCnt (cnt - 1)
 rw [hg] at h2
 clear q1 q2 hb hg hlv
 go_wp2
 go_region
 go_wp2
 have hk2:Keeps [p,gs] w1 ((w1.setCell ⟨gs,i*2+1,none⟩ (.bool false)).setCell ⟨p,3,none⟩ (.int .i64 (cnt - 1))):=((Keeps.refl _ _).setCell (.inl (by simp)) _).setCell (.inl (by simp)) _
 generalize (w1.setCell ⟨gs,i*2+1,none⟩ (.bool false)).setCell ⟨p,3,none⟩ (.int .i64 (cnt - 1))=w2 at *
 have d0':w2.cell? ⟨w.heap.size,0,none⟩=some (.int .i64 i):=((keeps_old hk2 w.heap.size hsz (by simp;omega)).1 0).trans d0
 have d1':w2.cell? ⟨w.heap.size,1,none⟩=some (.int .u32 gen):=((keeps_old hk2 w.heap.size hsz (by simp;omega)).1 1).trans d1
 have a1':w2.cell? ⟨p,1,none⟩=some (.slice ao W.length cw):=by rw [cell_of_blk h2.blk];rfl
 have a4':w2.cell? ⟨p,4,none⟩=some (.int .u32 most):=by rw [cell_of_blk h2.blk];rfl
 have b1':w2.frozen? ⟨p,1,none⟩=false:=frozen_of_blk h2.blk
 have hk3:Keeps (fp p gs ao) w w2:=hk.trans hk2 (by simp [fp])
 have hp2:=h2.lt p (by simp [fp])
 have hz2:w.heap.size<w2.heap.size:=by have:=hk2.size;omega
 have hA1:∀n o,((w2.drewN n).alloc o).cell? ⟨p,1,none⟩=some (.slice ao W.length cw):=fun n o=>(World.cell?_of_block (a:=⟨p,1,none⟩) (blk_alloc_old (w:=w2.drewN n) o hp2)).trans a1'
 have hA0:∀n o,((w2.drewN n).alloc o).cell? ⟨w.heap.size,0,none⟩=some (.int .i64 i):=fun n o=>(World.cell?_of_block (a:=⟨w.heap.size,0,none⟩) (blk_alloc_old (w:=w2.drewN n) o hz2)).trans d0'
 clear a0 a1 a3 a4 b1 b3 s0 s1 t1 d0 d1 h1 hk hk2 hi hi2
 by_cases hgm:gen<most
 .go_quiet (fail)
  go_wp2_with fail
  obtain ⟨i0,hi,hz0,hz1,hzb⟩:=info_parts Tryz.infoInt
  go_region_law (refine step_append_lies _ rfl _ _ 28 rfl 0 3 i0 (.int .i64 0) 1 8 Tryz.underlying28 hi hz0 hz1 hzb rfl (by decide) (.slice ao W.length cw) W.length _ rfl ((h2.drewN (1+nq+1)).wait.alloc _) ⟨w2.heap.size,0,none⟩ 1 1 [.int .i64 i] rfl rfl (World.news_of_block (w:=(w2.drewN (1+nq+1)).alloc _) (blk_alloc_new _)) (by simp [Value.oneCell']) (by decide) (by unfold maxLen;omega) (by omega) (Nat.zero_le _) _ rfl ?_;intro g2 cap2 w3 hr hg hat hlt;obtain ⟨hfin,ha1,hb1⟩:=push_fin h2 hk3 hgm hr hg hat;clear hr hg hat hlt)
  all_goals go_wp2
  all_goals (go_ret;exact ⟨rfl,by assumption⟩)
 .have hws:waitS W i gen most=W:=if_neg hgm
  have hfin:∀wz,Keeps [] w2 wz->ArenaAft w p gs ao (S.set i (gen,false)) (waitS W i gen most) next (cnt - 1) most wz:=by
   intro wz hz;rw [hws]
   exact ⟨ao,cw,h2.keep hz (by simp),hk3.trans hz (by simp),fun x hx=>.inl hx⟩
  have e1:decide (gen<most)=false:=by rw [decide_eq_false_iff_not];exact hgm
  clear hws hgm
  go_quiet (fail)
  go_wp2
  go_ret
  exact ⟨rfl,hfin _ ⟨rfl,rfl,rfl,Nat.le_refl _,fun _ _ _=>rfl⟩⟩
theorem Tryz.infoSlot:(Tryz.prog.info? 178).map (fun i=>(i.zero,i.size,i.bytes))=some (some (.agg #[.int .u32 0,.bool false]),2,8):=by kernel_rfl
theorem slotCells_zero (n:Nat):(madeCells (Value.agg #[.int .u32 0,.bool false]).cells (n*2)).toList=slotCells (List.replicate n (0,false)):=by
 induction n with
 | zero=>simp [madeCells,slotCells]
 | succ n ih =>
  have e:slotCells (List.replicate (n+1) (0,false))=slotCells (List.replicate n (0,false))++[.int .u32 0,.bool false]:=by
   rw [List.replicate_succ'];simp [slotCells]
  have h0:n*2 % 2=0:=by omega
  have h1:(n*2+1) % 2=1:=by omega
  rw [e,<-ih]
  simp only [madeCells,Array.toList_map,Array.toList_range]
  rw [show (n+1)*2=n*2+1+1 by omega,List.range_succ,List.range_succ]
  simp [Value.cells,h0,h1]
def NewDone (w:World) (n:Nat) (most:Int) (e:Ending) (w':World):Prop :=
 ∃p gs,e=.returned (.tuple #[.pointer (some ⟨p,0,none⟩),.int .i64 0])∧ArenaAt w' p gs none 0 (List.replicate n (0,false)) [] 0 0 most∧Keeps [] w w'∧w.heap.size<=gs∧w.heap.size<=p
theorem new_yes (w:World) (n:Nat) (most:Int) (h1:n<=65536) (hm:most≠0) :
  Calls Tryz.prog 34 #[.int .i64 n,.int .u32 most] w (NewDone w n most):=by
 have hb:(most==0)=false:=by rw [beq_eq_false_iff_ne];exact hm
 have hn1:(n:Int)<=65536:=by omega
 obtain ⟨i0,hi,hz0,hz1,hzb⟩:=info_parts Tryz.infoSlot
 clear hm
 go_enter Tryz.func34,Tryz.ntmps34
 go_wp2_with (at_make;refine wpList_make_full _ rfl _ _ 144 rfl 0 178 i0 (.agg #[.int .u32 0,.bool false]) 2 Tryz.underlying144 hi hz0 hz1 .i64 .i64 n n n rfl rfl rfl rfl (by rw [hzb];omega) (by unfold maxLen;omega) (Nat.zero_le _) ?_)
 intro w1 hr hg
 go_wp2
 have hk:Keeps [] w w1:=(Keeps.refl _ _).grown hg (fun k h=>by cases h)
 refine bodyPost_ret (results_tmp2 rfl _ _ _) rfl ⟨w1.heap.size,w.heap.size,rfl,⟨?_,?_,World.ownsRow_nil _ _ _ _,?_,fun x hx=>by cases hx⟩,hk.alloc _,Nat.le_refl _,hk.size⟩
 .simpa using blk_alloc_new (w:=w1) _
 .have h0:=hr.alloc (.cells #[.slice (some ⟨w.heap.size,0,none⟩) n n,.slice none 0 0,.int .i64 0,.int .i64 0,.int .u32 most] 146)
  have h1:=slotCells_zero n
  rw [show (Value.agg #[.int .u32 0,.bool false]).cells=#[.int .u32 0,.bool false] from rfl] at h1
  rw [h1] at h0
  simpa using h0
 .have:=row_lt hr;omega
theorem new_no (w:World) (n most:Int) (h:n<0∨65536<n∨most=0) :
  Calls Tryz.prog 34 #[.int .i64 n,.int .u32 most] w fun e w'=>e=.returned (.tuple #[.pointer none,.int .i64 31])∧w=w':=by
 by_cases h1:n<0
 .clear h
  go_enter Tryz.func34,Tryz.ntmps34
  go_wp2
  go_ret2
  exact ⟨rfl,rfl⟩
 .by_cases h2:65536<n
  .clear h
   go_enter Tryz.func34,Tryz.ntmps34
   go_wp2
   go_ret2
   exact ⟨rfl,rfl⟩
  .obtain rfl:most=0:=by omega
   clear h
   go_enter Tryz.func34,Tryz.ntmps34
   go_wp2
   go_ret2
   exact ⟨rfl,rfl⟩
end Go.Proofs.YtkdbjelhkfdfjaaGreatDoor.Ar

