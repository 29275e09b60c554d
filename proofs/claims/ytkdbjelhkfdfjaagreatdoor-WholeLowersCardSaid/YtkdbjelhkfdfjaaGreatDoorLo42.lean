/-
  Contracts that the law rests on. Conditions: none.
-/
import Derived.Test.YtkdbjelhkfdfjaaGreatDoorLo41
set_option linter.unusedVariables false
set_option maxRecDepth 100000
set_option maxHeartbeats 32000000
namespace Go.Proofs.YtkdbjelhkfdfjaaGreatDoor
open Go.RowKit
section
variable (w:World) (F:List Nat) (s k cap hs:Nat) (E:Ent) (q:Nat) (most:Int) (G:Nat->Nat)
theorem pq_entry (c:StoreAt w F s k cap hs E q most G) (x h n:Nat) (key:Int) (he:E x=some (h,key,n)) :
  Calls Tryz.prog 49 #[.pointer (some ⟨s,0,none⟩),.agg #[.int .i64 x,.int .u32 (G x:Nat)]] w fun e w'=>e=.returned (.tuple #[.agg #[.int .i64 key,.int .u64 (n:Int)],.int .i64 0])∧Keeps [] w w':=by
 obtain ⟨pa,pn,Fa,Fn,c1,c2,rfl,st⟩:=c
 have hlt:=st.lt
 obtain ⟨wa,hwa⟩:∃wa,wa=w.alloc (.cells #[.int .i64 (x:Int),.int .u32 (G x:Int)] 45 (0,0)):=⟨_,rfl⟩
 obtain ⟨w0,hw0⟩:∃w0,w0=wa.alloc (.cells #[.int .i64 0,.int .u64 0] 104 (0,0)):=⟨_,rfl⟩
 have ka:Keeps [] w wa:=by rw [hwa];exact (Keeps.refl _ _).alloc _
 have kb:Keeps [] wa w0:=by rw [hw0];exact (Keeps.refl _ _).alloc _
 have k0:Keeps [] w w0:=ka.trans kb (by simp)
 have sa:wa.heap.size=w.heap.size+1:=by rw [hwa];simp
 have hh0:w0.heap[w.heap.size]?=some (.cells #[.int .i64 (x:Int),.int .u32 (G x:Int)] 45 (0,0)):=kb.blk (by rw [hwa];exact blk_alloc_new _) (by simp)
 have hr0:w0.heap[w.heap.size+1]?=some (.cells #[.int .i64 0,.int .u64 0] 104 (0,0)):=by
  have:w0.heap[wa.heap.size]?=some (.cells #[.int .i64 0,.int .u64 0] 104 (0,0)):=by rw [hw0];exact blk_alloc_new _
  rwa [sa] at this
 have st0:=st.keep k0 (by simp)
 have kd:Keeps [] w0 w0.drew:=⟨rfl,rfl,rfl,Nat.le_refl _,fun _ _ _=>rfl⟩
 have std:=st0.keep kd (by simp)
 have hxs:(E x).isSome:=by rw [he];rfl
 have hxc:=st.ne.ok.lt x hxs
 have hlive:=are_live std.ar x hxc hxs
 have c2':=st0.c2'
 have e0:w0.cell? ⟨w.heap.size,0,none⟩=some (.int .i64 (x:Int)):=by rw [cell_of_blk hh0];rfl
 have e1:w0.cell? ⟨w.heap.size,1,none⟩=some (.int .u32 (G x:Int)):=by rw [cell_of_blk hh0];rfl
 have hstep:∀w1,Keeps [] w0.drew w1->Keeps [] w w1∧w1.heap[w.heap.size+1]?=some (.cells #[.int .i64 0,.int .u64 0] 104 (0,0))∧∃pc,∀u,Keeps [] w1 u->u.cell? ⟨s,3,none⟩=some (.iface (nTy k) (.pointer (some ⟨pn,0,none⟩)))∧u.cell? ⟨w.heap.size,0,none⟩=some (.int .i64 (x:Int)) ∧
   (method 588 (nTy k) (.pointer (some ⟨pn,0,none⟩)) "Entry").run Tryz.prog u=.ok (299,.pointer (some ⟨pc,0,none⟩)) u ∧
   Hid (Calls Tryz.prog 299 #[.pointer (some ⟨pc,0,none⟩),.int .i64 x] u fun e w2=>e=.returned (.tuple #[.agg #[.int .i64 key,.int .u64 (n:Int)],.bool true])∧Keeps [] u w2):=by
  intro w1 k1
  have st1:=std.keep k1 (by simp)
  have hh1:=(kd.trans k1 (by simp)).blk hh0 (by simp)
  obtain ⟨pc,Fc,d0,ce,_⟩:=st1.ne.cells
  refine ⟨(k0.trans kd (by simp)).trans k1 (by simp),(kd.trans k1 (by simp)).blk hr0 (by simp),pc,fun u ku=>?_⟩
  have stu:=st1.keep ku (by simp)
  have du:u.cell? ⟨pn,0,none⟩=some (.pointer (some ⟨pc,0,none⟩)):=(World.cell?_of_block (a:=⟨pn,0,none⟩) (ku.block pn (st1.ne.lt pn st1.ne.mem) (by simp))).trans d0
  refine ⟨stu.c3,by rw [cell_of_blk (ku.blk hh1 (by simp))];rfl,n_entry_m k u pn pc du,(cells_entry u Fc pc cap hs E (ce.keep ku (by simp)) x h n key he).mono ?_⟩
  rintro e w2 ⟨rfl,b2⟩
  exact ⟨rfl,Below.keeps b2 (Nat.le_refl _) []⟩
 have HS:=Lib.hid hstep
 clear hstep st st0 std hlt ka kb k0 kd hh0 hr0 he hxs
 go_enter Tryz.func49,Tryz.ntmps49
 go_upto_region 1 with fail
 rw [<-hwa,<-hw0]
 clear hwa hw0 sa
 go_region_law (first
  | (go_simp;go_at_call 83;refine hlive.mono ?_;rintro e w1 ⟨rfl,k1⟩;obtain ⟨z1,z2,pc,z3⟩:=HS.out w1 k1;clear k1))
 all_goals
  clear hlive c2' e0 e1 HS
  have kd1:Keeps [] w1 w1.drew:=⟨rfl,rfl,rfl,Nat.le_refl _,fun _ _ _=>rfl⟩
  have kA1:Keeps [] w1 (w1.alloc (.cells #[.int .i64 0,.int .u64 0] 104 (0,0))):=(Keeps.refl _ _).alloc _
  have kA2:Keeps [] w1 (w1.alloc (.cells #[.int .i64 0,.int .u64 0] 104 (0,0))).drew:=kA1.drew
  obtain ⟨y1,y2,y3,_⟩:=z3 w1 (Keeps.refl _ _)
  obtain ⟨_,_,y6,y7⟩:=z3 _ kd1
  obtain ⟨x1,x2,x3,_⟩:=z3 _ kA1
  obtain ⟨_,_,x6,x7⟩:=z3 _ kA2
  have Z1:=Lib.hid z1
  have Z2:=Lib.hid z2
  have KD:=Lib.hid kd1
  have KA:=Lib.hid kA2
  clear z1 z2 z3 kd1 kA1 kA2
  go_upto_region 3 with fail
  go_region_law (first
   | (go_simp;go_at_call 299;refine y7.out.mono ?_;rintro e w2 ⟨rfl,k2⟩;obtain ⟨w3,hw3⟩:∃w3,w3=w2.alloc (.cells #[.int .i64 key,.int .u64 (n:Int)] 104 (0,0)):=⟨_,rfl⟩;
       have b10:w3.heap[w2.heap.size]?=some (.cells #[.int .i64 key,.int .u64 (n:Int)] 104 (0,0)):=(by rw [hw3];exact blk_alloc_new _);
       have k3:Keeps [] w1 w3:=(by rw [hw3];exact (KD.out.trans k2 (by simp)).alloc _);have B10:=Lib.hid b10;have K3:=Lib.hid k3;clear b10 k3)
   | (go_simp;go_at_call 299;refine x7.out.mono ?_;rintro e w2 ⟨rfl,k2⟩;have b9:w2.heap[w1.heap.size]?=some (.cells #[.int .i64 0,.int .u64 0] 104 (0,0)):=k2.blk (k:=w1.heap.size) (blk_alloc_new (w:=w1) _) (by simp);have g0:w2.cell? ⟨w1.heap.size,0,none⟩=some (.int .i64 0):=(by rw [cell_of_blk b9];rfl);have g1:w2.cell? ⟨w1.heap.size,1,none⟩=some (.int .u64 0):=(by rw [cell_of_blk b9];rfl);have g2:w2.frozen? ⟨w1.heap.size,0,none⟩=false:=frozen_of_blk b9;have g3:w2.frozen? ⟨w1.heap.size,1,none⟩=false:=frozen_of_blk b9;
       obtain ⟨w3,hw3⟩:∃w3,w3=(w2.setCell ⟨w1.heap.size,0,none⟩ (.int .i64 key)).setCell ⟨w1.heap.size,1,none⟩ (.int .u64 (n:Int)):=⟨_,rfl⟩;
       have b10:w3.heap[w1.heap.size]?=some (.cells #[.int .i64 key,.int .u64 (n:Int)] 104 (0,0)):=(by rw [hw3];have:=blk_setCell (i:=1) (.int .u64 (n:Int)) (blk_setCell (i:=0) (.int .i64 key) b9);simpa using this);
       have k3:Keeps [] w1 w3:=(by rw [hw3];exact (((KA.out.trans k2 (by simp))).setCell (.inr (Nat.le_refl _)) _).setCell (.inr (Nat.le_refl _)) _);have B10:=Lib.hid b10;have K3:=Lib.hid k3;clear b10 k3 b9))
  all_goals
   rw [<-hw3]
   have b6:w3.heap[w.heap.size+1]?=some (.cells #[.int .i64 0,.int .u64 0] 104 (0,0)):=K3.out.blk Z2.out (by simp)
   have g8:=cell_of_blk (i:=0) B10.out
   have g9:=cell_of_blk (i:=1) B10.out
   have e8:(#[.int .i64 key,.int .u64 (n:Int)]:Array Value)[0]?=some (.int .i64 key):=rfl
   have e9:(#[.int .i64 key,.int .u64 (n:Int)]:Array Value)[1]?=some (.int .u64 (n:Int)):=rfl
   rw [e8] at g8
   rw [e9] at g9
   have r2:w3.cell? ⟨w.heap.size+1,0,none⟩=some (.int .i64 0):=by rw [cell_of_blk b6];rfl
   have r3:w3.cell? ⟨w.heap.size+1,1,none⟩=some (.int .u64 0):=by rw [cell_of_blk b6];rfl
   have r4:w3.frozen? ⟨w.heap.size+1,0,none⟩=false:=frozen_of_blk b6
   have r5:w3.frozen? ⟨w.heap.size+1,1,none⟩=false:=frozen_of_blk b6
   have hblk:=blk_setCell (i:=1) (.int .u64 (n:Int)) (blk_setCell (i:=0) (.int .i64 key) b6)
   have HB:=Lib.hid hblk
   have hkk:∀v0 v1,Keeps [] w ((w3.setCell ⟨w.heap.size+1,0,none⟩ v0).setCell ⟨w.heap.size+1,1,none⟩ v1):=fun v0 v1=>((Z1.out.trans K3.out (by simp)).setCell (.inr (by simp)) _).setCell (.inr (by simp)) _
   have HK:=Lib.hid hkk
   clear hw3 y1 y2 y3 y6 y7 x1 x2 x3 x6 x7 Z1 Z2 KD KA B10 K3 k2 b6 e8 e9 hblk hkk
   go_wp2_with fail
   refine bodyPost_ret (v:=.tuple #[.agg #[.int .i64 key,.int .u64 (n:Int)],.int .i64 0]) ?_ rfl ⟨rfl,HK.out _ _⟩
   refine (results_cell2 (p:=4) (u:=5) rfl _ _ (w.heap.size+1) 104 #[.int .i64 key,.int .u64 (n:Int)] (0,0) _ (by simp) ?_ Tryz.underlying104 rfl (by kernel_rfl)).trans ?_
   .have:=HB.out
    simpa using this
   .simp
end
end Go.Proofs.YtkdbjelhkfdfjaaGreatDoor

