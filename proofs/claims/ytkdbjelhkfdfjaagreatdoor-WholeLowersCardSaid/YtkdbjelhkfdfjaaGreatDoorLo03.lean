/-
  Contracts that the law rests on. Conditions: none.
-/
import Derived.Test.YtkdbjelhkfdfjaaGreatDoorLo01
import Derived.Test.YtkdbjelhkfdfjaaGreatDoorRows
import Derived.BigQuiet
import Derived.BigRegion
import Derived.ChangeKeysEq
import Derived.Deep.AppendLies
import Derived.Deep.Cut
import Derived.Deep.CutBlock
import Derived.Deep.DeepCutAuto
import Derived.Deep.LoopGhost
import Derived.Deep.QuietTactic
import Derived.Deep.RegionHeld3
import Derived.Deep.RegionLaw
import Derived.DeepKeys4
import Derived.IntWalk
import Derived.Laws.Entries
import Derived.Laws.IdiomStrings
import Derived.Laws.ResultCell
import Derived.Laws.Rows
import Derived.Laws.StructEq
import Derived.Lib.Hide
import Derived.Lib.SliceRun
import Derived.Maps.OwnSet
import Derived.Maps.Views
import Derived.Outline
import Derived.RegionTactic
import Derived.StillTailTactics
import Derived.WalkLawsBesides
import Derived.WalkSpells
set_option linter.unusedVariables false
set_option maxRecDepth 100000
set_option maxHeartbeats 32000000
namespace Go.Proofs.YtkdbjelhkfdfjaaGreatDoor.Nm
open Go.RowKit
structure NamesAt (w:World) (p g cap:Nat) (L:List Int) (most cnt:Int):Prop where
 blk:w.heap[p]?=some (.cells #[.slice (some ⟨g,0,none⟩) L.length cap,.int .i64 most,.int .i64 cnt] 309 (0,0))
 row:w.ownsRow 0 3 1 (.slice (some ⟨g,0,none⟩) L.length cap) L.length (L.map fun n=>.int .i64 n)
 ne:g≠p
theorem made_yes (w:World) (p g cap:Nat) (L:List Int) (most cnt id:Int) (h:NamesAt w p g cap L most cnt) (h1:0<id) (h2:id<L.length) :
  Calls Tryz.prog 327 #[.pointer (some ⟨p,0,none⟩),.int .i64 id] w fun e w'=>e=.returned (.bool true)∧w=w':=by
 have c0:w.cell? ⟨p,0,none⟩=some (.slice (some ⟨g,0,none⟩) L.length cap):=by rw [cell_of_blk h.blk];rfl
 go_enter Tryz.func327,Tryz.ntmps327
 go_wp2
 go_ret
 exact ⟨rfl,rfl⟩
theorem made_no (w:World) (p g cap:Nat) (L:List Int) (most cnt id:Int) (h:NamesAt w p g cap L most cnt) (h1:¬(0<id∧id<L.length)) :
  Calls Tryz.prog 327 #[.pointer (some ⟨p,0,none⟩),.int .i64 id] w fun e w'=>e=.returned (.bool false)∧w=w':=by
 have c0:w.cell? ⟨p,0,none⟩=some (.slice (some ⟨g,0,none⟩) L.length cap):=by rw [cell_of_blk h.blk];rfl
 by_cases h0:0<id
 .have h2:(L.length:Int)<=id:=by omega
  clear h1
  go_enter Tryz.func327,Tryz.ntmps327
  go_wp2
  go_ret
  exact ⟨by simp;omega,rfl⟩
 .clear h1
  go_enter Tryz.func327,Tryz.ntmps327
  go_wp2
  go_ret
  exact ⟨rfl,rfl⟩
theorem last_calls (w:World) (p g cap:Nat) (L:List Int) (most cnt:Int) (h:NamesAt w p g cap L most cnt) (h0:0<L.length) (hl:L.length<70000) :
  Calls Tryz.prog 334 #[.pointer (some ⟨p,0,none⟩)] w fun e w'=>e=.returned (.int .i64 (L.length - 1))∧w=w':=by
 have c0:w.cell? ⟨p,0,none⟩=some (.slice (some ⟨g,0,none⟩) L.length cap):=by rw [cell_of_blk h.blk];rfl
 go_enter Tryz.func334,Tryz.ntmps334
 go_wp2
 go_ret
 exact ⟨rfl,rfl⟩
theorem getElem_of_getD {L:List Int} {i:Nat} {x:Int} (h2:i<L.length) (h3:L.getD i 0=x):L[i]?=some x:=by
 rw [<-h3];simp [List.getD,h2]
theorem NamesAt.cell {w:World} {p g cap:Nat} {L:List Int} {most cnt:Int} (h:NamesAt w p g cap L most cnt) (i:Nat) (h2:i<L.length) :
  w.cell? ⟨g,i,none⟩=some (.int .i64 (L.getD i 0)):=by
 rw [h.row.cellAt i (by simpa using h2),List.getElem?_map,getElem_of_getD h2 rfl];rfl
theorem has_yes (w:World) (p g cap:Nat) (L:List Int) (most cnt:Int) (i:Nat) (h:NamesAt w p g cap L most cnt) (h1:0<i) (h2:i<L.length) (h3:L.getD i 0=i) :
  Calls Tryz.prog 314 #[.pointer (some ⟨p,0,none⟩),.int .i64 i] w fun e w'=>e=.returned (.bool true)∧w=w':=by
 have c0:w.cell? ⟨p,0,none⟩=some (.slice (some ⟨g,0,none⟩) L.length cap):=by rw [cell_of_blk h.blk];rfl
 have c1:w.cell? ⟨g,i,none⟩=some (.int .i64 i):=by rw [h.cell i h2,h3]
 clear h3
 go_enter Tryz.func314,Tryz.ntmps314
 go_wp2_with (go_at_call 327;refine (made_yes _ _ _ _ _ _ _ _ h (by omega) (by omega)).mono ?_;rintro e w' ⟨rfl,rfl⟩)
 go_ret
 exact ⟨rfl,rfl⟩
theorem has_no (w:World) (p g cap:Nat) (L:List Int) (most cnt id:Int) (h:NamesAt w p g cap L most cnt) (h1:¬(0<id∧id<L.length∧L.getD id.toNat 0=id)) :
  Calls Tryz.prog 314 #[.pointer (some ⟨p,0,none⟩),.int .i64 id] w fun e w'=>e=.returned (.bool false)∧w=w':=by
 have c0:w.cell? ⟨p,0,none⟩=some (.slice (some ⟨g,0,none⟩) L.length cap):=by rw [cell_of_blk h.blk];rfl
 by_cases h0:0<id∧id<L.length
 .obtain ⟨ha,hb⟩:=h0
  obtain ⟨i,rfl⟩:=Int.eq_ofNat_of_zero_le (show 0<=id by omega)
  have c1:=h.cell i (by omega)
  obtain ⟨x,hx⟩:∃x,x=L.getD i 0:=⟨_,rfl⟩
  have hne:(x==(i:Int))=false:=by
   rw [beq_eq_false_iff_ne];intro e;exact h1 ⟨ha,hb,by rw [Int.toNat_natCast,<-hx];exact e⟩
  rw [<-hx] at c1
  clear h1 hx
  go_enter Tryz.func314,Tryz.ntmps314
  go_wp2_with (go_at_call 327;refine (made_yes _ _ _ _ _ _ _ _ h (by omega) (by omega)).mono ?_;rintro e w' ⟨rfl,rfl⟩)
  go_ret
  exact ⟨rfl,rfl⟩
 .have H:=Lib.hid h0
  clear h1 h0
  go_enter Tryz.func314,Tryz.ntmps314
  go_wp2_with (go_at_call 327;refine (made_no _ _ _ _ _ _ _ _ h H.out).mono ?_;rintro e w' ⟨rfl,rfl⟩)
  go_ret
  exact ⟨rfl,rfl⟩
theorem Tryz.infoInt:(Tryz.prog.info? 3).map (fun i=>(i.zero,i.size,i.bytes))=some (some (.int .i64 0),1,8):=by kernel_rfl
theorem NamesAt.drewN {w:World} {p g cap:Nat} {L:List Int} {most cnt:Int} (h:NamesAt w p g cap L most cnt) (n:Nat):NamesAt (w.drewN n) p g cap L most cnt :=
 ⟨h.blk,h.row,h.ne⟩
def MadeOne (w:World) (p g:Nat) (L:List Int) (most cnt:Int) (w':World):Prop :=
 ∃g' cap',NamesAt w' p g' cap' (L++[(L.length:Int)]) most (cnt+1)∧Keeps [p,g] w w'∧(g'=g∨w.heap.size<=g')
theorem make_yes (w:World) (p g cap:Nat) (L:List Int) (most cnt:Int) (h:NamesAt w p g cap L most cnt) (h0:0<L.length) (hl:L.length<70000) (hm:(L.length:Int)<=most) (hc:-70000<cnt) (hc':cnt<70000) :
  Calls Tryz.prog 328 #[.pointer (some ⟨p,0,none⟩)] w fun e w'=>e=.returned (.tuple #[.int .i64 L.length,.bool true])∧MadeOne w p g L most cnt w':=by
 have c0:w.cell? ⟨p,0,none⟩=some (.slice (some ⟨g,0,none⟩) L.length cap):=by rw [cell_of_blk h.blk];rfl
 have c1:w.cell? ⟨p,1,none⟩=some (.int .i64 most):=by rw [cell_of_blk h.blk];rfl
 have c2:w.cell? ⟨p,2,none⟩=some (.int .i64 cnt):=by rw [cell_of_blk h.blk];rfl
 have f0:w.frozen? ⟨p,0,none⟩=false:=frozen_of_blk h.blk
 have f2:w.frozen? ⟨p,2,none⟩=false:=frozen_of_blk h.blk
 have hp:=lt_of_block h.blk
 have hne:((L.length:Int) - 1==most)=false:=by rw [beq_eq_false_iff_ne];omega
 go_enter Tryz.func328,Tryz.ntmps328
 go_wp2_with fail
 go_quiet ((go_at_call 334;refine Calls.quiet_of_same ((last_calls _ p g cap L most cnt (h.drewN _) (by omega) (by omega)).mono fun _ _ hh=>⟨hh.1,hh.2.symm⟩)))
 go_wp2_with (at_builtin;(refine wpList_push _ 3 (.int .i64 L.length) (0,0) rfl _ _ 28 rfl (.int .i64 0) 8 Tryz.underlying28 Tryz.infoInt rfl rfl _ _ _ rfl (h.drewN nq).row rfl (by unfold maxLen;omega) (by omega) ?_))
 intro g' cap' w1 hr hk hf
 have hb1:=hk.blk h.blk (by simpa [Value.ownBlock] using h.ne.symm)
 have hlt:=hk.size
 have hne':g'≠p:=by
  rcases hf with hf|hf
  .simp only [Value.ownBlock,Option.some.injEq] at hf;subst hf;exact h.ne
  .have hf2:w.heap.size<=g':=hf
   omega
 have d0:w1.cell? ⟨p,0,none⟩=some (.slice (some ⟨g,0,none⟩) L.length cap):=by rw [cell_of_blk hb1];rfl
 have d2:w1.cell? ⟨p,2,none⟩=some (.int .i64 cnt):=by rw [cell_of_blk hb1];rfl
 have e0:w1.frozen? ⟨p,0,none⟩=false:=frozen_of_blk hb1
 have e2:w1.frozen? ⟨p,2,none⟩=false:=frozen_of_blk hb1
 have hfin:MadeOne w p g L most cnt ((w1.setCell ⟨p,0,none⟩ (.slice (some ⟨g',0,none⟩) (L.length+1) cap')).setCell ⟨p,2,none⟩ (.int .i64 (cnt+1))):=by
  have hk':Keeps [p] w1 ((w1.setCell ⟨p,0,none⟩ (.slice (some ⟨g',0,none⟩) (L.length+1) cap')).setCell ⟨p,2,none⟩ (.int .i64 (cnt+1))) :=
   ((Keeps.refl _ _).setCell (.inl (by simp)) _).setCell (.inl (by simp)) _
  refine ⟨g',cap',⟨?_,?_,hne'⟩,?_,?_⟩
  .rw [blk_setCell _ (blk_setCell _ hb1)];simp
  .have:=hk'.row hr (by simpa using hne')
   simpa using this
  .have hk0:Keeps [p,g] w w1:=Keeps.mono (S:=[g]) ⟨hk.os,hk.tape,hk.output,hk.size,hk.block⟩ (by simp)
   exact hk0.trans hk' (by simp)
  .rcases hf with hf|hf
   .simp only [Value.ownBlock,Option.some.injEq] at hf;exact .inl hf.symm
   .exact .inr hf
 clear hk hf hr hb1
 go_wp2
 go_ret2
 exact ⟨rfl,hfin⟩
def NewNames (w:World) (most:Int) (w':World):Prop :=
 NamesAt w' (w.heap.size+1) w.heap.size 1 [0] most 0∧Keeps [] w w'∧w'.heap.size=w.heap.size+2
theorem new_yes (w:World) (most:Int) (h0:0<=most) (h1:most<=65536) :
  Calls Tryz.prog 117 #[.int .i64 most] w fun e w'=>e=.returned (.tuple #[.pointer (some ⟨w.heap.size+1,0,none⟩),.int .i64 0])∧NewNames w most w':=by
 have hfin:NewNames w most ((w.alloc (.cells #[.int .i64 0] 3)).alloc (.cells #[.slice (some ⟨w.heap.size,0,none⟩) 1 1,.int .i64 most,.int .i64 0] 309)):=by
  refine ⟨⟨?_,?_,by omega⟩,((Keeps.refl _ _).alloc _).alloc _,by simp⟩
  .have:=blk_alloc_new (w:=w.alloc (.cells #[.int .i64 0] 3)) (.cells #[.slice (some ⟨w.heap.size,0,none⟩) 1 1,.int .i64 most,.int .i64 0] 309)
   simpa using this
  .refine ⟨by simp,.inr ⟨w.heap.size,1,#[.int .i64 0],rfl,Nat.zero_le _,?_,by simp,by decide,by simp,by simp⟩⟩
   rw [blk_alloc_old _ (by simp),blk_alloc_new]
 go_enter Tryz.func117,Tryz.ntmps117
 go_wp2
 go_ret2
 exact ⟨rfl,hfin⟩
theorem new_no (w:World) (most:Int) (h:most<0∨65536<most) :
  Calls Tryz.prog 117 #[.int .i64 most] w fun e w'=>e=.returned (.tuple #[.pointer none,.int .i64 31])∧w=w':=by
 rcases h with h|h
 .go_enter Tryz.func117,Tryz.ntmps117
  go_wp2
  go_ret2
  exact ⟨rfl,rfl⟩
 .have h':¬most<0:=by omega
  go_enter Tryz.func117,Tryz.ntmps117
  go_wp2
  go_ret2
  exact ⟨rfl,rfl⟩
end Go.Proofs.YtkdbjelhkfdfjaaGreatDoor.Nm
namespace Go.Proofs.YtkdbjelhkfdfjaaGreatDoor
open Go.RowKit
theorem sp32:((⟨#[32]⟩:ByteArray)[0]'(by decide)).toNat=32:=rfl
theorem count_sort (w:World):Calls Tryz.prog 123 #[.string ⟨#[115,111,114,116,32,50,32,49]⟩,.string ⟨#[32]⟩] w fun e w'=>e=.returned (.int .i64 2)∧w=w':=by
 have hx:∀u,(callFunc 153 #[.string ⟨#[115,111,114,116,32,50,32,49]⟩,.int .u8 32]).run Tryz.prog u=.ok (.value (.int .i64 2)) u:=fun u=>by kernel_rfl
 have h32:=sp32
 go_enter Tryz.func123,Tryz.ntmps123
 go_wp2_with fail
 go_ret
 exact ⟨rfl,rfl⟩
theorem count_kind (w:World):Calls Tryz.prog 123 #[.string ⟨#[107,105,110,100,32,115,107,101,119]⟩,.string ⟨#[32]⟩] w fun e w'=>e=.returned (.int .i64 1)∧w=w':=by
 have hx:∀u,(callFunc 153 #[.string ⟨#[107,105,110,100,32,115,107,101,119]⟩,.int .u8 32]).run Tryz.prog u=.ok (.value (.int .i64 1)) u:=fun u=>by kernel_rfl
 have h32:=sp32
 go_enter Tryz.func123,Tryz.ntmps123
 go_wp2_with fail
 go_ret
 exact ⟨rfl,rfl⟩
theorem index_sort0 (w:World):Calls Tryz.prog 124 #[.string ⟨#[115,111,114,116,32,50,32,49]⟩,.string ⟨#[32]⟩] w fun e w'=>e=.returned (.int .i64 4)∧w=w':=by
 have hx:∀u,(callFunc 121 #[.string ⟨#[115,111,114,116,32,50,32,49]⟩,.int .u8 32]).run Tryz.prog u=.ok (.value (.int .i64 4)) u:=fun u=>by kernel_rfl
 have h0:Calls Tryz.prog 97 #[.string ⟨#[115,111,114,116,32,50,32,49]⟩,.int .u8 32] w fun e w'=>e=.returned (.int .i64 4)∧w=w':=by
  go_enter Tryz.func97,Tryz.ntmps97
  go_wp2_with fail
  go_ret
  exact ⟨rfl,rfl⟩
 have h32:=sp32
 have h1:Calls Tryz.prog 154 #[.string ⟨#[115,111,114,116,32,50,32,49]⟩,.string ⟨#[32]⟩] w fun e w'=>e=.returned (.int .i64 4)∧w=w':=by
  go_enter Tryz.func154,Tryz.ntmps154
  go_wp2_with (go_at_call 97;refine h0.mono ?_;rintro e w' ⟨rfl,rfl⟩)
  go_ret
  exact ⟨rfl,rfl⟩
 go_enter Tryz.func124,Tryz.ntmps124
 go_wp2_with (go_at_call 154;refine h1.mono ?_;rintro e w' ⟨rfl,rfl⟩)
 go_ret
 exact ⟨rfl,rfl⟩
theorem index_sort1 (w:World):Calls Tryz.prog 124 #[.string ⟨#[50,32,49]⟩,.string ⟨#[32]⟩] w fun e w'=>e=.returned (.int .i64 1)∧w=w':=by
 have hx:∀u,(callFunc 121 #[.string ⟨#[50,32,49]⟩,.int .u8 32]).run Tryz.prog u=.ok (.value (.int .i64 1)) u:=fun u=>by kernel_rfl
 have h0:Calls Tryz.prog 97 #[.string ⟨#[50,32,49]⟩,.int .u8 32] w fun e w'=>e=.returned (.int .i64 1)∧w=w':=by
  go_enter Tryz.func97,Tryz.ntmps97
  go_wp2_with fail
  go_ret
  exact ⟨rfl,rfl⟩
 have h32:=sp32
 have h1:Calls Tryz.prog 154 #[.string ⟨#[50,32,49]⟩,.string ⟨#[32]⟩] w fun e w'=>e=.returned (.int .i64 1)∧w=w':=by
  go_enter Tryz.func154,Tryz.ntmps154
  go_wp2_with (go_at_call 97;refine h0.mono ?_;rintro e w' ⟨rfl,rfl⟩)
  go_ret
  exact ⟨rfl,rfl⟩
 go_enter Tryz.func124,Tryz.ntmps124
 go_wp2_with (go_at_call 154;refine h1.mono ?_;rintro e w' ⟨rfl,rfl⟩)
 go_ret
 exact ⟨rfl,rfl⟩
theorem index_kind0 (w:World):Calls Tryz.prog 124 #[.string ⟨#[107,105,110,100,32,115,107,101,119]⟩,.string ⟨#[32]⟩] w fun e w'=>e=.returned (.int .i64 4)∧w=w':=by
 have hx:∀u,(callFunc 121 #[.string ⟨#[107,105,110,100,32,115,107,101,119]⟩,.int .u8 32]).run Tryz.prog u=.ok (.value (.int .i64 4)) u:=fun u=>by kernel_rfl
 have h0:Calls Tryz.prog 97 #[.string ⟨#[107,105,110,100,32,115,107,101,119]⟩,.int .u8 32] w fun e w'=>e=.returned (.int .i64 4)∧w=w':=by
  go_enter Tryz.func97,Tryz.ntmps97
  go_wp2_with fail
  go_ret
  exact ⟨rfl,rfl⟩
 have h32:=sp32
 have h1:Calls Tryz.prog 154 #[.string ⟨#[107,105,110,100,32,115,107,101,119]⟩,.string ⟨#[32]⟩] w fun e w'=>e=.returned (.int .i64 4)∧w=w':=by
  go_enter Tryz.func154,Tryz.ntmps154
  go_wp2_with (go_at_call 97;refine h0.mono ?_;rintro e w' ⟨rfl,rfl⟩)
  go_ret
  exact ⟨rfl,rfl⟩
 go_enter Tryz.func124,Tryz.ntmps124
 go_wp2_with (go_at_call 154;refine h1.mono ?_;rintro e w' ⟨rfl,rfl⟩)
 go_ret
 exact ⟨rfl,rfl⟩
theorem Tryz.infoStr:(Tryz.prog.info? 9).map (fun i=>(i.zero,i.size,i.bytes))=some (some (.string ⟨#[]⟩),1,16):=by kernel_rfl
theorem made2:madeCells #[.string ⟨#[]⟩] 2=#[.string ⟨#[]⟩,.string ⟨#[]⟩]:=by
 have h:Array.range 2=#[0,1]:=by decide
 simp [madeCells,h]
theorem made3:madeCells #[.string ⟨#[]⟩] 3=#[.string ⟨#[]⟩,.string ⟨#[]⟩,.string ⟨#[]⟩]:=by
 have h:Array.range 3=#[0,1,2]:=by decide
 simp [madeCells,h]
theorem gen_sort (w:World):Calls Tryz.prog 99 #[.string ⟨#[115,111,114,116,32,50,32,49]⟩,.string ⟨#[32]⟩,.int .i64 0,.int .i64 (-1)] w fun e w'=>e=.returned (.slice (some ⟨w.heap.size,0,none⟩) 3 3)∧Keeps [] w w'∧w'.heap[w.heap.size]?=some (.cells #[.string ⟨#[115,111,114,116]⟩,.string ⟨#[50]⟩,.string ⟨#[49]⟩] 9 (0,0)):=by
 have hmk:∀u:World,(Instr.makeSlice 65 (.int .i64 3) (.int .i64 3)).run Tryz.prog u=.ok (.slice (some ⟨u.heap.size,0,none⟩) 3 3) (u.alloc (.cells #[.string ⟨#[]⟩,.string ⟨#[]⟩,.string ⟨#[]⟩] 9)):=fun u=>by
  have:=run_make_row' (P:=Tryz.prog) 65 9 (.string ⟨#[]⟩) 16 Tryz.underlying65 Tryz.infoStr rfl .i64 .i64 3 (by omega) (by omega) u
  rwa [made3] at this
 have hct:=count_sort
 have h0:=index_sort0
 have h1:=index_sort1
 obtain ⟨w1,hw1⟩:∃w1,w1=w.alloc (.cells #[.string ⟨#[]⟩,.string ⟨#[]⟩,.string ⟨#[]⟩] 9):=⟨_,rfl⟩
 have hb:w1.heap[w.heap.size]?=some (.cells #[.string ⟨#[]⟩,.string ⟨#[]⟩,.string ⟨#[]⟩] 9 (0,0)):=by rw [hw1];exact blk_alloc_new _
 have k1:Keeps [] w w1:=by rw [hw1];exact (Keeps.refl _ _).alloc _
 go_enter Tryz.func99,Tryz.ntmps99
 go_upto_region 9 with (go_at_call 123;refine (hct _).mono ?_;rintro e w' ⟨rfl,rfl⟩)
 rw [<-hw1]
 clear hw1
 go_wp2_with fail
 go_loopg [0,10,11] 3 (fun k s i m wr=>(k=3∧s=.string ⟨#[115,111,114,116,32,50,32,49]⟩∧i=.int .i64 0∧Keeps [] w wr∧wr.heap[w.heap.size]?=some (.cells #[.string ⟨#[]⟩,.string ⟨#[]⟩,.string ⟨#[]⟩] 9 (0,0)))
  ∨ (k=2∧s=.string ⟨#[50,32,49]⟩∧i=.int .i64 1∧Keeps [] w wr∧wr.heap[w.heap.size]?=some (.cells #[.string ⟨#[115,111,114,116]⟩,.string ⟨#[]⟩,.string ⟨#[]⟩] 9 (0,0)))
  ∨ (k=1∧s=.string ⟨#[49]⟩∧i=.int .i64 2∧Keeps [] w wr∧wr.heap[w.heap.size]?=some (.cells #[.string ⟨#[115,111,114,116]⟩,.string ⟨#[50]⟩,.string ⟨#[]⟩] 9 (0,0))))
 case atStart=>exact .inl ⟨rfl,rfl,rfl,k1,hb⟩
 case round =>
  clear hb k1
  rcases hrel with ⟨hk,rfl,rfl,kk,bb⟩|⟨hk,rfl,rfl,kk,bb⟩|⟨hk,rfl,rfl,kk,bb⟩
  .have hf:wr.frozen? ⟨w.heap.size,0,none⟩=false:=frozen_of_blk bb
   have hc:wr.cell? ⟨w.heap.size,0,none⟩=some (.string ⟨#[]⟩):=by rw [cell_of_blk bb];rfl
   have hs:(wr.setCell ⟨w.heap.size,0,none⟩ (.string ⟨#[115,111,114,116]⟩)).heap[w.heap.size]?=some (.cells #[.string ⟨#[115,111,114,116]⟩,.string ⟨#[]⟩,.string ⟨#[]⟩] 9 (0,0)):=(blk_setCell _ bb).trans rfl
   have hkk:=kk.setCell (p:=⟨w.heap.size,0,none⟩) (.inr (Nat.le_refl _)) (.string ⟨#[115,111,114,116]⟩)
   have HS:=Lib.hid hs
   have HK:=Lib.hid hkk
   clear hs hkk kk bb
   go_wp2_with (go_at_call 124;refine (h0 _).mono ?_;rintro e w' ⟨rfl,rfl⟩)
   go_roundg 2
   case measure=>omega
   case rel=>exact .inr (.inl ⟨rfl,rfl,rfl,HK.out,HS.out⟩)
  .have hf:wr.frozen? ⟨w.heap.size,1,none⟩=false:=frozen_of_blk bb
   have hc:wr.cell? ⟨w.heap.size,1,none⟩=some (.string ⟨#[]⟩):=by rw [cell_of_blk bb];rfl
   have hs:(wr.setCell ⟨w.heap.size,1,none⟩ (.string ⟨#[50]⟩)).heap[w.heap.size]?=some (.cells #[.string ⟨#[115,111,114,116]⟩,.string ⟨#[50]⟩,.string ⟨#[]⟩] 9 (0,0)):=(blk_setCell _ bb).trans rfl
   have hkk:=kk.setCell (p:=⟨w.heap.size,1,none⟩) (.inr (Nat.le_refl _)) (.string ⟨#[50]⟩)
   have HS:=Lib.hid hs
   have HK:=Lib.hid hkk
   clear hs hkk kk bb
   go_wp2_with (go_at_call 124;refine (h1 _).mono ?_;rintro e w' ⟨rfl,rfl⟩)
   go_roundg 1
   case measure=>omega
   case rel=>exact .inr (.inr (⟨rfl,rfl,rfl,HK.out,HS.out⟩))
  .have hf:wr.frozen? ⟨w.heap.size,2,none⟩=false:=frozen_of_blk bb
   have hc:wr.cell? ⟨w.heap.size,2,none⟩=some (.string ⟨#[]⟩):=by rw [cell_of_blk bb];rfl
   have hs:(wr.setCell ⟨w.heap.size,2,none⟩ (.string ⟨#[49]⟩)).heap[w.heap.size]?=some (.cells #[.string ⟨#[115,111,114,116]⟩,.string ⟨#[50]⟩,.string ⟨#[49]⟩] 9 (0,0)):=(blk_setCell _ bb).trans rfl
   have hkk:=kk.setCell (p:=⟨w.heap.size,2,none⟩) (.inr (Nat.le_refl _)) (.string ⟨#[49]⟩)
   have HS:=Lib.hid hs
   have HK:=Lib.hid hkk
   clear hs hkk kk bb
   go_wp2_with fail
   go_ret
   exact ⟨rfl,HK.out,HS.out⟩
theorem gen_kind (w:World):Calls Tryz.prog 99 #[.string ⟨#[107,105,110,100,32,115,107,101,119]⟩,.string ⟨#[32]⟩,.int .i64 0,.int .i64 (-1)] w fun e w'=>e=.returned (.slice (some ⟨w.heap.size,0,none⟩) 2 2)∧Keeps [] w w'∧w'.heap[w.heap.size]?=some (.cells #[.string ⟨#[107,105,110,100]⟩,.string ⟨#[115,107,101,119]⟩] 9 (0,0)):=by
 have hmk:∀u:World,(Instr.makeSlice 65 (.int .i64 2) (.int .i64 2)).run Tryz.prog u=.ok (.slice (some ⟨u.heap.size,0,none⟩) 2 2) (u.alloc (.cells #[.string ⟨#[]⟩,.string ⟨#[]⟩] 9)):=fun u=>by
  have:=run_make_row' (P:=Tryz.prog) 65 9 (.string ⟨#[]⟩) 16 Tryz.underlying65 Tryz.infoStr rfl .i64 .i64 2 (by omega) (by omega) u
  rwa [made2] at this
 have hct:=count_kind
 have h0:=index_kind0
 obtain ⟨w1,hw1⟩:∃w1,w1=w.alloc (.cells #[.string ⟨#[]⟩,.string ⟨#[]⟩] 9):=⟨_,rfl⟩
 have hb:w1.heap[w.heap.size]?=some (.cells #[.string ⟨#[]⟩,.string ⟨#[]⟩] 9 (0,0)):=by rw [hw1];exact blk_alloc_new _
 have k1:Keeps [] w w1:=by rw [hw1];exact (Keeps.refl _ _).alloc _
 go_enter Tryz.func99,Tryz.ntmps99
 go_upto_region 9 with (go_at_call 123;refine (hct _).mono ?_;rintro e w' ⟨rfl,rfl⟩)
 rw [<-hw1]
 clear hw1
 go_wp2_with fail
 go_loopg [0,10,11] 2 (fun k s i m wr=>(k=2∧s=.string ⟨#[107,105,110,100,32,115,107,101,119]⟩∧i=.int .i64 0∧Keeps [] w wr∧wr.heap[w.heap.size]?=some (.cells #[.string ⟨#[]⟩,.string ⟨#[]⟩] 9 (0,0)))
  ∨ (k=1∧s=.string ⟨#[115,107,101,119]⟩∧i=.int .i64 1∧Keeps [] w wr∧wr.heap[w.heap.size]?=some (.cells #[.string ⟨#[107,105,110,100]⟩,.string ⟨#[]⟩] 9 (0,0))))
 case atStart=>exact .inl ⟨rfl,rfl,rfl,k1,hb⟩
 case round =>
  clear hb k1
  rcases hrel with ⟨hk,rfl,rfl,kk,bb⟩|⟨hk,rfl,rfl,kk,bb⟩
  .have hf:wr.frozen? ⟨w.heap.size,0,none⟩=false:=frozen_of_blk bb
   have hc:wr.cell? ⟨w.heap.size,0,none⟩=some (.string ⟨#[]⟩):=by rw [cell_of_blk bb];rfl
   have hs:(wr.setCell ⟨w.heap.size,0,none⟩ (.string ⟨#[107,105,110,100]⟩)).heap[w.heap.size]?=some (.cells #[.string ⟨#[107,105,110,100]⟩,.string ⟨#[]⟩] 9 (0,0)):=(blk_setCell _ bb).trans rfl
   have hkk:=kk.setCell (p:=⟨w.heap.size,0,none⟩) (.inr (Nat.le_refl _)) (.string ⟨#[107,105,110,100]⟩)
   have HS:=Lib.hid hs
   have HK:=Lib.hid hkk
   clear hs hkk kk bb
   go_wp2_with (go_at_call 124;refine (h0 _).mono ?_;rintro e w' ⟨rfl,rfl⟩)
   go_roundg 1
   case measure=>omega
   case rel=>exact .inr (⟨rfl,rfl,rfl,HK.out,HS.out⟩)
  .have hf:wr.frozen? ⟨w.heap.size,1,none⟩=false:=frozen_of_blk bb
   have hc:wr.cell? ⟨w.heap.size,1,none⟩=some (.string ⟨#[]⟩):=by rw [cell_of_blk bb];rfl
   have hs:(wr.setCell ⟨w.heap.size,1,none⟩ (.string ⟨#[115,107,101,119]⟩)).heap[w.heap.size]?=some (.cells #[.string ⟨#[107,105,110,100]⟩,.string ⟨#[115,107,101,119]⟩] 9 (0,0)):=(blk_setCell _ bb).trans rfl
   have hkk:=kk.setCell (p:=⟨w.heap.size,1,none⟩) (.inr (Nat.le_refl _)) (.string ⟨#[115,107,101,119]⟩)
   have HS:=Lib.hid hs
   have HK:=Lib.hid hkk
   clear hs hkk kk bb
   go_wp2_with fail
   go_ret
   exact ⟨rfl,HK.out,HS.out⟩
end Go.Proofs.YtkdbjelhkfdfjaaGreatDoor

