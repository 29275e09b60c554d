/-
  Contracts that the law rests on. Conditions: none.
-/
import Derived.Test.YtkdbjelhkfdfjaaGreatDoorLo03
import Derived.Test.YtkdbjelhkfdfjaaGreatDoorLo04
import Derived.LoopIn
import Derived.LoopNIn
import Derived.OwnWalkIn
import Derived.Shelf.Abstract
import Derived.Shelf.RegionOpen
import Derived.Sort.LoopGhostIn
import Derived.TacticsInMore
set_option linter.unusedVariables false
set_option maxRecDepth 100000
set_option maxHeartbeats 32000000
namespace Go.Proofs.YtkdbjelhkfdfjaaGreatDoor
open Go.RowKit
def okC (a b:Int):Prop:=(1<=a∧a<=8)∧((a=2∧2<=b∧b<=16)∨(a≠2∧b=0))
instance (a b:Int):Decidable (okC a b):=by unfold okC;infer_instance
section
variable (w:World) (a b:Int)
theorem check_calls:Calls Tryz.prog 33 #[.agg #[.int .i64 a,.int .i64 b]] w fun e w'=>(∃r:Int,e=.returned (.int .i64 r)∧(r=0↔okC a b))∧Keeps [] w w':=by
 have hk:Keeps [] w (w.alloc (.cells #[.int .i64 a,.int .i64 b] 23 (0,0))):=(Keeps.refl _ _).alloc _
 obtain ⟨w0,hw0⟩:∃w0,w0=w.alloc (.cells #[.int .i64 a,.int .i64 b] 23 (0,0)):=⟨_,rfl⟩
 have e0:w0.cell? ⟨w.heap.size,0,none⟩=some (.int .i64 a):=by rw [hw0,cell_of_blk (blk_alloc_new _)];rfl
 have e1:w0.cell? ⟨w.heap.size,1,none⟩=some (.int .i64 b):=by rw [hw0,cell_of_blk (blk_alloc_new _)];rfl
 rw [<-hw0] at hk
 have HK:=Lib.hid hk
 clear hk
 go_enter Tryz.func33,Tryz.ntmps33
 go_upto_region 1 with fail
 rw [<-hw0]
 clear hw0
 by_cases h1:a<1
 .go_wp2_with fail
  go_ret
  exact ⟨⟨_,rfl,by unfold okC;constructor<;>intro h<;>omega⟩,HK.out⟩
 .by_cases h2:8<a
  .go_wp2_with fail
   go_ret
   exact ⟨⟨_,rfl,by unfold okC;constructor<;>intro h<;>omega⟩,HK.out⟩
  .by_cases h3:a=2
   .subst h3
    by_cases h4:b<2
    .go_wp2_with fail
     go_ret
     exact ⟨⟨_,rfl,by unfold okC;constructor<;>intro h<;>omega⟩,HK.out⟩
    .by_cases h5:16<b
     .go_wp2_with fail
      go_ret
      exact ⟨⟨_,rfl,by unfold okC;constructor<;>intro h<;>omega⟩,HK.out⟩
     .go_wp2_with fail
      go_ret
      exact ⟨⟨_,rfl,by unfold okC;constructor<;>intro h<;>omega⟩,HK.out⟩
   .have h6:(a==2)=false:=by rw [beq_eq_false_iff_ne];exact h3
    have h7:(a != 2)=true:=by rw [bne_iff_ne];exact h3
    have H3:=Lib.hid h3
    clear h3
    by_cases h4:b=0
    .subst h4
     go_wp2_with fail
     go_ret
     exact ⟨⟨_,rfl,by have:=H3.out;unfold okC;constructor<;>intro h<;>omega⟩,HK.out⟩
    .have h8:(b != 0)=true:=by rw [bne_iff_ne];exact h4
     have H4:=Lib.hid h4
     clear h4
     go_wp2_with fail
     go_ret
     exact ⟨⟨_,rfl,by have:=H3.out;have:=H4.out;unfold okC;constructor<;>intro h<;>omega⟩,HK.out⟩
theorem ref_check_calls:Calls Tryz.prog 8 #[.agg #[.int .i64 a,.int .i64 b]] w fun e w'=>(∃r:Int,e=.returned (.int .i64 r)∧(r=0↔okC a b))∧Keeps [] w w':=by
 have hk:Keeps [] w (w.alloc (.cells #[.int .i64 a,.int .i64 b] 23 (0,0))):=(Keeps.refl _ _).alloc _
 obtain ⟨w0,hw0⟩:∃w0,w0=w.alloc (.cells #[.int .i64 a,.int .i64 b] 23 (0,0)):=⟨_,rfl⟩
 have e0:w0.cell? ⟨w.heap.size,0,none⟩=some (.int .i64 a):=by rw [hw0,cell_of_blk (blk_alloc_new _)];rfl
 have e1:w0.cell? ⟨w.heap.size,1,none⟩=some (.int .i64 b):=by rw [hw0,cell_of_blk (blk_alloc_new _)];rfl
 rw [<-hw0] at hk
 have HK:=Lib.hid hk
 clear hk
 go_enter Tryz.func8,Tryz.ntmps8
 go_upto_region 1 with fail
 rw [<-hw0]
 clear hw0
 by_cases h1:a<1
 .go_wp2_with fail
  go_ret
  exact ⟨⟨_,rfl,by unfold okC;constructor<;>intro h<;>omega⟩,HK.out⟩
 .by_cases h2:8<a
  .go_wp2_with fail
   go_ret
   exact ⟨⟨_,rfl,by unfold okC;constructor<;>intro h<;>omega⟩,HK.out⟩
  .by_cases h3:a=2
   .subst h3
    by_cases h4:2<=b
    .by_cases h5:b<=16
     .go_wp2_with fail
      go_ret
      exact ⟨⟨_,rfl,by unfold okC;constructor<;>intro h<;>omega⟩,HK.out⟩
     .go_wp2_with fail
      go_ret
      exact ⟨⟨_,rfl,by unfold okC;constructor<;>intro h<;>omega⟩,HK.out⟩
    .go_wp2_with fail
     go_ret
     exact ⟨⟨_,rfl,by unfold okC;constructor<;>intro h<;>omega⟩,HK.out⟩
   .have h6:(a==2)=false:=by rw [beq_eq_false_iff_ne];exact h3
    have h7:(a != 2)=true:=by rw [bne_iff_ne];exact h3
    have H3:=Lib.hid h3
    clear h3
    by_cases h4:b=0
    .subst h4
     go_wp2_with fail
     go_ret
     exact ⟨⟨_,rfl,by have:=H3.out;unfold okC;constructor<;>intro h<;>omega⟩,HK.out⟩
    .have h8:(b==0)=false:=by rw [beq_eq_false_iff_ne];exact h4
     have H4:=Lib.hid h4
     clear h4
     go_wp2_with fail
     go_ret
     exact ⟨⟨_,rfl,by have:=H3.out;have:=H4.out;unfold okC;constructor<;>intro h<;>omega⟩,HK.out⟩
theorem check_ok (h:okC a b):Calls Tryz.prog 33 #[.agg #[.int .i64 a,.int .i64 b]] w fun e w'=>e=.returned (.int .i64 0)∧Keeps [] w w':=by
 refine (check_calls w a b).mono ?_
 rintro e w' ⟨⟨r,rfl,hr⟩,k⟩
 rw [hr.2 h]
 exact ⟨rfl,k⟩
theorem arity_calls (h:okC a b) (ha:a=1∨a=2):Calls Tryz.prog 58 #[.agg #[.int .i64 a,.int .i64 b]] w fun e w'=>(∃d:Nat,e=.returned (.int .i64 d)∧2<=d∧d<=16)∧Keeps [] w w':=by
 obtain ⟨w0,hw0⟩:∃w0,w0=w.alloc (.cells #[.int .i64 a,.int .i64 b] 23 (0,0)):=⟨_,rfl⟩
 have hk:Keeps [] w w0:=by rw [hw0];exact (Keeps.refl _ _).alloc _
 have hb0:w0.heap[w.heap.size]?=some (.cells #[.int .i64 a,.int .i64 b] 23 (0,0)):=by rw [hw0];exact blk_alloc_new _
 have e0:w0.cell? ⟨w.heap.size,0,none⟩=some (.int .i64 a):=by rw [cell_of_blk hb0];rfl
 have e1:w0.cell? ⟨w.heap.size,1,none⟩=some (.int .i64 b):=by rw [cell_of_blk hb0];rfl
 have hc:=check_ok w0 a b h
 have hstep:∀w1,Keeps [] w0 w1->w1.cell? ⟨w.heap.size,0,none⟩=some (.int .i64 a)∧w1.cell? ⟨w.heap.size,1,none⟩=some (.int .i64 b)∧Hid (Keeps [] w w1):=fun w1 k=>by
  have:=k.blk hb0 (by simp)
  exact ⟨by rw [cell_of_blk this];rfl,by rw [cell_of_blk this];rfl,hk.trans k (by simp)⟩
 have HS:=Lib.hid hstep
 have HO:=Lib.hid h
 clear hstep hk hb0 h
 go_enter Tryz.func58,Tryz.ntmps58
 go_upto_region 1 with fail
 rw [<-hw0]
 clear hw0
 rcases ha with rfl|rfl
 .go_wp2_with (go_at_call 33;refine hc.mono ?_;rintro e w1 ⟨rfl,k1⟩;obtain ⟨z0,z1,z2⟩:=HS.out w1 k1;clear k1)
  go_ret
  exact ⟨⟨2,rfl,by omega,by omega⟩,z2.out⟩
 .obtain ⟨d,rfl⟩:∃d:Nat,b=d:=⟨b.toNat,by have:=HO.out;unfold okC at this;omega⟩
  go_wp2_with (go_at_call 33;refine hc.mono ?_;rintro e w1 ⟨rfl,k1⟩;obtain ⟨z0,z1,z2⟩:=HS.out w1 k1;clear k1)
  go_ret
  exact ⟨⟨d,rfl,by have:=HO.out;unfold okC at this;omega,by have:=HO.out;unfold okC at this;omega⟩,z2.out⟩
end
end Go.Proofs.YtkdbjelhkfdfjaaGreatDoor
namespace Go.Proofs.YtkdbjelhkfdfjaaGreatDoor
open Go.RowKit Go.Shelf
abbrev lineA:ByteArray:=⟨#[115,111,114,116,32,50,32,49,10]⟩
abbrev lineK:ByteArray:=⟨#[107,105,110,100,32,115,107,101,119,10]⟩
abbrev textA:ByteArray:=⟨#[115,111,114,116,32,50,32,49,10,107,105,110,100,32,115,107,101,119,10,115,111,114,116,32,50,32,49,10]⟩
abbrev textB:ByteArray:=⟨#[107,105,110,100,32,115,107,101,119,10,115,111,114,116,32,50,32,49,10]⟩
theorem byte_0 (w:World):Calls Tryz.prog 76 #[.string ⟨#[115,111,114,116,32,50,32,49,10,107,105,110,100,32,115,107,101,119,10,115,111,114,116,32,50,32,49,10]⟩,.int .u8 10] w fun e w'=>e=.returned (.int .i64 8)∧w=w':=by
 have hx:∀u,(callFunc 121 #[.string ⟨#[115,111,114,116,32,50,32,49,10,107,105,110,100,32,115,107,101,119,10,115,111,114,116,32,50,32,49,10]⟩,.int .u8 10]).run Tryz.prog u=.ok (.value (.int .i64 8)) u:=fun u=>by kernel_rfl
 have h0:Calls Tryz.prog 97 #[.string ⟨#[115,111,114,116,32,50,32,49,10,107,105,110,100,32,115,107,101,119,10,115,111,114,116,32,50,32,49,10]⟩,.int .u8 10] w fun e w'=>e=.returned (.int .i64 8)∧w=w':=by
  go_enter Tryz.func97,Tryz.ntmps97
  go_wp2_with fail
  go_ret
  exact ⟨rfl,rfl⟩
 go_enter Tryz.func76,Tryz.ntmps76
 go_wp2_with (go_at_call 97;refine h0.mono ?_;rintro e w' ⟨rfl,rfl⟩)
 go_ret
 exact ⟨rfl,rfl⟩
theorem byte_1 (w:World):Calls Tryz.prog 76 #[.string ⟨#[107,105,110,100,32,115,107,101,119,10,115,111,114,116,32,50,32,49,10]⟩,.int .u8 10] w fun e w'=>e=.returned (.int .i64 9)∧w=w':=by
 have hx:∀u,(callFunc 121 #[.string ⟨#[107,105,110,100,32,115,107,101,119,10,115,111,114,116,32,50,32,49,10]⟩,.int .u8 10]).run Tryz.prog u=.ok (.value (.int .i64 9)) u:=fun u=>by kernel_rfl
 have h0:Calls Tryz.prog 97 #[.string ⟨#[107,105,110,100,32,115,107,101,119,10,115,111,114,116,32,50,32,49,10]⟩,.int .u8 10] w fun e w'=>e=.returned (.int .i64 9)∧w=w':=by
  go_enter Tryz.func97,Tryz.ntmps97
  go_wp2_with fail
  go_ret
  exact ⟨rfl,rfl⟩
 go_enter Tryz.func76,Tryz.ntmps76
 go_wp2_with (go_at_call 97;refine h0.mono ?_;rintro e w' ⟨rfl,rfl⟩)
 go_ret
 exact ⟨rfl,rfl⟩
theorem byte_2 (w:World):Calls Tryz.prog 76 #[.string ⟨#[115,111,114,116,32,50,32,49,10]⟩,.int .u8 10] w fun e w'=>e=.returned (.int .i64 8)∧w=w':=by
 have hx:∀u,(callFunc 121 #[.string ⟨#[115,111,114,116,32,50,32,49,10]⟩,.int .u8 10]).run Tryz.prog u=.ok (.value (.int .i64 8)) u:=fun u=>by kernel_rfl
 have h0:Calls Tryz.prog 97 #[.string ⟨#[115,111,114,116,32,50,32,49,10]⟩,.int .u8 10] w fun e w'=>e=.returned (.int .i64 8)∧w=w':=by
  go_enter Tryz.func97,Tryz.ntmps97
  go_wp2_with fail
  go_ret
  exact ⟨rfl,rfl⟩
 go_enter Tryz.func76,Tryz.ntmps76
 go_wp2_with (go_at_call 97;refine h0.mono ?_;rintro e w' ⟨rfl,rfl⟩)
 go_ret
 exact ⟨rfl,rfl⟩
theorem trim_A (w:World):Calls Tryz.prog 47 #[.string ⟨#[115,111,114,116,32,50,32,49,10]⟩,.string ⟨#[10]⟩] w fun e w'=>e=.returned (.string ⟨#[115,111,114,116,32,50,32,49]⟩)∧w=w':=by
 have h0:Calls Tryz.prog 114 #[.string ⟨#[115,111,114,116,32,50,32,49,10]⟩,.string ⟨#[10]⟩] w fun e w'=>e=.returned (.bool true)∧w=w':=by
  have hq:((((⟨#[115,111,114,116,32,50,32,49,10]⟩:ByteArray).extract 8 9).toList==[10]):Bool)=true:=by kernel_rfl
  go_enter Tryz.func114,Tryz.ntmps114
  go_wp2_with fail
  go_ret
  exact ⟨rfl,rfl⟩
 have h1:Calls Tryz.prog 82 #[.string ⟨#[115,111,114,116,32,50,32,49,10]⟩,.string ⟨#[10]⟩] w fun e w'=>e=.returned (.string ⟨#[115,111,114,116,32,50,32,49]⟩)∧w=w':=by
  go_enter Tryz.func82,Tryz.ntmps82
  go_wp2_with (go_at_call 114;refine h0.mono ?_;rintro e w' ⟨rfl,rfl⟩)
  go_ret
  exact ⟨rfl,rfl⟩
 go_enter Tryz.func47,Tryz.ntmps47
 go_wp2_with (go_at_call 82;refine h1.mono ?_;rintro e w' ⟨rfl,rfl⟩)
 go_ret
 exact ⟨rfl,rfl⟩
theorem trim_K (w:World):Calls Tryz.prog 47 #[.string ⟨#[107,105,110,100,32,115,107,101,119,10]⟩,.string ⟨#[10]⟩] w fun e w'=>e=.returned (.string ⟨#[107,105,110,100,32,115,107,101,119]⟩)∧w=w':=by
 have h0:Calls Tryz.prog 114 #[.string ⟨#[107,105,110,100,32,115,107,101,119,10]⟩,.string ⟨#[10]⟩] w fun e w'=>e=.returned (.bool true)∧w=w':=by
  have hq:((((⟨#[107,105,110,100,32,115,107,101,119,10]⟩:ByteArray).extract 9 10).toList==[10]):Bool)=true:=by kernel_rfl
  go_enter Tryz.func114,Tryz.ntmps114
  go_wp2_with fail
  go_ret
  exact ⟨rfl,rfl⟩
 have h1:Calls Tryz.prog 82 #[.string ⟨#[107,105,110,100,32,115,107,101,119,10]⟩,.string ⟨#[10]⟩] w fun e w'=>e=.returned (.string ⟨#[107,105,110,100,32,115,107,101,119]⟩)∧w=w':=by
  go_enter Tryz.func82,Tryz.ntmps82
  go_wp2_with (go_at_call 114;refine h0.mono ?_;rintro e w' ⟨rfl,rfl⟩)
  go_ret
  exact ⟨rfl,rfl⟩
 go_enter Tryz.func47,Tryz.ntmps47
 go_wp2_with (go_at_call 82;refine h1.mono ?_;rintro e w' ⟨rfl,rfl⟩)
 go_ret
 exact ⟨rfl,rfl⟩
theorem lines_seq (n:Nat) (hn:4<=n) (w:World) (c:Nat) (hc:w.heap[c]?=some (.cells #[.string textA] 9 (0,0))) :
  SeqC Fence.wide n Tryz.prog 75 #[.pointer (some ⟨c,0,none⟩)] (fun s:ByteArray=>#[Value.string s]) c [lineA,lineK,lineA] w:=fun l J W hW hsz hJ hJc hY h0=>by
 have hcW:W.heap[c]?=some (.cells #[.string textA] 9 (0,0)):=hW.trans hc
 have x0:=fun u=>callsIn_wide (n:=n - 1).2 (byte_0 u)
 have x1:=fun u=>callsIn_wide (n:=n - 1).2 (byte_1 u)
 have x2:=fun u=>callsIn_wide (n:=n - 1).2 (byte_2 u)
 have HJ:=Lib.hid hJ
 have HJC:=Lib.hid hJc
 have HY:=Lib.hid hY
 clear hJ hJc hY hW hc hsz
 have hmx:Tryz.prog.follows .mixedOrders=true:=by kernel_rfl
 refine callsIn_of_wp Tryz.func75 rfl trivial ?_ rfl
 simp only [Tryz.ntmps75,List.size_toArray,List.length_cons,List.length_nil,Nat.reduceAdd,Nat.reduceSub,Array.replicate_succ,Array.replicate_zero,List.push_toArray,List.append_toArray,List.nil_append,List.cons_append]
 gi_wp2
 gi_loopg [3,4] 4 (fun k s i wr=>(k=4∧wr.heap[c]?=some (.cells #[.string textA] 9 (0,0))∧J [] wr)∨(k=3∧wr.heap[c]?=some (.cells #[.string textB] 9 (0,0))∧J [lineA] wr)
  ∨ (k=2∧wr.heap[c]?=some (.cells #[.string lineA] 9 (0,0))∧J [lineA,lineK] wr)∨(k=1∧wr.heap[c]?=some (.cells #[.string ByteArray.empty] 9 (0,0))∧J [lineA,lineK,lineA] wr))
 case atStart=>exact .inl ⟨rfl,hcW,h0⟩
 case round =>
  clear hcW h0
  rcases hrel with ⟨hk,hb,hj⟩|⟨hk,hb,hj⟩|⟨hk,hb,hj⟩|⟨hk,hb,hj⟩
  .have hc:wr.cell? ⟨c,0,none⟩=some (.string ⟨#[115,111,114,116,32,50,32,49,10,107,105,110,100,32,115,107,101,119,10,115,111,114,116,32,50,32,49,10]⟩):=by rw [cell_of_blk hb];rfl
   have hf:wr.frozen? ⟨c,0,none⟩=false:=frozen_of_blk hb
   have q1:(⟨#[115,111,114,116,32,50,32,49,10,107,105,110,100,32,115,107,101,119,10,115,111,114,116,32,50,32,49,10]⟩:ByteArray).extract 0 9=⟨#[115,111,114,116,32,50,32,49,10]⟩:=by kernel_rfl
   have q2:(⟨#[115,111,114,116,32,50,32,49,10,107,105,110,100,32,115,107,101,119,10,115,111,114,116,32,50,32,49,10]⟩:ByteArray).extract 9 28=⟨#[107,105,110,100,32,115,107,101,119,10,115,111,114,116,32,50,32,49,10]⟩:=by kernel_rfl
   have hb2:(wr.setCell ⟨c,0,none⟩ (.string ⟨#[107,105,110,100,32,115,107,101,119,10,115,111,114,116,32,50,32,49,10]⟩)).drew.heap[c]?=some (.cells #[.string ⟨#[107,105,110,100,32,115,107,101,119,10,115,111,114,116,32,50,32,49,10]⟩] 9 (0,0)):=(blk_setCell (w:=wr) (b:=c) (i:=0) _ hb).trans rfl
   have hj2:J [] (wr.setCell ⟨c,0,none⟩ (.string ⟨#[107,105,110,100,32,115,107,101,119,10,115,111,114,116,32,50,32,49,10]⟩)).drew:=HJ.out _ _ _ none (HJC.out _ _ _ hj) ⟨rfl,rfl,rfl,Nat.le_refl _,fun _ _ _=>rfl⟩ (fun r e=>by cases e)
   obtain ⟨fn,tm,asg,bd,hy,hR⟩:=HY.out [] ⟨#[115,111,114,116,32,50,32,49,10]⟩ (wr.setCell ⟨c,0,none⟩ (.string ⟨#[107,105,110,100,32,115,107,101,119,10,115,111,114,116,32,50,32,49,10]⟩)).drew hj2 ⟨[lineK,lineA],rfl⟩
   have HB:=Lib.hid hb2
   clear hb hj hb2 hj2
   gi_wp2_with (refine ⟨trivial,fun _=>by omega,?_⟩;gi_at_call 76;refine (x0 _).mono ?_;rintro e w' ⟨rfl,rfl⟩)
   gi_region_o
   gi_wp2
   refine ⟨fun _=>by omega,hR.mono ?_⟩
   rintro e W3 ⟨rfl,hj3,hb3⟩
   have HJ3:=Lib.hid hj3
   have HB3:=Lib.hid (hb3.trans HB.out)
   clear hj3 hb3
   gi_wp2
   gi_roundg 3
   case measure=>omega
   case rel=>exact .inr (.inl ⟨rfl,HB3.out,HJ3.out⟩)
  .have hc:wr.cell? ⟨c,0,none⟩=some (.string ⟨#[107,105,110,100,32,115,107,101,119,10,115,111,114,116,32,50,32,49,10]⟩):=by rw [cell_of_blk hb];rfl
   have hf:wr.frozen? ⟨c,0,none⟩=false:=frozen_of_blk hb
   have q1:(⟨#[107,105,110,100,32,115,107,101,119,10,115,111,114,116,32,50,32,49,10]⟩:ByteArray).extract 0 10=⟨#[107,105,110,100,32,115,107,101,119,10]⟩:=by kernel_rfl
   have q2:(⟨#[107,105,110,100,32,115,107,101,119,10,115,111,114,116,32,50,32,49,10]⟩:ByteArray).extract 10 19=⟨#[115,111,114,116,32,50,32,49,10]⟩:=by kernel_rfl
   have hb2:(wr.setCell ⟨c,0,none⟩ (.string ⟨#[115,111,114,116,32,50,32,49,10]⟩)).drew.heap[c]?=some (.cells #[.string ⟨#[115,111,114,116,32,50,32,49,10]⟩] 9 (0,0)):=(blk_setCell (w:=wr) (b:=c) (i:=0) _ hb).trans rfl
   have hj2:J [lineA] (wr.setCell ⟨c,0,none⟩ (.string ⟨#[115,111,114,116,32,50,32,49,10]⟩)).drew:=HJ.out _ _ _ none (HJC.out _ _ _ hj) ⟨rfl,rfl,rfl,Nat.le_refl _,fun _ _ _=>rfl⟩ (fun r e=>by cases e)
   obtain ⟨fn,tm,asg,bd,hy,hR⟩:=HY.out [lineA] ⟨#[107,105,110,100,32,115,107,101,119,10]⟩ (wr.setCell ⟨c,0,none⟩ (.string ⟨#[115,111,114,116,32,50,32,49,10]⟩)).drew hj2 ⟨[lineA],rfl⟩
   have HB:=Lib.hid hb2
   clear hb hj hb2 hj2
   gi_wp2_with (refine ⟨trivial,fun _=>by omega,?_⟩;gi_at_call 76;refine (x1 _).mono ?_;rintro e w' ⟨rfl,rfl⟩)
   gi_region_o
   gi_wp2
   refine ⟨fun _=>by omega,hR.mono ?_⟩
   rintro e W3 ⟨rfl,hj3,hb3⟩
   have HJ3:=Lib.hid hj3
   have HB3:=Lib.hid (hb3.trans HB.out)
   clear hj3 hb3
   gi_wp2
   gi_roundg 2
   case measure=>omega
   case rel=>exact .inr (.inr (.inl ⟨rfl,HB3.out,HJ3.out⟩))
  .have hc:wr.cell? ⟨c,0,none⟩=some (.string ⟨#[115,111,114,116,32,50,32,49,10]⟩):=by rw [cell_of_blk hb];rfl
   have hf:wr.frozen? ⟨c,0,none⟩=false:=frozen_of_blk hb
   have q1:(⟨#[115,111,114,116,32,50,32,49,10]⟩:ByteArray).extract 0 9=⟨#[115,111,114,116,32,50,32,49,10]⟩:=by kernel_rfl
   have q2:(⟨#[115,111,114,116,32,50,32,49,10]⟩:ByteArray).extract 9 9=ByteArray.empty:=by kernel_rfl
   have hb2:(wr.setCell ⟨c,0,none⟩ (.string ByteArray.empty)).drew.heap[c]?=some (.cells #[.string ByteArray.empty] 9 (0,0)):=(blk_setCell (w:=wr) (b:=c) (i:=0) _ hb).trans rfl
   have hj2:J [lineA,lineK] (wr.setCell ⟨c,0,none⟩ (.string ByteArray.empty)).drew:=HJ.out _ _ _ none (HJC.out _ _ _ hj) ⟨rfl,rfl,rfl,Nat.le_refl _,fun _ _ _=>rfl⟩ (fun r e=>by cases e)
   obtain ⟨fn,tm,asg,bd,hy,hR⟩:=HY.out [lineA,lineK] ⟨#[115,111,114,116,32,50,32,49,10]⟩ (wr.setCell ⟨c,0,none⟩ (.string ByteArray.empty)).drew hj2 ⟨[],rfl⟩
   have HB:=Lib.hid hb2
   clear hb hj hb2 hj2
   gi_wp2_with (refine ⟨trivial,fun _=>by omega,?_⟩;gi_at_call 76;refine (x2 _).mono ?_;rintro e w' ⟨rfl,rfl⟩)
   gi_region_o
   gi_wp2
   refine ⟨fun _=>by omega,hR.mono ?_⟩
   rintro e W3 ⟨rfl,hj3,hb3⟩
   have HJ3:=Lib.hid hj3
   have HB3:=Lib.hid (hb3.trans HB.out)
   clear hj3 hb3
   gi_wp2
   gi_roundg 1
   case measure=>omega
   case rel=>exact .inr (.inr (.inr (⟨rfl,HB3.out,HJ3.out⟩)))
  .have hc:wr.cell? ⟨c,0,none⟩=some (.string ByteArray.empty):=by rw [cell_of_blk hb];rfl
   have HJ3:=Lib.hid hj
   clear hj hb
   gi_wp2
   go_end0
   exact ⟨⟨_,rfl⟩,HJ3.out⟩
end Go.Proofs.YtkdbjelhkfdfjaaGreatDoor
namespace Go.Proofs.YtkdbjelhkfdfjaaGreatDoor
open Go.RowKit
theorem Tryz.infoCfg:(Tryz.prog.info? 23).map (fun i=>(i.zero,i.size,i.bytes))=some (some (.agg #[.int .i64 0,.int .i64 0]),2,16):=by kernel_rfl
def baseK (k:Nat):Nat:=if k<=2 then k - 1 else k+13
def cntK (k d:Nat):Nat:=baseK k+(if k=2 then d - 2 else if d=0 then 0 else 1)
theorem cntK_yes {k d:Nat} (h:okC k d):cntK k (d+1)=cntK k d+1:=by
 unfold okC at h;unfold cntK
 obtain ⟨h1,h2|h2⟩:=h
 .have:k=2:=by omega
  subst this;simp;omega
 .have h3:¬k=2:=by omega
  have h4:d=0:=by omega
  subst h4;simp [h3]
theorem cntK_no {k d:Nat} (h1:1<=k) (h8:k<=8) (hd:d<=16) (h:¬okC k d):cntK k (d+1)=cntK k d:=by
 unfold okC at h;unfold cntK
 by_cases h2:k=2
 .subst h2;simp;omega
 .by_cases h0:d=0
  .exact absurd ⟨⟨by omega,by omega⟩,.inr ⟨by omega,by omega⟩⟩ h
  .simp [h2,h0]
theorem cntK_last {k:Nat} (h1:1<=k):cntK k 17=baseK (k+1):=by
 unfold cntK baseK
 by_cases h2:k=2
 .subst h2;rfl
 .by_cases h3:k<=2
  .have:k=1:=by omega
   subst this;rfl
  .simp [h2,show ¬k+1<=2 by omega,h3]
theorem cntK_zero (k:Nat):cntK k 0=baseK k:=by unfold cntK;by_cases h:k=2<;>simp [h]
theorem cntK_le {k d:Nat} (h8:k<=8) (hd:d<=17):cntK k d<=60:=by
 unfold cntK baseK;split<;>split<;>(try split)<;>omega
def GRow (w0 w:World) (v:Value) (n:Nat):Prop:=(∃xs,w.ownsRow 0 23 2 v n xs)∧(∀b,v.ownBlock=some b->w0.heap.size<=b)∧Keeps [] w0 w
theorem GRow.form {w0 w:World} {v:Value} {n:Nat} (h:GRow w0 w v n):∃ao ca,v=.slice ao n ca:=by
 obtain ⟨⟨xs,h⟩,_⟩:=h
 rcases h.2 with ⟨rfl,rfl⟩|⟨g,cap,cur,rfl,_⟩
 .exact ⟨_,_,rfl⟩
 .exact ⟨_,_,rfl⟩
theorem kinds_calls (w:World):Calls Tryz.prog 21 #[] w fun e w'=>∃ao ca,e=.returned (.slice ao 22 ca)∧Keeps [] w w':=by
 have HS:=Lib.hid (show GRow w w (.slice none 0 0) (baseK 1) from ⟨⟨[],rfl,.inl ⟨rfl,rfl⟩⟩,by simp [Value.ownBlock],Keeps.refl _ _⟩)
 go_enter Tryz.func21,Tryz.ntmps21
 go_wp2_with fail
 go_loopg [1,2] 8 (fun j v t wr=>∃k:Nat,j+k=9∧1<=k∧k<=9∧t=.int .i64 k∧GRow w wr v (baseK k))
 case atStart=>exact ⟨1,by omega,by omega,by omega,rfl,HS.out⟩
 case round =>
  clear HS
  obtain ⟨k,hj,hk1,hk9,rfl,hcr⟩:=hrel
  have HJ:=Lib.hid hj
  clear hj
  by_cases hk8:k<=8
  .have hk8':(k:Int)<=8:=by omega
   have HS:=Lib.hid (show GRow w wr _ (cntK k 0) by rw [cntK_zero];exact hcr)
   clear hcr
   go_wp2_with fail
   go_loopg [1,9] 17 (fun j v t wr=>∃d:Nat,j+d=17∧d<=17∧t=.int .i64 d∧GRow w wr v (cntK k d))
   case atStart=>exact ⟨0,by omega,by omega,rfl,HS.out⟩
   case round =>
    clear HS
    obtain ⟨d,hi,hd,rfl,hcr⟩:=hrel
    have HI:=Lib.hid hi
    clear hi
    by_cases hd16:d<17
    .have hd16':(d:Int)<17:=by omega
     obtain ⟨ao,ca,rfl⟩:=hcr.form
     obtain ⟨⟨xs,hr⟩,hob,kp⟩:=hcr
     have hcnt:=cntK_le (k:=k) (d:=d) hk8 (by omega)
     have hc:=check_calls (wr.alloc (.cells #[.int .i64 (k:Int),.int .i64 (d:Int)] 23 (0,0))) k d
     have hfin:∀w1,Keeps [] (wr.alloc (.cells #[.int .i64 (k:Int),.int .i64 (d:Int)] 23 (0,0))) w1->w1.cell? ⟨wr.heap.size,0,none⟩=some (.int .i64 k)∧w1.cell? ⟨wr.heap.size,1,none⟩=some (.int .i64 d) ∧
       w1.ownsRow 0 23 2 (.slice ao (cntK k d) ca) (cntK k d) xs ∧
       Hid ((¬okC k d->GRow w w1 (.slice ao (cntK k d) ca) (cntK k (d+1))) ∧
        ∀g' c' w2,okC k d->w2.ownsRow 0 23 2 (.slice (some ⟨g',0,none⟩) (cntK k d+1) c') (cntK k d+1) (xs++[.int .i64 k,.int .i64 d])->Keeps (Value.slice ao (cntK k d) ca).ownBlock.toList w1 w2->((Value.slice ao (cntK k d) ca).ownBlock=some g'∨w1.heap.size<=g') ->
         GRow w w2 (.slice (some ⟨g',0,none⟩) (cntK k d+1) c') (cntK k (d+1))):=by
      intro w1 k1
      have kk:Keeps [] wr w1:=((Keeps.refl [] wr).alloc _).trans k1 (by simp)
      have hb:=k1.blk (blk_alloc_new (w:=wr) (.cells #[.int .i64 (k:Int),.int .i64 (d:Int)] 23 (0,0))) (by simp)
      have hr1:w1.ownsRow 0 23 2 (.slice ao (cntK k d) ca) (cntK k d) xs:=by
       refine ⟨hr.1,?_⟩
       rcases hr.2 with c|⟨g,cap,cur,e,hb',hg,r⟩
       .exact .inl c
       .exact .inr ⟨g,cap,cur,e,hb',kk.blk hg (by simp),r⟩
      refine ⟨by rw [cell_of_blk hb];rfl,by rw [cell_of_blk hb];rfl,hr1,fun hno=>?_,fun g' c' w2 hok h2 k2 hg=>⟨⟨xs++[.int .i64 (k:Int),.int .i64 (d:Int)],?_⟩,fun b e=>?_,?_⟩⟩
      .rw [cntK_no hk1 hk8 (by omega) hno]
       exact ⟨⟨_,hr1⟩,hob,kp.trans kk (by simp)⟩
      .rw [cntK_yes hok];exact h2
      .cases e
       rcases hg with e|e
       .exact hob _ e
       .have:=kp.size;have:=kk.size;show w.heap.size<=g';omega
      .exact (kp.trans kk (by simp)).trans k2 (fun b hb=>.inr (hob b (by simpa [Option.mem_toList] using hb)))
     have HF:=Lib.hid hfin
     clear hfin hr hob kp
     by_cases hok:okC k d
     .go_wp2_with (first
       | (go_at_call 33;refine hc.mono ?_;rintro e w1 ⟨⟨r,rfl,hr⟩,k1⟩;obtain rfl:r=0:=hr.2 hok;obtain ⟨c0,c1,hro,z1⟩:=HF.out w1 k1;clear hr k1)
       | (at_builtin;refine wpList_push_agg _ 23 #[.int .i64 (k:Int),.int .i64 (d:Int)] (0,0) rfl (.tmp 18) (.tmp 20) 72 rfl (.agg #[.int .i64 0,.int .i64 0]) 2 16 Tryz.underlying72 Tryz.infoCfg rfl (by decide) rfl (by simp [Value.oneCell']) (.slice ao (cntK k d) ca) (cntK k d) xs (by simp [Act.eval]) hro (by simp [Act.eval]) (by unfold maxLen;omega) (by omega) ?_;intro g' cap' w9 hr9 hk9 hf9;have z9:=Lib.hid (z1.out.2 g' cap' w9 hok hr9 hk9 hf9);clear hr9 hk9 hf9))
      go_roundg (gk - 1)
      case measure=>have:=HI.out;omega
      case rel=>exact ⟨d+1,by have:=HI.out;omega,by omega,by go_num,z9.out⟩
     .go_wp2_with (go_at_call 33;refine hc.mono ?_;rintro e w1 ⟨⟨r,rfl,hr⟩,k1⟩;have hr0:¬r=0:=fun c=>hok (hr.1 c);obtain ⟨c0,c1,hro,z1⟩:=HF.out w1 k1;clear hr k1)
      go_roundg (gk - 1)
      case measure=>have:=HI.out;omega
      case rel=>exact ⟨d+1,by have:=HI.out;omega,by omega,by go_num,z1.out.1 hok⟩
    .obtain rfl:d=17:=by omega
     have HS:=Lib.hid hcr
     clear hcr
     go_wp2_with fail
     go_roundg (8 - k)
     case measure=>have:=HJ.out;omega
     case rel=>exact ⟨k+1,by have:=HJ.out;omega,by omega,by omega,by go_num,by rw [<-cntK_last hk1];exact HS.out⟩
  .obtain rfl:k=9:=by omega
   obtain ⟨ao,ca,rfl⟩:=hcr.form
   have HS:=Lib.hid hcr.2.2
   clear hcr
   go_wp2_with fail
   go_ret
   exact ⟨_,_,rfl,HS.out⟩
end Go.Proofs.YtkdbjelhkfdfjaaGreatDoor

