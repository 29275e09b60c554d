/-
  Contracts that the law rests on. Conditions: none.
-/
import Derived.Test.YtkdbjelhkfdfjaaGreatDoorLo03
import Derived.Lib.AppendStr
import Derived.Lib.Builder
import Derived.Lib.UnsafeStr
set_option linter.unusedVariables false
set_option maxRecDepth 100000
set_option maxHeartbeats 32000000
namespace Go.Proofs.YtkdbjelhkfdfjaaGreatDoor
open Go.RowKit
def cmpV (x y:Int):Int:=if x<y then -1 else if y<x then 1 else 0
theorem cmpV_lt {x y:Int} (h:x<y):cmpV x y=-1:=by simp [cmpV,h]
theorem cmpV_gt {x y:Int} (h:y<x):cmpV x y=1:=by simp [cmpV,h];omega
theorem cmpV_eq (x:Int):cmpV x x=0:=by simp [cmpV]
theorem isNaN_i64 (w:World) (x:Int):Calls Tryz.prog 84 #[.int .i64 x] w fun e w'=>e=.returned (.bool false)∧w=w':=by
 go_enter Tryz.func84,Tryz.ntmps84
 go_wp2
 go_ret
 exact ⟨by simp,rfl⟩
theorem isNaN_u64 (w:World) (x:Int):Calls Tryz.prog 338 #[.int .u64 x] w fun e w'=>e=.returned (.bool false)∧w=w':=by
 go_enter Tryz.func338,Tryz.ntmps338
 go_wp2
 go_ret
 exact ⟨by simp,rfl⟩
theorem cmp_i64 (w:World) (x y:Int):Calls Tryz.prog 335 #[.int .i64 x,.int .i64 y] w fun e w'=>e=.returned (.int .i64 (cmpV x y))∧w=w':=by
 rcases Int.lt_trichotomy x y with h|h|h
 .rw [cmpV_lt h]
  go_enter Tryz.func335,Tryz.ntmps335
  go_wp2_with (go_at_call 84;refine (isNaN_i64 _ _).mono ?_;rintro e w' ⟨rfl,rfl⟩)
  go_ret
  exact ⟨rfl,rfl⟩
 .subst h
  rw [cmpV_eq]
  have h:decide (x<x)=false:=by simp
  go_enter Tryz.func335,Tryz.ntmps335
  go_wp2_with (go_at_call 84;refine (isNaN_i64 _ _).mono ?_;rintro e w' ⟨rfl,rfl⟩)
  go_ret
  exact ⟨rfl,rfl⟩
 .rw [cmpV_gt h]
  have h':decide (x<y)=false:=by simp;omega
  go_enter Tryz.func335,Tryz.ntmps335
  go_wp2_with (go_at_call 84;refine (isNaN_i64 _ _).mono ?_;rintro e w' ⟨rfl,rfl⟩)
  go_ret
  exact ⟨rfl,rfl⟩
theorem cmp_u64 (w:World) (x y:Int):Calls Tryz.prog 336 #[.int .u64 x,.int .u64 y] w fun e w'=>e=.returned (.int .i64 (cmpV x y))∧w=w':=by
 rcases Int.lt_trichotomy x y with h|h|h
 .rw [cmpV_lt h]
  go_enter Tryz.func336,Tryz.ntmps336
  go_wp2_with (go_at_call 338;refine (isNaN_u64 _ _).mono ?_;rintro e w' ⟨rfl,rfl⟩)
  go_ret
  exact ⟨rfl,rfl⟩
 .subst h
  rw [cmpV_eq]
  have h:decide (x<x)=false:=by simp
  go_enter Tryz.func336,Tryz.ntmps336
  go_wp2_with (go_at_call 338;refine (isNaN_u64 _ _).mono ?_;rintro e w' ⟨rfl,rfl⟩)
  go_ret
  exact ⟨rfl,rfl⟩
 .rw [cmpV_gt h]
  have h':decide (x<y)=false:=by simp;omega
  go_enter Tryz.func336,Tryz.ntmps336
  go_wp2_with (go_at_call 338;refine (isNaN_u64 _ _).mono ?_;rintro e w' ⟨rfl,rfl⟩)
  go_ret
  exact ⟨rfl,rfl⟩
def orV (x y:Int):Int:=if x=0 then y else x
theorem orV_zero (y:Int):orV 0 y=y:=by simp [orV]
theorem orV_else {x:Int} (y:Int) (h:x≠0):orV x y=x:=by simp [orV,h]
theorem or2 (w:World) (b:Nat) (x y:Int) (h0:w.cell? ⟨b,0,none⟩=some (.int .i64 x)) (h1:w.cell? ⟨b,1,none⟩=some (.int .i64 y)) :
  Calls Tryz.prog 234 #[.slice (some ⟨b,0,none⟩) 2 2] w fun e w'=>e=.returned (.int .i64 (orV x y))∧w=w':=by
 by_cases hx:x=0
 .subst hx
  rw [orV_zero]
  by_cases hy:y=0
  .subst hy
   go_enter Tryz.func234,Tryz.ntmps234
   go_wp2
   go_loop [8] (fun i=>∃k:Nat,k<=2∧i=.int .i64 k) (fun i=>2 - (intOf i).toNat)
   case atStart=>exact ⟨0,by omega,rfl⟩
   case round =>
    obtain ⟨k,hk,rfl⟩:=hrel
    by_cases hlt:k<2
    .have h2:w.cell? ⟨b,k,none⟩=some (.int .i64 0):=by
      rcases Nat.lt_or_ge k 1 with c|c
      .have:k=0:=by omega
       subst this;exact h0
      .have:k=1:=by omega
       subst this;exact h1
     clear h0 h1
     go_wp2
     go_round
     case rel=>exact ⟨k+1,by omega,by go_num⟩
     case measure=>simp [intOf];omega
    .go_wp2
     go_ret
     exact ⟨rfl,rfl⟩
  .have hyb:(y != 0)=true:=by simpa using hy
   go_enter Tryz.func234,Tryz.ntmps234
   go_wp2
   go_loop [8] (fun i=>∃k:Nat,k<=1∧i=.int .i64 k) (fun i=>2 - (intOf i).toNat)
   case atStart=>exact ⟨0,by omega,rfl⟩
   case round =>
    obtain ⟨k,hk,rfl⟩:=hrel
    rcases Nat.lt_or_ge k 1 with c|c
    .obtain rfl:k=0:=by omega
     go_wp2
     go_round
     case rel=>exact ⟨1,by omega,rfl⟩
     case measure=>simp [intOf]
    .obtain rfl:k=1:=by omega
     go_wp2
     go_ret
     exact ⟨rfl,rfl⟩
 .have hxb:(x != 0)=true:=by simpa using hx
  rw [orV_else y hx]
  go_enter Tryz.func234,Tryz.ntmps234
  go_wp2
  go_loop [8] (fun i=>i=.int .i64 0) (fun i=>0)
  case atStart=>rfl
  case round =>
   subst hrel
   go_wp2
   go_ret
   exact ⟨rfl,rfl⟩
def cmpE (k q l r:Int):Int:=orV (cmpV k l) (cmpV q r)
structure CmpW (w w':World) (k q l r:Int):Prop where
 c:w'.cell? ⟨w.heap.size,0,none⟩=some (.int .i64 k)∧w'.cell? ⟨w.heap.size,1,none⟩=some (.int .u64 q)∧w'.cell? ⟨w.heap.size+1,0,none⟩=some (.int .i64 l)∧w'.cell? ⟨w.heap.size+1,1,none⟩=some (.int .u64 r)
 b:Below w.heap.size w w'
 s:w.heap.size+2<=w'.heap.size
theorem CmpW.new (w:World) (k q l r:Int) (t:TypeId):CmpW w ((w.alloc (.cells #[.int .i64 k,.int .u64 q] t)).alloc (.cells #[.int .i64 l,.int .u64 r] t)) k q l r:=by
 refine ⟨⟨?_,?_,?_,?_⟩,((Below.refl _ _).alloc (Nat.le_refl _) _).alloc (by simp) _,by simp⟩
 .rw [cell_of_blk ((blk_alloc_old _ (by simp)).trans (blk_alloc_new _))];rfl
 .rw [cell_of_blk ((blk_alloc_old _ (by simp)).trans (blk_alloc_new _))];rfl
 .have:=blk_alloc_new (w:=w.alloc (.cells #[.int .i64 k,.int .u64 q] t)) (.cells #[.int .i64 l,.int .u64 r] t)
  simp only [World.size_alloc] at this
  rw [cell_of_blk this];rfl
 .have:=blk_alloc_new (w:=w.alloc (.cells #[.int .i64 k,.int .u64 q] t)) (.cells #[.int .i64 l,.int .u64 r] t)
  simp only [World.size_alloc] at this
  rw [cell_of_blk this];rfl
theorem CmpW.next {w w' w'':World} {k q l r:Int} (h:CmpW w w' k q l r) (n:Below w'.heap.size w' w''):CmpW w w'' k q l r:=by
 have hs:=h.s
 refine ⟨?_,h.b.trans ⟨n.os,n.tape,n.output,n.size,fun i hi=>n.block i (by omega)⟩,by have:=n.size;omega⟩
 obtain ⟨c0,c1,c2,c3⟩:=h.c
 exact ⟨(n.cell (p:=⟨_,_,none⟩) (by simp;omega)).trans c0,(n.cell (p:=⟨_,_,none⟩) (by simp;omega)).trans c1,(n.cell (p:=⟨_,_,none⟩) (by simp;omega)).trans c2,(n.cell (p:=⟨_,_,none⟩) (by simp;omega)).trans c3⟩
theorem CmpW.alloc {w w':World} {k q l r:Int} (h:CmpW w w' k q l r) (o:Obj):CmpW w (w'.alloc o) k q l r:=h.next ((Below.refl _ _).alloc (Nat.le_refl _) _)
theorem CmpW.drew {w w':World} {k q l r:Int} (h:CmpW w w' k q l r):CmpW w w'.drew k q l r:=h.next ⟨rfl,rfl,rfl,Nat.le_refl _,fun _ _=>rfl⟩
theorem compare_calls (w:World) (k q l r:Int):Calls Tryz.prog 330 #[.agg #[.int .i64 k,.int .u64 q],.agg #[.int .i64 l,.int .u64 r]] w fun e w'=>e=.returned (.int .i64 (cmpE k q l r))∧Below w.heap.size w w':=by
 have k0:=CmpW.new w k q l r 104
 go_enter Tryz.func330,Tryz.ntmps330
 go_wp2_with fail
 generalize (w.alloc (.cells #[.int .i64 k,.int .u64 q] 104)).alloc (.cells #[.int .i64 l,.int .u64 r] 104)=w2 at *
 have k1:=k0.drew
 go_region_held3 (fun w'=>w'.cell? ⟨w.heap.size,0,none⟩=some (.int .i64 k)∧w'.cell? ⟨w.heap.size,1,none⟩=some (.int .u64 q)∧w'.cell? ⟨w.heap.size+1,0,none⟩=some (.int .i64 l)∧w'.cell? ⟨w.heap.size+1,1,none⟩=some (.int .u64 r))
  (first|exact CmpW.c (by assumption)|exact CmpW.c (CmpW.alloc (by assumption) _))
  (first
   | (go_at_call 335;refine (cmp_i64 _ _ _).mono ?_;rintro e w' ⟨rfl,rfl⟩)
   | (go_at_call 336;refine (cmp_u64 _ _ _).mono ?_;rintro e w' ⟨rfl,rfl⟩)
   | (go_at_call 234;refine (or2 _ _ (cmpV k l) (cmpV q r) (by show (w2.alloc _).cell? _=_;rw [cell_of_blk (blk_alloc_new _)];rfl) (by show (w2.alloc _).cell? _=_;rw [cell_of_blk (blk_alloc_new _)];rfl)).mono ?_;rintro e w' ⟨rfl,rfl⟩))
 all_goals
  have kb:=k0.b
  have ks:=kb.size
  go_wp2_with fail
  go_ret
  exact ⟨rfl,(kb.alloc ks _).drew⟩
theorem cmpE_lt (k q l r:Int):cmpE k q l r<0↔k<l∨(k=l∧q<r):=by
 simp only [cmpE,orV,cmpV]
 split<;>split<;>(try split)<;>(try split)<;>omega
theorem cmpE_zero (k q l r:Int):cmpE k q l r=0↔k=l∧q=r:=by
 simp only [cmpE,orV,cmpV]
 split<;>split<;>(try split)<;>(try split)<;>omega
theorem less_calls (w:World) (k q l r:Int):Calls Tryz.prog 323 #[.agg #[.int .i64 k,.int .u64 q],.agg #[.int .i64 l,.int .u64 r]] w fun e w'=>e=.returned (.bool (decide (cmpE k q l r<0)))∧Below w.heap.size w w':=by
 have k0:=CmpW.new w k q l r 104
 go_enter Tryz.func323,Tryz.ntmps323
 go_wp2_with (go_at_call 330;refine (compare_calls _ _ _ _ _).mono ?_;rintro e w' ⟨rfl,hb⟩)
 go_ret
 exact ⟨rfl,(k0.next hb).b⟩
theorem count_calls (w:World) (p:Nat) (cs:List Value) (T:TypeId) (s:Int) (hb:w.heap[p]?=some (.cells (.int .i64 s::cs).toArray T (0,0))) (h0:0<=s) (h1:s<=4611686018427387904) :
  Calls Tryz.prog 347 #[.pointer (some ⟨p,0,none⟩),.int .i64 1] w fun e w'=>e=.returned (.tuple #[])∧∃s',0<=s'∧s'<=4611686018427387904∧w'=w.setCell ⟨p,0,none⟩ (.int .i64 s'):=by
 have c0:w.cell? ⟨p,0,none⟩=some (.int .i64 s):=by rw [cell_of_blk hb];rfl
 have f0:w.frozen? ⟨p,0,none⟩=false:=frozen_of_blk hb
 by_cases hs:s<4611686018427387904
 .have hx:¬(4611686018427387904 - s<1):=by omega
  go_enter Tryz.func347,Tryz.ntmps347
  go_wp2
  go_end0
  exact ⟨rfl,s+1,by omega,by omega,rfl⟩
 .have hx:4611686018427387904 - s<1:=by omega
  go_enter Tryz.func347,Tryz.ntmps347
  go_wp2
  go_end0
  exact ⟨rfl,4611686018427387904,by omega,by omega,rfl⟩
def SAt (w:World) (g off:Nat) (l:List ByteArray):Prop:=∀i s,l[i]?=some s->w.cell? ⟨g,off+i,none⟩=some (.string s)
theorem Keeps.cell' {w w':World} {b j:Nat} {u:Value} (k:Keeps [] w w') (e:w.cell? ⟨b,j,none⟩=some u):w'.cell? ⟨b,j,none⟩=some u:=by
 have hb:=World.block_lt_of_cell? w _ e
 rw [World.cell?_of_block (a:=⟨b,j,none⟩) (k.block b hb (by simp))];exact e
theorem SAt.keep {w w':World} {g off:Nat} {l:List ByteArray} (h:SAt w g off l) (k:Keeps [] w w'):SAt w' g off l:=fun i s e=>k.cell' (h i s e)
theorem SAt.tail {w:World} {g off:Nat} {a:ByteArray} {l:List ByteArray} (h:SAt w g off (a::l)):SAt w g (off+1) l:=fun i s e=>by
 have:=h (i+1) s e
 rw [show off+1+i=off+(i+1) by omega];exact this
section
variable (w:World)
theorem index_none (g off cap:Nat) (l:List ByteArray) (x:ByteArray) (h:SAt w g off l) (hx:∀s∈l,(x.toList==s.toList)=false) (hl:l.length<=65536) :
  Calls Tryz.prog 100 #[.slice (some ⟨g,off,none⟩) l.length cap,.string x] w fun e w'=>e=.returned (.int .i64 (-1))∧w=w':=by
 have H:=Lib.hid h
 have HX:=Lib.hid hx
 clear h hx
 go_enter Tryz.func100,Tryz.ntmps100
 go_wp2_with fail
 go_loopg [5,8] (l.length+1) (fun k i t wr=>∃j:Nat,k+j=l.length+1∧j<=l.length∧t=.int .i64 j∧wr=w)
 case atStart=>exact ⟨0,by omega,by omega,rfl,rfl⟩
 case round =>
  obtain ⟨j,hk,hj,rfl,rfl⟩:=hrel
  have HK:=Lib.hid hk
  clear hk
  by_cases hi:j<l.length
  .have hi3:(j:Int)<(l.length:Int):=by omega
   obtain ⟨s,hs⟩:∃s,l[j]?=some s:=⟨_,List.getElem?_eq_getElem hi⟩
   have hc:=H.out j s hs
   have he:=HX.out s (List.mem_of_getElem? hs)
   clear hs
   go_wp2_with fail
   go_roundg (gk - 1)
   case measure=>have:=HK.out;omega
   case rel=>exact ⟨j+1,by have:=HK.out;omega,by omega,by go_num,rfl⟩
  .obtain rfl:j=l.length:=by omega
   go_wp2_with fail
   go_ret
   exact ⟨rfl,rfl⟩
theorem index_some (g off cap:Nat) (l:List ByteArray) (x:ByteArray) (n:Nat) (h:SAt w g off l) (hn:n<l.length) (hx:∀i s,i<n->l[i]?=some s->(x.toList==s.toList)=false) (hx':∀s,l[n]?=some s->(x.toList==s.toList)=true) (hl:l.length<=65536) :
  Calls Tryz.prog 100 #[.slice (some ⟨g,off,none⟩) l.length cap,.string x] w fun e w'=>e=.returned (.int .i64 n)∧w=w':=by
 have H:=Lib.hid h
 have HX:=Lib.hid hx
 have HX':=Lib.hid hx'
 clear h hx hx'
 go_enter Tryz.func100,Tryz.ntmps100
 go_wp2_with fail
 go_loopg [5,8] (n+1) (fun k i t wr=>∃j:Nat,k+j=n+1∧j<=n∧t=.int .i64 j∧wr=w)
 case atStart=>exact ⟨0,by omega,by omega,rfl,rfl⟩
 case round =>
  obtain ⟨j,hk,hj,rfl,rfl⟩:=hrel
  have HK:=Lib.hid hk
  clear hk
  have hi3:(j:Int)<(l.length:Int):=by omega
  obtain ⟨s,hs⟩:∃s,l[j]?=some s:=⟨_,List.getElem?_eq_getElem (by omega)⟩
  have hc:=H.out j s hs
  by_cases hi:j<n
  .have he:=HX.out j s hi hs
   clear hs
   go_wp2_with fail
   go_roundg (gk - 1)
   case measure=>have:=HK.out;omega
   case rel=>exact ⟨j+1,by have:=HK.out;omega,by omega,by go_num,rfl⟩
  .obtain rfl:j=n:=by omega
   have he:=HX'.out s hs
   clear hs
   go_wp2_with fail
   go_ret
   exact ⟨rfl,rfl⟩
theorem contains_none (g off cap:Nat) (l:List ByteArray) (x:ByteArray) (h:SAt w g off l) (hx:∀s∈l,(x.toList==s.toList)=false) (hl:l.length<=65536) :
  Calls Tryz.prog 79 #[.slice (some ⟨g,off,none⟩) l.length cap,.string x] w fun e w'=>e=.returned (.bool false)∧w=w':=by
 have hi:=index_none w g off cap l x h hx hl
 clear h hx
 go_enter Tryz.func79,Tryz.ntmps79
 go_wp2_with (go_at_call 100;refine hi.mono ?_;rintro e w' ⟨rfl,rfl⟩)
 go_ret
 exact ⟨rfl,rfl⟩
theorem verb_sort (d:Value):Calls Tryz.prog 81 #[d,.string ⟨#[115,111,114,116]⟩] w fun e w'=>e=.returned (.func (.func 104) #[d] #[])∧w=w':=by
 have hmf:∀(fn:Fn) (first cap:Array Value) (w:World),(Instr.makeFunc fn first cap).run Tryz.prog w=.ok (.func fn first cap) w:=fun _ _ _ _=>rfl
 go_enter Tryz.func81,Tryz.ntmps81
 go_wp2_with fail
 go_ret
 exact ⟨rfl,rfl⟩
theorem verb_kind (d:Value):Calls Tryz.prog 81 #[d,.string ⟨#[107,105,110,100]⟩] w fun e w'=>e=.returned (.func (.func 101) #[d] #[])∧w=w':=by
 have hmf:∀(fn:Fn) (first cap:Array Value) (w:World),(Instr.makeFunc fn first cap).run Tryz.prog w=.ok (.func fn first cap) w:=fun _ _ _ _=>rfl
 go_enter Tryz.func81,Tryz.ntmps81
 go_wp2_with fail
 go_ret
 exact ⟨rfl,rfl⟩
theorem rep_check:Calls Tryz.prog 128 #[.int .i64 0] w fun e w'=>e=.returned (.tuple #[])∧w=w':=by
 go_enter Tryz.func128,Tryz.ntmps128
 go_wp2_with fail
 first|go_end0|refine bodyPost_ret (results_none rfl _ _ _) rfl ?_
 exact ⟨rfl,rfl⟩
theorem rep_want (a:Option Addr) (n c:Nat) (m:Nat) (h:m<=n):Calls Tryz.prog 125 #[.slice a n c,.int .i64 m] w fun e w'=>e=.returned (.tuple #[])∧w=w':=by
 have h1:¬(n:Int)<(m:Int):=by omega
 go_enter Tryz.func125,Tryz.ntmps125
 go_wp2_with fail
 first|go_end0|refine bodyPost_ret (results_none rfl _ _ _) rfl ?_
 exact ⟨rfl,rfl⟩
def kindsW:List ByteArray:=[⟨#[]⟩,⟨#[98,105,110,97,114,121]⟩,⟨#[100,97,114,121]⟩,⟨#[98,105,110,111,109,105,97,108]⟩,⟨#[112,97,105,114,105,110,103]⟩,⟨#[102,105,98,111,110,97,99,99,105]⟩,⟨#[108,101,102,116,105,115,116]⟩,⟨#[115,107,101,119]⟩,⟨#[108,105,98,114,97,114,121]⟩]
def kindsO:Obj:=.cells (kindsW.map Value.string).toArray 9 (0,0)
theorem rep_names:Calls Tryz.prog 126 #[] w fun e w'=>e=.returned (.slice (some ⟨w.heap.size,0,none⟩) 9 9)∧w'=w.alloc kindsO:=by
 go_enter Tryz.func126,Tryz.ntmps126
 go_wp2_with fail
 go_ret
 exact ⟨rfl,rfl⟩
theorem kindsO_at (w:World):SAt (w.alloc kindsO) w.heap.size 0 kindsW:=fun i s e=>by
 rw [cell_of_blk (blk_alloc_new (w:=w) kindsO),Nat.zero_add]
 simp [e]
end
theorem Tryz.infoBldP:(Tryz.prog.info? 122).map (·.size)=some 2:=by kernel_rfl
theorem Tryz.infoU8:(Tryz.prog.info? 5).map (fun i=>(i.zero,i.size,i.bytes))=some (some (.int .u8 0),1,1):=by kernel_rfl
theorem Tryz.cellsU8:Tryz.prog.cellsOf 5=1:=by kernel_rfl
def BldAt (w:World) (p:Nat) (t:List UInt8) (v:Value):Prop :=
 ∃a,w.heap[p]?=some (.cells #[a,v] 122 (0,0))∧(a=.pointer none∨a=.pointer (some ⟨p,0,none⟩))∧w.ownsRow 0 5 1 v t.length (Lib.byteCells t)∧v.ownBlock≠some p
section
variable {w w':World} {p:Nat} {t:List UInt8} {v:Value} {S:List Nat}
theorem BldAt.keep (h:BldAt w p t v) (k:Keeps S w w') (hp:p∉S) (hv:∀b,v.ownBlock=some b->b∉S):BldAt w' p t v:=by
 obtain ⟨a,h1,h2,h3,h4⟩:=h
 refine ⟨a,k.blk h1 hp,h2,⟨h3.1,?_⟩,h4⟩
 rcases h3.2 with c|⟨g,cap,cur,e,hb,hg,r⟩
 .exact .inl c
 .exact .inr ⟨g,cap,cur,e,hb,k.blk hg (hv g (by rw [e];rfl)),r⟩
theorem BldAt.new (w:World):BldAt (w.alloc (.cells #[.pointer none,.slice none 0 0] 122 (0,0))) w.heap.size [] (.slice none 0 0) :=
 ⟨_,blk_alloc_new _,.inl rfl,⟨rfl,.inl ⟨rfl,rfl⟩⟩,by simp [Value.ownBlock]⟩
theorem BldAt.rowBlk (h:BldAt w p t v) {b:Nat} (e:v.ownBlock=some b):∃cur,w.heap[b]?=some (.cells cur 5 (0,0)):=by
 obtain ⟨a,h1,h2,h3,h4⟩:=h
 rcases h3.2 with ⟨c,_⟩|⟨g,cap,cur,e',hb,hg,r⟩
 .rw [c] at e;cases e
 .rw [e'] at e;cases e;exact ⟨cur,hg⟩
theorem BldAt.lt (h:BldAt w p t v):p<w.heap.size:=by obtain ⟨a,h1,_⟩:=h;exact lt_of_block h1
end
section
variable (w:World) (p:Nat) (t:List UInt8) (v:Value)
theorem bld_check (h:BldAt w p t v):Calls Tryz.prog 77 #[.pointer (some ⟨p,0,none⟩)] w fun e w'=>e=.returned (.tuple #[])∧BldAt w' p t v∧Keeps [p] w w'∧w'.heap[p]?=some (.cells #[.pointer (some ⟨p,0,none⟩),v] 122 (0,0)):=by
 obtain ⟨j,hj,hjs⟩:=Option.map_eq_some_iff.1 Tryz.infoBldP
 obtain ⟨a,h1,h2,h3,h4⟩:=h
 have c0:w.cell? ⟨p,0,none⟩=some a:=by rw [cell_of_blk h1];rfl
 have f0:w.frozen? ⟨p,0,none⟩=false:=frozen_of_blk h1
 rcases h2 with rfl|rfl
 .have hsh:w.shape? p=some (122,2):=by simp [World.shape?,h1]
  have q1:=Lib.run_to_unsafe (P:=Tryz.prog) w ⟨p,0,none⟩ Tryz.underlying119 Tryz.underlying244 hj (by rw [hjs];decide) hsh (show 0<2 by decide)
  have q2:(callFunc 98 #[.pointer (some ⟨p,0,none⟩)]).run Tryz.prog w=.ok (.value (.pointer (some ⟨p,0,none⟩))) w:=by kernel_rfl
  have q3:=Lib.run_from_unsafe (P:=Tryz.prog) w ⟨p,0,none⟩ Tryz.underlying244 Tryz.underlying119 hj hsh (by kernel_rfl)
  have hb:(w.setCell ⟨p,0,none⟩ (.pointer (some ⟨p,0,none⟩))).heap[p]?=some (.cells #[.pointer (some ⟨p,0,none⟩),v] 122 (0,0)):=(blk_setCell (i:=0) _ h1).trans rfl
  have kk:Keeps [p] w (w.setCell ⟨p,0,none⟩ (.pointer (some ⟨p,0,none⟩))):=(Keeps.refl _ _).setCell (p:=⟨p,0,none⟩) (.inl (by simp)) _
  have HF:Hid (BldAt (w.setCell ⟨p,0,none⟩ (.pointer (some ⟨p,0,none⟩))) p t v∧Keeps [p] w (w.setCell ⟨p,0,none⟩ (.pointer (some ⟨p,0,none⟩)))∧(w.setCell ⟨p,0,none⟩ (.pointer (some ⟨p,0,none⟩))).heap[p]?=some (.cells #[.pointer (some ⟨p,0,none⟩),v] 122 (0,0))):=by
   refine Lib.hid ⟨⟨_,hb,.inr rfl,⟨h3.1,?_⟩,h4⟩,kk,hb⟩
   rcases h3.2 with c|⟨g,cap,cur,e,hb',hg,r⟩
   .exact .inl c
   .exact .inr ⟨g,cap,cur,e,hb',kk.blk hg (by simp;intro c;exact h4 (by rw [e,<-c];rfl)),r⟩
  clear hb kk h1 h3 h4
  go_enter Tryz.func77,Tryz.ntmps77
  go_wp2_with fail
  go_end0
  exact ⟨rfl,HF.out⟩
 .have q1:=Lib.run_neq_ptr_same (P:=Tryz.prog) w ⟨p,0,none⟩ Tryz.underlying119 hj
  have HF:=Lib.hid (show BldAt w p t v∧Keeps [p] w w∧w.heap[p]?=some (.cells #[.pointer (some ⟨p,0,none⟩),v] 122 (0,0)) from ⟨⟨_,h1,.inr rfl,h3,h4⟩,Keeps.refl _ _,h1⟩)
  clear h1 h3 h4
  go_enter Tryz.func77,Tryz.ntmps77
  go_wp2_with fail
  go_end0
  exact ⟨rfl,HF.out⟩
def Wrote (B:Nat) (s:List UInt8) (e:Ending) (w':World):Prop :=
 ∃v',e=.returned (.tuple #[.int .i64 (s.length:Int),.nilIface])∧BldAt w' p (t++s) v'∧Keeps (p::v.ownBlock.toList) w w'∧∀b,v'.ownBlock=some b->B<=b
theorem brow_up {w:World} {e size n B:Nat} {v:Value} {xs:List Value} (h:w.ownsRow 0 e size v n xs) (hB:∀b,v.ownBlock=some b->B<=b):w.ownsRow B e size v n xs:=by
 refine ⟨h.1,?_⟩
 rcases h.2 with c|⟨g,cap,cur,e',hb,r⟩
 .exact .inl c
 .exact .inr ⟨g,cap,cur,e',hB g (by rw [e'];rfl),r⟩
theorem brow_down {w:World} {e size n B:Nat} {v:Value} {xs:List Value} (h:w.ownsRow B e size v n xs):w.ownsRow 0 e size v n xs:=by
 refine ⟨h.1,?_⟩
 rcases h.2 with c|⟨g,cap,cur,e',hb,r⟩
 .exact .inl c
 .exact .inr ⟨g,cap,cur,e',Nat.zero_le _,r⟩
theorem brow_base {w:World} {e size n B:Nat} {v:Value} {xs:List Value} (h:w.ownsRow B e size v n xs):∀b,v.ownBlock=some b->B<=b:=by
 intro b hb
 rcases h.2 with ⟨c,_⟩|⟨g,cap,cur,e',hg,r⟩
 .rw [c] at hb;cases hb
 .rw [e'] at hb;cases hb;exact hg
theorem bld_write (h:BldAt w p t v) (s:ByteArray) (hl:t.length+s.size<=65536000) (B:Nat) (hB:B<=w.heap.size) (hvB:∀b,v.ownBlock=some b->B<=b):Calls Tryz.prog 45 #[.pointer (some ⟨p,0,none⟩),.string s] w (Wrote w p t v B s.data.toList):=by
 have hc:=bld_check w p t v h
 obtain ⟨i0,hi,hzz⟩:=Option.map_eq_some_iff.1 Tryz.infoU8
 simp only [Prod.mk.injEq] at hzz
 obtain ⟨hz0,hz1,hz2⟩:=hzz
 have hlt:=h.lt
 have hfin:∀w1,BldAt w1 p t v->Keeps [p] w w1->w1.heap[p]?=some (.cells #[.pointer (some ⟨p,0,none⟩),v] 122 (0,0))->w1.cell? ⟨p,1,none⟩=some v∧w1.ownsRow B 5 1 v t.length (Lib.byteCells t)∧B<=w1.heap.size ∧
   Hid (∀v' w2,w2.ownsRow B 5 1 v' (t.length+s.size) (Lib.byteCells t++Lib.strCells s)->w1.grownBy w2 v.ownBlock->(∃ao n cap,v'=.slice ao n cap)∧w2.frozen? ⟨p,1,none⟩=false∧w2.cell? ⟨p,1,none⟩=some v∧Hid (Wrote w p t v B s.data.toList (.returned (.tuple #[.int .i64 (s.size:Int),.nilIface])) (w2.setCell ⟨p,1,none⟩ v'))):=by
  intro w1 hb k1 hbk
  obtain ⟨a,h1,h2,h3,h4⟩:=hb
  refine ⟨by rw [cell_of_blk hbk];rfl,brow_up h3 hvB,Nat.le_trans hB k1.size,fun v' w2 hoB hg=>?_⟩
  have ho:=brow_down hoB
  have k2:Keeps v.ownBlock.toList w1 w2:=(Keeps.refl _ _).grown hg (fun b e=>.inl (by rw [e];simp))
  have hp:p∉v.ownBlock.toList:=by
   intro c
   cases e:v.ownBlock with
   | none=>rw [e] at c;simp at c
   | some b=>rw [e] at c;simp at c;exact h4 (by rw [e,c])
  have hb2:=k2.blk hbk hp
  have hb3:(w2.setCell ⟨p,1,none⟩ v').heap[p]?=some (.cells #[.pointer (some ⟨p,0,none⟩),v'] 122 (0,0)):=(blk_setCell (i:=1) _ hb2).trans rfl
  have hlen:(t++s.data.toList).length=t.length+s.size:=by rw [List.length_append];rfl
  have hne:v'.ownBlock≠some p:=by
   intro e
   rcases ho.2 with ⟨c,_⟩|⟨g,cap,cur,e',hb,hg',r⟩
   .rw [c] at e;cases e
   .rw [e'] at e;cases e
    rw [hb2] at hg'
    injection hg' with hg';injection hg' with _ ht;cases ht
  refine ⟨?_,frozen_of_blk hb2,by rw [cell_of_blk hb2];rfl,v',rfl,⟨_,hb3,.inr rfl,?_,hne⟩,?_,brow_base hoB⟩
  .rcases ho.2 with ⟨c,_⟩|⟨g,cap,cur,e',_⟩
   .exact ⟨_,_,_,c⟩
   .exact ⟨_,_,_,e'⟩
  .rw [hlen,Lib.byteCells_append,<-Lib.strCells_eq]
   refine ⟨ho.1,?_⟩
   rcases ho.2 with c|⟨g,cap,cur,e',hb,hg',r⟩
   .exact .inl c
   .refine .inr ⟨g,cap,cur,e',hb,?_,r⟩
    rw [blk_setCell_ne]
    .exact hg'
    .intro c
     exact hne (by rw [e'];show some g=some p;rw [c])
  .exact ((k1.mono (T:=p::v.ownBlock.toList) (fun x hx=>.inl (by simp at hx;simp [hx]))).trans k2 (fun x hx=>.inl (by simp [hx]))).setCell (p:=⟨p,1,none⟩) (.inl (by simp)) _
 have HF:=Lib.hid hfin
 clear hfin h
 have hsl:(s.size:Int)=(s.data.toList.length:Int):=rfl
 have HSL:=Lib.hid hsl
 clear hsl
 go_enter Tryz.func45,Tryz.ntmps45
 go_wp2_with (first
  | (go_at_call 77;refine hc.mono ?_;rintro e w1 ⟨rfl,z1,z2,z3⟩;obtain ⟨c1,c2,cB,c3⟩:=HF.out w1 z1 z2 z3;clear z1 z2 z3)
  | (at_builtin;refine Lib.wpList_append_own_string _ rfl _ _ 120 9 rfl B 5 i0 Tryz.underlying120 Tryz.underlying9 hi hz0 hz1 hz2 v t.length (Lib.byteCells t) rfl c2 s rfl ?_ ?_ ?_ ?_;(unfold maxLen;omega);omega;exact cB;intro v' w2 ho hg _;obtain ⟨⟨ao,n,cap,rfl⟩,f1,c4,c5⟩:=c3.out v' w2 ho hg;clear ho hg))
 go_ret2
 exact c5.out
theorem keeps_freeze {S:List Nat} {w w':World} (h:Keeps S w w') {a:Addr} (ha:a.block∈S∨w.heap.size<=a.block) (n:Nat):Keeps S w (w'.freeze a n):=by
 by_cases hn:n=0
 .have:w'.freeze a n=w':=by simp [World.freeze,hn]
  rw [this];exact h
 .refine h.trans (T:=[a.block]) ⟨?_,?_,?_,?_,fun k hk hs=>?_⟩ (fun x hx=>by simp at hx;subst hx;exact ha)
  .simp [World.freeze,hn]
  .simp [World.freeze,hn]
  .simp [World.freeze,hn]
  .simp [World.freeze,hn]
  .simp at hs
   simp [World.freeze,hn,Array.getElem?_modify,Ne.symm hs]
theorem bld_string (h:BldAt w p t v) (h0:t≠[]) (hl:t.length<=65536000):Calls Tryz.prog 48 #[.pointer (some ⟨p,0,none⟩)] w fun e w'=>e=.returned (.string ⟨t.toArray⟩)∧Keeps v.ownBlock.toList w w':=by
 obtain ⟨a,h1,h2,h3,h4⟩:=h
 have hl0:t.length≠0:=by simpa using h0
 obtain ⟨g,cap,cur,rfl,hbg,hg,hnc,hcm,hcs,htake⟩:∃g cap cur,v=.slice (some ⟨g,0,none⟩) t.length cap∧0<=g∧w.heap[g]?=some (.cells cur 5 (0,0))∧t.length<=cap∧cap<=maxLen∧cur.size=cap*1∧cur.toList.take (t.length*1)=Lib.byteCells t:=by
  rcases h3.2 with ⟨_,hz⟩|⟨g,cap,cur,hv,r⟩
  .exact absurd hz hl0
  .exact ⟨g,cap,cur,hv,r⟩
 have c1:w.drew.cell? ⟨p,1,none⟩=some (.slice (some ⟨g,0,none⟩) t.length cap):=by
  have:w.drew.heap[p]?=some (.cells #[a,.slice (some ⟨g,0,none⟩) t.length cap] 122 (0,0)):=h1
  rw [cell_of_blk this];rfl
 have hSD:(Builtin.unsafeSliceData_ #[120] 192 #[.slice (some ⟨g,0,none⟩) t.length cap]).run Tryz.prog w.drew=.ok (.pointer (some ⟨g,0,none⟩)) w.drew :=
  Lib.run_unsafeSliceData_row _ _ _ _ _ _ (by omega)
 have hUS:(Builtin.unsafeString_ #[192,3] 9 #[.pointer (some ⟨g,0,none⟩),.int .i64 t.length]).run Tryz.prog w.drew=.ok (.string ⟨t.toArray⟩) (w.drew.freeze ⟨g,0,none⟩ t.length):=by
  refine Lib.run_unsafeString_row w.drew 192 3 9 5 Tryz.underlying192 Tryz.cellsU8 g cur.size (by have hg':w.drew.heap[g]?=some (.cells cur 5 (0,0)):=hg;simp [World.shape?,hg']) t h0 (by omega) (by unfold maxLen at hcm;omega) ?_
  intro j x hx
  exact h3.cells (g:=g) rfl j (.int .u8 x.toNat) (by simp [Lib.byteCells,hx])
 have HF:Hid (Keeps [g] w (w.drew.freeze ⟨g,0,none⟩ t.length)):=Lib.hid (keeps_freeze (Keeps.refl _ _).drew (.inl (by simp)) _)
 clear h1 h2 h3 h4 hg hcs htake hcm hnc
 go_enter Tryz.func48,Tryz.ntmps48
 go_wp2_with fail
 go_region
 all_goals
  go_wp2_with fail
  go_ret
  exact ⟨rfl,HF.out⟩
end
end Go.Proofs.YtkdbjelhkfdfjaaGreatDoor

