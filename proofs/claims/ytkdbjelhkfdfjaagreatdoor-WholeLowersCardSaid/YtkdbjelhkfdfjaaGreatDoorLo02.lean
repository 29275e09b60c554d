/-
  Contracts that the law rests on. Conditions: none.
-/
import Derived.Test.YtkdbjelhkfdfjaaGreatDoorLo01
import Derived.Test.YtkdbjelhkfdfjaaGreatDoorRows
import Derived.BigQuiet
import Derived.BigRegion
import Derived.ChangeKeysEq
import Derived.Deep.LoopGhost
import Derived.Deep.QuietTactic
import Derived.Laws.Entries
import Derived.Lib.Hide
import Derived.Outline
import Derived.RegionTactic
import Derived.WalkLawsBesides
import Derived.WalkSpells
set_option linter.unusedVariables false
set_option maxRecDepth 100000
set_option maxHeartbeats 32000000
namespace Go.Proofs.YtkdbjelhkfdfjaaGreatDoor
def HeapAt (d:Nat) (r:Nat->Nat->Bool) (v:Nat->Nat) (n i:Nat):Prop :=
 (∀j,0<j->j<n->j≠i->par d j≠i->r (v (par d j)) (v j)=true)∧(∀j,0<j->j<n->par d j=i->0<i->r (v (par d i)) (v j)=true)
section
variable {d n i:Nat} {r:Nat->Nat->Bool} {v:Nat->Nat}
theorem HeapAt.down (h:HeapAt d r v n i) (hd:2<=d) (ho:Ord r v n) (hi:i<n) (hs:i=0∨r (v i) (v (par d i))=false):HeapDown d r v n i:=by
 refine ⟨fun j hj hn hp=>?_,h.2⟩
 by_cases e:j=i
 .subst e
  rcases hs with c|c
  .omega
  .have hp:=par_lt hd hj
   rcases ho.tot j (par d j) hn (by omega) (by omega) with h1|h1
   .rw [c] at h1;cases h1
   .exact h1
 .exact h.1 j hj hn e hp
theorem HeapAt.up (h:HeapAt d r v n i) (hd:2<=d) (ho:Ord r v n) (hi:i<n) (h0:0<i) (hs:r (v i) (v (par d i))=true):HeapUp d r v n i:=by
 have hp:=par_lt hd h0
 refine ⟨fun j hj hn hne=>?_,h.2⟩
 by_cases e:par d j=i
 .rw [e]
  exact ho.tr i (par d i) j hi (by omega) hn hs (h.2 j hj hn e h0)
 .exact h.1 j hj hn hne e
theorem Heap'.at_end (h:Heap' d r v n) (hd:2<=d) (x:Nat):HeapAt d r (fun k=>if k=n then x else v k) (n+1) n:=by
 refine ⟨fun j hj hn hne hp=>?_,fun j hj hn hp _=>?_⟩
 .have:=par_lt hd hj
  simp only [hp,hne,if_false]
  exact h j hj (by omega)
 .have:=par_lt hd hj
  omega
theorem Heap'.refill (h:Heap' d r v (n+1)) (hd:2<=d) (ho:Ord r v (n+1)) (hi:i<n):HeapAt d r (fun k=>if k=i then v n else v k) n i:=by
 refine ⟨fun j hj hn hne hp=>?_,fun j hj hn hp h0=>?_⟩
 .simp only [hp,hne,if_false]
  exact h j hj (by omega)
 .have h1:=par_lt hd h0
  have h2:=par_lt hd hj
  simp only [show par d i≠i by omega,show j≠i by omega,if_false]
  have a:=h i h0 (by omega)
  have b:=h j hj (by omega)
  rw [hp] at b
  exact ho.tr (par d i) i j (by omega) (by omega) (by omega) a b
theorem HeapDown.last (h:HeapDown d r v n i) (hd:2<=d) (hi:n<=i+1):Heap' d r v n:=by
 refine h.stop fun j hj hn hp=>?_
 have:=par_lt hd hj
 omega
end
def Same (v v':Nat->Nat) (n:Nat):Prop:=∀z,(∃j,j<n∧v' j=z)↔(∃j,j<n∧v j=z)
theorem Same.refl (v:Nat->Nat) (n:Nat):Same v v n:=fun z=>Iff.rfl
theorem Same.trans {a b c:Nat->Nat} {n:Nat} (h:Same a b n) (k:Same b c n):Same a c n:=fun z=>(k z).trans (h z)
theorem Same.sw {v:Nat->Nat} {n i j:Nat} (hi:i<n) (hj:j<n):Same v (sw v i j) n:=by
 intro z
 constructor
 .rintro ⟨k,hk,e⟩
  obtain ⟨m,m1,m2,m3,m4⟩:=sw_idx v i j k
  refine ⟨m,?_,by rw [<-m1];exact e⟩
  by_cases e1:k=i
  .rw [m2 e1];exact hj
  .by_cases e2:k=j
   .rw [m3 e2 e1];exact hi
   .rw [m4 e1 e2];exact hk
 .rintro ⟨k,hk,e⟩
  by_cases e1:k=i
  .exact ⟨j,hj,by rw [sw_right,<-e1];exact e⟩
  .by_cases e2:k=j
   .exact ⟨i,hi,by rw [sw_left,<-e2];exact e⟩
   .exact ⟨k,hk,by rw [sw_other _ _ _ _ e1 e2];exact e⟩
theorem ordOf {E:Ent} {v:Nat->Nat} {n:Nat} (inj:∀i j,i<n->j<n->v i=v j->i=j) (hs:∀j,j<n->(E (v j)).isSome):Ord (ahead E) v n :=
 ⟨inj,fun i j k _ _ _ a b=>ahead_tr a b,fun i j hi hj hne=>ahead_tot (hs i hi) (hs j hj) fun e=>hne (inj i j hi hj e),fun i _=>ahead_irr E _⟩
theorem Heap'.cong {d n:Nat} {r r':Nat->Nat->Bool} {v v':Nat->Nat} (h:Heap' d r v n) (hd:2<=d) (hv:∀j,j<n->v' j=v j) (hr:∀i j,i<n->j<n->r' (v i) (v j)=r (v i) (v j)):Heap' d r' v' n:=by
 intro j hj hn
 have:=par_lt hd hj
 rw [hv _ (by omega),hv _ hn,hr _ _ (by omega) hn]
 exact h j hj hn
theorem Heap'.least {E:Ent} {d n g:Nat} {v:Nat->Nat} (h:Heap' d (ahead E) v n) (hd:2<=d) (ho:Ord (ahead E) v n) (h0:0<n) (hm:∀x,isIn E g x↔∃j,j<n∧v j=x):least E g (v 0):=by
 refine ⟨(hm _).2 ⟨0,h0,rfl⟩,fun y hy hne=>?_⟩
 obtain ⟨j,hj,e⟩:=(hm y).1 hy
 subst e
 refine h.root hd ho j ?_ hj
 rcases Nat.eq_zero_or_pos j with c|c
 .exact absurd (by rw [c]) hne
 .exact c
end Go.Proofs.YtkdbjelhkfdfjaaGreatDoor
namespace Go.Proofs.YtkdbjelhkfdfjaaGreatDoor.Rg
open Go.RowKit
theorem Tryz.infoInt:(Tryz.prog.info? 3).map (fun i=>(i.zero,i.size,i.bytes))=some (some (.int .i64 0),1,8):=by kernel_rfl
def nCells (L:List Nat):List Value:=L.map fun (n:Nat)=>.int .i64 (n:Int)
theorem nCells_at (L:List Nat) (k:Nat) (hk:k<L.length):(nCells L)[k]?=some (.int .i64 (fn L k:Nat)):=by simp [nCells,fn,List.getD,hk]
theorem nCells_set (L:List Nat) (k x:Nat):nCells (L.set k x)=(nCells L).set k (.int .i64 (x:Int)):=by simp [nCells,List.map_set]
theorem nCells_append (L M:List Nat):nCells (L++M)=nCells L++nCells M:=by simp [nCells]
def IR (B:Nat) (w:World) (v:Value) (L:List Nat):Prop:=w.ownsRow B 3 1 v L.length (nCells L)
theorem IR.form {B:Nat} {w:World} {v:Value} {L:List Nat} (h:IR B w v L):∃ao cap,v=.slice ao L.length cap:=by
 rcases h.2 with ⟨rfl,h0⟩|⟨g,cap,cur,rfl,_⟩
 .exact ⟨none,0,by rw [h0]⟩
 .exact ⟨_,_,rfl⟩
theorem IR.nil (B:Nat) (w:World):IR B w (.slice none 0 0) []:=World.ownsRow_nil _ _ _ _
theorem IR.at {B:Nat} {w:World} {ao:Option Addr} {n cap:Nat} {L:List Nat} (h:IR B w (.slice ao n cap) L) (k:Nat) (hk:k<L.length) :
  ∃g,ao=some ⟨g,0,none⟩∧g<w.heap.size∧B<=g∧w.cell? ⟨g,k,none⟩=some (.int .i64 (fn L k:Nat)):=by
 rcases h.2 with ⟨h0,h1⟩|⟨g,cap',cur,e,hb,hg,_⟩
 .omega
 .cases e
  refine ⟨g,rfl,lt_of_block hg,hb,?_⟩
  rw [World.ownsRow.cellAt h k (by omega)]
  exact nCells_at L k hk
theorem IR.lo {B C:Nat} {w:World} {v:Value} {L:List Nat} (h:IR B w v L) (hc:C<=B):IR C w v L:=by
 refine ⟨h.1,?_⟩
 rcases h.2 with h0|⟨g,cap,cur,e,hb,r⟩
 .exact .inl h0
 .exact .inr ⟨g,cap,cur,e,Nat.le_trans hc hb,r⟩
theorem IR.up {B C:Nat} {w:World} {v:Value} {L:List Nat} (h:IR B w v L) (hc:∀b,v.ownBlock=some b->C<=b):IR C w v L:=by
 refine ⟨h.1,?_⟩
 rcases h.2 with h0|⟨g,cap,cur,rfl,hb,r⟩
 .exact .inl h0
 .exact .inr ⟨g,cap,cur,rfl,hc g rfl,r⟩
theorem IR.own {B:Nat} {w:World} {v:Value} {L:List Nat} (h:IR B w v L):∀b,v.ownBlock=some b->B<=b∧b<w.heap.size:=by
 intro b hb
 rcases h.2 with ⟨rfl,_⟩|⟨g,cap,cur,rfl,h1,hg,r⟩
 .cases hb
 .cases hb;exact ⟨h1,lt_of_block hg⟩
theorem IR.keep {B:Nat} {w w':World} {F:List Nat} {v:Value} {L:List Nat} (h:IR B w v L) (k:Keeps F w w') (hf:∀b∈F,b<B):IR B w' v L:=by
 refine ⟨h.1,?_⟩
 rcases h.2 with h0|⟨g,cap,cur,rfl,hb,hg,r⟩
 .exact .inl h0
 .exact .inr ⟨g,cap,cur,rfl,hb,k.blk hg (fun e=>by have:=hf g e;omega),r⟩
theorem IR.below {B:Nat} {w w':World} {v:Value} {L:List Nat} (h:IR B w v L) (hb:Below w.heap.size w w'):IR B w' v L:=by
 refine ⟨h.1,?_⟩
 rcases h.2 with h0|⟨g,cap,cur,rfl,h1,hg,r⟩
 .exact .inl h0
 .exact .inr ⟨g,cap,cur,rfl,h1,(hb.block _ (lt_of_block hg)).trans hg,r⟩
theorem IR.alloc {B:Nat} {w:World} {v:Value} {L:List Nat} (h:IR B w v L) (o:Obj):IR B (w.alloc o) v L:=h.below ((Below.refl _ _).alloc (Nat.le_refl _) _)
theorem row_set {w:World} {B e g n cap:Nat} {xs:List Value} (h:w.ownsRow B e 1 (.slice (some ⟨g,0,none⟩) n cap) n xs) (i:Nat) (hi:i<n) (u:Value) :
  (w.setCell ⟨g,i,none⟩ u).ownsRow B e 1 (.slice (some ⟨g,0,none⟩) n cap) n (xs.set i u):=by
 refine ⟨by rw [List.length_set];exact h.1,?_⟩
 rcases h.2 with ⟨h0,_⟩|⟨g',cap',cur,hv,hb,hg,h1,h2,h3,h4⟩
 .cases h0
 .cases hv
  refine .inr ⟨g,cap,cur.setIfInBounds i u,rfl,hb,blk_setCell _ hg,h1,h2,by simpa using h3,?_⟩
  have hl:=h.1
  simp only [Nat.mul_one] at h4 hl ⊢
  rw [Array.toList_setIfInBounds,List.take_set,h4]
structure RingAt (w:World) (p gn gp:Nat) (N P:List Nat):Prop where
 blk:w.heap[p]?=some (.cells #[.slice (some ⟨gn,0,none⟩) N.length N.length,.slice (some ⟨gp,0,none⟩) N.length N.length] 267 (0,0))
 rn:w.ownsRow 0 3 1 (.slice (some ⟨gn,0,none⟩) N.length N.length) N.length (nCells N)
 rp:w.ownsRow 0 3 1 (.slice (some ⟨gp,0,none⟩) N.length N.length) N.length (nCells P)
 ne:gn≠p∧gp≠p∧gn≠gp
 lp:P.length=N.length
section
variable {w w':World} {p gn gp:Nat} {N P:List Nat}
theorem RingAt.lt (h:RingAt w p gn gp N P):p<w.heap.size∧gn<w.heap.size∧gp<w.heap.size:=⟨lt_of_block h.blk,row_lt h.rn,row_lt h.rp⟩
theorem RingAt.n (h:RingAt w p gn gp N P) (i:Nat) (hi:i<N.length):w.cell? ⟨gn,i,none⟩=some (.int .i64 (fn N i:Nat))∧w.frozen? ⟨gn,i,none⟩=false:=by
 constructor
 .rw [World.ownsRow.cellAt h.rn i (by omega)];exact nCells_at N i hi
 .rcases h.rn.2 with ⟨h0,_⟩|⟨g,cap',cur,e,hb,hg,_⟩
  .cases h0
  .cases e;exact frozen_of_blk hg
theorem RingAt.q (h:RingAt w p gn gp N P) (i:Nat) (hi:i<N.length):w.cell? ⟨gp,i,none⟩=some (.int .i64 (fn P i:Nat))∧w.frozen? ⟨gp,i,none⟩=false:=by
 have lp:=h.lp
 constructor
 .rw [World.ownsRow.cellAt h.rp i (by omega)];exact nCells_at P i (by omega)
 .rcases h.rp.2 with ⟨h0,_⟩|⟨g,cap',cur,e,hb,hg,_⟩
  .cases h0
  .cases e;exact frozen_of_blk hg
theorem RingAt.head (h:RingAt w p gn gp N P):w.cell? ⟨p,0,none⟩=some (.slice (some ⟨gn,0,none⟩) N.length N.length)∧w.cell? ⟨p,1,none⟩=some (.slice (some ⟨gp,0,none⟩) N.length N.length):=by
 constructor
 .rw [cell_of_blk h.blk];rfl
 .rw [cell_of_blk h.blk];rfl
theorem RingAt.keep {F:List Nat} (h:RingAt w p gn gp N P) (k:Keeps F w w') (h1:p∉F) (h2:gn∉F) (h3:gp∉F):RingAt w' p gn gp N P :=
 ⟨k.blk h.blk h1,k.row h.rn h2,k.row h.rp h3,h.ne,h.lp⟩
end
theorem has_yes (w:World) (p gn gp:Nat) (N P:List Nat) (h:RingAt w p gn gp N P) (x:Nat) (hx:x<N.length) :
  Calls Tryz.prog 397 #[.pointer (some ⟨p,0,none⟩),.int .i64 x] w fun e w'=>e=.returned (.bool true)∧w=w':=by
 obtain ⟨c0,_⟩:=h.head
 have hx0:decide ((0:Int)<=(x:Int))=true:=by rw [decide_eq_true_iff];omega
 go_enter Tryz.func397,Tryz.ntmps397
 go_wp2
 go_ret
 exact ⟨rfl,rfl⟩
theorem has_no (w:World) (p gn gp:Nat) (N P:List Nat) (h:RingAt w p gn gp N P) (x:Int) (hx:x<0∨(N.length:Int)<=x) :
  Calls Tryz.prog 397 #[.pointer (some ⟨p,0,none⟩),.int .i64 x] w fun e w'=>e=.returned (.bool false)∧w=w':=by
 obtain ⟨c0,_⟩:=h.head
 by_cases h0:x<0
 .have hx0:decide ((0:Int)<=x)=false:=by rw [decide_eq_false_iff_not];omega
  clear hx h0
  go_enter Tryz.func397,Tryz.ntmps397
  go_wp2
  go_ret
  exact ⟨rfl,rfl⟩
 .have hx0:decide ((0:Int)<=x)=true:=by rw [decide_eq_true_iff];omega
  have hx1:decide (x<(N.length:Int))=false:=by rw [decide_eq_false_iff_not];omega
  clear hx h0
  go_enter Tryz.func397,Tryz.ntmps397
  go_wp2
  go_ret
  exact ⟨rfl,rfl⟩
theorem next_yes (w:World) (p gn gp:Nat) (N P:List Nat) (h:RingAt w p gn gp N P) (x:Nat) (hx:x<N.length) :
  Calls Tryz.prog 399 #[.pointer (some ⟨p,0,none⟩),.int .i64 x] w fun e w'=>e=.returned (.tuple #[.int .i64 (fn N x:Nat),.bool true])∧w=w':=by
 obtain ⟨c0,_⟩:=h.head
 obtain ⟨c1,_⟩:=h.n x hx
 go_enter Tryz.func399,Tryz.ntmps399
 go_wp2_with (go_at_call 397;refine (has_yes w p gn gp N P h x hx).mono ?_;rintro e w' ⟨rfl,rfl⟩)
 go_ret2
 exact ⟨rfl,rfl⟩
theorem row_one (w:World) (x:Nat):IR w.heap.size (w.alloc (.cells #[.int .i64 (x:Int)] 3)) (.slice (some ⟨w.heap.size,0,none⟩) 1 1) [x]:=by
 refine ⟨by simp [nCells],.inr ⟨w.heap.size,1,#[.int .i64 (x:Int)],rfl,Nat.le_refl _,blk_alloc_new _,Nat.le_refl _,by unfold maxLen;omega,by simp,by simp [nCells]⟩⟩
theorem IR.pushed {B:Nat} {w:World} {L:List Nat} {x g cap:Nat} (h:w.ownsRow 0 3 1 (.slice (some ⟨g,0,none⟩) (L.length+1) cap) (L.length+1) (nCells L++[.int .i64 (x:Int)])) (hg:B<=g) :
  IR B w (.slice (some ⟨g,0,none⟩) (L.length+1) cap) (L++[x]):=by
 have h2:IR 0 w (.slice (some ⟨g,0,none⟩) (L.length+1) cap) (L++[x]):=by
  unfold IR
  rw [nCells_append]
  simpa [nCells] using h
 exact h2.up (fun b hb=>by simp [Value.ownBlock] at hb;omega)
theorem all_yes (w:World) (p gn gp:Nat) (N P:List Nat) (h:RingAt w p gn gp N P) (hN:N.length<70000) (x:Nat) (hx:x<N.length) (r:List Nat) (hp:Path (fn N) x r x) (hxr:x∉r) (hb:∀y∈r,y<N.length) (hr:r.length<70000) :
  Calls Tryz.prog 391 #[.pointer (some ⟨p,0,none⟩),.int .i64 x] w fun e w'=>∃v,e=.returned v∧IR w.heap.size w' v (x::r)∧Below w.heap.size w w':=by
 go_enter Tryz.func391,Tryz.ntmps391
 obtain ⟨c0,_⟩:=h.head
 obtain ⟨c1,_⟩:=h.n x hx
 obtain ⟨lt0,lt1,lt2⟩:=h.lt
 have hp0:=hp.at 0 (Nat.zero_le _)
 have HP0:=Lib.hid hp0
 have hrow:=row_one w x
 have hbel:Below w.heap.size w (w.alloc (.cells #[.int .i64 (x:Int)] 3)):=(Below.refl _ _).alloc (Nat.le_refl _) _
 clear hp0
 go_wp2_with (go_at_call 397;refine (has_yes w p gn gp N P h x hx).mono ?_;rintro e w' ⟨rfl,rfl⟩)
 go_loopg [5,6] (r.length+1) (fun m out y wr=>∃(k:Nat) (ao:Option Addr) (ca:Nat),k<=r.length∧m+k=r.length+1∧y=.int .i64 ((r++[x]).getD k 0:Nat)∧out=.slice ao (k+1) ca∧IR w.heap.size wr out (x::r.take k)∧Below w.heap.size w wr)
 case atStart =>
  refine ⟨0,_,_,Nat.zero_le _,by omega,?_,rfl,hrow,hbel⟩
  have:=HP0.out
  simp only [List.getD_cons_zero] at this
  rw [this]
 case round =>
  clear hrow hbel HP0 c1
  obtain ⟨k,ao,ca,hk,hgk,rfl,rfl,hrow,hbel⟩:=hrel
  have HG:=Lib.hid hgk
  clear hgk
  have hsz:=hbel.size
  have c2:wr.cell? ⟨p,0,none⟩=some (.slice (some ⟨gn,0,none⟩) N.length N.length):=(hbel.cell (p:=⟨p,0,none⟩) lt0).trans c0
  by_cases hlt:k<r.length
  .have hy:(r++[x]).getD k 0=r.getD k 0:=by simp [List.getD,List.getElem?_append_left hlt]
   have hmem:r.getD k 0∈r:=by simp [List.getD,hlt]
   have hyn:=hb _ hmem
   have hyx:r.getD k 0≠x:=fun e=>hxr (e ▸ hmem)
   have hnx:=hp.at (k+1) (by omega)
   rw [List.getD_cons_succ] at hnx
   have htk:r.take (k+1)=r.take k++[r.getD k 0]:=by rw [List.take_succ_eq_append_getElem hlt];simp [List.getD,hlt]
   have hlk:(r.take k).length=k:=by simp;omega
   rw [hy]
   have c3:wr.cell? ⟨gn,r.getD k 0,none⟩=some (.int .i64 (fn N (r.getD k 0):Nat)):=(hbel.cell (p:=⟨gn,r.getD k 0,none⟩) lt1).trans (h.n _ hyn).1
   have HT:=Lib.hid htk
   have HX:=Lib.hid hnx
   clear hy hmem htk hnx
   generalize r.getD k 0=y at *
   have hyb:((y:Int) != (x:Int))=true:=by rw [bne_iff_ne];omega
   clear hyx
   have h0row:wr.ownsRow 0 3 1 (.slice ao (k+1) ca) (k+1) (nCells (x::r.take k)):=by
    have h1:=hrow.lo (Nat.zero_le _)
    unfold IR at h1
    rwa [show (x::r.take k).length=k+1 by rw [List.length_cons,hlk]] at h1
   go_wp2_with (at_builtin;refine wpList_push _ 3 (.int .i64 y) (0,0) rfl (.tmp 30) (.tmp 32) 28 rfl (.int .i64 0) 8 Tryz.underlying28 Tryz.infoInt rfl rfl _ (k+1) (nCells (x::r.take k)) (by simp [Act.eval]) h0row (by simp [Act.eval]) (by unfold maxLen;omega) (by omega) ?_)
   intro g' cap' w4 hr4 hk4 hf4
   have hg':w.heap.size<=g':=by
    rcases hf4 with h1|h1
    .exact (hrow.own g' h1).1
    .omega
   have hr5:IR w.heap.size w4 (.slice (some ⟨g',0,none⟩) (k+1+1) cap') (x::r.take (k+1)):=by
    rw [HT.out,<-List.cons_append]
    have hl2:(x::r.take k).length=k+1:=by simp [hlk]
    have:=IR.pushed (B:=w.heap.size) (L:=x::r.take k) (x:=y) (by rw [hl2];exact hr4) hg'
    rw [hl2] at this
    exact this
   have hbel5:=hbel.trans (hk4.below hsz (fun b hb=>(hrow.own b (by simpa using hb)).1))
   have c4:w4.cell? ⟨p,0,none⟩=some (.slice (some ⟨gn,0,none⟩) N.length N.length):=(hbel5.cell (p:=⟨p,0,none⟩) lt0).trans c0
   have c5:w4.cell? ⟨gn,y,none⟩=some (.int .i64 (fn N y:Nat)):=(hbel5.cell (p:=⟨gn,y,none⟩) lt1).trans (h.n _ hyn).1
   clear hr4 hk4 hf4 hrow h0row hbel c2 c3 hlk
   go_wp2_with fail
   go_roundg (gk - 1)
   case measure=>have:=HG.out;omega
   case rel=>exact ⟨k+1,_,_,by omega,by have:=HG.out;omega,by rw [<-HX.out],rfl,hr5,hbel5⟩
  .obtain rfl:k=r.length:=by omega
   have hy:(r++[x]).getD r.length 0=x:=by simp [List.getD]
   rw [hy]
   have hyb:((x:Int) != (x:Int))=false:=by simp
   rw [List.take_length] at hrow
   go_wp2
   go_ret
   exact ⟨_,rfl,hrow,hbel⟩
def placeZ (l:List Nat) (x:Int):Int:=match l.findIdx? (isI x) with|some i=>i|none=>-1
theorem find_take {L:List Nat} {k:Nat} {q:Nat->Bool} (h:(L.take k).findIdx? q=none) (hk:k<L.length) :
  (q (fn L k)=true->L.findIdx? q=some k)∧(q (fn L k)=false->(L.take (k+1)).findIdx? q=none):=by
 have hs:L.take (k+1)=L.take k++[fn L k]:=by rw [List.take_succ_eq_append_getElem hk];simp [fn,List.getD,hk]
 have hl:(L.take k).length=k:=by simp;omega
 constructor
 .intro hq
  have h1:(L.take (k+1)).findIdx? q=some k:=by
   rw [hs,List.findIdx?_append,h]
   simp [hq,hl]
  have hL:L.findIdx? q=(L.take (k+1)++L.drop (k+1)).findIdx? q:=by rw [List.take_append_drop]
  rw [hL,List.findIdx?_append,h1]
  rfl
 .intro hq
  rw [hs,List.findIdx?_append,h]
  simp [hq]
theorem index_calls (w:World) (B:Nat) (v:Value) (L:List Nat) (h:IR B w v L) (hl:L.length<70000) (x:Int) :
  Calls Tryz.prog 355 #[v,.int .i64 x] w fun e w'=>e=.returned (.int .i64 (placeZ L x))∧w=w':=by
 obtain ⟨ao,ca,rfl⟩:=h.form
 go_enter Tryz.func355,Tryz.ntmps355
 go_wp2
 go_loop [8] (fun u=>∃k:Nat,k<=L.length∧u=.int .i64 k∧(L.take k).findIdx? (isI x)=none) (fun u=>L.length - (intOf u).toNat)
 case atStart=>exact ⟨0,by omega,rfl,by simp⟩
 case round =>
  obtain ⟨k,hk,rfl,hno⟩:=hrel
  by_cases hlt:k<L.length
  .obtain ⟨g,rfl,_,_,c0⟩:=h.at k hlt
   obtain ⟨h1,h2⟩:=find_take hno hlt
   have H1:=Lib.hid h1
   have H2:=Lib.hid h2
   clear h1 h2 hno
   generalize hy:fn L k=y at *
   clear hy
   cases hq:isI x y with
   | true =>
    have hqb:(x==(y:Int))=true:=by simp only [isI,beq_iff_eq] at hq ⊢;exact hq.symm
    have hf:=H1.out hq
    have HF:=Lib.hid hf
    clear hf hq
    go_wp2
    go_ret
    exact ⟨by simp only [placeZ,HF.out];rfl,rfl⟩
   | false =>
    have hqb:(x==(y:Int))=false:=by simp only [isI,beq_eq_false_iff_ne] at hq ⊢;exact fun e=>hq e.symm
    have hf:=H2.out hq
    have HF:=Lib.hid hf
    clear hf hq
    go_wp2
    go_round
    case rel=>exact ⟨k+1,by omega,by go_num,HF.out⟩
    case measure=>simp [intOf];omega
  .obtain rfl:k=L.length:=by omega
   rw [List.take_length] at hno
   have HF:=Lib.hid hno
   clear hno
   go_wp2
   go_ret
   exact ⟨by simp only [placeZ,HF.out];rfl,rfl⟩
theorem placeZ_any (L:List Nat) (x:Int):decide ((0:Int)<=placeZ L x)=L.any (isI x):=by
 unfold placeZ
 cases hf:L.findIdx? (isI x) with
 | none =>
  rw [List.findIdx?_eq_none_iff] at hf
  have:L.any (isI x)=false:=by rw [List.any_eq_false];intro y hy;simp [hf y hy]
  rw [this];rfl
 | some i =>
  have hs:(L.findIdx? (isI x)).isSome:=by rw [hf];rfl
  rw [List.findIdx?_isSome] at hs
  rw [hs]
  simp
theorem contains_calls (w:World) (B:Nat) (v:Value) (L:List Nat) (h:IR B w v L) (hl:L.length<70000) (x:Int) :
  Calls Tryz.prog 366 #[v,.int .i64 x] w fun e w'=>e=.returned (.bool (L.any (isI x)))∧w=w':=by
 have hp:=placeZ_any L x
 have HP:=Lib.hid hp
 clear hp
 go_enter Tryz.func366,Tryz.ntmps366
 go_wp2_with (go_at_call 355;refine (index_calls w B v L h hl x).mono ?_;rintro e w' ⟨rfl,rfl⟩)
 go_ret
 exact ⟨by rw [HP.out];rfl,rfl⟩
theorem RingAt.splice {w:World} {p gn gp:Nat} {N P:List Nat} (h:RingAt w p gn gp N P) {x y:Nat} (hx:x<N.length) (hy:y<N.length) (ha:fn N x<N.length) (hb:fn N y<N.length) :
  RingAt ((((w.setCell ⟨gn,x,none⟩ (.int .i64 (fn N y:Nat))).setCell ⟨gn,y,none⟩ (.int .i64 (fn N x:Nat))).setCell ⟨gp,fn N y,none⟩ (.int .i64 (x:Nat))).setCell ⟨gp,fn N x,none⟩ (.int .i64 (y:Nat))) p gn gp (nextS N x y) (prevS N P x y) ∧
  Keeps [gn,gp] w ((((w.setCell ⟨gn,x,none⟩ (.int .i64 (fn N y:Nat))).setCell ⟨gn,y,none⟩ (.int .i64 (fn N x:Nat))).setCell ⟨gp,fn N y,none⟩ (.int .i64 (x:Nat))).setCell ⟨gp,fn N x,none⟩ (.int .i64 (y:Nat))):=by
 obtain ⟨n1,n2,n3⟩:=h.ne
 have hk:Keeps [gn,gp] w ((((w.setCell ⟨gn,x,none⟩ (.int .i64 (fn N y:Nat))).setCell ⟨gn,y,none⟩ (.int .i64 (fn N x:Nat))).setCell ⟨gp,fn N y,none⟩ (.int .i64 (x:Nat))).setCell ⟨gp,fn N x,none⟩ (.int .i64 (y:Nat))) :=
  ((((Keeps.refl _ _).setCell (.inl (by simp)) _).setCell (.inl (by simp)) _).setCell (.inl (by simp)) _).setCell (.inl (by simp)) _
 have hl:(nextS N x y).length=N.length:=by simp [nextS]
 refine ⟨⟨?_,?_,?_,h.ne,by simp [prevS,hl,h.lp]⟩,hk⟩
 .rw [hl];exact hk.blk h.blk (by simp [Ne.symm n1,Ne.symm n2])
 .rw [hl,nextS,nCells_set,nCells_set]
  have r1:=row_set (row_set h.rn x hx (.int .i64 (fn N y:Nat))) y hy (.int .i64 (fn N x:Nat))
  have k2:Keeps [gp] ((w.setCell ⟨gn,x,none⟩ (.int .i64 (fn N y:Nat))).setCell ⟨gn,y,none⟩ (.int .i64 (fn N x:Nat))) ((((w.setCell ⟨gn,x,none⟩ (.int .i64 (fn N y:Nat))).setCell ⟨gn,y,none⟩ (.int .i64 (fn N x:Nat))).setCell ⟨gp,fn N y,none⟩ (.int .i64 (x:Nat))).setCell ⟨gp,fn N x,none⟩ (.int .i64 (y:Nat))) :=
   ((Keeps.refl _ _).setCell (.inl (by simp)) _).setCell (.inl (by simp)) _
  exact k2.row r1 (by simpa using n3)
 .rw [hl,prevS,nCells_set,nCells_set]
  have k1:Keeps [gn] w ((w.setCell ⟨gn,x,none⟩ (.int .i64 (fn N y:Nat))).setCell ⟨gn,y,none⟩ (.int .i64 (fn N x:Nat))):=((Keeps.refl _ _).setCell (.inl (by simp)) _).setCell (.inl (by simp)) _
  exact row_set (row_set (k1.row h.rp (by simpa using Ne.symm n3)) (fn N y) hb _) (fn N x) ha _
theorem RingAt.like {w w':World} {p gn gp:Nat} {N P:List Nat} (h:RingAt w p gn gp N P) (e:w'.heap=w.heap):RingAt w' p gn gp N P :=
 ⟨by rw [e];exact h.blk,by
  refine ⟨h.rn.1,?_⟩
  rw [e];exact h.rn.2,by
  refine ⟨h.rp.1,?_⟩
  rw [e];exact h.rp.2,h.ne,h.lp⟩
theorem _root_.Go.Proofs.YtkdbjelhkfdfjaaGreatDoor.Keeps.like {F:List Nat} {a b c:World} (h:Keeps F a b) (e:c.heap=b.heap) (e1:c.os=b.os) (e2:c.tape=b.tape) (e3:c.output=b.output):Keeps F a c :=
 ⟨e1.trans h.os,e2.trans h.tape,e3.trans h.output,by rw [e];exact h.size,by rw [e];exact h.block⟩
def Left (w:World) (p gn gp:Nat) (N P:List Nat) (w':World):Prop:=RingAt w' p gn gp N P∧Keeps [gn,gp] w w'
theorem splice_yes (w:World) (p gn gp:Nat) (N P:List Nat) (h:RingAt w p gn gp N P) (hN:N.length<70000) (x y:Nat) (hx:x<N.length) (hy:y<N.length) (ha:fn N x<N.length) (hb:fn N y<N.length) (hne:x≠y->fn N x≠fn N y) :
  Calls Tryz.prog 396 #[.pointer (some ⟨p,0,none⟩),.int .i64 x,.int .i64 y] w fun e w'=>e=.returned (.bool true)∧Left w p gn gp (nextS N x y) (prevS N P x y) w':=by
 obtain ⟨c0,c1⟩:=h.head
 obtain ⟨n1,n2,n3⟩:=h.ne
 obtain ⟨d0,f0⟩:=h.n x hx
 obtain ⟨d1,f1⟩:=h.n y hy
 obtain ⟨d2,f2⟩:=h.q (fn N x) ha
 obtain ⟨d3,f3⟩:=h.q (fn N y) hb
 have hfin:=h.splice hx hy ha hb
 go_enter Tryz.func396,Tryz.ntmps396
 go_wp2_with fail
 refine (has_yes w p gn gp N P h x hx).mono ?_
 rintro e w' ⟨rfl,rfl⟩
 go_wp2_with fail
 refine (has_yes w p gn gp N P h y hy).mono ?_
 rintro e w' ⟨rfl,rfl⟩
 go_wp2_with fail
 go_quiet (fail)
 go_wp2_with fail
 by_cases hxy:x=y
 .subst hxy
  go_region
  go_wp2_with fail
  go_region
  go_wp2
  go_ret
  exact ⟨rfl,hfin.1.like rfl,hfin.2.like rfl rfl rfl rfl⟩
 .have hab:=hne hxy
  go_region
  go_wp2_with fail
  go_region
  go_wp2
  go_ret
  exact ⟨rfl,hfin.1.like rfl,hfin.2.like rfl rfl rfl rfl⟩
end Go.Proofs.YtkdbjelhkfdfjaaGreatDoor.Rg
namespace Go.Proofs.YtkdbjelhkfdfjaaGreatDoor
open Go.RowKit
section
variable {P:Program}
theorem em_info {t:TypeId} {i:TypeInfo} (h:P.info? t=some i) (w:World):(typeInfo t).run P w=.ok i w:=by
 unfold typeInfo
 simp [Sem.run_bind,h,Result.andThen]
theorem run_method_embed (w:World) (fuel:Nat) (T S e:TypeId) (ti tf:TypeInfo) (name:String) (m:Method) (f:Field) (fields:Array Field) (p:Nat) (k:FuncId) (v:Value)
  (h1:P.info? T=some ti) (h2:ti.methods.find? (·.name==name)=some m) (h3:m.path=#[⟨S,0,true⟩]) (h4:m.func=some (k,true)) (h5:P.underlying S=some (.struct fields)) (h6:fields[0]?=some f) (h7:f.offset=0)
  (h8:P.underlying f.type=some (.pointer e)) (h9:P.info? f.type=some tf) (h10:tf.size=1) (hc:w.cell? ⟨p,0,none⟩=some v):(method (fuel+1) T (.pointer (some ⟨p,0,none⟩)) name).run P w=.ok (k,v) w:=by
 have e1:=em_info h1 w
 have e2:=run_underlying h5 w
 have e3:=run_underlying h8 w
 have e4:=em_info h9 w
 unfold method
 simp [Sem.run_bind,e1,h2,h3,h4,follow,e2,h6,Place.get,asAddr,fieldPlace,sizeOf,e4,h7,h10,receiverAt,e3,loadVar,isAgg,Addr.add,hc,Result.andThen]
theorem run_method_embedded (w:World) (fuel:Nat) (T S e t:TypeId) (name:String) (p:Nat) (k:FuncId) (v:Value)
  (h1:(P.info? T).bind (fun i=>(i.methods.find? (·.name==name)).map fun m=>(m.path,m.func))=some (#[⟨S,0,true⟩],some (k,true)))
  (h5:(P.underlying S).bind (fun d=>match d with|.struct fields=>(fields[0]?).map (fun f=>(f.type,f.offset))|_=>none)=some (t,0))
  (h8:P.underlying t=some (.pointer e)) (h9:(P.info? t).map (·.size)=some 1) (hc:w.cell? ⟨p,0,none⟩=some v):(method (fuel+1) T (.pointer (some ⟨p,0,none⟩)) name).run P w=.ok (k,v) w:=by
 obtain ⟨ti,a1,a2⟩:=Option.bind_eq_some_iff.1 h1
 obtain ⟨m,b1,b2⟩:=Option.map_eq_some_iff.1 a2
 obtain ⟨d,c1,c2⟩:=Option.bind_eq_some_iff.1 h5
 obtain ⟨tf,d1,d2⟩:=Option.map_eq_some_iff.1 h9
 cases d with
 | struct fields =>
  obtain ⟨f,f1,f2⟩:=Option.map_eq_some_iff.1 c2
  simp only [Prod.mk.injEq] at b2 f2
  obtain ⟨rfl,f3⟩:=f2
  exact run_method_embed w fuel T S e ti tf name m f fields p k v a1 b1 b2.1 b2.2 c1 f1 f3 h8 d1 d2 hc
 | _=>simp at c2
end
end Go.Proofs.YtkdbjelhkfdfjaaGreatDoor
namespace Go.Proofs.YtkdbjelhkfdfjaaGreatDoor
def Par (E:Ent) (U:Nat->Option Nat):Prop:=∀x p,U x=some p->hp E p=hp E x∧ahead E p x=true
section
variable {E:Ent} {U:Nat->Option Nat} {p x:Nat}
theorem Par.off (h:Par E U) (e:E x=none):U x=none:=by
 cases c:U x with
 | none=>rfl
 | some p=>have:=(ahead_some (h x p c).2).2;rw [e] at this;cases this
theorem Par.offKid (h:Par E U) (e:E p=none):∀x,U x≠some p:=by
 intro x c
 have:=(ahead_some (h x p c).2).1;rw [e] at this;cases this
theorem Par.attach (h:Par E U) (hh:hp E p=hp E x) (ha:ahead E p x=true):Par E (upd U x (some p)):=by
 intro y q hq
 by_cases c:y=x
 .subst c;rw [upd_same] at hq;cases hq;exact ⟨hh,ha⟩
 .rw [upd_other U _ c] at hq;exact h y q hq
theorem Par.detach (h:Par E U) (x:Nat):Par E (upd U x none):=by
 intro y q hq
 by_cases c:y=x
 .subst c;rw [upd_same] at hq;cases hq
 .rw [upd_other U _ c] at hq;exact h y q hq
theorem Par.scatter (h:Par E U) (S:Nat->Prop) [DecidablePred S]:Par E (fun y=>if S y then none else U y):=by
 intro y q hq
 simp only at hq
 split at hq
 .cases hq
 .exact h y q hq
theorem Par.drop (h:Par E U) (hu:U x=none) (hk:∀y,U y≠some x):Par (put E x none) U:=by
 intro y q hq
 have a:q≠x:=fun c=>hk y (by rw [<-c];exact hq)
 have b:y≠x:=by rintro rfl;rw [hu] at hq;cases hq
 rw [hp_put_other a,hp_put_other b,ahead_put_other a b];exact h y q hq
theorem Par.come (h:Par E U) (he:E x=none) (o:Nat×Int×Nat):Par (put E x (some o)) U:=by
 intro y q hq
 obtain ⟨a,b⟩:=ahead_some (h y q hq).2
 have c:q≠x:=by rintro rfl;rw [he] at a;cases a
 have d:y≠x:=by rintro rfl;rw [he] at b;cases b
 rw [hp_put_other c,hp_put_other d,ahead_put_other c d];exact h y q hq
theorem Par.least {t g n:Nat} (h:Par E U) (hn:∀x,(E x).isSome->x<n) (ht:isIn E g t) (h1:∀x,isIn E g x->U x=none->x≠t->ahead E t x=true):least E g t:=by
 refine least_of_parents (n:=n) (fun x hx=>hn x hx.some) ht ?_
 intro x hx hne
 cases c:U x with
 | none=>exact ⟨t,ht,h1 x hx c hne⟩
 | some p =>
  have:=h x p c
  refine ⟨p,?_,this.2⟩
  rw [<-hp_some,this.1,hp_some];exact hx
end
structure Cubes (K:Nat->List Nat) (U:Nat->Option Nat):Prop where
 mem:∀p x,x∈K p↔U x=some p
 deg:∀p i x,(K p)[i]?=some x->(K x).length=i
def updM {α:Type} (f:Nat->α) (l:List Nat) (v:α):Nat->α:=fun k=>if k∈l then v else f k
theorem updM_nil {α:Type} (f:Nat->α) (v:α):updM f [] v=f:=by funext k;simp [updM]
theorem updM_snoc {α:Type} (f:Nat->α) (l:List Nat) (x:Nat) (v:α):updM f (l++[x]) v=upd (updM f l v) x v:=by
 funext k
 simp only [updM,upd,List.mem_append,List.mem_singleton]
 by_cases c:k=x<;>by_cases d:k∈l<;>simp [c,d]
theorem updM_in {α:Type} (f:Nat->α) {l:List Nat} {x:Nat} (v:α) (h:x∈l):updM f l v x=v:=by simp [updM,h]
theorem updM_out {α:Type} (f:Nat->α) {l:List Nat} {x:Nat} (v:α) (h:x∉l):updM f l v x=f x:=by simp [updM,h]
section
variable {K:Nat->List Nat} {U:Nat->Option Nat} {a b x p:Nat}
theorem Cubes.init:Cubes (fun _=>[]) (fun _=>none):=⟨by simp,by simp⟩
theorem Cubes.nodup (h:Cubes K U) (p:Nat):(K p).Nodup:=by
 rw [List.Nodup,List.pairwise_iff_getElem]
 intro i j hi hj hij e
 have h1:=h.deg p i _ (List.getElem?_eq_getElem hi)
 have h2:=h.deg p j _ (List.getElem?_eq_getElem hj)
 rw [e,h2] at h1
 omega
theorem Cubes.lt (h:Cubes K U) (e:x∈K p):(K x).length<(K p).length:=by
 obtain ⟨i,hi,e⟩:=List.mem_iff_getElem.1 e
 have:=h.deg p i x (by rw [List.getElem?_eq_getElem hi,e])
 omega
theorem Cubes.rise (h:Cubes K U) (p:Nat):(K p).Pairwise fun a b=>(K a).length<(K b).length:=by
 rw [List.pairwise_iff_getElem]
 intro i j hi hj hij
 rw [h.deg p i _ (List.getElem?_eq_getElem hi),h.deg p j _ (List.getElem?_eq_getElem hj)]
 exact hij
theorem Cubes.link (h:Cubes K U) (hne:a≠b) (ha:U a=none) (hb:U b=none) (hd:(K a).length=(K b).length):Cubes (upd K a (K a++[b])) (upd U b (some a)):=by
 have hbK:∀p,b∉K p:=by intro p c;rw [h.mem,hb] at c;cases c
 have haK:∀p,a∉K p:=by intro p c;rw [h.mem,ha] at c;cases c
 refine ⟨?_,?_⟩
 .intro p y
  by_cases c:p=a
  .subst c
   rw [upd_same,List.mem_append,List.mem_singleton]
   by_cases d:y=b
   .subst d;rw [upd_same];simp
   .rw [upd_other _ _ d];simp only [d,or_false];exact h.mem p y
  .rw [upd_other _ _ c]
   by_cases d:y=b
   .subst d;rw [upd_same]
    constructor
    .intro e;exact absurd e (hbK p)
    .intro e;cases e;exact absurd rfl c
   .rw [upd_other _ _ d];exact h.mem p y
 .intro p i y
  by_cases c:p=a
  .subst c
   rw [upd_same]
   intro e
   by_cases d:i<(K p).length
   .rw [List.getElem?_append_left d] at e
    have:y≠p:=by rintro rfl;exact haK _ (List.mem_of_getElem? e)
    rw [upd_other _ _ this];exact h.deg p i y e
   .rw [List.getElem?_append_right (by omega)] at e
    have hi:i - (K p).length=0:=by
     have:=(List.getElem?_eq_some_iff.1 e).1
     simp at this
     exact this
    rw [hi] at e
    have e:b=y:=by simpa using e
    subst e
    rw [upd_other _ _ hne.symm];omega
  .rw [upd_other _ _ c]
   intro e
   have:y≠a:=fun q=>haK p (q ▸ List.mem_of_getElem? e)
   rw [upd_other _ _ this];exact h.deg p i y e
theorem Cubes.split (h:Cubes K U) (hx:U x=none):Cubes (upd K x []) (updM U (K x) none):=by
 have hxK:∀p,x∉K p:=by intro p c;rw [h.mem,hx] at c;cases c
 refine ⟨?_,?_⟩
 .intro p y
  by_cases c:p=x
  .subst c
   rw [upd_same]
   simp only [List.not_mem_nil,false_iff]
   by_cases d:y∈K p
   .rw [updM_in _ _ d];simp
   .rw [updM_out _ _ d];intro e;exact d ((h.mem p y).2 e)
  .rw [upd_other _ _ c]
   by_cases d:y∈K x
   .rw [updM_in _ _ d]
    constructor
    .intro e;rw [h.mem] at d e;rw [d] at e;cases e;exact absurd rfl c
    .intro e;cases e
   .rw [updM_out _ _ d];exact h.mem p y
 .intro p i y
  by_cases c:p=x
  .subst c;rw [upd_same];simp
  .rw [upd_other _ _ c]
   intro e
   have:y≠x:=fun q=>hxK p (q ▸ List.mem_of_getElem? e)
   rw [upd_other _ _ this];exact h.deg p i y e
def CRow (K:Nat->List Nat) (U:Nat->Option Nat) (l:List Nat):Prop:=(∀x∈l,U x=none)∧l.Pairwise fun a b=>(K a).length<(K b).length
theorem CRow.nil:CRow K U []:=⟨by simp,by simp⟩
theorem CRow.one (h:U x=none):CRow K U [x]:=⟨by simpa using h,by simp⟩
theorem CRow.nodup {l:List Nat} (h:CRow K U l):l.Nodup:=h.2.imp fun {a b} c e=>by rw [e] at c;omega
end
end Go.Proofs.YtkdbjelhkfdfjaaGreatDoor

