/-
  Contracts that the law rests on. Conditions: none.
-/
import Derived.Test.YtkdbjelhkfdfjaaGreatDoorLo42
import Derived.Test.YtkdbjelhkfdfjaaGreatDoorLo44
set_option linter.unusedVariables false
set_option maxRecDepth 100000
set_option maxHeartbeats 32000000
namespace Go.Proofs.YtkdbjelhkfdfjaaGreatDoor
open Go.RowKit
section
variable (w:World) (F:List Nat) (s k cap hs:Nat) (E:Ent) (q:Nat) (most:Int) (G:Nat->Nat)
def MinYes (h:Nat) (e:Ending) (w':World):Prop :=
 ∃(x n:Nat) (key:Int),least E h x∧E x=some (h,key,n)∧e=.returned (.tuple #[.agg #[.int .i64 x,.int .u32 (G x:Nat)],.int .i64 key,.int .i64 0])∧StoreAt w' F s k cap hs E q most G∧Keeps F w w'
def MinNo (e:Ending) (w':World):Prop :=
 e=.returned (.tuple #[.agg #[.int .i64 0,.int .u32 0],.int .i64 0,.int .i64 172])∧StoreAt w' F s k cap hs E q most G∧Keeps F w w'
theorem pq_min_yes (c:StoreAt w F s k cap hs E q most G) (h:Nat) (h1:1<=h) (h2:h<=hs) (hi:∃y,isIn E h y) :
  Calls Tryz.prog 32 #[.pointer (some ⟨s,0,none⟩),.int .i64 h] w (MinYes w F s k cap hs E q most G h):=by
 have hlt:=c.lt
 obtain ⟨w0,hw0⟩:∃w0,w0=w.alloc (.cells #[.int .i64 0,.int .u32 0] 45 (0,0)):=⟨_,rfl⟩
 have k0:Keeps [] w w0:=by rw [hw0];exact (Keeps.refl _ _).alloc _
 have hb0:w0.heap[w.heap.size]?=some (.cells #[.int .i64 0,.int .u32 0] 45 (0,0)):=by rw [hw0];exact blk_alloc_new _
 have hfirst:=pq_first_yes w0 F s k cap hs E q most G (c.keep k0 (by simp)) h h1 h2 hi
 have hnot:w.heap.size∉F:=fun e=>Nat.lt_irrefl _ (hlt _ e)
 have hstep:∀(w1:World) (x:Nat),least E h x->StoreAt w1 F s k cap hs E q most G->Keeps F w0 w1 ->
   ∃(n:Nat) (key:Int),E x=some (h,key,n)∧Hid (Calls Tryz.prog 49 #[.pointer (some ⟨s,0,none⟩),.agg #[.int .i64 x,.int .u32 (G x:Nat)]] (w1.alloc (.cells #[.int .i64 (x:Int),.int .u32 (G x:Int)] 45 (0,0))) fun e w2=>e=.returned (.tuple #[.agg #[.int .i64 key,.int .u64 (n:Int)],.int .i64 0]) ∧
    (w2.alloc (.cells #[.int .i64 key,.int .u64 (n:Int)] 104 (0,0))).heap[w1.heap.size]?=some (.cells #[.int .i64 (x:Int),.int .u32 (G x:Int)] 45 (0,0)) ∧
    (w2.alloc (.cells #[.int .i64 key,.int .u64 (n:Int)] 104 (0,0))).heap[w.heap.size]?=some (.cells #[.int .i64 0,.int .u32 0] 45 (0,0))∧w.heap.size≠w1.heap.size∧w.heap.size≠w2.heap.size ∧
    Hid (∀v0 v1,MinYes w F s k cap hs E q most G h (.returned (.tuple #[.agg #[.int .i64 x,.int .u32 (G x:Nat)],.int .i64 key,.int .i64 0])) (((w2.alloc (.cells #[.int .i64 key,.int .u64 (n:Int)] 104 (0,0))).setCell ⟨w.heap.size,0,none⟩ v0).setCell ⟨w.heap.size,1,none⟩ v1).drew)):=by
  intro w1 x hl c1 k1
  obtain ⟨⟨key,n⟩,he⟩:=hl.1
  have kA:Keeps [] w1 (w1.alloc (.cells #[.int .i64 (x:Int),.int .u32 (G x:Int)] 45 (0,0))):=(Keeps.refl _ _).alloc _
  have hA:(w1.alloc (.cells #[.int .i64 (x:Int),.int .u32 (G x:Int)] 45 (0,0))).heap[w1.heap.size]?=some (.cells #[.int .i64 (x:Int),.int .u32 (G x:Int)] 45 (0,0)):=blk_alloc_new _
  have cA:=c1.keep kA (by simp)
  refine ⟨n,key,he,(pq_entry _ F s k cap hs E q most G cA x h n key he).mono ?_⟩
  rintro e w2 ⟨rfl,k2⟩
  have kB:Keeps [] w2 (w2.alloc (.cells #[.int .i64 key,.int .u64 (n:Int)] 104 (0,0))):=(Keeps.refl _ _).alloc _
  have kk:=k2.trans kB (by simp)
  have kk1:=kA.trans kk (by simp)
  have s0:w.heap.size<w0.heap.size:=lt_of_block hb0
  have s1:=k1.size
  have s2:=(kA.trans k2 (by simp)).size
  refine ⟨rfl,kk.blk hA (by simp),kk1.blk (k1.blk hb0 hnot) (by simp),by omega,by omega,fun v0 v1=>⟨x,n,key,hl,he,rfl,?_,?_⟩⟩
  .refine ((c1.keep kk1 (by simp)).keep (T:=[w.heap.size]) (((Keeps.refl _ _).setCell (.inl (by simp)) _).setCell (.inl (by simp)) _).drew (fun b hb e=>hnot (by simp only [List.mem_singleton] at e;exact e ▸ hb)))
  .exact (((((k0.mono (T:=F) (by simp)).trans k1 (fun b hb=>.inl hb)).trans kk1 (by simp)).setCell (.inr (by simp)) _).setCell (.inr (by simp)) _).drew
 have HS:=Lib.hid hstep
 clear hstep c hlt k0 hi hb0
 go_enter Tryz.func32,Tryz.ntmps32
 go_upto_region 1 with fail
 rw [<-hw0]
 clear hw0
 go_upto_region 4 with (go_at_call 55;refine hfirst.mono ?_;rintro e w1 ⟨x,hl,rfl,c1,k1⟩;obtain ⟨n,key,he,z⟩:=HS.out w1 x hl c1 k1;clear hl c1 k1 he)
 clear hfirst HS
 have g0:(w1.alloc (.cells #[.int .i64 (x:Int),.int .u32 (G x:Int)] 45 (0,0))).cell? ⟨w1.heap.size,0,none⟩=some (.int .i64 (x:Int)):=by rw [cell_of_blk (blk_alloc_new _)];rfl
 have g1:(w1.alloc (.cells #[.int .i64 (x:Int),.int .u32 (G x:Int)] 45 (0,0))).cell? ⟨w1.heap.size,1,none⟩=some (.int .u32 (G x:Int)):=by rw [cell_of_blk (blk_alloc_new _)];rfl
 go_upto_region 5 with (go_at_call 49;refine z.out.mono ?_;rintro e w2 ⟨rfl,b1,b0,n1,n2,hfin⟩)
 clear g0 g1 z
 have t0:(w2.alloc (.cells #[.int .i64 key,.int .u64 (n:Int)] 104 (0,0))).cell? ⟨w2.heap.size,0,none⟩=some (.int .i64 key):=by rw [cell_of_blk (blk_alloc_new _)];rfl
 generalize w2.alloc (.cells #[.int .i64 key,.int .u64 (n:Int)] 104 (0,0))=w3 at *
 generalize w2.heap.size=bb at *
 have g0:w3.cell? ⟨w1.heap.size,0,none⟩=some (.int .i64 (x:Int)):=by rw [cell_of_blk b1];rfl
 have g1:w3.cell? ⟨w1.heap.size,1,none⟩=some (.int .u32 (G x:Int)):=by rw [cell_of_blk b1];rfl
 have g2:w3.cell? ⟨w.heap.size,0,none⟩=some (.int .i64 0):=by rw [cell_of_blk b0];rfl
 have g3:w3.cell? ⟨w.heap.size,1,none⟩=some (.int .u32 0):=by rw [cell_of_blk b0];rfl
 have g4:w3.frozen? ⟨w.heap.size,0,none⟩=false:=frozen_of_blk b0
 have g5:w3.frozen? ⟨w.heap.size,1,none⟩=false:=frozen_of_blk b0
 have hblk:=blk_setCell (i:=1) (.int .u32 (G x:Int)) (blk_setCell (i:=0) (.int .i64 (x:Int)) b0)
 have HB:=Lib.hid hblk
 clear hblk b0 b1
 generalize w1.heap.size=ba at *
 go_region_held3 (fun u=>u.cell? ⟨ba,0,none⟩=some (.int .i64 (x:Int))∧u.cell? ⟨ba,1,none⟩=some (.int .u32 (G x:Int))∧u.cell? ⟨bb,0,none⟩=some (.int .i64 key))
  (first|exact ⟨g0,g1,t0⟩|exact ⟨cell_set_ne n1.symm g0,cell_set_ne n1.symm g1,cell_set_ne n2.symm t0⟩|exact ⟨cell_set_ne n1.symm (cell_set_ne n1.symm g0),cell_set_ne n1.symm (cell_set_ne n1.symm g1),cell_set_ne n2.symm (cell_set_ne n2.symm t0)⟩) (fail)
 all_goals
  clear g0 g1 g2 g3 g4 g5 t0
  go_wp2_with fail
  refine bodyPost_ret (v:=.tuple #[.agg #[.int .i64 (x:Int),.int .u32 (G x:Int)],.int .i64 key,.int .i64 0]) ?_ rfl (hfin.out _ _)
  refine (results_cell3 (p:=4) (u:=5) (v:=6) rfl _ _ w.heap.size 45 #[.int .i64 (x:Int),.int .u32 (G x:Int)] (0,0) _ (by simp) ?_ Tryz.underlying45 rfl (by kernel_rfl)).trans ?_
  .show ((w3.setCell _ _).setCell _ _).heap[w.heap.size]?=_
   have:=HB.out
   simpa using this
  .simp
theorem pq_min_no (c:StoreAt w F s k cap hs E q most G) (h:Nat) (h1:1<=h) (h2:h<=hs) (hi:∀y,¬isIn E h y) :
  Calls Tryz.prog 32 #[.pointer (some ⟨s,0,none⟩),.int .i64 h] w (MinNo w F s k cap hs E q most G):=by
 have hlt:=c.lt
 obtain ⟨w0,hw0⟩:∃w0,w0=w.alloc (.cells #[.int .i64 0,.int .u32 0] 45 (0,0)):=⟨_,rfl⟩
 have k0:Keeps [] w w0:=by rw [hw0];exact (Keeps.refl _ _).alloc _
 have hb0:w0.heap[w.heap.size]?=some (.cells #[.int .i64 0,.int .u32 0] 45 (0,0)):=by rw [hw0];exact blk_alloc_new _
 have hfirst:=pq_first_no w0 F s k cap hs E q most G (c.keep k0 (by simp)) h h1 h2 hi
 have hnot:w.heap.size∉F:=fun e=>Nat.lt_irrefl _ (hlt _ e)
 have hstep:∀(w1:World),StoreAt w1 F s k cap hs E q most G->Keeps F w0 w1 ->
   (w1.alloc (.cells #[.int .i64 0,.int .u32 0] 45 (0,0))).heap[w.heap.size]?=some (.cells #[.int .i64 0,.int .u32 0] 45 (0,0)) ∧
    Hid (∀v0 v1,MinNo w F s k cap hs E q most G (.returned (.tuple #[.agg #[.int .i64 0,.int .u32 0],.int .i64 0,.int .i64 172])) (((w1.alloc (.cells #[.int .i64 0,.int .u32 0] 45 (0,0))).setCell ⟨w.heap.size,0,none⟩ v0).setCell ⟨w.heap.size,1,none⟩ v1)):=by
  intro w1 c1 k1
  have kA:Keeps [] w1 (w1.alloc (.cells #[.int .i64 0,.int .u32 0] 45 (0,0))):=(Keeps.refl _ _).alloc _
  refine ⟨kA.blk (k1.blk hb0 hnot) (by simp),fun v0 v1=>⟨rfl,?_,?_⟩⟩
  .exact (c1.keep kA (by simp)).keep (T:=[w.heap.size]) (((Keeps.refl _ _).setCell (.inl (by simp)) _).setCell (.inl (by simp)) _) (fun b hb e=>hnot (by simp only [List.mem_singleton] at e;exact e ▸ hb))
  .exact ((((k0.mono (T:=F) (by simp)).trans k1 (fun b hb=>.inl hb)).trans kA (by simp)).setCell (.inr (by simp)) _).setCell (.inr (by simp)) _
 have HS:=Lib.hid hstep
 clear hstep c hlt k0 hi hb0
 go_enter Tryz.func32,Tryz.ntmps32
 go_upto_region 1 with fail
 rw [<-hw0]
 clear hw0
 go_upto_region 3 with (go_at_call 55;refine hfirst.mono ?_;rintro e w1 ⟨rfl,c1,k1⟩;obtain ⟨b6,hfin⟩:=HS.out w1 c1 k1;clear c1 k1)
 clear hfirst HS
 generalize w1.alloc (.cells #[.int .i64 0,.int .u32 0] 45 (0,0))=w3 at *
 have g2:w3.cell? ⟨w.heap.size,0,none⟩=some (.int .i64 0):=by rw [cell_of_blk b6];rfl
 have g3:w3.cell? ⟨w.heap.size,1,none⟩=some (.int .u32 0):=by rw [cell_of_blk b6];rfl
 have g4:w3.frozen? ⟨w.heap.size,0,none⟩=false:=frozen_of_blk b6
 have g5:w3.frozen? ⟨w.heap.size,1,none⟩=false:=frozen_of_blk b6
 have hblk:=blk_setCell (i:=1) (.int .u32 0) (blk_setCell (i:=0) (.int .i64 0) b6)
 have HB:=Lib.hid hblk
 clear hblk b6
 go_wp2_with fail
 refine bodyPost_ret (v:=.tuple #[.agg #[.int .i64 0,.int .u32 0],.int .i64 0,.int .i64 172]) ?_ rfl (hfin.out _ _)
 refine (results_cell3 (p:=4) (u:=5) (v:=6) rfl _ _ w.heap.size 45 #[.int .i64 0,.int .u32 0] (0,0) _ (by simp) ?_ Tryz.underlying45 rfl (by kernel_rfl)).trans ?_
 .have:=HB.out
  simpa using this
 .simp
end
section
variable (w:World) (F:List Nat) (s k cap hs:Nat) (E:Ent) (q:Nat) (most:Int) (G:Nat->Nat)
def ExtYes (h:Nat) (e:Ending) (w':World):Prop :=
 ∃(x n:Nat) (key:Int),least E h x∧E x=some (h,key,n)∧e=.returned (.tuple #[.agg #[.int .i64 x,.int .u32 (G x:Nat)],.int .i64 key,.int .i64 0]) ∧
  ∃F',StoreAt w' F' s k cap hs (put E x none) q most G∧Moved F w F' w'
theorem pq_extract_yes (c:StoreAt w F s k cap hs E q most G) (h:Nat) (h1:1<=h) (h2:h<=hs) (hi:∃y,isIn E h y) :
  Calls Tryz.prog 31 #[.pointer (some ⟨s,0,none⟩),.int .i64 h] w (ExtYes w F s k cap hs E q most G h):=by
 have hlt:=c.lt
 obtain ⟨w0,hw0⟩:∃w0,w0=w.alloc (.cells #[.int .i64 0,.int .u32 0] 45 (0,0)):=⟨_,rfl⟩
 have k0:Keeps [] w w0:=by rw [hw0];exact (Keeps.refl _ _).alloc _
 have hb0:w0.heap[w.heap.size]?=some (.cells #[.int .i64 0,.int .u32 0] 45 (0,0)):=by rw [hw0];exact blk_alloc_new _
 have hmin:=pq_min_yes w0 F s k cap hs E q most G (c.keep k0 (by simp)) h h1 h2 hi
 have hnot:w.heap.size∉F:=fun e=>Nat.lt_irrefl _ (hlt _ e)
 have hstep:∀(w1:World) (x n:Nat) (key:Int),least E h x->E x=some (h,key,n)->StoreAt w1 F s k cap hs E q most G->Keeps F w0 w1 ->
   ∃(pa pn:Nat) (fn:FuncId),(w1.alloc (.cells #[.int .i64 (x:Int),.int .u32 (G x:Int)] 45 (0,0))).cell? ⟨s,3,none⟩=some (.iface (nTy k) (.pointer (some ⟨pn,0,none⟩))) ∧
    (∀u,(method 588 (nTy k) (.pointer (some ⟨pn,0,none⟩)) "Extract").run Tryz.prog u=.ok (fn,.pointer (some ⟨pn,0,none⟩)) u)∧(∀args u,(callFunc fn args).run Tryz.prog u=.ok (.enter fn args) u) ∧
    Hid (Calls Tryz.prog fn #[.pointer (some ⟨pn,0,none⟩),.int .i64 h] (w1.alloc (.cells #[.int .i64 (x:Int),.int .u32 (G x:Int)] 45 (0,0))) fun e w2=>∃v,e=.returned v ∧
     w2.cell? ⟨s,2,none⟩=some (.pointer (some ⟨pa,0,none⟩))∧w2.cell? ⟨w1.heap.size,0,none⟩=some (.int .i64 (x:Int))∧w2.cell? ⟨w1.heap.size,1,none⟩=some (.int .u32 (G x:Int)) ∧
     Hid (Calls Tryz.prog 50 #[.pointer (some ⟨pa,0,none⟩),.agg #[.int .i64 x,.int .u32 (G x:Nat)]] w2.drew fun e w3=>e=.returned (.int .i64 0) ∧
      w3.heap[w1.heap.size]?=some (.cells #[.int .i64 (x:Int),.int .u32 (G x:Int)] 45 (0,0))∧w3.heap[w.heap.size]?=some (.cells #[.int .i64 0,.int .u32 0] 45 (0,0)) ∧
      Hid (∀v0 v1,ExtYes w F s k cap hs E q most G h (.returned (.tuple #[.agg #[.int .i64 x,.int .u32 (G x:Nat)],.int .i64 key,.int .i64 0])) ((w3.setCell ⟨w.heap.size,0,none⟩ v0).setCell ⟨w.heap.size,1,none⟩ v1)))):=by
  intro w1 x n key hl he c1 k1
  have kA:Keeps [] w1 (w1.alloc (.cells #[.int .i64 (x:Int),.int .u32 (G x:Int)] 45 (0,0))):=(Keeps.refl _ _).alloc _
  have hA:(w1.alloc (.cells #[.int .i64 (x:Int),.int .u32 (G x:Int)] 45 (0,0))).heap[w1.heap.size]?=some (.cells #[.int .i64 (x:Int),.int .u32 (G x:Int)] 45 (0,0)):=blk_alloc_new _
  have hl1:=c1.lt
  have hrA:=kA.blk (k1.blk hb0 hnot) (by simp)
  obtain ⟨pa,pn,Fa,Fn,d1,d2,rfl,st⟩:=c1.keep kA (by simp)
  have s0:w.heap.size<w0.heap.size:=lt_of_block hb0
  have s1:=k1.size
  have sA:=kA.size
  obtain ⟨fn,m1,m2,m3⟩:=n_extract k _ Fn pn cap hs E st.ne h h1 h2 hi
  refine ⟨pa,pn,fn,st.c3,m1,m2,m3.mono ?_⟩
  rintro e w2 ⟨x',rfl,hl',Fn',hn2,hm2⟩
  have hxx:=hl'.one hl
  subst hxx
  have hxn:w1.heap.size∉s::(Fa++Fn):=fun e=>Nat.lt_irrefl _ (hl1 _ e)
  have b2:=hm2.keeps.blk st.blk st.sn
  have hA2:=hm2.keeps.blk hA (fun e=>hxn (by simp [e]))
  have hr2:=hm2.keeps.blk hrA (fun e=>hnot (by simp [e]))
  have kd:Keeps [] w2 w2.drew:=⟨rfl,rfl,rfl,Nat.le_refl _,fun _ _ _=>rfl⟩
  have arA:=st.ar
  have ar2:AreAt w2.drew Fa pa cap most G (fun y=>(E y).isSome):=(arA.keep hm2.keeps st.an).keep kd (by simp)
  have hxc:=st.ne.ok.lt x' hl.1.some
  refine ⟨_,rfl,by rw [cell_of_blk b2];rfl,by rw [cell_of_blk hA2];rfl,by rw [cell_of_blk hA2];rfl,(are_give ar2 x' hxc hl.1.some).mono ?_⟩
  rintro e w3 ⟨rfl,Fa',ha3,hm3⟩
  have k23:Keeps Fa w2 w3:=(kd.mono (T:=Fa) (by simp)).trans hm3.keeps (fun b hb=>.inl hb)
  have s2:=hm2.keeps.size
  have lA:=st.lt
  have hFn':∀b,b∉Fn->b<(w1.alloc (.cells #[.int .i64 (x':Int),.int .u32 (G x':Int)] 45 (0,0))).heap.size->b∉Fn':=fun b a1 a2 a3=>by
   rcases hm2.from' b a3 with c|c
   .exact a1 c
   .omega
  have hFa':∀b,b∉Fa->b<w2.heap.size->b∉Fa':=fun b a1 a2 a3=>by
   rcases hm3.from' b a3 with c|c
   .exact a1 c
   .have:w2.heap.size<=b:=c;omega
  have hxa:w1.heap.size∉Fa:=fun e=>hxn (by simp [e])
  have hra:w.heap.size∉Fa:=fun e=>hnot (by simp [e])
  have ln2:=hn2.lt
  have sa2:=hFa' s st.sa (lt_of_block b2)
  have anf:∀b∈Fa,b∉Fn':=fun b hb=>hFn' b (st.an b hb) (arA.lt b hb)
  refine ⟨rfl,k23.blk hA2 hxa,k23.blk hr2 hra,fun v0 v1=>⟨x',n,key,hl,he,rfl,?_⟩⟩
  have hq3:StoreQ w3 s pa pn Fa' Fn' d1 d2 k cap hs (put E x' none) q most G:=by
   refine ⟨k23.blk b2 st.sa,?_,hn2.keep k23 (fun b hb e=>anf b e hb),sa2,hFn' s st.sn (lA s (by simp)),fun b hb=>?_,fun y g kk m e=>?_,fun y z g kk m g' kk' e e'=>?_,st.gq⟩
   .have e:(fun y=>(put E x' none y).isSome)=upd (fun y=>(E y).isSome) x' false:=by
     funext y
     by_cases c:y=x'
     .subst c;rw [put_same,upd_same];rfl
     .rw [put_other _ _ _ c,upd_other _ _ c]
    rw [e];exact ha3
   .rcases hm3.from' b hb with c|c
    .exact anf b c
    .intro f;have:=ln2 b f;have:w2.heap.size<=b:=c;omega
   .by_cases c:y=x'
    .subst c;rw [put_same] at e;cases e
    .rw [put_other _ _ _ c] at e;exact st.sq y g kk m e
   .by_cases c:y=x'
    .subst c;rw [put_same] at e;cases e
    .by_cases d:z=x'
     .subst d;rw [put_same] at e';cases e'
     .rw [put_other _ _ _ c] at e;rw [put_other _ _ _ d] at e';exact st.uq y z g kk m g' kk' e e'
  have kR:Keeps [w.heap.size] w3 ((w3.setCell ⟨w.heap.size,0,none⟩ v0).setCell ⟨w.heap.size,1,none⟩ v1):=((Keeps.refl _ _).setCell (.inl (by simp)) _).setCell (.inl (by simp)) _
  have hnF:∀b∈s::(Fa'++Fn'),b≠w.heap.size:=fun b hb e=>by
   subst e
   simp only [List.mem_cons,List.mem_append] at hb
   rcases hb with e|e|e
   .exact hnot (by simp [e])
   .exact hFa' _ hra (by omega) e
   .exact hFn' _ (fun f=>hnot (by simp [f])) (by omega) e
  have hq4:=hq3.keep kR (fun b hb e=>hnF b hb (by simpa using e))
  refine ⟨_,⟨pa,pn,Fa',Fn',d1,d2,rfl,hq4⟩,?_,fun b hb=>?_,hq4.lt⟩
  .refine (((((k0.mono (T:=s::(Fa++Fn)) (by simp)).trans k1 (fun b hb=>.inl hb)).trans kA (by simp)).trans hm2.keeps (fun b hb=>.inl (by simp [hb]))).trans k23 (fun b hb=>.inl (by simp [hb]))).trans kR (fun b hb=>.inr (by simp only [List.mem_singleton] at hb;omega))
  .simp only [List.mem_cons,List.mem_append] at hb ⊢
   rcases hb with e|e|e
   .exact .inl (.inl e)
   .rcases hm3.from' b e with c|c
    .exact .inl (.inr (.inl c))
    .have:w2.heap.size<=b:=c
     exact .inr (by omega)
   .rcases hm2.from' b e with c|c
    .exact .inl (.inr (.inr c))
    .exact .inr (by omega)
 have HS:=Lib.hid hstep
 clear hstep c hlt k0 hi hb0
 go_enter Tryz.func31,Tryz.ntmps31
 go_upto_region 1 with fail
 rw [<-hw0]
 clear hw0
 go_upto_region 4 with (go_at_call 32;refine hmin.mono ?_;rintro e w1 ⟨x,n,key,hl,he,rfl,c1,k1⟩;obtain ⟨pa,pn,fn,z1,m1,m2,z2⟩:=HS.out w1 x n key hl he c1 k1;clear hl he c1 k1)
 clear hmin HS
 go_upto_region 5 with (refine z2.out.mono ?_;rintro e w2 ⟨v,rfl,y1,y2,y3,y4⟩)
 clear z1 z2 m1 m2
 go_region_law (first
  | (go_simp;go_at_call 50;refine y4.out.mono ?_;rintro e w3 ⟨rfl,b1,b0,hfin⟩))
 all_goals
  clear y1 y2 y3 y4
  have g0:w3.cell? ⟨w1.heap.size,0,none⟩=some (.int .i64 (x:Int)):=by rw [cell_of_blk b1];rfl
  have g1:w3.cell? ⟨w1.heap.size,1,none⟩=some (.int .u32 (G x:Int)):=by rw [cell_of_blk b1];rfl
  have g2:w3.cell? ⟨w.heap.size,0,none⟩=some (.int .i64 0):=by rw [cell_of_blk b0];rfl
  have g3:w3.cell? ⟨w.heap.size,1,none⟩=some (.int .u32 0):=by rw [cell_of_blk b0];rfl
  have g4:w3.frozen? ⟨w.heap.size,0,none⟩=false:=frozen_of_blk b0
  have g5:w3.frozen? ⟨w.heap.size,1,none⟩=false:=frozen_of_blk b0
  have hblk:=blk_setCell (i:=1) (.int .u32 (G x:Int)) (blk_setCell (i:=0) (.int .i64 (x:Int)) b0)
  have HB:=Lib.hid hblk
  clear hblk b0 b1
  go_wp2_with fail
  refine bodyPost_ret (v:=.tuple #[.agg #[.int .i64 (x:Int),.int .u32 (G x:Int)],.int .i64 key,.int .i64 0]) ?_ rfl (hfin.out _ _)
  refine (results_cell3 (p:=4) (u:=5) (v:=6) rfl _ _ w.heap.size 45 #[.int .i64 (x:Int),.int .u32 (G x:Int)] (0,0) _ (by simp) ?_ Tryz.underlying45 rfl (by kernel_rfl)).trans ?_
  .have:=HB.out
   simpa using this
  .simp
theorem pq_extract_no (c:StoreAt w F s k cap hs E q most G) (h:Nat) (h1:1<=h) (h2:h<=hs) (hi:∀y,¬isIn E h y) :
  Calls Tryz.prog 31 #[.pointer (some ⟨s,0,none⟩),.int .i64 h] w (MinNo w F s k cap hs E q most G):=by
 have hlt:=c.lt
 obtain ⟨w0,hw0⟩:∃w0,w0=w.alloc (.cells #[.int .i64 0,.int .u32 0] 45 (0,0)):=⟨_,rfl⟩
 have k0:Keeps [] w w0:=by rw [hw0];exact (Keeps.refl _ _).alloc _
 have hb0:w0.heap[w.heap.size]?=some (.cells #[.int .i64 0,.int .u32 0] 45 (0,0)):=by rw [hw0];exact blk_alloc_new _
 have hfirst:=pq_min_no w0 F s k cap hs E q most G (c.keep k0 (by simp)) h h1 h2 hi
 have hnot:w.heap.size∉F:=fun e=>Nat.lt_irrefl _ (hlt _ e)
 have hstep:∀(w1:World),StoreAt w1 F s k cap hs E q most G->Keeps F w0 w1 ->
   (w1.alloc (.cells #[.int .i64 0,.int .u32 0] 45 (0,0))).heap[w.heap.size]?=some (.cells #[.int .i64 0,.int .u32 0] 45 (0,0)) ∧
    Hid (∀v0 v1,MinNo w F s k cap hs E q most G (.returned (.tuple #[.agg #[.int .i64 0,.int .u32 0],.int .i64 0,.int .i64 172])) (((w1.alloc (.cells #[.int .i64 0,.int .u32 0] 45 (0,0))).setCell ⟨w.heap.size,0,none⟩ v0).setCell ⟨w.heap.size,1,none⟩ v1)):=by
  intro w1 c1 k1
  have kA:Keeps [] w1 (w1.alloc (.cells #[.int .i64 0,.int .u32 0] 45 (0,0))):=(Keeps.refl _ _).alloc _
  refine ⟨kA.blk (k1.blk hb0 hnot) (by simp),fun v0 v1=>⟨rfl,?_,?_⟩⟩
  .exact (c1.keep kA (by simp)).keep (T:=[w.heap.size]) (((Keeps.refl _ _).setCell (.inl (by simp)) _).setCell (.inl (by simp)) _) (fun b hb e=>hnot (by simp only [List.mem_singleton] at e;exact e ▸ hb))
  .exact ((((k0.mono (T:=F) (by simp)).trans k1 (fun b hb=>.inl hb)).trans kA (by simp)).setCell (.inr (by simp)) _).setCell (.inr (by simp)) _
 have HS:=Lib.hid hstep
 clear hstep c hlt k0 hi hb0
 go_enter Tryz.func31,Tryz.ntmps31
 go_upto_region 1 with fail
 rw [<-hw0]
 clear hw0
 go_upto_region 3 with (go_at_call 32;refine hfirst.mono ?_;rintro e w1 ⟨rfl,c1,k1⟩;obtain ⟨b6,hfin⟩:=HS.out w1 c1 k1;clear c1 k1)
 clear hfirst HS
 generalize w1.alloc (.cells #[.int .i64 0,.int .u32 0] 45 (0,0))=w3 at *
 have g2:w3.cell? ⟨w.heap.size,0,none⟩=some (.int .i64 0):=by rw [cell_of_blk b6];rfl
 have g3:w3.cell? ⟨w.heap.size,1,none⟩=some (.int .u32 0):=by rw [cell_of_blk b6];rfl
 have g4:w3.frozen? ⟨w.heap.size,0,none⟩=false:=frozen_of_blk b6
 have g5:w3.frozen? ⟨w.heap.size,1,none⟩=false:=frozen_of_blk b6
 have hblk:=blk_setCell (i:=1) (.int .u32 0) (blk_setCell (i:=0) (.int .i64 0) b6)
 have HB:=Lib.hid hblk
 clear hblk b6
 go_wp2_with fail
 refine bodyPost_ret (v:=.tuple #[.agg #[.int .i64 0,.int .u32 0],.int .i64 0,.int .i64 172]) ?_ rfl (hfin.out _ _)
 refine (results_cell3 (p:=4) (u:=5) (v:=6) rfl _ _ w.heap.size 45 #[.int .i64 0,.int .u32 0] (0,0) _ (by simp) ?_ Tryz.underlying45 rfl (by kernel_rfl)).trans ?_
 .have:=HB.out
  simpa using this
 .simp
end
theorem Tryz.infoInt64:(Tryz.prog.info? 2).map (fun i=>(i.zero,i.size,i.bytes))=some (some (.int .i64 0),1,8):=by kernel_rfl
section
variable {w w':World} {B:Nat} {v:Value} {l:List Int} {S:List Nat}
theorem KRow.keep (h:KRow B w v l) (k:Keeps S w w') (hS:∀b,v.ownBlock=some b->b∉S):KRow B w' v l:=by
 refine ⟨h.1,?_⟩
 rcases h.2 with h0|⟨g,cap',cur,e,hb,hg,r⟩
 .exact .inl h0
 .exact .inr ⟨g,cap',cur,e,hb,k.blk hg (hS g (by rw [e];simp [Value.ownBlock])),r⟩
theorem KRow.own (h:KRow B w v l):∀b,v.ownBlock=some b->B<=b∧b<w.heap.size:=by
 intro b e
 rcases h.2 with ⟨h0,_⟩|⟨g,cap',cur,e',hb,hg,r⟩
 .rw [h0] at e;cases e
 .rw [e'] at e;simp [Value.ownBlock] at e;subst e;exact ⟨hb,lt_of_block hg⟩
theorem KRow.form (h:KRow B w v l):∃ao cap,v=.slice ao l.length cap:=by
 rcases h.2 with ⟨rfl,h0⟩|⟨g,cap',cur,rfl,_⟩
 .exact ⟨none,0,by rw [h0]⟩
 .exact ⟨_,_,rfl⟩
theorem KRow.at {ao:Option Addr} {n ca i:Nat} {x:Int} (h:KRow B w (.slice ao n ca) l) (hi:l[i]?=some x):∃g,ao=some ⟨g,0,none⟩∧B<=g∧w.cell? ⟨g,i,none⟩=some (.int .i64 x):=by
 have hl:=(List.getElem?_eq_some_iff.1 hi).1
 have h':=h
 rcases h.2 with ⟨_,h0⟩|⟨g,cap',cur,e,hb,hg,_⟩
 .omega
 .cases e
  refine ⟨g,rfl,hb,?_⟩
  rw [World.ownsRow.cellAt h' i (by omega)]
  simp [keysV,hi]
theorem KRow.lo {C:Nat} (h:KRow B w v l) (hc:C<=B):KRow C w v l:=by
 refine ⟨h.1,?_⟩
 rcases h.2 with h0|⟨g,cap',cur,e,hb,r⟩
 .exact .inl h0
 .exact .inr ⟨g,cap',cur,e,Nat.le_trans hc hb,r⟩
theorem KRow.pushed {g ca:Nat} {x:Int} (h:w.ownsRow 0 2 1 (.slice (some ⟨g,0,none⟩) (l.length+1) ca) (l.length+1) (keysV l++[.int .i64 x])) (hg:B<=g):KRow B w (.slice (some ⟨g,0,none⟩) (l.length+1) ca) (l++[x]):=by
 unfold KRow
 have e:keysV (l++[x])=keysV l++[.int .i64 x]:=by simp [keysV]
 rw [e,List.length_append]
 refine ⟨h.1,?_⟩
 rcases h.2 with ⟨h0,_⟩|⟨g',cap,cur,e,hb,r⟩
 .cases h0
 .cases e;exact .inr ⟨g,ca,cur,rfl,hg,r⟩
end
def DrainDone (w:World) (F:List Nat) (E:Ent) (h:Nat) (e:Ending) (w':World):Prop :=
 ∃(o:List Nat) (v:Value),e=.returned (.tuple #[v,.bool true])∧Drn E h o∧(∀y,y∈o↔isIn E h y)∧KRow w.heap.size w' v (o.map (keyE E))∧Keeps F w w'
section
variable (w:World) (F:List Nat) (s k cap hs:Nat) (E:Ent) (q:Nat) (most:Int) (G:Nat->Nat)
def DrainS (h n i:Nat) (v:Value) (wr:World):Prop :=
 ∃(o F':List Nat),o.length=i∧Drn E h o∧count (remL E o) cap h+i=n∧StoreAt wr F' s k cap hs (remL E o) q most G∧Keeps F w wr∧(∀b∈F',b∈F∨w.heap.size<=b)∧KRow w.heap.size wr v (o.map (keyE E))∧∀b,v.ownBlock=some b->b∉F'
theorem drain_calls (c:StoreAt w F s k cap hs E q most G) (h:Nat) (h1:1<=h) (h2:h<=hs) (hcap:cap<=65536) :
  Calls Tryz.prog 15 #[.pointer (some ⟨s,0,none⟩),.int .i64 h] w (DrainDone w F E h):=by
 have hlt:=c.lt
 obtain ⟨w0,hw0⟩:∃w0,w0=w.alloc (.cells #[] 2 (0,0)):=⟨_,rfl⟩
 have k0:Keeps [] w w0:=by rw [hw0];exact (Keeps.refl _ _).alloc _
 have hb0:w0.heap[w.heap.size]?=some (.cells #[] 2 (0,0)):=by rw [hw0];exact blk_alloc_new _
 have c0:=c.keep k0 (by simp)
 have hlen:=pq_len w0 F s k cap hs E q most G c0 h h1 h2
 obtain ⟨n,hn⟩:∃n,count E cap h=n:=⟨_,rfl⟩
 have hnb:n<=65536:=by rw [<-hn];exact Nat.le_trans (count_le _ _ _) hcap
 rw [hn] at hlen
 have hst:DrainS w F s k cap hs E q most G h n 0 (.slice (some ⟨w.heap.size,0,none⟩) 0 0) w0 :=
  ⟨[],F,rfl,Drn.nil E h,by rw [remL_nil,hn];rfl,by rw [remL_nil];exact c0,k0.mono (by simp),fun b hb=>.inl hb,⟨by simp [keysV],.inr ⟨w.heap.size,0,#[],rfl,Nat.le_refl _,hb0,Nat.le_refl _,by decide,by simp,by simp [keysV]⟩⟩,fun b e f=>by
   simp [Value.ownBlock] at e;subst e;exact Nat.lt_irrefl _ (hlt _ f)⟩
 have HS:=Lib.hid hst
 clear hst c c0 hb0 hn k0 hlt
 go_enter Tryz.func15,Tryz.ntmps15
 go_upto_region 2 with fail
 rw [<-hw0]
 clear hw0
 go_wp2_with (go_at_call 37;refine hlen.mono ?_;rintro e w' ⟨rfl,rfl⟩)
 go_loopg [6,9] (n+1) (fun j v t wr=>∃i:Nat,j+i=n+1∧i<=n∧t=.int .i64 i∧DrainS w F s k cap hs E q most G h n i v wr)
 case atStart=>exact ⟨0,by omega,by omega,rfl,HS.out⟩
 case round =>
  clear HS hlen
  obtain ⟨i,hk,hin,rfl,o,F',ho,hd,hc,st,kp,hF,hrow,hvF⟩:=hrel
  have HK:=Lib.hid hk
  clear hk
  obtain ⟨ao,ca,rfl⟩:=hrow.form
  have hol:(o.map (keyE E)).length=i:=by rw [List.length_map,ho]
  by_cases hi:i<n
  .have hex:∃y,isIn (remL E o) h y:=by
    refine Classical.byContradiction fun hne=>?_
    have:count (remL E o) cap h=0:=count_zero.2 fun x _ hx=>hne ⟨x,hx⟩
    omega
   have hext:=pq_extract_yes wr F' s k cap hs (remL E o) q most G st h h1 h2 hex
   have hi3:(i:Int)<(n:Int):=by omega
   have hfin:∀e w1,ExtYes wr F' s k cap hs (remL E o) q most G h e w1->∃(key:Int) (x:Nat),e=.returned (.tuple #[.agg #[.int .i64 (x:Int),.int .u32 (G x:Nat)],.int .i64 key,.int .i64 0])∧(w1.alloc (.cells #[.int .i64 (x:Int),.int .u32 (G x:Nat)] 45 (0,0))).ownsRow 0 2 1 (.slice ao (o.map (keyE E)).length ca) (o.map (keyE E)).length (keysV (o.map (keyE E))) ∧
     Hid (∀g' c' w2,w2.ownsRow 0 2 1 (.slice (some ⟨g',0,none⟩) ((o.map (keyE E)).length+1) c') ((o.map (keyE E)).length+1) (keysV (o.map (keyE E))++[.int .i64 key])->Keeps (Value.slice ao (o.map (keyE E)).length ca).ownBlock.toList (w1.alloc (.cells #[.int .i64 (x:Int),.int .u32 (G x:Nat)] 45 (0,0))) w2->((Value.slice ao (o.map (keyE E)).length ca).ownBlock=some g'∨(w1.alloc (.cells #[.int .i64 (x:Int),.int .u32 (G x:Nat)] 45 (0,0))).heap.size<=g') ->
      DrainS w F s k cap hs E q most G h n (i+1) (.slice (some ⟨g',0,none⟩) ((o.map (keyE E)).length+1) c') w2):=by
    rintro e w1 ⟨x,nn,key,hl,hex,rfl,F'',st',hm⟩
    refine ⟨key,x,rfl,?_,fun g' c' w2 hr2 k2 hg2=>?_⟩
    .have kA:Keeps [] w1 (w1.alloc (.cells #[.int .i64 (x:Int),.int .u32 (G x:Nat)] 45 (0,0))):=(Keeps.refl _ _).alloc _
     exact ((hrow.keep hm.keeps hvF).keep kA (by simp)).lo (Nat.zero_le _)
    .have hxo:x∉o:=(remL_in.1 hl.1).2
     have hex':E x=some (h,key,nn):=by rw [<-hex,remL_at hxo]
     have kA:Keeps [] w1 (w1.alloc (.cells #[.int .i64 (x:Int),.int .u32 (G x:Nat)] 45 (0,0))):=(Keeps.refl _ _).alloc _
     have stA:=st'.keep kA (by simp)
     have hlt':=stA.lt
     have hown:=hrow.own
     have s1:=hm.keeps.size
     have sA:=kA.size
     have sw:=kp.size
     have hvF'':∀b,(Value.slice ao (o.map (keyE E)).length ca).ownBlock=some b->b∉F'':=fun b eb f=>by
      rcases hm.from' b f with c|c
      .exact hvF b eb c
      .have:=(hown b eb).2;omega
     refine ⟨o++[x],F'',by simp [ho],hd.step hl,?_,?_,?_,fun b hb=>?_,?_,fun b eb f=>?_⟩
     .rw [<-remL_put]
      have:=count_out (n:=cap) (st.ok.lt x hl.1.some) hl.1
      omega
     .rw [<-remL_put]
      exact stA.keep k2 (fun b hb e=>hvF'' b (by simpa [Option.mem_toList] using e) hb)
     .exact ((kp.trans hm.keeps hF).trans kA (by simp)).trans k2 (fun b hb=>.inr (hown b (by simpa [Option.mem_toList] using hb)).1)
     .rcases hm.from' b hb with c|c
      .exact hF b c
      .exact .inr (by omega)
     .have hg':w.heap.size<=g':=by
       rcases hg2 with e|e
       .exact (hown g' e).1
       .omega
      have:=KRow.pushed (B:=w.heap.size) hr2 hg'
      rw [List.map_append,List.map_singleton,keyE_some hex']
      exact this
     .simp [Value.ownBlock] at eb;subst eb
      rcases hg2 with e|e
      .exact hvF'' _ e f
      .have:=hlt' _ f;omega
   have HF:=Lib.hid hfin
   clear hfin st kp hF hrow hvF hd hc hex
   rw [hol]
   rw [hol] at HF
   have hib:(i:Int)<=65536:=by omega
   go_wp2_with (first
    | (go_at_call 31;refine hext.mono ?_;intro e w1 hd1;obtain ⟨key,x,rfl,z1,z2⟩:=HF.out e w1 hd1;clear hd1)
    | (at_builtin;refine wpList_push _ 2 (.int .i64 key) (0,0) rfl (.tmp 39) (.tmp 41) 25 rfl (.int .i64 0) 8 Tryz.underlying25 Tryz.infoInt64 rfl rfl (.slice ao i ca) i (keysV (o.map (keyE E))) (by simp [Act.eval]) z1 (by simp [Act.eval]) (by unfold maxLen;omega) (by omega) ?_;intro g' cap' w4 hr4 hk4 hf4;have z3:=Lib.hid (z2.out g' cap' w4 hr4 hk4 hf4);clear hr4 hk4 hf4))
   go_roundg (gk - 1)
   case measure=>have:=HK.out;omega
   case rel=>exact ⟨i+1,by have:=HK.out;omega,by omega,by go_num,z3.out⟩
  .obtain rfl:i=n:=by omega
   have hnone:∀y,¬isIn (remL E o) h y:=fun y hy=>by
    have:=(count_zero (E:=remL E o) (n:=cap) (h:=h)).1 (by omega) y (st.ok.lt y hy.some)
    exact this hy
   have hext:=pq_extract_no wr F' s k cap hs (remL E o) q most G st h h1 h2 hnone
   have hfin:∀e w1,MinNo wr F' s k cap hs (remL E o) q most G e w1->e=.returned (.tuple #[.agg #[.int .i64 0,.int .u32 0],.int .i64 0,.int .i64 172])∧Hid (DrainDone w F E h (.returned (.tuple #[.slice ao (o.map (keyE E)).length ca,.bool true])) (w1.alloc (.cells #[.int .i64 0,.int .u32 0] 45 (0,0)))):=by
    rintro e w1 ⟨rfl,st',k1⟩
    have kA:Keeps [] w1 (w1.alloc (.cells #[.int .i64 0,.int .u32 0] 45 (0,0))):=(Keeps.refl _ _).alloc _
    exact ⟨rfl,o,_,rfl,hd,hd.all hnone,(hrow.keep k1 hvF).keep kA (by simp),(kp.trans k1 hF).trans kA (by simp)⟩
   have HF:=Lib.hid hfin
   clear hfin st kp hF hrow hvF hd hc hnone
   rw [hol]
   rw [hol] at HF
   go_wp2_with (go_at_call 31;refine hext.mono ?_;intro e w1 hd1;obtain ⟨rfl,z1⟩:=HF.out e w1 hd1;clear hd1)
   go_ret2
   exact z1.out
end
theorem Tryz.infoInt:(Tryz.prog.info? 3).map (fun i=>(i.zero,i.size,i.bytes))=some (some (.int .i64 0),1,8):=by kernel_rfl
theorem numF_nil:numF (fun _=>none)=fun _ _=>none:=by funext x g;simp [numF]
def LeastDone (w:World) (keys:List Int) (e:Ending) (w':World):Prop :=
 ∃(l:List Nat) (v:Value),e=.returned (.tuple #[v,.int .i64 0])∧Sorted keys l∧NRow w.heap.size w' v l∧Keeps [] w w'
section
variable (w:World) (s k m:Nat) (keys:List Int)
def Least1 (i:Nat) (wr:World):Prop :=
 ∃(E:Ent) (G:Nat->Nat) (F:List Nat) (c:Nat),FillS wr F s k keys.length 1 4294967295 (keys.take i) E G∧HMap elmInt wr m c (numF E)∧c<=i∧Keeps [] w wr∧(∀b∈F,w.heap.size<=b)∧w.heap.size<=m∧m∉F
theorem Least1.next {i:Nat} {key:Int} {E:Ent} {G:Nat->Nat} {F:List Nat} {c:Nat} {wr w1:World} (hcap:keys.length<=65536)
  (hi:keys[i]?=some key) (f:FillS wr F s k keys.length 1 4294967295 (keys.take i) E G) (hm:HMap elmInt wr m c (numF E)) (hc:c<=i) (kp:Keeps [] w wr) (hF:∀b∈F,w.heap.size<=b) (hwm:w.heap.size<=m) (hmF:m∉F) (e:Ending)
  (d:InsDone wr F s k keys.length 1 E (keys.take i).length 4294967295 G 1 key e w1) :
  ∃x:Nat,e=.returned (.tuple #[.agg #[.int .i64 (x:Int),.int .u32 1],.int .i64 0])∧okH x 1∧∀o,HMap elmInt (w1.alloc o) m c (numF E) ∧
   Hid (∀w2,HMap elmInt w2 m (if (numF E x 1).isSome then c else c+1) (fun u v=>if u=x∧v=1 then some i else numF E u v)->(w1.alloc o).grownBy w2 (some m)->Least1 w s k m keys (i+1) w2):=by
 obtain ⟨x,hx,hn,rfl,F',st,mv⟩:=d
 have hil:=(List.getElem?_eq_some_iff.1 hi).1
 have htl:(keys.take i).length=i:=by rw [List.length_take];omega
 have htk:keys.take (i+1)=keys.take i++[key]:=by rw [List.take_add_one,hi];rfl
 have hlt:=f.1.lt
 have hml:=hm.lt
 have s1:=mv.keeps.size
 have hmF':m∉F':=fun h=>by
  rcases mv.from' m h with c|c
  .exact hmF c
  .omega
 refine ⟨x,by rw [f.2.g0 x hn];rfl,⟨by omega,by omega⟩,fun o=>?_⟩
 have kA:Keeps [] w1 (w1.alloc o):=(Keeps.refl _ _).alloc _
 refine ⟨(hm.keep mv.keeps hmF).keep kA (by simp),fun w2 hm2 hg=>?_⟩
 have k2:Keeps [m] (w1.alloc o) w2:=(Keeps.refl [m] _).grown hg (fun b hb=>.inl (by cases hb;simp))
 have hF':∀b∈F',w.heap.size<=b:=fun b hb=>by
  rcases mv.from' b hb with c|c
  .exact hF b c
  .have:=kp.size;omega
 refine ⟨put E x (some (1,key,(keys.take i).length+1)),upd G x (G x+1),F',(if (numF E x 1).isSome then c else c+1),⟨?_,?_⟩,?_,?_,?_,hF',hwm,hmF'⟩
 .rw [htk,List.length_append]
  exact (st.keep kA (by simp)).keep k2 (fun b hb e=>hmF' (by simp at e;exact e ▸ hb))
 .rw [htk]
  exact f.2.step hx hn key
 .rw [htl,numF_put hn];exact hm2
 .split<;>omega
 .exact ((kp.trans mv.keeps (fun b hb=>.inr (hF b hb))).trans kA (by simp)).trans k2 (fun b hb=>.inr (by simp at hb;omega))
def Least2 (E:Ent) (G:Nat->Nat) (i:Nat) (v:Value) (wr:World):Prop :=
 ∃(o F:List Nat) (c:Nat),o.length=i∧Drn E 1 o∧count (remL E o) keys.length 1+i=keys.length∧StoreAt wr F s k keys.length 1 (remL E o) keys.length 4294967295 G∧Keeps [] w wr∧(∀b∈F,w.heap.size<=b) ∧
  NRow w.heap.size wr v (o.map fun x=>seqE E x - 1)∧(∀b,v.ownBlock=some b->b∉F∧b≠m)∧HMap elmInt wr m c (numF E)∧w.heap.size<=m∧m∉F
theorem Least2.next {E:Ent} {G:Nat->Nat} {i c ca:Nat} {ao:Option Addr} {o F:List Nat} {wr w1:World} (fp:FillP E G keys.length 1 keys) (uq:∀x y h key n h' key',E x=some (h,key,n)->E y=some (h',key',n)->x=y) (hcap:keys.length<=65536)
  (ho:o.length=i) (hd:Drn E 1 o) (hct:count (remL E o) keys.length 1+i=keys.length) (st:StoreAt wr F s k keys.length 1 (remL E o) keys.length 4294967295 G) (kp:Keeps [] w wr) (hF:∀b∈F,w.heap.size<=b)
  (hr:NRow w.heap.size wr (.slice ao i ca) (o.map fun x=>seqE E x - 1)) (hv:∀b,(Value.slice ao i ca).ownBlock=some b->b∉F∧b≠m) (hm:HMap elmInt wr m c (numF E)) (hwm:w.heap.size<=m) (hmF:m∉F) (e:Ending)
  (d:ExtYes wr F s k keys.length 1 (remL E o) keys.length 4294967295 G 1 e w1) :
  ∃(x:Nat) (key:Int),e=.returned (.tuple #[.agg #[.int .i64 (x:Int),.int .u32 1],.int .i64 key,.int .i64 0])∧okH x 1∧numF E x 1=some (seqE E x - 1)∧∀oo,HMap elmInt (w1.alloc oo) m c (numF E)∧(w1.alloc oo).ownsRow 0 3 1 (.slice ao i ca) i (natV (o.map fun x=>seqE E x - 1)) ∧
   Hid (∀g' c' w2,w2.ownsRow 0 3 1 (.slice (some ⟨g',0,none⟩) (i+1) c') (i+1) (natV (o.map fun x=>seqE E x - 1)++[.int .i64 ((seqE E x - 1:Nat):Int)])->Keeps (Value.slice ao i ca).ownBlock.toList (w1.alloc oo) w2->((Value.slice ao i ca).ownBlock=some g'∨(w1.alloc oo).heap.size<=g') ->
    Least2 w s k m keys E G (i+1) (.slice (some ⟨g',0,none⟩) (i+1) c') w2):=by
 obtain ⟨x,n,key,hl,hex,rfl,F',st',mv⟩:=d
 have hxo:x∉o:=(remL_in.1 hl.1).2
 have hex':E x=some (1,key,n):=by rw [<-hex,remL_at hxo]
 have hxc:=st.ok.lt x hl.1.some
 have s1:=mv.keeps.size
 have hml:=hm.lt
 have hmF':m∉F':=fun h=>by
  rcases mv.from' m h with c|c
  .exact hmF c
  .omega
 have hown:=hr.own
 refine ⟨x,key,by rw [fp.g1 x (by rw [hex'];simp)];rfl,⟨by omega,by omega⟩,by rw [numF_some hex',seqE_some hex'],fun oo=>?_⟩
 have kA:Keeps [] w1 (w1.alloc oo):=(Keeps.refl _ _).alloc _
 have hl0:(o.map fun x=>seqE E x - 1).length=i:=by simp [ho]
 have hr1:=(hr.keep mv.keeps (fun b eb=>(hv b eb).1)).keep kA (by simp)
 refine ⟨(hm.keep mv.keeps hmF).keep kA (by simp),?_,fun g' c' w2 hr2 k2 hg2=>?_⟩
 .have:=hr1.lo (Nat.zero_le _)
  unfold NRow at this
  rw [hl0] at this
  exact this
 .have stA:=st'.keep kA (by simp)
  have hlt':=stA.lt
  have sw:=kp.size
  have sA:=kA.size
  have hvF'':∀b,(Value.slice ao i ca).ownBlock=some b->b∉F':=fun b eb f=>by
   rcases mv.from' b f with c|c
   .exact (hv b eb).1 c
   .have:=(hown b eb).2;omega
  refine ⟨o++[x],F',c,by simp [ho],hd.step hl,?_,?_,?_,fun b hb=>?_,?_,fun b eb=>?_,?_,hwm,hmF'⟩
  .rw [<-remL_put]
   have:=count_out (n:=keys.length) hxc hl.1
   omega
  .rw [<-remL_put]
   exact stA.keep k2 (fun b hb e=>hvF'' b (by simpa [Option.mem_toList] using e) hb)
  .exact ((kp.trans mv.keeps (fun b hb=>.inr (hF b hb))).trans kA (by simp)).trans k2 (fun b hb=>.inr (hown b (by simpa [Option.mem_toList] using hb)).1)
  .rcases mv.from' b hb with c|c
   .exact hF b c
   .omega
  .have hg':w.heap.size<=g':=by
    rcases hg2 with e|e
    .exact (hown g' e).1
    .omega
   rw [List.map_append,List.map_singleton]
   have:=NRow.pushed (B:=w.heap.size) (l:=o.map fun x=>seqE E x - 1) (g:=g') (ca:=c') (x:=seqE E x - 1) (w:=w2) (by rw [hl0];exact hr2) hg'
   rw [hl0] at this
   exact this
  .simp [Value.ownBlock] at eb;subst eb
   rcases hg2 with e|e
   .exact ⟨hvF'' _ e,(hv _ e).2⟩
   .have:=kA.size
    exact ⟨fun f=>by have:=hlt' _ f;omega,fun f=>by omega⟩
  .exact ((hm.keep mv.keeps hmF).keep kA (by simp)).keep k2 (fun e=>(hv m (by simpa [Option.mem_toList] using e)).2 rfl)
end
theorem least_calls (w:World) (keys:List Int) (a b:Int) (hc:okC a b) (kv:Value) (hkv:KIn w kv keys) (hlen:keys.length<=65536) :
  Calls Tryz.prog 22 #[.agg #[.int .i64 a,.int .i64 b],kv,.int .i64 (keys.length:Int)] w (LeastDone w keys):=by
 obtain ⟨⟨ao,ca,hkv0⟩,_⟩:=id hkv
 obtain ⟨w0,hw0⟩:∃w0,w0=w.alloc (.cells #[.int .i64 a,.int .i64 b] 23 (0,0)):=⟨_,rfl⟩
 have k0:Keeps [] w w0:=by rw [hw0];exact (Keeps.refl _ _).alloc _
 have hb0:w0.heap[w.heap.size]?=some (.cells #[.int .i64 a,.int .i64 b] 23 (0,0)):=by rw [hw0];exact blk_alloc_new _
 have e0:w0.cell? ⟨w.heap.size,0,none⟩=some (.int .i64 a):=by rw [cell_of_blk hb0];rfl
 have e1:w0.cell? ⟨w.heap.size,1,none⟩=some (.int .i64 b):=by rw [cell_of_blk hb0];rfl
 have hop:=rank_open w0 a b keys.length 1 hc hlen (by omega)
 have hmm:=@run_makeMap Tryz.prog
 have K0:=Lib.hid k0
 have HKV:=Lib.hid hkv
 clear k0 hb0 hkv hc
 subst hkv0
 generalize a.toNat=kk at *
 generalize hn:keys.length=n at *
 have HN:=Lib.hid hn
 clear hn
 have b1:decide ((n:Int)<0)=false:=by rw [decide_eq_false_iff_not];omega
 go_enter Tryz.func22,Tryz.ntmps22
 go_upto_region 1 with fail
 rw [<-hw0]
 clear hw0
 go_upto_region 7 with (go_at_call 24;refine hop.mono ?_;rintro e w1 ⟨F,s,rfl,st,k1,hF⟩;have ST:=Lib.hid st;have K1:=Lib.hid k1;have HF:=Lib.hid hF;clear st k1 hF e0 e1)
 have hs1:w.heap.size<=w1.heap.size:=Nat.le_trans K0.out.size K1.out.size
 have hst1:Least1 w s kk w1.heap.size keys 0 (w1.alloc (.map #[] 0)):=by
  have kA:Keeps [] w1 (w1.alloc (.map #[] 0)):=(Keeps.refl _ _).alloc _
  have hlt:=ST.out.lt
  have hnn:=HN.out
  subst hnn
  exact ⟨fun _=>none,fun _=>0,F,0,⟨ST.out.keep kA (by simp),FillP.empty _ _⟩,(by rw [numF_nil];exact HMap.made elmInt w1),Nat.le_refl _,(K0.out.trans K1.out (by simp)).trans kA (by simp),fun b hb=>Nat.le_trans K0.out.size (HF.out b hb),hs1,fun h=>Nat.lt_irrefl _ (hlt _ h)⟩
 have HS:=Lib.hid hst1
 clear hst1 ST K0 K1 HF
 generalize hm0:w1.heap.size=m at *
 clear hs1 hm0 hop
 go_wp2_with fail
 go_loopg [40] (n+1) (fun j t wr=>∃i:Nat,j+i=n+1∧i<=n∧t=.int .i64 i∧Least1 w s kk m keys i wr)
 case atStart=>exact ⟨0,by omega,by omega,rfl,HS.out⟩
 case round =>
  clear HS
  obtain ⟨i,hk,hin,rfl,E,G,F',c,f,hm,hci,kp,hF,hwm,hmF⟩:=hrel
  have HK:=Lib.hid hk
  clear hk
  by_cases hi:i<n
  .have hi3:(i:Int)<(n:Int):=by omega
   have hnn:=HN.out
   subst hnn
   have hik:i<keys.length:=by omega
   obtain ⟨key,hkey⟩:∃key,keys[i]?=some key:=⟨_,List.getElem?_eq_getElem hik⟩
   obtain ⟨hwf,g,off,ca',hv,hcell⟩:=(HKV.out.keep kp (by simp)).2 i key hkey
   cases hv
   have hroom:=f.2.room (by rw [List.length_take];omega)
   have htl:(keys.take i).length=i:=by rw [List.length_take];omega
   have hins:=pq_insert wr F' s kk keys.length 1 E (keys.take i).length 4294967295 G f.1 1 key (by omega) (by omega) hwf (by omega) (by obtain ⟨x,a,b,c⟩:=hroom;exact ⟨x,a,b,by rw [c];decide⟩)
   have HX:=Lib.hid (fun e w1 d=>Least1.next w s kk m keys hlen hkey f hm hci kp hF hwm hmF e d (w1:=w1))
   have NOK:=Lib.hid (numF_ok (E:=E) f.1.ok.lt hlen)
   clear f hm kp hF hwm hmF hroom hwf hkey htl
   go_wp2_with (first
    | (go_at_call 14;go_loud (refine hins.mono ?_;intro e w1 hd;obtain ⟨x,rfl,hok,z⟩:=HX.out e w1 hd;clear hd;obtain ⟨zm,zn⟩:=z (.cells #[.int .i64 (x:Int),.int .u32 1] 45 (0,0));clear z;have hA:(w1.alloc (.cells #[.int .i64 (x:Int),.int .u32 1] 45 (0,0))).heap[w1.heap.size]?=some (.cells #[.int .i64 (x:Int),.int .u32 1] 45 (0,0)):=blk_alloc_new _;have z0:(w1.alloc (.cells #[.int .i64 (x:Int),.int .u32 1] 45 (0,0))).cell? ⟨w1.heap.size,0,none⟩=some (.int .i64 (x:Int)):=(cell_of_blk hA).trans rfl;have z1:(w1.alloc (.cells #[.int .i64 (x:Int),.int .u32 1] 45 (0,0))).cell? ⟨w1.heap.size,1,none⟩=some (.int .u32 1):=(cell_of_blk hA).trans rfl;clear hA))
    | (at_mapUpdate;refine wpList_hmap_put (E:=elmInt) rfl _ _ _ rfl Tryz.underlying113 m c _ rfl zm NOK.out (by unfold maxLen;omega) x 1 rfl hok i rfl (show i<=65536 by omega) ?_;intro w2 hm2 hg2;have z3:=Lib.hid (zn.out w2 hm2 hg2);clear hm2 hg2))
   go_roundg (gk - 1)
   case measure=>have:=HK.out;omega
   case rel=>exact ⟨i+1,by have:=HK.out;omega,by omega,by go_num,z3.out⟩
  .obtain rfl:i=n:=by omega
   have hnn:=HN.out
   subst hnn
   have htk:keys.take keys.length=keys:=List.take_length
   rw [htk] at f
   have hst2:Least2 w s kk m keys E G 0 (.slice none 0 0) wr :=
    ⟨[],F',c,rfl,Drn.nil E 1,by rw [remL_nil,f.2.ct];rfl,by rw [remL_nil];exact f.1,kp,hF,NRow.nil _ _,fun b e=>(by cases e),hm,hwm,hmF⟩
   have HS2:=Lib.hid hst2
   have FP:=Lib.hid f.2
   have UQ:=Lib.hid f.1.uq
   have NOK:=Lib.hid (numF_ok (E:=E) f.1.ok.lt hlen)
   clear hst2 f hm kp hF hwm hmF htk
   go_wp2_with fail
   go_loopg [15,56] (keys.length+1) (fun j v t wr=>∃i:Nat,j+i=keys.length+1∧i<=keys.length∧t=.int .i64 i∧Least2 w s kk m keys E G i v wr)
   case atStart=>exact ⟨0,by omega,by omega,rfl,HS2.out⟩
   case round =>
    clear HS2
    obtain ⟨i,hk,hin,rfl,o,F',c,ho,hd,hct,st,kp,hF,hrow,hv,hm,hwm,hmF⟩:=hrel
    have HK:=Lib.hid hk
    clear hk
    have hrl:(o.map fun x=>seqE E x - 1).length=i:=by simp [ho]
    obtain ⟨ao2,ca2,rfl⟩:=hrow.form
    rw [hrl] at hrow hv
    rw [hrl]
    by_cases hi:i<keys.length
    .have hex:∃y,isIn (remL E o) 1 y:=by
      refine Classical.byContradiction fun hne=>?_
      have:count (remL E o) keys.length 1=0:=count_zero.2 fun x _ hx=>hne ⟨x,hx⟩
      omega
     have hext:=pq_extract_yes wr F' s kk keys.length 1 (remL E o) keys.length 4294967295 G st 1 (by omega) (by omega) hex
     have hi3:(i:Int)<(keys.length:Int):=by omega
     have HX:=Lib.hid (fun e w1 d=>Least2.next w s kk m keys FP.out UQ.out hlen ho hd hct st kp hF hrow hv hm hwm hmF e d (w1:=w1))
     clear ho hd hct st kp hF hrow hv hm hwm hmF hex
     go_wp2_with (first
      | (go_at_call 31;refine hext.mono ?_;intro e w1 hd1;obtain ⟨x,key,rfl,hok,hnum,z⟩:=HX.out e w1 hd1;clear hd1;obtain ⟨zm,zr,zn⟩:=z (.cells #[.int .i64 (x:Int),.int .u32 1] 45 (0,0));clear z;have hA:(w1.alloc (.cells #[.int .i64 (x:Int),.int .u32 1] 45 (0,0))).heap[w1.heap.size]?=some (.cells #[.int .i64 (x:Int),.int .u32 1] 45 (0,0)):=blk_alloc_new _;have z0:(w1.alloc (.cells #[.int .i64 (x:Int),.int .u32 1] 45 (0,0))).cell? ⟨w1.heap.size,0,none⟩=some (.int .i64 (x:Int)):=(cell_of_blk hA).trans rfl;have z1:(w1.alloc (.cells #[.int .i64 (x:Int),.int .u32 1] 45 (0,0))).cell? ⟨w1.heap.size,1,none⟩=some (.int .u32 1):=(cell_of_blk hA).trans rfl;clear hA)
      | (at_lookup;refine wpList_hmap_look_int rfl _ _ rfl Tryz.underlying113 rfl zm x 1 rfl hok _ hnum ?_)
      | (at_builtin;refine wpList_push _ 3 (.int .i64 ((seqE E x - 1:Nat):Int)) (0,0) rfl (.tmp 64) (.tmp 68) 28 rfl (.int .i64 0) 8 Tryz.underlying28 Tryz.infoInt rfl rfl (.slice ao2 i ca2) i (natV (o.map fun x=>seqE E x - 1)) (by simp [Act.eval]) zr (by simp [Act.eval]) (by unfold maxLen;omega) (by omega) ?_;intro g' cap' w4 hr4 hk4 hf4;have z3:=Lib.hid (zn.out g' cap' w4 hr4 hk4 hf4);clear hr4 hk4 hf4))
     go_roundg (gk - 1)
     case measure=>have:=HK.out;omega
     case rel=>exact ⟨i+1,by have:=HK.out;omega,by omega,by go_num,z3.out⟩
    .obtain rfl:i=keys.length:=by omega
     have hnone:∀y,¬isIn (remL E o) 1 y:=fun y hy=>by
      have:=(count_zero (E:=remL E o) (n:=keys.length) (h:=1)).1 (by omega) y (st.ok.lt y hy.some)
      exact this hy
     have hsrt:=(Drn.sorted hd (hd.all hnone) FP.out.fl UQ.out).1
     have hfin:LeastDone w keys (.returned (.tuple #[.slice ao2 keys.length ca2,.int .i64 0])) wr:=⟨_,_,rfl,hsrt,hrow,kp⟩
     have HF:=Lib.hid hfin
     clear hfin hsrt hnone ho hd hct st kp hF hrow hv hm hwm hmF
     go_wp2_with fail
     go_ret2
     exact HF.out
theorem sort_calls (w:World) (keys:List Int) (a b:Int) (hc:okC a b) (kv:Value) (hkv:KIn w kv keys) (hlen:keys.length<=65536) :
  Calls Tryz.prog 9 #[.agg #[.int .i64 a,.int .i64 b],kv] w (LeastDone w keys):=by
 obtain ⟨⟨ao,ca,hkv0⟩,_⟩:=id hkv
 obtain ⟨w0,hw0⟩:∃w0,w0=w.alloc (.cells #[.int .i64 a,.int .i64 b] 23 (0,0)):=⟨_,rfl⟩
 have k0:Keeps [] w w0:=by rw [hw0];exact (Keeps.refl _ _).alloc _
 have hb0:w0.heap[w.heap.size]?=some (.cells #[.int .i64 a,.int .i64 b] 23 (0,0)):=by rw [hw0];exact blk_alloc_new _
 have e0:w0.cell? ⟨w.heap.size,0,none⟩=some (.int .i64 a):=by rw [cell_of_blk hb0];rfl
 have e1:w0.cell? ⟨w.heap.size,1,none⟩=some (.int .i64 b):=by rw [cell_of_blk hb0];rfl
 have hl:=least_calls w0 keys a b hc kv (hkv.keep k0 (by simp)) hlen
 have hfin:∀e w1,LeastDone w0 keys e w1->∃v,e=.returned (.tuple #[v,.int .i64 0])∧Hid (LeastDone w keys (.returned (.tuple #[v,.int .i64 0])) w1):=by
  rintro e w1 ⟨l,v,rfl,h1,h2,h3⟩
  exact ⟨v,rfl,l,v,rfl,h1,h2.lo k0.size,k0.trans h3 (by simp)⟩
 have HF:=Lib.hid hfin
 clear hfin k0 hb0 hkv
 subst hkv0
 generalize keys.length=n at *
 go_enter Tryz.func9,Tryz.ntmps9
 go_upto_region 1 with fail
 rw [<-hw0]
 clear hw0
 go_wp2_with (go_at_call 22;refine hl.mono ?_;intro e w1 hd;obtain ⟨v,rfl,z⟩:=HF.out e w1 hd;clear hd)
 go_ret2
 exact z.out
section
variable (w:World)
def NumW (l:List ByteArray) (ns:List Int):Prop :=
 l.length=ns.length∧∀(i:Nat) s n,l[i]?=some s->ns[i]?=some n->(Lit.int .i64 n).wf=true∧∀u,Calls Tryz.prog 155 #[.string s] u fun e w'=>e=.returned (.tuple #[.int .i64 n,.bool true])∧Keeps [] u w'
theorem numbers_calls (g off cap:Nat) (l:List ByteArray) (ns:List Int) (h:SAt w g off l) (hn:NumW l ns) (hl:l.length<=65536) :
  Calls Tryz.prog 129 #[.slice (some ⟨g,off,none⟩) l.length cap] w fun e w'=>∃ao ca,e=.returned (.slice ao ns.length ca)∧KRow w.heap.size w' (.slice ao ns.length ca) ns∧Keeps [] w w':=by
 have H:=Lib.hid h
 have HN:=Lib.hid hn
 clear h hn
 have HS:Hid (Keeps [] w w∧KRow w.heap.size w (.slice none 0 0) ([]:List Int)):=Lib.hid ⟨Keeps.refl _ _,KRow.nil _ _⟩
 go_enter Tryz.func129,Tryz.ntmps129
 go_wp2_with fail
 go_loopg [3,5,6,7,10] (l.length+1) (fun k v s n ok t wr=>∃j:Nat,k+j=l.length+1∧j<=l.length∧t=.int .i64 j∧Keeps [] w wr∧KRow w.heap.size wr v (ns.take j))
 case atStart=>exact ⟨0,by omega,by omega,rfl,HS.out.1,HS.out.2⟩
 case round =>
  clear HS
  obtain ⟨j,hk,hj,rfl,kp,hv⟩:=hrel
  have HK:=Lib.hid hk
  clear hk
  obtain ⟨ao,ca,rfl⟩:=hv.form
  have htl:(ns.take j).length=j:=by rw [List.length_take];have:=HN.out.1;omega
  by_cases hi:j<l.length
  .have hi3:(j:Int)<(l.length:Int):=by omega
   obtain ⟨s,hs⟩:∃s,l[j]?=some s:=⟨_,List.getElem?_eq_getElem hi⟩
   obtain ⟨x,hx⟩:∃x,ns[j]?=some x:=⟨_,List.getElem?_eq_getElem (by have:=HN.out.1;omega)⟩
   have hc:=(H.out.keep kp) j s hs
   obtain ⟨_,hnum⟩:=HN.out.2 j s x hs hx
   have htk:ns.take (j+1)=ns.take j++[x]:=by rw [List.take_add_one,hx];rfl
   have hfin:∀w1,Keeps [] wr w1->w1.ownsRow 0 2 1 (.slice ao j ca) j (keysV (ns.take j)) ∧
     Hid (∀g' c' w2,w2.ownsRow 0 2 1 (.slice (some ⟨g',0,none⟩) (j+1) c') (j+1) (keysV (ns.take j)++[.int .i64 x])->Keeps (Value.slice ao j ca).ownBlock.toList w1 w2->((Value.slice ao j ca).ownBlock=some g'∨w1.heap.size<=g') ->
      Keeps [] w w2∧KRow w.heap.size w2 (.slice (some ⟨g',0,none⟩) (j+1) c') (ns.take (j+1))):=by
    intro w1 k1
    have hrow:=hv.keep k1 (by simp)
    rw [htl] at hrow
    have hown:=hv.own
    rw [htl] at hown
    refine ⟨?_,fun g' c' w2 hr2 k2 hg2=>⟨?_,?_⟩⟩
    .have:=hrow.lo (Nat.zero_le _)
     unfold KRow at this
     rw [htl] at this
     exact this
    .exact (kp.trans k1 (by simp)).trans k2 (fun b hb=>.inr (hown b (by simpa [Option.mem_toList] using hb)).1)
    .have hg':w.heap.size<=g':=by
      rcases hg2 with e|e
      .exact (hown g' e).1
      .have:=kp.size;have:=k1.size;omega
     rw [htk]
     have:=KRow.pushed (B:=w.heap.size) (l:=ns.take j) (g:=g') (ca:=c') (x:=x) (w:=w2) (by rw [htl];exact hr2) hg'
     rw [htl] at this
     exact this
   have HF:=Lib.hid hfin
   clear hfin hv kp hs hx htk
   rw [htl]
   go_wp2_with (first
    | (go_at_call 155;refine (hnum _).mono ?_;rintro e w1 ⟨rfl,k1⟩;obtain ⟨z1,z2⟩:=HF.out w1 k1;clear k1)
    | (at_builtin;refine wpList_push _ 2 (.int .i64 x) (0,0) rfl (.tmp 23) (.tmp 25) 25 rfl (.int .i64 0) 8 Tryz.underlying25 Tryz.infoInt64 rfl rfl (.slice ao j ca) j (keysV (ns.take j)) (by simp [Act.eval]) z1 (by simp [Act.eval]) (by unfold maxLen;omega) (by omega) ?_;intro g' cap' w4 hr4 hk4 hf4;have z3:=Lib.hid (z2.out g' cap' w4 hr4 hk4 hf4);clear hr4 hk4 hf4))
   go_roundg (gk - 1)
   case measure=>have:=HK.out;omega
   case rel=>exact ⟨j+1,by have:=HK.out;omega,by omega,by go_num,z3.out.1,z3.out.2⟩
  .obtain rfl:j=l.length:=by omega
   have hns:ns.take l.length=ns:=by rw [HN.out.1];exact List.take_length
   rw [hns] at hv ⊢
   have HF:=Lib.hid (show KRow w.heap.size wr (.slice ao ns.length ca) ns∧Keeps [] w wr from ⟨hv,kp⟩)
   clear hv kp
   go_wp2_with fail
   go_ret
   exact ⟨_,_,rfl,HF.out⟩
def sayW (a:List UInt8) (l:List Nat):List UInt8:=a++l.flatMap fun i=>[32,(48+i).toUInt8]
theorem sayW_len (a:List UInt8) (l:List Nat):(sayW a l).length=a.length+2*l.length:=by
 unfold sayW
 rw [List.length_append]
 congr 1
 induction l with
 | nil=>rfl
 | cons x l ih=>simp only [List.flatMap_cons,List.length_append,List.length_cons,List.length_nil,ih];omega
theorem said_calls (a:ByteArray) (B:Nat) (l:List Nat) (v:Value) (h:NRow B w v l) (hl:∀i∈l,i<3) (hlen:l.length<=65536) (ha:a.size<=65536) :
  Calls Tryz.prog 134 #[.string a,v] w fun e w'=>e=.returned (.string ⟨(sayW a.data.toList l).toArray⟩)∧w=w':=by
 obtain ⟨ao,ca,rfl⟩:=h.form
 have H:=Lib.hid h
 clear h
 go_enter Tryz.func134,Tryz.ntmps134
 go_wp2_with fail
 go_loopg [0,6,9] (l.length+1) (fun k s i t wr=>∃j:Nat,k+j=l.length+1∧j<=l.length∧t=.int .i64 j∧s=.string ⟨(sayW a.data.toList (l.take j)).toArray⟩∧wr=w)
 case atStart=>exact ⟨0,by omega,by omega,rfl,by simp [sayW],rfl⟩
 case round =>
  obtain ⟨j,hk,hj,rfl,rfl,rfl⟩:=hrel
  have HK:=Lib.hid hk
  clear hk
  by_cases hi:j<l.length
  .have hi3:(j:Int)<(l.length:Int):=by omega
   obtain ⟨x,hx⟩:∃x,l[j]?=some x:=⟨_,List.getElem?_eq_getElem hi⟩
   obtain ⟨g,rfl,_,hc⟩:=H.out.at hx
   have hd:=digits_calls wr x (hl x (List.mem_of_getElem? hx))
   have htk:l.take (j+1)=l.take j++[x]:=by rw [List.take_add_one,hx];rfl
   have hsay:(sayW a.data.toList (l.take (j+1)))=sayW a.data.toList (l.take j)++[32,(48+x).toUInt8]:=by rw [htk];simp [sayW]
   have HS:=Lib.hid hsay
   have hq:¬9223372036854775807<(sayW a.data.toList (l.take j)).length+(1+(dig x).size):=by
    have:(dig x).size=1:=rfl
    rw [this,sayW_len,List.length_take]
    have:a.data.toList.length=a.size:=rfl
    omega
   clear hx htk hsay
   go_wp2_with (go_at_call 74;refine hd.mono ?_;rintro e w' ⟨rfl,rfl⟩)
   go_roundg (gk - 1)
   case measure=>have:=HK.out;omega
   case rel=>exact ⟨j+1,by have:=HK.out;omega,by omega,by go_num,by rw [HS.out,<-ByteArray.mk_append_mk,show (⟨#[32]⟩++dig x:ByteArray)=ByteArray.mk [32,(48+x).toUInt8].toArray from ByteArray.mk_append_mk [32] [(48+x).toUInt8]],rfl⟩
  .obtain rfl:j=l.length:=by omega
   rw [List.take_length]
   go_wp2_with fail
   go_ret
   exact ⟨rfl,rfl⟩
end
end Go.Proofs.YtkdbjelhkfdfjaaGreatDoor

