/-
  Contracts that the law rests on. Conditions: none.
-/
import Derived.Test.YtkdbjelhkfdfjaaGreatDoorLo41
set_option linter.unusedVariables false
set_option maxRecDepth 100000
set_option maxHeartbeats 32000000
namespace Go.Proofs.YtkdbjelhkfdfjaaGreatDoor
open Go.RowKit
section
variable (w:World) (F:List Nat) (s k cap hs:Nat) (E:Ent) (q:Nat) (most:Int) (G:Nat->Nat)
theorem u64_wf (n:Nat) (h:n<=4294967295):(Lit.int .u64 (n:Int)).wf=true:=by
 have e1:IntKind.u64.min=0:=rfl
 have e2:IntKind.u64.max=18446744073709551615:=rfl
 simp only [Lit.wf,e1,e2,Bool.and_eq_true,decide_eq_true_eq]
 omega
def InsDone (h:Nat) (key:Int) (e:Ending) (w':World):Prop :=
 ∃i:Nat,i<cap∧E i=none∧e=.returned (.tuple #[.agg #[.int .i64 i,.int .u32 ((G i:Int)+1)],.int .i64 0]) ∧
  ∃F',StoreAt w' F' s k cap hs (put E i (some (h,key,q+1))) (q+1) most (upd G i (G i+1))∧Moved F w F' w'
theorem pq_insert (c:StoreAt w F s k cap hs E q most G) (h:Nat) (key:Int) (h1:1<=h) (h2:h<=hs) (hk:(Lit.int .i64 key).wf=true) (hq:q<4294967295) (hx:∃x,x<cap∧E x=none∧(G x:Int)<most) :
  Calls Tryz.prog 14 #[.pointer (some ⟨s,0,none⟩),.int .i64 h,.int .i64 key] w (InsDone w F s k cap hs E q most G h key):=by
 obtain ⟨pa,pn,Fa,Fn,c1,c2,rfl,st⟩:=c
 have hlt:=st.lt
 have ls:=hlt s (by simp)
 obtain ⟨w0,hw0⟩:∃w0,w0=w.alloc (.cells #[.int .i64 0,.int .u32 0] 45 (0,0)):=⟨_,rfl⟩
 have k0:Keeps [] w w0:=by rw [hw0];exact (Keeps.refl _ _).alloc _
 have hb0:w0.heap[w.heap.size]?=some (.cells #[.int .i64 0,.int .u32 0] 45 (0,0)):=by rw [hw0];exact blk_alloc_new _
 have st0:=st.keep k0 (by simp)
 obtain ⟨pc,Fc,d0,ce,_⟩:=st0.ne.cells
 have hhas:=cells_has w0 Fc pc cap hs E ce h
 rw [decide_eq_true (by omega)] at hhas
 have m1:=n_has_m k w0 pn pc d0
 have c3:=st0.c3
 have c2':=st0.c2'
 have htake:=are_take st0.ar (by
  obtain ⟨x,a,b,c⟩:=hx
  exact ⟨x,a,by simp [b],c⟩)
 have hstep:∀(w1:World) (i:Nat) (Fa':List Nat),i<cap->E i=none->AreAt w1 Fa' pa cap most (upd G i (G i+1)) (upd (fun x=>(E x).isSome) i true)->Moved Fa w0 Fa' w1 ->
   (w1.alloc (.cells #[.int .i64 (i:Int),.int .u32 ((G i:Int)+1)] 45 (0,0))).cell? ⟨s,4,none⟩=some (.int .u64 (q:Int))∧(w1.alloc (.cells #[.int .i64 (i:Int),.int .u32 ((G i:Int)+1)] 45 (0,0))).frozen? ⟨s,4,none⟩=false ∧
   Hid (∀w2,w2=(w1.alloc (.cells #[.int .i64 (i:Int),.int .u32 ((G i:Int)+1)] 45 (0,0))).setCell ⟨s,4,none⟩ (.int .u64 ((q:Int)+1)) ->
    w2.cell? ⟨s,3,none⟩=some (.iface (nTy k) (.pointer (some ⟨pn,0,none⟩)))∧w2.cell? ⟨s,4,none⟩=some (.int .u64 ((q:Int)+1))∧w2.cell? ⟨w1.heap.size,0,none⟩=some (.int .i64 (i:Int)) ∧
    Hid (∃fn,(∀u,(method 588 (nTy k) (.pointer (some ⟨pn,0,none⟩)) "Insert").run Tryz.prog u=.ok (fn,.pointer (some ⟨pn,0,none⟩)) u)∧(∀args u,(callFunc fn args).run Tryz.prog u=.ok (.enter fn args) u) ∧
     Calls Tryz.prog fn #[.pointer (some ⟨pn,0,none⟩),.int .i64 h,.int .i64 i,.agg #[.int .i64 key,.int .u64 ((q:Int)+1)]] w2.drew fun e w4=>e=.returned (.bool true) ∧
      w4.heap[w1.heap.size]?=some (.cells #[.int .i64 (i:Int),.int .u32 ((G i:Int)+1)] 45 (0,0))∧w4.heap[w.heap.size]?=some (.cells #[.int .i64 0,.int .u32 0] 45 (0,0)) ∧
      Hid (∀v0 v1,InsDone w (s::(Fa++Fn)) s k cap hs E q most G h key (.returned (.tuple #[.agg #[.int .i64 i,.int .u32 ((G i:Int)+1)],.int .i64 0])) ((w4.setCell ⟨w.heap.size,0,none⟩ v0).setCell ⟨w.heap.size,1,none⟩ v1)))):=by
  intro w1 i Fa' hi hEi ha1 hm1
  have s1:=hm1.keeps.size
  have s0:=k0.size
  have sz0:w.heap.size<w0.heap.size:=lt_of_block hb0
  have kA:Keeps [] w1 (w1.alloc (.cells #[.int .i64 (i:Int),.int .u32 ((G i:Int)+1)] 45 (0,0))):=(Keeps.refl _ _).alloc _
  have b1:=kA.blk (hm1.keeps.blk st0.blk st.sa) (by simp)
  have hh1:(w1.alloc (.cells #[.int .i64 (i:Int),.int .u32 ((G i:Int)+1)] 45 (0,0))).heap[w1.heap.size]?=some (.cells #[.int .i64 (i:Int),.int .u32 ((G i:Int)+1)] 45 (0,0)):=blk_alloc_new _
  have hold:∀b,b<w.heap.size->b∉Fa->b∉Fa':=fun b a1 a2 a3=>by
   rcases hm1.from' b a3 with c|c
   .exact a2 c
   .omega
  have lFa':=ha1.lt
  refine ⟨by rw [cell_of_blk b1];rfl,frozen_of_blk b1,fun w2 hw2=>?_⟩
  have kS:Keeps [s] (w1.alloc (.cells #[.int .i64 (i:Int),.int .u32 ((G i:Int)+1)] 45 (0,0))) w2:=by rw [hw2];exact (Keeps.refl _ _).setCell (.inl (by simp)) _
  have b2:w2.heap[s]?=some (.cells #[.int .i64 c1,.int .i64 c2,.pointer (some ⟨pa,0,none⟩),.iface (nTy k) (.pointer (some ⟨pn,0,none⟩)),.int .u64 ((q:Int)+1)] 98 (0,0)):=by
   rw [hw2];have:=blk_setCell (i:=4) (.int .u64 ((q:Int)+1)) b1;simpa using this
  have k12:Keeps [s] w1 w2:=(kA.mono (T:=[s]) (by simp)).trans kS (by simp)
  have hsw1:w1.heap.size≠s:=by omega
  have hh2:=kS.blk hh1 (by simpa using hsw1)
  have hr0:w0.heap[w.heap.size]?=some (.cells #[.int .i64 0,.int .u32 0] 45 (0,0)):=hb0
  have hnF:w.heap.size∉Fa:=fun e=>by have:=hlt _ (by simp [e]:w.heap.size∈s::(Fa++Fn));omega
  have hnN:w.heap.size∉Fn:=fun e=>by have:=hlt _ (by simp [e]:w.heap.size∈s::(Fa++Fn));omega
  have hr2:=k12.blk (hm1.keeps.blk hr0 hnF) (by simp;omega)
  have kd:Keeps [] w2 w2.drew:=⟨rfl,rfl,rfl,Nat.le_refl _,fun _ _ _=>rfl⟩
  have ne2:nAt k w2.drew Fn pn cap hs E:=((st0.ne.keep hm1.keeps (fun b hb e=>st.an b e hb)).keep k12 (fun b hb e=>st.sn (by simp only [List.mem_singleton] at e;exact e ▸ hb))).keep kd (by simp)
  have ar2:AreAt w2.drew Fa' pa cap most (upd G i (G i+1)) (upd (fun x=>(E x).isSome) i true):=(ha1.keep k12 (fun b hb e=>hold s ls st.sa (by simp only [List.mem_singleton] at e;exact e ▸ hb))).keep kd (by simp)
  refine ⟨by rw [cell_of_blk b2];rfl,by rw [cell_of_blk b2];rfl,by rw [cell_of_blk hh2];rfl,?_⟩
  obtain ⟨fn,n1,n2,n3⟩:=n_insert k w2.drew Fn pn cap hs E ne2 h i (q+1) key h1 h2 hi hEi hk (u64_wf (q+1) (by omega))
  refine ⟨fn,n1,n2,?_⟩
  have ec:((q+1:Nat):Int)=(q:Int)+1:=rfl
  rw [ec] at n3
  refine n3.mono ?_
  rintro e w4 ⟨rfl,Fn',hn4,hm4⟩
  have hnF':∀b,b∉Fn->b<w2.drew.heap.size->b∉Fn':=fun b a1 a2 a3=>by
   rcases hm4.from' b a3 with c|c
   .exact a1 c
   .omega
  have s2:w1.heap.size<w2.heap.size:=lt_of_block hh2
  have h4n:w1.heap.size∉Fn:=fun e=>by have:=hlt _ (by simp [e]:w1.heap.size∈s::(Fa++Fn));omega
  have hh4:=hm4.keeps.blk (k:=w1.heap.size) hh2 h4n
  have hr4:=hm4.keeps.blk (k:=w.heap.size) hr2 hnN
  refine ⟨rfl,hh4,hr4,fun v0 v1=>⟨i,hi,hEi,rfl,?_⟩⟩
  have kR:Keeps [w.heap.size] w4 ((w4.setCell ⟨w.heap.size,0,none⟩ v0).setCell ⟨w.heap.size,1,none⟩ v1):=((Keeps.refl _ _).setCell (.inl (by simp)) _).setCell (.inl (by simp)) _
  have an':∀b∈Fa',b∉Fn:=fun b hb e=>by
   rcases hm1.from' b hb with c|c
   .exact st.an b c e
   .have:=hlt b (by simp [e]);omega
  have hq4:StoreQ w4 s pa pn Fa' Fn' c1 c2 k cap hs (put E i (some (h,key,q+1))) (q+1) most (upd G i (G i+1)):=by
   refine ⟨hm4.keeps.blk (k:=s) b2 st.sn,?_,hn4,hold s ls st.sa,hnF' s st.sn (lt_of_block (w:=w2) b2),fun b hb=>hnF' b (an' b hb) (by have:=lFa' b hb;have:=k12.size;show b<w2.heap.size;omega),?_,?_,?_⟩
   .have:=ar2.keep hm4.keeps an'
    have e:(fun x=>(put E i (some (h,key,q+1)) x).isSome)=upd (fun x=>(E x).isSome) i true:=by
     funext x
     by_cases c:x=i
     .subst c;rw [put_same,upd_same];rfl
     .rw [put_other _ _ _ c,upd_other _ _ c]
    rw [e];exact this
   .intro x g kk n e
    by_cases c:x=i
    .subst c;rw [put_same] at e;cases e;exact Nat.le_refl _
    .rw [put_other _ _ _ c] at e;have:=st.sq x g kk n e;omega
   .intro x y g kk n g' kk' e e'
    by_cases c:x=i<;>by_cases d:y=i
    .rw [c,d]
    .subst c;rw [put_same] at e;cases e
     rw [put_other _ _ _ d] at e';have:=st.sq _ _ _ _ e';omega
    .subst d;rw [put_same] at e';cases e'
     rw [put_other _ _ _ c] at e;have:=st.sq _ _ _ _ e;omega
    .rw [put_other _ _ _ c] at e;rw [put_other _ _ _ d] at e';exact st.uq x y g kk n g' kk' e e'
   .intro x
    by_cases c:x=i
    .subst c;rw [upd_same];have:=st.gq x;omega
    .rw [upd_other _ _ c];have:=st.gq x;omega
  have lF':∀b∈s::(Fa'++Fn'),b≠w.heap.size:=fun b hb e=>by
   subst e
   simp only [List.mem_cons,List.mem_append] at hb
   rcases hb with e|e|e
   .omega
   .rcases hm1.from' _ e with c|c
    .exact hnF c
    .omega
   .exact hnF' _ hnN (lt_of_block (w:=w2) hr2) e
  have hq5:=hq4.keep kR (fun b hb e=>lF' b hb (by simpa using e))
  refine ⟨_,⟨pa,pn,Fa',Fn',c1,c2,rfl,hq5⟩,?_,fun b hb=>?_,hq5.lt⟩
  .refine (((((k0.mono (T:=s::(Fa++Fn)) (by simp)).trans hm1.keeps (fun b hb=>.inl (by simp [hb]))).trans k12 (fun b hb=>.inl (by simp only [List.mem_singleton] at hb;simp [hb]))).trans kd (by simp)).trans hm4.keeps (fun b hb=>.inl (by simp [hb]))).trans kR (fun b hb=>.inr (by simp only [List.mem_singleton] at hb;omega))
  .simp only [List.mem_cons,List.mem_append] at hb ⊢
   rcases hb with e|e|e
   .exact .inl (.inl e)
   .rcases hm1.from' b e with c|c
    .exact .inl (.inr (.inl c))
    .exact .inr (by omega)
   .rcases hm4.from' b e with c|c
    .exact .inl (.inr (.inr c))
    .refine .inr ?_
     have h6:w2.heap.size<=b:=c
     omega
 have HS:=Lib.hid hstep
 clear hstep st st0 ce d0 hlt k0 hx hb0
 have hqb:(q:Int)<4294967295:=by omega
 go_enter Tryz.func14,Tryz.ntmps14
 go_upto_region 1 with fail
 rw [<-hw0]
 clear hw0
 go_upto_region 6 with (first
  | (go_at_call 301;refine hhas.mono ?_;rintro e w' ⟨rfl,rfl⟩)
  | (go_at_call 36;refine htake.mono ?_;rintro e w1 ⟨i,hi,hv,hg,rfl,Fa',ha1,hm1⟩;have hEi:E i=none:=(by simpa using hv);obtain ⟨z1,z2,z3⟩:=HS.out w1 i Fa' hi hEi ha1 hm1;clear ha1 hm1 hv hg))
 clear hhas m1 c3 c2' htake HS
 go_upto_region 7 with fail
 obtain ⟨w2,hw2⟩:∃w2,w2=(w1.alloc (.cells #[.int .i64 (i:Int),.int .u32 ((G i:Int)+1)] 45 (0,0))).setCell ⟨s,4,none⟩ (.int .u64 ((q:Int)+1)):=⟨_,rfl⟩
 obtain ⟨y1,y2,y3,y4⟩:=z3.out w2 hw2
 obtain ⟨fn,n1,n2,n3⟩:=y4.out
 rw [<-hw2]
 clear hw2 z1 z2 z3 y4
 go_region_law (first
  | (go_simp;refine n3.mono ?_;rintro e w4 ⟨rfl,b8,b6,hfin⟩))
 all_goals
  clear n1 n2 n3 y1 y2 y3
  have g0:w4.cell? ⟨w1.heap.size,0,none⟩=some (.int .i64 (i:Int)):=by rw [cell_of_blk b8];rfl
  have g1:w4.cell? ⟨w1.heap.size,1,none⟩=some (.int .u32 ((G i:Int)+1)):=by rw [cell_of_blk b8];rfl
  have g2:w4.cell? ⟨w.heap.size,0,none⟩=some (.int .i64 0):=by rw [cell_of_blk b6];rfl
  have g3:w4.cell? ⟨w.heap.size,1,none⟩=some (.int .u32 0):=by rw [cell_of_blk b6];rfl
  have g4:w4.frozen? ⟨w.heap.size,0,none⟩=false:=frozen_of_blk b6
  have g5:w4.frozen? ⟨w.heap.size,1,none⟩=false:=frozen_of_blk b6
  have hblk:=blk_setCell (i:=1) (.int .u32 ((G i:Int)+1)) (blk_setCell (i:=0) (.int .i64 (i:Int)) b6)
  have HB:=Lib.hid hblk
  clear hblk b6 b8
  go_wp2_with fail
  refine bodyPost_ret (v:=.tuple #[.agg #[.int .i64 (i:Int),.int .u32 ((G i:Int)+1)],.int .i64 0]) ?_ rfl (hfin.out _ _)
  refine (results_cell2 (p:=6) (u:=7) rfl _ _ w.heap.size 45 #[.int .i64 (i:Int),.int .u32 ((G i:Int)+1)] (0,0) _ (by simp) ?_ Tryz.underlying45 rfl (by kernel_rfl)).trans ?_
  .have:=HB.out
   simpa using this
  .simp
end
section
variable (w:World) (F:List Nat) (s k cap hs:Nat) (E:Ent) (q:Nat) (most:Int) (G:Nat->Nat)
def FirstYes (h:Nat) (e:Ending) (w':World):Prop :=
 ∃x:Nat,least E h x∧e=.returned (.tuple #[.agg #[.int .i64 x,.int .u32 (G x:Nat)],.int .i64 0])∧StoreAt w' F s k cap hs E q most G∧Keeps F w w'
def FirstNo (e:Ending) (w':World):Prop :=
 e=.returned (.tuple #[.agg #[.int .i64 0,.int .u32 0],.int .i64 172])∧StoreAt w' F s k cap hs E q most G∧Keeps F w w'
theorem pq_first_yes (c:StoreAt w F s k cap hs E q most G) (h:Nat) (h1:1<=h) (h2:h<=hs) (hi:∃y,isIn E h y) :
  Calls Tryz.prog 55 #[.pointer (some ⟨s,0,none⟩),.int .i64 h] w (FirstYes w F s k cap hs E q most G h):=by
 obtain ⟨pa,pn,Fa,Fn,c1,c2,rfl,st⟩:=c
 have hlt:=st.lt
 obtain ⟨w0,hw0⟩:∃w0,w0=w.alloc (.cells #[.int .i64 0,.int .u32 0] 45 (0,0)):=⟨_,rfl⟩
 have k0:Keeps [] w w0:=by rw [hw0];exact (Keeps.refl _ _).alloc _
 have hb0:w0.heap[w.heap.size]?=some (.cells #[.int .i64 0,.int .u32 0] 45 (0,0)):=by rw [hw0];exact blk_alloc_new _
 have st0:=st.keep k0 (by simp)
 obtain ⟨pc,Fc,d0,ce,_⟩:=st0.ne.cells
 have hhas:=cells_has w0 Fc pc cap hs E ce h
 rw [decide_eq_true (by omega)] at hhas
 have m1:=n_has_m k w0 pn pc d0
 have c3:=st0.c3
 obtain ⟨fn,n1,n2,n3⟩:=n_min_yes k w0 Fn pn cap hs E st0.ne h h1 h2 hi
 have hnot:w.heap.size∉s::(Fa++Fn):=fun e=>Nat.lt_irrefl _ (hlt _ e)
 have hstep:∀(w1:World) (x:Nat),least E h x->nAt k w1 Fn pn cap hs E->Keeps Fn w0 w1->w1.cell? ⟨s,2,none⟩=some (.pointer (some ⟨pa,0,none⟩)) ∧
   Hid (Calls Tryz.prog 86 #[.pointer (some ⟨pa,0,none⟩),.int .i64 x] w1 fun e w2=>e=.returned (.tuple #[.agg #[.int .i64 x,.int .u32 (G x:Nat)],.bool true]) ∧
    (w2.alloc (.cells #[.int .i64 (x:Int),.int .u32 (G x:Int)] 45 (0,0))).heap[w.heap.size]?=some (.cells #[.int .i64 0,.int .u32 0] 45 (0,0)) ∧
    Hid (∀v0 v1,FirstYes w (s::(Fa++Fn)) s k cap hs E q most G h (.returned (.tuple #[.agg #[.int .i64 x,.int .u32 (G x:Nat)],.int .i64 0])) (((w2.alloc (.cells #[.int .i64 (x:Int),.int .u32 (G x:Int)] 45 (0,0))).setCell ⟨w.heap.size,0,none⟩ v0).setCell ⟨w.heap.size,1,none⟩ v1))):=by
  intro w1 x hl hn1 hk1
  have b1:=hk1.blk st0.blk st.sn
  have st1:StoreQ w1 s pa pn Fa Fn c1 c2 k cap hs E q most G:=⟨b1,st0.ar.keep hk1 st.an,hn1,st.sa,st.sn,st.an,st.sq,st.uq,st.gq⟩
  have hxc:=st1.ne.ok.lt x hl.1.some
  refine ⟨st1.c2',(are_at st1.ar x hxc hl.1.some).mono ?_⟩
  rintro e w2 ⟨rfl,k2⟩
  have kA:Keeps [] w2 (w2.alloc (.cells #[.int .i64 (x:Int),.int .u32 (G x:Int)] 45 (0,0))):=(Keeps.refl _ _).alloc _
  have kk:Keeps [] w1 (w2.alloc (.cells #[.int .i64 (x:Int),.int .u32 (G x:Int)] 45 (0,0))):=k2.trans kA (by simp)
  have hnN:w.heap.size∉Fn:=fun e=>hnot (by simp [e])
  refine ⟨rfl,kk.blk (hk1.blk hb0 hnN) (by simp),fun v0 v1=>⟨x,hl,rfl,?_⟩⟩
  have kR:Keeps [w.heap.size] (w2.alloc (.cells #[.int .i64 (x:Int),.int .u32 (G x:Int)] 45 (0,0))) (((w2.alloc (.cells #[.int .i64 (x:Int),.int .u32 (G x:Int)] 45 (0,0))).setCell ⟨w.heap.size,0,none⟩ v0).setCell ⟨w.heap.size,1,none⟩ v1):=((Keeps.refl _ _).setCell (.inl (by simp)) _).setCell (.inl (by simp)) _
  refine ⟨⟨pa,pn,Fa,Fn,c1,c2,rfl,(st1.keep kk (by simp)).keep kR (fun b hb e=>hnot (by simp only [List.mem_singleton] at e;exact e ▸ hb))⟩,?_⟩
  exact (((k0.mono (T:=s::(Fa++Fn)) (by simp)).trans hk1 (fun b hb=>.inl (by simp [hb]))).trans kk (by simp)).trans kR (fun b hb=>.inr (by simp only [List.mem_singleton] at hb;omega))
 have HS:=Lib.hid hstep
 clear hstep st st0 ce d0 hlt k0 hb0 hi
 go_enter Tryz.func55,Tryz.ntmps55
 go_upto_region 1 with fail
 rw [<-hw0]
 clear hw0
 go_upto_region 6 with (first
  | (go_at_call 301;refine hhas.mono ?_;rintro e w' ⟨rfl,rfl⟩)
  | (refine n3.mono ?_;rintro e w1 ⟨x,rfl,hl,hn1,hk1⟩;obtain ⟨z1,z2⟩:=HS.out w1 x hl hn1 hk1;clear hl hn1 hk1))
 clear hhas m1 n1 n2 n3 HS c3
 go_upto_region 7 with (go_at_call 86;refine z2.out.mono ?_;rintro e w2 ⟨rfl,b6,hfin⟩)
 clear z1 z2
 have g0:(w2.alloc (.cells #[.int .i64 (x:Int),.int .u32 (G x:Int)] 45 (0,0))).cell? ⟨w2.heap.size,0,none⟩=some (.int .i64 (x:Int)):=by rw [cell_of_blk (blk_alloc_new _)];rfl
 have g1:(w2.alloc (.cells #[.int .i64 (x:Int),.int .u32 (G x:Int)] 45 (0,0))).cell? ⟨w2.heap.size,1,none⟩=some (.int .u32 (G x:Int)):=by rw [cell_of_blk (blk_alloc_new _)];rfl
 generalize w2.alloc (.cells #[.int .i64 (x:Int),.int .u32 (G x:Int)] 45 (0,0))=w3 at *
 have g2:w3.cell? ⟨w.heap.size,0,none⟩=some (.int .i64 0):=by rw [cell_of_blk b6];rfl
 have g3:w3.cell? ⟨w.heap.size,1,none⟩=some (.int .u32 0):=by rw [cell_of_blk b6];rfl
 have g4:w3.frozen? ⟨w.heap.size,0,none⟩=false:=frozen_of_blk b6
 have g5:w3.frozen? ⟨w.heap.size,1,none⟩=false:=frozen_of_blk b6
 have hblk:=blk_setCell (i:=1) (.int .u32 (G x:Int)) (blk_setCell (i:=0) (.int .i64 (x:Int)) b6)
 have HB:=Lib.hid hblk
 clear hblk b6
 go_wp2_with fail
 refine bodyPost_ret (v:=.tuple #[.agg #[.int .i64 (x:Int),.int .u32 (G x:Int)],.int .i64 0]) ?_ rfl (hfin.out _ _)
 refine (results_cell2 (p:=4) (u:=5) rfl _ _ w.heap.size 45 #[.int .i64 (x:Int),.int .u32 (G x:Int)] (0,0) _ (by simp) ?_ Tryz.underlying45 rfl (by kernel_rfl)).trans ?_
 .have:=HB.out
  simpa using this
 .simp
theorem pq_first_no (c:StoreAt w F s k cap hs E q most G) (h:Nat) (h1:1<=h) (h2:h<=hs) (hi:∀y,¬isIn E h y) :
  Calls Tryz.prog 55 #[.pointer (some ⟨s,0,none⟩),.int .i64 h] w (FirstNo w F s k cap hs E q most G):=by
 obtain ⟨pa,pn,Fa,Fn,c1,c2,rfl,st⟩:=c
 have hlt:=st.lt
 obtain ⟨w0,hw0⟩:∃w0,w0=w.alloc (.cells #[.int .i64 0,.int .u32 0] 45 (0,0)):=⟨_,rfl⟩
 have k0:Keeps [] w w0:=by rw [hw0];exact (Keeps.refl _ _).alloc _
 have b6:w0.heap[w.heap.size]?=some (.cells #[.int .i64 0,.int .u32 0] 45 (0,0)):=by rw [hw0];exact blk_alloc_new _
 have st0:=st.keep k0 (by simp)
 obtain ⟨pc,Fc,d0,ce,_⟩:=st0.ne.cells
 have hhas:=cells_has w0 Fc pc cap hs E ce h
 rw [decide_eq_true (by omega)] at hhas
 have m1:=n_has_m k w0 pn pc d0
 have c3:=st0.c3
 obtain ⟨fn,n1,n2,n3⟩:=n_min_no k w0 Fn pn cap hs E st0.ne h h1 h2 hi
 have hnot:w.heap.size∉s::(Fa++Fn):=fun e=>Nat.lt_irrefl _ (hlt _ e)
 have hfin:∀v0 v1,FirstNo w (s::(Fa++Fn)) s k cap hs E q most G (.returned (.tuple #[.agg #[.int .i64 0,.int .u32 0],.int .i64 172])) ((w0.setCell ⟨w.heap.size,0,none⟩ v0).setCell ⟨w.heap.size,1,none⟩ v1):=fun v0 v1=>by
  have kR:Keeps [w.heap.size] w0 ((w0.setCell ⟨w.heap.size,0,none⟩ v0).setCell ⟨w.heap.size,1,none⟩ v1):=((Keeps.refl _ _).setCell (.inl (by simp)) _).setCell (.inl (by simp)) _
  exact ⟨rfl,⟨pa,pn,Fa,Fn,c1,c2,rfl,st0.keep kR (fun b hb e=>hnot (by simp only [List.mem_singleton] at e;exact e ▸ hb))⟩,(k0.mono (T:=s::(Fa++Fn)) (by simp)).trans kR (fun b hb=>.inr (by simp only [List.mem_singleton] at hb;omega))⟩
 have HF:=Lib.hid hfin
 have g2:w0.cell? ⟨w.heap.size,0,none⟩=some (.int .i64 0):=by rw [cell_of_blk b6];rfl
 have g3:w0.cell? ⟨w.heap.size,1,none⟩=some (.int .u32 0):=by rw [cell_of_blk b6];rfl
 have g4:w0.frozen? ⟨w.heap.size,0,none⟩=false:=frozen_of_blk b6
 have g5:w0.frozen? ⟨w.heap.size,1,none⟩=false:=frozen_of_blk b6
 have hblk:=blk_setCell (i:=1) (.int .u32 0) (blk_setCell (i:=0) (.int .i64 0) b6)
 have HB:=Lib.hid hblk
 clear hfin st st0 ce d0 hlt k0 b6 hi hblk
 go_enter Tryz.func55,Tryz.ntmps55
 go_upto_region 1 with fail
 rw [<-hw0]
 clear hw0
 go_wp2_with (first
  | (go_at_call 301;refine hhas.mono ?_;rintro e w' ⟨rfl,rfl⟩)
  | (refine n3.mono ?_;rintro e w1 ⟨rfl,rfl⟩))
 refine bodyPost_ret (v:=.tuple #[.agg #[.int .i64 0,.int .u32 0],.int .i64 172]) ?_ rfl (HF.out _ _)
 refine (results_cell2 (p:=4) (u:=5) rfl _ _ w.heap.size 45 #[.int .i64 0,.int .u32 0] (0,0) _ (by simp) ?_ Tryz.underlying45 rfl (by kernel_rfl)).trans ?_
 .have:=HB.out
  simpa using this
 .simp
end
section
variable (w:World) (v:Value)
theorem made_dary:Calls Tryz.prog 56 #[v,.int .i64 0] w fun e w'=>e=.returned (.tuple #[.iface 148 v,.int .i64 0])∧w=w':=by
 go_enter Tryz.func56,Tryz.ntmps56
 go_wp2_with fail
 go_ret2
 exact ⟨rfl,rfl⟩
theorem made_binomial:Calls Tryz.prog 59 #[v,.int .i64 0] w fun e w'=>e=.returned (.tuple #[.iface 152 v,.int .i64 0])∧w=w':=by
 go_enter Tryz.func59,Tryz.ntmps59
 go_wp2_with fail
 go_ret2
 exact ⟨rfl,rfl⟩
theorem made_pairing:Calls Tryz.prog 61 #[v,.int .i64 0] w fun e w'=>e=.returned (.tuple #[.iface 156 v,.int .i64 0])∧w=w':=by
 go_enter Tryz.func61,Tryz.ntmps61
 go_wp2_with fail
 go_ret2
 exact ⟨rfl,rfl⟩
theorem made_fibonacci:Calls Tryz.prog 63 #[v,.int .i64 0] w fun e w'=>e=.returned (.tuple #[.iface 160 v,.int .i64 0])∧w=w':=by
 go_enter Tryz.func63,Tryz.ntmps63
 go_wp2_with fail
 go_ret2
 exact ⟨rfl,rfl⟩
theorem made_leftist:Calls Tryz.prog 65 #[v,.int .i64 0] w fun e w'=>e=.returned (.tuple #[.iface 164 v,.int .i64 0])∧w=w':=by
 go_enter Tryz.func65,Tryz.ntmps65
 go_wp2_with fail
 go_ret2
 exact ⟨rfl,rfl⟩
theorem made_skew:Calls Tryz.prog 67 #[v,.int .i64 0] w fun e w'=>e=.returned (.tuple #[.iface 168 v,.int .i64 0])∧w=w':=by
 go_enter Tryz.func67,Tryz.ntmps67
 go_wp2_with fail
 go_ret2
 exact ⟨rfl,rfl⟩
theorem made_shed:Calls Tryz.prog 69 #[v,.int .i64 0] w fun e w'=>e=.returned (.tuple #[.iface 172 v,.int .i64 0])∧w=w':=by
 go_enter Tryz.func69,Tryz.ntmps69
 go_wp2_with fail
 go_ret2
 exact ⟨rfl,rfl⟩
end
def NestNew (w:World) (k n:Nat) (e:Ending) (w':World):Prop :=
 ∃(F:List Nat) (p:Nat),e=.returned (.tuple #[.iface (nTy k) (.pointer (some ⟨p,0,none⟩)),.int .i64 0])∧nAt k w' F p n 0 (fun _=>none)∧Keeps [] w w'∧∀b∈F,w.heap.size<=b
section
variable (w:World) (a b:Int) (n:Nat)
theorem pq_open_nest (h:okC a b) (hn:n<=65536):Calls Tryz.prog 35 #[.agg #[.int .i64 a,.int .i64 b],.int .i64 n] w (NestNew w a.toNat n):=by
 obtain ⟨w0,hw0⟩:∃w0,w0=w.alloc (.cells #[.int .i64 a,.int .i64 b] 23 (0,0)):=⟨_,rfl⟩
 have k0:Keeps [] w w0:=by rw [hw0];exact (Keeps.refl _ _).alloc _
 have hb0:w0.heap[w.heap.size]?=some (.cells #[.int .i64 a,.int .i64 b] 23 (0,0)):=by rw [hw0];exact blk_alloc_new _
 have e0:w0.cell? ⟨w.heap.size,0,none⟩=some (.int .i64 a):=by rw [cell_of_blk hb0];rfl
 have e1:w0.cell? ⟨w.heap.size,1,none⟩=some (.int .i64 b):=by rw [cell_of_blk hb0];rfl
 have hfin:∀k w1 w2 (F:List Nat) p,nAt k w2 F p n 0 (fun _=>none)->Keeps [] w0 w1->Keeps [] w1 w2->(∀x∈F,w1.heap.size<=x)->NestNew w k n (.returned (.tuple #[.iface (nTy k) (.pointer (some ⟨p,0,none⟩)),.int .i64 0])) w2:=fun k w1 w2 F p hn2 k1 k2 hF =>
  ⟨F,p,rfl,hn2,(k0.trans k1 (by simp)).trans k2 (by simp),fun x hx=>Nat.le_trans (k0.trans k1 (by simp)).size (hF x hx)⟩
 have HF:=Lib.hid hfin
 have hor:a=1∨a=2∨a=3∨a=4∨a=5∨a=6∨a=7∨a=8:=by unfold okC at h;omega
 have HO:=Lib.hid h
 clear hfin k0 hb0 h
 go_enter Tryz.func35,Tryz.ntmps35
 go_upto_region 1 with fail
 rw [<-hw0]
 clear hw0
 rcases hor with rfl|rfl|rfl|rfl|rfl|rfl|rfl|rfl
 .have har:=arity_calls w0 1 b HO.out (by simp)
  go_wp2_with (first
   | (go_at_call 58;refine har.mono ?_;rintro e w1 ⟨⟨d,rfl,hd1,hd2⟩,k1⟩;have K1:=Lib.hid k1;clear k1)
   | (go_at_call 57;refine (dary_new w1 n d hn hd1 hd2).mono ?_;rintro e w2 ⟨F,p,rfl,hn2,k2,hF⟩;have H2:=Lib.hid (And.intro hn2 (And.intro k2 hF));clear hn2 k2 hF)
   | (go_at_call 56;refine (made_dary w2 _).mono ?_;rintro e w3 ⟨rfl,rfl⟩))
  go_ret2
  exact HF.out 1 w1 w2 F p H2.out.1 K1.out H2.out.2.1 H2.out.2.2
 .have har:=arity_calls w0 2 b HO.out (by simp)
  go_wp2_with (first
   | (go_at_call 58;refine har.mono ?_;rintro e w1 ⟨⟨d,rfl,hd1,hd2⟩,k1⟩;have K1:=Lib.hid k1;clear k1)
   | (go_at_call 57;refine (dary_new w1 n d hn hd1 hd2).mono ?_;rintro e w2 ⟨F,p,rfl,hn2,k2,hF⟩;have H2:=Lib.hid (And.intro hn2 (And.intro k2 hF));clear hn2 k2 hF)
   | (go_at_call 56;refine (made_dary w2 _).mono ?_;rintro e w3 ⟨rfl,rfl⟩))
  go_ret2
  exact HF.out 2 w1 w2 F p H2.out.1 K1.out H2.out.2.1 H2.out.2.2
 .go_wp2_with (first
   | (go_at_call 60;refine (bin_new w0 n hn).mono ?_;rintro e w2 ⟨F,p,rfl,hn2,k2,hF⟩;have H2:=Lib.hid (And.intro hn2 (And.intro k2 hF));clear hn2 k2 hF)
   | (go_at_call 59;refine (made_binomial w2 _).mono ?_;rintro e w3 ⟨rfl,rfl⟩))
  go_ret2
  exact HF.out 3 w0 w2 F p H2.out.1 (Keeps.refl _ _) H2.out.2.1 H2.out.2.2
 .go_wp2_with (first
   | (go_at_call 62;refine (pair_new w0 n hn).mono ?_;rintro e w2 ⟨F,p,rfl,hn2,k2,hF⟩;have H2:=Lib.hid (And.intro hn2 (And.intro k2 hF));clear hn2 k2 hF)
   | (go_at_call 61;refine (made_pairing w2 _).mono ?_;rintro e w3 ⟨rfl,rfl⟩))
  go_ret2
  exact HF.out 4 w0 w2 F p H2.out.1 (Keeps.refl _ _) H2.out.2.1 H2.out.2.2
 .go_wp2_with (first
   | (go_at_call 64;refine (fib_new w0 n hn).mono ?_;rintro e w2 ⟨F,p,rfl,hn2,k2,hF⟩;have H2:=Lib.hid (And.intro hn2 (And.intro k2 hF));clear hn2 k2 hF)
   | (go_at_call 63;refine (made_fibonacci w2 _).mono ?_;rintro e w3 ⟨rfl,rfl⟩))
  go_ret2
  exact HF.out 5 w0 w2 F p H2.out.1 (Keeps.refl _ _) H2.out.2.1 H2.out.2.2
 .go_wp2_with (first
   | (go_at_call 66;refine (left_new w0 n hn).mono ?_;rintro e w2 ⟨F,p,rfl,hn2,k2,hF⟩;have H2:=Lib.hid (And.intro hn2 (And.intro k2 hF));clear hn2 k2 hF)
   | (go_at_call 65;refine (made_leftist w2 _).mono ?_;rintro e w3 ⟨rfl,rfl⟩))
  go_ret2
  exact HF.out 6 w0 w2 F p H2.out.1 (Keeps.refl _ _) H2.out.2.1 H2.out.2.2
 .go_wp2_with (first
   | (go_at_call 68;refine (skew_new w0 n hn).mono ?_;rintro e w2 ⟨F,p,rfl,hn2,k2,hF⟩;have H2:=Lib.hid (And.intro hn2 (And.intro k2 hF));clear hn2 k2 hF)
   | (go_at_call 67;refine (made_skew w2 _).mono ?_;rintro e w3 ⟨rfl,rfl⟩))
  go_ret2
  exact HF.out 7 w0 w2 F p H2.out.1 (Keeps.refl _ _) H2.out.2.1 H2.out.2.2
 .go_wp2_with (first
   | (go_at_call 70;refine (shed_new w0 n hn).mono ?_;rintro e w2 ⟨F,p,rfl,hn2,k2,hF⟩;have H2:=Lib.hid (And.intro hn2 (And.intro k2 hF));clear hn2 k2 hF)
   | (go_at_call 69;refine (made_shed w2 _).mono ?_;rintro e w3 ⟨rfl,rfl⟩))
  go_ret2
  exact HF.out 8 w0 w2 F p H2.out.1 (Keeps.refl _ _) H2.out.2.1 H2.out.2.2
def StoreNew (w:World) (k n:Nat) (most:Int) (e:Ending) (w':World):Prop :=
 ∃(F:List Nat) (s:Nat),e=.returned (.tuple #[.pointer (some ⟨s,0,none⟩),.int .i64 0])∧StoreAt w' F s k n 0 (fun _=>none) 0 most (fun _=>0)∧Keeps [] w w'∧∀b∈F,w.heap.size<=b
theorem pq_open (most:Int) (h:okC a b) (hn:n<=65536) (hm1:1<=most) (hm2:most<=4294967295):Calls Tryz.prog 12 #[.agg #[.int .i64 a,.int .i64 b],.int .i64 n,.int .u32 most] w (StoreNew w a.toNat n most):=by
 obtain ⟨w0,hw0⟩:∃w0,w0=w.alloc (.cells #[.int .i64 a,.int .i64 b] 23 (0,0)):=⟨_,rfl⟩
 have k0:Keeps [] w w0:=by rw [hw0];exact (Keeps.refl _ _).alloc _
 have hb0:w0.heap[w.heap.size]?=some (.cells #[.int .i64 a,.int .i64 b] 23 (0,0)):=by rw [hw0];exact blk_alloc_new _
 have hcell:∀u,Keeps [] w0 u->u.cell? ⟨w.heap.size,0,none⟩=some (.int .i64 a)∧u.cell? ⟨w.heap.size,1,none⟩=some (.int .i64 b):=fun u k=>by
  have:=k.blk hb0 (by simp)
  exact ⟨by rw [cell_of_blk this];rfl,by rw [cell_of_blk this];rfl⟩
 have hc:=check_ok w0 a b h
 have hfin:∀w1 w2 w3 (Fa Fn:List Nat) pa pn,Keeps [] w0 w1->AreAt w2 Fa pa n most (fun _=>0) (fun _=>false)->Keeps [] w1 w2->(∀x∈Fa,w1.heap.size<=x)->nAt a.toNat w3 Fn pn n 0 (fun _=>none)->Keeps [] w2 w3->(∀x∈Fn,w2.heap.size<=x) ->
   StoreNew w a.toNat n most (.returned (.tuple #[.pointer (some ⟨w3.heap.size,0,none⟩),.int .i64 0])) (w3.alloc (.cells #[.int .i64 a,.int .i64 b,.pointer (some ⟨pa,0,none⟩),.iface (nTy a.toNat) (.pointer (some ⟨pn,0,none⟩)),.int .u64 0] 98 (0,0))):=by
  intro w1 w2 w3 Fa Fn pa pn k1 ha2 k2 hFa hn3 k3 hFn
  have kA:Keeps [] w3 (w3.alloc (.cells #[.int .i64 a,.int .i64 b,.pointer (some ⟨pa,0,none⟩),.iface (nTy a.toNat) (.pointer (some ⟨pn,0,none⟩)),.int .u64 0] 98 (0,0))):=(Keeps.refl _ _).alloc _
  have la:=ha2.lt
  have ln:=hn3.lt
  have s0:=k0.size
  have s1:=k1.size
  have s2:=k2.size
  have s3:=k3.size
  have e:(fun x=>((fun _=>none:Ent) x).isSome)=fun _=>false:=rfl
  refine ⟨_,w3.heap.size,rfl,⟨pa,pn,Fa,Fn,a,b,rfl,⟨blk_alloc_new _,(ha2.keep k3 (by simp)).keep kA (by simp),hn3.keep kA (by simp),fun e=>by have:=la _ e;omega,fun e=>by have:=ln _ e;omega,fun x hx e=>by have:=la x hx;have:=hFn x e;omega,by intro x h key m e;simp at e,by intro x y h key m h' key' e;simp at e,by simp⟩⟩,(((k0.trans k1 (by simp)).trans k2 (by simp)).trans k3 (by simp)).trans kA (by simp),fun x hx=>?_⟩
  simp only [List.mem_cons,List.mem_append] at hx
  rcases hx with e|e|e
  .omega
  .have:=hFa x e;omega
  .have:=hFn x e;omega
 have hop:=fun u=>pq_open_nest u a b n h hn
 have har:=fun u=>are_new u n most hn hm1 hm2
 have HF:=Lib.hid hfin
 have HC:=Lib.hid hcell
 obtain ⟨e0,e1⟩:=hcell w0 (Keeps.refl _ _)
 clear hfin k0 hb0 h hcell
 generalize a.toNat=kk at *
 go_enter Tryz.func12,Tryz.ntmps12
 go_upto_region 1 with fail
 rw [<-hw0]
 clear hw0
 go_wp2_with (first
  | (go_at_call 33;refine hc.mono ?_;rintro e w1 ⟨rfl,k1⟩;have K1:=Lib.hid k1;clear k1)
  | (go_at_call 34;refine (har w1).mono ?_;rintro e w2 ⟨Fa,pa,rfl,ha2,k2,hFa⟩;have H2:=Lib.hid (And.intro ha2 (And.intro k2 hFa));obtain ⟨z0,z1⟩:=HC.out w2 (K1.out.trans k2 (by simp));clear ha2 k2 hFa)
  | (go_at_call 35;refine (hop w2).mono ?_;rintro e w3 ⟨Fn,pn,rfl,hn3,k3,hFn⟩;have H3:=Lib.hid (And.intro hn3 (And.intro k3 hFn));obtain ⟨y0,y1⟩:=HC.out w3 ((K1.out.trans H2.out.2.1 (by simp)).trans k3 (by simp));clear z0 z1 hn3 k3 hFn))
 go_ret2
 exact HF.out w1 w2 w3 Fa Fn pa pn K1.out H2.out.1 H2.out.2.1 H2.out.2.2 H3.out.1 H3.out.2.1 H3.out.2.2
end
end Go.Proofs.YtkdbjelhkfdfjaaGreatDoor
namespace Go.Proofs.YtkdbjelhkfdfjaaGreatDoor
def remL (E:Ent) (o:List Nat):Ent:=fun x=>if x∈o then none else E x
theorem remL_nil (E:Ent):remL E []=E:=by funext x;simp [remL]
theorem remL_put (E:Ent) (o:List Nat) (x:Nat):put (remL E o) x none=remL E (o++[x]):=by
 funext y
 by_cases c:y=x
 .subst c;rw [put_same];simp [remL]
 .rw [put_other _ _ _ c];simp [remL,c]
theorem remL_in {E:Ent} {o:List Nat} {h x:Nat}:isIn (remL E o) h x↔isIn E h x∧x∉o:=by
 unfold isIn remL
 by_cases c:x∈o<;>simp [c]
theorem remL_at {E:Ent} {o:List Nat} {x:Nat} (h:x∉o):remL E o x=E x:=by simp [remL,h]
theorem remL_ahead {E:Ent} {o:List Nat} {x y:Nat} (hx:x∉o) (hy:y∉o):ahead (remL E o) x y=ahead E x y:=by
 simp [ahead,remL_at hx,remL_at hy]
structure Drn (E:Ent) (h:Nat) (o:List Nat):Prop where
 nd:o.Nodup
 mem:∀x∈o,isIn E h x
 srt:o.Pairwise fun x y=>ahead E x y=true
 rest:∀x∈o,∀y,isIn E h y->y∉o->ahead E x y=true
section
variable {E:Ent} {h x:Nat} {o:List Nat}
theorem Drn.nil (E:Ent) (h:Nat):Drn E h []:=⟨by simp,by simp,by simp,by simp⟩
theorem Drn.step (d:Drn E h o) (hl:least (remL E o) h x):Drn E h (o++[x]):=by
 obtain ⟨h1,h2⟩:=hl
 obtain ⟨h3,h4⟩:=remL_in.1 h1
 refine ⟨?_,fun y hy=>?_,?_,fun y hy z hz hzo=>?_⟩
 .rw [List.nodup_append]
  exact ⟨d.nd,by simp,fun a ha b hb e=>by simp only [List.mem_singleton] at hb;subst hb;exact h4 (e ▸ ha)⟩
 .rcases List.mem_append.1 hy with c|c
  .exact d.mem y c
  .simp only [List.mem_singleton] at c;subst c;exact h3
 .rw [List.pairwise_append]
  exact ⟨d.srt,by simp,fun a ha b hb=>by simp only [List.mem_singleton] at hb;subst hb;exact d.rest a ha b h3 h4⟩
 .simp only [List.mem_append,List.mem_singleton,not_or] at hzo
  rcases List.mem_append.1 hy with c|c
  .exact d.rest y c z hz hzo.1
  .simp only [List.mem_singleton] at c;subst c
   have:=h2 z (remL_in.2 ⟨hz,hzo.1⟩) hzo.2
   rw [remL_ahead h4 hzo.1] at this;exact this
theorem Drn.all (d:Drn E h o) (hn:∀y,¬isIn (remL E o) h y):∀y,y∈o↔isIn E h y:=fun y=>by
 constructor
 .exact d.mem y
 .intro hy
  by_cases c:y∈o
  .exact c
  .exact absurd (remL_in.2 ⟨hy,c⟩) (hn y)
end
def keyE (E:Ent) (x:Nat):Int:=match E x with|some (_,k,_)=>k|none=>0
def seqE (E:Ent) (x:Nat):Nat:=match E x with|some (_,_,n)=>n|none=>0
theorem keyE_some {E:Ent} {x h n:Nat} {k:Int} (e:E x=some (h,k,n)):keyE E x=k:=by simp [keyE,e]
theorem seqE_some {E:Ent} {x h n:Nat} {k:Int} (e:E x=some (h,k,n)):seqE E x=n:=by simp [seqE,e]
structure Filled (E:Ent) (h:Nat) (keys:List Int):Prop where
 has:∀(i:Nat) k,keys[i]?=some k->∃x,E x=some (h,k,i+1)
 only:∀x g k n,E x=some (g,k,n)->g=h∧∃i:Nat,n=i+1∧keys[i]?=some k
def Sorted (keys:List Int) (l:List Nat):Prop:=l.Pairwise (fun i j=>kLess (keys.getD i 0,i) (keys.getD j 0,j)=true)∧∀i,i∈l↔i<keys.length
theorem kLess_asym {a b:Int×Nat} (h1:kLess a b=true):kLess b a=false:=by
 cases c:kLess b a with
 | false=>rfl
 | true=>rw [kLess_iff] at h1 c;omega
theorem pairwise_eq {α:Type} (r:α->α->Prop) (ha:∀a b,r a b->¬r b a):∀(l m:List α),l.Pairwise r->m.Pairwise r->(∀x,x∈l↔x∈m)->l=m:=by
 intro l
 induction l with
 | nil =>
  intro m _ _ h
  cases m with
  | nil=>rfl
  | cons b m=>exact absurd ((h b).2 (by simp)) (by simp)
 | cons a l ih =>
  intro m hl hm h
  cases m with
  | nil=>exact absurd ((h a).1 (by simp)) (by simp)
  | cons b m =>
   rw [List.pairwise_cons] at hl hm
   have e:a=b:=by
    rcases List.mem_cons.1 ((h a).1 (by simp)) with c|c
    .exact c
    .rcases List.mem_cons.1 ((h b).2 (by simp)) with d|d
     .exact d.symm
     .exact absurd (hl.1 b d) (ha _ _ (hm.1 a c))
   subst e
   have ir:¬r a a:=fun c=>ha a a c c
   rw [ih m hl.2 hm.2 fun x=>?_]
   constructor
   .intro hx
    rcases List.mem_cons.1 ((h x).1 (by simp [hx])) with c|c
    .subst c;exact absurd (hl.1 _ hx) ir
    .exact c
   .intro hx
    rcases List.mem_cons.1 ((h x).2 (by simp [hx])) with c|c
    .subst c;exact absurd (hm.1 _ hx) ir
    .exact c
theorem Sorted.one {keys:List Int} {l m:List Nat} (h1:Sorted keys l) (h2:Sorted keys m):l=m :=
 pairwise_eq _ (fun a b h c=>by rw [kLess_asym h] at c;cases c) l m h1.1 h2.1 fun x=>by rw [h1.2,h2.2]
theorem Sorted.length {keys:List Int} {l:List Nat} (h:Sorted keys l):l.length=keys.length:=by
 have hnd:l.Nodup:=h.1.imp fun {a b} c e=>by subst e;rw [kLess_iff] at c;omega
 have:=((List.perm_ext_iff_of_nodup hnd List.nodup_range).2 (fun x=>by rw [h.2,List.mem_range])).length_eq (l₂:=List.range keys.length)
 simpa using this
theorem Drn.sorted {E:Ent} {h:Nat} {o:List Nat} {keys:List Int} (d:Drn E h o) (ha:∀y,y∈o↔isIn E h y) (f:Filled E h keys) (uq:∀x y h key n h' key',E x=some (h,key,n)->E y=some (h',key',n)->x=y) :
  Sorted keys (o.map fun x=>seqE E x - 1)∧o.map (keyE E)=(o.map fun x=>seqE E x - 1).map fun i=>keys.getD i 0:=by
 have hx:∀x∈o,∃i k,E x=some (h,k,i+1)∧keys[i]?=some k:=fun x hxo=>by
  obtain ⟨⟨k,n⟩,e⟩:=(ha x).1 hxo
  obtain ⟨_,i,rfl,hk⟩:=f.only x h k n e
  exact ⟨i,k,e,hk⟩
 refine ⟨⟨?_,fun i=>?_⟩,?_⟩
 .rw [List.pairwise_map]
  refine List.Pairwise.imp_of_mem ?_ d.srt
  intro x y hxo hyo hxy
  obtain ⟨i,k,e,hk⟩:=hx x hxo
  obtain ⟨j,l,e',hl⟩:=hx y hyo
  rw [seqE_some e,seqE_some e']
  obtain ⟨g,a,g',b,q1,q2,q3⟩:=ahead_iff.1 hxy
  rw [e] at q1;rw [e'] at q2
  cases q1;cases q2
  have hd1:keys.getD i 0=k:=by simp [List.getD,hk]
  have hd2:keys.getD j 0=l:=by simp [List.getD,hl]
  rw [kLess_iff]
  simp only [Nat.add_sub_cancel,hd1,hd2]
  simp only at q3
  rcases q3 with q3|⟨q3,q4|⟨q4,q5⟩⟩
  .exact .inl q3
  .exact .inr ⟨q3,by omega⟩
  .obtain rfl:i=j:=by omega
   exact absurd (uq x y _ _ _ _ _ e e') (ahead_ne hxy)
 .rw [List.mem_map]
  constructor
  .rintro ⟨x,hxo,rfl⟩
   obtain ⟨i,k,e,hk⟩:=hx x hxo
   rw [seqE_some e]
   exact (List.getElem?_eq_some_iff.1 hk).1
  .intro hi
   obtain ⟨x,e⟩:=f.has i _ (List.getElem?_eq_getElem hi)
   exact ⟨x,(ha x).2 ⟨_,e⟩,by rw [seqE_some e];rfl⟩
 .rw [List.map_map]
  refine List.map_congr_left fun x hxo=>?_
  obtain ⟨i,k,e,hk⟩:=hx x hxo
  simp only [Function.comp,keyE_some e,seqE_some e,Nat.add_sub_cancel]
  simp [List.getD,hk]
end Go.Proofs.YtkdbjelhkfdfjaaGreatDoor
namespace Go.Proofs.YtkdbjelhkfdfjaaGreatDoor
open Go.RowKit
def RankNew (w:World) (k n m:Nat) (e:Ending) (w':World):Prop :=
 ∃(F:List Nat) (s:Nat),e=.returned (.tuple #[.pointer (some ⟨s,0,none⟩),.int .i64 0])∧StoreAt w' F s k n m (fun _=>none) 0 4294967295 (fun _=>0)∧Keeps [] w w'∧∀b∈F,w.heap.size<=b
section
variable (w:World) (a b:Int) (n m:Nat)
theorem rank_open (h:okC a b) (hn:n<=65536) (hm:m<=1000):Calls Tryz.prog 24 #[.agg #[.int .i64 a,.int .i64 b],.int .i64 n,.int .i64 m] w (RankNew w a.toNat n m):=by
 obtain ⟨w0,hw0⟩:∃w0,w0=w.alloc (.cells #[.int .i64 a,.int .i64 b] 23 (0,0)):=⟨_,rfl⟩
 have k0:Keeps [] w w0:=by rw [hw0];exact (Keeps.refl _ _).alloc _
 have hb0:w0.heap[w.heap.size]?=some (.cells #[.int .i64 a,.int .i64 b] 23 (0,0)):=by rw [hw0];exact blk_alloc_new _
 have hcell:∀u,Keeps [] w0 u->u.cell? ⟨w.heap.size,0,none⟩=some (.int .i64 a)∧u.cell? ⟨w.heap.size,1,none⟩=some (.int .i64 b):=fun u k=>by
  have:=k.blk hb0 (by simp)
  exact ⟨by rw [cell_of_blk this];rfl,by rw [cell_of_blk this];rfl⟩
 have hc:=check_ok w0 a b h
 have hop:=fun u=>pq_open u a b n 4294967295 h hn (by omega) (by omega)
 have HC:=Lib.hid hcell
 obtain ⟨e0,e1⟩:=hcell w0 (Keeps.refl _ _)
 have hn3:¬(65536:Int)<(n:Int):=by omega
 have K0:=Lib.hid k0
 clear k0 hb0 h hcell
 generalize a.toNat=kk at *
 go_enter Tryz.func24,Tryz.ntmps24
 go_upto_region 1 with fail
 rw [<-hw0]
 clear hw0
 go_wp2_with (first
  | (go_at_call 33;refine hc.mono ?_;rintro e w1 ⟨rfl,k1⟩;have K1:=Lib.hid k1;obtain ⟨z0,z1⟩:=HC.out w1 k1;clear k1 e0 e1)
  | (go_at_call 12;refine (hop w1).mono ?_;rintro e w2 ⟨F,s,rfl,st,k2,hF⟩;have ST:=Lib.hid st;have K2:=Lib.hid k2;have HF:=Lib.hid hF;clear st k2 hF z0 z1))
 go_loopg [25] (m+1) (fun j t wr=>∃(i:Nat) (F':List Nat),j+i=m+1∧i<=m∧t=.int .i64 i∧StoreAt wr F' s kk n i (fun _=>none) 0 4294967295 (fun _=>0)∧Keeps [] w wr∧∀x∈F',w.heap.size<=x)
 case atStart=>exact ⟨0,F,by omega,by omega,rfl,ST.out,(K0.out.trans K1.out (by simp)).trans K2.out (by simp),fun x hx=>Nat.le_trans (K0.out.trans K1.out (by simp)).size (HF.out x hx)⟩
 case round =>
  clear ST K2 HF hc hop
  obtain ⟨i,F',hk,hin,rfl,st,kp,hF⟩:=hrel
  have HK:=Lib.hid hk
  clear hk
  by_cases hi:i<m
  .have hnh:=pq_newheap wr F' s kk n i _ 0 4294967295 _ st (by omega)
   have hi3:(i:Int)<(m:Int):=by omega
   have hfin:∀e w3,HeapDone wr F' s kk n i (fun _=>none) 0 4294967295 (fun _=>0) e w3->∃F'',StoreAt w3 F'' s kk n (i+1) (fun _=>none) 0 4294967295 (fun _=>0)∧Keeps [] w w3∧∀x∈F'',w.heap.size<=x:=by
    rintro e w3 ⟨_,F'',a1,a2⟩
    have:=kp.size
    refine ⟨F'',a1,kp.trans a2.keeps (fun x hx=>.inr (hF x hx)),fun x hx=>?_⟩
    rcases a2.from' x hx with c|c
    .exact hF x c
    .omega
   have HF:=Lib.hid hfin
   clear hfin st kp hF
   go_wp2_with (go_at_call 13;refine hnh.mono ?_;intro e w3 hd;have H3:=Lib.hid (HF.out e w3 hd);obtain ⟨rfl,_⟩:=hd)
   go_roundg (gk - 1)
   case measure=>have:=HK.out;omega
   case rel =>
    obtain ⟨F'',a1,a2,a3⟩:=H3.out
    exact ⟨i+1,F'',by have:=HK.out;omega,by omega,by go_num,a1,a2,a3⟩
  .obtain rfl:i=m:=by omega
   have ST:=Lib.hid st
   have KP:=Lib.hid kp
   have HF:=Lib.hid hF
   clear st kp hF
   go_wp2_with fail
   go_ret2
   exact ⟨F',s,rfl,ST.out,KP.out,HF.out⟩
end
def keysV (l:List Int):List Value:=l.map fun k=>.int .i64 k
def KRow (B:Nat) (w:World) (v:Value) (l:List Int):Prop:=w.ownsRow B 2 1 v l.length (keysV l)
theorem StoreAt.uq {w:World} {F:List Nat} {s k cap hs q:Nat} {most:Int} {E:Ent} {G:Nat->Nat} (h:StoreAt w F s k cap hs E q most G):∀x y h key n h' key',E x=some (h,key,n)->E y=some (h',key',n)->x=y:=by
 obtain ⟨pa,pn,Fa,Fn,c1,c2,rfl,st⟩:=h;exact st.uq
structure FillP (E:Ent) (G:Nat->Nat) (cap h:Nat) (keys:List Int):Prop where
 fl:Filled E h keys
 ct:count E cap h=keys.length
 g0:∀x,E x=none->G x=0
 g1:∀x,E x≠none->G x=1
theorem FillP.empty (cap h:Nat):FillP (fun _=>none) (fun _=>0) cap h [] :=
 ⟨⟨by simp,by simp⟩,count_zero.2 (fun x _ hx=>by obtain ⟨k,e⟩:=hx;cases e),by simp,by simp⟩
section
variable {E:Ent} {G:Nat->Nat} {cap h:Nat} {keys:List Int}
theorem FillP.room (f:FillP E G cap h keys) (hn:keys.length<cap):∃x,x<cap∧E x=none∧G x=0:=by
 refine Classical.byContradiction fun hc=>?_
 have hall:∀x,x<cap->isIn E h x:=fun x hx=>by
  cases he:E x with
  | none=>exact absurd ⟨x,hx,he,f.g0 x he⟩ hc
  | some p =>
   obtain ⟨g,k,n⟩:=p
   obtain ⟨rfl,_⟩:=f.fl.only x g k n he
   exact ⟨_,he⟩
 have:count E cap h=cap:=by
  unfold count
  rw [List.filter_eq_self.2 (fun x hx=>by simpa using hall x (List.mem_range.1 hx))]
  simp
 have:=f.ct
 omega
theorem FillP.step (f:FillP E G cap h keys) {i:Nat} (hi:i<cap) (he:E i=none) (key:Int):FillP (put E i (some (h,key,keys.length+1))) (upd G i (G i+1)) cap h (keys++[key]):=by
 refine ⟨⟨fun j k hj=>?_,fun x g k n e=>?_⟩,?_,fun x e=>?_,fun x e=>?_⟩
 .by_cases c:j<keys.length
  .rw [List.getElem?_append_left c] at hj
   obtain ⟨x,hx⟩:=f.fl.has j k hj
   exact ⟨x,by rw [put_other _ _ _ (fun e=>by rw [e,he] at hx;cases hx)];exact hx⟩
  .rw [List.getElem?_append_right (by omega)] at hj
   have hj0:j=keys.length:=by
    rcases Nat.lt_or_ge 0 (j - keys.length) with c'|c'
    .rw [List.getElem?_eq_none (by simp;omega)] at hj;cases hj
    .omega
   subst hj0
   simp at hj;subst hj
   exact ⟨i,put_same _ _ _⟩
 .by_cases c:x=i
  .subst c;rw [put_same] at e;cases e
   exact ⟨rfl,keys.length,rfl,by simp⟩
  .rw [put_other _ _ _ c] at e
   obtain ⟨a,j,b,d⟩:=f.fl.only x g k n e
   exact ⟨a,j,b,by rw [List.getElem?_append_left (List.getElem?_eq_some_iff.1 d).1];exact d⟩
 .rw [count_in hi he,f.ct];simp
 .by_cases c:x=i
  .subst c;rw [put_same] at e;cases e
  .rw [put_other _ _ _ c] at e;rw [upd_other _ _ c];exact f.g0 x e
 .by_cases c:x=i
  .subst c;rw [upd_same,f.g0 x he]
  .rw [put_other _ _ _ c] at e;rw [upd_other _ _ c];exact f.g1 x e
def numF (E:Ent) (x g:Nat):Option Nat:=if g=1 then (E x).map (fun p=>p.2.2 - 1) else none
theorem numF_put {i:Nat} (he:E i=none) (key:Int) (n:Nat):numF (put E i (some (h,key,n+1)))=fun u v=>if u=i∧v=1 then some n else numF E u v:=by
 funext u v
 unfold numF
 by_cases c:v=1
 .by_cases d:u=i
  .subst d;simp [c,put_same]
  .simp [c,d,put_other _ _ _ d]
 .simp [c]
theorem numF_some {x n:Nat} {k:Int} (e:E x=some (h,k,n)):numF E x 1=some (n - 1):=by simp [numF,e]
theorem numF_ok (hc:∀x,(E x).isSome->x<cap) (hcap:cap<=65536):∀x g,numF E x g≠none->okH x g:=by
 intro x g hn
 unfold numF at hn
 by_cases c:g=1
 .simp only [c,if_true] at hn
  have:(E x).isSome:=by cases he:E x with|none=>rw [he] at hn;exact absurd rfl hn|some _=>rfl
  have:=hc x this
  exact ⟨by omega,by omega⟩
 .simp [c] at hn
end
def FillS (w:World) (F:List Nat) (s k cap hs:Nat) (most:Int) (keys:List Int) (E:Ent) (G:Nat->Nat):Prop :=
 StoreAt w F s k cap hs E keys.length most G∧FillP E G cap 1 keys
def KIn (w:World) (v:Value) (keys:List Int):Prop :=
 (∃ao ca,v=.slice ao keys.length ca)∧∀(i:Nat) x,keys[i]?=some x->(Lit.int .i64 x).wf=true∧∃g off ca,v=.slice (some ⟨g,off,none⟩) keys.length ca∧w.cell? ⟨g,off+i,none⟩=some (.int .i64 x)
theorem KIn.keep {w w':World} {v:Value} {keys:List Int} {S:List Nat} (h:KIn w v keys) (k:Keeps S w w') (hS:∀b∈S,w.heap.size<=b):KIn w' v keys:=by
 refine ⟨h.1,fun i x hx=>?_⟩
 obtain ⟨h0,g,off,ca,h1,h2⟩:=h.2 i x hx
 have hb:=World.block_lt_of_cell? w _ h2
 exact ⟨h0,g,off,ca,h1,by rw [World.cell?_of_block (a:=⟨g,off+i,none⟩) (k.block g hb (fun e=>by have:=hS g e;simp at hb;omega))];exact h2⟩
def natV (l:List Nat):List Value:=l.map fun (n:Nat)=>.int .i64 (n:Int)
def NRow (B:Nat) (w:World) (v:Value) (l:List Nat):Prop:=w.ownsRow B 3 1 v l.length (natV l)
theorem NRow.nil (B:Nat) (w:World):NRow B w (.slice none 0 0) []:=⟨by simp [natV],.inl ⟨rfl,rfl⟩⟩
section
variable {w w':World} {B:Nat} {v:Value} {l:List Nat} {S:List Nat}
theorem NRow.keep (h:NRow B w v l) (k:Keeps S w w') (hS:∀b,v.ownBlock=some b->b∉S):NRow B w' v l:=by
 refine ⟨h.1,?_⟩
 rcases h.2 with h0|⟨g,cap',cur,e,hb,hg,r⟩
 .exact .inl h0
 .exact .inr ⟨g,cap',cur,e,hb,k.blk hg (hS g (by rw [e];simp [Value.ownBlock])),r⟩
theorem NRow.own (h:NRow B w v l):∀b,v.ownBlock=some b->B<=b∧b<w.heap.size:=by
 intro b e
 rcases h.2 with ⟨h0,_⟩|⟨g,cap',cur,e',hb,hg,r⟩
 .rw [h0] at e;cases e
 .rw [e'] at e;simp [Value.ownBlock] at e;subst e;exact ⟨hb,lt_of_block hg⟩
theorem NRow.form (h:NRow B w v l):∃ao cap,v=.slice ao l.length cap:=by
 rcases h.2 with ⟨rfl,h0⟩|⟨g,cap',cur,rfl,_⟩
 .exact ⟨none,0,by rw [h0]⟩
 .exact ⟨_,_,rfl⟩
theorem NRow.at {ao:Option Addr} {n ca i:Nat} {x:Nat} (h:NRow B w (.slice ao n ca) l) (hi:l[i]?=some x):∃g,ao=some ⟨g,0,none⟩∧B<=g∧w.cell? ⟨g,i,none⟩=some (.int .i64 (x:Int)):=by
 have hl:=(List.getElem?_eq_some_iff.1 hi).1
 have h':=h
 rcases h.2 with ⟨_,h0⟩|⟨g,cap',cur,e,hb,hg,_⟩
 .omega
 .cases e
  refine ⟨g,rfl,hb,?_⟩
  rw [World.ownsRow.cellAt h' i (by omega)]
  simp [natV,hi]
theorem NRow.lo {C:Nat} (h:NRow B w v l) (hc:C<=B):NRow C w v l:=by
 refine ⟨h.1,?_⟩
 rcases h.2 with h0|⟨g,cap',cur,e,hb,r⟩
 .exact .inl h0
 .exact .inr ⟨g,cap',cur,e,Nat.le_trans hc hb,r⟩
theorem NRow.pushed {g ca:Nat} {x:Nat} (h:w.ownsRow 0 3 1 (.slice (some ⟨g,0,none⟩) (l.length+1) ca) (l.length+1) (natV l++[.int .i64 (x:Int)])) (hg:B<=g):NRow B w (.slice (some ⟨g,0,none⟩) (l.length+1) ca) (l++[x]):=by
 unfold NRow
 have e:natV (l++[x])=natV l++[.int .i64 (x:Int)]:=by simp [natV]
 rw [e,List.length_append]
 refine ⟨h.1,?_⟩
 rcases h.2 with ⟨h0,_⟩|⟨g',cap,cur,e,hb,r⟩
 .cases h0
 .cases e;exact .inr ⟨g,ca,cur,rfl,hg,r⟩
end
theorem KRow.nil (B:Nat) (w:World):KRow B w (.slice none 0 0) []:=⟨by simp [keysV],.inl ⟨rfl,rfl⟩⟩
end Go.Proofs.YtkdbjelhkfdfjaaGreatDoor

