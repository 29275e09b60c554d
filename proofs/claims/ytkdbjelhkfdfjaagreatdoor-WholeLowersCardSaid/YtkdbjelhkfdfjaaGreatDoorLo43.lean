/-
  Contracts that the law rests on. Conditions: none.
-/
import Derived.Test.YtkdbjelhkfdfjaaGreatDoorLo37
import Derived.Test.YtkdbjelhkfdfjaaGreatDoorLo39
import Derived.Test.YtkdbjelhkfdfjaaGreatDoorLo40
import Derived.Test.YtkdbjelhkfdfjaaGreatDoorLo42
set_option linter.unusedVariables false
set_option maxRecDepth 100000
set_option maxHeartbeats 32000000
namespace Go.Proofs.YtkdbjelhkfdfjaaGreatDoor
open Go.RowKit
section
variable (k:Nat) (w:World) (F:List Nat) (p cap hs:Nat) (E:Ent)
theorem n_decrease (c:nAt k w F p cap hs E) (x h q:Nat) (l l':Int) (he:E x=some (h,l,q)) (hk:l'<=l) (hw:(Lit.int .i64 l').wf=true) :
  ∃fn,(∀u,(method 588 (nTy k) (.pointer (some ⟨p,0,none⟩)) "Decrease").run Tryz.prog u=.ok (fn,.pointer (some ⟨p,0,none⟩)) u)∧(∀args u,(callFunc fn args).run Tryz.prog u=.ok (.enter fn args) u) ∧
   Calls Tryz.prog fn #[.pointer (some ⟨p,0,none⟩),.int .i64 x,.agg #[.int .i64 l',.int .u64 (q:Int)]] w fun e w'=>e=.returned (.bool true)∧nAft k w F p cap hs (put E x (some (h,l',q))) w':=by
 unfold nAft nAt at *
 unfold nTy
 split at c
 .refine ⟨340,fun u=>by kernel_rfl,fun args u=>run_enter (by kernel_rfl) args u,(bin_decrease w F p cap hs E c x h q l l' he hk hw).mono ?_⟩
  rintro e w' ⟨rfl,F',a,b⟩
  exact ⟨rfl,F',a,b⟩
 .refine ⟨370,fun u=>by kernel_rfl,fun args u=>run_enter (by kernel_rfl) args u,(pair_decrease w F p cap hs E c x h q l l' he hk hw).mono ?_⟩
  rintro e w' ⟨rfl,a,b⟩
  exact ⟨rfl,F,a,b,fun b' hb=>.inl hb,a.lt⟩
 .refine ⟨381,fun u=>by kernel_rfl,fun args u=>run_enter (by kernel_rfl) args u,(fib_decrease w F p cap hs E c x h q l l' he hk hw).mono ?_⟩
  rintro e w' ⟨rfl,a,b⟩
  exact ⟨rfl,F,a,b,fun b' hb=>.inl hb,a.lt⟩
 .refine ⟨400,fun u=>by kernel_rfl,fun args u=>run_enter (by kernel_rfl) args u,(left_decrease w F p cap hs E c x h q l l' he hk hw).mono ?_⟩
  rintro e w' ⟨rfl,a,b⟩
  exact ⟨rfl,F,a,b,fun b' hb=>.inl hb,a.lt⟩
 .refine ⟨423,fun u=>by kernel_rfl,fun args u=>run_enter (by kernel_rfl) args u,(skew_decrease w F p cap hs E c x h q l l' he hk hw).mono ?_⟩
  rintro e w' ⟨rfl,a,b⟩
  exact ⟨rfl,F,a,b,fun b' hb=>.inl hb,a.lt⟩
 .refine ⟨433,fun u=>by kernel_rfl,fun args u=>run_enter (by kernel_rfl) args u,(shed_decrease w F p cap hs E c x h q l l' he hk hw).mono ?_⟩
  rintro e w' ⟨rfl,F',a,b⟩
  exact ⟨rfl,F',a,b⟩
 .refine ⟨297,fun u=>by kernel_rfl,fun args u=>run_enter (by kernel_rfl) args u,(dary_decrease w F p cap hs E c x h q l l' he hk hw).mono ?_⟩
  rintro e w' ⟨rfl,F',a,b⟩
  exact ⟨rfl,F',a,b⟩
theorem n_delete (c:nAt k w F p cap hs E) (x h:Nat) (hx:isIn E h x) :
  ∃fn,(∀u,(method 588 (nTy k) (.pointer (some ⟨p,0,none⟩)) "Delete").run Tryz.prog u=.ok (fn,.pointer (some ⟨p,0,none⟩)) u)∧(∀args u,(callFunc fn args).run Tryz.prog u=.ok (.enter fn args) u) ∧
   Calls Tryz.prog fn #[.pointer (some ⟨p,0,none⟩),.int .i64 x] w fun e w'=>e=.returned (.bool true)∧nAft k w F p cap hs (put E x none) w':=by
 unfold nAft nAt at *
 unfold nTy
 split at c
 .refine ⟨341,fun u=>by kernel_rfl,fun args u=>run_enter (by kernel_rfl) args u,(bin_delete w F p cap hs E c x h hx).mono ?_⟩
  rintro e w' ⟨rfl,F',a,b⟩
  exact ⟨rfl,F',a,b⟩
 .refine ⟨371,fun u=>by kernel_rfl,fun args u=>run_enter (by kernel_rfl) args u,(pair_delete_any w F p cap hs E c h x hx).mono ?_⟩
  rintro e w' ⟨rfl,a,b⟩
  exact ⟨rfl,F,a,b,fun b' hb=>.inl hb,a.lt⟩
 .refine ⟨382,fun u=>by kernel_rfl,fun args u=>run_enter (by kernel_rfl) args u,(fib_delete w F p cap hs E c x h hx).mono ?_⟩
  rintro e w' ⟨rfl,a,b⟩
  exact ⟨rfl,F,a,b,fun b' hb=>.inl hb,a.lt⟩
 .refine ⟨401,fun u=>by kernel_rfl,fun args u=>run_enter (by kernel_rfl) args u,(left_delete_any w F p cap hs E c h x hx).mono ?_⟩
  rintro e w' ⟨rfl,a,b⟩
  exact ⟨rfl,F,a,b,fun b' hb=>.inl hb,a.lt⟩
 .refine ⟨424,fun u=>by kernel_rfl,fun args u=>run_enter (by kernel_rfl) args u,(skew_delete_any w F p cap hs E c h x hx).mono ?_⟩
  rintro e w' ⟨rfl,a,b⟩
  exact ⟨rfl,F,a,b,fun b' hb=>.inl hb,a.lt⟩
 .refine ⟨434,fun u=>by kernel_rfl,fun args u=>run_enter (by kernel_rfl) args u,(shed_delete w F p cap hs E c h x hx).mono ?_⟩
  rintro e w' ⟨rfl,F',a,b⟩
  exact ⟨rfl,F',a,b⟩
 .refine ⟨298,fun u=>by kernel_rfl,fun args u=>run_enter (by kernel_rfl) args u,(dary_delete w F p cap hs E c h x hx).mono ?_⟩
  rintro e w' ⟨rfl,F',a,b⟩
  exact ⟨rfl,F',a,b⟩
end
section
variable {w w2 w3:World} {Fa Fn Fa' Fn':List Nat} {s pa pn k cap hs q x:Nat} {d1 d2 most:Int} {E:Ent} {G:Nat->Nat}
theorem StoreQ.gone (st:StoreQ w s pa pn Fa Fn d1 d2 k cap hs E q most G) (hn2:nAt k w2 Fn' pn cap hs (put E x none)) (hm2:Moved Fn w Fn' w2) (ha3:AreAt w3 Fa' pa cap most G (upd (fun y=>(E y).isSome) x false)) (hm3:Moved Fa w2.drew Fa' w3) :
  StoreQ w3 s pa pn Fa' Fn' d1 d2 k cap hs (put E x none) q most G∧Moved (s::(Fa++Fn)) w (s::(Fa'++Fn')) w3:=by
 have lA:=st.lt
 have b2:=hm2.keeps.blk st.blk st.sn
 have kd:Keeps [] w2 w2.drew:=⟨rfl,rfl,rfl,Nat.le_refl _,fun _ _ _=>rfl⟩
 have k23:Keeps Fa w2 w3:=(kd.mono (T:=Fa) (by simp)).trans hm3.keeps (fun b hb=>.inl hb)
 have s2:=hm2.keeps.size
 have ln2:=hn2.lt
 have hFn':∀b,b∉Fn->b<w.heap.size->b∉Fn':=fun b a1 a2 a3=>by
  rcases hm2.from' b a3 with c|c
  .exact a1 c
  .omega
 have hFa':∀b,b∉Fa->b<w2.heap.size->b∉Fa':=fun b a1 a2 a3=>by
  rcases hm3.from' b a3 with c|c
  .exact a1 c
  .have:w2.heap.size<=b:=c;omega
 have anf:∀b∈Fa,b∉Fn':=fun b hb=>hFn' b (st.an b hb) (lA b (by simp [hb]))
 have hq3:StoreQ w3 s pa pn Fa' Fn' d1 d2 k cap hs (put E x none) q most G:=by
  refine ⟨k23.blk b2 st.sa,?_,hn2.keep k23 (fun b hb e=>anf b e hb),hFa' s st.sa (lt_of_block b2),hFn' s st.sn (lA s (by simp)),fun b hb=>?_,fun y g kk m e=>?_,fun y z g kk m g' kk' e e'=>?_,st.gq⟩
  .have e:(fun y=>(put E x none y).isSome)=upd (fun y=>(E y).isSome) x false:=by
    funext y
    by_cases c:y=x
    .subst c;rw [put_same,upd_same];rfl
    .rw [put_other _ _ _ c,upd_other _ _ c]
   rw [e];exact ha3
  .rcases hm3.from' b hb with c|c
   .exact anf b c
   .intro f;have:=ln2 b f;have:w2.heap.size<=b:=c;omega
  .by_cases c:y=x
   .subst c;rw [put_same] at e;cases e
   .rw [put_other _ _ _ c] at e;exact st.sq y g kk m e
  .by_cases c:y=x
   .subst c;rw [put_same] at e;cases e
   .by_cases d:z=x
    .subst d;rw [put_same] at e';cases e'
    .rw [put_other _ _ _ c] at e;rw [put_other _ _ _ d] at e';exact st.uq y z g kk m g' kk' e e'
 refine ⟨hq3,(hm2.keeps.mono fun b hb=>.inl (by simp [hb])).trans k23 (fun b hb=>.inl (by simp [hb])),fun b hb=>?_,hq3.lt⟩
 simp only [List.mem_cons,List.mem_append] at hb ⊢
 rcases hb with e|e|e
 .exact .inl (.inl e)
 .rcases hm3.from' b e with c|c
  .exact .inl (.inr (.inl c))
  .have:w2.heap.size<=b:=c
   exact .inr (by omega)
 .rcases hm2.from' b e with c|c
  .exact .inl (.inr (.inr c))
  .exact .inr c
end
section
variable (w:World) (F:List Nat) (s k cap hs:Nat) (E:Ent) (q:Nat) (most:Int) (G:Nat->Nat)
def DecDone (x h n:Nat) (key':Int) (e:Ending) (w':World):Prop:=e=.returned (.int .i64 0)∧∃F',StoreAt w' F' s k cap hs (put E x (some (h,key',n))) q most G∧Moved F w F' w'
theorem pq_decrease_yes (c:StoreAt w F s k cap hs E q most G) (x h n:Nat) (key key':Int) (he:E x=some (h,key,n)) (hk:key'<=key) (hw:(Lit.int .i64 key').wf=true) :
  Calls Tryz.prog 19 #[.pointer (some ⟨s,0,none⟩),.agg #[.int .i64 x,.int .u32 (G x:Nat)],.int .i64 key'] w (DecDone w F s k cap hs E q most G x h n key'):=by
 obtain ⟨w0,hw0⟩:∃w0,w0=w.alloc (.cells #[.int .i64 (x:Int),.int .u32 (G x:Int)] 45 (0,0)):=⟨_,rfl⟩
 have k0:Keeps [] w w0:=by rw [hw0];exact (Keeps.refl _ _).alloc _
 have hh0:w0.heap[w.heap.size]?=some (.cells #[.int .i64 (x:Int),.int .u32 (G x:Int)] 45 (0,0)):=by rw [hw0];exact blk_alloc_new _
 obtain ⟨hb,hhb⟩:∃hb,hb=w.heap.size:=⟨_,rfl⟩
 rw [<-hhb] at hh0
 have hent:=pq_entry w0 F s k cap hs E q most G (c.keep k0 (by simp)) x h n key he
 have e0:w0.cell? ⟨hb,0,none⟩=some (.int .i64 (x:Int)):=by rw [cell_of_blk hh0];rfl
 have e1:w0.cell? ⟨hb,1,none⟩=some (.int .u32 (G x:Int)):=by rw [cell_of_blk hh0];rfl
 have hstep:∀w1 w3,Keeps [] w0 w1->w3=w1.alloc (.cells #[.int .i64 key,.int .u64 (n:Int)] 104 (0,0)) ->
   w3.cell? ⟨w1.heap.size,0,none⟩=some (.int .i64 key)∧w3.cell? ⟨w1.heap.size,1,none⟩=some (.int .u64 (n:Int))∧w3.cell? ⟨hb,0,none⟩=some (.int .i64 (x:Int))∧Hid (∃(pn:Nat) (fn:FuncId),w3.cell? ⟨s,3,none⟩=some (.iface (nTy k) (.pointer (some ⟨pn,0,none⟩))) ∧
    (∀u,(method 588 (nTy k) (.pointer (some ⟨pn,0,none⟩)) "Decrease").run Tryz.prog u=.ok (fn,.pointer (some ⟨pn,0,none⟩)) u)∧(∀args u,(callFunc fn args).run Tryz.prog u=.ok (.enter fn args) u) ∧
    Calls Tryz.prog fn #[.pointer (some ⟨pn,0,none⟩),.int .i64 x,.agg #[.int .i64 key',.int .u64 (n:Int)]] w3.drew fun e w4=>e=.returned (.bool true)∧Hid (DecDone w F s k cap hs E q most G x h n key' (.returned (.int .i64 0)) w4)):=by
  intro w1 w3 k1 hw3
  have k3:Keeps [] w1 w3:=by rw [hw3];exact (Keeps.refl _ _).alloc _
  have h3:w3.heap[w1.heap.size]?=some (.cells #[.int .i64 key,.int .u64 (n:Int)] 104 (0,0)):=by rw [hw3];exact blk_alloc_new _
  have hx3:=(k1.trans k3 (by simp)).blk hh0 (by simp)
  have kk:Keeps [] w w3:=(k0.trans k1 (by simp)).trans k3 (by simp)
  have kd:Keeps [] w3 w3.drew:=⟨rfl,rfl,rfl,Nat.le_refl _,fun _ _ _=>rfl⟩
  refine ⟨by rw [cell_of_blk h3];rfl,by rw [cell_of_blk h3];rfl,by rw [cell_of_blk hx3];rfl,?_⟩
  obtain ⟨pa,pn,Fa,Fn,c1,c2,rfl,st⟩:=c.keep (kk.trans kd (by simp)) (by simp)
  obtain ⟨fn,n1,n2,n3⟩:=n_decrease k w3.drew Fn pn cap hs E st.ne x h n key key' he hk hw
  refine ⟨pn,fn,st.c3,n1,n2,n3.mono ?_⟩
  rintro e w4 ⟨rfl,ha⟩
  have hone:∀y g kk m,put E x (some (h,key',n)) y=some (g,kk,m)->∃k0,E y=some (g,k0,m):=fun y g kk m e=>by
   by_cases c:y=x
   .subst c;rw [put_same] at e;cases e;exact ⟨_,he⟩
   .rw [put_other _ _ _ c] at e;exact ⟨_,e⟩
  obtain ⟨Fn',q4,m4⟩:=st.nest ha (fun y=>by
   by_cases c:y=x
   .subst c;rw [put_same,he];rfl
   .rw [put_other _ _ _ c]) (fun y g kk m e=>by
   obtain ⟨k0,e⟩:=hone y g kk m e
   exact st.sq y g k0 m e) (fun y z g kk m g' kk' e e'=>by
   obtain ⟨k0,e⟩:=hone y g kk m e
   obtain ⟨k1,e'⟩:=hone z g' kk' m e'
   exact st.uq y z g k0 m g' k1 e e')
  exact ⟨rfl,rfl,_,⟨pa,pn,Fa,Fn',c1,c2,rfl,q4⟩,Moved.pre ((kk.trans kd (by simp)).mono (by simp)) m4⟩
 have HS:=Lib.hid hstep
 have hlt:¬key<key':=by omega
 clear hstep k0 hh0 c he hk
 go_enter Tryz.func19,Tryz.ntmps19
 go_upto_region 1 with fail
 rw [<-hw0,<-hhb]
 clear hw0 hhb
 go_upto_region 2 with (go_at_call 49;refine hent.mono ?_;rintro e w1 ⟨rfl,k1⟩;have K1:=Lib.hid k1;clear k1)
 obtain ⟨w3,hw3⟩:∃w3,w3=w1.alloc (.cells #[.int .i64 key,.int .u64 (n:Int)] 104 (0,0)):=⟨_,rfl⟩
 rw [<-hw3]
 obtain ⟨z1,z2,z3,z4⟩:=HS.out w1 w3 K1.out hw3
 obtain ⟨pn,fn,y3,n1,n2,n3⟩:=z4.out
 clear hw3 HS K1 hent e0 e1 z4
 generalize w1.heap.size=eb at *
 go_upto_region 6 with fail
 go_still_tail 10,(by kernel_rfl)
 change wpList _ _ _ _ _ w3.drew
 have z1':w3.drew.cell? ⟨eb,0,none⟩=some (.int .i64 key):=z1
 have z2':w3.drew.cell? ⟨eb,1,none⟩=some (.int .u64 (n:Int)):=z2
 have z3':w3.drew.cell? ⟨hb,0,none⟩=some (.int .i64 (x:Int)):=z3
 have y3':w3.drew.cell? ⟨s,3,none⟩=some (.iface (nTy k) (.pointer (some ⟨pn,0,none⟩))):=y3
 generalize w3.drew=wE at *
 clear z1 z2 z3 y3
 go_wp2_with (refine n3.mono ?_;rintro e w4 ⟨rfl,hfin⟩)
 go_ret
 exact hfin.out
theorem pq_decrease_no (c:StoreAt w F s k cap hs E q most G) (x h n:Nat) (key key':Int) (he:E x=some (h,key,n)) (hk:key<key') :
  Calls Tryz.prog 19 #[.pointer (some ⟨s,0,none⟩),.agg #[.int .i64 x,.int .u32 (G x:Nat)],.int .i64 key'] w fun e w'=>e=.returned (.int .i64 173)∧Keeps [] w w':=by
 obtain ⟨w0,hw0⟩:∃w0,w0=w.alloc (.cells #[.int .i64 (x:Int),.int .u32 (G x:Int)] 45 (0,0)):=⟨_,rfl⟩
 have k0:Keeps [] w w0:=by rw [hw0];exact (Keeps.refl _ _).alloc _
 have hh0:w0.heap[w.heap.size]?=some (.cells #[.int .i64 (x:Int),.int .u32 (G x:Int)] 45 (0,0)):=by rw [hw0];exact blk_alloc_new _
 have hent:=pq_entry w0 F s k cap hs E q most G (c.keep k0 (by simp)) x h n key he
 have e0:w0.cell? ⟨w.heap.size,0,none⟩=some (.int .i64 (x:Int)):=by rw [cell_of_blk hh0];rfl
 have e1:w0.cell? ⟨w.heap.size,1,none⟩=some (.int .u32 (G x:Int)):=by rw [cell_of_blk hh0];rfl
 have hstep:∀w1 w3,Keeps [] w0 w1->w3=w1.alloc (.cells #[.int .i64 key,.int .u64 (n:Int)] 104 (0,0))->w3.cell? ⟨w1.heap.size,0,none⟩=some (.int .i64 key)∧Keeps [] w w3:=by
  intro w1 w3 k1 hw3
  have k3:Keeps [] w1 w3:=by rw [hw3];exact (Keeps.refl _ _).alloc _
  have h3:w3.heap[w1.heap.size]?=some (.cells #[.int .i64 key,.int .u64 (n:Int)] 104 (0,0)):=by rw [hw3];exact blk_alloc_new _
  exact ⟨by rw [cell_of_blk h3];rfl,(k0.trans k1 (by simp)).trans k3 (by simp)⟩
 have HS:=Lib.hid hstep
 clear hstep k0 hh0 c he
 go_enter Tryz.func19,Tryz.ntmps19
 go_upto_region 1 with fail
 rw [<-hw0]
 clear hw0
 go_upto_region 2 with (go_at_call 49;refine hent.mono ?_;rintro e w1 ⟨rfl,k1⟩;have K1:=Lib.hid k1;clear k1)
 obtain ⟨w3,hw3⟩:∃w3,w3=w1.alloc (.cells #[.int .i64 key,.int .u64 (n:Int)] 104 (0,0)):=⟨_,rfl⟩
 rw [<-hw3]
 obtain ⟨z1,z2⟩:=HS.out w1 w3 K1.out hw3
 have Z2:=Lib.hid z2
 clear hw3 HS K1 hent e0 e1 z2
 generalize w1.heap.size=eb at *
 go_wp2_with fail
 go_ret
 exact ⟨rfl,Z2.out⟩
def DelDone (x:Nat) (key:Int) (e:Ending) (w':World):Prop:=e=.returned (.tuple #[.int .i64 key,.int .i64 0])∧∃F',StoreAt w' F' s k cap hs (put E x none) q most G∧Moved F w F' w'
theorem pq_delete (c:StoreAt w F s k cap hs E q most G) (x h n:Nat) (key:Int) (he:E x=some (h,key,n)) :
  Calls Tryz.prog 20 #[.pointer (some ⟨s,0,none⟩),.agg #[.int .i64 x,.int .u32 (G x:Nat)]] w (DelDone w F s k cap hs E q most G x key):=by
 have hlt:=c.lt
 obtain ⟨w0,hw0⟩:∃w0,w0=w.alloc (.cells #[.int .i64 (x:Int),.int .u32 (G x:Int)] 45 (0,0)):=⟨_,rfl⟩
 have k0:Keeps [] w w0:=by rw [hw0];exact (Keeps.refl _ _).alloc _
 have hh0:w0.heap[w.heap.size]?=some (.cells #[.int .i64 (x:Int),.int .u32 (G x:Int)] 45 (0,0)):=by rw [hw0];exact blk_alloc_new _
 have s0:w.heap.size<w0.heap.size:=lt_of_block hh0
 obtain ⟨hb,hhb⟩:∃hb,hb=w.heap.size:=⟨_,rfl⟩
 rw [<-hhb] at hh0 s0 hlt
 have hent:=pq_entry w0 F s k cap hs E q most G (c.keep k0 (by simp)) x h n key he
 have e0:w0.cell? ⟨hb,0,none⟩=some (.int .i64 (x:Int)):=by rw [cell_of_blk hh0];rfl
 have e1:w0.cell? ⟨hb,1,none⟩=some (.int .u32 (G x:Int)):=by rw [cell_of_blk hh0];rfl
 have hstep:∀w1 w3,Keeps [] w0 w1->w3=w1.alloc (.cells #[.int .i64 key,.int .u64 (n:Int)] 104 (0,0)) ->
   w3.cell? ⟨hb,0,none⟩=some (.int .i64 (x:Int))∧Hid (∃(pa pn:Nat) (fn:FuncId),w3.cell? ⟨s,3,none⟩=some (.iface (nTy k) (.pointer (some ⟨pn,0,none⟩))) ∧
    (∀u,(method 588 (nTy k) (.pointer (some ⟨pn,0,none⟩)) "Delete").run Tryz.prog u=.ok (fn,.pointer (some ⟨pn,0,none⟩)) u)∧(∀args u,(callFunc fn args).run Tryz.prog u=.ok (.enter fn args) u) ∧
    Calls Tryz.prog fn #[.pointer (some ⟨pn,0,none⟩),.int .i64 x] w3.drew fun e w4=>e=.returned (.bool true)∧w4.cell? ⟨s,2,none⟩=some (.pointer (some ⟨pa,0,none⟩))∧w4.cell? ⟨hb,0,none⟩=some (.int .i64 (x:Int))∧w4.cell? ⟨hb,1,none⟩=some (.int .u32 (G x:Int)) ∧
     Hid (Calls Tryz.prog 50 #[.pointer (some ⟨pa,0,none⟩),.agg #[.int .i64 x,.int .u32 (G x:Nat)]] w4.drew fun e w5=>e=.returned (.int .i64 0)∧w5.cell? ⟨w1.heap.size,0,none⟩=some (.int .i64 key) ∧
      Hid (DelDone w F s k cap hs E q most G x key (.returned (.tuple #[.int .i64 key,.int .i64 0])) w5))):=by
  intro w1 w3 k1 hw3
  have k3:Keeps [] w1 w3:=by rw [hw3];exact (Keeps.refl _ _).alloc _
  have h3:w3.heap[w1.heap.size]?=some (.cells #[.int .i64 key,.int .u64 (n:Int)] 104 (0,0)):=by rw [hw3];exact blk_alloc_new _
  have hx3:=(k1.trans k3 (by simp)).blk hh0 (by simp)
  have kk:Keeps [] w w3:=(k0.trans k1 (by simp)).trans k3 (by simp)
  have kd:Keeps [] w3 w3.drew:=⟨rfl,rfl,rfl,Nat.le_refl _,fun _ _ _=>rfl⟩
  have s1:=k1.size
  refine ⟨by rw [cell_of_blk hx3];rfl,?_⟩
  obtain ⟨pa,pn,Fa,Fn,c1,c2,rfl,st⟩:=c.keep (kk.trans kd (by simp)) (by simp)
  obtain ⟨fn,n1,n2,n3⟩:=n_delete k w3.drew Fn pn cap hs E st.ne x h ⟨_,he⟩
  have hxs:(E x).isSome:=by rw [he];rfl
  have hxc:=st.ne.ok.lt x hxs
  have hbF:∀b,hb<=b->b∉s::(Fa++Fn):=fun b hb' e=>by have:=hlt b e;omega
  have hbn:∀b,hb<=b->b∉Fn:=fun b hb' e=>hbF b hb' (by simp [e])
  have hba:∀b,hb<=b->b∉Fa:=fun b hb' e=>hbF b hb' (by simp [e])
  refine ⟨pa,pn,fn,st.c3,n1,n2,n3.mono ?_⟩
  rintro e w4 ⟨rfl,Fn',hn4,hm4⟩
  have b4:=hm4.keeps.blk st.blk st.sn
  have hx4:=hm4.keeps.blk (k:=hb) hx3 (hbn _ (Nat.le_refl _))
  have he4:=hm4.keeps.blk (k:=w1.heap.size) h3 (hbn _ (by omega))
  have kd4:Keeps [] w4 w4.drew:=⟨rfl,rfl,rfl,Nat.le_refl _,fun _ _ _=>rfl⟩
  have ar4:AreAt w4.drew Fa pa cap most G (fun y=>(E y).isSome):=(st.ar.keep hm4.keeps st.an).keep kd4 (by simp)
  refine ⟨rfl,by rw [cell_of_blk b4];rfl,by rw [cell_of_blk hx4];rfl,by rw [cell_of_blk hx4];rfl,(are_give ar4 x hxc hxs).mono ?_⟩
  rintro e w5 ⟨rfl,Fa',ha5,hm5⟩
  obtain ⟨q5,m5⟩:=st.gone hn4 hm4 ha5 hm5
  have he5:=hm5.keeps.blk (k:=w1.heap.size) he4 (hba _ (by omega))
  exact ⟨rfl,by rw [cell_of_blk he5];rfl,rfl,_,⟨pa,pn,Fa',Fn',c1,c2,rfl,q5⟩,Moved.pre ((kk.trans kd (by simp)).mono (by simp)) m5⟩
 have HS:=Lib.hid hstep
 clear hstep k0 hh0 c he hlt s0
 go_enter Tryz.func20,Tryz.ntmps20
 go_upto_region 1 with fail
 rw [<-hw0,<-hhb]
 clear hw0 hhb
 go_upto_region 2 with (go_at_call 49;refine hent.mono ?_;rintro e w1 ⟨rfl,k1⟩;have K1:=Lib.hid k1;clear k1)
 obtain ⟨w3,hw3⟩:∃w3,w3=w1.alloc (.cells #[.int .i64 key,.int .u64 (n:Int)] 104 (0,0)):=⟨_,rfl⟩
 rw [<-hw3]
 obtain ⟨z3,z4⟩:=HS.out w1 w3 K1.out hw3
 obtain ⟨pa,pn,fn,y3,n1,n2,n3⟩:=z4.out
 clear hw3 HS K1 hent e0 e1 z4
 generalize w1.heap.size=eb at *
 go_upto_region 4 with fail
 go_region_law (first
  | (go_simp;refine n3.mono ?_;rintro e w4 ⟨rfl,x1,x2,x3,x4⟩))
 all_goals
  clear z3 y3 n1 n2 n3
  go_upto_region 5 with fail
  go_region_law (first
   | (go_simp;go_at_call 50;refine x4.out.mono ?_;rintro e w5 ⟨rfl,y1,hfin⟩))
  all_goals
   clear x1 x2 x3 x4
   go_wp2_with fail
   go_ret2
   exact hfin.out
end
end Go.Proofs.YtkdbjelhkfdfjaaGreatDoor

