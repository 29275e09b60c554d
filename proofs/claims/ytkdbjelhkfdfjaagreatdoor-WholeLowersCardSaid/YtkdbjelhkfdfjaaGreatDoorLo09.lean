/-
  Contracts that the law rests on. Conditions: none.
-/
import Derived.Test.YtkdbjelhkfdfjaaGreatDoorLo08
set_option linter.unusedVariables false
set_option maxRecDepth 100000
set_option maxHeartbeats 32000000
namespace Go.Proofs.YtkdbjelhkfdfjaaGreatDoor
open Go.RowKit
section
variable (w:World) (F:List Nat) (p cap hs:Nat) (E:Ent)
theorem CellsAt.drew {w:World} {F:List Nat} {p cap hs:Nat} {E:Ent} (hc:CellsAt w F p cap hs E):CellsAt w.drew F p cap hs E:=hc.keep ⟨rfl,rfl,rfl,Nat.le_refl _,fun _ _ _=>rfl⟩ (S:=[]) (by simp)
theorem CellsAt.drewN {w:World} {F:List Nat} {p cap hs:Nat} {E:Ent} (hc:CellsAt w F p cap hs E) (n:Nat):CellsAt (w.drewN n) F p cap hs E:=hc.keep ⟨rfl,rfl,rfl,Nat.le_refl _,fun _ _ _=>rfl⟩ (S:=[]) (by simp)
theorem cells_entry (hc:CellsAt w F p cap hs E) (x h q:Nat) (k:Int) (e:E x=some (h,k,q)) :
  Calls Tryz.prog 299 #[.pointer (some ⟨p,0,none⟩),.int .i64 x] w fun e w'=>e=.returned (.tuple #[.agg #[.int .i64 k,.int .u64 (q:Int)],.bool true])∧Below w.heap.size w w':=by
 obtain ⟨gs,hgs,c1,d0,d1,d2⟩:=hc.at e
 have hx:=hc.ok.lt x (by rw [e];rfl)
 have hlt:=hc.lt gs hgs
 have hpl:=hc.lt p hc.mem
 have he:(E x).isSome:=by rw [e];rfl
 have HI:=Lib.hid he
 have hc1:=hc.below ((Below.refl _ w).alloc (Nat.le_refl _) (.cells #[.int .i64 0,.int .u64 0] 104))
 have hx3:(x:Int)<(cap:Int):=by omega
 clear he e
 go_enter Tryz.func299,Tryz.ntmps299
 go_wp2_with (go_at_call 313;refine (cells_in_yes _ _ p cap hs E hc1 _ HI.out).mono ?_;rintro e w' ⟨rfl,rfl⟩)
 refine bodyPost_ret (v:=.tuple #[.agg #[.int .i64 k,.int .u64 (q:Int)],.bool true]) (by simp [results,Tryz.results299,go_sem]) rfl ⟨rfl,(Below.refl _ w).alloc (Nat.le_refl _) _⟩
theorem root_self {w:World} {p g cap i:Nat} {L:List Int} {most cnt:Int} (h:Nm.NamesAt w p g cap L most cnt) (h1:0<i) (h2:i<L.length) (h3:L.getD i 0=i) :
  Calls Tryz.prog 315 #[.pointer (some ⟨p,0,none⟩),.int .i64 i] w fun e w'=>e=.returned (.tuple #[.int .i64 i,.bool true])∧w=w':=by
 have c0:w.cell? ⟨p,0,none⟩=some (.slice (some ⟨g,0,none⟩) L.length cap):=by rw [cell_of_blk h.blk];rfl
 have c1:=h.cell i h2
 rw [h3] at c1
 clear h3
 go_enter Tryz.func315,Tryz.ntmps315
 go_wp2_with (go_at_call 327;refine (Nm.made_yes _ _ _ _ _ _ _ _ h (by omega) (by omega)).mono ?_;rintro e w' ⟨rfl,rfl⟩)
 go_loop [1] (fun s=>s=.int .i64 i) (fun s=>0)
 case atStart=>rfl
 case round =>
  subst hrel
  go_wp2
  go_ret2
  exact ⟨rfl,rfl⟩
theorem cells_home (hc:CellsAt w F p cap hs E) (x h:Nat) (hi:isIn E h x) :
  Calls Tryz.prog 302 #[.pointer (some ⟨p,0,none⟩),.int .i64 x] w fun e w'=>e=.returned (.tuple #[.int .i64 h,.bool true])∧∃n,w'=w.drewN n:=by
 obtain ⟨⟨k,q⟩,e⟩:=hi
 obtain ⟨gs,hgs,c1,d0,d1,d2⟩:=hc.at e
 have he:(E x).isSome:=by rw [e];rfl
 have hx:=hc.ok.lt x he
 have hh:=hc.ok.heap x h _ e
 have HI:=Lib.hid he
 have hx3:(x:Int)<(cap:Int):=by omega
 have c2:∃pn gn cn,w.cell? ⟨p,2,none⟩=some (.pointer (some ⟨pn,0,none⟩))∧Nm.NamesAt w pn gn cn (idL hs) 65536 hs:=by
  obtain ⟨steps,gs,pn,gn,cn,mb,rfl,hnd,hok,hs0,hs1,hb,ha,hn,hm⟩:=hc
  exact ⟨pn,gn,cn,by rw [cell_of_blk hb];rfl,hn⟩
 obtain ⟨pn,gn,cn,c2,hn⟩:=c2
 have hl:=idL_len hs
 clear he e
 go_enter Tryz.func302,Tryz.ntmps302
 go_wp2_with (go_at_call 313;refine (cells_in_yes _ _ p cap hs E hc _ HI.out).mono ?_;rintro e w' ⟨rfl,rfl⟩)
 go_quiet ((go_at_call 315;refine Calls.quiet_of_same ((root_self (i:=h) (hn.drewN _) (by omega) (by omega) (idL_at hs hh.2)).mono fun _ _ hh=>⟨hh.1,hh.2.symm⟩)))
 go_wp2
 go_ret2
 exact ⟨rfl,_,rfl⟩
theorem cells_put (hc:CellsAt w F p cap hs E) (h x q:Nat) (k:Int) (h1:1<=h) (h2:h<=hs) (hx:x<cap) (he:E x=none) (hk:(Lit.int .i64 k).wf=true) (hq:(Lit.int .u64 (q:Int)).wf=true) :
  Calls Tryz.prog 316 #[.pointer (some ⟨p,0,none⟩),.int .i64 h,.int .i64 x,.agg #[.int .i64 k,.int .u64 (q:Int)]] w fun e w'=>e=.returned (.bool true)∧CellsAt w' F p cap hs (put E x (some (h,k,q)))∧Keeps F w w':=by
 have hc1:=hc.below ((Below.refl _ w).alloc (Nat.le_refl _) (.cells #[.int .i64 k,.int .u64 (q:Int)] 104))
 have hhas:=cells_has _ F p cap hs E hc1 h
 rw [decide_eq_true (by omega)] at hhas
 have hthere:=cells_there _ F p cap hs E hc1 x hx
 have hin:=cells_in_no _ F p cap hs E hc1 x hx he
 have hlt:=hc.lt
 obtain ⟨steps,gs,pn,gn,cn,mb,rfl,hnd,hok,hs0,hs1,hb,ha,hn,hm⟩:=id hc
 have c1:w.cell? ⟨p,1,none⟩=some (.slice (some ⟨gs,0,none⟩) cap cap):=by rw [cell_of_blk hb];rfl
 have c3:w.cell? ⟨p,3,none⟩=some (.map (some mb)):=by rw [cell_of_blk hb];rfl
 have f0:=ha.frozen (x*3)
 have f1:=ha.frozen (x*3+1)
 have f2:=ha.frozen (x*3+2)
 have d0:=ha.cell hx (j:=0) (by omega)
 have d1:=ha.cell hx (j:=1) (by omega)
 have d2:=ha.cell hx (j:=2) (by omega)
 rw [cellV_none he] at d0 d1 d2
 simp only [List.getElem?_cons_zero,List.getElem?_cons_succ,Nat.add_zero] at d0 d1 d2
 have hx3:(x:Int)<(cap:Int):=by omega
 have hpl:=hlt p (by simp)
 have hgl:=hlt gs (by simp)
 have hml:=hlt mb (by simp)
 have hh6:h<=65536:=Nat.le_trans h2 hok.bh
 have hcount:count E cap h<=65536:=Nat.le_trans (count_le E cap h) hok.bc
 have hfull:full E cap hs<maxLen:=by have:=full_le E cap hs;have:=hok.bh;unfold maxLen;omega
 have hv:=manyF_getD E cap h
 have hK3:∀W3,W3=((((w.setCell ⟨gs,x*3,none⟩ (.int .i64 (h:Int))).setCell ⟨gs,x*3+1,none⟩ (.int .i64 k)).setCell ⟨gs,x*3+2,none⟩ (.int .u64 (q:Int))).alloc (.cells #[.int .i64 k,.int .u64 (q:Int)] 104)).drew ->
   W3.cell? ⟨p,3,none⟩=some (.map (some mb))∧IMap Tryz.prog 3 W3 mb (full E cap hs) (manyF E cap)∧Arr W3 448 3 cap gs (cellV (put E x (some (h,k,q))))∧Keeps [gs] w W3:=by
  rintro W3 rfl
  have hk3:Keeps [gs] w ((((w.setCell ⟨gs,x*3,none⟩ (.int .i64 (h:Int))).setCell ⟨gs,x*3+1,none⟩ (.int .i64 k)).setCell ⟨gs,x*3+2,none⟩ (.int .u64 (q:Int))).alloc (.cells #[.int .i64 k,.int .u64 (q:Int)] 104)).drew :=
   (((((Keeps.refl _ _).setCell (.inl (by simp)) _).setCell (.inl (by simp)) _).setCell (.inl (by simp)) _).alloc _).drew
  have hnd0:=hnd
  simp only [List.nodup_cons,List.mem_cons,List.not_mem_nil,or_false,not_or,List.nodup_nil,and_true,not_false_eq_true] at hnd0
  obtain ⟨⟨n1,n2,n3,n4⟩,⟨n5,n6,n7⟩,_⟩:=hnd0
  refine ⟨?_,hm.keep hk3 (by simpa using fun e=>n7 e.symm),?_,hk3⟩
  .rw [cell_of_blk (hk3.blk hb (by simpa using n1))];rfl
  .have h3:=(ha.set3 hx (.int .i64 (h:Int)) (.int .i64 k) (.int .u64 (q:Int))).alloc (.cells #[.int .i64 k,.int .u64 (q:Int)] 104)
   rw [<-cellV_put] at h3
   exact h3.keep ⟨rfl,rfl,rfl,Nat.le_refl _,fun _ _ _=>rfl⟩ (S:=[]) (by simp)
 have hpost:∀W3 w',W3.cell? ⟨p,3,none⟩=some (.map (some mb))->Arr W3 448 3 cap gs (cellV (put E x (some (h,k,q))))->Keeps [gs] w W3 ->
   IMap Tryz.prog 3 w' mb (if (manyF E cap (h:Int)).isSome then full E cap hs else full E cap hs+1) (fun z=>if z=(h:Int) then some ((count E cap h:Int)+1) else manyF E cap z)->W3.grownBy w' (some mb) ->
   CellsAt w' [p,gs,pn,gn,mb] p cap hs (put E x (some (h,k,q)))∧Keeps [p,gs,pn,gn,mb] w w':=by
  intro W3 w' c3' ha3 hk3 hm3 hg3
  have hnd0:=hnd
  simp only [List.nodup_cons,List.mem_cons,List.not_mem_nil,or_false,not_or,List.nodup_nil,and_true,not_false_eq_true] at hnd0
  obtain ⟨⟨n1,n2,n3,n4⟩,⟨n5,n6,n7⟩,⟨n8,n9⟩,n10⟩:=hnd0
  have hkm:Keeps [mb] W3 w':=(Keeps.refl _ _).grown hg3 (by simp)
  have hk4:Keeps [gs,mb] w w':=(hk3.mono (T:=[gs,mb]) (by simp)).trans hkm (by simp)
  rw [<-manyF_put hx he (k:=(k,q)),<-full_put hx he h2 (k:=(k,q))] at hm3
  exact ⟨⟨steps,gs,pn,gn,cn,mb,rfl,hnd,hok.put hx h1 h2 hk hq,hs0,hs1,hk4.blk hb (by simp;exact ⟨n1,n4⟩),ha3.keep hkm (by simpa using n7),hn.keep hk4 (by simp;exact ⟨fun e=>n5 e.symm,n9⟩) (by simp;exact ⟨fun e=>n6 e.symm,n10⟩),hm3⟩,hk4.mono (by simp)⟩
 generalize hN:count E cap h=N at *
 go_enter Tryz.func316,Tryz.ntmps316
 have HK3:=Lib.hid hK3
 have HPOST:=Lib.hid hpost
 have HFULL:=Lib.hid hfull
 clear hb ha hn hm hnd hok hs0 hs1 hc1 hlt he hK3 hpost hfull hN
 go_wp2_with (first
  | (go_at_call 301;refine hhas.mono ?_;rintro e w' ⟨rfl,rfl⟩)
  | (go_at_call 326;refine hthere.mono ?_;rintro e w' ⟨rfl,rfl⟩)
  | (go_at_call 313;refine hin.mono ?_;rintro e w' ⟨rfl,rfl⟩))
 go_region
 generalize hW3:((((w.setCell ⟨gs,x*3,none⟩ (.int .i64 (h:Int))).setCell ⟨gs,x*3+1,none⟩ (.int .i64 k)).setCell ⟨gs,x*3+2,none⟩ (.int .u64 (q:Int))).alloc (.cells #[.int .i64 k,.int .u64 (q:Int)] 104)).drew=W3
 obtain ⟨e3,hm3,ha3,hk3⟩:=HK3.out W3 hW3.symm
 have HM3:=Lib.hid hm3
 clear hW3 HK3 c1 c3 f0 f1 f2 d0 d1 d2 hm3
 go_wp2_with (first
  | (at_lookup;refine wpList_imap_look rfl _ _ rfl mapTy mb _ _ rfl HM3.out (h:Int) rfl (WalkArith.wf_i64 (by omega)) ?_)
  | (at_mapUpdate;refine wpList_imap_put rfl _ _ _ rfl mapTy mb _ _ rfl HM3.out HFULL.out (h:Int) ((N:Int)+1) rfl rfl (WalkArith.wf_i64 (by omega)) (WalkArith.wf_i64 (by omega)) ?_;intro w4 hm4 hg4))
 go_ret
 obtain ⟨r1,r2⟩:=HPOST.out W3 w4 e3 ha3 hk3 hm4 hg4
 exact ⟨rfl,r1,r2⟩
theorem cells_drop (hc:CellsAt w F p cap hs E) (x h:Nat) (hi:isIn E h x) :
  Calls Tryz.prog 312 #[.pointer (some ⟨p,0,none⟩),.int .i64 x] w fun e w'=>e=.returned (.bool true)∧CellsAt w' F p cap hs (put E x none)∧Keeps F w w':=by
 have hhome:=cells_home w F p cap hs E hc x h hi
 have hlt:=hc.lt
 obtain ⟨⟨k,q⟩,he⟩:=id hi
 obtain ⟨steps,gs,pn,gn,cn,mb,rfl,hnd,hok,hs0,hs1,hb,ha,hn,hm⟩:=id hc
 have hx:=hok.lt x (by rw [he];rfl)
 obtain ⟨h1,h2⟩:=hok.heap x h _ he
 have c1:w.cell? ⟨p,1,none⟩=some (.slice (some ⟨gs,0,none⟩) cap cap):=by rw [cell_of_blk hb];rfl
 have f0:=ha.frozen (x*3)
 have f1:=ha.frozen (x*3+1)
 have f2:=ha.frozen (x*3+2)
 have d0:=ha.cell hx (j:=0) (by omega)
 have d1:=ha.cell hx (j:=1) (by omega)
 have d2:=ha.cell hx (j:=2) (by omega)
 rw [cellV_at he] at d0 d1 d2
 simp only [List.getElem?_cons_zero,List.getElem?_cons_succ,Nat.add_zero] at d0 d1 d2
 have hx3:(x:Int)<(cap:Int):=by omega
 have hpl:=hlt p (by simp)
 have hgl:=hlt gs (by simp)
 have hml:=hlt mb (by simp)
 have hh6:h<=65536:=Nat.le_trans h2 hok.bh
 have hcount:count E cap h<=65536:=Nat.le_trans (count_le E cap h) hok.bc
 have hfull:full E cap hs<maxLen:=by have:=full_le E cap hs;have:=hok.bh;unfold maxLen;omega
 have hv:=manyF_getD E cap h
 have hpos:=count_pos hx he
 have hsome:(manyF E cap (h:Int)).isSome=true:=by rw [manyF_some];simpa using hpos
 have hK3:∀W3 X,X=((w.setCell ⟨gs,x*3,none⟩ (.int .i64 0)).setCell ⟨gs,x*3+1,none⟩ (.int .i64 0)).setCell ⟨gs,x*3+2,none⟩ (.int .u64 0)->W3.heap=X.heap->W3.os=X.os->W3.tape=X.tape->W3.output=X.output ->
   W3.cell? ⟨p,3,none⟩=some (.map (some mb))∧IMap Tryz.prog 3 W3 mb (full E cap hs) (manyF E cap)∧Arr W3 448 3 cap gs (cellV (put E x none))∧Keeps [gs] w W3:=by
  rintro W3 X hX e1 e2 e3 e4
  have hk0:Keeps [gs] w X:=by
   rw [hX]
   exact (((Keeps.refl _ _).setCell (.inl (by simp)) _).setCell (.inl (by simp)) _).setCell (.inl (by simp)) _
  have hk1:Keeps [] X W3:=⟨e2,e3,e4,by rw [e1];exact Nat.le_refl _,fun b _ _=>by rw [e1]⟩
  have hk3:Keeps [gs] w W3:=hk0.trans hk1 (by simp)
  have hnd0:=hnd
  simp only [List.nodup_cons,List.mem_cons,List.not_mem_nil,or_false,not_or,List.nodup_nil,and_true,not_false_eq_true] at hnd0
  obtain ⟨⟨n1,n2,n3,n4⟩,⟨n5,n6,n7⟩,_⟩:=hnd0
  refine ⟨?_,hm.keep hk3 (by simpa using fun e=>n7 e.symm),?_,hk3⟩
  .rw [cell_of_blk (hk3.blk hb (by simpa using n1))];rfl
  .have h3:=ha.set3 hx (.int .i64 0) (.int .i64 0) (.int .u64 0)
   rw [<-cellV_drop,<-hX] at h3
   exact h3.keep hk1 (by simp)
 have hpost:∀W3 w',Arr W3 448 3 cap gs (cellV (put E x none))->Keeps [gs] w W3 ->
   IMap Tryz.prog 3 w' mb (full (put E x none) cap hs) (manyF (put E x none) cap)->Keeps [mb] W3 w' ->
   CellsAt w' [p,gs,pn,gn,mb] p cap hs (put E x none)∧Keeps [p,gs,pn,gn,mb] w w':=by
  intro W3 w' ha3 hk3 hm3 hkm
  have hnd0:=hnd
  simp only [List.nodup_cons,List.mem_cons,List.not_mem_nil,or_false,not_or,List.nodup_nil,and_true,not_false_eq_true] at hnd0
  obtain ⟨⟨n1,n2,n3,n4⟩,⟨n5,n6,n7⟩,⟨n8,n9⟩,n10⟩:=hnd0
  have hk4:Keeps [gs,mb] w w':=(hk3.mono (T:=[gs,mb]) (by simp)).trans hkm (by simp)
  exact ⟨⟨steps,gs,pn,gn,cn,mb,rfl,hnd,hok.drop,hs0,hs1,hk4.blk hb (by simp;exact ⟨n1,n4⟩),ha3.keep hkm (by simpa using n7),hn.keep hk4 (by simp;exact ⟨fun e=>n5 e.symm,n9⟩) (by simp;exact ⟨fun e=>n6 e.symm,n10⟩),hm3⟩,hk4.mono (by simp)⟩
 have n1:¬p=gs:=by
  have hnd0:=hnd
  simp only [List.nodup_cons,List.mem_cons,List.not_mem_nil,or_false,not_or,List.nodup_nil,and_true,not_false_eq_true] at hnd0
  exact hnd0.1.1
 have c3:w.cell? ⟨p,3,none⟩=some (.map (some mb)):=by rw [cell_of_blk hb];rfl
 have hc3:∀W3 w':World,W3.grownBy w' (some mb)->W3.cell? ⟨p,3,none⟩=some (.map (some mb))->p<W3.heap.size->w'.cell? ⟨p,3,none⟩=some (.map (some mb)):=by
  intro W3 w' hg hc hp
  have hnd0:=hnd
  simp only [List.nodup_cons,List.mem_cons,List.not_mem_nil,or_false,not_or,List.nodup_nil,and_true,not_false_eq_true] at hnd0
  obtain ⟨⟨n1,n2,n3,n4⟩,_⟩:=hnd0
  have hkm:Keeps [mb] W3 w':=(Keeps.refl _ _).grown hg (by simp)
  exact (World.cell?_of_block (a:=⟨p,3,none⟩) (hkm.block p hp (by simpa using n4))).trans hc
 have hend:∀W3 w4 w5:World,Arr W3 448 3 cap gs (cellV (put E x none))->Keeps [gs] w W3->count E cap h=1->W3.grownBy w4 (some mb)->w4.grownBy w5 (some mb) ->
   IMap Tryz.prog 3 w5 mb (if ((fun z:Int=>if z=(h:Int) then some ((count E cap h:Int) - 1) else manyF E cap z) (h:Int)).isSome then (if (manyF E cap (h:Int)).isSome then full E cap hs else full E cap hs+1) - 1 else (if (manyF E cap (h:Int)).isSome then full E cap hs else full E cap hs+1)) (fun z=>if z=(h:Int) then none else (if z=(h:Int) then some ((count E cap h:Int) - 1) else manyF E cap z)) ->
   CellsAt w5 [p,gs,pn,gn,mb] p cap hs (put E x none)∧Keeps [p,gs,pn,gn,mb] w w5:=by
  intro W3 w4 w5 ha3 hk3 hone hg4 hg5 hm5
  have k4:Keeps [mb] W3 w4:=(Keeps.refl _ _).grown hg4 (by simp)
  have k5:Keeps [mb] w4 w5:=(Keeps.refl _ _).grown hg5 (by simp)
  simp only [if_true,hsome,Option.isSome_some] at hm5
  rw [<-full_drop_last hx he h2 hone,<-manyF_drop_last hx he hone] at hm5
  exact hpost W3 w5 ha3 hk3 hm5 (k4.trans k5 (by simp))
 have hend2:∀W3 w4:World,Arr W3 448 3 cap gs (cellV (put E x none))->Keeps [gs] w W3->1<count E cap h->W3.grownBy w4 (some mb) ->
   IMap Tryz.prog 3 w4 mb (if (manyF E cap (h:Int)).isSome then full E cap hs else full E cap hs+1) (fun z=>if z=(h:Int) then some ((count E cap h:Int) - 1) else manyF E cap z) ->
   CellsAt w4 [p,gs,pn,gn,mb] p cap hs (put E x none)∧Keeps [p,gs,pn,gn,mb] w w4:=by
  intro W3 w4 ha3 hk3 hmore hg4 hm4
  have k4:Keeps [mb] W3 w4:=(Keeps.refl _ _).grown hg4 (by simp)
  rw [if_pos hsome,<-full_drop_more hx he hmore (hs:=hs),<-manyF_drop_more hx he hmore] at hm4
  exact hpost W3 w4 ha3 hk3 hm4 k4
 go_enter Tryz.func312,Tryz.ntmps312
 generalize hN:count E cap h=N at hend hend2 hv hcount hpos
 have HK3:=Lib.hid hK3
 have HEND:=Lib.hid hend
 have HEND2:=Lib.hid hend2
 have HFULL:=Lib.hid hfull
 have HC3:=Lib.hid hc3
 have HS:=Lib.hid hsome
 have HV:=Lib.hid hv
 have HM5:(if (manyF E cap (h:Int)).isSome then full E cap hs else full E cap hs+1)<maxLen:=by rw [if_pos hsome];exact hfull
 have HM6:=Lib.hid HM5
 clear hb ha hn hm hnd hok hs0 hs1 hlt he hK3 hpost hend hend2 hfull hc3 hsome hN hv HM5
 go_upto_region 5 with (first
  | (go_at_call 302;refine hhome.mono ?_;rintro e w' ⟨rfl,n,rfl⟩))
 obtain ⟨c4,hm3,ha3,hk3⟩:=HK3.out ((((w.drewN n).setCell ⟨gs,x*3,none⟩ (.int .i64 0)).setCell ⟨gs,x*3+1,none⟩ (.int .i64 0)).setCell ⟨gs,x*3+2,none⟩ (.int .u64 0)) _ rfl rfl rfl rfl rfl
 generalize (((w.drewN n).setCell ⟨gs,x*3,none⟩ (.int .i64 0)).setCell ⟨gs,x*3+1,none⟩ (.int .i64 0)).setCell ⟨gs,x*3+2,none⟩ (.int .u64 0)=W3 at *
 have hp3:p<W3.heap.size:=Nat.lt_of_lt_of_le hpl hk3.size
 have HM3:=Lib.hid hm3
 clear HK3 c1 c3 f0 f1 f2 d0 d1 d2 hm3 n1
 go_upto_region 6 with (first
  | (at_lookup;refine wpList_imap_look rfl _ _ rfl mapTy mb _ _ rfl HM3.out (h:Int) rfl (WalkArith.wf_i64 (by omega)) ?_;rw [HV.out])
  | (at_mapUpdate;refine wpList_imap_put rfl _ _ _ rfl mapTy mb _ _ rfl HM3.out HFULL.out (h:Int) ((N:Int) - 1) rfl rfl (WalkArith.wf_i64 (by omega)) (WalkArith.wf_i64 (by omega)) ?_;intro w4 hm4 hg4))
 have e4:=HC3.out _ _ hg4 c4 hp3
 have HM4:=Lib.hid hm4
 have HG4:=Lib.hid hg4
 clear hm4 hg4 c4 hp3
 by_cases hone:N=1
 .subst hone
  go_upto_region 7 with (first
   | (at_lookup;refine wpList_imap_look rfl _ _ rfl mapTy mb _ _ rfl HM4.out (h:Int) rfl (WalkArith.wf_i64 (by omega)) ?_))
  go_wp2_with (first
   | (at_delete;go_loud (refine wpList_imap_del rfl _ _ rfl mapTy mb _ _ rfl HM4.out (h:Int) rfl (WalkArith.wf_i64 (by omega)) ?_;intro w5 hm5 hg5;have HM5:=Lib.hid hm5;have HG5:=Lib.hid hg5;clear hm5 hg5)))
  go_ret
  exact ⟨rfl,HEND.out W3 w4 w5 ha3 hk3 (by simp) HG4.out HG5.out HM5.out⟩
 .have hne:((N:Int) - 1==0)=false:=by rw [beq_eq_false_iff_ne];omega
  have hmore:1<N:=by omega
  clear hone
  go_wp2_with (first
   | (at_lookup;refine wpList_imap_look rfl _ _ rfl mapTy mb _ _ rfl HM4.out (h:Int) rfl (WalkArith.wf_i64 (by omega)) ?_))
  go_ret
  exact ⟨rfl,HEND2.out W3 w4 ha3 hk3 hmore HG4.out HM4.out⟩
end
end Go.Proofs.YtkdbjelhkfdfjaaGreatDoor
namespace Go.Proofs.YtkdbjelhkfdfjaaGreatDoor.Rg
open Go.RowKit
theorem part_yes (w:World) (p gn gp:Nat) (N P:List Nat) (h:RingAt w p gn gp N P) (hN:N.length<70000) (x:Nat) (hx:x<N.length) (hy:fn P x<N.length) (ha:fn N x<N.length) (hb:fn N (fn P x)<N.length) (hne:x≠fn P x->fn N x≠fn N (fn P x)) :
  Calls Tryz.prog 390 #[.pointer (some ⟨p,0,none⟩),.int .i64 x] w fun e w'=>e=.returned (.bool true)∧Left w p gn gp (nextS N x (fn P x)) (prevS N P x (fn P x)) w':=by
 obtain ⟨_,c1⟩:=h.head
 obtain ⟨d0,_⟩:=h.q x hx
 go_enter Tryz.func390,Tryz.ntmps390
 go_wp2_with fail
 refine (has_yes w p gn gp N P h x hx).mono ?_
 rintro e w' ⟨rfl,rfl⟩
 go_wp2_with fail
 refine (splice_yes w p gn gp N P h hN x (fn P x) hx hy ha hb hne).mono ?_
 rintro e w' ⟨rfl,hl⟩
 go_wp2
 go_ret
 exact ⟨rfl,hl⟩
def laid (n i:Nat):List Nat:=(List.range n).map fun j=>if j<i then j else 0
theorem laid_len (n i:Nat):(laid n i).length=n:=by simp [laid]
theorem laid_zero (n:Nat):laid n 0=List.replicate n 0:=by
 apply List.ext_getElem (by simp [laid])
 intro j h1 h2
 simp [laid]
theorem laid_all (n:Nat):laid n n=List.range n:=by
 apply List.ext_getElem (by simp [laid])
 intro j h1 h2
 simp at h2
 simp [laid,h2]
theorem laid_set (n i:Nat):(laid n i).set i i=laid n (i+1):=by
 apply List.ext_getElem (by simp [laid])
 intro j h1 h2
 rw [List.getElem_set]
 simp only [laid,List.getElem_map,List.getElem_range]
 by_cases e:i=j
 .subst e;simp
 .have:(j<i+1)=(j<i):=by rw [eq_iff_iff];omega
  simp only [if_neg e,this]
theorem made_row (w:World) (n:Nat) (hn:n<=65536):(w.alloc (.cells (madeCells #[.int .i64 0] n) 3)).ownsRow 0 3 1 (.slice (some ⟨w.heap.size,0,none⟩) n n) n (nCells (List.replicate n 0)):=by
 refine ⟨by simp [nCells],.inr ⟨w.heap.size,n,madeCells #[.int .i64 0] n,rfl,Nat.zero_le _,blk_alloc_new _,Nat.le_refl _,by unfold maxLen;omega,by simp [size_madeCells],?_⟩⟩
 apply List.ext_getElem (by simp [nCells,size_madeCells])
 intro j h1 h2
 simp [madeCells,nCells,Nat.mod_one]
theorem init_at (w:World) (n:Nat) (hn:n<=65536) (a b:Nat) (hab:a=w.heap.size∧b=w.heap.size+1∨a=w.heap.size+1∧b=w.heap.size) :
  RingAt (((w.alloc (.cells (madeCells #[.int .i64 0] n) 3)).alloc (.cells (madeCells #[.int .i64 0] n) 3)).alloc (.cells #[.slice (some ⟨a,0,none⟩) n n,.slice (some ⟨b,0,none⟩) n n] 267)).drew (w.heap.size+1+1) a b (laid n 0) (laid n 0):=by
 have r1:=made_row w n hn
 have r2:=made_row (w.alloc (.cells (madeCells #[.int .i64 0] n) 3)) n hn
 have s1:=(r1.alloc (.cells (madeCells #[.int .i64 0] n) 3)).alloc (.cells #[.slice (some ⟨a,0,none⟩) n n,.slice (some ⟨b,0,none⟩) n n] 267)
 have s2:=r2.alloc (.cells #[.slice (some ⟨a,0,none⟩) n n,.slice (some ⟨b,0,none⟩) n n] 267)
 have s2:(((w.alloc (.cells (madeCells #[.int .i64 0] n) 3)).alloc (.cells (madeCells #[.int .i64 0] n) 3)).alloc (.cells #[.slice (some ⟨a,0,none⟩) n n,.slice (some ⟨b,0,none⟩) n n] 267)).ownsRow 0 3 1 (.slice (some ⟨w.heap.size+1,0,none⟩) n n) n (nCells (List.replicate n 0)):=by simpa using s2
 rw [<-laid_zero] at s1 s2
 have hl:=laid_len n 0
 have hb:=blk_alloc_new (w:=((w.alloc (.cells (madeCells #[.int .i64 0] n) 3)).alloc (.cells (madeCells #[.int .i64 0] n) 3))) (.cells #[.slice (some ⟨a,0,none⟩) n n,.slice (some ⟨b,0,none⟩) n n] 267)
 have h0:RingAt (((w.alloc (.cells (madeCells #[.int .i64 0] n) 3)).alloc (.cells (madeCells #[.int .i64 0] n) 3)).alloc (.cells #[.slice (some ⟨a,0,none⟩) n n,.slice (some ⟨b,0,none⟩) n n] 267)) (w.heap.size+1+1) a b (laid n 0) (laid n 0):=by
  rcases hab with ⟨rfl,rfl⟩|⟨rfl,rfl⟩
  .exact ⟨by rw [hl];simpa using hb,by rw [hl];exact s1,by rw [hl];exact s2,by omega,rfl⟩
  .exact ⟨by rw [hl];simpa using hb,by rw [hl];exact s2,by rw [hl];exact s1,by omega,rfl⟩
 exact h0.like rfl
theorem init_below (w:World) (o1 o2 o3:Obj):Below w.heap.size w (((w.alloc o1).alloc o2).alloc o3).drew :=
 ((((Below.refl _ w).alloc (Nat.le_refl _) _).alloc (by simp) _).alloc (by simp;omega) _).drew
def NewDone (w:World) (n:Nat) (e:Ending) (w':World):Prop :=
 ∃p gn gp,e=.returned (.tuple #[.pointer (some ⟨p,0,none⟩),.int .i64 0])∧RingAt w' p gn gp (List.range n) (List.range n)∧Below w.heap.size w w'∧w.heap.size<=p∧w.heap.size<=gn∧w.heap.size<=gp
theorem new_yes (w:World) (n:Nat) (hn:n<=65536) :
  Calls Tryz.prog 90 #[.int .i64 n] w (NewDone w n):=by
 have hm:=fun (u:World)=>run_make_row' (P:=Tryz.prog) 28 3 (.int .i64 0) 8 Tryz.underlying28 Tryz.infoInt rfl .i64 .i64 n (by omega) (by omega) u
 have b1:decide ((n:Int)<0)=false:=by rw [decide_eq_false_iff_not];omega
 have b2:decide (65536<(n:Int))=false:=by rw [decide_eq_false_iff_not];omega
 go_enter Tryz.func90,Tryz.ntmps90
 go_wp2_with fail
 go_region
 all_goals
  go_wp2_with fail
  go_loopg [19] (n+1) (fun m s wr=>∃i gn gp:Nat,i<=n∧m+i=n+1∧s=.int .i64 i∧RingAt wr (w.heap.size+1+1) gn gp (laid n i) (laid n i)∧Below w.heap.size w wr∧w.heap.size<=gn∧w.heap.size<=gp)
  case atStart=>first
   | exact ⟨0,_,_,by omega,by omega,rfl,init_at w n hn w.heap.size (w.heap.size+1) (.inl ⟨rfl,rfl⟩),init_below _ _ _ _,by omega,by omega⟩
   | exact ⟨0,_,_,by omega,by omega,rfl,init_at w n hn (w.heap.size+1) w.heap.size (.inr ⟨rfl,rfl⟩),init_below _ _ _ _,by omega,by omega⟩
  case round =>
   clear hm
   obtain ⟨i,gn,gp,hi,hgk,rfl,hr,hbel,b3,b4⟩:=hrel
   have HG:=Lib.hid hgk
   clear hgk
   have hl:=laid_len n i
   by_cases hlt:i<n
   .obtain ⟨c0,c1⟩:=hr.head
    obtain ⟨d0,f0⟩:=hr.n i (by omega)
    obtain ⟨d1,f1⟩:=hr.q i (by omega)
    obtain ⟨n1,n2,n3⟩:=hr.ne
    rw [hl] at c0 c1
    have r1:=row_set hr.rn i (by omega) (.int .i64 (i:Int))
    have r2:=row_set hr.rp i (by omega) (.int .i64 (i:Int))
    rw [<-nCells_set,laid_set] at r1 r2
    have hfin:RingAt ((wr.setCell ⟨gn,i,none⟩ (.int .i64 (i:Int))).setCell ⟨gp,i,none⟩ (.int .i64 (i:Int))) (w.heap.size+1+1) gn gp (laid n (i+1)) (laid n (i+1)):=by
     have k1:Keeps [gn] wr (wr.setCell ⟨gn,i,none⟩ (.int .i64 (i:Int))):=(Keeps.refl _ _).setCell (.inl (by simp)) _
     have k2:Keeps [gp] (wr.setCell ⟨gn,i,none⟩ (.int .i64 (i:Int))) ((wr.setCell ⟨gn,i,none⟩ (.int .i64 (i:Int))).setCell ⟨gp,i,none⟩ (.int .i64 (i:Int))):=(Keeps.refl _ _).setCell (.inl (by simp)) _
     have l2:=laid_len n (i+1)
     refine ⟨?_,?_,?_,hr.ne,rfl⟩
     .rw [l2]
      have:=hr.blk
      rw [hl] at this
      exact k2.blk (k1.blk this (by simpa using Ne.symm n1)) (by simpa using Ne.symm n2)
     .rw [l2]
      rw [hl] at r1
      exact k2.row r1 (by simpa using n3)
     .rw [l2]
      have:=row_set (k1.row hr.rp (by simpa using Ne.symm n3)) i (by omega) (.int .i64 (i:Int))
      rw [<-nCells_set,laid_set,hl] at this
      exact this
    have hb9:Below w.heap.size w ((wr.setCell ⟨gn,i,none⟩ (.int .i64 (i:Int))).setCell ⟨gp,i,none⟩ (.int .i64 (i:Int))):=(hbel.setCell b3 _).setCell b4 _
    clear r1 r2 hr hbel
    go_wp2_with fail
    go_region
    go_wp2_with fail
    go_roundg (gk - 1)
    case measure=>have:=HG.out;omega
    case rel=>exact ⟨i+1,gn,gp,by omega,by have:=HG.out;omega,by go_num,hfin.like rfl,hb9.trans ⟨rfl,rfl,rfl,Nat.le_refl _,fun _ _=>rfl⟩,b3,b4⟩
   .obtain rfl:i=n:=by omega
    rw [laid_all] at hr
    go_wp2
    go_ret2
    exact ⟨_,gn,gp,rfl,hr,hbel,by omega,b3,b4⟩
theorem new_no (w:World) (n:Int) (h:n<0∨65536<n) :
  Calls Tryz.prog 90 #[.int .i64 n] w fun e w'=>e=.returned (.tuple #[.pointer none,.int .i64 31])∧w=w':=by
 by_cases h1:n<0
 .clear h
  go_enter Tryz.func90,Tryz.ntmps90
  go_wp2
  go_ret2
  exact ⟨rfl,rfl⟩
 .have h2:65536<n:=by omega
  clear h
  go_enter Tryz.func90,Tryz.ntmps90
  go_wp2
  go_ret2
  exact ⟨rfl,rfl⟩
end Go.Proofs.YtkdbjelhkfdfjaaGreatDoor.Rg

