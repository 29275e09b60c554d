/-
  Contracts that the law rests on. Conditions: none.
-/
import Derived.Test.YtkdbjelhkfdfjaaGreatDoorLo10
import Derived.Test.YtkdbjelhkfdfjaaGreatDoorLo22
set_option linter.unusedVariables false
set_option maxRecDepth 100000
set_option maxHeartbeats 32000000
namespace Go.Proofs.YtkdbjelhkfdfjaaGreatDoor
open Go.RowKit
theorem RowRaw.like {w w':World} {p d cap mb c:Nat} {ao:Option Addr} {Lm:List Nat} {f:Int->Option Int} (h:RowRaw w p d ao cap mb Lm c f) (e:w'.heap=w.heap):RowRaw w' p d ao cap mb Lm c f :=
 ⟨by rw [e];exact h.blk,by
  refine ⟨h.row.1,?_⟩
  rw [e];exact h.row.2,h.map.blk (by rw [e]),h.ne,h.na⟩
theorem RowRaw.pop {w:World} {p d cap mb c m:Nat} {ao:Option Addr} {Lm:List Nat} {f:Int->Option Int} (h:RowRaw w p d ao cap mb Lm c f) (hl:Lm.length=m+1) :
  RowRaw (w.setCell ⟨p,1,none⟩ (.slice ao m cap)) p d ao cap mb (Lm.take m) c f:=by
 have hk:Keeps [p] w (w.setCell ⟨p,1,none⟩ (.slice ao m cap)):=(Keeps.refl _ _).setCell (.inl (by simp)) _
 have hlt:(Lm.take m).length=m:=by simp;omega
 refine ⟨?_,?_,h.map.keep hk (by simpa using h.ne.symm),h.ne,h.na⟩
 .rw [hlt,blk_setCell _ h.blk];simp
 .have hr:=ir_keep h.row hk (fun x hx=>by simpa using (h.na x hx).1)
  rcases hr.2 with ⟨h0,h1⟩|⟨g',cap',cur,hv,hb,hh,r1,r2,r3,r4⟩
  .omega
  .cases hv
   refine ⟨by simp [Rg.nCells],.inr ⟨g',cap,cur,by rw [hlt],hb,hh,by omega,r2,r3,?_⟩⟩
   rw [Nat.mul_one] at r4 ⊢
   have e:cur.toList.take (Lm.take m).length=(cur.toList.take Lm.length).take m:=by rw [List.take_take,hlt,Nat.min_eq_left (by omega)]
   rw [e,r4];simp [Rg.nCells,List.map_take]
theorem RowRaw.push {w w4:World} {p d cap mb c g' cap' x:Nat} {ao:Option Addr} {Lm:List Nat} {f:Int->Option Int} (h:RowRaw w p d ao cap mb Lm c f)
  (hr:w4.ownsRow 0 3 1 (.slice (some ⟨g',0,none⟩) (Lm.length+1) cap') (Lm.length+1) (Rg.nCells Lm++[.int .i64 (x:Int)]))
  (hk:Keeps (Value.slice ao Lm.length cap).ownBlock.toList w w4) (hf:(Value.slice ao Lm.length cap).ownBlock=some g'∨w.heap.size<=g') :
  RowRaw (w4.setCell ⟨p,1,none⟩ (.slice (some ⟨g',0,none⟩) (Lm.length+1) cap')) p d (some ⟨g',0,none⟩) cap' mb (Lm++[x]) c f ∧
   Keeps (rfp p mb ao) w (w4.setCell ⟨p,1,none⟩ (.slice (some ⟨g',0,none⟩) (Lm.length+1) cap'))∧(∀b∈rfp p mb (some ⟨g',0,none⟩),b∈rfp p mb ao∨w.heap.size<=b):=by
 have hown:∀b∈(Value.slice ao Lm.length cap).ownBlock.toList,∃x,ao=some x∧x.block=b:=by
  intro b hb
  cases ao with
  | none=>simp [Value.ownBlock] at hb
  | some a =>
   obtain ⟨b',o',i'⟩:=a
   refine ⟨_,rfl,?_⟩
   simp [Value.ownBlock] at hb
   exact hb.symm
 have hpl:=h.lt p (by simp [rfp])
 have hml:=h.lt mb (by simp [rfp])
 have hp4:p∉(Value.slice ao Lm.length cap).ownBlock.toList:=fun e=>by obtain ⟨x,e1,e2⟩:=hown p e;exact (h.na x e1).1 e2
 have hm4:mb∉(Value.slice ao Lm.length cap).ownBlock.toList:=fun e=>by obtain ⟨x,e1,e2⟩:=hown mb e;exact (h.na x e1).2 e2
 have hgp:g'≠p∧g'≠mb:=by
  rcases hf with e|e
  .obtain ⟨x,e1,e2⟩:=hown g' (by simp [e])
   rw [<-e2];exact h.na x e1
  .omega
 have k2:Keeps [p] w4 (w4.setCell ⟨p,1,none⟩ (.slice (some ⟨g',0,none⟩) (Lm.length+1) cap')):=(Keeps.refl _ _).setCell (.inl (by simp)) _
 refine ⟨⟨?_,?_,(h.map.keep hk hm4).keep k2 (by simpa using h.ne.symm),h.ne,fun x e=>by cases e;exact hgp⟩,?_,?_⟩
 .rw [blk_setCell _ (hk.blk h.blk hp4)];simp
 .have:=Rg.IR.pushed (B:=0) (L:=Lm) (x:=x) hr (Nat.zero_le _)
  have h2:=ir_keep this k2 (fun x e=>by cases e;simpa using hgp.1)
  simpa using h2
 .refine (hk.mono (T:=rfp p mb ao) fun b hb=>.inl ?_).trans k2 (by simp [rfp])
  obtain ⟨x,e1,e2⟩:=hown b hb
  simp [rfp,e1,e2]
 .intro b hb
  simp only [rfp,Option.toList_some,List.map_cons,List.map_nil,List.mem_cons,List.not_mem_nil,or_false] at hb
  rcases hb with rfl|rfl|rfl
  .exact .inl (by simp [rfp])
  .exact .inl (by simp [rfp])
  .rcases hf with e|e
   .obtain ⟨x,e1,e2⟩:=hown b (by simp [e])
    exact .inl (by simp [rfp,e1,e2])
   .exact .inr e
section
variable (w:World) (pn pc:Nat) (Fc:List Nat) (cap hs:Nat) (E:Ent) (p d:Nat) (ao:Option Addr) (ca mb n:Nat)
def AddDone (v:Nat->Nat) (x:Nat) (e:Ending) (w':World):Prop :=
 ∃(ao':Option Addr) (ca':Nat) (v':Nat->Nat),e=.returned (.bool true)∧RowFull w' p d ao' ca' mb (n+1) v'∧OrdAt w' pn pc Fc cap hs E∧Inj v' (n+1)∧(∀z,(∃j,j<n+1∧v' j=z)↔z=x∨∃j,j<n∧v j=z)∧Heap' d (ahead E) v' (n+1) ∧
  Keeps (rfp p mb ao++Fc) w w'∧(∀b∈rfp p mb ao',b∈rfp p mb ao∨w.heap.size<=b)
theorem row_add (v:Nat->Nat) (x:Nat) (hr:RowFull w p d ao ca mb n v) (ho:OrdAt w pn pc Fc cap hs E) (hv:Inj v n) (hE:∀j,j<n->(E (v j)).isSome) (hEx:(E x).isSome) (hx:∀j,j<n->v j≠x) (hn:n+1<=65536) (hd1:2<=d) (hd2:d<=16)
  (hh:Heap' d (ahead E) v n) (hap:∀b∈rfp p mb ao,b∉pn::Fc) :
  Calls Tryz.prog 317 #[.pointer (some ⟨p,0,none⟩),.iface 148 (.pointer (some ⟨pn,0,none⟩)),.int .i64 x] w (AddDone w pn pc Fc cap hs E p d ao mb n v x):=by
 have hbc:=ho.ce.ok.bc
 have hxc:=ho.ce.ok.lt x hEx
 obtain ⟨Lm,r,hl,hlv⟩:=hr
 have hlt:=r.lt
 have c1:=r.c1
 have c2:=r.c2
 have hrow:w.ownsRow 0 3 1 (.slice ao n ca) n (Rg.nCells Lm):=by
  have:=r.row
  unfold Rg.IR at this
  rwa [hl] at this
 have f1:w.frozen? ⟨p,1,none⟩=false:=frozen_of_blk r.blk
 have HM:=Lib.hid r.map
 have HNO:=Lib.hid (posF_no hx)
 obtain ⟨ha1,ha2⟩:=hole_add hv hx
 have hmid:∀(w4:World) (g' cap':Nat),w4.ownsRow 0 3 1 (.slice (some ⟨g',0,none⟩) (n+1) cap') (n+1) (Rg.nCells Lm++[.int .i64 (x:Int)])->Keeps (Value.slice ao n ca).ownBlock.toList w w4->((Value.slice ao n ca).ownBlock=some g'∨w.heap.size<=g') ->
   w4.frozen? ⟨p,1,none⟩=false∧(∃u,w4.cell? ⟨p,1,none⟩=some u)∧RowHole (w4.setCell ⟨p,1,none⟩ (.slice (some ⟨g',0,none⟩) (n+1) cap')) p d (some ⟨g',0,none⟩) cap' mb (n+1) (fun k=>if k=n then x else v k) n none ∧
   OrdAt (w4.setCell ⟨p,1,none⟩ (.slice (some ⟨g',0,none⟩) (n+1) cap')) pn pc Fc cap hs E∧Keeps (rfp p mb ao) w (w4.setCell ⟨p,1,none⟩ (.slice (some ⟨g',0,none⟩) (n+1) cap'))∧(∀b∈rfp p mb (some ⟨g',0,none⟩),b∈rfp p mb ao∨w.heap.size<=b):=by
  intro w4 g' cap' h1 h2 h3
  obtain ⟨q1,q2,q3⟩:=RowRaw.push (g':=g') (cap':=cap') (x:=x) (w4:=w4) r (by rw [hl];exact h1) (by rw [hl];exact h2) (by rw [hl];exact h3)
  rw [hl] at q1 q2
  have hp4:p∉(Value.slice ao n ca).ownBlock.toList:=by
   intro e
   cases ao with
   | none=>simp [Value.ownBlock] at e
   | some a =>
    obtain ⟨b',o',i'⟩:=a
    have:=(r.na _ rfl).1
    simp [Value.ownBlock] at e
    exact this e.symm
  have b4:=h2.blk r.blk hp4
  refine ⟨frozen_of_blk b4,⟨_,by rw [cell_of_blk b4];rfl⟩,⟨Lm++[x],n,?_,by simp [hl],?_,by simp⟩,ho.keep q2 (fun b hb e=>hap b e hb),q2,q3⟩
  .rw [<-ha1];exact q1
  .intro j hj hjn
   have hjl:j<n:=by omega
   simp only [if_neg hjn]
   rw [<-hlv j hjl]
   simp [Rg.fn,List.getD,List.getElem?_append_left (show j<Lm.length by omega)]
 have hE':∀j,j<n+1->(E ((fun k=>if k=n then x else v k) j)).isSome:=by
  intro j hj
  by_cases e:j=n
  .simp only [if_pos e];exact hEx
  .simp only [if_neg e];exact hE j (by omega)
 have hat:=hh.at_end hd1 x
 have hap2:∀g',(∀b∈rfp p mb (some ⟨g',0,none⟩),b∈rfp p mb ao∨w.heap.size<=b)->∀b∈rfp p mb (some ⟨g',0,none⟩),b∉pn::Fc:=by
  intro g' h b hb
  rcases h b hb with c|c
  .exact hap b c
  .intro e
   simp only [List.mem_cons] at e
   rcases e with rfl|e
   .have:=ho.lt;omega
   .have:=ho.ce.lt b e;omega
 have HMID:=Lib.hid hmid
 have HAT:=Lib.hid hat
 have HE':=Lib.hid hE'
 have HAP2:=Lib.hid hap2
 have HL:=Lib.hid hl
 have HLT:=Lib.hid hlt
 rw [hl] at c1
 clear hmid hat hE' hap2 r hlv hl hlt hx hh hv hE hap ha1 ho
 go_enter Tryz.func317,Tryz.ntmps317
 go_upto_region 4 with (first
  | (at_lookup;refine wpList_imap_look_ok rfl _ _ rfl mapTy mb _ _ rfl HM.out (x:Int) rfl (WalkArith.wf_i64 (by omega)) ?_;rw [HNO.out]))
 go_upto_region 5 with (first
  | (at_builtin;refine wpList_push _ 3 (.int .i64 (x:Int)) (0,0) rfl (.tmp 23) (.tmp 25) 28 rfl (.int .i64 0) 8 Tryz.underlying28 Rg.Tryz.infoInt rfl rfl _ n (Rg.nCells Lm) (by simp [Act.eval]) hrow (by simp [Act.eval]) (by unfold maxLen;omega) (by omega) ?_;intro g' cap' w4 hr4 hk4 hf4;obtain ⟨f4,⟨u4,c4⟩,hh4,ho4,kp4,fp4⟩:=HMID.out w4 g' cap' hr4 hk4 hf4;clear hr4 hk4 hf4))
 generalize w4.setCell ⟨p,1,none⟩ (.slice (some ⟨g',0,none⟩) (n+1) cap')=w5 at *
 have d1:=hh4.c1
 have hup:=row_up w5 pn pc Fc cap hs E p d (some ⟨g',0,none⟩) cap' mb (n+1) _ n none hh4 ho4 ha2 HE'.out (by omega) (by omega) hd1 hd2 HAT.out (HAP2.out g' fp4)
 simp only [if_true] at hup
 clear c4 f4 c1 c2 f1
 go_wp2_with (go_at_call 324;refine hup.mono ?_;rintro e w6 ⟨i',v',rfl,hi',hf6,ho6,hv6,hs6,hk6,hres⟩)
 go_ret
 have hd6:Ord (ahead E) v' (n+1):=ordOf hv6 (fun j hj=>by obtain ⟨k,hk,e⟩:=(hs6 (v' j)).1 ⟨j,hj,rfl⟩;rw [<-e];exact HE'.out k hk)
 refine ⟨some ⟨g',0,none⟩,cap',v',rfl,hf6,ho6,hv6,?_,?_,?_,fp4⟩
 .intro z
  rw [hs6 z]
  constructor
  .rintro ⟨j,hj,e⟩
   simp only at e
   by_cases c:j=n
   .rw [if_pos c] at e;exact .inl e.symm
   .rw [if_neg c] at e;exact .inr ⟨j,by omega,e⟩
  .rintro (rfl|⟨j,hj,e⟩)
   .exact ⟨n,by omega,by simp⟩
   .exact ⟨j,by omega,by simp only [if_neg (show j≠n by omega)];exact e⟩
 .rcases hres with ⟨rfl,rfl,hst⟩|⟨_,hh⟩
  .refine (HAT.out.down hd1 hd6 (by omega) ?_).last hd1 (by omega)
   simpa using hst
  .exact hh
 .refine kp4.mono (fun b hb=>.inl (by simp [hb])) |>.trans hk6 (fun b hb=>?_)
  simp only [List.mem_append] at hb ⊢
  rcases hb with hb|hb
  .rcases fp4 b hb with c|c
   .exact .inl (.inl c)
   .exact .inr c
  .exact .inl (.inr hb)
end
section
variable (w:World) (F:List Nat) (p cap hs:Nat) (E:Ent)
theorem dary_min_yes (c:DaryAt w F p cap hs E) (h:Nat) (h1:1<=h) (h2:h<=hs) (hi:∃y,isIn E h y) :
  Calls Tryz.prog 307 #[.pointer (some ⟨p,0,none⟩),.int .i64 h] w fun e w'=>(∃x:Nat,e=.returned (.tuple #[.int .i64 x,.bool true])∧least E h x)∧w=w':=by
 obtain ⟨pc,gr,rc,d,Fc,R,rfl,m⟩:=c
 have hhas:=cells_has w Fc pc cap hs E m.ce h
 rw [decide_eq_true (by omega)] at hhas
 have c0:=m.c0
 have c2:=m.c2
 have c3:=m.row h1 h2
 have hok:=m.ok h h1 h2
 obtain ⟨Lm,r,hl,hlv⟩:=m.mem h h1 h2
 have hn:0<(R h).n:=by
  obtain ⟨y,hy⟩:=hi
  obtain ⟨j,hj,_⟩:=(hok.mem y).1 hy
  omega
 have hat:=rw_at w _ _ _ _ _ Lm _ _ r (by omega)
 rw [hlv 0 hn] at hat
 have hord:Ord (ahead E) (R h).v (R h).n:=ordOf hok.inj (m.isSome h1 h2)
 have hl:=hok.heap.least m.d1 hord hn hok.mem
 have HL:=Lib.hid hl
 have hhs3:(h:Int)<((hs+1:Nat):Int):=by omega
 clear hl hok r hlv hn hord m hi
 go_enter Tryz.func307,Tryz.ntmps307
 go_wp2_with (first
  | (go_at_call 301;refine hhas.mono ?_;rintro e w' ⟨rfl,rfl⟩)
  | (go_at_call 322;refine hat.mono ?_;rintro e w' ⟨rfl,rfl⟩))
 go_ret2
 exact ⟨⟨_,rfl,HL.out⟩,rfl⟩
theorem dary_min_no (c:DaryAt w F p cap hs E) (h:Nat) (h1:1<=h) (h2:h<=hs) (hi:∀y,¬isIn E h y) :
  Calls Tryz.prog 307 #[.pointer (some ⟨p,0,none⟩),.int .i64 h] w fun e w'=>e=.returned (.tuple #[.int .i64 0,.bool false])∧w=w':=by
 obtain ⟨pc,gr,rc,d,Fc,R,rfl,m⟩:=c
 have hhas:=cells_has w Fc pc cap hs E m.ce h
 rw [decide_eq_true (by omega)] at hhas
 have c0:=m.c0
 have c2:=m.c2
 have c3:=m.row h1 h2
 have hok:=m.ok h h1 h2
 obtain ⟨Lm,r,hl,hlv⟩:=m.mem h h1 h2
 have hn:(R h).n=0:=by
  rcases Nat.eq_zero_or_pos (R h).n with e|e
  .exact e
  .exact absurd ((hok.mem _).2 ⟨0,e,rfl⟩) (hi _)
 have hat:=rw_at_no w _ _ _ _ _ Lm _ _ r (by omega)
 have hhs3:(h:Int)<((hs+1:Nat):Int):=by omega
 clear hl hok r hlv hn m hi
 go_enter Tryz.func307,Tryz.ntmps307
 go_wp2_with (first
  | (go_at_call 301;refine hhas.mono ?_;rintro e w' ⟨rfl,rfl⟩)
  | (go_at_call 322;refine hat.mono ?_;rintro e w' ⟨rfl,rfl⟩))
 go_ret2
 exact ⟨rfl,rfl⟩
def DaryIn (w:World) (F:List Nat) (p cap hs:Nat) (E':Ent) (e:Ending) (w':World):Prop:=e=.returned (.bool true)∧∃F',DaryAt w' F' p cap hs E'∧Moved F w F' w'
theorem dary_insert (c:DaryAt w F p cap hs E) (h x q:Nat) (k:Int) (h1:1<=h) (h2:h<=hs) (hx:x<cap) (he:E x=none) (hk:(Lit.int .i64 k).wf=true) (hq:(Lit.int .u64 (q:Int)).wf=true) :
  Calls Tryz.prog 303 #[.pointer (some ⟨p,0,none⟩),.int .i64 h,.int .i64 x,.agg #[.int .i64 k,.int .u64 (q:Int)]] w (DaryIn w F p cap hs (put E x (some (h,k,q)))):=by
 have hlt:=c.lt
 obtain ⟨pc,gr,rc,d,Fc,R,rfl,m⟩:=c
 have hbc:=m.ce.ok.bc
 have hb0:Below w.heap.size w (w.alloc (.cells #[.int .i64 k,.int .u64 (q:Int)] 104)):=(Below.refl _ w).alloc (Nat.le_refl _) _
 have e0:(w.alloc (.cells #[.int .i64 k,.int .u64 (q:Int)] 104)).cell? ⟨w.heap.size,0,none⟩=some (.int .i64 k):=by rw [cell_of_blk (blk_alloc_new _)];rfl
 have e1:(w.alloc (.cells #[.int .i64 k,.int .u64 (q:Int)] 104)).cell? ⟨w.heap.size,1,none⟩=some (.int .u64 (q:Int)):=by rw [cell_of_blk (blk_alloc_new _)];rfl
 have m0:=m.keep (S:=[]) (Below.keeps hb0 (Nat.le_refl _) []) (by simp)
 have hw0:w.heap.size<(w.alloc (.cells #[.int .i64 k,.int .u64 (q:Int)] 104)).heap.size:=by simp
 have hkw:Keeps [] w (w.alloc (.cells #[.int .i64 k,.int .u64 (q:Int)] 104)):=Below.keeps hb0 (Nat.le_refl _) []
 have hhs3:(h:Int)<((hs+1:Nat):Int):=by omega
 have hhs4:(h:Int)<(hs:Int)+1:=by omega
 have hmv:=Moved.below hlt hb0
 have hnx:∀j,j<(R h).n->(R h).v j≠x:=fun j hj e=>by have:=m.isSome h1 h2 j hj;rw [e,he] at this;cases this
 clear m
 go_enter Tryz.func303,Tryz.ntmps303
 go_upto_region 1 with fail
 generalize hW0:w.alloc (.cells #[.int .i64 k,.int .u64 (q:Int)] 104)=w0 at *
 clear hW0
 have d0:=m0.c0
 have d2:=m0.c2
 have d3:=m0.row h1 h2
 have hS:∀u,Keeps ((R h).fp++Fc) w0 u->u.cell? ⟨p,0,none⟩=some (.pointer (some ⟨pc,0,none⟩))∧u.cell? ⟨p,2,none⟩=some (.slice (some ⟨gr,0,none⟩) (hs+1) rc)∧u.cell? ⟨gr,h,none⟩=some (.pointer (some ⟨(R h).p,0,none⟩))∧u.cell? ⟨w.heap.size,0,none⟩=some (.int .i64 k)∧u.cell? ⟨w.heap.size,1,none⟩=some (.int .u64 (q:Int)):=fun u kk =>
  have hp:p∉(R h).fp++Fc:=fun e=>by rcases List.mem_append.1 e with e|e;exact (m0.own h h1 h2 p e).1 rfl;exact m0.ne.2.1 e
  have hg:gr∉(R h).fp++Fc:=fun e=>by rcases List.mem_append.1 e with e|e;exact (m0.own h h1 h2 gr e).2.1 rfl;exact m0.ne.2.2 e
  have hz:w.heap.size∉(R h).fp++Fc:=fun e=>Nat.lt_irrefl _ (hlt _ (nestF_mem.2 (by rcases List.mem_append.1 e with e|e;exact .inr (.inr (.inr ⟨h,h1,h2,e⟩));exact .inr (.inr (.inl e)))))
  ⟨(World.cell?_of_block (a:=⟨p,0,none⟩) (kk.block p (lt_of_block m0.blk) hp)).trans d0,(World.cell?_of_block (a:=⟨p,2,none⟩) (kk.block p (lt_of_block m0.blk) hp)).trans d2,(World.cell?_of_block (a:=⟨gr,h,none⟩) (kk.block gr (row_lt m0.rows) hg)).trans d3,
   (World.cell?_of_block (a:=⟨_,0,none⟩) (kk.block _ hw0 hz)).trans e0,(World.cell?_of_block (a:=⟨_,1,none⟩) (kk.block _ hw0 hz)).trans e1⟩
 have kdr:Keeps ((R h).fp++Fc) w0 w0.drew:=⟨rfl,rfl,rfl,Nat.le_refl _,fun _ _ _=>rfl⟩
 have hput:=fun u (hu:CellsAt u Fc pc cap hs E)=>cells_put u Fc pc cap hs E hu h x q k h1 h2 hx he hk hq
 have hE2:∀j,j<(R h).n->(put E x (some (h,k,q)) ((R h).v j)).isSome:=fun j hj=>by rw [put_other E x _ (hnx j hj)];exact m0.isSome h1 h2 j hj
 have hrok:=m0.ok h h1 h2
 have hheap:Heap' d (ahead (put E x (some (h,k,q)))) (R h).v (R h).n:=hrok.heap.cong m0.d1 (fun _ _=>rfl) fun i j hi hj=>ahead_put_other (hnx i hi) (hnx j hj)
 have hnle:(R h).n+1<=65536:=by
  have:(R h).n+1<=cap:=by
   have h5:=nodup_len (n:=cap) (l:=x::(List.range (R h).n).map (R h).v) (by
    rw [List.nodup_cons]
    refine ⟨fun e=>?_,?_⟩
    .obtain ⟨j,hj,e⟩:=List.mem_map.1 e
     exact hnx j (List.mem_range.1 hj) e
    .exact List.pairwise_map.2 (List.Pairwise.imp_of_mem (fun {a b} ha hb hne e=>hne (hrok.inj a b (List.mem_range.1 ha) (List.mem_range.1 hb) e)) List.nodup_range)) (by
    intro y hy
    simp only [List.mem_cons,List.mem_map,List.mem_range] at hy
    rcases hy with rfl|⟨j,hj,rfl⟩
    .exact hx
    .exact m0.ce.ok.lt _ (m0.isSome h1 h2 j hj))
   simpa using h5
  omega
 have hadd:=fun u (ho:OrdAt u p pc Fc cap hs (put E x (some (h,k,q)))) (hr:RowFull u (R h).p d (R h).ao (R h).ca (R h).mb (R h).n (R h).v) =>
  row_add u p pc Fc cap hs _ (R h).p d (R h).ao (R h).ca (R h).mb (R h).n (R h).v x hr ho hrok.inj hE2 (by rw [put_same];rfl) hnx hnle m0.d1 m0.d2 hheap (m0.apart h1 h2)
 have HADD:=Lib.hid hadd
 have HPUT:=Lib.hid hput
 have HX:=Lib.hid hnx
 have HE:=Lib.hid he
 clear hadd hput hE2 hheap hrok hnx hlt he
 go_region_held3 (fun u=>u.cell? ⟨p,0,none⟩=some (.pointer (some ⟨pc,0,none⟩))∧u.cell? ⟨p,2,none⟩=some (.slice (some ⟨gr,0,none⟩) (hs+1) rc)∧u.cell? ⟨gr,h,none⟩=some (.pointer (some ⟨(R h).p,0,none⟩))∧u.cell? ⟨w.heap.size,0,none⟩=some (.int .i64 k)∧u.cell? ⟨w.heap.size,1,none⟩=some (.int .u64 (q:Int)))
  (first|exact hS _ kdr|exact q1|exact q2)
  (first
   | (go_at_call 316;refine (HPUT.out _ (by exact m0.ce.drew)).mono ?_;rintro e w1 ⟨rfl,hc1,hk1⟩;have k1:Keeps Fc w0 w1:=hk1.ofDrew;have q1:=hS w1 (k1.mono fun b hb=>.inl (by simp [hb])))
   | (go_at_call 317;refine (HADD.out _ ⟨q1.1,Nat.lt_of_lt_of_le (lt_of_block m0.blk) k1.size,m0.ne.2.1,hc1⟩ ((m0.mem h h1 h2).keep k1 (fun b hb e=>(m0.own h h1 h2 b hb).2.2 e))).mono ?_;rintro e w2 ⟨ao',ca',v',rfl,hf2,ho2,hv2,hm2,hh2,k2,fp2⟩;have q2:=hS w2 ((k1.mono fun b hb=>.inl (by simp [hb])).trans k2 fun b hb=>.inl (by simpa [RowR.fp] using hb))))
 all_goals
  have kw:Keeps ((R h).fp++Fc) w0 w2:=(k1.mono (T:=(R h).fp++Fc) fun b hb=>.inl (by simp [hb])).trans k2 fun b hb=>.inl (by simpa [RowR.fp] using hb)
  have hrok:=m0.ok h h1 h2
  have hch:=m0.change h1 h2 (E':=put E x (some (h,k,q))) (r:={ p:=(R h).p,mb:=(R h).mb,ao:=ao',ca:=ca',n:=(R h).n+1,v:=v' }) kw rfl
   (fun b hb=>by rcases fp2 b hb with c|c;exact .inl c;exact .inr (Nat.le_trans k1.size c)) ho2.ce hf2
   ⟨hv2,fun z=>by
    show _↔∃j,j<(R h).n+1∧v' j=z
    rw [hm2 z,isIn_put,<-hrok.mem z]
    constructor
    .rintro (⟨c,_⟩|⟨_,c⟩)
     .exact .inl c
     .exact .inr c
    .rintro (c|c)
     .exact .inl ⟨c,rfl⟩
     .refine .inr ⟨?_,c⟩
      obtain ⟨j,hj,e⟩:=(hrok.mem z).1 c
      rw [<-e];exact HX.out j hj,hh2⟩
   (fun g' a b c=>(m0.ok g' a b).other m0.d1 (fun j hj e=>by have:=m0.isSome a b j hj;rw [e,HE.out] at this;cases this) fun y=>by
    rw [isIn_put]
    constructor
    .rintro (⟨_,e⟩|⟨_,e⟩)
     .exact absurd e c
     .exact e
    .intro e
     refine .inr ⟨?_,e⟩
     rintro rfl
     have:=e.some
     rw [HE.out] at this;cases this)
  have HCH:=Lib.hid hch
  clear hch hS q1 q2 kdr
  go_wp2_with fail
  go_ret
  exact ⟨rfl,_,⟨pc,gr,rc,d,Fc,_,rfl,HCH.out.1⟩,hmv.trans HCH.out.2⟩
end
structure BRow where
 ao:Option Addr
 ca:Nat
 l:List Nat
def BRow.v (r:BRow):Value:=.slice r.ao r.l.length r.ca
def BRow.nil:BRow:=⟨none,0,[]⟩
def bRows (R:Nat->BRow) (n:Nat):List Value:=(List.range n).map fun i=>(R i).v
theorem bRows_at (R:Nat->BRow) {n i:Nat} (h:i<n):(bRows R n)[i]?=some (R i).v:=by simp [bRows,h]
theorem bRows_snoc (R:Nat->BRow) (n:Nat):bRows R (n+1)=bRows R n++[(R n).v]:=by simp [bRows,List.range_succ]
theorem bRows_set (R:Nat->BRow) (n h:Nat) (r:BRow):(bRows R n).set h r.v=bRows (upd R h r) n:=by
 apply List.ext_getElem (by simp [bRows])
 intro i h1 h2
 simp only [bRows,List.length_map,List.length_range,List.length_set] at h1 h2
 rw [List.getElem_set]
 simp only [bRows,List.getElem_map,List.getElem_range]
 by_cases c:h=i
 .subst c;rw [if_pos rfl,upd_same]
 .rw [if_neg c,upd_other _ _ (fun q=>c q.symm)]
def binF (p gr:Nat) (Fc Ft:List Nat) (hs:Nat) (R:Nat->BRow):List Nat:=p::gr::(Fc++Ft++(List.range (hs+1)).flatMap fun i=>(R i).v.ownBlock.toList)
theorem binF_mem {p gr b hs:Nat} {Fc Ft:List Nat} {R:Nat->BRow}:b∈binF p gr Fc Ft hs R↔b=p∨b=gr∨b∈Fc∨b∈Ft∨∃i,i<=hs∧(R i).v.ownBlock=some b:=by
 simp only [binF,List.mem_cons,List.mem_append,List.mem_flatMap,List.mem_range,Option.mem_toList,or_assoc,Nat.lt_succ_iff]
structure BinQ (w:World) (p pc pf gf gr rc:Nat) (Fc:List Nat) (cap hs:Nat) (E:Ent) (T:Nat->TwigR) (U:Nat->Option Nat) (R:Nat->BRow):Prop where
 blk:w.heap[p]?=some (.cells #[.pointer (some ⟨pc,0,none⟩),.pointer (some ⟨pf,0,none⟩),.slice (some ⟨gr,0,none⟩) (hs+1) rc] 213 (0,0))
 ce:CellsAt w Fc pc cap hs E
 fo:ForestAt w pf gf cap T U
 rows:w.ownsRow 0 28 1 (.slice (some ⟨gr,0,none⟩) (hs+1) rc) (hs+1) (bRows R (hs+1))
 mem:∀g,g<=hs->Rg.IR 0 w (R g).v (R g).l
 ne:p≠gr∧p∉Fc∧gr∉Fc∧p∉treeF pf gf cap T∧gr∉treeF pf gf cap T∧∀b∈Fc,b∉treeF pf gf cap T
 own:∀g b,g<=hs->(R g).v.ownBlock=some b->b≠p∧b≠gr∧b∉Fc∧b∉treeF pf gf cap T
 dis:∀g g' b,g<=hs->g'<=hs->g≠g'->(R g).v.ownBlock=some b->(R g').v.ownBlock≠some b
def BinAt (w:World) (F:List Nat) (p cap hs:Nat) (E:Ent):Prop :=
 ∃(pc pf gf gr rc:Nat) (Fc:List Nat) (T:Nat->TwigR) (U:Nat->Option Nat) (R:Nat->BRow),F=binF p gr Fc (treeF pf gf cap T) hs R∧BinQ w p pc pf gf gr rc Fc cap hs E T U R∧BinO E (fun x=>(T x).kids) U (fun g=>(R g).l)
section
variable {w w':World} {p pc pf gf gr rc cap hs:Nat} {F Fc S:List Nat} {E E':Ent} {T T':Nat->TwigR} {U U':Nat->Option Nat} {R R':Nat->BRow}
theorem ir_block {B b:Nat} {v:Value} {L:List Nat} (h:Rg.IR B w v L) (e:v.ownBlock=some b):b<w.heap.size:=(h.own b e).2
theorem BinQ.lt (h:BinQ w p pc pf gf gr rc Fc cap hs E T U R):∀b∈binF p gr Fc (treeF pf gf cap T) hs R,b<w.heap.size:=by
 intro b hb
 rcases binF_mem.1 hb with rfl|rfl|c|c|⟨i,h1,c⟩
 .exact lt_of_block h.blk
 .exact row_lt h.rows
 .exact h.ce.lt b c
 .exact h.fo.lt b c
 .exact ir_block (h.mem i h1) c
theorem BinQ.keep (h:BinQ w p pc pf gf gr rc Fc cap hs E T U R) (k:Keeps S w w') (hS:∀b∈binF p gr Fc (treeF pf gf cap T) hs R,b∉S):BinQ w' p pc pf gf gr rc Fc cap hs E T U R :=
 ⟨k.blk h.blk (hS p (binF_mem.2 (.inl rfl))),h.ce.keep k (fun b hb=>hS b (binF_mem.2 (.inr (.inr (.inl hb))))),h.fo.keep k (fun b hb=>hS b (binF_mem.2 (.inr (.inr (.inr (.inl hb)))))),
  k.row h.rows (hS gr (binF_mem.2 (.inr (.inl rfl)))),fun g hg=>ir_keep' (h.mem g hg) k (fun b e=>hS b (binF_mem.2 (.inr (.inr (.inr (.inr ⟨g,hg,e⟩)))))),h.ne,h.own,h.dis⟩
theorem BinAt.lt (h:BinAt w F p cap hs E):∀b∈F,b<w.heap.size:=by
 obtain ⟨pc,pf,gf,gr,rc,Fc,T,U,R,rfl,h,ho⟩:=h;exact h.lt
theorem BinAt.mem (h:BinAt w F p cap hs E):p∈F:=by
 obtain ⟨pc,pf,gf,gr,rc,Fc,T,U,R,rfl,h,ho⟩:=h;exact binF_mem.2 (.inl rfl)
theorem BinAt.keep (h:BinAt w F p cap hs E) (k:Keeps S w w') (hS:∀b∈F,b∉S):BinAt w' F p cap hs E:=by
 obtain ⟨pc,pf,gf,gr,rc,Fc,T,U,R,rfl,h,ho⟩:=h
 exact ⟨pc,pf,gf,gr,rc,Fc,T,U,R,rfl,h.keep k hS,ho⟩
theorem BinAt.ok (h:BinAt w F p cap hs E):EntOk E cap hs:=by
 obtain ⟨pc,pf,gf,gr,rc,Fc,T,U,R,rfl,h,ho⟩:=h;exact h.ce.ok
theorem BinQ.c0 (h:BinQ w p pc pf gf gr rc Fc cap hs E T U R):w.cell? ⟨p,0,none⟩=some (.pointer (some ⟨pc,0,none⟩)):=by rw [cell_of_blk h.blk];rfl
theorem BinQ.c1 (h:BinQ w p pc pf gf gr rc Fc cap hs E T U R):w.cell? ⟨p,1,none⟩=some (.pointer (some ⟨pf,0,none⟩)):=by rw [cell_of_blk h.blk];rfl
theorem BinQ.c2 (h:BinQ w p pc pf gf gr rc Fc cap hs E T U R):w.cell? ⟨p,2,none⟩=some (.slice (some ⟨gr,0,none⟩) (hs+1) rc):=by rw [cell_of_blk h.blk];rfl
theorem BinQ.at (h:BinQ w p pc pf gf gr rc Fc cap hs E T U R) {g:Nat} (hg:g<=hs):w.cell? ⟨gr,g,none⟩=some (.slice (R g).ao (R g).l.length (R g).ca):=by
 rw [h.rows.cellAt g (by omega)]
 exact bRows_at R (by omega)
theorem BinQ.ord (h:BinQ w p pc pf gf gr rc Fc cap hs E T U R):OrdAt w p pc Fc cap hs E:=⟨h.c0,lt_of_block h.blk,h.ne.2.1,h.ce⟩
end
def AreAt (w:World) (F:List Nat) (p cap:Nat) (most:Int) (G:Nat->Nat) (V:Nat->Bool):Prop :=
 ∃(gs:Nat) (ao:Option Addr) (cw:Nat) (S:List (Int×Bool)) (W:List Nat) (next:Nat) (cnt:Int),F=Ar.fp p gs ao∧Ar.ArenaAt w p gs ao cw S W next cnt most∧Ar.Inv S W next cnt most∧S.length=cap∧∀x,x<cap->S.getD x (0,false)=((G x:Int),V x)
section
variable {w w':World} {F T:List Nat} {p cap:Nat} {most:Int} {G:Nat->Nat} {V:Nat->Bool}
theorem AreAt.lt (h:AreAt w F p cap most G V):∀b∈F,b<w.heap.size:=by
 obtain ⟨gs,ao,cw,S,W,next,cnt,rfl,a,i,l,g⟩:=h;exact a.lt
theorem AreAt.keep (h:AreAt w F p cap most G V) (k:Keeps T w w') (hT:∀b∈F,b∉T):AreAt w' F p cap most G V:=by
 obtain ⟨gs,ao,cw,S,W,next,cnt,rfl,a,i,l,g⟩:=h
 exact ⟨gs,ao,cw,S,W,next,cnt,rfl,a.keep k hT,i,l,g⟩
theorem fp_moved {gs:Nat} {ao ao':Option Addr} (hk:Keeps (Ar.fp p gs ao) w w') (hao:∀x,ao'=some x->ao=some x∨w.heap.size<=x.block) (hl:∀b∈Ar.fp p gs ao',b<w'.heap.size):Moved (Ar.fp p gs ao) w (Ar.fp p gs ao') w':=by
 refine ⟨hk,fun b hb=>?_,hl⟩
 simp only [Ar.fp,List.mem_cons,List.mem_map,Option.mem_toList] at hb ⊢
 rcases hb with c|c|⟨q,c,rfl⟩
 .exact .inl (.inl c)
 .exact .inl (.inr (.inl c))
 .rcases hao q c with d|d
  .exact .inl (.inr (.inr ⟨q,d,rfl⟩))
  .exact .inr d
theorem are_take (h:AreAt w F p cap most G V) (hx:∃x,x<cap∧V x=false∧(G x:Int)<most) :
  Calls Tryz.prog 36 #[.pointer (some ⟨p,0,none⟩)] w fun e w'=>∃i:Nat,i<cap∧V i=false∧(G i:Int)<most∧e=.returned (.tuple #[.agg #[.int .i64 i,.int .u32 ((G i:Int)+1)],.int .i64 0]) ∧
   ∃F',AreAt w' F' p cap most (upd G i (G i+1)) (upd V i true)∧Moved F w F' w':=by
 obtain ⟨gs,ao,cw,S,W,next,cnt,rfl,a,iv,l,g⟩:=h
 have hwl:=iv.wlen
 have hnx:=iv.nx
 have hln:=iv.len
 have hm2:=iv.m2
 obtain ⟨hc0,hc1⟩:=iv.cntB
 cases hp:Ar.pickS S.length W next with
 | none =>
  exfalso
  obtain ⟨x,hx,hv,hg⟩:=hx
  have hgx:=g x hx
  unfold Ar.pickS at hp
  cases hW:W.getLast? with
  | some j=>rw [hW] at hp;cases hp
  | none =>
   rw [hW] at hp
   have hWn:W=[]:=List.getLast?_eq_none_iff.1 hW
   simp only at hp
   split at hp
   .cases hp
   .rename_i hlt
    have:=iv.waits x (by omega) (by rw [hgx];exact hv) (by rw [hgx];exact hg)
    rw [hWn] at this;cases this
 | some r =>
  obtain ⟨i,W',next'⟩:=r
  obtain ⟨h1,h2,h3,h4,h5,h6,h7⟩:=iv.pick hp
  have hgi:=g i (by omega)
  rw [hgi] at h2 h3 h4 h5
  refine (Ar.take_calls w p gs ao cw S W next cnt most a (by omega) (by omega) hnx i W' next' hp h1 (G i) (by rw [hgi]) h3 (by omega) (by omega) (by omega)).mono ?_
  rintro e w' ⟨rfl,ao',cw',a',k',n'⟩
  refine ⟨i,by omega,h2,h4,rfl,_,⟨gs,ao',cw',_,W',next',cnt+1,rfl,a',h5,by simpa using l,fun x hx=>?_⟩,fp_moved k' n' a'.lt⟩
  by_cases c:x=i
  .subst c;rw [Ar.getD_set_eq (by omega),upd_same,upd_same];simp
  .rw [Ar.getD_set_ne (fun q=>c q.symm),upd_other _ _ c,upd_other _ _ c];exact g x hx
theorem are_at (h:AreAt w F p cap most G V) (x:Nat) (hx:x<cap) (hv:V x=true) :
  Calls Tryz.prog 86 #[.pointer (some ⟨p,0,none⟩),.int .i64 x] w fun e w'=>e=.returned (.tuple #[.agg #[.int .i64 x,.int .u32 (G x:Nat)],.bool true])∧Keeps [] w w':=by
 obtain ⟨gs,ao,cw,S,W,next,cnt,rfl,a,iv,l,g⟩:=h
 have hln:=iv.len
 refine (Ar.at_yes w p gs ao cw S W next cnt most x (G x) a (by omega) ?_).mono ?_
 .unfold Ar.atS
  rw [Int.toNat_natCast,g x hx,if_pos ⟨by omega,by omega,hv⟩]
 .rintro e w' ⟨rfl,b⟩
  exact ⟨rfl,Below.keeps b (Nat.le_refl _) _⟩
theorem are_live (h:AreAt w F p cap most G V) (x:Nat) (hx:x<cap) (hv:V x=true) :
  Calls Tryz.prog 83 #[.pointer (some ⟨p,0,none⟩),.agg #[.int .i64 x,.int .u32 (G x:Nat)]] w fun e w'=>e=.returned (.bool true)∧Keeps [] w w':=by
 obtain ⟨gs,ao,cw,S,W,next,cnt,rfl,a,iv,l,g⟩:=h
 have hln:=iv.len
 have:=Ar.live_calls w p gs ao cw S W next cnt most x (G x) a (by omega)
 have hb:Ar.liveB S x (G x)=true:=by
  unfold Ar.liveB
  rw [Int.toNat_natCast,g x hx,hv]
  simp
  omega
 rw [hb] at this
 refine this.mono ?_
 rintro e w' ⟨rfl,b⟩
 exact ⟨rfl,Below.keeps b (Nat.le_refl _) _⟩
theorem are_give (h:AreAt w F p cap most G V) (x:Nat) (hx:x<cap) (hv:V x=true) :
  Calls Tryz.prog 50 #[.pointer (some ⟨p,0,none⟩),.agg #[.int .i64 x,.int .u32 (G x:Nat)]] w fun e w'=>e=.returned (.int .i64 0)∧∃F',AreAt w' F' p cap most G (upd V x false)∧Moved F w F' w':=by
 obtain ⟨gs,ao,cw,S,W,next,cnt,rfl,a,iv,l,g⟩:=h
 have hwl:=iv.wlen
 have hnx:=iv.nx
 have hln:=iv.len
 obtain ⟨hc0,hc1⟩:=iv.cntB
 have hgx:S.getD x (0,false)=((G x:Int),true):=by rw [g x hx,hv]
 obtain ⟨i1,i2⟩:=iv.give (i:=x) (by omega) hgx
 refine (Ar.give_live w p gs ao cw S W next cnt most (G x) a x (by omega) (by omega) (by omega) hgx (by omega) (by omega)).mono ?_
 rintro e w' ⟨rfl,ao',cw',a',k',n'⟩
 refine ⟨rfl,_,⟨gs,ao',cw',_,_,next,cnt - 1,rfl,a',i1,by simpa using l,fun y hy=>?_⟩,fp_moved k' n' a'.lt⟩
 by_cases c:y=x
 .subst c;rw [Ar.getD_set_eq (by omega),upd_same]
 .rw [Ar.getD_set_ne (fun q=>c q.symm),upd_other _ _ c];exact g y hy
theorem are_new (w:World) (n:Nat) (most:Int) (hn:n<=65536) (h1:1<=most) (h2:most<=4294967295) :
  Calls Tryz.prog 34 #[.int .i64 n,.int .u32 most] w fun e w'=>∃F p,e=.returned (.tuple #[.pointer (some ⟨p,0,none⟩),.int .i64 0])∧AreAt w' F p n most (fun _=>0) (fun _=>false)∧Keeps [] w w'∧∀b∈F,w.heap.size<=b:=by
 refine (Ar.new_yes w n most hn (by omega)).mono ?_
 rintro e w' ⟨p,gs,rfl,a,k,l1,l2⟩
 refine ⟨_,p,rfl,⟨gs,none,0,_,[],0,0,rfl,a,Ar.Inv.new n most hn h1 h2,by simp,fun x hx=>?_⟩,k,fun b hb=>?_⟩
 .simp [List.getD,hx]
 .simp only [Ar.fp,List.mem_cons,List.mem_map,Option.mem_toList] at hb
  rcases hb with rfl|rfl|⟨q,c,_⟩
  .exact l2
  .exact l1
  .cases c
end
end Go.Proofs.YtkdbjelhkfdfjaaGreatDoor

