/-
  Contracts that the law rests on. Conditions: none.
-/
import Derived.Test.YtkdbjelhkfdfjaaGreatDoorLo13
set_option linter.unusedVariables false
set_option maxRecDepth 100000
set_option maxHeartbeats 32000000
namespace Go.Proofs.YtkdbjelhkfdfjaaGreatDoor
open Go.RowKit
section
variable (w:World) (p g n:Nat) (T:Nat->TwigR) (U:Nat->Option Nat)
def LinkDone (a b:Nat) (e:Ending) (w':World):Prop :=
 ∃t:TwigR,t.kids=(T a).kids++[b]∧e=.returned (.bool true)∧ForestAt w' p g n (upd T a t) (upd U b (some a))∧Moved (treeF p g n T) w (treeF p g n (upd T a t)) w'
theorem fo_link (h:ForestAt w p g n T U) (a b:Nat) (ha:a<n) (hb:b<n) (hne:a≠b) (hua:U a=none) (hub:U b=none) (hd:(T a).kids.length=(T b).kids.length) (hl:(T a).kids.length+1<=65536) :
  Calls Tryz.prog 369 #[.pointer (some ⟨p,0,none⟩),.int .i64 a,.int .i64 b] w (LinkDone w p g n T U a b):=by
 have hrt:∀x,x<n->U x=none->Calls Tryz.prog 363 #[.pointer (some ⟨p,0,none⟩),.int .i64 x] w fun e w'=>e=.returned (.bool true)∧w=w':=fun x hx hu=>by
  have:=fo_root w p g n T U h x hx
  rw [hu] at this;exact this
 have hdg:∀x m,x<n->(T x).kids.length=m->Calls Tryz.prog 367 #[.pointer (some ⟨p,0,none⟩),.int .i64 x] w fun e w'=>e=.returned (.int .i64 m)∧w=w':=fun x m hx hu=>by
  have:=fo_degree w p g n T U h x hx
  rw [hu] at this;exact this
 have hncap:=h.cap
 have c0:=h.c0
 have c1:=h.k0 ha
 have hrow:=h.rows a ha
 have hal:=h.keep (S:=[]) (w':=w.alloc (.cells #[.int .i64 (b:Int)] 3 (0,0))) ((Keeps.refl _ _).alloc _) (by simp)
 have c2:=hal.c0
 have c3:=hal.k0 ha
 obtain ⟨ao,hao⟩:∃ao,(T a).ao=ao:=⟨_,rfl⟩
 obtain ⟨ca,hca⟩:∃ca,(T a).ca=ca:=⟨_,rfl⟩
 obtain ⟨L,hL⟩:∃L,(T a).kids=L:=⟨_,rfl⟩
 have hmid:∀(w5:World) (g' cap':Nat),w5.ownsRow 0 3 1 (.slice (some ⟨g',0,none⟩) (L.length+1) cap') (L.length+1) (Rg.nCells L++[.int .i64 (b:Int)])->Keeps (Value.slice ao L.length ca).ownBlock.toList w w5->((Value.slice ao L.length ca).ownBlock=some g'∨w.heap.size<=g') ->
   w5.cell? ⟨p,0,none⟩=some (.slice (some ⟨g,0,none⟩) n n)∧w5.cell? ⟨g,a*2,none⟩=some (.slice ao L.length ca)∧w5.frozen? ⟨g,a*2,none⟩=false ∧
   ∀w6:World,w6.heap=(w5.setCell ⟨g,a*2,none⟩ (.slice (some ⟨g',0,none⟩) (L.length+1) cap')).heap->w6.os=w5.os->w6.tape=w5.tape->w6.output=w5.output ->
    w6.cell? ⟨p,0,none⟩=some (.slice (some ⟨g,0,none⟩) n n)∧w6.cell? ⟨g,b*2+1,none⟩=some (.int .i64 (oZ (U b)))∧w6.frozen? ⟨g,b*2+1,none⟩=false ∧
    LinkDone w p g n T U a b (.returned (.bool true)) (w6.setCell ⟨g,b*2+1,none⟩ (.int .i64 (a:Int))):=by
  intro w5 g' cap' hr hk hf
  have hob:∀y,(Value.slice ao L.length ca).ownBlock=some y->∃q,(T a).ao=some q∧q.block=y:=by
   intro y e
   rw [hao]
   cases ao with
   | none=>simp [Value.ownBlock] at e
   | some q =>
    obtain ⟨b',o',i'⟩:=q
    simp [Value.ownBlock] at e
    exact ⟨_,rfl,e⟩
  have hk':Keeps ((T a).ao.toList.map (·.block)) w w5:=hk.mono (fun y hy=>.inl (by
   obtain ⟨q,e1,e2⟩:=hob y (by simpa using hy)
   simp only [List.mem_map,Option.mem_toList]
   exact ⟨q,e1,e2⟩))
  have hir:Rg.IR 0 w5 (.slice (some ⟨g',0,none⟩) (L++[b]).length cap') (L++[b]):=by
   have:=Rg.IR.pushed (B:=0) (L:=L) (x:=b) hr (Nat.zero_le _)
   simpa using this
  have hset:=h.setKids ha (t:=⟨some ⟨g',0,none⟩,cap',L++[b]⟩) hk' hir (fun q e=>by
   cases e
   rcases hf with e|e
   .obtain ⟨q',e1,e2⟩:=hob g' e
    exact .inl ⟨q',e1,e2⟩
   .exact .inr e) (by simp;rw [hL] at hl;omega) (fun y hy=>by
   simp only [List.mem_append,List.mem_singleton] at hy
   rcases hy with hy|rfl
   .exact (h.num a ha).2.1 y (by rw [hL];exact hy)
   .exact hb)
  simp only [List.length_append,List.length_singleton] at hset
  have hgo:g∉(T a).ao.toList.map (·.block):=fun e=>by
   simp only [List.mem_map,Option.mem_toList] at e
   obtain ⟨q,e1,e2⟩:=e
   exact (h.own a ha q e1).2 e2
  have hpo:p∉(T a).ao.toList.map (·.block):=fun e=>by
   simp only [List.mem_map,Option.mem_toList] at e
   obtain ⟨q,e1,e2⟩:=e
   exact (h.own a ha q e1).1 e2
  have har5:=h.arr.keep hk' hgo
  refine ⟨by rw [cell_of_blk (hk'.blk h.blk hpo)];rfl,?_,har5.frozen _,fun w6 e1 e2 e3 e4=>?_⟩
  .have:=har5.cell (i:=a) (j:=0) ha (by decide)
   simpa [twigV,hao,hca,hL] using this
  .have h6:=hset.1.like (w':=w6) e1
   have hm6:Moved (treeF p g n T) w (treeF p g n (upd T a ⟨some ⟨g',0,none⟩,cap',L++[b]⟩)) w6 :=
    ⟨hset.2.keeps.trans (T:=[]) ⟨by rw [e2];rfl,by rw [e3];rfl,by rw [e4];rfl,by rw [e1];exact Nat.le_refl _,fun k _ _=>by rw [e1]⟩ (by simp),hset.2.from',h6.lt⟩
   have h7:=h6.setUp (x:=b) (o:=some a) hb (fun y e=>by cases e;exact ha)
   have k7:Keeps [g] w6 (w6.setCell ⟨g,b*2+1,none⟩ (.int .i64 (oZ (some a)))):=(Keeps.refl _ _).setCell (.inl (by simp)) _
   refine ⟨h6.c0,h6.k1 hb,h6.arr.frozen _,⟨some ⟨g',0,none⟩,cap',L++[b]⟩,by rw [hL],rfl,h7,hm6.keeps.trans k7 (fun y hy=>.inl (treeF_mem.2 (.inr (.inl (by simpa using hy))))),hm6.from',h7.lt⟩
 have hrow':w.ownsRow 0 3 1 (.slice ao L.length ca) L.length (Rg.nCells L):=by
  rw [hao,hca,hL] at hrow
  unfold Rg.IR at hrow;exact hrow
 rw [hao,hca,hL] at c1 c3
 rw [hL] at hl hd
 have ha3:(a:Int)<(n:Int):=by omega
 have hb3:(b:Int)<(n:Int):=by omega
 have hab:((a:Int)==(b:Int))=false:=by rw [beq_eq_false_iff_ne];omega
 have HM:=Lib.hid hmid
 have HD1:=Lib.hid hL
 have HD2:=Lib.hid hd
 clear hmid h hal hrow hao hca hL hd
 go_enter Tryz.func369,Tryz.ntmps369
 go_upto_region 3 with (first
  | (go_at_call 363;refine (hrt _ (by assumption) (by assumption)).mono ?_;rintro e w' ⟨rfl,rfl⟩)
  | (go_at_call 367;refine (hdg _ L.length (by assumption) (by first|exact congrArg List.length HD1.out|exact HD2.out.symm)).mono ?_;rintro e w' ⟨rfl,rfl⟩))
 clear hrt hdg
 go_region_law (refine step_push2 rfl (.tmp 43) (.tmp 45) 28 3 rfl (.int .i64 0) Tryz.underlying28 Rg.Tryz.infoInt rfl w _ (.int .i64 (b:Int)) rfl (0,0) rfl rfl rfl rfl (.slice ao L.length ca) L.length (Rg.nCells L) rfl hrow' rfl (by unfold maxLen;omega) (by omega) ?_;intro g' cap' w5 hr5 hk5 hf5;obtain ⟨z0,z1,z2,z3⟩:=HM.out w5 g' cap' hr5 hk5 hf5;have HZ:=Lib.hid z3;clear hr5 hk5 hf5 z3)
 all_goals
  obtain ⟨w6,hw6⟩:∃w6,w6=w5.setCell ⟨g,a*2,none⟩ (.slice (some ⟨g',0,none⟩) (L.length+1) cap'):=⟨_,rfl⟩
  rw [<-hw6]
  obtain ⟨y1,y2,y3,y4⟩:=HZ.out w6 (by rw [hw6]) (by rw [hw6];rfl) (by rw [hw6];rfl) (by rw [hw6];rfl)
  have HY:=Lib.hid y4
  clear HZ HM c0 c1 c2 c3 z0 z1 z2 hw6 y4
  go_wp2_with fail
  go_ret
  exact HY.out
end
theorem binom_ahead (fuel p pc:Nat) (w:World) (hc:w.cell? ⟨p,0,none⟩=some (.pointer (some ⟨pc,0,none⟩))) :
  (method (fuel+1) 152 (.pointer (some ⟨p,0,none⟩)) "Ahead").run Tryz.prog w=.ok (339,.pointer (some ⟨pc,0,none⟩)) w :=
 run_method_embedded w fuel 152 213 258 200 "Ahead" p _ _ (by kernel_rfl) (by kernel_rfl) Tryz.underlying200 (by kernel_rfl) hc
theorem binom_nil (fuel:Nat) (a:Addr) (w:World):(nilAhead (fuel+1) 152 (.pointer (some a)) "Ahead").run Tryz.prog w=.ok (some false) w:=by kernel_rfl
section
variable (w:World) (p g n:Nat) (T:Nat->TwigR) (U:Nat->Option Nat) (pn pc:Nat) (Fc:List Nat) (cap hs:Nat) (E:Ent)
def JoinDone (a b:Nat) (e:Ending) (w':World):Prop :=
 ∃(c d:Nat) (t:TwigR),((c=a∧d=b)∨(c=b∧d=a))∧ahead E c d=true∧e=.returned (.int .i64 c)∧t.kids=(T c).kids++[d]∧ForestAt w' p g n (upd T c t) (upd U d (some c))∧OrdAt w' pn pc Fc cap hs E ∧
  Keeps (treeF p g n T++Fc) w w'∧∀b∈treeF p g n (upd T c t),b∈treeF p g n T∨w.heap.size<=b
theorem fo_join (h:ForestAt w p g n T U) (ho:OrdAt w pn pc Fc cap hs E) (hap:∀b∈treeF p g n T,b∉pn::Fc) (a b:Nat) (ha:a<n) (hb:b<n) (hne:a≠b) (hua:U a=none) (hub:U b=none) (hd:(T a).kids.length=(T b).kids.length) (hl:(T a).kids.length+1<=65536)
  (hEa:(E a).isSome) (hEb:(E b).isSome) :
  Calls Tryz.prog 368 #[.pointer (some ⟨p,0,none⟩),.iface 152 (.pointer (some ⟨pn,0,none⟩)),.int .i64 a,.int .i64 b] w (JoinDone w p g n T U pn pc Fc cap hs E a b):=by
 have c0:=ho.c0
 have hme:=binom_ahead 587 pn pc w c0
 have hna:=binom_nil 587 ⟨pn,0,none⟩ w
 have hal:=cells_ahead w Fc pc cap hs E ho.ce b a hEb hEa
 have hlk:∀u c d,Keeps Fc w u->c<n->d<n->c≠d->U c=none->U d=none->(T c).kids.length=(T d).kids.length->(T c).kids.length+1<=65536->Calls Tryz.prog 369 #[.pointer (some ⟨p,0,none⟩),.int .i64 c,.int .i64 d] u (LinkDone u p g n T U c d):=fun u c d k=>fo_link u p g n T U (h.keep k (fun b hb e=>hap b hb (by simp [e]))) c d
 have hfin:∀u w' c d,Keeps Fc w u->CellsAt u Fc pc cap hs E->LinkDone u p g n T U c d (.returned (.bool true)) w'->((c=a∧d=b)∨(c=b∧d=a))->ahead E c d=true->JoinDone w p g n T U pn pc Fc cap hs E a b (.returned (.int .i64 c)) w':=by
  rintro u w' c d k hc ⟨t,ht,_,hf,hm⟩ hcd had
  have ho2:=(ho.cells hc k).keep hm.keeps (fun b hb e=>hap b e hb)
  refine ⟨c,d,t,hcd,had,rfl,ht,hf,ho2,(k.mono (T:=treeF p g n T++Fc) fun b hb=>.inl (by simp [hb])).trans hm.keeps (fun b hb=>.inl (by simp [hb])),fun b hb=>?_⟩
  rcases hm.from' b hb with q|q
  .exact .inl q
  .exact .inr (Nat.le_trans k.size q)
 have HF:=Lib.hid hfin
 cases hba:ahead E b a with
 | true =>
  rw [hba] at hal
  have HB:=Lib.hid hba
  have hl2:(T b).kids.length+1<=65536:=by omega
  have hlk2:=fun u k=>hlk u b a k hb ha (fun e=>hne e.symm) hub hua hd.symm hl2
  clear hfin hlk hba h hap hd hl hl2 hua hub
  go_enter Tryz.func368,Tryz.ntmps368
  go_wp2_with (first
   | (go_at_call 339;refine hal.mono ?_;rintro e w1 ⟨rfl,hc1,hk1⟩)
   | (go_at_call 369;refine (hlk2 _ hk1).mono ?_;intro e w2 hd2;obtain ⟨_,_,rfl,_⟩:=id hd2;have hz:=HF.out _ _ _ _ hk1 hc1 hd2 (.inr ⟨rfl,rfl⟩) HB.out;have HZ:=Lib.hid hz;clear hz hd2))
  go_ret
  exact HZ.out
 | false =>
  rw [hba] at hal
  have hab:ahead E a b=true:=by
   have hord:Ord (ahead E) (fun k=>if k=0 then a else b) 2:=ordOf (fun i j hi hj e=>by
    rcases Nat.eq_zero_or_pos i with rfl|h1<;>rcases Nat.eq_zero_or_pos j with rfl|h2
    .rfl
    .simp [show j≠0 by omega] at e;exact absurd e hne
    .simp [show i≠0 by omega] at e;exact absurd e.symm hne
    .omega) (fun j hj=>by by_cases c:j=0<;>simp [c,hEa,hEb])
   have:=hord.tot 0 1 (by omega) (by omega) (by omega)
   simp [hba] at this
   exact this
  have HB:=Lib.hid hab
  have hlk2:=fun u k=>hlk u a b k ha hb hne hua hub hd hl
  clear hfin hlk hba h hap hd hl hua hub hab
  go_enter Tryz.func368,Tryz.ntmps368
  go_wp2_with (first
   | (go_at_call 339;refine hal.mono ?_;rintro e w1 ⟨rfl,hc1,hk1⟩)
   | (go_at_call 369;refine (hlk2 _ hk1).mono ?_;intro e w2 hd2;obtain ⟨_,_,rfl,_⟩:=id hd2;have hz:=HF.out _ _ _ _ hk1 hc1 hd2 (.inl ⟨rfl,rfl⟩) HB.out;have HZ:=Lib.hid hz;clear hz hd2))
  go_ret
  exact HZ.out
end
theorem ownBlock_some (b o n c:Nat):(Value.slice (some ⟨b,o,none⟩) n c).ownBlock=some b:=by simp [Value.ownBlock]
structure CarS (w0:World) (p g n:Nat) (T0:Nat->TwigR) (U0:Nat->Option Nat) (pn pc:Nat) (Fc:List Nat) (cap hs:Nat) (E:Ent) (l m:List Nat) (Bx:Nat) (d da db od:Nat)
  (va vb vo vh:Value) (T:Nat->TwigR) (U:Nat->Option Nat) (a b held out:List Nat) (w:World):Prop where
 wa:Win 0 w va a
 wb:Win 0 w vb b
 wo:Rg.IR w0.heap.size w vo out
 wh:Win w0.heap.size w vh held
 fo:ForestAt w p g n T U
 ord:OrdAt w pn pc Fc cap hs E
 cari:CarI E (fun x=>(T0 x).kids) U0 l m d da db od (fun x=>(T x).kids) U a b held out
 kp:Keeps (treeF p g n T0++Fc) w0 w
 tf:∀b∈treeF p g n T,b∈treeF p g n T0∨w0.heap.size<=b
 of:∀b∈pn::Fc,b<w0.heap.size
 apa:∀b,va.ownBlock=some b->b<w0.heap.size∧b∉treeF p g n T0++Fc
 apb:∀b,vb.ownBlock=some b->b<w0.heap.size∧b∉treeF p g n T0++Fc
 apo:∀b,vo.ownBlock=some b->b∉treeF p g n T∧b≠Bx
 aph:∀b,vh.ownBlock=some b->b∉treeF p g n T∧b≠Bx
 aoh:∀b,vo.ownBlock=some b->vh.ownBlock≠some b
 bx:w0.heap.size<=Bx∧Bx∉treeF p g n T
 bc:w.heap[Bx]?=some (.cells #[vb] 28 (0,0))
section
variable {w0 w w':World} {p g n:Nat} {T0 T T':Nat->TwigR} {U0 U U':Nat->Option Nat} {pn pc:Nat} {Fc S:List Nat} {cap hs:Nat} {E:Ent} {l m:List Nat} {Bx d da db od d' da' db' od':Nat} {va vb vo vh va' vb' vo' vh':Value} {a b held out a' b' held' out':List Nat}
theorem Win.keep' (h:Win Bx w va a) (k:Keeps S w w') (hS:∀b,va.ownBlock=some b->b∉S):Win Bx w' va a :=
 h.keep k fun g off cap e=>hS g (by rw [e];exact ownBlock_some _ _ _ _)
theorem ir_keep' (h:Rg.IR Bx w vo out) (k:Keeps S w w') (hS:∀b,vo.ownBlock=some b->b∉S):Rg.IR Bx w' vo out:=by
 refine ⟨h.1,?_⟩
 rcases h.2 with h0|⟨g,cap',cur,e,hb,hg,r⟩
 .exact .inl h0
 .exact .inr ⟨g,cap',cur,e,hb,k.blk hg (hS g (by rw [e];exact ownBlock_some _ _ _ _)),r⟩
theorem CarS.frame (h:CarS w0 p g n T0 U0 pn pc Fc cap hs E l m Bx d da db od va vb vo vh T U a b held out w) (k:Keeps S w w') (hS:∀b∈S,w0.heap.size<=b∧b∉treeF p g n T) :
  Win 0 w' va a∧Win 0 w' vb b∧ForestAt w' p g n T U∧OrdAt w' pn pc Fc cap hs E∧Keeps (treeF p g n T0++Fc) w0 w':=by
 refine ⟨h.wa.keep' k fun b e q=>?_,h.wb.keep' k fun b e q=>?_,h.fo.keep k fun b e q=>(hS b q).2 e,h.ord.keep k fun b e q=>?_,h.kp.trans k fun b q=>.inr (hS b q).1⟩
 .have:=(h.apa b e).1;have:=(hS b q).1;omega
 .have:=(h.apb b e).1;have:=(hS b q).1;omega
 .have:=h.of b e;have:=(hS b q).1;omega
theorem CarS.takeA {x:Nat} {va' vh':Value} (h:CarS w0 p g n T0 U0 pn pc Fc cap hs E l m Bx d d db od va vb vo vh T U (x::a) b held out w) (e:(T x).kids.length=d)
  (hw:Win w0.heap.size w' vh' (held++[x])) (k:Keeps vh.ownBlock.toList w w') (ho:vh'.ownBlock=vh.ownBlock∨∃b,vh'.ownBlock=some b∧w.heap.size<=b)
  (hv:∀u,Win 0 u va (x::a)->Win 0 u va' a) (hvo:va'.ownBlock=va.ownBlock) :
  CarS w0 p g n T0 U0 pn pc Fc cap hs E l m Bx d (d+1) db od va' vb vo vh' T U a b (held++[x]) out w':=by
 have hh:=h.wh.block
 have hoo:=h.wo.own
 have hs:∀b∈vh.ownBlock.toList,w0.heap.size<=b∧b∉treeF p g n T:=fun b q=>by
  rw [Option.mem_toList] at q
  exact ⟨(hh b q).1,(h.aph b q).1⟩
 obtain ⟨f1,f2,f3,f4,f5⟩:=h.frame k hs
 have hbx:=lt_of_block h.bc
 have hlt:=h.fo.lt
 have hnew:∀b,vh'.ownBlock=some b->vh.ownBlock=some b∨w.heap.size<=b:=fun b q=>by
  rcases ho with c|⟨b',c,d⟩
  .exact .inl (c ▸ q)
  .rw [q] at c;cases c;exact .inr d
 refine ⟨hv _ f1,f2,ir_keep' h.wo k fun b q r=>?_,hw,f3,f4,h.cari.takeA e,f5,h.tf,h.of,?_,h.apb,h.apo,fun b q=>?_,fun b q r=>?_,h.bx,?_⟩
 .rw [Option.mem_toList] at r;exact h.aoh b q r
 .rw [hvo];exact h.apa
 .rcases hnew b q with c|c
  .exact h.aph b c
  .exact ⟨fun r=>by have:=hlt b r;omega,by omega⟩
 .rcases hnew b r with c|c
  .exact h.aoh b q c
  .have:=(hoo b q).2;omega
 .exact k.blk h.bc fun q=>(h.aph Bx (by simpa [Option.mem_toList] using q)).2 rfl
theorem CarS.takeB {x:Nat} {vb' vh':Value} (h:CarS w0 p g n T0 U0 pn pc Fc cap hs E l m Bx d da d od va vb vo vh T U a (x::b) held out w) (e:(T x).kids.length=d)
  (hw:Win w0.heap.size w' vh' (held++[x])) (k:Keeps vh.ownBlock.toList w w') (ho:vh'.ownBlock=vh.ownBlock∨∃b,vh'.ownBlock=some b∧w.heap.size<=b)
  (hv:∀u,Win 0 u vb (x::b)->Win 0 u vb' b) (hvo:vb'.ownBlock=vb.ownBlock) :
  w'.heap[Bx]?=some (.cells #[vb] 28 (0,0))∧CarS w0 p g n T0 U0 pn pc Fc cap hs E l m Bx d da (d+1) od va vb' vo vh' T U a b (held++[x]) out (w'.setCell ⟨Bx,0,none⟩ vb'):=by
 have hh:=h.wh.block
 have hoo:=h.wo.own
 have hs:∀b∈vh.ownBlock.toList,w0.heap.size<=b∧b∉treeF p g n T:=fun b q=>by
  rw [Option.mem_toList] at q
  exact ⟨(hh b q).1,(h.aph b q).1⟩
 have hbx:=lt_of_block h.bc
 have hbw:w'.heap[Bx]?=some (.cells #[vb] 28 (0,0)):=k.blk h.bc fun q=>(h.aph Bx (by simpa [Option.mem_toList] using q)).2 rfl
 have k2:Keeps [Bx] w' (w'.setCell ⟨Bx,0,none⟩ vb'):=(Keeps.refl _ _).setCell (.inl (by simp)) _
 have k3:Keeps (Bx::vh.ownBlock.toList) w (w'.setCell ⟨Bx,0,none⟩ vb'):=(k.mono (T:=Bx::vh.ownBlock.toList) (fun b q=>.inl (by simp [q]))).trans k2 (fun b q=>.inl (by simp at q;simp [q]))
 obtain ⟨f1,f2,f3,f4,f5⟩:=h.frame k3 (fun b q=>by
  rcases List.mem_cons.1 q with rfl|q
  .exact h.bx
  .exact hs b q)
 have hlt:=h.fo.lt
 have hnew:∀b,vh'.ownBlock=some b->vh.ownBlock=some b∨w.heap.size<=b:=fun b q=>by
  rcases ho with c|⟨b',c,d⟩
  .exact .inl (c ▸ q)
  .rw [q] at c;cases c;exact .inr d
 have hnb:∀b,vh'.ownBlock=some b->b∉treeF p g n T∧b≠Bx:=fun b q=>by
  rcases hnew b q with c|c
  .exact h.aph b c
  .exact ⟨fun r=>by have:=hlt b r;omega,by omega⟩
 refine ⟨hbw,f1,hv _ f2,ir_keep' h.wo k3 fun b q r=>?_,hw.keep' k2 fun b q r=>?_,f3,f4,h.cari.takeB e,f5,h.tf,h.of,h.apa,?_,h.apo,hnb,fun b q r=>?_,h.bx,?_⟩
 .rcases List.mem_cons.1 r with rfl|r
  .exact (h.apo b q).2 rfl
  .rw [Option.mem_toList] at r;exact h.aoh b q r
 .simp only [List.mem_singleton] at r
  exact (hnb b q).2 r
 .rw [hvo];exact h.apb
 .rcases hnew b r with c|c
  .exact h.aoh b q c
  .have:=(hoo b q).2;omega
 .have:=blk_setCell (i:=0) vb' hbw
  simpa using this
theorem CarS.done {x:Nat} {vo' vh':Value} (h:CarS w0 p g n T0 U0 pn pc Fc cap hs E l m Bx d da db d va vb vo vh T U a b (x::held) out w)
  (hw:Rg.IR w0.heap.size w' vo' (out++[x])) (k:Keeps vo.ownBlock.toList w w') (ho:vo'.ownBlock=vo.ownBlock∨∃b,vo'.ownBlock=some b∧w.heap.size<=b)
  (hv:∀u,Win w0.heap.size u vh (x::held)->Win w0.heap.size u vh' held) (hvo:vh'.ownBlock=vh.ownBlock) :
  CarS w0 p g n T0 U0 pn pc Fc cap hs E l m Bx d da db (d+1) va vb vo' vh' T U a b held (out++[x]) w':=by
 have hh:=h.wh.block
 have hoo:=h.wo.own
 have hs:∀b∈vo.ownBlock.toList,w0.heap.size<=b∧b∉treeF p g n T:=fun b q=>by
  rw [Option.mem_toList] at q
  exact ⟨(hoo b q).1,(h.apo b q).1⟩
 obtain ⟨f1,f2,f3,f4,f5⟩:=h.frame k hs
 have hbx:=lt_of_block h.bc
 have hlt:=h.fo.lt
 have hnew:∀b,vo'.ownBlock=some b->vo.ownBlock=some b∨w.heap.size<=b:=fun b q=>by
  rcases ho with c|⟨b',c,d⟩
  .exact .inl (c ▸ q)
  .rw [q] at c;cases c;exact .inr d
 refine ⟨f1,f2,hw,hv _ (h.wh.keep' k fun b q r=>?_),f3,f4,h.cari.done,f5,h.tf,h.of,h.apa,h.apb,fun b q=>?_,?_,fun b q r=>?_,h.bx,?_⟩
 .rw [Option.mem_toList] at r;exact h.aoh b r q
 .rcases hnew b q with c|c
  .exact h.apo b c
  .exact ⟨fun r=>by have:=hlt b r;omega,by omega⟩
 .rw [hvo];exact h.aph
 .rw [hvo] at r
  rcases hnew b q with c|c
  .exact h.aoh b c r
  .have:=(hh b r).2;omega
 .exact k.blk h.bc fun q=>(h.apo Bx (by simpa [Option.mem_toList] using q)).2 rfl
theorem CarS.skipA (h:CarS w0 p g n T0 U0 pn pc Fc cap hs E l m Bx d d db od va vb vo vh T U a b held out w) (e:∀x,a.head?=some x->(T x).kids.length≠d) :
  CarS w0 p g n T0 U0 pn pc Fc cap hs E l m Bx d (d+1) db od va vb vo vh T U a b held out w :=
 { h with cari:=h.cari.skipA e }
theorem CarS.skipB (h:CarS w0 p g n T0 U0 pn pc Fc cap hs E l m Bx d da d od va vb vo vh T U a b held out w) (e:∀x,b.head?=some x->(T x).kids.length≠d) :
  CarS w0 p g n T0 U0 pn pc Fc cap hs E l m Bx d da (d+1) od va vb vo vh T U a b held out w :=
 { h with cari:=h.cari.skipB e }
theorem CarS.notDone (h:CarS w0 p g n T0 U0 pn pc Fc cap hs E l m Bx d da db d va vb vo vh T U a b held out w) :
  CarS w0 p g n T0 U0 pn pc Fc cap hs E l m Bx d da db (d+1) va vb vo vh T U a b held out w :=
 { h with cari:=h.cari.notDone }
theorem CarS.next (h:CarS w0 p g n T0 U0 pn pc Fc cap hs E l m Bx d da db od va vb vo vh T U a b [] out w) (d':Nat) :
  CarS w0 p g n T0 U0 pn pc Fc cap hs E l m Bx d' da db od va vb vo vh T U a b [] out w :=
 { h with cari:=h.cari.next d' }
theorem CarS.join {x y:Nat} {e:Ending} (h:CarS w0 p g n T0 U0 pn pc Fc cap hs E l m Bx d (d+1) (d+1) (d+1) va vb vo vh T U a b [x,y] out w) (hj:JoinDone w p g n T U pn pc Fc cap hs E x y e w') :
  ∃c T' U',e=.returned (.int .i64 (c:Nat))∧CarS w0 p g n T0 U0 pn pc Fc cap hs E l m Bx (d+1) (d+1) (d+1) (d+1) va vb vo (.slice (some ⟨w'.heap.size,0,none⟩) 1 1) T' U' a b [c] out (w'.alloc (.cells #[.int .i64 (c:Int)] 3 (0,0))):=by
 obtain ⟨c,f,t,hcf,hah,rfl,ht,hfo,hod,hk,htf⟩:=hj
 have hh:=h.wh.block
 have hoo:=h.wo.own
 have hbx:=lt_of_block h.bc
 have hlt:=h.fo.lt
 have kA:Keeps [] w' (w'.alloc (.cells #[.int .i64 (c:Int)] 3 (0,0))):=(Keeps.refl _ _).alloc _
 have kk:Keeps (treeF p g n T++Fc) w (w'.alloc (.cells #[.int .i64 (c:Int)] 3 (0,0))):=hk.trans kA (by simp)
 have hS:∀b,w0.heap.size<=b->b∉treeF p g n T->b∉treeF p g n T++Fc:=fun b q r s=>by
  rcases List.mem_append.1 s with s|s
  .exact r s
  .have:=h.of b (by simp [s]);omega
 have hA:∀b,b<w0.heap.size->b∉treeF p g n T0++Fc->b∉treeF p g n T++Fc:=fun b q r s=>by
  rcases List.mem_append.1 s with s|s
  .rcases h.tf b s with c|c
   .exact r (by simp [c])
   .omega
  .exact r (by simp [s])
 have hT:∀b,b<w.heap.size->b∉treeF p g n T->b∉treeF p g n (upd T c t):=fun b q r s=>by
  rcases htf b s with c|c
  .exact r c
  .omega
 have hwn:w.heap.size<=w'.heap.size:=hk.size
 have hcar:CarI E (fun x=>(T0 x).kids) U0 l m (d+1) (d+1) (d+1) (d+1) (fun x=>(upd T c t x).kids) (upd U f (some c)) a b [c] out:=by
  have hu:(fun x=>(upd T c t x).kids)=upd (fun x=>(T x).kids) c ((T c).kids++[f]):=by
   funext z
   by_cases q:z=c
   .subst q;simp only [upd_same];exact ht
   .simp only [upd_other _ _ q]
  rw [hu]
  rcases hcf with ⟨rfl,rfl⟩|⟨rfl,rfl⟩
  .exact h.cari.join hah
  .exact h.cari.swap.join hah
 refine ⟨c,upd T c t,upd U f (some c),rfl,h.wa.keep' kk fun b q=>hA b (h.apa b q).1 (h.apa b q).2,h.wb.keep' kk fun b q=>hA b (h.apb b q).1 (h.apb b q).2,ir_keep' h.wo kk fun b q=>hS b (hoo b q).1 (h.apo b q).1,?_,
  hfo.keep kA (by simp),hod.keep kA (by simp),hcar,h.kp.trans kk fun b q=>?_,fun b q=>?_,h.of,h.apa,h.apb,fun b q=>⟨hT b (hoo b q).2 (h.apo b q).1,(h.apo b q).2⟩,fun b q=>?_,fun b q r=>?_,⟨h.bx.1,hT Bx hbx h.bx.2⟩,?_⟩
 .refine .inr ⟨w'.heap.size,0,1,#[.int .i64 (c:Int)],rfl,Nat.le_trans h.kp.size hwn,blk_alloc_new _,by simp,by simp,fun j z e=>?_⟩
  match j,e with
  | 0,e=>simp at e;subst e;rfl
 .rcases List.mem_append.1 q with q|q
  .rcases h.tf b q with c|c
   .exact .inl (by simp [c])
   .exact .inr c
  .exact .inl (by simp [q])
 .rcases htf b q with c|c
  .exact h.tf b c
  .exact .inr (Nat.le_trans h.kp.size c)
 .rw [ownBlock_some] at q;cases q
  exact ⟨fun r=>by have:=hfo.lt _ r;omega,by omega⟩
 .rw [ownBlock_some] at r;cases r
  have:=(hoo _ q).2;omega
 .exact kk.blk h.bc (hS Bx h.bx.1 h.bx.2)
end
section
variable (w:World) (p g n:Nat) (T:Nat->TwigR) (U:Nat->Option Nat) (pn pc:Nat) (Fc:List Nat) (cap hs:Nat) (E:Ent) (l m:List Nat)
def CarryDone (e:Ending) (w':World):Prop :=
 ∃(ao:Option Addr) (ca:Nat) (out:List Nat) (T':Nat->TwigR) (U':Nat->Option Nat),e=.returned (.tuple #[.slice ao out.length ca,.bool true])∧Rg.IR w.heap.size w' (.slice ao out.length ca) out ∧
  ForestAt w' p g n T' U'∧OrdAt w' pn pc Fc cap hs E∧Keeps (treeF p g n T++Fc) w w'∧(∀b∈treeF p g n T',b∈treeF p g n T∨w.heap.size<=b) ∧
  (∀b,(Value.slice ao out.length ca).ownBlock=some b->b∉treeF p g n T')∧CarDone E (fun x=>(T x).kids) U l m (fun x=>(T' x).kids) U' out
def CarL (k:Nat) (va vo vh s:Value) (wr:World):Prop :=
 ∃(d:Nat) (T':Nat->TwigR) (U':Nat->Option Nat) (a b held out:List Nat) (vb:Value),k+d=65539∧s=.int .i64 d∧held.length<=1∧CarS w p g n T U pn pc Fc cap hs E l m w.heap.size d d d d va vb vo vh T' U' a b held out wr
def CarL1 (d:Nat) (va vo vh:Value) (wr:World):Prop :=
 ∃(T':Nat->TwigR) (U':Nat->Option Nat) (a b held out:List Nat) (vb:Value),held.length<=2∧CarS w p g n T U pn pc Fc cap hs E l m w.heap.size d (d+1) d d va vb vo vh T' U' a b held out wr
def CarL2 (d:Nat) (va vo vh:Value) (wr:World):Prop :=
 ∃(T':Nat->TwigR) (U':Nat->Option Nat) (a b held out:List Nat) (vb:Value),held.length<=3∧CarS w p g n T U pn pc Fc cap hs E l m w.heap.size d (d+1) (d+1) d va vb vo vh T' U' a b held out wr
def CarL3 (d:Nat) (va vo vh:Value) (wr:World):Prop :=
 ∃(T':Nat->TwigR) (U':Nat->Option Nat) (a b held out:List Nat) (vb:Value),(held.length=0∨held.length=2)∧CarS w p g n T U pn pc Fc cap hs E l m w.heap.size d (d+1) (d+1) (d+1) va vb vo vh T' U' a b held out wr
end
section
variable {w0 w:World} {p g n:Nat} {T0 T:Nat->TwigR} {U0 U:Nat->Option Nat} {pn pc:Nat} {Fc:List Nat} {cap hs:Nat} {E:Ent} {l m:List Nat} {Bx d da db od:Nat} {va vb vo vh:Value} {a b held out:List Nat}
theorem CarS.lens (h:CarS w0 p g n T0 U0 pn pc Fc cap hs E l m Bx d da db od va vb vo vh T U a b held out w) (hn:∀x,x∈l∨x∈m->x<n) (hc:n<=65536):a.length<=65536∧b.length<=65536∧held.length<=65536∧out.length+held.length<=65536:=by
 have hl:=nodup_len h.cari.nd fun x hx=>hn x ((h.cari.mem x).1 hx).1
 simp only [List.length_append] at hl
 omega
theorem CarS.inL {x:Nat} (h:CarS w0 p g n T0 U0 pn pc Fc cap hs E l m Bx d da db od va vb vo vh T U a b held out w) (hx:x∈a++b++held++out):x∈l∨x∈m:=((h.cari.mem x).1 hx).1
theorem CarS.stop (h:CarS w0 p g n T0 U0 pn pc Fc cap hs E l m Bx d d d od va vb vo vh T U a b held out w) (hn:∀x,x∈l∨x∈m->x<n) (hd:65536<d):a=[]∧b=[]∧held=[]:=by
 have hk:∀x,x∈a++b++held++out->(T x).kids.length<=65536:=fun x hx=>(h.fo.num x (hn x (h.inL hx))).1
 refine ⟨?_,?_,?_⟩
 .cases a with
  | nil=>rfl
  | cons x t=>have:=h.cari.ga x (by simp);have:=hk x (by simp);omega
 .cases b with
  | nil=>rfl
  | cons x t=>have:=h.cari.gb x (by simp);have:=hk x (by simp);omega
 .cases held with
  | nil=>rfl
  | cons x t=>have:=h.cari.gh x (by simp);have:=hk x (by simp);omega
theorem CarS.boxAfter {w':World} (h:CarS w0 p g n T0 U0 pn pc Fc cap hs E l m Bx d da db od va vb vo vh T U a b held out w) (k:Keeps vh.ownBlock.toList w w'):w'.cell? ⟨Bx,0,none⟩=some vb∧w'.frozen? ⟨Bx,0,none⟩=false:=by
 have:=k.blk h.bc fun q=>(h.aph Bx (by simpa [Option.mem_toList] using q)).2 rfl
 exact ⟨by rw [cell_of_blk this];rfl,frozen_of_blk this⟩
theorem CarS.same {w':World} (h:CarS w0 p g n T0 U0 pn pc Fc cap hs E l m Bx d da db od va vb vo vh T U a b held out w) (k:Keeps [] w w'):CarS w0 p g n T0 U0 pn pc Fc cap hs E l m Bx d da db od va vb vo vh T U a b held out w':=by
 obtain ⟨f1,f2,f3,f4,f5⟩:=h.frame k (by simp)
 exact ⟨f1,f2,ir_keep' h.wo k (by simp),h.wh.keep' k (by simp),f3,f4,h.cari,f5,h.tf,h.of,h.apa,h.apb,h.apo,h.aph,h.aoh,h.bx,k.blk h.bc (by simp)⟩
theorem CarS.apart (h:CarS w0 p g n T0 U0 pn pc Fc cap hs E l m Bx d da db od va vb vo vh T U a b held out w) (hap:∀b∈treeF p g n T0,b∉pn::Fc):∀b∈treeF p g n T,b∉pn::Fc:=fun b hb e=>by
 rcases h.tf b hb with q|q
 .exact hap b q e
 .have:=h.of b e;omega
theorem CarS.room {x:Nat} (h:CarS w0 p g n T0 U0 pn pc Fc cap hs E l m Bx d da db od va vb vo vh T U a b held out w) (hx:x<n) (hc:n<=65536):(T x).kids.length+1<=65536:=by
 have hnd:=h.cari.cubes.nodup x
 have hxk:x∉(T x).kids:=fun e=>by have:=h.cari.cubes.lt e;omega
 have:=nodup_len (List.nodup_cons.2 ⟨hxk,hnd⟩) (n:=n) (fun y hy=>by
  rcases List.mem_cons.1 hy with rfl|hy
  .exact hx
  .exact (h.fo.num x hx).2.1 y hy)
 simp only [List.length_cons] at this
 omega
theorem win_tail1 {B g off c x:Nat} {L:List Nat} (q:c=1) (u:World) (h:Win B u (.slice (some ⟨g,off,none⟩) (L.length+1) c) (x::L)):Win B u (.slice (some ⟨g,off,none⟩) L.length 0) L:=by
 rcases h with ⟨_,h⟩|⟨g2,off2,cap2,cur,e,hb,hg,h1,h2,h3⟩
 .cases h
 .cases e
  simp only [List.length_cons] at h1
  obtain rfl:L=[]:=List.length_eq_zero_iff.1 (by omega)
  exact .inr ⟨g,off,0,cur,rfl,hb,hg,by simp,by omega,by simp⟩
theorem win_tail2 {B g off c x:Nat} {L:List Nat} (u:World) (h:Win B u (.slice (some ⟨g,off,none⟩) (L.length+1) c) (x::L)):Win B u (.slice (some ⟨g,off+1,none⟩) L.length (c - 1)) L:=by
 obtain ⟨g',off',c',e,hb,h3,h4,h5⟩:=h.head
 cases e
 exact h5
end
end Go.Proofs.YtkdbjelhkfdfjaaGreatDoor

