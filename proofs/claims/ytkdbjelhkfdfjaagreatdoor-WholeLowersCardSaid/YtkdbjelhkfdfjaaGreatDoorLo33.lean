/-
  Contracts that the law rests on. Conditions: none.
-/
import Derived.Test.YtkdbjelhkfdfjaaGreatDoorLo31
import Derived.Test.YtkdbjelhkfdfjaaGreatDoorLo32
set_option linter.unusedVariables false
set_option maxRecDepth 100000
set_option maxHeartbeats 32000000
namespace Go.Proofs.YtkdbjelhkfdfjaaGreatDoor
open Go.RowKit
section
variable (w:World) (F:List Nat) (p cap hs:Nat) (E:Ent)
theorem pair_delete (c:PairAt w F p cap hs E) (h x:Nat) (hl:least E h x) :
  Calls Tryz.prog 371 #[.pointer (some ⟨p,0,none⟩),.int .i64 x] w (PairSt w F p cap hs (put E x none)):=by
 obtain ⟨pc,gt,gT,cT,Fc,K,kid,next,back,U,top,rfl,m,tr,ng,t⟩:=c
 have hn:=fun y (hy:(E y).isSome)=>m.ce.ok.lt y hy
 have htop:top h=some x:=by
  cases e:top h with
  | none=>exact absurd hl.1 (t.none_of hn e x)
  | some y=>rw [(t.first hn e).one hl]
 have hhome:=cells_home w Fc pc cap hs E m.ce x h hl.1
 obtain ⟨hk0,hk1⟩:=hl.1
 obtain ⟨h1,h2⟩:=m.ce.ok.heap x h _ hk1
 have hdrop:=fun u (hu:CellsAt u Fc pc cap hs E)=>cells_drop u Fc pc cap hs E hu x h hl.1
 have hgn:=ng
 simp only [List.mem_cons,not_or] at hgn
 obtain ⟨g1,g3,g5⟩:=hgn
 have hfin:∀(w3:World) (C:Option Nat),PairL w3 p pc gt (.slice (some ⟨gT,0,none⟩) (hs+1) cT) Fc cap hs E h top [x] (x::C.toList)->Keeps (gt::Fc) w w3 ->
   w3.cell? ⟨p,2,none⟩=some (.slice (some ⟨gT,0,none⟩) (hs+1) cT)∧w3.cell? ⟨gT,h,none⟩=some (.int .i64 (oZ (top h)))∧w3.frozen? ⟨gT,h,none⟩=false ∧
   (w3.setCell ⟨gT,h,none⟩ (.int .i64 (oZ C))).cell? ⟨p,0,none⟩=some (.pointer (some ⟨pc,0,none⟩))∧CellsAt (w3.setCell ⟨gT,h,none⟩ (.int .i64 (oZ C))) Fc pc cap hs E ∧
   ∀w4 w5,w4.heap=(w3.setCell ⟨gT,h,none⟩ (.int .i64 (oZ C))).heap->CellsAt w5 Fc pc cap hs (put E x none)->Keeps Fc w4 w5->w4.os=w3.os->w4.tape=w3.tape->w4.output=w3.output->PairSt w (p::gt::gT::Fc) p cap hs (put E x none) (.returned (.bool true)) w5:=by
  rintro w3 C ⟨K',kid',next',back',U',m3,z3,hz⟩ k3
  simp only [List.append_nil] at z3
  have tr3:=tr.keep k3 (by simp;exact ⟨g3,g5⟩)
  have k4:Keeps [gT] w3 (w3.setCell ⟨gT,h,none⟩ (.int .i64 (oZ C))):=(Keeps.refl _ _).setCell (.inl (by simp)) _
  have m4:=m3.keep k4 (fun b hb e=>by
   simp only [List.mem_cons,List.not_mem_nil,or_false] at e
   subst e
   exact ng hb)
  have tr4:=tr3.set (i:=h) (by omega) (by omega) C
  refine ⟨m3.c2,tr3.at (by omega),tr3.frozen _,m4.c0,m4.ce,fun w4 w5 e4 c5 k5 o4 t4 u4=>?_⟩
  have k44:Keeps [] (w3.setCell ⟨gT,h,none⟩ (.int .i64 (oZ C))) w4:=⟨o4,t4,u4,by rw [e4];exact Nat.le_refl _,fun b _ _=>by rw [e4]⟩
  have hnd:=z3.nd
  refine ⟨rfl,⟨pc,gt,gT,cT,Fc,K',kid',next',back',U',upd top h C,rfl,(m4.keep k44 (by simp)).cells c5 k5,(tr4.keep k44 (by simp)).keep k5 g5,ng,z3.drop (by simp) (hz x (by simp)) fun y=>?_⟩,?_⟩
  .have hx:=(List.nodup_cons.1 hnd).1
   cases C with
   | none=>simp
   | some r =>
    simp only [Option.toList_some,List.mem_cons,List.not_mem_nil,or_false,Option.some.injEq] at hx ⊢
    constructor
    .rintro ⟨c|c,d⟩
     .exact absurd c d
     .exact c.symm
    .rintro rfl;exact ⟨.inr rfl,fun e=>hx e.symm⟩
  .exact (((k3.mono (T:=p::gt::gT::Fc) (fun b hb=>.inl (by simp only [List.mem_cons] at hb ⊢;rcases hb with c|c<;>simp [c]))).trans k4 (by simp)).trans k44 (by simp)).trans k5 (fun b hb=>.inl (by simp [hb]))
 have hdr:∀a,PairMid (w.drewN a) p pc gt (.slice (some ⟨gT,0,none⟩) (hs+1) cT) Fc cap hs E kid next back:=fun a=>m.drewN a
 have hsh:=fun a=>shed_calls (w.drewN a) p pc gt _ Fc cap hs E h top K kid next back U (hdr a) x (by have:=t.opened h;rw [htop] at this;exact this)
 have d0:=m.c0
 have d2:=m.c2
 have d3:=tr.at (i:=h) (by omega)
 rw [htop,oZ_some] at d3
 have hhs3:(h:Int)<((hs+1:Nat):Int):=by omega
 have hhs4:(h:Int)<(hs:Int)+1:=by omega
 have hxx:((x:Int)==(x:Int))=true:=by simp
 have HF:=Lib.hid hfin
 have HSH:=Lib.hid hsh
 have HDROP:=Lib.hid hdrop
 clear hfin hsh hdrop hdr t tr ng htop hn hk1 m
 go_enter Tryz.func371,Tryz.ntmps371
 go_upto_region 5 with (go_at_call 302;refine hhome.mono ?_;rintro e w1 ⟨rfl,n1,rfl⟩)
 have hs5:=HSH.out (n1+1)
 go_region_law (first
  | (go_simp;go_at_call 379;refine hs5.mono ?_;rintro e w3 ⟨C,rfl,s3,k3⟩;obtain ⟨d6,d7,f7,d8,c8,hfi⟩:=HF.out w3 C s3 k3.ofDrewN;have HFI:=Lib.hid hfi;clear hfi))
 all_goals
  clear d0 d2 d3 hs5 HSH
  go_wp2_with (first
   | (go_at_call 312;refine (HDROP.out _ c8).mono ?_;rintro e w5 ⟨rfl,c5,k6⟩))
  go_ret
  exact HFI.out _ w5 rfl c5 k6 rfl rfl rfl
def PairExt (w:World) (F:List Nat) (p cap hs:Nat) (E:Ent) (h:Nat) (e:Ending) (w':World):Prop :=
 ∃x:Nat,e=.returned (.tuple #[.int .i64 x,.bool true])∧least E h x∧PairAt w' F p cap hs (put E x none)∧Keeps F w w'
theorem pair_extract (c:PairAt w F p cap hs E) (h:Nat) (h1:1<=h) (h2:h<=hs) (hi:∃y,isIn E h y) :
  Calls Tryz.prog 372 #[.pointer (some ⟨p,0,none⟩),.int .i64 h] w (PairExt w F p cap hs E h):=by
 have hm:=pair_min_yes w F p cap hs E c h h1 h2 hi
 have hd:=fun x hl=>pair_delete w F p cap hs E c h x hl
 clear c hi
 go_enter Tryz.func372,Tryz.ntmps372
 go_wp2_with (first
  | (go_at_call 376;refine hm.mono ?_;rintro e w1 ⟨⟨x,rfl,hl⟩,rfl⟩)
  | (go_at_call 371;refine (hd _ hl).mono ?_;rintro e w2 ⟨rfl,c2,k2⟩))
 go_ret2
 exact ⟨x,rfl,hl,c2,k2⟩
def PairMade (w:World) (F:List Nat) (p cap hs:Nat) (E:Ent) (e:Ending) (w':World):Prop:=∃F',e=.returned (.int .i64 ((hs+1:Nat):Int))∧PairAt w' F' p cap (hs+1) E∧Moved F w F' w'
theorem pair_make (c:PairAt w F p cap hs E) (hh:hs<65536):Calls Tryz.prog 374 #[.pointer (some ⟨p,0,none⟩)] w (PairMade w F p cap hs E):=by
 have hlt:=c.lt
 obtain ⟨pc,gt,gT,cT,Fc,K,kid,next,back,U,top,rfl,m,tr,ng,t⟩:=c
 have hmk:=cells_make w Fc pc cap hs E m.ce hh
 have d0:=m.c0
 obtain ⟨⟨a1,a4⟩,cd⟩:=m.ne
 obtain ⟨l1,l2,l4⟩:=m.lt
 have l6:=tr.lt
 have hgn:=ng
 simp only [List.mem_cons,not_or] at hgn
 obtain ⟨g1,g2,g5⟩:=hgn
 have ht:top (hs+1)=none:=by
  cases e:top (hs+1) with
  | none=>rfl
  | some x =>
   obtain ⟨k,hk⟩:=((t.all _ _).1 e).1
   have:=m.ce.ok.heap x _ _ hk
   omega
 have hfin:∀(w1 w4:World) (Fc':List Nat) (g' c':Nat),CellsAt w1 Fc' pc cap (hs+1) E->Moved Fc w Fc' w1->w4.ownsRow 0 3 1 (.slice (some ⟨g',0,none⟩) (hs+1+1) c') (hs+1+1) (topsV top (hs+1)++[.int .i64 (-1)])->Keeps [gT] w1 w4->(g'=gT∨w1.heap.size<=g') ->
   w4.frozen? ⟨p,2,none⟩=false∧w4.cell? ⟨p,2,none⟩=some (.slice (some ⟨gT,0,none⟩) (hs+1) cT)∧PairMade w (p::gt::gT::Fc) p cap hs E (.returned (.int .i64 ((hs+1:Nat):Int))) (w4.setCell ⟨p,2,none⟩ (.slice (some ⟨g',0,none⟩) (hs+1+1) c')):=by
  intro w1 w4 Fc' g' c' hc1 hm1 hr4 k4 hg4
  have s1:=hm1.keeps.size
  have s4:=k4.size
  have hcl:=hc1.lt
  have hnew:∀b,b∉Fc->b<w.heap.size->b∉Fc':=fun b a c e=>by
   rcases hm1.from' b e with f|f
   .exact a f
   .omega
  have b4:=k4.blk (hm1.keeps.blk m.blk a4) (by simpa using fun e=>g1 e.symm)
  have hgF:g'∉Fc':=by rcases hg4 with e|e;rw [e];exact hnew gT g5 l6;exact fun f=>by have:=hcl _ f;omega
  have hgs:g'≠p∧g'≠gt:=by rcases hg4 with e|e;rw [e];exact ⟨g1,g2⟩;refine ⟨?_,?_⟩<;>omega
  have k5:Keeps [p] w4 (w4.setCell ⟨p,2,none⟩ (.slice (some ⟨g',0,none⟩) (hs+1+1) c')):=(Keeps.refl _ _).setCell (.inl (by simp)) _
  have k15:Keeps [p,gT] w1 (w4.setCell ⟨p,2,none⟩ (.slice (some ⟨g',0,none⟩) (hs+1+1) c')):=(k4.mono (T:=[p,gT]) (by simp)).trans k5 (by simp)
  have kall:Keeps (p::gT::Fc) w (w4.setCell ⟨p,2,none⟩ (.slice (some ⟨g',0,none⟩) (hs+1+1) c')):=(hm1.keeps.mono (T:=p::gT::Fc) fun b hb=>.inl (by simp [hb])).trans k15 fun b hb=>.inl (by simp at hb;rcases hb with c|c<;>simp [c])
  have m5:PairMid (w4.setCell ⟨p,2,none⟩ (.slice (some ⟨g',0,none⟩) (hs+1+1) c')) p pc gt (.slice (some ⟨g',0,none⟩) (hs+1+1) c') Fc' cap (hs+1) E kid next back:=by
   refine ⟨?_,?_,hc1.keep k15 ?_,m.ti.keep kall ?_⟩
   .simp only [List.nodup_cons,List.mem_cons,not_or]
    exact ⟨⟨a1,hnew p a4 l1⟩,hnew gt cd l2,hc1.nodup⟩
   .rw [blk_setCell _ b4];simp
   .intro b hb e
    simp only [List.mem_cons,List.not_mem_nil,or_false] at e
    rcases e with rfl|rfl
    .exact hnew b a4 l1 hb
    .exact hnew b g5 l6 hb
   .simp only [List.mem_cons,not_or];exact ⟨fun e=>a1 e.symm,fun e=>g2 e.symm,cd⟩
  have tr5:TopRow (w4.setCell ⟨p,2,none⟩ (.slice (some ⟨g',0,none⟩) (hs+1+1) c')) g' (hs+1+1) c' top:=(tr.more ht (by omega) hr4).keep k5 (by simpa using hgs.1)
  refine ⟨frozen_of_blk b4,by rw [cell_of_blk b4];rfl,p::gt::g'::Fc',rfl,⟨pc,gt,g',c',Fc',K,kid,next,back,U,top,rfl,m5,tr5,?_,t⟩,kall.mono ?_,?_,?_⟩
  .simp only [List.mem_cons,not_or];exact ⟨hgs.1,hgs.2,hgF⟩
  .intro b hb
   simp only [List.mem_cons] at hb ⊢
   rcases hb with c|c|c<;>simp [c]
  .intro b hb
   simp only [List.mem_cons] at hb ⊢
   rcases hb with rfl|rfl|rfl|hb
   .simp
   .simp
   .rcases hg4 with e|e
    .simp [e]
    .exact .inr (by omega)
   .rcases hm1.from' b hb with c|c
    .simp [c]
    .exact .inr c
  .intro b hb
   obtain ⟨q1,q2,q4⟩:=m5.lt
   simp only [List.mem_cons] at hb
   rcases hb with rfl|rfl|rfl|hb
   .exact q1
   .exact q2
   .exact tr5.lt
   .exact q4 b hb
 have hstep:∀(w1:World) (Fc':List Nat),Moved Fc w Fc' w1->w1.cell? ⟨p,2,none⟩=some (.slice (some ⟨gT,0,none⟩) (hs+1) cT)∧w1.ownsRow 0 3 1 (.slice (some ⟨gT,0,none⟩) (hs+1) cT) (hs+1) (topsV top (hs+1)):=fun w1 Fc' h1 =>
  ⟨by rw [cell_of_blk (h1.keeps.blk m.blk a4)];rfl,h1.keeps.row tr.row g5⟩
 have hh3:(0:Int)<((hs+1:Nat):Int):=by omega
 have HF:=Lib.hid hfin
 have HS:=Lib.hid hstep
 clear hfin hstep m tr t hlt ht
 go_enter Tryz.func374,Tryz.ntmps374
 go_upto_region 3 with (go_at_call 318;refine hmk.mono ?_;rintro e w1 ⟨Fc',rfl,hc1,hm1⟩)
 obtain ⟨q1,q2⟩:=HS.out w1 Fc' hm1
 go_wp2_with (first
  | (at_builtin;refine wpList_push _ 3 (.int .i64 (-1)) (0,0) rfl (.tmp 15) (.tmp 16) 28 rfl (.int .i64 0) 8 Tryz.underlying28 Rg.Tryz.infoInt rfl rfl _ (hs+1) (topsV top (hs+1)) (by simp [Act.eval]) q2 (by simp [Act.eval]) (by unfold maxLen;omega) (by omega) ?_;intro g' cap' w4 hr4 hk4 hf4;obtain ⟨f5,c5,hD5⟩:=HF.out w1 w4 Fc' g' cap' hc1 hm1 hr4 (by simpa [Value.ownBlock] using hk4) (by simpa [Value.ownBlock,eq_comm] using hf4);clear hr4 hk4 hf4))
 go_ret
 exact hD5
end
theorem Tryz.infoTie:(Tryz.prog.info? 218).map (fun i=>(i.zero,i.size,i.bytes))=some (some (.agg #[.int .i64 0,.int .i64 0,.int .i64 0]),3,24):=by kernel_rfl
def PairNew (w:World) (n:Nat) (e:Ending) (w':World):Prop :=
 ∃(F:List Nat) (p:Nat),e=.returned (.tuple #[.pointer (some ⟨p,0,none⟩),.int .i64 0])∧PairAt w' F p n 0 (fun _=>none)∧Keeps [] w w'∧∀b∈F,w.heap.size<=b
theorem pair_new (w:World) (n:Nat) (hn:n<=65536):Calls Tryz.prog 62 #[.int .i64 n] w (PairNew w n):=by
 obtain ⟨i0,hi,hz0,hz1,hzb⟩:=info_parts Tryz.infoTie
 go_enter Tryz.func62,Tryz.ntmps62
 go_upto_region 5 with (first
  | (go_at_call 87;refine (cells_new w n hn).mono ?_;rintro e w1 ⟨Fc,pc,rfl,hc1,hk1,hF1⟩)
  | (at_make;refine wpList_make_full _ rfl _ _ 214 rfl 0 218 i0 (.agg #[.int .i64 0,.int .i64 0,.int .i64 0]) 3 Tryz.underlying214 hi hz0 hz1 .i64 .i64 n n n rfl rfl rfl rfl (by rw [hzb];omega) (by unfold maxLen;omega) (Nat.zero_le _) ?_;intro w2 hr2 hg2))
 have hk2:Keeps [] w1 w2:=(Keeps.refl _ _).grown hg2 (fun k h=>by cases h)
 have hg1:w1.heap.size<w2.heap.size:=row_lt hr2
 have ha:Arr w2 218 3 n w1.heap.size (laidL 0):=(Arr.made rfl (by decide) hr2).congr (fun i _=>by simp [laidL];rfl)
 have hl1:=hc1.lt
 have k1:=hk1.size
 obtain ⟨w4,hw4⟩:∃w4,w4=(w2.alloc (.cells #[.int .i64 (-1)] 3)).alloc (.cells #[.pointer (some ⟨pc,0,none⟩),.slice (some ⟨w1.heap.size,0,none⟩) n n,.slice (some ⟨w2.heap.size,0,none⟩) 1 1] 216):=⟨_,rfl⟩
 have hb4:w4.heap[w2.heap.size+1]?=some (.cells #[.pointer (some ⟨pc,0,none⟩),.slice (some ⟨w1.heap.size,0,none⟩) n n,.slice (some ⟨w2.heap.size,0,none⟩) 1 1] 216 (0,0)):=by
  rw [hw4]
  have:=blk_alloc_new (w:=w2.alloc (.cells #[.int .i64 (-1)] 3 (0,0))) (.cells #[.pointer (some ⟨pc,0,none⟩),.slice (some ⟨w1.heap.size,0,none⟩) n n,.slice (some ⟨w2.heap.size,0,none⟩) 1 1] 216 (0,0))
  simpa using this
 have ht4:w4.heap[w2.heap.size]?=some (.cells #[.int .i64 (-1)] 3 (0,0)):=by
  rw [hw4,blk_alloc_old _ (by simp),blk_alloc_new]
 have hk4:Keeps [] w2 w4:=by rw [hw4];exact ((Keeps.refl _ _).alloc _).alloc _
 have ha4:=ha.keep hk4 (by simp)
 have hc4:=(hc1.keep hk2 (by simp)).keep hk4 (by simp)
 have hz4:w4.heap.size=w2.heap.size+2:=by rw [hw4];simp
 have hkw:Keeps [] w w4:=(hk1.trans hk2 (by simp)).trans hk4 (by simp)
 rw [<-hw4]
 obtain ⟨g,hgd⟩:∃g,w1.heap.size=g:=⟨_,rfl⟩
 obtain ⟨gT,hTd⟩:∃g,w2.heap.size=g:=⟨_,rfl⟩
 have hF2:∀b∈Fc,b<g:=fun b hb=>by have:=hl1 b hb;omega
 rw [hgd,hTd] at hb4
 rw [hTd] at ht4
 rw [hgd] at ha4
 rw [hgd,hTd]
 have hgg:g<gT:=by omega
 have hgw:w.heap.size<=g:=by omega
 have e1:w4.cell? ⟨gT+1,1,none⟩=some (.slice (some ⟨g,0,none⟩) n n):=by rw [cell_of_blk hb4];rfl
 clear hr2 hg2 ha hk2 hk4 hc1 hk1 hg1 hw4 hgd hTd
 go_wp2_with fail
 go_loopg [27] (n+1) (fun m s wr=>∃i:Nat,m+i=n+1∧i<=n∧s=.int .i64 i∧Arr wr 218 3 n g (laidL i)∧Keeps [g] w4 wr)
 case atStart=>exact ⟨0,by omega,by omega,rfl,ha4,Keeps.refl _ _⟩
 case round =>
  clear ha4 e1
  obtain ⟨i,hk,hin,rfl,ha,kp⟩:=hrel
  have HK:=Lib.hid hk
  clear hk
  have hb:=kp.blk hb4 (by simp;omega)
  have e1:wr.cell? ⟨gT+1,1,none⟩=some (.slice (some ⟨g,0,none⟩) n n):=by rw [cell_of_blk hb];rfl
  by_cases hlt:i<n
  .have hlt3:(i:Int)<(n:Int):=by omega
   have f0:=ha.frozen (i*3)
   have f1:=ha.frozen (i*3+1)
   have f2:=ha.frozen (i*3+2)
   have d0:=ha.cell hlt (j:=0) (by omega)
   have d1:=ha.cell hlt (j:=1) (by omega)
   have d2:=ha.cell hlt (j:=2) (by omega)
   simp only [laidL,Nat.lt_irrefl,if_false,List.getElem?_cons_zero,List.getElem?_cons_succ,Nat.add_zero] at d0 d1 d2
   have h3:=ha.set3 hlt (.int .i64 (-1)) (.int .i64 (-1)) (.int .i64 (-1))
   rw [laidL_upd] at h3
   have k3:Keeps [g] w4 (((wr.setCell ⟨g,i*3,none⟩ (.int .i64 (-1))).setCell ⟨g,i*3+1,none⟩ (.int .i64 (-1))).setCell ⟨g,i*3+2,none⟩ (.int .i64 (-1))):=((kp.setCell (.inl (by simp)) _).setCell (.inl (by simp)) _).setCell (.inl (by simp)) _
   clear ha hb kp
   go_wp2_with fail
   go_roundg (gk - 1)
   case measure=>have:=HK.out;omega
   case rel=>exact ⟨i+1,by have:=HK.out;omega,by omega,by go_num,h3,k3⟩
  .obtain rfl:i=n:=by omega
   have ht:=kp.blk ht4 (by simp;omega)
   have hc5:=hc4.keep kp (fun b hb=>by have:=hF2 b hb;simp;omega)
   have k5:Keeps [] w wr:=hkw.trans kp (by simp;omega)
   go_wp2_with fail
   go_ret2
   refine ⟨(gT+1)::g::gT::Fc,gT+1,rfl,⟨pc,g,gT,1,Fc,fun _=>[],fun _=>none,fun _=>none,fun _=>none,fun _=>none,fun _=>none,rfl,⟨?_,hb,hc5,⟨ha.congr (fun j hj=>by simp [laidL,tieV,oZ,hj]),by simp⟩⟩,⟨?_,rfl⟩,?_,Pairs.init⟩,k5,?_⟩
   .simp only [List.nodup_cons,List.mem_cons,not_or]
    exact ⟨⟨by omega,fun e=>by have:=hF2 _ e;omega⟩,fun e=>by have:=hF2 _ e;omega,hc5.nodup⟩
   .exact ⟨by simp [topsV],.inr ⟨gT,1,#[.int .i64 (-1)],rfl,Nat.zero_le _,ht,by simp,by decide,by simp,by simp [topsV,oZ]⟩⟩
   .simp only [List.mem_cons,not_or]
    exact ⟨by omega,by omega,fun e=>by have:=hF2 _ e;omega⟩
   .intro b hb
    simp only [List.mem_cons] at hb
    rcases hb with rfl|rfl|rfl|hb
    .omega
    .omega
    .omega
    .exact hF1 b hb
section
variable (w:World) (F:List Nat) (p cap hs:Nat) (E:Ent)
def ShedIn (w:World) (F:List Nat) (p cap hs:Nat) (E':Ent) (e:Ending) (w':World):Prop:=e=.returned (.bool true)∧∃F',ShedAt w' F' p cap hs E'∧Moved F w F' w'
theorem shed_insert (c:ShedAt w F p cap hs E) (h x q:Nat) (k:Int) (h1:1<=h) (h2:h<=hs) (hx:x<cap) (he:E x=none) (hk:(Lit.int .i64 k).wf=true) (hq:(Lit.int .u64 (q:Int)).wf=true) :
  Calls Tryz.prog 436 #[.pointer (some ⟨p,0,none⟩),.int .i64 h,.int .i64 x,.agg #[.int .i64 k,.int .u64 (q:Int)]] w (ShedIn w F p cap hs (put E x (some (h,k,q)))):=by
 have hlt:=c.lt
 obtain ⟨pc,gr,rc,ga,Fc,R,f,rfl,m⟩:=c
 have hbc:=m.ce.ok.bc
 have hb0:Below w.heap.size w (w.alloc (.cells #[.int .i64 k,.int .u64 (q:Int)] 104)):=(Below.refl _ w).alloc (Nat.le_refl _) _
 have e0:(w.alloc (.cells #[.int .i64 k,.int .u64 (q:Int)] 104)).cell? ⟨w.heap.size,0,none⟩=some (.int .i64 k):=by rw [cell_of_blk (blk_alloc_new _)];rfl
 have e1:(w.alloc (.cells #[.int .i64 k,.int .u64 (q:Int)] 104)).cell? ⟨w.heap.size,1,none⟩=some (.int .u64 (q:Int)):=by rw [cell_of_blk (blk_alloc_new _)];rfl
 have m0:=m.keep (S:=[]) (Below.keeps hb0 (Nat.le_refl _) []) (by simp)
 have hw0:w.heap.size<(w.alloc (.cells #[.int .i64 k,.int .u64 (q:Int)] 104)).heap.size:=by simp
 have hhs3:(h:Int)<((hs+1:Nat):Int):=by omega
 have hhs4:(h:Int)<(hs:Int)+1:=by omega
 have hmv:=Moved.below hlt hb0
 have hnx:∀j,j<(R h).n->(R h).v j≠x:=fun j hj e=>by have:=m.isSome h1 h2 j hj;rw [e,he] at this;cases this
 clear m
 go_enter Tryz.func436,Tryz.ntmps436
 go_upto_region 1 with fail
 generalize hW0:w.alloc (.cells #[.int .i64 k,.int .u64 (q:Int)] 104)=w0 at *
 clear hW0
 have d0:=m0.c0
 have d1:=m0.c1
 have d3:=m0.row h1 h2
 obtain ⟨n1,n2,n3,n4,n5,n6⟩:=m0.ne
 have hS:∀u,Keeps Fc w0 u->u.cell? ⟨p,0,none⟩=some (.pointer (some ⟨pc,0,none⟩))∧u.cell? ⟨w.heap.size,0,none⟩=some (.int .i64 k)∧u.cell? ⟨w.heap.size,1,none⟩=some (.int .u64 (q:Int)):=fun u kk =>
  have hz:w.heap.size∉Fc:=fun e=>Nat.lt_irrefl _ (hlt _ (nestF_mem.2 (.inr (.inr (.inl (by simp [e]))))))
  ⟨(World.cell?_of_block (a:=⟨p,0,none⟩) (kk.block p (lt_of_block m0.blk) n4)).trans d0,
   (World.cell?_of_block (a:=⟨_,0,none⟩) (kk.block _ hw0 hz)).trans e0,(World.cell?_of_block (a:=⟨_,1,none⟩) (kk.block _ hw0 hz)).trans e1⟩
 have hT:∀u,Keeps Fc w0 u->u.cell? ⟨p,1,none⟩=some (.slice (some ⟨gr,0,none⟩) (hs+1) rc)∧u.cell? ⟨gr,h,none⟩=some (.pointer (some ⟨(R h).p,0,none⟩)):=fun u kk =>
  ⟨(World.cell?_of_block (a:=⟨p,1,none⟩) (kk.block p (lt_of_block m0.blk) n4)).trans d1,(World.cell?_of_block (a:=⟨gr,h,none⟩) (kk.block gr (row_lt m0.rows) n5)).trans d3⟩
 have kdr:Keeps Fc w0 w0.drew:=⟨rfl,rfl,rfl,Nat.le_refl _,fun _ _ _=>rfl⟩
 have hput:=fun u (hu:CellsAt u Fc pc cap hs E)=>cells_put u Fc pc cap hs E hu h x q k h1 h2 hx he hk hq
 have hrok:=m0.ok h h1 h2
 have hE2:∀j,j<(R h).n->(put E x (some (h,k,q)) ((R h).v j)).isSome:=fun j hj=>by rw [put_other E x _ (hnx j hj)];exact m0.isSome h1 h2 j hj
 have hheap:Heap' 2 (ahead (put E x (some (h,k,q)))) (R h).v (R h).n:=hrok.heap.cong (by decide) (fun _ _=>rfl) fun i j hi hj=>ahead_put_other (hnx i hi) (hnx j hj)
 have hnle:(R h).n+1<=65536:=by
  have:(R h).n+1<=cap:=by
   have h5:=nodup_len (n:=cap) (l:=x::(List.range (R h).n).map (R h).v) (by
    rw [List.nodup_cons]
    refine ⟨fun e=>?_,?_⟩
    .obtain ⟨j,hj,e⟩:=List.mem_map.1 e
     exact hnx j (List.mem_range.1 hj) e
    .exact List.pairwise_map.2 (List.Pairwise.imp_of_mem (fun {a b} ha hb hne e=>hne (hrok.inj a b (List.mem_range.1 ha) (List.mem_range.1 hb) e)) List.nodup_range)) (by
    intro y hy
    simp only [List.mem_cons,List.mem_map,List.mem_range] at hy
    rcases hy with rfl|⟨j,hj,rfl⟩
    .exact hx
    .exact m0.ce.ok.lt _ (m0.isSome h1 h2 j hj))
   simpa using h5
  omega
 have hadd:∀u,CellsAt u Fc pc cap hs (put E x (some (h,k,q)))->Keeps Fc w0 u->Calls Tryz.prog 442 #[.iface 478 (.pointer (some ⟨(R h).p,0,none⟩)),.iface 3 (.int .i64 x)] u (HAdd u p pc ga (R h).p (R h).ao (.slice (some ⟨gr,0,none⟩) (hs+1) rc) Fc cap hs (put E x (some (h,k,q))) (R h).n (R h).v f x):=fun u hu kk =>
  heap_push u p pc ga (R h).p (R h).ao (R h).ca _ Fc cap hs _ (R h).n (R h).v f ((m0.mem h h1 h2).cells hu kk) x hnx hE2 (by rw [put_same];rfl) hnle hheap
 have hfin:∀u w2,Keeps Fc w0 u->HAdd u p pc ga (R h).p (R h).ao (.slice (some ⟨gr,0,none⟩) (hs+1) rc) Fc cap hs (put E x (some (h,k,q))) (R h).n (R h).v f x (.returned (.tuple #[])) w2->ShedIn w (nestF p gr (ga::Fc) hs fun g=>pf (R g)) p cap hs (put E x (some (h,k,q))) (.returned (.bool true)) w2:=by
  rintro u w2 k1 ⟨ao',ca',v',f',_,hp2,hm2,hh2,k2,fp2,ho2⟩
  have hch:=m0.change h1 h2 (w':=w2) (E':=put E x (some (h,k,q))) (r:={ p:=(R h).p,mb:=0,ao:=ao',ca:=ca',n:=(R h).n+1,v:=v' }) ((k1.mono (T:=ga::(pf (R h)++Fc)) fun b hb=>.inl (by simp [hb])).trans k2 fun b hb=>.inl hb) rfl
   (fun b hb=>by rcases fp2 b hb with c|c;exact .inl c;exact .inr (Nat.le_trans k1.size c)) hp2
   ⟨hp2.inj,fun z=>by
    show _↔∃j,j<(R h).n+1∧v' j=z
    rw [hm2 z,isIn_put,<-hrok.mem z]
    constructor
    .rintro (⟨c,_⟩|⟨_,c⟩)
     .exact .inl c
     .exact .inr c
    .rintro (c|c)
     .exact .inl ⟨c,rfl⟩
     .refine .inr ⟨?_,c⟩
      obtain ⟨j,hj,e⟩:=(hrok.mem z).1 c
      rw [<-e];exact hnx j hj,hh2⟩
   (fun g' a b c=>(m0.ok g' a b).other (by decide) (fun j hj e=>by have:=m0.isSome a b j hj;rw [e,he] at this;cases this) fun y=>by
    rw [isIn_put]
    constructor
    .rintro (⟨_,e⟩|⟨_,e⟩)
     .exact absurd e c
     .exact e
    .intro e
     refine .inr ⟨?_,e⟩
     rintro rfl
     have:=e.some
     rw [he] at this;cases this)
   (fun g' a b c j hj=>ho2 _ (fun e=>by have:=m0.isSome a b j hj;rw [e,he] at this;cases this) (fun i hi e=>c (isIn_one (((m0.ok g' a b).mem _).2 ⟨j,hj,e.symm⟩) ((hrok.mem _).2 ⟨i,hi,rfl⟩))))
  exact ⟨rfl,_,⟨pc,gr,rc,ga,Fc,_,f',rfl,hch.1⟩,hmv.trans hch.2⟩
 have HF:=Lib.hid hfin
 have HADD:=Lib.hid hadd
 have HPUT:=Lib.hid hput
 have HT:=Lib.hid hT
 have hce:=m0.ce
 clear hfin hadd hput hE2 hheap hrok hnx hlt he hT m0 d1 d3
 go_region_held3 (fun u=>u.cell? ⟨p,0,none⟩=some (.pointer (some ⟨pc,0,none⟩))∧u.cell? ⟨w.heap.size,0,none⟩=some (.int .i64 k)∧u.cell? ⟨w.heap.size,1,none⟩=some (.int .u64 (q:Int)))
  (first|exact hS _ kdr|exact q1)
  (first
   | (go_at_call 316;refine (HPUT.out _ (by exact hce.drew)).mono ?_;rintro e w1 ⟨rfl,hc1,hk1⟩;have k1:Keeps Fc w0 w1:=hk1.ofDrew;have q1:=hS w1 k1))
 all_goals
  obtain ⟨d1,d3⟩:=HT.out w1 k1
  clear hS q1 kdr d0 e0 e1
  go_wp2_with (go_at_call 442;refine (HADD.out _ hc1 k1).mono ?_;intro e w2 hd;obtain ⟨_,_,_,_,rfl,_⟩:=id hd;have hr:=HF.out _ _ k1 hd;have HR:=Lib.hid hr;clear hd hr)
  go_ret
  exact HR.out
theorem shed_delete (c:ShedAt w F p cap hs E) (h x:Nat) (hx:isIn E h x) :
  Calls Tryz.prog 434 #[.pointer (some ⟨p,0,none⟩),.int .i64 x] w (ShedIn w F p cap hs (put E x none)):=by
 have hlt:=c.lt
 obtain ⟨pc,gr,rc,ga,Fc,R,f,rfl,m⟩:=c
 have hbc:=m.ce.ok.bc
 obtain ⟨h1,h2⟩:1<=h∧h<=hs:=by obtain ⟨k,e⟩:=hx;exact m.ce.ok.heap x h k e
 have hrok:=m.ok h h1 h2
 obtain ⟨i,hi,hvi⟩:=(hrok.mem x).1 hx
 obtain ⟨n,hn⟩:∃n,(R h).n=n+1:=⟨(R h).n - 1,by omega⟩
 have hfull:=m.mem h h1 h2
 have hinj:=hrok.inj
 have hheap:=hrok.heap
 have hsome:=m.isSome h1 h2
 have hat:=(hfull.pl hi).1
 rw [hvi] at hat
 rw [hn] at hfull hinj hheap hsome hi
 have hnle:n+1<=65536:=by
  have h5:=nodup_len (n:=cap) (l:=(List.range (n+1)).map (R h).v)
   (List.pairwise_map.2 (List.Pairwise.imp_of_mem (fun {a b} ha hb hne e=>hne (hinj a b (List.mem_range.1 ha) (List.mem_range.1 hb) e)) List.nodup_range)) (by
    intro y hy
    obtain ⟨j,hj,rfl⟩:=List.mem_map.1 hy
    exact m.ce.ok.lt _ (hsome j (List.mem_range.1 hj)))
  simp at h5
  omega
 have hhome:=cells_home w Fc pc cap hs E m.ce x h hx
 have hrem:∀u,u.heap=w.heap->u.os=w.os->u.tape=w.tape->u.output=w.output->Calls Tryz.prog 441 #[.iface 478 (.pointer (some ⟨(R h).p,0,none⟩)),.int .i64 i] u (HRem u p pc ga (R h).p (R h).ao (R h).ca (.slice (some ⟨gr,0,none⟩) (hs+1) rc) Fc cap hs E n (R h).v f i):=fun u e1 e2 e3 e4 =>
  heap_remove u p pc ga (R h).p (R h).ao (R h).ca _ Fc cap hs E n (R h).v f (hfull.same ⟨e2,e3,e4,by rw [e1];exact Nat.le_refl _,fun k _ _=>by rw [e1]⟩) i hi hsome hnle hheap
 have hdrop:=fun u (hu:CellsAt u Fc pc cap hs E)=>cells_drop u Fc pc cap hs E hu x h hx
 obtain ⟨n1,n2,n3,n4,n5,n6⟩:=m.ne
 have d0:=m.c0
 have d1:=m.c1
 have d2:=m.c2
 have d3:=m.row h1 h2
 have hpl:=lt_of_block m.blk
 have hpno:p∉ga::(pf (R h)++Fc):=fun e=>by
  simp only [List.mem_cons,List.mem_append] at e
  rcases e with e|e|e
  .exact n2 e
  .exact (m.own h h1 h2 p e).1 rfl
  .exact n4 e
 have hmid:∀u w2 r,u.heap=w.heap->u.os=w.os->u.tape=w.tape->u.output=w.output->HRem u p pc ga (R h).p (R h).ao (R h).ca (.slice (some ⟨gr,0,none⟩) (hs+1) rc) Fc cap hs E n (R h).v f i r w2 ->
   w2.cell? ⟨p,0,none⟩=some (.pointer (some ⟨pc,0,none⟩))∧CellsAt w2 Fc pc cap hs E∧∀w3,CellsAt w3 Fc pc cap hs (put E x none)->Keeps Fc w2 w3->ShedIn w (nestF p gr (ga::Fc) hs fun g=>pf (R g)) p cap hs (put E x none) (.returned (.bool true)) w3:=by
  rintro u w2 r e1 e2 e3 e4 ⟨v',f',_,hp2,hm2,hh2,k2,ho2⟩
  have ku:Keeps [] w u:=⟨e2,e3,e4,by rw [e1];exact Nat.le_refl _,fun k _ _=>by rw [e1]⟩
  have kw:Keeps (ga::(pf (R h)++Fc)) w w2:=(ku.mono (T:=ga::(pf (R h)++Fc)) (by simp)).trans k2 (fun b hb=>.inl hb)
  refine ⟨by rw [cell_of_blk (kw.blk m.blk hpno)];rfl,hp2.ce,fun w3 hc3 k3=>?_⟩
  have hne:∀j,j<n->v' j≠x:=fun j hj e=>((hm2 (v' j)).1 ⟨j,hj,rfl⟩).1 (e.trans hvi.symm)
  have hch:=m.change h1 h2 (w':=w3) (E':=put E x none) (r:={ p:=(R h).p,mb:=0,ao:=(R h).ao,ca:=(R h).ca,n:=n,v:=v' }) (kw.trans k3 fun b hb=>.inl (by simp [hb])) rfl
   (fun b hb=>.inl hb) (hp2.cells hc3 k3)
   ⟨hp2.inj,fun z=>by
    show _↔∃j,j<n∧v' j=z
    rw [hm2 z,isIn_drop,hrok.mem z,hn,hvi],hh2.cong (by decide) (fun _ _=>rfl) fun a b ha hb=>ahead_put_other (hne a ha) (hne b hb)⟩
   (fun g' a b c=>(m.ok g' a b).other (by decide) (fun j hj e=>c (isIn_one (((m.ok g' a b).mem x).2 ⟨j,hj,e⟩) hx)) fun y=>by
    rw [isIn_drop]
    constructor
    .exact fun e=>e.2
    .intro e
     refine ⟨?_,e⟩
     rintro rfl
     exact c (isIn_one e hx))
   (fun g' a b c j hj=>ho2 _ (fun i' hi' e=>c (isIn_one (((m.ok g' a b).mem _).2 ⟨j,hj,e.symm⟩) ((hrok.mem _).2 ⟨i',by omega,rfl⟩))))
  exact ⟨rfl,_,⟨pc,gr,rc,ga,Fc,_,f',rfl,hch.1⟩,hch.2⟩
 have hhs3:(h:Int)<((hs+1:Nat):Int):=by omega
 have hhs4:(h:Int)<(hs:Int)+1:=by omega
 have hxc:x<cap:=by rw [<-hvi];exact m.ce.ok.lt _ (hsome i hi)
 have hx3:(x:Int)<(cap:Int):=by omega
 have HM:=Lib.hid hmid
 have HR:=Lib.hid hrem
 have HD:=Lib.hid hdrop
 clear hmid hrem hdrop m hrok hvi hfull hinj hheap hsome hlt hx hn
 go_enter Tryz.func434,Tryz.ntmps434
 go_upto_region 4 with (go_at_call 302;refine hhome.mono ?_;rintro e w' ⟨rfl,a1,rfl⟩)
 go_region_law (first
  | (go_simp;go_at_call 441;refine (HR.out _ (by rfl) (by rfl) (by rfl) (by rfl)).mono ?_;intro e w2 hd;obtain ⟨_,_,rfl,_⟩:=id hd;obtain ⟨c0,ce2,hr⟩:=HM.out _ _ _ (by rfl) (by rfl) (by rfl) (by rfl) hd;have HFIN:=Lib.hid hr;clear hd hr))
 all_goals
  clear d0 d1 d2 d3 hat
  go_wp2_with (go_at_call 312;refine (HD.out _ ce2).mono ?_;rintro e w3 ⟨rfl,hc3,k3⟩)
  go_ret
  exact HFIN.out _ hc3 k3
def ShedExt (w:World) (F:List Nat) (p cap hs:Nat) (E:Ent) (h:Nat) (e:Ending) (w':World):Prop :=
 ∃x:Nat,e=.returned (.tuple #[.int .i64 x,.bool true])∧least E h x∧∃F',ShedAt w' F' p cap hs (put E x none)∧Moved F w F' w'
theorem shed_extract (c:ShedAt w F p cap hs E) (h:Nat) (h1:1<=h) (h2:h<=hs) (hi:∃y,isIn E h y) :
  Calls Tryz.prog 435 #[.pointer (some ⟨p,0,none⟩),.int .i64 h] w (ShedExt w F p cap hs E h):=by
 have hm:=shed_min_yes w F p cap hs E c h h1 h2 hi
 have hd:=fun x (hl:least E h x)=>shed_delete w F p cap hs E c h x hl.1
 clear c hi
 go_enter Tryz.func435,Tryz.ntmps435
 go_wp2_with (first
  | (go_at_call 439;refine hm.mono ?_;rintro e w1 ⟨⟨x,rfl,hl⟩,rfl⟩)
  | (go_at_call 434;refine (hd _ hl).mono ?_;rintro e w2 ⟨rfl,F',c2,k2⟩))
 go_ret2
 exact ⟨x,rfl,hl,F',c2,k2⟩
end
end Go.Proofs.YtkdbjelhkfdfjaaGreatDoor

