/-
  Contracts that the law rests on. Conditions: none.
-/
import Derived.Test.YtkdbjelhkfdfjaaGreatDoorLo16
import Derived.Test.YtkdbjelhkfdfjaaGreatDoorLo18
set_option linter.unusedVariables false
set_option maxRecDepth 100000
set_option maxHeartbeats 32000000
namespace Go.Proofs.YtkdbjelhkfdfjaaGreatDoor
open Go.RowKit
section
variable (w:World) (p pc pr gn gp gt gT cT:Nat) (Fc:List Nat) (cap hs:Nat) (E:Ent) (wl:List (List Nat)) (U kid:Nat->Option Nat) (deg:Nat->Nat) (mk:Nat->Bool) (top:Nat->Option Nat)
def RootDone (h x:Nat) (D:Nat->Prop) (w':World):Prop :=
 ∃(wl':List (List Nat)) (top':Nat->Option Nat),FibQ w' p pc pr gn gp gt gT cT Fc cap hs E wl' U kid deg mk top'∧FibM E cap (Rl wl') U kid deg top' h (fun y=>D y∨y=x)∧Keeps (p::pr::gn::gp::gt::gT::Fc) w w'
theorem fib_root (q:FibQ w p pc pr gn gp gt gT cT Fc cap hs E wl U kid deg mk top) (h x:Nat) (D:Nat->Prop) (h1:1<=h) (h2:h<=hs) (m:FibM E cap (Rl wl) U kid deg top h D) (hx:rootOf E U h x) (hd:¬D x) :
  Calls Tryz.prog 393 #[.pointer (some ⟨p,0,none⟩),.int .i64 h,.int .i64 x] w fun e w'=>e=.returned (.tuple #[])∧RootDone w p pc pr gn gp gt gT cT Fc cap hs E U kid deg mk h x D w':=by
 have hbh:=q.ce.ok.bh
 have hxc:=hx.lt m
 have c0:=q.c0
 have c1:=q.c1
 have c3:=q.c3
 have d0:=q.tr.at (i:=h) (by omega)
 have f0:=q.tr.frozen h
 have hh3:(h:Int)<((hs+1:Nat):Int):=by omega
 have hh4:(h:Int)<(hs:Int)+1:=by omega
 cases e:top h with
 | none =>
  rw [e] at d0
  simp only [oZ_none] at d0
  have hfin:RootDone w p pc pr gn gp gt gT cT Fc cap hs E U kid deg mk h x D (w.setCell ⟨gT,h,none⟩ (.int .i64 (x:Int))) :=
   ⟨wl,_,q.setTop h1 h2 (some x),m.rootNone e hx,(Keeps.refl _ _).setCell (.inl (by simp)) _⟩
  have HF:=Lib.hid hfin
  clear hfin q m hx hd e
  go_enter Tryz.func393,Tryz.ntmps393
  go_wp2_with fail
  refine bodyPost_ret (results_none rfl _ _ _) rfl ?_
  exact ⟨rfl,HF.out⟩
 | some t =>
  rw [e] at d0
  simp only [oZ_some] at d0
  obtain ⟨ht,htd,hta⟩:=m.topS h t e
  have htc:=ht.lt m
  have hne:¬Rl wl t x:=fun c=>hd ((m.ringTop e x).1 c).2
  have ht1:((t:Int)==-1)=false:=by rw [beq_eq_false_iff_ne];omega
  have kd:Keeps [] w w.drew:=⟨rfl,rfl,rfl,Nat.le_refl _,fun _ _ _=>rfl⟩
  have q0:=q.same kd
  have hsp:=rg_splice q0.rg q.cp htc hxc
  have hR:∀u v,u<cap->(Rl (Rg.spliceZ wl t x).1 u v↔Rl wl u v∨((Rl wl t u∨Rl wl x u)∧(Rl wl t v∨Rl wl x v))):=fun u v hu=>by
   obtain ⟨N,P,hr⟩:=q.rg.rings
   exact rl_splice hr htc hxc hne hu
  have hstep:∀w1,RgAt w1 pr gn gp cap (Rg.spliceZ wl t x).1->Keeps [gn,gp] w.drew w1->w1.cell? ⟨p,0,none⟩=some (.pointer (some ⟨pc,0,none⟩))∧w1.cell? ⟨p,3,none⟩=some (.slice (some ⟨gT,0,none⟩) (hs+1) cT)∧w1.cell? ⟨gT,h,none⟩=some (.int .i64 (t:Int)) ∧
    Hid (Calls Tryz.prog 339 #[.pointer (some ⟨pc,0,none⟩),.int .i64 x,.int .i64 t] w1.drew fun e w2=>e=.returned (.bool (ahead E x t))∧w2.cell? ⟨p,3,none⟩=some (.slice (some ⟨gT,0,none⟩) (hs+1) cT)∧w2.cell? ⟨gT,h,none⟩=some (.int .i64 (t:Int))∧w2.frozen? ⟨gT,h,none⟩=false ∧
     Hid ((ahead E x t=true->RootDone w p pc pr gn gp gt gT cT Fc cap hs E U kid deg mk h x D (w2.setCell ⟨gT,h,none⟩ (.int .i64 (x:Int))))∧(ahead E x t=false->RootDone w p pc pr gn gp gt gT cT Fc cap hs E U kid deg mk h x D w2))):=by
   intro w1 hr1 k1
   have q1:=q0.ring hr1 k1
   have kd1:Keeps [] w1 w1.drew:=⟨rfl,rfl,rfl,Nat.le_refl _,fun _ _ _=>rfl⟩
   have kk1:Keeps (p::pr::gn::gp::gt::gT::Fc) w w1.drew:=((kd.mono (T:=p::pr::gn::gp::gt::gT::Fc) (by simp)).trans k1 (fun b hb=>.inl (by simp only [List.mem_cons,List.not_mem_nil,or_false] at hb ⊢;rcases hb with c|c<;>simp [c]))).trans kd1 (by simp)
   have d1:=q1.tr.at (i:=h) (by omega)
   rw [e] at d1
   refine ⟨q1.c0,q1.c3,d1,(cells_ahead w1.drew Fc pc cap hs E (q1.same kd1).ce x t hx.1.some ht.1.some).mono ?_⟩
   rintro e' w2 ⟨rfl,hc2,k2⟩
   have q2:=(q1.same kd1).cells hc2 k2
   have d2:=q2.tr.at (i:=h) (by omega)
   rw [e] at d2
   have kk2:Keeps (p::pr::gn::gp::gt::gT::Fc) w w2:=kk1.trans k2 (fun b hb=>.inl (by simp [hb]))
   refine ⟨rfl,q2.c3,d2,q2.tr.frozen _,fun ha=>⟨_,_,q2.setTop h1 h2 (some x),m.rootSome e hx hd hR x (.inl ⟨rfl,ha⟩),kk2.setCell (.inl (by simp)) _⟩,fun ha=>⟨_,_,q2,?_,kk2⟩⟩
   have:=m.rootSome e hx hd hR t (.inr ⟨rfl,ha⟩)
   rwa [<-e,upd_self] at this
  have HS:=Lib.hid hstep
  clear hstep q q0 m hx hd e ht htd hta hne hR
  go_enter Tryz.func393,Tryz.ntmps393
  go_upto_region 2 with fail
  go_region_law (first
   | (go_simp;go_at_call 396;refine hsp.mono ?_;rintro e' w1 ⟨rfl,hr1,k1⟩;obtain ⟨z0,z1,z2,z3⟩:=HS.out w1 hr1 k1;clear hr1 k1))
  all_goals
   clear hsp c0 c1 c3 d0 f0 HS
   go_upto_region 3 with fail
   cases ha:ahead E x t with
   | true =>
    rw [ha] at z3
    have HA:=Lib.hid ha
    clear ha
    go_region_law (first
     | (go_simp;go_at_call 339;refine z3.out.mono ?_;rintro e' w2 ⟨rfl,y0,y1,y2,y3⟩))
    all_goals
     clear z0 z1 z2 z3
     go_wp2_with fail
     go_end0
     exact ⟨rfl,y3.out.1 (by simp)⟩
   | false =>
    rw [ha] at z3
    have HA:=Lib.hid ha
    clear ha
    go_region_law (first
     | (go_simp;go_at_call 339;refine z3.out.mono ?_;rintro e' w2 ⟨rfl,y0,y1,y2,y3⟩))
    all_goals
     clear z0 z1 z2 z3
     go_wp2_with fail
     go_end0
     exact ⟨rfl,y3.out.2 (by simp)⟩
end
section
variable (w:World) (F:List Nat) (p cap hs:Nat) (E:Ent)
theorem fib_min_yes (c:FibAt w F p cap hs E) (h:Nat) (h1:1<=h) (h2:h<=hs) (hi:∃y,isIn E h y) :
  Calls Tryz.prog 387 #[.pointer (some ⟨p,0,none⟩),.int .i64 h] w fun e w'=>(∃x:Nat,e=.returned (.tuple #[.int .i64 x,.bool true])∧least E h x)∧w=w':=by
 obtain ⟨pc,pr,gn,gp,gt,gT,cT,Fc,wl,U,kid,deg,mk,top,rfl,q,o⟩:=c
 have hbh:=q.ce.ok.bh
 have hlen:=cells_len w Fc pc cap hs E q.ce h (by omega)
 have hcnt:=count_some q.ce.ok hi
 have c0:=q.c0
 have c3:=q.c3
 have d0:=q.tr.at (i:=h) (by omega)
 cases e:top h with
 | none =>
  obtain ⟨y,hy⟩:=hi
  exact absurd hy (FibM.none_of o e y)
 | some x =>
  have hl:=FibM.first o e
  rw [e] at d0
  simp only [oZ_some] at d0
  have HL:=Lib.hid hl
  have hhs3:(h:Int)<((hs+1:Nat):Int):=by omega
  have hhs4:(h:Int)<(hs:Int)+1:=by omega
  generalize count E cap h=cn at *
  have hcb:((cn:Int)==0)=false:=by rw [beq_eq_false_iff_ne];omega
  clear hl e q o hi hcnt
  go_enter Tryz.func387,Tryz.ntmps387
  go_wp2_with (go_at_call 304;refine hlen.mono ?_;rintro e w' ⟨rfl,rfl⟩)
  go_ret2
  exact ⟨⟨x,rfl,HL.out⟩,rfl⟩
theorem fib_min_no (c:FibAt w F p cap hs E) (h:Nat) (hh:h<=65536) (hi:∀y,¬isIn E h y) :
  Calls Tryz.prog 387 #[.pointer (some ⟨p,0,none⟩),.int .i64 h] w fun e w'=>e=.returned (.tuple #[.int .i64 0,.bool false])∧w=w':=by
 obtain ⟨pc,pr,gn,gp,gt,gT,cT,Fc,wl,U,kid,deg,mk,top,rfl,q,o⟩:=c
 have hlen:=cells_len w Fc pc cap hs E q.ce h hh
 have hcnt:count E cap h=0:=count_no hi
 rw [hcnt] at hlen
 have c0:=q.c0
 clear q o hi hcnt
 go_enter Tryz.func387,Tryz.ntmps387
 go_wp2_with (go_at_call 304;refine hlen.mono ?_;rintro e w' ⟨rfl,rfl⟩)
 go_ret2
 exact ⟨rfl,rfl⟩
def FibSt (w:World) (F:List Nat) (p cap hs:Nat) (E':Ent) (e:Ending) (w':World):Prop:=e=.returned (.bool true)∧FibAt w' F p cap hs E'∧Keeps F w w'
theorem fib_insert (c:FibAt w F p cap hs E) (h x q:Nat) (k:Int) (h1:1<=h) (h2:h<=hs) (hx:x<cap) (he:E x=none) (hk:(Lit.int .i64 k).wf=true) (hq:(Lit.int .u64 (q:Int)).wf=true) :
  Calls Tryz.prog 384 #[.pointer (some ⟨p,0,none⟩),.int .i64 h,.int .i64 x,.agg #[.int .i64 k,.int .u64 (q:Int)]] w (FibSt w F p cap hs (put E x (some (h,k,q)))):=by
 obtain ⟨pc,pr,gn,gp,gt,gT,cT,Fc,wl,U,kid,deg,mk,top,rfl,m,o⟩:=c
 obtain ⟨w0,hw0⟩:∃w0,w0=w.alloc (.cells #[.int .i64 k,.int .u64 (q:Int)] 104 (0,0)):=⟨_,rfl⟩
 have kw:Keeps [] w w0.drew:=by rw [hw0];exact ((Keeps.refl _ _).alloc _).drew
 have e0:w0.cell? ⟨w.heap.size,0,none⟩=some (.int .i64 k):=by rw [hw0,cell_of_blk (blk_alloc_new _)];rfl
 have e1:w0.cell? ⟨w.heap.size,1,none⟩=some (.int .u64 (q:Int)):=by rw [hw0,cell_of_blk (blk_alloc_new _)];rfl
 have m0:=m.same kw
 have d0:w0.cell? ⟨p,0,none⟩=some (.pointer (some ⟨pc,0,none⟩)):=m0.c0
 have hput:=cells_put w0.drew Fc pc cap hs E m0.ce h x q k h1 h2 hx he hk hq
 have hz:FibM (put E x (some (h,k,q))) cap (Rl wl) U kid deg top h (fun y=>y≠x):=by
  rcases FibM.insert (h:=h) o he (k,q) with z|z
  .exact z
  .omega
 have hrx:rootOf (put E x (some (h,k,q))) U h x:=⟨⟨_,put_same _ _ _⟩,o.par.off he⟩
 have hadd:∀w1,CellsAt w1 Fc pc cap hs (put E x (some (h,k,q)))->Keeps Fc w0.drew w1 ->
   Calls Tryz.prog 393 #[.pointer (some ⟨p,0,none⟩),.int .i64 h,.int .i64 x] w1 fun e w'=>e=.returned (.tuple #[])∧Hid (FibSt w (p::pr::gn::gp::gt::gT::Fc) p cap hs (put E x (some (h,k,q))) (.returned (.bool true)) w'):=by
  intro w1 hc1 hk1
  have m1:=m0.cells hc1 hk1
  refine (fib_root w1 p pc pr gn gp gt gT cT Fc cap hs _ wl U kid deg mk top m1 h x _ h1 h2 hz hrx (fun e=>e rfl)).mono ?_
  rintro e w' ⟨rfl,wl',top',q2,z2,k2⟩
  refine ⟨rfl,rfl,⟨pc,pr,gn,gp,gt,gT,cT,Fc,wl',U,kid,deg,mk,top',rfl,q2,?_⟩,((kw.mono (T:=p::pr::gn::gp::gt::gT::Fc) (by simp)).trans hk1 (fun b hb=>.inl (by simp [hb]))).trans k2 (fun b hb=>.inl hb)⟩
  refine FibM.any (g:=h) (z2.full fun y _=>?_) 0
  by_cases c:y=x
  .exact .inr c
  .exact .inl c
 have HA:=Lib.hid hadd
 clear hadd m o m0 hz hrx
 go_enter Tryz.func384,Tryz.ntmps384
 go_upto_region 1 with fail
 rw [<-hw0]
 clear hw0
 go_region_law (first
  | (go_simp;go_at_call 316;refine hput.mono ?_;rintro e w1 ⟨rfl,hc1,hk1⟩))
 all_goals
  have hadd:=HA.out w1 hc1 hk1
  clear hc1 hk1 hput
  go_wp2_with (go_at_call 393;refine hadd.mono ?_;rintro e w2 ⟨rfl,hfin⟩)
  go_ret
  exact hfin.out
end
end Go.Proofs.YtkdbjelhkfdfjaaGreatDoor

