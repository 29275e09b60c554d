/-
  Contracts that the law rests on. Conditions: none.
-/
import Derived.Test.YtkdbjelhkfdfjaaGreatDoorLo09
import Derived.Test.YtkdbjelhkfdfjaaGreatDoorLo13
import Derived.Test.YtkdbjelhkfdfjaaGreatDoorLo15
set_option linter.unusedVariables false
set_option maxRecDepth 100000
set_option maxHeartbeats 32000000
namespace Go.Proofs.YtkdbjelhkfdfjaaGreatDoor
open Go.RowKit
section
variable (w:World) (p pc pt gt gr:Nat) (vT:Value) (Fc:List Nat) (cap hs:Nat) (E:Ent) (L R U:Nat->Option Nat)
theorem cut_right (m:LeftMid w p pc pt gt gr vT Fc cap hs E L R U) (u:Nat) (hz:∀z,R u=some z->U z=some u) :
  Calls Tryz.prog 407 #[.pointer (some ⟨pt,0,none⟩),.int .i64 (oZ (R u))] w fun e w'=>(∃v,e=.returned v)∧SpineLeft w pt gt cap L (upd R u none) (offU U (R u)) w':=by
 cases e:R u with
 | none =>
  have hf:SpineLeft w pt gt cap L (upd R u none) (offU U none) w:=by
   rw [show upd R u none=R by rw [<-e];exact upd_self R u,offU_no]
   exact ⟨m.sp,Keeps.refl _ _⟩
  refine (sp_cutno w pt gt cap L R U m.sp).mono ?_
  rintro e w' ⟨rfl,rfl⟩
  exact ⟨⟨_,rfl⟩,hf⟩
 | some z =>
  have hzc:=m.sp.wf u z (.inr (.inl e))
  refine (sp_cut_R w pt gt cap L R U m.sp z u hzc (hz z e) e).mono ?_
  rintro e w' ⟨rfl,hs⟩
  exact ⟨⟨_,rfl⟩,hs⟩
theorem cut_left (m:LeftMid w p pc pt gt gr vT Fc cap hs E L R U) (u:Nat) (hz:∀z,L u=some z->U z=some u∧R u≠some z) :
  Calls Tryz.prog 407 #[.pointer (some ⟨pt,0,none⟩),.int .i64 (oZ (L u))] w fun e w'=>(∃v,e=.returned v)∧SpineLeft w pt gt cap (upd L u none) R (offU U (L u)) w':=by
 cases e:L u with
 | none =>
  have hf:SpineLeft w pt gt cap (upd L u none) R (offU U none) w:=by
   rw [show upd L u none=L by rw [<-e];exact upd_self L u,offU_no]
   exact ⟨m.sp,Keeps.refl _ _⟩
  refine (sp_cutno w pt gt cap L R U m.sp).mono ?_
  rintro e w' ⟨rfl,rfl⟩
  exact ⟨⟨_,rfl⟩,hf⟩
 | some z =>
  have hzc:=m.sp.wf u z (.inl e)
  refine (sp_cut_L w pt gt cap L R U m.sp z u hzc (hz z e).1 e (hz z e).2).mono ?_
  rintro e w' ⟨rfl,hs⟩
  exact ⟨⟨_,rfl⟩,hs⟩
end
section
variable (w:World) (p pc pt gt gr:Nat) (vT:Value) (Fc:List Nat) (cap hs:Nat) (E:Ent) (L R U:Nat->Option Nat) (To:Nat->Prop) (L0 R0:Nat->Option Nat) (h:Hd)
def LeftDown (out a b:Value) (w':World):Prop :=
 ∃(C:Option Nat) (S:List Nat) (L R U:Nat->Option Nat) (ao:Option Addr) (ca:Nat) (ia ib:Int),out=.slice ao S.length ca∧a=.int .i64 ia∧b=.int .i64 ib∧((ia=oZ C∧ib=-1)∨(ia=-1∧ib=oZ C)) ∧
  Rg.IR w.heap.size w' out S.reverse∧Zip E L R U To L0 R0 h S C none∧LeftMid w' p pc pt gt gr vT Fc cap hs E L R U∧Keeps (gt::gr::Fc) w w'∧S.length<=cap
def LeftMerged (e:Ending) (w':World):Prop :=
 ∃(C:Option Nat) (L R U:Nat->Option Nat),e=.returned (.int .i64 (oZ C))∧LeftMid w' p pc pt gt gr vT Fc cap hs E L R U∧Zip E L R U To L0 R0 h [] C none∧Keeps (gt::gr::Fc) w w'
theorem left_merge (A B:Option Nat) (m:LeftMid w p pc pt gt gr vT Fc cap hs E L R U) (z:Zip E L R U To L0 R0 h [] A B) :
  Calls Tryz.prog 409 #[.pointer (some ⟨p,0,none⟩),.int .i64 (oZ A),.int .i64 (oZ B)] w (LeftMerged w p pc pt gt gr vT Fc cap hs E To L0 R0 h):=by
 obtain ⟨l1,l2,l3,l5,l4⟩:=m.lt
 have hbc:=m.ce.ok.bc
 go_enter Tryz.func409,Tryz.ntmps409
 go_upto_block 0 with fail
 go_cut [7,1,2] (fun out a b wc=>LeftDown w p pc pt gt gr vT Fc cap hs E To L0 R0 h out a b wc)
 case first =>
  go_wp2_with fail
  go_loopg [7,1,2] (cap+1) (fun k out a b wr=>∃(A B:Option Nat) (S:List Nat) (L R U:Nat->Option Nat) (ao:Option Addr) (ca:Nat),k+S.length=cap+1∧out=.slice ao S.length ca∧a=.int .i64 (oZ A)∧b=.int .i64 (oZ B) ∧
   Rg.IR w.heap.size wr out S.reverse∧Zip E L R U To L0 R0 h S A B∧LeftMid wr p pc pt gt gr vT Fc cap hs E L R U∧Keeps (gt::gr::Fc) w wr)
  case atStart=>exact ⟨A,B,[],L,R,U,none,0,by simp,rfl,rfl,rfl,Rg.IR.nil _ _,z,m,Keeps.refl _ _⟩
  case round =>
   clear z m
   obtain ⟨A,B,S,L,R,U,ao,ca,hk,rfl,rfl,rfl,hir,z,m,kp⟩:=hrel
   have HK:=Lib.hid hk
   clear hk
   have hsc:S.length<=cap:=nodup_len z.nd fun y hy=>m.ce.ok.lt y (z.nm y hy).2.1.some
   cases A with
   | none =>
    simp only [oZ_none]
    go_wp2_with fail
    go_meet
    case rel=>exact ⟨B,S,L,R,U,ao,ca,-1,oZ B,rfl,rfl,rfl,.inr ⟨rfl,rfl⟩,hir,z.swap,m,kp,hsc⟩
   | some x =>
    have hx1:((x:Int) != -1)=true:=by rw [bne_iff_ne];omega
    cases B with
    | none =>
     simp only [oZ_none,oZ_some]
     go_wp2_with fail
     go_meet
     case rel=>exact ⟨some x,S,L,R,U,ao,ca,x,-1,rfl,rfl,rfl,.inl ⟨rfl,rfl⟩,hir,z,m,kp,hsc⟩
    | some y =>
     have hy1:((y:Int) != -1)=true:=by rw [bne_iff_ne];omega
     have hxs:=(z.na x rfl).2.2
     have hys:=(z.nb y rfl).2.2
     have hal:=cells_ahead wr Fc pc cap hs E m.ce y x hys.some hxs.some
     have hxy:x≠y:=fun e=>z.ab x rfl (by rw [e])
     have hsl:=z.len (fun q hq=>m.ce.ok.lt q hq)
     simp only [oZ_some]
     have c0:=m.c0
     cases hb:ahead E y x with
     | true =>
      rw [hb] at hal
      have z2:=z.swap
      have HB:=Lib.hid hb
      clear z hb hx1 hy1
      obtain ⟨u,rfl⟩:∃u,u=y:=⟨y,rfl⟩
      obtain ⟨v,rfl⟩:∃v,v=x:=⟨x,rfl⟩
      have hus:=hys
      clear hxs hys hxy
      have hx1:((v:Int) != -1)=true:=by rw [bne_iff_ne];omega
      have hy1:((u:Int) != -1)=true:=by rw [bne_iff_ne];omega
      go_upto_region 5 with (go_at_call 339;refine hal.mono ?_;rintro e w1 ⟨rfl,hc1,hk1⟩)
      clear hal
      have m1:=m.cells hc1 hk1
      have hir1:=hir.keep hk1 (fun b hb=>l4 b hb)
      have kp1:Keeps (gt::gr::Fc) w w1:=kp.trans hk1 (fun b hb=>.inl (by simp [hb]))
      have ks1:=kp1.size
      have hrow:w1.ownsRow 0 3 1 (.slice ao S.length ca) S.length (Rg.nCells S.reverse):=by
       have:=hir1.lo (Nat.zero_le _)
       unfold Rg.IR at this
       rwa [List.length_reverse] at this
      clear hir hk1 hc1 kp m hsc
      go_upto_region 6 with (at_builtin;refine wpList_push _ 3 (.int .i64 (u:Int)) (0,0) rfl (.tmp 26) (.tmp 28) 28 rfl (.int .i64 0) 8 Tryz.underlying28 Rg.Tryz.infoInt rfl rfl _ S.length (Rg.nCells S.reverse) (by simp [Act.eval]) hrow (by simp [Act.eval]) (by unfold maxLen;omega) (by omega) ?_;intro g' cap' w4 hr4 hk4 hf4)
      have hown:∀b∈(Value.slice ao S.length ca).ownBlock.toList,w.heap.size<=b:=fun b hb=>(hir1.own b (by simpa using hb)).1
      have hg':w.heap.size<=g':=by
       rcases hf4 with h1|h1
       .exact hown g' (by simpa using h1)
       .omega
      have hir4:Rg.IR w.heap.size w4 (.slice (some ⟨g',0,none⟩) (S.length+1) cap') (u::S).reverse:=by
       rw [List.reverse_cons]
       have:=Rg.IR.pushed (B:=w.heap.size) (L:=S.reverse) (x:=u) (by rw [List.length_reverse];exact hr4) hg'
       rwa [List.length_reverse] at this
      have kp4:Keeps (gt::gr::Fc) w w4:=kp1.trans hk4 (fun b hb=>.inr (hown b hb))
      have m4:=m1.keep hk4 (fun b hb e=>by
       have h1:=hown b e
       simp only [List.mem_cons] at hb
       rcases hb with rfl|rfl|rfl|rfl|hb
       .omega
       .omega
       .omega
       .omega
       .have:=l4 b hb;omega)
      have hu:=m4.ce.ok.lt u hus.some
      have hz:=Lib.hid (fun z e=>(z2.bin.right u z e).1)
      have d1:=m4.c1
      clear hr4 hk4 hf4 hown hrow hir1 m1 kp1
      go_wp2_with (first
       | (go_at_call 412;refine (sp_Right w4 pt gt cap L R U m4.sp u hu).mono ?_;rintro e w' ⟨rfl,mm,rfl⟩)
       | (go_at_call 410;refine (kid_calls _ (R u)).mono ?_;rintro e w' ⟨rfl,rfl⟩)
       | (go_at_call 407;refine (cut_right _ p pc pt gt gr vT Fc cap hs E L R U (m4.drewN _) u hz.out).mono ?_;rintro e w5 ⟨⟨vc,rfl⟩,hs5⟩))
      have k5:Keeps [gt] w4 w5:=((Keeps.refl [gt] w4).drewN mm).trans hs5.2 (by simp)
      go_roundg (gk - 1)
      case measure=>have:=HK.out;omega
      case rel=>exact ⟨R u,some v,u::S,L,upd R u none,offU U (R u),some ⟨g',0,none⟩,cap',by have:=HK.out;simp only [List.length_cons];omega,rfl,rfl,rfl,hir4.keep k5 (by simpa using l3),z2.step HB.out,(m4.drewN mm).spine hs5,kp4.trans k5 (by simp)⟩
     | false =>
      rw [hb] at hal
      have hb2:ahead E x y=true:=by
       rcases ahead_tot hxs.some hys.some hxy with c|c
       .exact c
       .rw [hb] at c;cases c
      have z2:=z
      have HB:=Lib.hid hb2
      clear z hb hb2 hx1 hy1
      obtain ⟨u,rfl⟩:∃u,u=x:=⟨x,rfl⟩
      obtain ⟨v,rfl⟩:∃v,v=y:=⟨y,rfl⟩
      have hus:=hxs
      clear hxs hys hxy
      have hx1:((u:Int) != -1)=true:=by rw [bne_iff_ne];omega
      have hy1:((v:Int) != -1)=true:=by rw [bne_iff_ne];omega
      go_upto_region 5 with (go_at_call 339;refine hal.mono ?_;rintro e w1 ⟨rfl,hc1,hk1⟩)
      clear hal
      have m1:=m.cells hc1 hk1
      have hir1:=hir.keep hk1 (fun b hb=>l4 b hb)
      have kp1:Keeps (gt::gr::Fc) w w1:=kp.trans hk1 (fun b hb=>.inl (by simp [hb]))
      have ks1:=kp1.size
      have hrow:w1.ownsRow 0 3 1 (.slice ao S.length ca) S.length (Rg.nCells S.reverse):=by
       have:=hir1.lo (Nat.zero_le _)
       unfold Rg.IR at this
       rwa [List.length_reverse] at this
      clear hir hk1 hc1 kp m hsc
      go_upto_region 6 with (at_builtin;refine wpList_push _ 3 (.int .i64 (u:Int)) (0,0) rfl (.tmp 26) (.tmp 28) 28 rfl (.int .i64 0) 8 Tryz.underlying28 Rg.Tryz.infoInt rfl rfl _ S.length (Rg.nCells S.reverse) (by simp [Act.eval]) hrow (by simp [Act.eval]) (by unfold maxLen;omega) (by omega) ?_;intro g' cap' w4 hr4 hk4 hf4)
      have hown:∀b∈(Value.slice ao S.length ca).ownBlock.toList,w.heap.size<=b:=fun b hb=>(hir1.own b (by simpa using hb)).1
      have hg':w.heap.size<=g':=by
       rcases hf4 with h1|h1
       .exact hown g' (by simpa using h1)
       .omega
      have hir4:Rg.IR w.heap.size w4 (.slice (some ⟨g',0,none⟩) (S.length+1) cap') (u::S).reverse:=by
       rw [List.reverse_cons]
       have:=Rg.IR.pushed (B:=w.heap.size) (L:=S.reverse) (x:=u) (by rw [List.length_reverse];exact hr4) hg'
       rwa [List.length_reverse] at this
      have kp4:Keeps (gt::gr::Fc) w w4:=kp1.trans hk4 (fun b hb=>.inr (hown b hb))
      have m4:=m1.keep hk4 (fun b hb e=>by
       have h1:=hown b e
       simp only [List.mem_cons] at hb
       rcases hb with rfl|rfl|rfl|rfl|hb
       .omega
       .omega
       .omega
       .omega
       .have:=l4 b hb;omega)
      have hu:=m4.ce.ok.lt u hus.some
      have hz:=Lib.hid (fun z e=>(z2.bin.right u z e).1)
      have d1:=m4.c1
      clear hr4 hk4 hf4 hown hrow hir1 m1 kp1
      go_wp2_with (first
       | (go_at_call 412;refine (sp_Right w4 pt gt cap L R U m4.sp u hu).mono ?_;rintro e w' ⟨rfl,mm,rfl⟩)
       | (go_at_call 410;refine (kid_calls _ (R u)).mono ?_;rintro e w' ⟨rfl,rfl⟩)
       | (go_at_call 407;refine (cut_right _ p pc pt gt gr vT Fc cap hs E L R U (m4.drewN _) u hz.out).mono ?_;rintro e w5 ⟨⟨vc,rfl⟩,hs5⟩))
      have k5:Keeps [gt] w4 w5:=((Keeps.refl [gt] w4).drewN mm).trans hs5.2 (by simp)
      go_roundg (gk - 1)
      case measure=>have:=HK.out;omega
      case rel=>exact ⟨R u,some v,u::S,L,upd R u none,offU U (R u),some ⟨g',0,none⟩,cap',by have:=HK.out;simp only [List.length_cons];omega,rfl,rfl,rfl,hir4.keep k5 (by simpa using l3),z2.step HB.out,(m4.drewN mm).spine hs5,kp4.trans k5 (by simp)⟩
 case rest =>
  clear m z
  obtain ⟨C,S,L,R,U,ao,ca,ia,ib,rfl,rfl,rfl,hij,hir,z,m,kp,hsc⟩:=hcut
  have HIJ:=Lib.hid hij
  clear hij
  obtain ⟨wd,rfl⟩:∃wd,wd=wc:=⟨wc,rfl⟩
  go_upto_if 48 with fail
  go_cut [9] (fun r w2=>r=.int .i64 (oZ C)∧w2=wd)
  case first =>
   clear z hir m kp
   rcases HIJ.out with ⟨rfl,rfl⟩|⟨rfl,rfl⟩
   .cases C with
    | none =>
     simp only [oZ_none]
     go_wp2_with fail
     go_meet
     case rel=>exact ⟨rfl,rfl⟩
    | some y =>
     have hyb:((y:Int)==-1)=false:=by rw [beq_eq_false_iff_ne];omega
     simp only [oZ_some]
     go_wp2_with fail
     go_meet
     case rel=>exact ⟨rfl,rfl⟩
   .go_wp2_with fail
    go_meet
    case rel=>exact ⟨rfl,rfl⟩
  obtain ⟨rfl,rfl⟩:=hcut
  go_wp2_with fail
  go_loopg [9,10] (S.length+1) (fun k r i wr=>∃(C:Option Nat) (T S':List Nat) (L R U:Nat->Option Nat) (iz:Int),S=T++S'∧k=S'.length+1∧iz+1=(S'.length:Int)∧r=.int .i64 (oZ C)∧i=.int .i64 iz ∧
   Zip E L R U To L0 R0 h S' C none∧LeftMid wr p pc pt gt gr vT Fc cap hs E L R U∧Keeps (gt::gr::Fc) w wr∧Keeps [gt,gr] wc wr)
  case atStart=>exact ⟨C,[],S,L,R,U,(S.length:Int) - 1,rfl,rfl,by omega,rfl,rfl,z,m,kp,Keeps.refl _ _⟩
  case round =>
   clear z m kp
   obtain ⟨C,T,S',L,R,U,iz,hST,hk,hiz,rfl,rfl,z,m,kp,kq⟩:=hrel
   have HK:=Lib.hid hk
   have HST:=Lib.hid hST
   clear hk hST
   cases S' with
   | nil =>
    obtain rfl:iz=-1:=by simp at hiz;omega
    clear hiz
    go_wp2_with fail
    go_ret
    exact ⟨C,L,R,U,rfl,m,z,kp⟩
   | cons x S2 =>
    obtain rfl:iz=(S2.length:Int):=by simp at hiz;omega
    clear hiz
    have hlen:S2.length<S.length:=by rw [HST.out];simp;omega
    obtain ⟨g,hao,glt,gB,c9⟩:=(hir.keep kq (by simp;exact ⟨l3,l5⟩)).at S2.length (by rw [List.length_reverse];exact hlen)
    rw [HST.out,rev_at] at c9
    subst hao
    obtain ⟨x1,x2,x3⟩:=z.nm x (by simp)
    have hnd:=(List.nodup_cons.1 z.nd).1
    have hx:=m.ce.ok.lt x x2.some
    have d1:=m.c1
    have hlen3:(S2.length:Int)<(S.length:Int):=by omega
    cases C with
    | none =>
     have z3:=z.back
     rw [show upd R x none=R by rw [<-x3];exact upd_self R x] at z3
     have z4:=z3.turn hnd x1
     have hset:=settle_calls wr p pc pt gt gr vT Fc cap hs E L R U m x hx
     have Z3:=Lib.hid z3
     have Z4:=Lib.hid z4
     clear z z3 z4 x3
     simp only [oZ_none]
     go_wp2_with (go_at_call 418;refine hset.mono ?_;rintro e w5 ⟨L5,R5,rfl,hLR,m5,k5⟩;have HLR:=Lib.hid hLR;clear hLR)
     have hz5:Zip E L5 R5 U To L0 R0 h S2 (some x) none:=by
      rcases HLR.out with ⟨e1,e2⟩|⟨e1,e2⟩
      .rw [e1,e2];exact Z3.out
      .rw [e1,e2];exact Z4.out
     go_roundg (gk - 1)
     case measure=>have:=HK.out;simp at this;omega
     case rel=>exact ⟨some x,T++[x],S2,_,_,_,(S2.length:Int) - 1,by rw [HST.out];simp,by have:=HK.out;simp at this;omega,by omega,rfl,rfl,hz5,m5,kp.trans k5 (by simp),kq.trans k5 (by simp)⟩
    | some r =>
     obtain ⟨r1,r2,r3⟩:=z.na r rfl
     have hr:=m.ce.ok.lt r r3.some
     have hur:=(z.bin.top r (.inr (.inr (.inl rfl)))).2
     have hxr:x≠r:=by rintro rfl;exact r1 (by simp)
     have z3:=z.back
     have z4:=z3.turn hnd x1
     have Z3:=Lib.hid z3
     have Z4:=Lib.hid z4
     have hh:=fun u (hu:SpineAt u pt gt cap L R U)=>sp_hang u pt gt cap L R U hu x r hx hr hxr hur x3
     have hr1:((r:Int) != -1)=true:=by rw [bne_iff_ne];omega
     have hgg:g≠gt:=by omega
     have hpg:p≠gt:=m.ne.1.2.1
     have hgl:g<wr.heap.size:=glt
     have hpl:=m.lt.1
     have hS:∀u,Keeps [gt] wr u->u.cell? ⟨p,1,none⟩=some (.pointer (some ⟨pt,0,none⟩))∧u.cell? ⟨g,S2.length,none⟩=some (.int .i64 (x:Int)):=fun u kk =>
      ⟨(World.cell?_of_block (a:=⟨p,1,none⟩) (kk.block p hpl (by simpa using hpg))).trans d1,(World.cell?_of_block (a:=⟨g,S2.length,none⟩) (kk.block g hgl (by simpa using hgg))).trans c9⟩
     clear z z3 z4 x3 hur
     simp only [oZ_some]
     go_upto_region 16 with fail
     go_region_held3 (fun u=>u.cell? ⟨p,1,none⟩=some (.pointer (some ⟨pt,0,none⟩))∧u.cell? ⟨g,S2.length,none⟩=some (.int .i64 (x:Int))) (first|exact ⟨d1,c9⟩|exact q1)
      (first
       | (go_at_call 414;refine (hh _ (by exact m.sp.like rfl)).mono ?_;rintro e w5 ⟨rfl,hs5⟩;have q1:=hS w5 hs5.2.ofDrew))
     all_goals
      have hs6:SpineLeft wr pt gt cap L (upd R x (some r)) (upd U r (some x)) w5:=⟨hs5.1,hs5.2.ofDrew⟩
      have m5:=m.spine hs6
      obtain ⟨d5,c5⟩:=q1
      have hset:=settle_calls w5 p pc pt gt gr vT Fc cap hs E _ _ _ m5 x hx
      clear hh d1 c9 hS hs5
      go_wp2_with (go_at_call 418;refine hset.mono ?_;rintro e w6 ⟨L5,R5,rfl,hLR,m6,k6⟩;have HLR:=Lib.hid hLR;clear hLR)
      have hz5:Zip E L5 R5 (upd U r (some x)) To L0 R0 h S2 (some x) none:=by
       rcases HLR.out with ⟨e1,e2⟩|⟨e1,e2⟩
       .rw [e1,e2];exact Z3.out
       .rw [e1,e2];exact Z4.out
      go_roundg (gk - 1)
      case measure=>have:=HK.out;simp at this;omega
      case rel=>exact ⟨some x,T++[x],S2,_,_,_,(S2.length:Int) - 1,by rw [HST.out];simp,by have:=HK.out;simp at this;omega,by omega,rfl,rfl,hz5,m6,(kp.trans hs6.2 (by simp)).trans k6 (by simp),(kq.trans hs6.2 (by simp)).trans k6 (by simp)⟩
end
def LeftAt (w:World) (F:List Nat) (p cap hs:Nat) (E:Ent):Prop :=
 ∃(pc pt gt gr gT cT:Nat) (Fc:List Nat) (L R U top:Nat->Option Nat),F=p::pt::gt::gr::gT::Fc∧LeftMid w p pc pt gt gr (.slice (some ⟨gT,0,none⟩) (hs+1) cT) Fc cap hs E L R U∧TopRow w gT (hs+1) cT top∧gT∉p::pt::gt::gr::Fc∧Tops E L R U top
section
variable {w w':World} {F S:List Nat} {p cap hs:Nat} {E:Ent}
theorem LeftAt.lt (h:LeftAt w F p cap hs E):∀b∈F,b<w.heap.size:=by
 obtain ⟨pc,pt,gt,gr,gT,cT,Fc,L,R,U,top,rfl,m,tr,ng,t⟩:=h
 obtain ⟨l1,l2,l3,l5,l4⟩:=m.lt
 intro b hb
 simp only [List.mem_cons] at hb
 rcases hb with rfl|rfl|rfl|rfl|rfl|hb
 .exact l1
 .exact l2
 .exact l3
 .exact l5
 .exact tr.lt
 .exact l4 b hb
theorem LeftAt.mem (h:LeftAt w F p cap hs E):p∈F:=by
 obtain ⟨pc,pt,gt,gr,gT,cT,Fc,L,R,U,top,rfl,m,tr,ng,t⟩:=h
 simp
theorem LeftAt.keep (h:LeftAt w F p cap hs E) (k:Keeps S w w') (hS:∀b∈F,b∉S):LeftAt w' F p cap hs E:=by
 obtain ⟨pc,pt,gt,gr,gT,cT,Fc,L,R,U,top,rfl,m,tr,ng,t⟩:=h
 exact ⟨pc,pt,gt,gr,gT,cT,Fc,L,R,U,top,rfl,m.keep k (fun b hb=>hS b (by simp only [List.mem_cons] at hb ⊢;rcases hb with c|c|c|c|c<;>simp [c])),tr.keep k (hS gT (by simp)),ng,t⟩
theorem LeftAt.ok (h:LeftAt w F p cap hs E):EntOk E cap hs:=by
 obtain ⟨pc,pt,gt,gr,gT,cT,Fc,L,R,U,top,rfl,m,tr,ng,t⟩:=h
 exact m.ce.ok
end
theorem count_some {E:Ent} {cap hs h:Nat} (ok:EntOk E cap hs) (hi:∃y,isIn E h y):0<count E cap h:=by
 obtain ⟨y,k,e⟩:=hi
 exact count_pos (ok.lt y (by rw [e];rfl)) e
theorem count_no {E:Ent} {cap h:Nat} (hi:∀y,¬isIn E h y):count E cap h=0:=count_zero.2 fun x _=>hi x
section
variable (w:World) (F:List Nat) (p cap hs:Nat) (E:Ent)
theorem left_min_yes (c:LeftAt w F p cap hs E) (h:Nat) (h1:1<=h) (h2:h<=hs) (hi:∃y,isIn E h y) :
  Calls Tryz.prog 406 #[.pointer (some ⟨p,0,none⟩),.int .i64 h] w fun e w'=>(∃x:Nat,e=.returned (.tuple #[.int .i64 x,.bool true])∧least E h x)∧w=w':=by
 obtain ⟨pc,pt,gt,gr,gT,cT,Fc,L,R,U,top,rfl,m,tr,ng,t⟩:=c
 have hbh:=m.ce.ok.bh
 have hlen:=cells_len w Fc pc cap hs E m.ce h (by omega)
 have hcnt:=count_some m.ce.ok hi
 have hn:=fun y (hy:(E y).isSome)=>m.ce.ok.lt y hy
 have c0:=m.c0
 have c3:=m.c3
 have d0:=tr.at (i:=h) (by omega)
 cases e:top h with
 | none =>
  obtain ⟨y,hy⟩:=hi
  exact absurd hy (t.none_of hn e y)
 | some x =>
  have hl:=t.first hn e
  rw [e] at d0
  simp only [oZ_some] at d0
  have HL:=Lib.hid hl
  have hhs3:(h:Int)<((hs+1:Nat):Int):=by omega
  have hhs4:(h:Int)<(hs:Int)+1:=by omega
  generalize count E cap h=cn at *
  have hcb:((cn:Int)==0)=false:=by rw [beq_eq_false_iff_ne];omega
  clear hl e t m tr hn hi hcnt
  go_enter Tryz.func406,Tryz.ntmps406
  go_wp2_with (go_at_call 304;refine hlen.mono ?_;rintro e w' ⟨rfl,rfl⟩)
  go_ret2
  exact ⟨⟨x,rfl,HL.out⟩,rfl⟩
theorem left_min_no (c:LeftAt w F p cap hs E) (h:Nat) (hh:h<=65536) (hi:∀y,¬isIn E h y) :
  Calls Tryz.prog 406 #[.pointer (some ⟨p,0,none⟩),.int .i64 h] w fun e w'=>e=.returned (.tuple #[.int .i64 0,.bool false])∧w=w':=by
 obtain ⟨pc,pt,gt,gr,gT,cT,Fc,L,R,U,top,rfl,m,tr,ng,t⟩:=c
 have hlen:=cells_len w Fc pc cap hs E m.ce h hh
 have hcnt:count E cap h=0:=count_no hi
 rw [hcnt] at hlen
 have c0:=m.c0
 clear t m tr hi hcnt
 go_enter Tryz.func406,Tryz.ntmps406
 go_wp2_with (go_at_call 304;refine hlen.mono ?_;rintro e w' ⟨rfl,rfl⟩)
 go_ret2
 exact ⟨rfl,rfl⟩
def LeftSt (w:World) (F:List Nat) (p cap hs:Nat) (E':Ent) (e:Ending) (w':World):Prop:=e=.returned (.bool true)∧LeftAt w' F p cap hs E'∧Keeps F w w'
theorem left_insert (c:LeftAt w F p cap hs E) (h x q:Nat) (k:Int) (h1:1<=h) (h2:h<=hs) (hx:x<cap) (he:E x=none) (hk:(Lit.int .i64 k).wf=true) (hq:(Lit.int .u64 (q:Int)).wf=true) :
  Calls Tryz.prog 403 #[.pointer (some ⟨p,0,none⟩),.int .i64 h,.int .i64 x,.agg #[.int .i64 k,.int .u64 (q:Int)]] w (LeftSt w F p cap hs (put E x (some (h,k,q)))):=by
 have hlt:=c.lt
 obtain ⟨pc,pt,gt,gr,gT,cT,Fc,L,R,U,top,rfl,m,tr,ng,t⟩:=c
 have hbh:=m.ce.ok.bh
 have hne:=m.ne
 have hb0:Below w.heap.size w (w.alloc (.cells #[.int .i64 k,.int .u64 (q:Int)] 104)):=(Below.refl _ w).alloc (Nat.le_refl _) _
 have hkw:Keeps [] w (w.alloc (.cells #[.int .i64 k,.int .u64 (q:Int)] 104)):=Below.keeps hb0 (Nat.le_refl _) []
 have e0:(w.alloc (.cells #[.int .i64 k,.int .u64 (q:Int)] 104)).cell? ⟨w.heap.size,0,none⟩=some (.int .i64 k):=by rw [cell_of_blk (blk_alloc_new _)];rfl
 have e1:(w.alloc (.cells #[.int .i64 k,.int .u64 (q:Int)] 104)).cell? ⟨w.heap.size,1,none⟩=some (.int .u64 (q:Int)):=by rw [cell_of_blk (blk_alloc_new _)];rfl
 have m0:=m.below hb0
 have tr0:=tr.keep hkw (by simp)
 have hz:=t.insert he (k,q) (h:=h)
 have hz0:w.heap.size∉Fc:=fun e=>Nat.lt_irrefl _ (hlt _ (by simp [e]))
 have hw0:w.heap.size<(w.alloc (.cells #[.int .i64 k,.int .u64 (q:Int)] 104)).heap.size:=by simp
 have HZ:=Lib.hid hz
 have HT:=Lib.hid t
 have HE:=Lib.hid he
 have HN:=Lib.hid hne
 have HG:=Lib.hid ng
 clear hz t m tr he hne ng
 go_enter Tryz.func403,Tryz.ntmps403
 go_upto_region 1 with fail
 generalize hW0:w.alloc (.cells #[.int .i64 k,.int .u64 (q:Int)] 104)=w0 at *
 clear hW0
 have d0:=m0.c0
 have hS:∀u,Keeps Fc w0 u->u.cell? ⟨p,0,none⟩=some (.pointer (some ⟨pc,0,none⟩))∧u.cell? ⟨w.heap.size,0,none⟩=some (.int .i64 k)∧u.cell? ⟨w.heap.size,1,none⟩=some (.int .u64 (q:Int)):=fun u kk =>
  ⟨(World.cell?_of_block (a:=⟨p,0,none⟩) (kk.block p m0.lt.1 HN.out.1.2.2.2)).trans d0,(World.cell?_of_block (a:=⟨_,0,none⟩) (kk.block _ hw0 hz0)).trans e0,(World.cell?_of_block (a:=⟨_,1,none⟩) (kk.block _ hw0 hz0)).trans e1⟩
 have hput:=fun u (hu:CellsAt u Fc pc cap hs E)=>cells_put u Fc pc cap hs E hu h x q k h1 h2 hx HE.out hk hq
 go_region_held3 (fun w'=>w'.cell? ⟨p,0,none⟩=some (.pointer (some ⟨pc,0,none⟩))∧w'.cell? ⟨w.heap.size,0,none⟩=some (.int .i64 k)∧w'.cell? ⟨w.heap.size,1,none⟩=some (.int .u64 (q:Int))) (first|exact ⟨d0,e0,e1⟩|exact q1)
  (first
   | (go_at_call 316;refine (hput _ (m0.drewN 1).ce).mono ?_;rintro e w1 ⟨rfl,hc1,hk1⟩;have q1:=hS w1 hk1.ofDrew))
 all_goals
  obtain ⟨⟨a1,a2,a3,a4⟩,⟨b1,b2,b3⟩,⟨c1,c2⟩,cd⟩:=HN.out
  have hgn:=HG.out
  simp only [List.mem_cons,not_or] at hgn
  obtain ⟨g1,g2,g3,g4,g5⟩:=hgn
  have k1:Keeps Fc w0 w1:=hk1.ofDrew
  have m1:=(m0.cells hc1 k1).rank hx 1
  have m1':=m0.cells hc1 k1
  have tr1:=tr0.keep k1 g5
  have kr:Keeps [gr] w1 (w1.setCell ⟨gr,x,none⟩ (.int .i64 1)):=(Keeps.refl _ _).setCell (.inl (by simp)) _
  have tr2:=tr1.keep kr (by simpa using g4)
  have kw:Keeps (p::pt::gt::gr::gT::Fc) w (w1.setCell ⟨gr,x,none⟩ (.int .i64 1)):=((hkw.mono (T:=p::pt::gt::gr::gT::Fc) (by simp)).trans k1 (fun b hb=>.inl (by simp [hb]))).trans kr (by simp)
  have d1:=m1'.c0
  have d2:=m1'.c2
  obtain ⟨f,a⟩:=m1'.rk
  have f0:=a.frozen x
  have d5:=a.cell1 hx
  simp only [numV,List.getElem?_cons_zero] at d5
  have hx3:(x:Int)<(cap:Int):=by omega
  clear d0 e0 e1 m0 tr0 hput hk1 hc1 k1 hS q1 a tr1 m1'
  go_upto_region 4 with fail
  clear d1 d2 d5 f0
  generalize w1.setCell ⟨gr,x,none⟩ (.int .i64 1)=w2 at *
  have m3:=m1.keep (S:=[]) (w':=w2.drew) ⟨rfl,rfl,rfl,Nat.le_refl _,fun _ _ _=>rfl⟩ (by simp)
  have d3:=m3.c3
  have d4:=(tr2.like (w':=w2.drew) rfl).at (i:=h) (by omega)
  have hmg:=left_merge w2.drew p pc pt gt gr _ Fc cap hs _ L R U _ L R h (top h) (some x) m3 HZ.out
  rw [oZ_some] at hmg
  have hhs3:(h:Int)<((hs+1:Nat):Int):=by omega
  have hhs4:(h:Int)<(hs:Int)+1:=by omega
  have hfin:∀(w3:World) (C:Option Nat) (L' R' U':Nat->Option Nat),LeftMid w3 p pc pt gt gr (.slice (some ⟨gT,0,none⟩) (hs+1) cT) Fc cap hs (put E x (some (h,k,q))) L' R' U'->Zip (put E x (some (h,k,q))) L' R' U' (fun y=>∃g,g≠h∧top g=some y) L R h [] C none->Keeps (gt::gr::Fc) w2.drew w3 ->
    w3.cell? ⟨p,3,none⟩=some (.slice (some ⟨gT,0,none⟩) (hs+1) cT)∧w3.cell? ⟨gT,h,none⟩=some (.int .i64 (oZ (top h)))∧w3.frozen? ⟨gT,h,none⟩=false∧LeftSt w (p::pt::gt::gr::gT::Fc) p cap hs (put E x (some (h,k,q))) (.returned (.bool true)) (w3.setCell ⟨gT,h,none⟩ (.int .i64 (oZ C))):=by
   intro w3 C L' R' U' m4 z4 k4
   have tr4:=(tr2.like (w':=w2.drew) rfl).keep k4 (by simp;exact ⟨g3,g4,g5⟩)
   have k5:Keeps [gT] w3 (w3.setCell ⟨gT,h,none⟩ (.int .i64 (oZ C))):=(Keeps.refl _ _).setCell (.inl (by simp)) _
   have ht:Tops (put E x (some (h,k,q))) L' R' U' (upd top h C):=Tops.merged z4 (fun y=>Iff.rfl) (fun g t' hg e=>by
    have h1:=HT.out.mine g t' e
    have hne:t'≠x:=by rintro rfl;have:=h1.some;rw [HE.out] at this;cases this
    exact (isIn_put_other hne).2 h1)
   refine ⟨m4.c3,tr4.at (by omega),tr4.frozen _,rfl,⟨pc,pt,gt,gr,gT,cT,Fc,L',R',U',upd top h C,rfl,m4.keep k5 ?_,tr4.set (by omega) (by omega) C,HG.out,ht⟩,?_⟩
   .intro b hb e
    simp only [List.mem_cons,List.not_mem_nil,or_false] at e
    subst e
    exact HG.out hb
   .exact ((kw.drew).trans k4 (fun b hb=>.inl (by simp only [List.mem_cons] at hb ⊢;rcases hb with c|c|c<;>simp [c]))).trans k5 (by simp)
  have HF:=Lib.hid hfin
  clear hfin m1 tr2 m3 kw kr
  go_region_law (first
   | (go_simp;go_at_call 409;refine hmg.mono ?_;rintro e w3 ⟨C,L',R',U',rfl,m4,z4,k4⟩;obtain ⟨d6,d7,f7,hfi⟩:=HF.out w3 C L' R' U' m4 z4 k4))
  all_goals
   go_wp2
   go_ret
   exact ⟨rfl,hfi.2.1.keep (S:=[]) ⟨rfl,rfl,rfl,Nat.le_refl _,fun _ _ _=>rfl⟩ (by simp),hfi.2.2.trans (T:=[]) ⟨rfl,rfl,rfl,Nat.le_refl _,fun _ _ _=>rfl⟩ (by simp)⟩
end
end Go.Proofs.YtkdbjelhkfdfjaaGreatDoor

