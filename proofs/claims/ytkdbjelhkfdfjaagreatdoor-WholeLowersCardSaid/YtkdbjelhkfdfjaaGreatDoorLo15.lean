/-
  Contracts that the law rests on. Conditions: none.
-/
import Derived.Test.YtkdbjelhkfdfjaaGreatDoorLo08
set_option linter.unusedVariables false
set_option maxRecDepth 100000
set_option maxHeartbeats 32000000
namespace Go.Proofs.YtkdbjelhkfdfjaaGreatDoor
open Go.RowKit
theorem oZ_max1 (o:Option Nat):max (-1:Int) (oZ o)=oZ o:=by cases o with|none=>simp [oZ]|some x=>simp only [oZ];omega
theorem rev_at (T S:List Nat) (x:Nat):Rg.fn (T++x::S).reverse S.length=x:=by
 have:S.length=S.reverse.length:=by simp
 rw [this]
 simp [Rg.fn,List.getD]
section
variable (w:World) (p pc pt gt mb:Nat) (Fc:List Nat) (cap hs:Nat) (E:Ent) (L R U:Nat->Option Nat) (To:Nat->Prop) (L0 R0:Nat->Option Nat) (h:Hd)
def SkewDown (out a b:Value) (w':World):Prop :=
 ∃(C:Option Nat) (S:List Nat) (L R U:Nat->Option Nat) (ao:Option Addr) (ca:Nat) (ia ib:Int),out=.slice ao S.length ca∧a=.int .i64 ia∧b=.int .i64 ib∧max ia ib=oZ C ∧
  Rg.IR w.heap.size w' out S.reverse∧Zip E L R U To L0 R0 h S C none∧SkewMid w' p pc pt gt mb Fc cap hs E L R U∧Keeps (gt::Fc) w w'∧S.length<=cap
def SkewMerged (e:Ending) (w':World):Prop :=
 ∃(C:Option Nat) (L R U:Nat->Option Nat),e=.returned (.int .i64 (oZ C))∧SkewMid w' p pc pt gt mb Fc cap hs E L R U∧Zip E L R U To L0 R0 h [] C none∧Keeps (gt::Fc) w w'
theorem skew_merge (A B:Option Nat) (m:SkewMid w p pc pt gt mb Fc cap hs E L R U) (z:Zip E L R U To L0 R0 h [] A B) :
  Calls Tryz.prog 430 #[.pointer (some ⟨p,0,none⟩),.int .i64 (oZ A),.int .i64 (oZ B)] w (SkewMerged w p pc pt gt mb Fc cap hs E To L0 R0 h):=by
 obtain ⟨l1,l2,l3,l4⟩:=m.lt
 have hbc:=m.ce.ok.bc
 go_enter Tryz.func430,Tryz.ntmps430
 go_upto_block 0 with fail
 go_cut [7,1,2] (fun out a b wc=>SkewDown w p pc pt gt mb Fc cap hs E To L0 R0 h out a b wc)
 case first =>
  go_wp2_with fail
  go_loopg [7,1,2] (cap+1) (fun k out a b wr=>∃(A B:Option Nat) (S:List Nat) (L R U:Nat->Option Nat) (ao:Option Addr) (ca:Nat),k+S.length=cap+1∧out=.slice ao S.length ca∧a=.int .i64 (oZ A)∧b=.int .i64 (oZ B) ∧
   Rg.IR w.heap.size wr out S.reverse∧Zip E L R U To L0 R0 h S A B∧SkewMid wr p pc pt gt mb Fc cap hs E L R U∧Keeps (gt::Fc) w wr)
  case atStart=>exact ⟨A,B,[],L,R,U,none,0,by simp,rfl,rfl,rfl,Rg.IR.nil _ _,z,m,Keeps.refl _ _⟩
  case round =>
   clear z m
   obtain ⟨A,B,S,L,R,U,ao,ca,hk,rfl,rfl,rfl,hir,z,m,kp⟩:=hrel
   have HK:=Lib.hid hk
   clear hk
   have hsc:S.length<=cap:=nodup_len z.nd fun y hy=>m.ce.ok.lt y (z.nm y hy).2.1.some
   cases A with
   | none =>
    have hm:=oZ_max1 B
    have HM:=Lib.hid hm
    clear hm
    simp only [oZ_none]
    go_wp2_with fail
    go_meet
    case rel=>exact ⟨B,S,L,R,U,ao,ca,-1,oZ B,rfl,rfl,rfl,HM.out,hir,z.swap,m,kp,hsc⟩
   | some x =>
    have hx1:((x:Int) != -1)=true:=by rw [bne_iff_ne];omega
    cases B with
    | none =>
     simp only [oZ_none,oZ_some]
     go_wp2_with fail
     go_meet
     case rel=>exact ⟨some x,S,L,R,U,ao,ca,x,-1,rfl,rfl,rfl,by simp only [oZ_some];omega,hir,z,m,kp,hsc⟩
    | some y =>
     have hy1:((y:Int) != -1)=true:=by rw [bne_iff_ne];omega
     have hxs:=(z.na x rfl).2.2
     have hys:=(z.nb y rfl).2.2
     have hal:=cells_ahead wr Fc pc cap hs E m.ce y x hys.some hxs.some
     have hxy:x≠y:=fun e=>z.ab x rfl (by rw [e])
     have hsl:=z.len (fun q hq=>m.ce.ok.lt q hq)
     simp only [oZ_some]
     have c0:=m.c0
     cases hb:ahead E y x with
     | true =>
      rw [hb] at hal
      have z2:=z.swap
      have HB:=Lib.hid hb
      clear z hb hx1 hy1
      obtain ⟨u,rfl⟩:∃u,u=y:=⟨y,rfl⟩
      obtain ⟨v,rfl⟩:∃v,v=x:=⟨x,rfl⟩
      have hus:=hys
      clear hxs hys hxy
      have hx1:((v:Int) != -1)=true:=by rw [bne_iff_ne];omega
      have hy1:((u:Int) != -1)=true:=by rw [bne_iff_ne];omega
      go_upto_region 5 with (go_at_call 339;refine hal.mono ?_;rintro e w1 ⟨rfl,hc1,hk1⟩)
      clear hal
      have m1:=m.cells hc1 hk1
      have hir1:=hir.keep hk1 (fun b hb=>l4 b hb)
      have kp1:Keeps (gt::Fc) w w1:=kp.trans hk1 (fun b hb=>.inl (by simp [hb]))
      have ks1:=kp1.size
      have hrow:w1.ownsRow 0 3 1 (.slice ao S.length ca) S.length (Rg.nCells S.reverse):=by
       have:=hir1.lo (Nat.zero_le _)
       unfold Rg.IR at this
       rwa [List.length_reverse] at this
      clear hir hk1 hc1 kp m hsc
      go_upto_region 6 with (at_builtin;refine wpList_push _ 3 (.int .i64 (u:Int)) (0,0) rfl (.tmp 26) (.tmp 28) 28 rfl (.int .i64 0) 8 Tryz.underlying28 Rg.Tryz.infoInt rfl rfl _ S.length (Rg.nCells S.reverse) (by simp [Act.eval]) hrow (by simp [Act.eval]) (by unfold maxLen;omega) (by omega) ?_;intro g' cap' w4 hr4 hk4 hf4)
      have hown:∀b∈(Value.slice ao S.length ca).ownBlock.toList,w.heap.size<=b:=fun b hb=>(hir1.own b (by simpa using hb)).1
      have hg':w.heap.size<=g':=by
       rcases hf4 with h1|h1
       .exact hown g' (by simpa using h1)
       .omega
      have hir4:Rg.IR w.heap.size w4 (.slice (some ⟨g',0,none⟩) (S.length+1) cap') (u::S).reverse:=by
       rw [List.reverse_cons]
       have:=Rg.IR.pushed (B:=w.heap.size) (L:=S.reverse) (x:=u) (by rw [List.length_reverse];exact hr4) hg'
       rwa [List.length_reverse] at this
      have kp4:Keeps (gt::Fc) w w4:=kp1.trans hk4 (fun b hb=>.inr (hown b hb))
      have m4:=m1.keep hk4 (fun b hb e=>by
       have h1:=hown b e
       simp only [List.mem_cons] at hb
       rcases hb with rfl|rfl|rfl|hb
       .omega
       .omega
       .omega
       .have:=l4 b hb;omega)
      have hu:=m4.ce.ok.lt u hus.some
      have hz:=Lib.hid (fun z e=>(z2.bin.right u z e).1)
      have d1:=m4.c1
      clear hr4 hk4 hf4 hown hrow hir1 m1 kp1
      go_wp2_with (first
       | (go_at_call 412;refine (sp_Right w4 pt gt cap L R U m4.sp u hu).mono ?_;rintro e w' ⟨rfl,mm,rfl⟩)
       | (go_at_call 432;refine (loose_R _ p pc pt gt mb Fc cap hs E L R U (m4.drewN _) u hz.out).mono ?_;rintro e w5 ⟨rfl,hs5⟩))
      have k5:Keeps [gt] w4 w5:=((Keeps.refl [gt] w4).drewN mm).trans hs5.2 (by simp)
      go_roundg (gk - 1)
      case measure=>have:=HK.out;omega
      case rel=>exact ⟨R u,some v,u::S,L,upd R u none,offU U (R u),some ⟨g',0,none⟩,cap',by have:=HK.out;simp only [List.length_cons];omega,rfl,rfl,rfl,hir4.keep k5 (by simpa using l3),z2.step HB.out,(m4.drewN mm).spine hs5,kp4.trans k5 (by simp)⟩
     | false =>
      rw [hb] at hal
      have hb2:ahead E x y=true:=by
       rcases ahead_tot hxs.some hys.some hxy with c|c
       .exact c
       .rw [hb] at c;cases c
      have z2:=z
      have HB:=Lib.hid hb2
      clear z hb hb2 hx1 hy1
      obtain ⟨u,rfl⟩:∃u,u=x:=⟨x,rfl⟩
      obtain ⟨v,rfl⟩:∃v,v=y:=⟨y,rfl⟩
      have hus:=hxs
      clear hxs hys hxy
      have hx1:((u:Int) != -1)=true:=by rw [bne_iff_ne];omega
      have hy1:((v:Int) != -1)=true:=by rw [bne_iff_ne];omega
      go_upto_region 5 with (go_at_call 339;refine hal.mono ?_;rintro e w1 ⟨rfl,hc1,hk1⟩)
      clear hal
      have m1:=m.cells hc1 hk1
      have hir1:=hir.keep hk1 (fun b hb=>l4 b hb)
      have kp1:Keeps (gt::Fc) w w1:=kp.trans hk1 (fun b hb=>.inl (by simp [hb]))
      have ks1:=kp1.size
      have hrow:w1.ownsRow 0 3 1 (.slice ao S.length ca) S.length (Rg.nCells S.reverse):=by
       have:=hir1.lo (Nat.zero_le _)
       unfold Rg.IR at this
       rwa [List.length_reverse] at this
      clear hir hk1 hc1 kp m hsc
      go_upto_region 6 with (at_builtin;refine wpList_push _ 3 (.int .i64 (u:Int)) (0,0) rfl (.tmp 26) (.tmp 28) 28 rfl (.int .i64 0) 8 Tryz.underlying28 Rg.Tryz.infoInt rfl rfl _ S.length (Rg.nCells S.reverse) (by simp [Act.eval]) hrow (by simp [Act.eval]) (by unfold maxLen;omega) (by omega) ?_;intro g' cap' w4 hr4 hk4 hf4)
      have hown:∀b∈(Value.slice ao S.length ca).ownBlock.toList,w.heap.size<=b:=fun b hb=>(hir1.own b (by simpa using hb)).1
      have hg':w.heap.size<=g':=by
       rcases hf4 with h1|h1
       .exact hown g' (by simpa using h1)
       .omega
      have hir4:Rg.IR w.heap.size w4 (.slice (some ⟨g',0,none⟩) (S.length+1) cap') (u::S).reverse:=by
       rw [List.reverse_cons]
       have:=Rg.IR.pushed (B:=w.heap.size) (L:=S.reverse) (x:=u) (by rw [List.length_reverse];exact hr4) hg'
       rwa [List.length_reverse] at this
      have kp4:Keeps (gt::Fc) w w4:=kp1.trans hk4 (fun b hb=>.inr (hown b hb))
      have m4:=m1.keep hk4 (fun b hb e=>by
       have h1:=hown b e
       simp only [List.mem_cons] at hb
       rcases hb with rfl|rfl|rfl|hb
       .omega
       .omega
       .omega
       .have:=l4 b hb;omega)
      have hu:=m4.ce.ok.lt u hus.some
      have hz:=Lib.hid (fun z e=>(z2.bin.right u z e).1)
      have d1:=m4.c1
      clear hr4 hk4 hf4 hown hrow hir1 m1 kp1
      go_wp2_with (first
       | (go_at_call 412;refine (sp_Right w4 pt gt cap L R U m4.sp u hu).mono ?_;rintro e w' ⟨rfl,mm,rfl⟩)
       | (go_at_call 432;refine (loose_R _ p pc pt gt mb Fc cap hs E L R U (m4.drewN _) u hz.out).mono ?_;rintro e w5 ⟨rfl,hs5⟩))
      have k5:Keeps [gt] w4 w5:=((Keeps.refl [gt] w4).drewN mm).trans hs5.2 (by simp)
      go_roundg (gk - 1)
      case measure=>have:=HK.out;omega
      case rel=>exact ⟨R u,some v,u::S,L,upd R u none,offU U (R u),some ⟨g',0,none⟩,cap',by have:=HK.out;simp only [List.length_cons];omega,rfl,rfl,rfl,hir4.keep k5 (by simpa using l3),z2.step HB.out,(m4.drewN mm).spine hs5,kp4.trans k5 (by simp)⟩
 case rest =>
  clear m z
  obtain ⟨C,S,L,R,U,ao,ca,ia,ib,rfl,rfl,rfl,hmax,hir,z,m,kp,hsc⟩:=hcut
  have HMAX:=Lib.hid hmax
  clear hmax
  obtain ⟨wd,rfl⟩:∃wd,wd=wc:=⟨wc,rfl⟩
  go_upto_region 7 with fail
  go_cut [8] (fun r w2=>r=.int .i64 (oZ C)∧w2=wd)
  case first =>
   go_wp2_with fail
   all_goals
    go_meet
    case rel=>exact ⟨by rw [<-HMAX.out];congr 1;omega,rfl⟩
  obtain ⟨rfl,rfl⟩:=hcut
  go_wp2_with fail
  go_loopg [8,9] (S.length+1) (fun k r i wr=>∃(C:Option Nat) (T S':List Nat) (L R U:Nat->Option Nat) (iz:Int),S=T++S'∧k=S'.length+1∧iz+1=(S'.length:Int)∧r=.int .i64 (oZ C)∧i=.int .i64 iz ∧
   Zip E L R U To L0 R0 h S' C none∧SkewMid wr p pc pt gt mb Fc cap hs E L R U∧Keeps (gt::Fc) w wr∧Keeps [gt] wc wr)
  case atStart=>exact ⟨C,[],S,L,R,U,(S.length:Int) - 1,rfl,rfl,by omega,rfl,rfl,z,m,kp,Keeps.refl _ _⟩
  case round =>
   clear z m kp
   obtain ⟨C,T,S',L,R,U,iz,hST,hk,hiz,rfl,rfl,z,m,kp,kq⟩:=hrel
   have HK:=Lib.hid hk
   have HST:=Lib.hid hST
   clear hk hST
   cases S' with
   | nil =>
    obtain rfl:iz=-1:=by simp at hiz;omega
    clear hiz
    go_wp2_with fail
    go_ret
    exact ⟨C,L,R,U,rfl,m,z,kp⟩
   | cons x S2 =>
    obtain rfl:iz=(S2.length:Int):=by simp at hiz;omega
    clear hiz
    have hlen:S2.length<S.length:=by rw [HST.out];simp;omega
    obtain ⟨g,hao,glt,_,c9⟩:=(hir.keep kq (by simpa using l3)).at S2.length (by rw [List.length_reverse];exact hlen)
    rw [HST.out,rev_at] at c9
    subst hao
    obtain ⟨x1,x2,x3⟩:=z.nm x (by simp)
    have hnd:=(List.nodup_cons.1 z.nd).1
    have hx:=m.ce.ok.lt x x2.some
    have d1:=m.c1
    have hlen3:(S2.length:Int)<(S.length:Int):=by omega
    cases C with
    | none =>
     have z3:=z.back.turn hnd x1
     rw [show upd R x none=R by rw [<-x3];exact upd_self R x] at z3
     have Z3:=Lib.hid z3
     have X3:=Lib.hid x3
     clear z z3 x3
     simp only [oZ_none]
     go_wp2_with (go_at_call 422;refine (sp_turn wr pt gt cap L R U m.sp x hx).mono ?_;rintro e w5 ⟨rfl,hs5⟩)
     go_roundg (gk - 1)
     case measure=>have:=HK.out;simp at this;omega
     case rel=>exact ⟨some x,T++[x],S2,_,_,_,(S2.length:Int) - 1,by rw [HST.out];simp,by have:=HK.out;simp at this;omega,by omega,rfl,rfl,Z3.out,m.spine hs5,kp.trans hs5.2 (by simp),kq.trans hs5.2 (by simp)⟩
    | some r =>
     obtain ⟨r1,r2,r3⟩:=z.na r rfl
     have hr:=m.ce.ok.lt r r3.some
     have hur:=(z.bin.top r (.inr (.inr (.inl rfl)))).2
     have hxr:x≠r:=by rintro rfl;exact r1 (by simp)
     have z3:=z.back.turn hnd x1
     have Z3:=Lib.hid z3
     have hh:=sp_hang wr pt gt cap L R U m.sp x r hx hr hxr hur x3
     have hr1:((r:Int) != -1)=true:=by rw [bne_iff_ne];omega
     clear z z3 x3 hur
     simp only [oZ_some]
     go_upto_region 14 with (go_at_call 414;refine hh.mono ?_;rintro e w5 ⟨rfl,hs5⟩)
     clear hh d1
     have m5:=m.spine hs5
     have d1:=m5.c1
     go_wp2_with (go_at_call 422;refine (sp_turn w5 pt gt cap _ _ _ m5.sp x hx).mono ?_;rintro e w6 ⟨rfl,hs6⟩)
     go_roundg (gk - 1)
     case measure=>have:=HK.out;simp at this;omega
     case rel=>exact ⟨some x,T++[x],S2,_,_,_,(S2.length:Int) - 1,by rw [HST.out];simp,by have:=HK.out;simp at this;omega,by omega,rfl,rfl,Z3.out,m5.spine hs6,(kp.trans hs5.2 (by simp)).trans hs6.2 (by simp),(kq.trans hs5.2 (by simp)).trans hs6.2 (by simp)⟩
end
def numV (f:Nat->Int) (i:Nat):List Value:=[.int .i64 (f i)]
structure LeftMid (w:World) (p pc pt gt gr:Nat) (vT:Value) (Fc:List Nat) (cap hs:Nat) (E:Ent) (L R U:Nat->Option Nat):Prop where
 nd:(p::pt::gt::gr::Fc).Nodup
 blk:w.heap[p]?=some (.cells #[.pointer (some ⟨pc,0,none⟩),.pointer (some ⟨pt,0,none⟩),.slice (some ⟨gr,0,none⟩) cap cap,vT] 232 (0,0))
 ce:CellsAt w Fc pc cap hs E
 sp:SpineAt w pt gt cap L R U
 rk:∃f:Nat->Int,Arr w 3 1 cap gr (numV f)
section
variable {w w':World} {p pc pt gt gr cap hs:Nat} {vT:Value} {Fc S:List Nat} {E E':Ent} {L R U L' R' U':Nat->Option Nat}
theorem LeftMid.ne (m:LeftMid w p pc pt gt gr vT Fc cap hs E L R U):(p≠pt∧p≠gt∧p≠gr∧p∉Fc)∧(pt≠gt∧pt≠gr∧pt∉Fc)∧(gt≠gr∧gt∉Fc)∧gr∉Fc:=by
 have:=m.nd
 simp only [List.nodup_cons,List.mem_cons,not_or] at this
 obtain ⟨⟨a1,a2,a3,a4⟩,⟨b1,b2,b3⟩,⟨c1,c2⟩,d,_⟩:=this
 exact ⟨⟨a1,a2,a3,a4⟩,⟨b1,b2,b3⟩,⟨c1,c2⟩,d⟩
theorem LeftMid.rkeep (m:LeftMid w p pc pt gt gr vT Fc cap hs E L R U) (k:Keeps S w w') (h:gr∉S):∃f:Nat->Int,Arr w' 3 1 cap gr (numV f):=by
 obtain ⟨f,a⟩:=m.rk
 exact ⟨f,a.keep k h⟩
theorem LeftMid.keep (m:LeftMid w p pc pt gt gr vT Fc cap hs E L R U) (k:Keeps S w w') (hS:∀b∈p::pt::gt::gr::Fc,b∉S):LeftMid w' p pc pt gt gr vT Fc cap hs E L R U :=
 ⟨m.nd,k.blk m.blk (hS p (by simp)),m.ce.keep k (fun b hb=>hS b (by simp [hb])),m.sp.keep k (hS pt (by simp)) (hS gt (by simp)),m.rkeep k (hS gr (by simp))⟩
theorem LeftMid.below (m:LeftMid w p pc pt gt gr vT Fc cap hs E L R U) (k:Below w.heap.size w w'):LeftMid w' p pc pt gt gr vT Fc cap hs E L R U:=m.keep (Below.keeps k (Nat.le_refl _) []) (by simp)
theorem LeftMid.drewN (m:LeftMid w p pc pt gt gr vT Fc cap hs E L R U) (n:Nat):LeftMid (w.drewN n) p pc pt gt gr vT Fc cap hs E L R U:=m.keep (S:=[]) ⟨rfl,rfl,rfl,Nat.le_refl _,fun _ _ _=>rfl⟩ (by simp)
theorem LeftMid.cells (m:LeftMid w p pc pt gt gr vT Fc cap hs E L R U) (c:CellsAt w' Fc pc cap hs E') (k:Keeps Fc w w'):LeftMid w' p pc pt gt gr vT Fc cap hs E' L R U:=by
 obtain ⟨⟨a1,a2,a3,a4⟩,⟨b1,b2,b3⟩,⟨c1,c2⟩,d⟩:=m.ne
 exact ⟨m.nd,k.blk m.blk a4,c,m.sp.keep k b3 c2,m.rkeep k d⟩
theorem LeftMid.spine (m:LeftMid w p pc pt gt gr vT Fc cap hs E L R U) (c:SpineLeft w pt gt cap L' R' U' w'):LeftMid w' p pc pt gt gr vT Fc cap hs E L' R' U':=by
 obtain ⟨⟨a1,a2,a3,a4⟩,⟨b1,b2,b3⟩,⟨c1,c2⟩,d⟩:=m.ne
 exact ⟨m.nd,c.2.blk m.blk (by simpa using a2),m.ce.keep c.2 (fun b hb e=>by simp at e;subst e;exact c2 hb),c.1,m.rkeep c.2 (by simpa using fun e=>c1 e.symm)⟩
theorem LeftMid.rank (m:LeftMid w p pc pt gt gr vT Fc cap hs E L R U) {x:Nat} (hx:x<cap) (z:Int):LeftMid (w.setCell ⟨gr,x,none⟩ (.int .i64 z)) p pc pt gt gr vT Fc cap hs E L R U:=by
 obtain ⟨⟨a1,a2,a3,a4⟩,⟨b1,b2,b3⟩,⟨c1,c2⟩,d⟩:=m.ne
 have k:Keeps [gr] w (w.setCell ⟨gr,x,none⟩ (.int .i64 z)):=(Keeps.refl _ _).setCell (.inl (by simp)) _
 obtain ⟨f,a⟩:=m.rk
 refine ⟨m.nd,k.blk m.blk (by simpa using a3),m.ce.keep k (fun b hb e=>by simp at e;subst e;exact d hb),m.sp.keep k (by simpa using b2) (by simpa using c1),upd f x z,(a.set1 hx (.int .i64 z)).congr fun i _=>?_⟩
 by_cases c:i=x
 .subst c;simp [upd_same,numV]
 .simp [upd_other _ _ c,numV]
theorem LeftMid.lt (m:LeftMid w p pc pt gt gr vT Fc cap hs E L R U):p<w.heap.size∧pt<w.heap.size∧gt<w.heap.size∧gr<w.heap.size∧∀b∈Fc,b<w.heap.size:=by
 obtain ⟨f,a⟩:=m.rk
 exact ⟨lt_of_block m.blk,m.sp.lt.1,m.sp.lt.2,a.lt,m.ce.lt⟩
theorem LeftMid.c0 (m:LeftMid w p pc pt gt gr vT Fc cap hs E L R U):w.cell? ⟨p,0,none⟩=some (.pointer (some ⟨pc,0,none⟩)):=by rw [cell_of_blk m.blk];rfl
theorem LeftMid.c1 (m:LeftMid w p pc pt gt gr vT Fc cap hs E L R U):w.cell? ⟨p,1,none⟩=some (.pointer (some ⟨pt,0,none⟩)):=by rw [cell_of_blk m.blk];rfl
theorem LeftMid.c2 (m:LeftMid w p pc pt gt gr vT Fc cap hs E L R U):w.cell? ⟨p,2,none⟩=some (.slice (some ⟨gr,0,none⟩) cap cap):=by rw [cell_of_blk m.blk];rfl
theorem LeftMid.c3 (m:LeftMid w p pc pt gt gr vT Fc cap hs E L R U):w.cell? ⟨p,3,none⟩=some vT:=by rw [cell_of_blk m.blk];rfl
end
theorem kid_calls (w:World) (o:Option Nat):Calls Tryz.prog 410 #[.int .i64 ((o.getD 0:Nat):Int),.bool o.isSome] w fun e w'=>e=.returned (.int .i64 (oZ o))∧w'=w:=by
 cases o with
 | none =>
  go_enter Tryz.func410,Tryz.ntmps410
  go_wp2
  go_ret
  exact ⟨rfl,rfl⟩
 | some x =>
  go_enter Tryz.func410,Tryz.ntmps410
  go_wp2
  go_ret
  exact ⟨rfl,rfl⟩
def SomeI (w:World) (e:Ending) (w':World):Prop:=∃z:Int,e=.returned (.int .i64 z)∧w=w'
section
variable (w:World) (p pc pt gt gr:Nat) (vT:Value) (Fc:List Nat) (cap hs:Nat) (E:Ent) (L R U:Nat->Option Nat)
theorem ranked_calls (m:LeftMid w p pc pt gt gr vT Fc cap hs E L R U) (o:Option Nat) (ho:∀x,o=some x->x<cap) :
  Calls Tryz.prog 421 #[.pointer (some ⟨p,0,none⟩),.int .i64 (oZ o)] w (SomeI w):=by
 have c2:=m.c2
 obtain ⟨f,a⟩:=m.rk
 clear m
 cases o with
 | none =>
  simp only [oZ_none]
  go_enter Tryz.func421,Tryz.ntmps421
  go_wp2
  go_ret
  exact ⟨_,rfl,rfl⟩
 | some x =>
  have hx:=ho x rfl
  have d0:=a.cell1 hx
  simp only [numV,List.getElem?_cons_zero] at d0
  have hx3:(x:Int)<(cap:Int):=by omega
  have hxn:((x:Int)==-1)=false:=by rw [beq_eq_false_iff_ne];omega
  simp only [oZ_some]
  clear ho
  go_enter Tryz.func421,Tryz.ntmps421
  go_wp2
  go_ret
  exact ⟨_,rfl,rfl⟩
def Settled (x:Nat) (e:Ending) (w':World):Prop :=
 ∃L' R':Nat->Option Nat,e=.returned (.tuple #[])∧((L'=L∧R'=R)∨(L'=upd L x (R x)∧R'=upd R x (L x)))∧LeftMid w' p pc pt gt gr vT Fc cap hs E L' R' U∧Keeps [gt,gr] w w'
def SettledMid (x:Nat) (s:Value) (w':World):Prop :=
 ∃(L' R':Nat->Option Nat) (o:Option Nat),s=.int .i64 (oZ o)∧(∀y,o=some y->y<cap)∧((L'=L∧R'=R)∨(L'=upd L x (R x)∧R'=upd R x (L x)))∧LeftMid w' p pc pt gt gr vT Fc cap hs E L' R' U∧Keeps [gt,gr] w w'
theorem settle_calls (m:LeftMid w p pc pt gt gr vT Fc cap hs E L R U) (x:Nat) (hx:x<cap) :
  Calls Tryz.prog 418 #[.pointer (some ⟨p,0,none⟩),.int .i64 x] w (Settled w p pc pt gt gr vT Fc cap hs E L R U x):=by
 have c1:=m.c1
 have hL:=fun y (e:L x=some y)=>m.sp.wf x y (.inl e)
 have hR:=fun y (e:R x=some y)=>m.sp.wf x y (.inr (.inl e))
 have HL:=Lib.hid hL
 have HR:=Lib.hid hR
 clear hL hR
 go_enter Tryz.func418,Tryz.ntmps418
 go_wp2_with fail
 go_quiet ((first
  | (go_at_call 411;exact Calls.quiet_of (sp_Left _ pt gt cap L R U (by exact m.sp.like rfl) x hx))
  | (go_at_call 412;exact Calls.quiet_of (sp_Right _ pt gt cap L R U (by exact m.sp.like rfl) x hx))
  | (go_at_call 410;exact Calls.quiet_of_same (kid_calls _ (L x)))
  | (go_at_call 410;exact Calls.quiet_of_same (kid_calls _ (R x)))))
 have m0:=m.drewN nq
 have k0:Keeps [gt,gr] w (w.drewN nq):=(Keeps.refl _ _).drewN nq
 generalize w.drewN nq=w0 at *
 have d1:=m0.c1
 go_upto_if 30 with (first
  | (go_at_call 421;(with_reducible refine (ranked_calls _ p pc pt gt gr vT Fc cap hs E L R U m0 (L x) HL.out).mono ?_);rintro e w' ⟨z1,rfl,rfl⟩)
  | (go_at_call 421;(with_reducible refine (ranked_calls _ p pc pt gt gr vT Fc cap hs E L R U m0 (R x) HR.out).mono ?_);rintro e w' ⟨z2,rfl,rfl⟩))
 go_cut [5] (fun s wc=>SettledMid w p pc pt gt gr vT Fc cap hs E L R U x s wc)
 case first =>
  have ht:=sp_turn w0 pt gt cap L R U m0.sp x hx
  by_cases hz:z1<z2
  .go_wp2_with (go_at_call 422;refine ht.mono ?_;rintro e w1 ⟨rfl,hs1⟩)
   go_meet
   case rel=>exact ⟨_,_,L x,rfl,HL.out,.inr ⟨rfl,rfl⟩,m0.spine hs1,k0.trans hs1.2 (by simp)⟩
  .go_wp2_with fail
   go_meet
   case rel=>exact ⟨_,_,R x,rfl,HR.out,.inl ⟨rfl,rfl⟩,m0,k0⟩
 case rest =>
  clear m m0 k0 d1 c1
  obtain ⟨L',R',o,rfl,ho,hLR,m1,k1⟩:=hcut
  have d2:=m1.c2
  have hx3:(x:Int)<(cap:Int):=by omega
  obtain ⟨f,a⟩:=m1.rk
  have f0:=a.frozen x
  have e0:=a.cell1 hx
  simp only [numV,List.getElem?_cons_zero] at e0
  have hpr:p≠gr:=m1.ne.1.2.2.1
  have hrk:=fun u (hu:LeftMid u p pc pt gt gr vT Fc cap hs E L' R' U)=>ranked_calls u p pc pt gt gr vT Fc cap hs E L' R' U hu o ho
  clear a
  go_wp2_with fail
  go_region_held3 (fun u=>u.cell? ⟨p,2,none⟩=some (.slice (some ⟨gr,0,none⟩) cap cap)) (first|exact d2|exact cell_set_ne hpr d2)
   (first
    | (go_at_call 421;refine (hrk _ (by exact m1.keep (S:=[]) ⟨rfl,rfl,rfl,Nat.le_refl _,fun _ _ _=>rfl⟩ (by simp))).mono ?_;rintro e w' ⟨z,rfl,rfl⟩))
  all_goals
   go_end0
   exact ⟨L',R',rfl,hLR,(m1.rank hx _).keep (S:=[]) ⟨rfl,rfl,rfl,Nat.le_refl _,fun _ _ _=>rfl⟩ (by simp),(k1.setCell (.inl (by simp)) _).trans (T:=[]) ⟨rfl,rfl,rfl,Nat.le_refl _,fun _ _ _=>rfl⟩ (by simp)⟩
end
end Go.Proofs.YtkdbjelhkfdfjaaGreatDoor

