/-
  Contracts that the law rests on. Conditions: none.
-/
import Derived.Test.YtkdbjelhkfdfjaaGreatDoorLo35
set_option linter.unusedVariables false
set_option maxRecDepth 100000
set_option maxHeartbeats 32000000
namespace Go.Proofs.YtkdbjelhkfdfjaaGreatDoor
open Go.RowKit
def mendN (E:Ent) (cap:Nat) (o:Option Nat):Nat:=match o with|none=>0|some y=>before E cap y+1
section
variable (w:World) (p pc pt gt gr:Nat) (vT:Value) (Fc:List Nat) (cap hs:Nat) (E:Ent) (L R U:Nat->Option Nat)
def Mended (e:Ending) (w':World):Prop :=
 ∃L' R':Nat->Option Nat,e=.returned (.tuple #[])∧Turned L R L' R'∧(∀(D:Ent) T,Bin D L R U T->Bin D L' R' U T)∧LeftMid w' p pc pt gt gr vT Fc cap hs E L' R' U∧Keeps [gt,gr] w w'
theorem mend_calls (m:LeftMid w p pc pt gt gr vT Fc cap hs E L R U) (D:Ent) (hup:∀y q,U y=some q->ahead D q y=true) (x:Nat) (hx:x<cap) :
  Calls Tryz.prog 408 #[.pointer (some ⟨p,0,none⟩),.int .i64 x] w (Mended w p pc pt gt gr vT Fc cap hs E L R U):=by
 have hst:∃L' R',Turned L R L' R'∧(∀(D:Ent) T,Bin D L R U T->Bin D L' R' U T)∧LeftMid w p pc pt gt gr vT Fc cap hs E L' R' U∧Keeps [gt,gr] w w:=⟨L,R,Turned.refl _ _,fun _ _ h=>h,m,Keeps.refl _ _⟩
 have HS:=Lib.hid hst
 have HUP:=Lib.hid hup
 clear hst hup m
 go_enter Tryz.func408,Tryz.ntmps408
 go_wp2_with fail
 go_loopg [1] (mendN D cap (some x)) (fun k s wr=>∃o:Option Nat,k=mendN D cap o∧s=.int .i64 (oZ o)∧(∀y,o=some y->y<cap)∧∃L' R',Turned L R L' R'∧(∀(D:Ent) T,Bin D L R U T->Bin D L' R' U T)∧LeftMid wr p pc pt gt gr vT Fc cap hs E L' R' U∧Keeps [gt,gr] w wr)
 case atStart=>exact ⟨some x,rfl,rfl,fun y e=>by cases e;exact hx,HS.out⟩
 case round =>
  clear HS
  obtain ⟨o,hk,rfl,ho,L',R',ht,hbin,m,kp⟩:=hrel
  have HK:=Lib.hid hk
  clear hk
  cases o with
  | none =>
   have HZ:Hid (Mended w p pc pt gt gr vT Fc cap hs E L R U (.returned (.tuple #[])) wr):=Lib.hid ⟨L',R',rfl,ht,hbin,m,kp⟩
   simp only [oZ_none]
   clear m ht hbin kp
   go_wp2_with fail
   first|go_end0|refine bodyPost_ret (results_none rfl _ _ _) rfl ?_
   exact HZ.out
  | some y =>
   have hy:=ho y rfl
   have hy1:((y:Int) != -1)=true:=by rw [bne_iff_ne];omega
   have hy3:(y:Int)<(cap:Int):=by omega
   have c2:=m.c2
   obtain ⟨f,a⟩:=m.rk
   have d0:=a.cell1 hy
   simp only [numV,List.getElem?_cons_zero] at d0
   have hset:=settle_calls wr p pc pt gt gr vT Fc cap hs E L' R' U m y hy
   have hfin:∀w1 L2 R2,((L2=L'∧R2=R')∨(L2=upd L' y (R' y)∧R2=upd R' y (L' y)))->LeftMid w1 p pc pt gt gr vT Fc cap hs E L2 R2 U->Keeps [gt,gr] wr w1 ->
     w1.cell? ⟨p,2,none⟩=some (.slice (some ⟨gr,0,none⟩) cap cap)∧w1.cell? ⟨p,1,none⟩=some (.pointer (some ⟨pt,0,none⟩))∧(∃z:Int,w1.cell? ⟨gr,y,none⟩=some (.int .i64 z))∧SpineAt w1 pt gt cap L2 R2 U ∧
      Hid (Turned L R L2 R2∧(∀(D:Ent) T,Bin D L R U T->Bin D L2 R2 U T)∧LeftMid w1 p pc pt gt gr vT Fc cap hs E L2 R2 U∧Keeps [gt,gr] w w1):=by
    intro w1 L2 R2 hc m1 k1
    obtain ⟨f1,a1⟩:=m1.rk
    have e0:=a1.cell1 hy
    simp only [numV,List.getElem?_cons_zero] at e0
    refine ⟨m1.c2,m1.c1,⟨_,e0⟩,m1.sp,?_,?_,m1,kp.trans k1 (fun b hb=>.inl hb)⟩
    .rcases hc with ⟨rfl,rfl⟩|⟨rfl,rfl⟩
     .exact ht
     .exact ht.turn y
    .rcases hc with ⟨rfl,rfl⟩|⟨rfl,rfl⟩
     .exact hbin
     .exact fun D T h=>(hbin D T h).turn y
   have HF:=Lib.hid hfin
   simp only [oZ_some]
   generalize f y=z0 at *
   clear m ht hbin kp a hfin
   go_upto_region 3 with (go_at_call 418;refine hset.mono ?_;rintro e w1 ⟨L2,R2,rfl,hLR,m1,k1⟩;obtain ⟨e2,e1,⟨z,e0⟩,hsp,hz⟩:=HF.out w1 L2 R2 hLR m1 k1;clear hLR m1 k1)
   clear hset c2 d0
   by_cases hzz:z=z0
   .subst hzz
    have HZ:Hid (Mended w p pc pt gt gr vT Fc cap hs E L R U (.returned (.tuple #[])) w1):=Lib.hid ⟨L2,R2,rfl,hz.out⟩
    clear hsp
    go_wp2_with fail
    first|go_end0|refine bodyPost_ret (results_none rfl _ _ _) rfl ?_
    exact HZ.out
   .have hzb:(z==z0)=false:=by simpa using hzz
    have hup:=sp_Up w1 pt gt cap L2 R2 U hsp y hy
    have hk:=fun u=>kid_calls u (U y)
    have HSP:=Lib.hid hsp
    clear hsp
    go_wp2_with (first
     | (go_at_call 413;refine hup.mono ?_;rintro e w2 ⟨rfl,rfl⟩)
     | (go_at_call 410;refine (hk w1).mono ?_;rintro e w2 ⟨rfl,rfl⟩))
    go_roundg (mendN D cap (U y))
    case measure =>
     rw [HK.out]
     cases hu:U y with
     | none=>simp [mendN]
     | some q =>
      have hq:q<cap:=HSP.out.wf y q (.inr (.inr hu))
      have:=before_lt hq (HUP.out y q hu)
      simp only [mendN];omega
    case rel=>exact ⟨U y,rfl,rfl,fun q e=>HSP.out.wf y q (.inr (.inr e)),L2,R2,hz.out⟩
end
theorem Bin.aheadUp {E:Ent} {L R U:Nat->Option Nat} {T:Nat->Prop} (z:Bin E L R U T) (hf:∀y,E y=none->U y=none):∀y q,U y=some q->ahead E q y=true:=fun y q e=>by
 have hs:(E y).isSome:=by
  cases c:E y with
  | none=>rw [hf y c] at e;cases e
  | some _=>rfl
 obtain ⟨p,e2,c⟩:=z.up y hs (fun h=>by rw [(z.top y h).2] at e;cases e)
 rw [e] at e2;cases e2
 rcases c with c|c
 .exact (z.left q y c).2.2
 .exact (z.right q y c).2.2
section
variable (w:World) (F:List Nat) (p cap hs:Nat) (E:Ent)
theorem left_decrease (c:LeftAt w F p cap hs E) (x h q:Nat) (k k':Int) (he:E x=some (h,k,q)) (hk:k'<=k) (hw:(Lit.int .i64 k').wf=true) :
  Calls Tryz.prog 400 #[.pointer (some ⟨p,0,none⟩),.int .i64 x,.agg #[.int .i64 k',.int .u64 (q:Int)]] w (LeftSt w F p cap hs (put E x (some (h,k',q)))):=by
 obtain ⟨pc,pt,gt,gr,gT,cT,Fc,L,R,U,top,rfl,m,tr,ng,t⟩:=c
 have hbh:=m.ce.ok.bh
 have hx:=m.ce.ok.lt x (by rw [he];rfl)
 obtain ⟨h1,h2⟩:=m.ce.ok.heap x h _ he
 have hxi:isIn E h x:=⟨_,he⟩
 obtain ⟨w0,hw0⟩:∃w0,w0=w.alloc (.cells #[.int .i64 k',.int .u64 (q:Int)] 104 (0,0)):=⟨_,rfl⟩
 obtain ⟨eb,heb⟩:∃eb,eb=w.heap.size:=⟨_,rfl⟩
 have k0:Keeps [] w w0:=by rw [hw0];exact (Keeps.refl _ _).alloc _
 have b0:w0.heap[eb]?=some (.cells #[.int .i64 k',.int .u64 (q:Int)] 104 (0,0)):=by rw [hw0,heb];exact blk_alloc_new _
 have e0:w0.cell? ⟨eb,0,none⟩=some (.int .i64 k'):=by rw [cell_of_blk b0];rfl
 have e1:w0.cell? ⟨eb,1,none⟩=some (.int .u64 (q:Int)):=by rw [cell_of_blk b0];rfl
 have m0:=m.keep k0 (by simp)
 have d0:=m0.c0
 have hlow:=cells_lower w0.drew Fc pc cap hs E (m0.ce.keep ((Keeps.refl [] w0).drew) (by simp)) x h q k k' he hk hw
 have hne:=m.ne
 have hgn:=ng
 simp only [List.mem_cons,not_or] at hgn
 obtain ⟨g1,g2,g3,g4,g5⟩:=hgn
 have hmid:∀w1,CellsAt w1 Fc pc cap hs (put E x (some (h,k',q)))->Keeps Fc w0.drew w1->LeftMid w1 p pc pt gt gr (.slice (some ⟨gT,0,none⟩) (hs+1) cT) Fc cap hs (put E x (some (h,k',q))) L R U∧TopRow w1 gT (hs+1) cT top∧Keeps Fc w w1:=fun w1 hc1 k1=>by
  have kk:Keeps Fc w w1:=((k0.trans ((Keeps.refl [] w0).drew) (by simp)).mono (by simp)).trans k1 (fun b hb=>.inl hb)
  exact ⟨m.cells hc1 kk,tr.keep kk g5,kk⟩
 have hhome:=fun u (hu:CellsAt u Fc pc cap hs (put E x (some (h,k',q))))=>cells_home u Fc pc cap hs _ hu x h ((isIn_low he k' h x).2 hxi)
 have HM:=Lib.hid hmid
 have HH:=Lib.hid hhome
 have HE:=Lib.hid he
 have HT:=Lib.hid t
 have HN:=Lib.hid hne
 have HX:=Lib.hid hxi
 have HG:=Lib.hid ng
 clear hmid hhome m m0 tr t hne b0 k0 he hxi ng
 go_enter Tryz.func400,Tryz.ntmps400
 go_upto_region 1 with fail
 rw [<-hw0,<-heb]
 clear hw0 heb
 go_region_law (first
  | (go_simp;go_at_call 309;refine hlow.mono ?_;rintro e w1 ⟨rfl,hc1,k1⟩;obtain ⟨m1,tr1,kk1⟩:=HM.out w1 hc1 k1;have M1:=Lib.hid m1;have T1:=Lib.hid tr1;have K1:=Lib.hid kk1;clear hc1 k1 m1 tr1 kk1))
 all_goals
  clear hlow e0 e1 d0
  have d0:=M1.out.c0
  go_upto_region 4 with (go_at_call 302;refine (HH.out w1 M1.out.ce).mono ?_;rintro e w2 ⟨rfl,a,rfl⟩;clear d0)
  have m2:=M1.out.drewN a
  have tr2:TopRow (w1.drewN a) gT (hs+1) cT top:=T1.out.keep ((Keeps.refl [] w1).drewN a) (by simp)
  have k2:Keeps Fc w (w1.drewN a):=K1.out.drewN a
  generalize w1.drewN a=w2 at *
  clear M1 T1 K1
  have d1:=m2.c1
  cases hu:U x with
  | none =>
   have hcut:=sp_cut_top w2 pt gt cap L R U m2.sp x hx hu
   have hz:LeftSt w (p::pt::gt::gr::gT::Fc) p cap hs (put E x (some (h,k',q))) (.returned (.bool true)) w2:=⟨rfl,⟨pc,pt,gt,gr,gT,cT,Fc,L,R,U,top,rfl,m2,tr2,HG.out,HT.out.low hu HE.out hk⟩,k2.mono (fun b hb=>.inl (by simp [hb]))⟩
   have HZ:=Lib.hid hz
   clear hz m2 tr2 k2 hu
   go_wp2_with (go_at_call 407;refine hcut.mono ?_;rintro e w3 ⟨rfl,rfl⟩)
   go_ret
   exact HZ.out
  | some q0 =>
   have hch:=HT.out.child (by rw [HE.out];rfl) hu
   have hq0:q0<cap:=m2.sp.wf x q0 (.inr (.inr hu))
   have hcut:Calls Tryz.prog 407 #[.pointer (some ⟨pt,0,none⟩),.int .i64 x] w2 fun e w'=>e=.returned (.tuple #[.int .i64 (q0:Int),.bool true])∧∃L1 R1,SpineLeft w2 pt gt cap L1 R1 (upd U x none) w' ∧
     Bin (put E x (some (h,k',q))) L1 R1 (upd U x none) (fun y=>(∃g,top g=some y)∨y=x):=by
    rcases hch with ⟨a1,a2⟩|⟨a1,a2⟩
    .refine (sp_cut_L w2 pt gt cap L R U m2.sp x q0 hx hu a1 a2).mono ?_
     rintro e w' ⟨rfl,hs⟩
     exact ⟨rfl,_,_,hs,HT.out.lowCut hu HE.out hk (.inl ⟨a1,rfl,rfl⟩)⟩
    .refine (sp_cut_R w2 pt gt cap L R U m2.sp x q0 hx hu a1).mono ?_
     rintro e w' ⟨rfl,hs⟩
     exact ⟨rfl,_,_,hs,HT.out.lowCut hu HE.out hk (.inr ⟨a1,rfl,rfl⟩)⟩
   have hfree:∀y,put E x (some (h,k',q)) y=none->upd U x none y=none:=fun y e=>by
    by_cases c:y=x
    .subst c;exact upd_same _ _ _
    .rw [upd_other _ _ c];exact HT.out.free y (none_low HE.out k' e)
   have HFR:=Lib.hid hfree
   have HNT:=Lib.hid (HT.out.noTop hu)
   have M2:=Lib.hid m2
   have T2:=Lib.hid tr2
   have K2:=Lib.hid k2
   clear hch m2 tr2 k2 hu hfree
   go_upto_region 6 with (go_at_call 407;refine hcut.mono ?_;rintro e w3 ⟨rfl,L1,R1,hs3,hb3⟩;have HS3:=Lib.hid hs3;have HB3:=Lib.hid hb3;clear hs3 hb3)
   clear hcut d1
   obtain ⟨⟨a1,a2,a3,a4⟩,⟨b1,b2,b3⟩,⟨c1,c2⟩,cd⟩:=HN.out
   have m3:=M2.out.spine HS3.out
   have hmend:=mend_calls w3 p pc pt gt gr _ Fc cap hs _ L1 R1 (upd U x none) m3 _ (HB3.out.aheadUp HFR.out) q0 hq0
   go_upto_region 7 with (go_at_call 408;refine hmend.mono ?_;rintro e w4 ⟨L2,R2,rfl,ht4,hb4,m4,k4⟩;have M4:=Lib.hid m4;have K4:=Lib.hid k4;have HB4:=Lib.hid (hb4 _ _ HB3.out);clear ht4 hb4 m4 k4)
   clear hmend m3
   have kw4:Keeps (gt::gr::Fc) w w4:=((K2.out.mono (T:=gt::gr::Fc) (fun b hb=>.inl (by simp [hb]))).trans HS3.out.2 (by simp)).trans K4.out (fun b hb=>.inl (by simp at hb ⊢;rcases hb with c|c<;>simp [c]))
   have tr4:=(T2.out.keep HS3.out.2 (by simpa using g3)).keep K4.out (by simp;exact ⟨g3,g4⟩)
   have hzip:=HB4.out.lowZip (h:=h) (fun g t' e=>(isIn_low HE.out k' g t').2 (HT.out.mine g t' e)) ((isIn_low HE.out k' h x).2 HX.out) HNT.out HFR.out
   have m5:=M4.out.keep (S:=[]) (w':=w4.drew) ⟨rfl,rfl,rfl,Nat.le_refl _,fun _ _ _=>rfl⟩ (by simp)
   have d3:=M4.out.c3
   have d4:=tr4.at (i:=h) (by omega)
   have d3':=m5.c3
   have d4':=(tr4.like (w':=w4.drew) rfl).at (i:=h) (by omega)
   have hmg:=left_merge w4.drew p pc pt gt gr _ Fc cap hs _ L2 R2 _ _ L2 R2 h (top h) (some x) m5 hzip
   rw [oZ_some] at hmg
   have hhs3:(h:Int)<((hs+1:Nat):Int):=by omega
   have hhs4:(h:Int)<(hs:Int)+1:=by omega
   have hfin:∀(w5:World) (C:Option Nat) (L' R' U':Nat->Option Nat),LeftMid w5 p pc pt gt gr (.slice (some ⟨gT,0,none⟩) (hs+1) cT) Fc cap hs (put E x (some (h,k',q))) L' R' U'->Zip (put E x (some (h,k',q))) L' R' U' (fun y=>∃g,g≠h∧top g=some y) L2 R2 h [] C none->Keeps (gt::gr::Fc) w4.drew w5 ->
     w5.cell? ⟨p,3,none⟩=some (.slice (some ⟨gT,0,none⟩) (hs+1) cT)∧w5.cell? ⟨gT,h,none⟩=some (.int .i64 (oZ (top h)))∧w5.frozen? ⟨gT,h,none⟩=false∧LeftSt w (p::pt::gt::gr::gT::Fc) p cap hs (put E x (some (h,k',q))) (.returned (.bool true)) (w5.setCell ⟨gT,h,none⟩ (.int .i64 (oZ C))):=by
    intro w5 C L' R' U' m6 z6 k6
    have tr6:=(tr4.like (w':=w4.drew) rfl).keep k6 (by simp;exact ⟨g3,g4,g5⟩)
    have k7:Keeps [gT] w5 (w5.setCell ⟨gT,h,none⟩ (.int .i64 (oZ C))):=(Keeps.refl _ _).setCell (.inl (by simp)) _
    have ht:Tops (put E x (some (h,k',q))) L' R' U' (upd top h C):=Tops.merged z6 (fun y=>Iff.rfl) (fun g t' hg e=>(isIn_low HE.out k' g t').2 (HT.out.mine g t' e))
    refine ⟨m6.c3,tr6.at (by omega),tr6.frozen _,rfl,⟨pc,pt,gt,gr,gT,cT,Fc,L',R',U',upd top h C,rfl,m6.keep k7 ?_,tr6.set (by omega) (by omega) C,HG.out,ht⟩,?_⟩
    .intro b hb e
     simp only [List.mem_cons,List.not_mem_nil,or_false] at e
     subst e
     exact HG.out hb
    .exact (((kw4.mono (T:=p::pt::gt::gr::gT::Fc) (fun b hb=>.inl (by simp only [List.mem_cons] at hb ⊢;rcases hb with c|c|c<;>simp [c]))).drew).trans k6 (fun b hb=>.inl (by simp only [List.mem_cons] at hb ⊢;rcases hb with c|c|c<;>simp [c]))).trans k7 (by simp)
   have HF:=Lib.hid hfin
   clear hfin m5 tr4 kw4 hzip M2 T2 K2 HS3 HB3 M4 K4 HB4 HN HFR HNT
   go_region_law (first
    | (go_simp;go_at_call 409;refine hmg.mono ?_;rintro e w5 ⟨C,L',R',U',rfl,m6,z6,k6⟩;obtain ⟨d6,d7,f7,hfi⟩:=HF.out w5 C L' R' U' m6 z6 k6;clear m6 z6 k6))
   all_goals
    go_wp2
    go_ret
    exact ⟨rfl,hfi.2.1.keep (S:=[]) ⟨rfl,rfl,rfl,Nat.le_refl _,fun _ _ _=>rfl⟩ (by simp),hfi.2.2.trans (T:=[]) ⟨rfl,rfl,rfl,Nat.le_refl _,fun _ _ _=>rfl⟩ (by simp)⟩
end
section
variable (w:World) (F:List Nat) (p cap hs:Nat) (E:Ent)
theorem left_delete_in (pc pt gt gr gT cT:Nat) (Fc:List Nat) (L R U top:Nat->Option Nat) (m:LeftMid w p pc pt gt gr (.slice (some ⟨gT,0,none⟩) (hs+1) cT) Fc cap hs E L R U) (tr:TopRow w gT (hs+1) cT top) (ng:gT∉p::pt::gt::gr::Fc) (t:Tops E L R U top) (h x q0:Nat) (hxi:isIn E h x) (hu:U x=some q0) :
  Calls Tryz.prog 401 #[.pointer (some ⟨p,0,none⟩),.int .i64 x] w (LeftSt w (p::pt::gt::gr::gT::Fc) p cap hs (put E x none)):=by
 have hn:=fun y (hy:(E y).isSome)=>m.ce.ok.lt y hy
 have hx:=hn x hxi.some
 obtain ⟨hov1,hov2⟩:=t.over hxi.some hu
 have hq0:=hn q0 (ahead_some hov2).1
 have hxq:x≠q0:=(ahead_ne hov2).symm
 have hhome:=cells_home w Fc pc cap hs E m.ce x h hxi
 have hcut:=t.cut2 hxi hu
 have hne:=m.ne
 have hchild:=t.child hxi.some hu
 have hdrop:=fun u (hu:CellsAt u Fc pc cap hs E)=>cells_drop u Fc pc cap hs E hu x h hxi
 have hbL:=fun z (e:L x=some z)=>And.intro (t.bin.left x z e).1 (t.bin.lr x z e)
 have hbR:=fun z (e:R x=some z)=>(by rw [offU_other (fun c=>t.bin.lr x z c e)];exact (t.bin.right x z e).1:offU U (L x) z=some x)
 have hgn:=ng
 simp only [List.mem_cons,not_or] at hgn
 obtain ⟨g1,g2,g3,g4,g5⟩:=hgn
 have hrest:∀(w3:World) (C:Option Nat) (L' R' U':Nat->Option Nat),LeftMid w3 p pc pt gt gr (.slice (some ⟨gT,0,none⟩) (hs+1) cT) Fc cap hs E L' R' U'->Zip E L' R' U' (fun y=>∃g,top g=some y) (upd L x none) (upd R x none) (hdOf E h x q0) [] C none->Keeps (gt::gr::Fc) w w3 ->
   L' q0=L q0∧R' q0=R q0∧U' x=some q0∧(∀r,C=some r->r<cap∧r≠q0∧r≠x∧U' r=none) ∧
   Hid (∀(w5:World) (L2 R2 U2:Nat->Option Nat),SpineLeft w3 pt gt cap L2 R2 U2 w5->((L q0=some x∧L2=upd L' q0 C∧R2=R'∧U2=onU (upd U' x none) C q0)∨(R q0=some x∧L2=L'∧R2=upd R' q0 C∧U2=onU (upd U' x none) C q0)) ->
    Hid (Calls Tryz.prog 408 #[.pointer (some ⟨p,0,none⟩),.int .i64 q0] w5 fun e w6=>e=.returned (.tuple #[])∧CellsAt w6 Fc pc cap hs E∧w6.cell? ⟨p,0,none⟩=some (.pointer (some ⟨pc,0,none⟩)) ∧
     Hid (∀w7,CellsAt w7 Fc pc cap hs (put E x none)->Keeps Fc w6 w7->LeftSt w (p::pt::gt::gr::gT::Fc) p cap hs (put E x none) (.returned (.bool true)) w7))):=by
  intro w3 C L' R' U' m3 z3 k3
  obtain ⟨f1,f2⟩:=z3.fxd q0 (.inr hov2)
  rw [upd_other _ _ hxq.symm] at f1 f2
  have hU:U' x=some q0:=by
   rcases hchild with ⟨a,_⟩|⟨a,_⟩
   .exact (z3.bin.left q0 x (f1.trans a)).1
   .exact (z3.bin.right q0 x (f2.trans a)).1
  refine ⟨f1,f2,hU,fun r e=>?_,fun w5 L2 R2 U2 hs5 hc=>?_⟩
  .have g1:=z3.nf r (.inr (.inl e))
   exact ⟨m3.ce.ok.lt r (z3.na r e).2.2.some,fun d=>g1 (.inr (by rw [d];exact hov2)),fun d=>g1 (.inl d),(z3.bin.top r (.inr (.inr (.inl e)))).2⟩
  .have m5:=m3.spine hs5
   have hhung:=z3.hung hxi hov1 hov2 (upd_same _ _ _) (upd_same _ _ _) (t.noTop hu)
   have hb:Bin E L2 R2 U2 (fun y=>(∃g,top g=some y)∨y=x)∧L2 x=none∧R2 x=none:=by
    rcases hc with ⟨a,rfl,rfl,rfl⟩|⟨a,rfl,rfl,rfl⟩
    .exact hhung.1 (by rw [upd_other _ _ hxq.symm];exact a)
    .exact hhung.2 (by rw [upd_other _ _ hxq.symm];exact a)
   have hfree:∀y,E y=none->U2 y=none:=fun y e=>by
    have e1:=z3.free y e
    have e2:upd U' x none y=none:=by
     by_cases d:y=x
     .subst d;exact upd_same _ _ _
     .rw [upd_other _ _ d];exact e1
    have e3:onU (upd U' x none) C q0 y=none:=by
     cases hC:C with
     | none=>exact e2
     | some r =>
      have:y≠r:=fun d=>by have:=(z3.na r hC).2.2.some;rw [<-d,e] at this;cases this
      rw [show onU (upd U' x none) (some r) q0=upd (upd U' x none) r (some q0) from rfl,upd_other _ _ this];exact e2
    rcases hc with ⟨_,_,_,rfl⟩|⟨_,_,_,rfl⟩
    .exact e3
    .exact e3
   refine (mend_calls w5 p pc pt gt gr _ Fc cap hs E L2 R2 U2 m5 E (hb.1.aheadUp hfree) q0 hq0).mono ?_
   rintro e w6 ⟨L3,R3,rfl,ht6,hb6,m6,k6⟩
   refine ⟨rfl,m6.ce,m6.c0,fun w7 c7 k7=>?_⟩
   obtain ⟨hl3,hr3⟩:=ht6.none hb.2.1 hb.2.2
   have ht:=(hb6 _ _ hb.1).gone hl3 hr3 t.mine (t.noTop hu) hfree
   have tr5:=((tr.keep k3 (by simp;exact ⟨g3,g4,g5⟩)).keep hs5.2 (by simpa using g3)).keep k6 (by simp;exact ⟨g3,g4⟩)
   refine ⟨rfl,⟨pc,pt,gt,gr,gT,cT,Fc,L3,R3,U2,top,rfl,m6.cells c7 k7,tr5.keep k7 g5,ng,ht⟩,?_⟩
   exact (((k3.mono (T:=p::pt::gt::gr::gT::Fc) (fun b hb=>.inl (by simp only [List.mem_cons] at hb ⊢;rcases hb with c|c|c<;>simp [c]))).trans hs5.2 (by simp)).trans k6 (fun b hb=>.inl (by simp at hb ⊢;rcases hb with c|c<;>simp [c]))).trans k7 (fun b hb=>.inl (by simp [hb]))
 have d0:=m.c0
 have d1:=m.c1
 have HCUT:=Lib.hid hcut
 have HR:=Lib.hid hrest
 have HDROP:=Lib.hid hdrop
 have HBL:=Lib.hid hbL
 have HBR:=Lib.hid hbR
 have HCH:=Lib.hid hchild
 clear hcut hrest hdrop hbL hbR t tr ng hn hchild hu hov1 hov2 hxi
 go_enter Tryz.func401,Tryz.ntmps401
 go_upto_region 4 with (go_at_call 302;refine hhome.mono ?_;rintro e w1 ⟨rfl,n1,rfl⟩)
 have m0:=m.drewN n1
 have k0:Keeps [] w (w.drewN n1):=(Keeps.refl [] w).drewN _
 generalize hw0:w.drewN n1=w0 at *
 clear hw0
 have e1:=m0.c1
 go_quiet ((first
  | (go_at_call 411;exact Calls.quiet_of (sp_Left _ pt gt cap L R U (by exact m0.sp.like rfl) x hx))
  | (go_at_call 412;exact Calls.quiet_of (sp_Right _ pt gt cap L R U (by exact m0.sp.like rfl) x hx))
  | (go_at_call 410;exact Calls.quiet_of_same (kid_calls _ (L x)))
  | (go_at_call 410;exact Calls.quiet_of_same (kid_calls _ (R x)))))
 have m1:=m0.drewN nq
 have k1:Keeps [] w (w0.drewN nq):=k0.drewN _
 clear m0 k0 e1 m
 generalize w0.drewN nq=w1 at *
 have e1:=m1.c1
 have hcl:=cut_left w1 p pc pt gt gr _ Fc cap hs E L R U m1 x HBL.out
 go_upto_region 6 with (go_at_call 407;refine hcl.mono ?_;rintro e w2 ⟨⟨v2,rfl⟩,s2⟩)
 have m2:=m1.spine s2
 have k2:Keeps (gt::gr::Fc) w w2:=(k1.mono (T:=gt::gr::Fc) (by simp)).trans s2.2 (by simp)
 have hcr:=cut_right w2 p pc pt gt gr _ Fc cap hs E (upd L x none) R (offU U (L x)) m2 x HBR.out
 clear hcl e1 m1 s2
 have e1:=m2.c1
 go_upto_region 7 with (go_at_call 407;refine hcr.mono ?_;rintro e w3 ⟨⟨v3,rfl⟩,s3⟩)
 have m3:=m2.spine s3
 have k3:Keeps (gt::gr::Fc) w w3:=k2.trans s3.2 (by simp)
 clear hcr e1 m2 s3 k2
 have e1:=m3.c1
 have hmg:=left_merge w3 p pc pt gt gr _ Fc cap hs E _ _ _ _ _ _ _ (L x) (R x) m3 HCUT.out
 go_upto_region 8 with (go_at_call 409;refine hmg.mono ?_;rintro e w4 ⟨C,L',R',U',rfl,m4,z4,k4⟩)
 have k5:=k3.trans k4 (fun b hb=>.inl hb)
 obtain ⟨f1,f2,hU,hCr,hfin⟩:=HR.out w4 C L' R' U' m4 z4 k5
 have hup:=sp_Up w4 pt gt cap L' R' U' m4.sp x hx
 rw [hU] at hup
 simp only [Option.getD_some,Option.isSome_some] at hup
 have hrq:=sp_Right w4 pt gt cap L' R' U' m4.sp q0 hq0
 have hkid:=fun u=>kid_calls u (R' q0)
 rw [f2] at hrq hkid
 have hdr:∀a,SpineAt (w4.drewN a) pt gt cap L' R' U':=fun a=>(m4.drewN a).sp
 have hkd:∀a w5 L2 R2 U2,SpineLeft (w4.drewN a) pt gt cap L2 R2 U2 w5->SpineLeft w4 pt gt cap L2 R2 U2 w5:=fun a w5 L2 R2 U2 hh=>⟨hh.1,hh.2.ofDrewN⟩
 have f0:=m4.c1
 have hstay:∀a u,Keeps [gt] (w4.drewN a) u->u.cell? ⟨p,1,none⟩=some (.pointer (some ⟨pt,0,none⟩)):=fun a u kk=>by
  have hb:=kk.ofDrewN.blk m4.blk (by simpa using m4.ne.1.2.1)
  rw [cell_of_blk hb];rfl
 have HS:=Lib.hid hstay
 have HDR:=Lib.hid hdr
 have HKD:=Lib.hid hkd
 have HCR:=Lib.hid hCr
 clear m4 z4 hmg e1 m3 d0 d1 k3 k4 k5 hdr hkd hstay hCr HR HCUT HBL HBR hhome
 rcases HCH.out with ⟨a1,a2⟩|⟨a1,a2⟩
 .have hcut:=fun a=>sp_cut_L (w4.drewN a) pt gt cap L' R' U' (HDR.out a) x q0 hx hU (f1.trans a1) (by rw [f2];exact a2)
  have hflag:(oZ (R q0)==(x:Int))=false:=by
   rw [beq_eq_false_iff_ne]
   intro e
   cases hR:R q0 with
   | none=>rw [hR,oZ_none] at e;omega
   | some r=>rw [hR,oZ_some] at e;have e2:r=x:=(by omega);exact a2 (by rw [hR,e2])
  have hA1:=Lib.hid a1
  generalize oZ (R q0)=zr at *
  clear a1 a2 f1 f2 HCH
  cases C with
  | none =>
   simp only [oZ_none]
   go_wp2_with (first
    | (go_at_call 413;refine hup.mono ?_;rintro e w' ⟨rfl,rfl⟩)
    | (go_at_call 412;refine hrq.mono ?_;rintro e w' ⟨rfl,n2,rfl⟩)
    | (go_at_call 410;refine (hkid _).mono ?_;rintro e w' ⟨rfl,rfl⟩)
    | (go_at_call 407;refine (hcut n2).mono ?_;rintro e w5 ⟨rfl,hs5⟩;have hmd:=hfin.out w5 _ _ _ (HKD.out n2 _ _ _ _ hs5) (.inl ⟨hA1.out,rfl,rfl,rfl⟩);clear hs5)
    | (go_at_call 408;refine hmd.out.mono ?_;rintro e w6 ⟨rfl,c6,e6,z⟩)
    | (go_at_call 312;refine (HDROP.out _ c6).mono ?_;rintro e w7 ⟨rfl,c7,k7⟩))
   go_ret
   exact z.out w7 c7 k7
  | some r0 =>
   simp only [oZ_some]
   obtain ⟨r1,r2,r3,r4⟩:=HCR.out r0 rfl
   have hr1:((r0:Int) != -1)=true:=by rw [bne_iff_ne];omega
   have hhang:=fun u (hu:SpineAt u pt gt cap (upd L' q0 none) R' (upd U' x none))=>sp_hangL u pt gt cap _ _ _ hu q0 r0 hq0 r1 (fun e=>r2 e.symm) (by rw [upd_other _ _ r3];exact r4) (upd_same _ _ _)
   go_wp2_with (first
    | (go_at_call 413;refine hup.mono ?_;rintro e w' ⟨rfl,rfl⟩)
    | (go_at_call 412;refine hrq.mono ?_;rintro e w' ⟨rfl,n2,rfl⟩)
    | (go_at_call 410;refine (hkid _).mono ?_;rintro e w' ⟨rfl,rfl⟩)
    | (go_at_call 407;refine (hcut n2).mono ?_;rintro e w4b ⟨rfl,hs4⟩;have y1:=HS.out n2 w4b hs4.2)
    | (go_at_call 414;refine (hhang w4b hs4.1).mono ?_;rintro e w5 ⟨rfl,hs5⟩;have hmd:=hfin.out w5 _ _ _ (HKD.out n2 _ _ _ _ ⟨hs5.1,hs4.2.trans hs5.2 (fun b hb=>.inl hb)⟩) (.inl ⟨hA1.out,upd_two _ _ _ _,rfl,rfl⟩);clear hs5 hs4)
    | (go_at_call 408;refine hmd.out.mono ?_;rintro e w6 ⟨rfl,c6,e6,z⟩)
    | (go_at_call 312;refine (HDROP.out _ c6).mono ?_;rintro e w7 ⟨rfl,c7,k7⟩))
   go_ret
   exact z.out w7 c7 k7
 .have hcut:=fun a=>sp_cut_R (w4.drewN a) pt gt cap L' R' U' (HDR.out a) x q0 hx hU (f2.trans a1)
  rw [a1] at hrq hkid
  simp only [Option.getD_some,Option.isSome_some,oZ_some] at hrq hkid
  have hA1:=Lib.hid a1
  clear a1 a2 f1 f2 HCH
  cases C with
  | none =>
   simp only [oZ_none]
   go_wp2_with (first
    | (go_at_call 413;refine hup.mono ?_;rintro e w' ⟨rfl,rfl⟩)
    | (go_at_call 412;refine hrq.mono ?_;rintro e w' ⟨rfl,n2,rfl⟩)
    | (go_at_call 410;refine (hkid _).mono ?_;rintro e w' ⟨rfl,rfl⟩)
    | (go_at_call 407;refine (hcut n2).mono ?_;rintro e w5 ⟨rfl,hs5⟩;have hmd:=hfin.out w5 _ _ _ (HKD.out n2 _ _ _ _ hs5) (.inr ⟨hA1.out,rfl,rfl,rfl⟩);clear hs5)
    | (go_at_call 408;refine hmd.out.mono ?_;rintro e w6 ⟨rfl,c6,e6,z⟩)
    | (go_at_call 312;refine (HDROP.out _ c6).mono ?_;rintro e w7 ⟨rfl,c7,k7⟩))
   go_ret
   exact z.out w7 c7 k7
  | some r0 =>
   simp only [oZ_some]
   obtain ⟨r1,r2,r3,r4⟩:=HCR.out r0 rfl
   have hr1:((r0:Int) != -1)=true:=by rw [bne_iff_ne];omega
   have hhang:=fun u (hu:SpineAt u pt gt cap L' (upd R' q0 none) (upd U' x none))=>sp_hang u pt gt cap _ _ _ hu q0 r0 hq0 r1 (fun e=>r2 e.symm) (by rw [upd_other _ _ r3];exact r4) (upd_same _ _ _)
   go_wp2_with (first
    | (go_at_call 413;refine hup.mono ?_;rintro e w' ⟨rfl,rfl⟩)
    | (go_at_call 412;refine hrq.mono ?_;rintro e w' ⟨rfl,n2,rfl⟩)
    | (go_at_call 410;refine (hkid _).mono ?_;rintro e w' ⟨rfl,rfl⟩)
    | (go_at_call 407;refine (hcut n2).mono ?_;rintro e w4b ⟨rfl,hs4⟩;have y1:=HS.out n2 w4b hs4.2)
    | (go_at_call 414;refine (hhang w4b hs4.1).mono ?_;rintro e w5 ⟨rfl,hs5⟩;have hmd:=hfin.out w5 _ _ _ (HKD.out n2 _ _ _ _ ⟨hs5.1,hs4.2.trans hs5.2 (fun b hb=>.inl hb)⟩) (.inr ⟨hA1.out,rfl,upd_two _ _ _ _,rfl⟩);clear hs5 hs4)
    | (go_at_call 408;refine hmd.out.mono ?_;rintro e w6 ⟨rfl,c6,e6,z⟩)
    | (go_at_call 312;refine (HDROP.out _ c6).mono ?_;rintro e w7 ⟨rfl,c7,k7⟩))
   go_ret
   exact z.out w7 c7 k7
theorem left_delete_any (c:LeftAt w F p cap hs E) (h x:Nat) (hx:isIn E h x) :
  Calls Tryz.prog 401 #[.pointer (some ⟨p,0,none⟩),.int .i64 x] w (LeftSt w F p cap hs (put E x none)):=by
 obtain ⟨pc,pt,gt,gr,gT,cT,Fc,L,R,U,top,rfl,m,tr,ng,t⟩:=id c
 cases hu:U x with
 | some q0=>exact left_delete_in w p cap hs E pc pt gt gr gT cT Fc L R U top m tr ng t h x q0 hx hu
 | none =>
  obtain ⟨g,e⟩:=t.isTop hx.some hu
  obtain rfl:g=h:=isIn_one (t.mine g x e) hx
  exact left_delete w _ p cap hs E c g x (t.first (fun y hy=>m.ce.ok.lt y hy) e)
end
section
variable (w:World) (p pc gt:Nat) (vT:Value) (Fc:List Nat) (cap hs:Nat) (E:Ent) (kid next back:Nat->Option Nat)
theorem off_end (m:PairMid w p pc gt vT Fc cap hs E kid next back) {A1 B1:Nat->Option Nat} {w1:World} (t1:TieAt w1 gt cap A1 B1 back) (k1:Keeps [gt] w w1) {x:Nat} (hx:x<cap) (hB:B1 x=next x) :
  w1.cell? ⟨p,1,none⟩=some (.slice (some ⟨gt,0,none⟩) cap cap)∧w1.cell? ⟨gt,x*3+1,none⟩=some (.int .i64 (oZ (next x)))∧w1.cell? ⟨gt,x*3+2,none⟩=some (.int .i64 (oZ (back x)))∧(∀j,w1.frozen? ⟨gt,j,none⟩=false) ∧
   (∀y,y<cap->∃z,w1.cell? ⟨gt,y*3+2,none⟩=some (.int .i64 z)) ∧
   Hid ((next x=none->∀w2:World,w2.heap=((w1.setCell ⟨gt,x*3+1,none⟩ (.int .i64 (-1))).setCell ⟨gt,x*3+2,none⟩ (.int .i64 (-1))).heap->w2.os=w1.os->w2.tape=w1.tape->w2.output=w1.output ->
     TieAt w2 gt cap A1 (upd B1 x none) (offBack next back x)∧Keeps [gt] w w2) ∧
    ∀y,next x=some y->y<cap∧y≠x->∀w2 w3:World,w2.heap=(w1.setCell ⟨gt,y*3+2,none⟩ (.int .i64 (oZ (back x)))).heap->w2.os=w1.os->w2.tape=w1.tape->w2.output=w1.output ->
     w2.cell? ⟨gt,x*3+1,none⟩=some (.int .i64 (y:Int))∧(∃z,w2.cell? ⟨gt,x*3+2,none⟩=some (.int .i64 z))∧(∀j,w2.frozen? ⟨gt,j,none⟩=false) ∧
     (w3.heap=((w2.setCell ⟨gt,x*3+1,none⟩ (.int .i64 (-1))).setCell ⟨gt,x*3+2,none⟩ (.int .i64 (-1))).heap->w3.os=w2.os->w3.tape=w2.tape->w3.output=w2.output ->
      TieAt w3 gt cap A1 (upd B1 x none) (offBack next back x)∧Keeps [gt] w w3)):=by
 have hbl:=k1.blk m.blk (by simpa using m.ne.1.1)
 refine ⟨by rw [cell_of_blk hbl];rfl,by rw [t1.b hx,hB],t1.c hx,t1.frozen,fun y hy=>⟨_,t1.c hy⟩,fun hn w2 e1 e2 e3 e4=>?_,fun y hn hy w2 w3 e1 e2 e3 e4=>?_⟩
 .have kz:Keeps [] ((w1.setCell ⟨gt,x*3+1,none⟩ (.int .i64 (-1))).setCell ⟨gt,x*3+2,none⟩ (.int .i64 (-1))) w2:=⟨e2,e3,e4,by rw [e1];exact Nat.le_refl _,fun j _ _=>by rw [e1]⟩
  have t2:=((t1.setB hx (o:=none) (by simp)).setC hx (o:=none) (by simp)).keep kz (by simp)
  refine ⟨by unfold offBack;rw [hn];exact t2,((k1.setCell (p:=⟨gt,x*3+1,none⟩) (.inl (by simp)) _).setCell (p:=⟨gt,x*3+2,none⟩) (.inl (by simp)) _).trans kz (by simp)⟩
 .have kz:Keeps [] (w1.setCell ⟨gt,y*3+2,none⟩ (.int .i64 (oZ (back x)))) w2:=⟨e2,e3,e4,by rw [e1];exact Nat.le_refl _,fun j _ _=>by rw [e1]⟩
  have t2:=(t1.setC hy.1 (o:=back x) (fun z e=>t1.wf x z (.inr (.inr e)))).keep kz (by simp)
  have k2:Keeps [gt] w w2:=(k1.setCell (p:=⟨gt,y*3+2,none⟩) (.inl (by simp)) _).trans kz (by simp)
  refine ⟨by rw [t2.b hx,hB,hn];rfl,⟨_,t2.c hx⟩,t2.frozen,fun f1 f2 f3 f4=>?_⟩
  have kz2:Keeps [] ((w2.setCell ⟨gt,x*3+1,none⟩ (.int .i64 (-1))).setCell ⟨gt,x*3+2,none⟩ (.int .i64 (-1))) w3:=⟨f2,f3,f4,by rw [f1];exact Nat.le_refl _,fun j _ _=>by rw [f1]⟩
  have t3:=((t2.setB hx (o:=none) (by simp)).setC hx (o:=none) (by simp)).keep kz2 (by simp)
  exact ⟨by unfold offBack;rw [hn];exact t3,((k2.setCell (p:=⟨gt,x*3+1,none⟩) (.inl (by simp)) _).setCell (p:=⟨gt,x*3+2,none⟩) (.inl (by simp)) _).trans kz2 (by simp)⟩
theorem off_calls (m:PairMid w p pc gt vT Fc cap hs E kid next back) (K:Nat->List Nat) (U:Nat->Option Nat) (t:Ties K kid next back U) (hirr:∀y,U y≠some y) (q x i:Nat) (e:(K q)[i]?=some x) (hx:x<cap) :
  Calls Tryz.prog 377 #[.pointer (some ⟨p,0,none⟩),.int .i64 x] w fun e w'=>e=.returned (.tuple #[])∧TieAt w' gt cap (offKid kid next q x) (offNext kid next back q x) (offBack next back x)∧Keeps [gt] w w':=by
 have hux:=t.above e
 have hxq:x≠q:=fun c=>hirr x (c ▸ hux)
 have hn1:∀y,next x=some y->y<cap∧y≠x:=fun y c=>by
  refine ⟨m.ti.wf x y (.inr (.inl c)),fun d=>?_⟩
  have h1:=t.nx q i x e
  rw [c,d] at h1
  have:=nodup_at (t.nd q) e h1.symm
  omega
 have c1:=m.c1
 have d1:=m.ti.b hx
 have d2:=m.ti.c hx
 have hx3:(x:Int)<(cap:Int):=by omega
 rcases t.backAt e with ⟨_,hb,hk⟩|⟨h0,hb,hk⟩
 ·
  have hq:=m.ti.wf x q (.inr (.inr hb))
  have hq3:(q:Int)<(cap:Int):=by omega
  have d3:=m.ti.a hq
  have f3:=m.ti.frozen (q*3)
  rw [hb,oZ_some] at d2
  rw [hk,oZ_some] at d3
  have t1:=m.ti.setA hq (o:=next x) (fun y c=>(hn1 y c).1)
  have k1:Keeps [gt] w (w.setCell ⟨gt,q*3,none⟩ (.int .i64 (oZ (next x)))):=(Keeps.refl _ _).setCell (p:=⟨gt,q*3,none⟩) (.inl (by simp)) _
  have hpost:∀u:World,u.heap=(w.setCell ⟨gt,q*3,none⟩ (.int .i64 (oZ (next x)))).heap->u.os=w.os->u.tape=w.tape->u.output=w.output->TieAt u gt cap (upd kid q (next x)) next back∧Keeps [gt] w u:=fun u e1 e2 e3 e4=>by
   have kz:Keeps [] (w.setCell ⟨gt,q*3,none⟩ (.int .i64 (oZ (next x)))) u:=⟨e2,e3,e4,by rw [e1];exact Nat.le_refl _,fun j _ _=>by rw [e1]⟩
   exact ⟨t1.keep kz (by simp),k1.trans kz (by simp)⟩
  have HP:=Lib.hid hpost
  have HE:=Lib.hid (fun u (ht:TieAt u gt cap (upd kid q (next x)) next back) (hk:Keeps [gt] w u)=>off_end w p pc gt vT Fc cap hs E kid next back m ht hk hx rfl)
  have HOK:Hid (offKid kid next q x=upd kid q (next x)∧offNext kid next back q x=upd next x none):=Lib.hid ⟨by unfold offKid;rw [if_pos hk],by unfold offNext;rw [if_pos hk]⟩
  rw [HOK.out.1,HOK.out.2]
  rcases (show next x=none∨∃y,next x=some y from by cases next x<;>simp) with hn|⟨y,hn⟩
  .have hoz:oZ (next x)=-1:=by rw [hn];rfl
   rw [hoz] at d1 HP
   have HN:=Lib.hid hn
   have HOZ:=Lib.hid hoz
   have HB:=Lib.hid hb
   clear t1 k1 hpost hb hk hn hn1 t m hirr hux e HOK hoz
   go_enter Tryz.func377,Tryz.ntmps377
   go_upto_region 1 with fail
   go_region
   all_goals
    go_upto_region 2 with fail
    go_region
    all_goals
     obtain ⟨w1,hw1⟩:∃w1,w1=(w.setCell ⟨gt,q*3,none⟩ (.int .i64 (-1))).drew.drew:=⟨_,rfl⟩
     obtain ⟨t1,k1⟩:=HP.out w1 (by rw [hw1];rfl) (by rw [hw1];rfl) (by rw [hw1];rfl) (by rw [hw1];rfl)
     obtain ⟨y1,y2,y3,y4,y5,y6⟩:=HE.out w1 t1 k1
     rw [HOZ.out] at y2
     rw [HB.out] at y3
     rw [<-hw1]
     have g1:=y4 (x*3+1)
     have g2:=y4 (x*3+2)
     simp only [oZ_some] at y3
     have HZ:=Lib.hid (y6.out.1 HN.out)
     clear hw1 t1 k1 y4 y5 y6 c1 d1 d2 d3 f3 HP HE
     go_wp2_with fail
     first|go_end0|refine bodyPost_ret (results_none rfl _ _ _) rfl ?_
     exact ⟨rfl,HZ.out _ rfl rfl rfl rfl⟩
  .have hoz:oZ (next x)=(y:Int):=by rw [hn];rfl
   rw [hoz] at d1 HP
   have HN:=Lib.hid hn
   have HOZ:=Lib.hid hoz
   have HB:=Lib.hid hb
   obtain ⟨hyc,hyx⟩:=hn1 y hn
   have hy3:(y:Int)<(cap:Int):=by omega
   have hyb:((y:Int) != -1)=true:=by rw [bne_iff_ne];omega
   clear t1 k1 hpost hb hk hn hn1 t m hirr hux e HOK hoz
   go_enter Tryz.func377,Tryz.ntmps377
   go_upto_region 1 with fail
   go_region
   all_goals
    go_upto_region 2 with fail
    go_region
    all_goals
     obtain ⟨w1,hw1⟩:∃w1,w1=(w.setCell ⟨gt,q*3,none⟩ (.int .i64 (y:Int))).drew.drew:=⟨_,rfl⟩
     obtain ⟨t1,k1⟩:=HP.out w1 (by rw [hw1];rfl) (by rw [hw1];rfl) (by rw [hw1];rfl) (by rw [hw1];rfl)
     obtain ⟨y1,y2,y3,y4,y5,y6⟩:=HE.out w1 t1 k1
     rw [HOZ.out] at y2
     rw [HB.out] at y3
     rw [<-hw1]
     have g1:=y4 (x*3+1)
     have g2:=y4 (x*3+2)
     obtain ⟨z,y7⟩:=y5 y hyc
     have g3:=y4 (y*3+2)
     simp only [oZ_some] at y3
     have HZ:=Lib.hid (y6.out.2 y HN.out ⟨hyc,hyx⟩)
     rw [HB.out,oZ_some] at HZ
     clear hw1 t1 k1 y4 y5 y6 c1 d1 d2 d3 f3 HP HE
     go_upto_region 5 with fail
     go_region
     all_goals
      obtain ⟨w2,hw2⟩:∃w2,w2=(w1.setCell ⟨gt,y*3+2,none⟩ (.int .i64 (q:Int))).drew:=⟨_,rfl⟩
      have hz:=fun w3=>HZ.out w2 w3 (by rw [hw2];rfl) (by rw [hw2];rfl) (by rw [hw2];rfl) (by rw [hw2];rfl)
      obtain ⟨v1,⟨v2,v3⟩,v4,_⟩:=hz w2
      have v5:=v4 (x*3+1)
      have v6:=v4 (x*3+2)
      have HZ2:=Lib.hid (fun w3=>(hz w3).2.2.2)
      rw [<-hw2]
      clear hw2 hz v4 HZ y1 y2 y3 y7 g1 g2 g3
      go_wp2_with fail
      first|go_end0|refine bodyPost_ret (results_none rfl _ _ _) rfl ?_
      exact ⟨rfl,HZ2.out _ rfl rfl rfl rfl⟩
 ·
  obtain ⟨b,hsb⟩:∃b,(K q)[i - 1]?=some b:=⟨_,List.getElem?_eq_getElem (by have:=(List.getElem?_eq_some_iff.1 e).1;omega)⟩
  rw [hsb] at hb
  have hbx:x≠b:=fun c=>by have:=nodup_at (t.nd q) e (c ▸ hsb);omega
  have hkb:kid b≠some x:=fun c=>by
   have h1:=t.kid b
   rw [c] at h1
   have h2:=t.above h1.symm
   rw [hux] at h2;cases h2
   exact hirr q (t.above hsb)
  have hq:=m.ti.wf x b (.inr (.inr hb))
  have hq3:(b:Int)<(cap:Int):=by omega
  have d3:=m.ti.a hq
  have hkb2:(oZ (kid b)==(x:Int))=false:=by
   rw [beq_eq_false_iff_ne]
   intro c
   cases hc:kid b with
   | none=>rw [hc,oZ_none] at c;omega
   | some r=>rw [hc,oZ_some] at c;have e2:r=x:=(by omega);exact hkb (by rw [hc,e2])
  have d4:=m.ti.b hq
  have f3:=m.ti.frozen (b*3+1)
  rw [hb,oZ_some] at d2
  have t1:=m.ti.setB hq (o:=next x) (fun y c=>(hn1 y c).1)
  have k1:Keeps [gt] w (w.setCell ⟨gt,b*3+1,none⟩ (.int .i64 (oZ (next x)))):=(Keeps.refl _ _).setCell (p:=⟨gt,b*3+1,none⟩) (.inl (by simp)) _
  have hpost:∀u:World,u.heap=(w.setCell ⟨gt,b*3+1,none⟩ (.int .i64 (oZ (next x)))).heap->u.os=w.os->u.tape=w.tape->u.output=w.output->TieAt u gt cap kid (upd next b (next x)) back∧Keeps [gt] w u:=fun u e1 e2 e3 e4=>by
   have kz:Keeps [] (w.setCell ⟨gt,b*3+1,none⟩ (.int .i64 (oZ (next x)))) u:=⟨e2,e3,e4,by rw [e1];exact Nat.le_refl _,fun j _ _=>by rw [e1]⟩
   exact ⟨t1.keep kz (by simp),k1.trans kz (by simp)⟩
  have HP:=Lib.hid hpost
  have HE:=Lib.hid (fun u (ht:TieAt u gt cap kid (upd next b (next x)) back) (hk:Keeps [gt] w u)=>off_end w p pc gt vT Fc cap hs E kid next back m ht hk hx (upd_other _ _ hbx))
  have HOK:Hid (offKid kid next q x=kid∧offNext kid next back q x=upd (upd next b (next x)) x none):=Lib.hid ⟨by unfold offKid;rw [if_neg hk],by unfold offNext;rw [if_neg hk,hb];rfl⟩
  rw [HOK.out.1,HOK.out.2]
  generalize oZ (kid b)=zk at *
  generalize oZ (next b)=zn at *
  clear hkb hsb h0
  rcases (show next x=none∨∃y,next x=some y from by cases next x<;>simp) with hn|⟨y,hn⟩
  .have hoz:oZ (next x)=-1:=by rw [hn];rfl
   rw [hoz] at d1 HP
   have HN:=Lib.hid hn
   have HOZ:=Lib.hid hoz
   have HB:=Lib.hid hb
   clear t1 k1 hpost hb hk hn hn1 t m hirr hux e HOK hoz
   go_enter Tryz.func377,Tryz.ntmps377
   go_upto_region 1 with fail
   go_region
   all_goals
    go_upto_region 3 with fail
    go_region
    all_goals
     obtain ⟨w1,hw1⟩:∃w1,w1=(w.setCell ⟨gt,b*3+1,none⟩ (.int .i64 (-1))).drew.drew:=⟨_,rfl⟩
     obtain ⟨t1,k1⟩:=HP.out w1 (by rw [hw1];rfl) (by rw [hw1];rfl) (by rw [hw1];rfl) (by rw [hw1];rfl)
     obtain ⟨y1,y2,y3,y4,y5,y6⟩:=HE.out w1 t1 k1
     rw [HOZ.out] at y2
     rw [HB.out] at y3
     rw [<-hw1]
     have g1:=y4 (x*3+1)
     have g2:=y4 (x*3+2)
     simp only [oZ_some] at y3
     have HZ:=Lib.hid (y6.out.1 HN.out)
     clear hw1 t1 k1 y4 y5 y6 c1 d1 d2 d3 f3 HP HE
     go_wp2_with fail
     first|go_end0|refine bodyPost_ret (results_none rfl _ _ _) rfl ?_
     exact ⟨rfl,HZ.out _ rfl rfl rfl rfl⟩
  .have hoz:oZ (next x)=(y:Int):=by rw [hn];rfl
   rw [hoz] at d1 HP
   have HN:=Lib.hid hn
   have HOZ:=Lib.hid hoz
   have HB:=Lib.hid hb
   obtain ⟨hyc,hyx⟩:=hn1 y hn
   have hy3:(y:Int)<(cap:Int):=by omega
   have hyb:((y:Int) != -1)=true:=by rw [bne_iff_ne];omega
   clear t1 k1 hpost hb hk hn hn1 t m hirr hux e HOK hoz
   go_enter Tryz.func377,Tryz.ntmps377
   go_upto_region 1 with fail
   go_region
   all_goals
    go_upto_region 3 with fail
    go_region
    all_goals
     obtain ⟨w1,hw1⟩:∃w1,w1=(w.setCell ⟨gt,b*3+1,none⟩ (.int .i64 (y:Int))).drew.drew:=⟨_,rfl⟩
     obtain ⟨t1,k1⟩:=HP.out w1 (by rw [hw1];rfl) (by rw [hw1];rfl) (by rw [hw1];rfl) (by rw [hw1];rfl)
     obtain ⟨y1,y2,y3,y4,y5,y6⟩:=HE.out w1 t1 k1
     rw [HOZ.out] at y2
     rw [HB.out] at y3
     rw [<-hw1]
     have g1:=y4 (x*3+1)
     have g2:=y4 (x*3+2)
     obtain ⟨z,y7⟩:=y5 y hyc
     have g3:=y4 (y*3+2)
     simp only [oZ_some] at y3
     have HZ:=Lib.hid (y6.out.2 y HN.out ⟨hyc,hyx⟩)
     rw [HB.out,oZ_some] at HZ
     clear hw1 t1 k1 y4 y5 y6 c1 d1 d2 d3 f3 HP HE
     go_upto_region 5 with fail
     go_region
     all_goals
      obtain ⟨w2,hw2⟩:∃w2,w2=(w1.setCell ⟨gt,y*3+2,none⟩ (.int .i64 (b:Int))).drew:=⟨_,rfl⟩
      have hz:=fun w3=>HZ.out w2 w3 (by rw [hw2];rfl) (by rw [hw2];rfl) (by rw [hw2];rfl) (by rw [hw2];rfl)
      obtain ⟨v1,⟨v2,v3⟩,v4,_⟩:=hz w2
      have v5:=v4 (x*3+1)
      have v6:=v4 (x*3+2)
      have HZ2:=Lib.hid (fun w3=>(hz w3).2.2.2)
      rw [<-hw2]
      clear hw2 hz v4 HZ y1 y2 y3 y7 g1 g2 g3
      go_wp2_with fail
      first|go_end0|refine bodyPost_ret (results_none rfl _ _ _) rfl ?_
      exact ⟨rfl,HZ2.out _ rfl rfl rfl rfl⟩
end
end Go.Proofs.YtkdbjelhkfdfjaaGreatDoor

