/-
  Contracts that the law rests on. Conditions: none.
-/
import Derived.Test.YtkdbjelhkfdfjaaGreatDoorLo11
import Derived.Test.YtkdbjelhkfdfjaaGreatDoorLo23
set_option linter.unusedVariables false
set_option maxRecDepth 100000
set_option maxHeartbeats 32000000
namespace Go.Proofs.YtkdbjelhkfdfjaaGreatDoor
open Go.RowKit
section
variable (w:World) (pn pc:Nat) (Fc:List Nat) (cap hs:Nat) (E:Ent) (p d:Nat) (ao:Option Addr) (ca mb n:Nat)
def DownDone (v:Nat->Nat) (e:Ending) (w':World):Prop :=
 ∃v':Nat->Nat,e=.returned (.tuple #[])∧RowFull w' p d ao ca mb n v'∧OrdAt w' pn pc Fc cap hs E∧Inj v' n∧Same v v' n∧Keeps (rfp p mb ao++Fc) w w'∧Heap' d (ahead E) v' n
theorem row_down (v:Nat->Nat) (i:Nat) (o:Option Int) (hr:RowHole w p d ao ca mb n v i o) (ho:OrdAt w pn pc Fc cap hs E) (hv:Inj v n) (hE:∀j,j<n->(E (v j)).isSome) (hi:i<n) (hn:n<=65536) (hd1:2<=d) (hd2:d<=16)
  (hdn:HeapDown d (ahead E) v n i) (hap:∀b∈rfp p mb ao,b∉pn::Fc) :
  Calls Tryz.prog 325 #[.pointer (some ⟨p,0,none⟩),.iface 148 (.pointer (some ⟨pn,0,none⟩)),.int .i64 i,.int .i64 (v i:Nat)] w (DownDone w pn pc Fc cap hs E p d ao ca mb n v):=by
 have hbc:=ho.ce.ok.bc
 have hx:∀v':Nat->Nat,Same v v' n->∀j,j<n->v' j<cap:=fun v' s j hj=>by
  obtain ⟨k,hk,e⟩:=(s (v' j)).1 ⟨j,hj,rfl⟩
  rw [<-e];exact ho.ce.ok.lt _ (hE k hk)
 have hEs:∀v':Nat->Nat,Same v v' n->∀j,j<n->(E (v' j)).isSome:=fun v' s j hj=>by
  obtain ⟨k,hk,e⟩:=(s (v' j)).1 ⟨j,hj,rfl⟩
  rw [<-e];exact hE k hk
 obtain ⟨x,hvx⟩:∃x,v i=x:=⟨_,rfl⟩
 rw [hvx]
 have HX:=Lib.hid hx
 have HES:=Lib.hid hEs
 have HAP:=Lib.hid hap
 have HVX:=Lib.hid hvx
 have HDN:=Lib.hid hdn
 clear hx hEs hvx hdn
 go_enter Tryz.func325,Tryz.ntmps325
 go_wp2_with fail
 go_loopg [2] (n - i) (fun m s wr=>∃(i':Nat) (v':Nat->Nat),m+i'=n∧s=.int .i64 i'∧i'<n∧v' i'=x∧RowHole wr p d ao ca mb n v' i' o∧OrdAt wr pn pc Fc cap hs E∧Inj v' n∧Same v v' n∧Keeps (rfp p mb ao++Fc) w wr∧HeapDown d (ahead E) v' n i')
 case atStart=>exact ⟨i,v,by omega,rfl,hi,HVX.out,hr,ho,hv,Same.refl _ _,Keeps.refl _ _,HDN.out⟩
 case round =>
  clear hr ho hv hi hE
  obtain ⟨i',v',hk,rfl,hi',hvx',hr,ho,hv,hsame,kp,hdn⟩:=hrel
  have HK:=Lib.hid hk
  have HDN2:=Lib.hid hdn
  clear hk hdn
  have hxc:=HX.out v' hsame
  have hEv:=HES.out v' hsame
  have hord:Ord (ahead E) v' n:=ordOf hv hEv
  have hxle:v' i'<=65536:=by have:=hxc i' hi';omega
  by_cases hno:n<=d*i'+1
  .have hfst:=fun ov=>row_first_no wr p d ao ca mb n v' i' o hr hi' hn hd1 hd2 hno ov
   have hcl:=fun u (hu:RowHole u p d ao ca mb n v' i' o)=>rh_close hu hv hi' hn hxle
   rw [hvx'] at hcl
   go_upto_region 1 with (go_at_call 333;refine (hfst _).mono ?_;rintro e w' ⟨rfl,rfl⟩)
   go_quiet (fail)
   go_wp2_with (go_at_call 332;refine (hcl _ (by exact hr.keep (S:=[]) ⟨rfl,rfl,rfl,Nat.le_refl _,fun _ _ _=>rfl⟩ (by simp))).mono ?_;rintro e w1 ⟨rfl,hf1,hk1⟩)
   refine bodyPost_ret (results_none rfl _ _ _) rfl ?_
   have kp2:Keeps (rfp p mb ao++Fc) w w1:=kp.trans hk1.ofDrewN (fun b hb=>.inl (by simp [hb]))
   have ho2:OrdAt w1 pn pc Fc cap hs E:=ho.keep hk1.ofDrewN (fun b hb e=>HAP.out b e hb)
   refine ⟨v',rfl,hf1,ho2,hv,hsame,kp2,HDN2.out.stop fun j h1 h2 h3=>?_⟩
   have:=(par_range hd1 h1).1 h3
   omega
  .have hfst:=row_first_yes wr pn pc Fc cap hs E p d ao ca mb n v' i' o hr ho hv hEv hi' hn hd1 hd2 (by omega) hap
   go_upto_region 1 with (go_at_call 333;refine hfst.mono ?_;rintro e w1 ⟨q,rfl,hqn,hq0,hpq,hbest,ho1,k1⟩)
   have hr1:=hr.keep k1 (fun b hb e=>HAP.out b hb (by simp [e]))
   have hqlt:i'<q:=by rw [<-hpq];exact par_lt hd1 hq0
   have HBEST:=Lib.hid hbest
   have HPQ:=Lib.hid hpq
   clear hbest hfst hpq
   have kp1:Keeps (rfp p mb ao++Fc) w w1:=kp.trans k1 (fun b hb=>.inl (by simp [hb]))
   clear hr ho kp k1
   obtain ⟨g,hao,hgm,c1,c2⟩:=hr1.at (q:=q) hqn (by omega)
   subst hao
   have hgn:g∉pn::Fc:=HAP.out g hgm
   have hpn:p∉pn::Fc:=HAP.out p (by simp [rfp])
   have hpl:p<w1.heap.size:=hr1.lt p (by simp [rfp])
   have hgl:g<w1.heap.size:=hr1.lt g hgm
   have hal:=fun u (hu:CellsAt u Fc pc cap hs E)=>cells_ahead u Fc pc cap hs E hu (v' q) x (hEv q hqn) (by rw [<-hvx'];exact hEv i' hi')
   have hS:∀u,Keeps Fc w1 u->u.cell? ⟨p,1,none⟩=some (.slice (some ⟨g,0,none⟩) n ca)∧u.cell? ⟨g,q,none⟩=some (.int .i64 (v' q:Nat))∧u.cell? ⟨pn,0,none⟩=some (.pointer (some ⟨pc,0,none⟩)):=fun u k =>
    ⟨(World.cell?_of_block (a:=⟨p,1,none⟩) (k.block p hpl (fun e=>hpn (by simp [e])))).trans c1,(World.cell?_of_block (a:=⟨g,q,none⟩) (k.block g hgl (fun e=>hgn (by simp [e])))).trans c2,
     (World.cell?_of_block (a:=⟨pn,0,none⟩) (k.block pn ho1.lt ho1.nf)).trans ho1.c0⟩
   have kdr:Keeps Fc w1 w1.drew:=⟨rfl,rfl,rfl,Nat.le_refl _,fun _ _ _=>rfl⟩
   have hqn3:(q:Int)<(n:Int):=by omega
   have hna:=fun (u:World)=>nil_ahead 587 ⟨pn,0,none⟩ u
   have hme:=fun (u:World) (hu:u.cell? ⟨pn,0,none⟩=some (.pointer (some ⟨pc,0,none⟩)))=>dary_ahead 587 pn pc u hu
   cases hb:ahead E (v' q) x with
   | false =>
    rw [hb] at hal
    go_region_held3 (fun u=>u.cell? ⟨p,1,none⟩=some (.slice (some ⟨g,0,none⟩) n ca)∧u.cell? ⟨g,q,none⟩=some (.int .i64 (v' q:Nat))∧u.cell? ⟨pn,0,none⟩=some (.pointer (some ⟨pc,0,none⟩)))
     (first|exact hS _ kdr|exact hS _ (kdr.trans (by assumption) (fun _ h=>.inl h)))
     (first
      | (go_at_call 339;refine (hal _ (by exact ho1.ce.drew)).mono ?_;rintro e w2 ⟨rfl,hc2,hk2⟩))
    all_goals
     have k2:Keeps Fc w1 w2:=hk2.ofDrew
     have ho2:=ho1.cells hc2 k2
     have hr2:=hr1.keep k2 (fun b hb e=>HAP.out b hb (by simp [e]))
     have hcl:=rh_close hr2 hv hi' hn hxle
     rw [hvx'] at hcl
     go_wp2_with (go_at_call 332;refine hcl.mono ?_;rintro e w3 ⟨rfl,hf3,hk3⟩)
     refine bodyPost_ret (results_none rfl _ _ _) rfl ?_
     have kp2:Keeps (rfp p mb (some ⟨g,0,none⟩)++Fc) w w3:=(kp1.trans k2 (fun b hb=>.inl (by simp [hb]))).trans hk3 (fun b hb=>.inl (by simp [hb]))
     refine ⟨v',rfl,hf3,ho2.keep hk3 (fun b hb e=>HAP.out b e hb),hv,hsame,kp2,HDN2.out.stop fun j h1 h2 h3=>?_⟩
     have hiq:ahead E (v' i') (v' q)=true:=by
      rcases hord.tot i' q hi' hqn (by omega) with h|h
      .exact h
      .rw [hvx',hb] at h;cases h
     by_cases hjq:j=q
     .rw [hjq];exact hiq
     .exact ahead_tr hiq (HBEST.out j h1 h2 h3 hjq)
   | true =>
    rw [hb] at hal
    go_region_held3 (fun u=>u.cell? ⟨p,1,none⟩=some (.slice (some ⟨g,0,none⟩) n ca)∧u.cell? ⟨g,q,none⟩=some (.int .i64 (v' q:Nat))∧u.cell? ⟨pn,0,none⟩=some (.pointer (some ⟨pc,0,none⟩)))
     (first|exact hS _ kdr|exact hS _ (kdr.trans (by assumption) (fun _ h=>.inl h)))
     (first
      | (go_at_call 339;refine (hal _ (by exact ho1.ce.drew)).mono ?_;rintro e w2 ⟨rfl,hc2,hk2⟩))
    all_goals
     have k2:Keeps Fc w1 w2:=hk2.ofDrew
     have ho2:=ho1.cells hc2 k2
     have hr2:=hr1.keep k2 (fun b hb e=>HAP.out b hb (by simp [e]))
     have hmv:=rh_move hr2 hv hi' hqn (by omega) hn (by have:=hxc q hqn;omega)
     obtain ⟨d1,d2,d3⟩:=hS w2 k2
     have hst2:=HDN2.out.step hd1 hord hq0 hqn HPQ.out HBEST.out (by rw [hvx'];exact hb)
     have HST2:=Lib.hid hst2
     clear hal hS c1 c2 hk2 hc2 hst2 hb
     go_wp2_with (go_at_call 332;refine hmv.mono ?_;rintro e w3 ⟨rfl,hf3,hk3⟩)
     have kp2:Keeps (rfp p mb (some ⟨g,0,none⟩)++Fc) w w3:=(kp1.trans k2 (fun b hb=>.inl (by simp [hb]))).trans hk3 (fun b hb=>.inl (by simp [hb]))
     go_roundg (n - q)
     case measure=>have:=HK.out;omega
     case rel=>exact ⟨q,sw v' i' q,by omega,rfl,hqn,by rw [sw_right];exact hvx',hf3,ho2.keep hk3 (fun b hb e=>HAP.out b e hb),hv.sw hi' hqn,hsame.trans (Same.sw hi' hqn),kp2,HST2.out⟩
end
def halfU (U:Nat->Option Nat) (a b:Option Nat) (i j:Bool):Nat->Option Nat:=fun y=>if (i=true∧a=some y)∨(j=true∧b=some y) then none else U y
theorem halfU_none (U:Nat->Option Nat) (a b:Option Nat):halfU U a b false false=U:=by funext y;simp [halfU]
theorem halfU_left (U:Nat->Option Nat) (a b:Option Nat) (j:Bool):offU (halfU U a b false j) a=halfU U a b true j:=by
 funext y
 cases a with
 | none=>simp [offU,halfU]
 | some z =>
  by_cases c:y=z
  .subst c;simp [offU,upd_same,halfU]
  .simp [offU,upd_other _ _ c,halfU,show z≠y from fun e=>c e.symm]
theorem halfU_right (U:Nat->Option Nat) (a b:Option Nat) (i:Bool):offU (halfU U a b i false) b=halfU U a b i true:=by
 funext y
 cases b with
 | none=>simp [offU,halfU]
 | some z =>
  by_cases c:y=z
  .subst c;simp [offU,upd_same,halfU]
  .simp [offU,upd_other _ _ c,halfU,show z≠y from fun e=>c e.symm]
theorem halfU_all (U:Nat->Option Nat) (a b:Option Nat):halfU U a b true true=offU (offU U a) b:=by
 rw [<-halfU_right,<-halfU_left,halfU_none]
section
variable (w:World) (p pc pt gt mb:Nat) (Fc:List Nat) (cap hs:Nat) (E:Ent) (L R U:Nat->Option Nat) (x:Nat)
def HalfCut (i j:Bool) (w':World):Prop :=
 SkewMid w' p pc pt gt mb Fc cap hs E (if i then upd L x none else L) (if j then upd R x none else R) (halfU U (L x) (R x) i j)∧Keeps (gt::Fc) w w'
variable {w p pc pt gt mb Fc cap hs E L R U x} {w1:World} {i j:Bool}
theorem HalfCut.c1 (h:HalfCut w p pc pt gt mb Fc cap hs E L R U x i j w1):w1.cell? ⟨p,1,none⟩=some (.pointer (some ⟨pt,0,none⟩)):=SkewMid.c1 h.1
theorem HalfCut.drewN (h:HalfCut w p pc pt gt mb Fc cap hs E L R U x i j w1) (n:Nat):HalfCut w p pc pt gt mb Fc cap hs E L R U x i j (w1.drewN n):=⟨SkewMid.drewN h.1 n,h.2.drewN n⟩
theorem HalfCut.keeps (h:HalfCut w p pc pt gt mb Fc cap hs E L R U x i j w1):Keeps (gt::Fc) w w1:=h.2
theorem hc_left (h:HalfCut w p pc pt gt mb Fc cap hs E L R U x false j w1) (hx:x<cap) :
  Calls Tryz.prog 411 #[.pointer (some ⟨pt,0,none⟩),.int .i64 x] w1 fun e w'=>e=.returned (.tuple #[.int .i64 (((L x).getD 0:Nat):Int),.bool (L x).isSome])∧HalfCut w p pc pt gt mb Fc cap hs E L R U x false j w' :=
 (sp_Left w1 pt gt cap _ _ _ h.1.sp x hx).mono fun e w' ⟨h1,m,h2⟩=>⟨h1,by rw [h2];exact h.drewN m⟩
theorem hc_right (h:HalfCut w p pc pt gt mb Fc cap hs E L R U x i false w1) (hx:x<cap) :
  Calls Tryz.prog 412 #[.pointer (some ⟨pt,0,none⟩),.int .i64 x] w1 fun e w'=>e=.returned (.tuple #[.int .i64 (((R x).getD 0:Nat):Int),.bool (R x).isSome])∧HalfCut w p pc pt gt mb Fc cap hs E L R U x i false w' :=
 (sp_Right w1 pt gt cap _ _ _ h.1.sp x hx).mono fun e w' ⟨h1,m,h2⟩=>⟨h1,by rw [h2];exact h.drewN m⟩
theorem hc_looseL (h:HalfCut w p pc pt gt mb Fc cap hs E L R U x false j w1) {T:Nat->Prop} (hb:Bin E L R U T) :
  Calls Tryz.prog 432 #[.pointer (some ⟨p,0,none⟩),.int .i64 (((L x).getD 0:Nat):Int),.bool (L x).isSome] w1 fun e w'=>e=.returned (.int .i64 (oZ (L x)))∧HalfCut w p pc pt gt mb Fc cap hs E L R U x true j w':=by
 have hl:=loose_L w1 p pc pt gt mb Fc cap hs E _ _ _ h.1 x (by
  intro z e
  simp only [Bool.false_eq_true,if_false] at e
  have h1:=hb.left x z e
  have h2:=hb.lr x z e
  refine ⟨?_,?_⟩
  .unfold halfU
   rw [if_neg (by rintro (⟨c,_⟩|⟨_,c⟩);cases c;exact h2 c)]
   exact h1.1
  .cases j with
   | true=>simp [upd_same]
   | false=>simpa using h2)
 simp only [Bool.false_eq_true,if_false] at hl
 refine hl.mono fun e w' ⟨h1,h2⟩=>⟨h1,?_,h.2.trans h2.2 (by simp)⟩
 rw [halfU_left] at h2
 exact SkewMid.spine h.1 h2
theorem hc_looseR (h:HalfCut w p pc pt gt mb Fc cap hs E L R U x i false w1) {T:Nat->Prop} (hb:Bin E L R U T) :
  Calls Tryz.prog 432 #[.pointer (some ⟨p,0,none⟩),.int .i64 (((R x).getD 0:Nat):Int),.bool (R x).isSome] w1 fun e w'=>e=.returned (.int .i64 (oZ (R x)))∧HalfCut w p pc pt gt mb Fc cap hs E L R U x i true w':=by
 have hl:=loose_R w1 p pc pt gt mb Fc cap hs E _ _ _ h.1 x (by
  intro z e
  simp only [Bool.false_eq_true,if_false] at e
  have h1:=hb.right x z e
  have h2:=fun c=>hb.lr x z c e
  unfold halfU
  rw [if_neg (by rintro (⟨_,c⟩|⟨c,_⟩);exact h2 c;cases c)]
  exact h1.1)
 simp only [Bool.false_eq_true,if_false] at hl
 refine hl.mono fun e w' ⟨h1,h2⟩=>⟨h1,?_,h.2.trans h2.2 (by simp)⟩
 rw [halfU_right] at h2
 exact SkewMid.spine h.1 h2
theorem HalfCut.full (h:HalfCut w p pc pt gt mb Fc cap hs E L R U x true true w1):SkewMid w1 p pc pt gt mb Fc cap hs E (upd L x none) (upd R x none) (offU (offU U (L x)) (R x)):=by
 have:=h.1
 rw [halfU_all] at this
 simpa using this
end
section
variable (w:World) (F:List Nat) (p cap hs:Nat) (E:Ent)
def SkewOut (w:World) (F:List Nat) (p cap hs:Nat) (E':Ent) (e:Ending) (w':World):Prop:=e=.returned (.bool true)∧SkewAt w' F p cap hs E'∧Keeps F w w'
def SkewRest (w:World) (p pc pt gt mb:Nat) (Fc:List Nat) (cap hs:Nat) (E:Ent) (top Lc Rc:Nat->Option Nat) (h:Nat) (s:Value) (w':World):Prop :=
 ∃(C:Option Nat) (L' R' U':Nat->Option Nat),s=.int .i64 (oZ C)∧SkewMid w' p pc pt gt mb Fc cap hs E L' R' U'∧Zip E L' R' U' (fun y=>∃g,top g=some y) Lc Rc h [] C none∧Keeps (gt::Fc) w w'
theorem skew_delete (c:SkewAt w F p cap hs E) (h x:Nat) (hl:least E h x) :
  Calls Tryz.prog 424 #[.pointer (some ⟨p,0,none⟩),.int .i64 x] w (SkewOut w F p cap hs (put E x none)):=by
 obtain ⟨pc,pt,gt,mb,Fc,L,R,U,top,rfl,m,im,t⟩:=c
 have hn:=fun y (hy:(E y).isSome)=>m.ce.ok.lt y hy
 have hx:=hn x hl.1.some
 have htop:top h=some x:=by
  cases e:top h with
  | none=>exact absurd hl.1 (t.none_of hn e x)
  | some y=>rw [(t.first hn e).one hl]
 have hh:=m.ce.ok.heap x h
 have hhome:=cells_home w Fc pc cap hs E m.ce x h hl.1
 have hcut:=t.cut htop
 have hstart:∀n,HalfCut w p pc pt gt mb Fc cap hs E L R U x false false (w.drewN n):=fun n=>⟨by rw [halfU_none];simpa using m.drewN n,(Keeps.refl _ _).drewN n⟩
 have d0:=m.c0
 have d1:=m.c1
 have hne:=m.ne
 obtain ⟨hk0,hk1⟩:=hl.1
 have hhs:=(m.ce.ok.heap x h _ hk1).2
 have hout:∀(w3 w4 w5:World) (C:Option Nat) (L' R' U':Nat->Option Nat),SkewMid w3 p pc pt gt mb Fc cap hs E L' R' U'->Zip E L' R' U' (fun y=>∃g,top g=some y) (upd L x none) (upd R x none) h [] C none->Keeps (gt::Fc) w w3 ->
   IMap Tryz.prog 3 w4 mb (topN (upd top h C) hs) (topF (upd top h C))->Keeps [mb] w3 w4->CellsAt w5 Fc pc cap hs (put E x none)->Keeps Fc w4 w5->SkewOut w (p::pt::gt::mb::Fc) p cap hs (put E x none) (.returned (.bool true)) w5:=by
  intro w3 w4 w5 C L' R' U' m3 z3 k3 im4 k4 c5 k5
  obtain ⟨⟨a1,a2,a3,a4⟩,⟨b1,b2,b3⟩,⟨c1,c2⟩,cd⟩:=hne
  have m4:=m3.keep k4 (by simp;exact ⟨a3,b2,c1,fun b hb e=>cd (e ▸ hb)⟩)
  refine ⟨rfl,⟨pc,pt,gt,mb,Fc,L',R',U',upd top h C,rfl,m4.cells c5 k5,im4.keep k5 cd,Tops.dropped z3 htop t.mine (upd_same _ _ _) (upd_same _ _ _)⟩,?_⟩
  exact ((k3.mono (T:=p::pt::gt::mb::Fc) (fun b hb=>.inl (by simp only [List.mem_cons] at hb ⊢;rcases hb with c|c<;>simp [c]))).trans k4 (by simp)).trans k5 (fun b hb=>.inl (by simp [hb]))
 have hC:∀(w3:World) (C:Option Nat) (L' R' U':Nat->Option Nat),SkewMid w3 p pc pt gt mb Fc cap hs E L' R' U'->Zip E L' R' U' (fun y=>∃g,top g=some y) (upd L x none) (upd R x none) h [] C none->Keeps (gt::Fc) w w3 ->
   U' x=none∧(∀y,C=some y->y<cap)∧IMap Tryz.prog 3 w3 mb (topN top hs) (topF top):=fun w3 C L' R' U' m3 z3 k3 =>
  ⟨(z3.bin.top x (.inl ⟨h,htop⟩)).2,fun y e=>m3.ce.ok.lt y (z3.na y e).2.2.some,im.keep k3 (by simp;exact ⟨fun e=>hne.2.2.1.1 e.symm,hne.2.2.2⟩)⟩
 have hdrop:=fun u (hu:CellsAt u Fc pc cap hs E)=>cells_drop u Fc pc cap hs E hu x h hl.1
 have HN:=Lib.hid hne
 have HB:=Lib.hid t.bin
 have HCUT:=Lib.hid hcut
 have HOUT:=Lib.hid hout
 have HC:=Lib.hid hC
 have HSTART:=Lib.hid hstart
 have HDROP:=Lib.hid hdrop
 clear hcut hout hC hstart t im m hne htop hn hh hk1 hdrop
 go_enter Tryz.func424,Tryz.ntmps424
 go_upto_region 4 with (go_at_call 302;refine hhome.mono ?_;rintro e w1 ⟨rfl,n1,rfl⟩)
 go_cut [7] (fun s wc=>SkewRest w p pc pt gt mb Fc cap hs E top (upd L x none) (upd R x none) h s wc)
 case first =>
  have q0:=HSTART.out (n1+1)
  go_region_held3 (fun u=>u.cell? ⟨p,1,none⟩=some (.pointer (some ⟨pt,0,none⟩))) (first|exact HalfCut.c1 (by assumption)|exact SkewMid.c1 (by assumption))
   (first
    | (go_at_call 411;(with_reducible refine (hc_left (by assumption) hx).mono ?_);rintro e w2 ⟨rfl,q⟩)
    | (go_at_call 412;(with_reducible refine (hc_right (by assumption) hx).mono ?_);rintro e w2 ⟨rfl,q⟩)
    | (go_at_call 432;(with_reducible refine (hc_looseL (by assumption) HB.out).mono ?_);rintro e w2 ⟨rfl,q⟩)
    | (go_at_call 432;(with_reducible refine (hc_looseR (by assumption) HB.out).mono ?_);rintro e w2 ⟨rfl,q⟩)
    | (go_at_call 430;(with_reducible refine (skew_merge _ p pc pt gt mb Fc cap hs E _ _ _ _ _ _ h _ _ (HalfCut.full (by assumption)) HCUT.out).mono ?_);rintro e w2 ⟨C,L',R',U',rfl,m2,z2,k2⟩))
  all_goals
   go_wp2_with fail
   go_meet
   case rel=>exact ⟨C,L',R',U',rfl,m2,z2,(HalfCut.keeps (by assumption)).trans k2 (fun b hb=>.inl hb)⟩
 case rest =>
  obtain ⟨C,L',R',U',rfl,m3,z3,k3⟩:=hcut
  obtain ⟨hu,hCb,im3⟩:=HC.out wc C L' R' U' m3 z3 k3
  have hup:=sp_Up wc pt gt cap L' R' U' m3.sp x hx
  rw [hu] at hup
  simp only [Option.getD_none,Option.isSome_none] at hup
  have hcr:=skew_crown wc p pc pt gt mb Fc cap hs E L' R' U' top m3 im3 h hhs C hCb
  have e1:=m3.c1
  have e0:=m3.c0
  have M3:=Lib.hid m3
  have Z3:=Lib.hid z3
  clear hu hCb im3 z3 d0 d1
  go_wp2_with (first
   | (go_at_call 413;refine hup.mono ?_;rintro e w' ⟨rfl,rfl⟩)
   | (go_at_call 429;refine hcr.mono ?_;rintro e w4 ⟨rfl,im4,k4⟩;have c4:=M3.out.ce.keep k4 (fun b hb e=>HN.out.2.2.2 (by simp at e;exact e ▸ hb));have e4:=(World.cell?_of_block (a:=⟨p,0,none⟩) (k4.block p M3.out.lt.1 (by simpa using HN.out.1.2.2.1))).trans e0)
   | (go_at_call 312;refine (HDROP.out _ c4).mono ?_;rintro e w5 ⟨rfl,c5,k5⟩))
  go_ret
  exact HOUT.out wc w4 w5 C L' R' U' M3.out Z3.out k3 im4 k4 c5 k5
def SkewExt (w:World) (F:List Nat) (p cap hs:Nat) (E:Ent) (h:Nat) (e:Ending) (w':World):Prop :=
 ∃x:Nat,e=.returned (.tuple #[.int .i64 x,.bool true])∧least E h x∧SkewAt w' F p cap hs (put E x none)∧Keeps F w w'
theorem skew_extract (c:SkewAt w F p cap hs E) (h:Nat) (hh:h<=65536) (hi:∃y,isIn E h y) :
  Calls Tryz.prog 425 #[.pointer (some ⟨p,0,none⟩),.int .i64 h] w (SkewExt w F p cap hs E h):=by
 have hm:=skew_min_yes w F p cap hs E c h hh hi
 have hd:=fun x hl=>skew_delete w F p cap hs E c h x hl
 clear c hi
 go_enter Tryz.func425,Tryz.ntmps425
 go_wp2_with (first
  | (go_at_call 428;refine hm.mono ?_;rintro e w1 ⟨⟨x,rfl,hl⟩,rfl⟩)
  | (go_at_call 424;refine (hd _ hl).mono ?_;rintro e w2 ⟨rfl,c2,k2⟩))
 go_ret2
 exact ⟨x,rfl,hl,c2,k2⟩
end
theorem Tryz.infoInts:(Tryz.prog.info? 28).map (fun i=>(i.zero,i.size,i.bytes))=some (some (.slice none 0 0),1,24):=by kernel_rfl
section
variable (w:World) (F:List Nat) (p cap hs:Nat) (E:Ent)
def BinMade (e:Ending) (w':World):Prop:=∃F',e=.returned (.int .i64 ((hs+1:Nat):Int))∧BinAt w' F' p cap (hs+1) E∧Moved F w F' w'
theorem bin_make (c:BinAt w F p cap hs E) (hh:hs<65536):Calls Tryz.prog 344 #[.pointer (some ⟨p,0,none⟩)] w (BinMade w F p cap hs E):=by
 obtain ⟨pc,pf,gf,gr,rc,Fc,T,U,R,rfl,m,o⟩:=c
 have hlt:=m.lt
 have hmk:=cells_make w Fc pc cap hs E m.ce hh
 have d0:=m.c0
 obtain ⟨n1,n2,n3,n4,n5,n6⟩:=m.ne
 have lp:=hlt p (binF_mem.2 (.inl rfl))
 have lg:=hlt gr (binF_mem.2 (.inr (.inl rfl)))
 have hnil:(R (hs+1)).l=[]:=by
  cases e:(R (hs+1)).l with
  | nil=>rfl
  | cons x t =>
   obtain ⟨kk,hk⟩:=((o.mem (hs+1) x).1 (by simp [e])).1
   have:=m.ce.ok.heap x _ _ hk
   omega
 have hrl:(fun g=>(upd R (hs+1) BRow.nil g).l)=fun g=>(R g).l:=by
  funext g
  by_cases c:g=hs+1
  .subst c;rw [upd_same,hnil];rfl
  .rw [upd_other _ _ c]
 have hbr:bRows R (hs+1)++[BRow.nil.v]=bRows (upd R (hs+1) BRow.nil) (hs+1+1):=by
  rw [bRows_snoc (upd R (hs+1) BRow.nil) (hs+1),upd_same]
  congr 1
  unfold bRows
  refine List.map_congr_left fun i hi=>?_
  rw [List.mem_range] at hi
  rw [upd_other _ _ (by omega)]
 have hown:∀g x,(upd R (hs+1) BRow.nil g).v.ownBlock=some x->g<=hs+1->g<=hs∧(R g).v.ownBlock=some x:=fun g x e hg=>by
  by_cases c:g=hs+1
  .subst c;rw [upd_same] at e;cases e
  .rw [upd_other _ _ c] at e;exact ⟨by omega,e⟩
 have hfin:∀(w1 w4:World) (Fc':List Nat) (g' c':Nat),CellsAt w1 Fc' pc cap (hs+1) E->Moved Fc w Fc' w1->w4.ownsRow 0 28 1 (.slice (some ⟨g',0,none⟩) (hs+1+1) c') (hs+1+1) (bRows R (hs+1)++[BRow.nil.v])->Keeps [gr] w1 w4->(g'=gr∨w1.heap.size<=g') ->
   w4.frozen? ⟨p,2,none⟩=false∧w4.cell? ⟨p,2,none⟩=some (.slice (some ⟨gr,0,none⟩) (hs+1) rc)∧BinMade w (binF p gr Fc (treeF pf gf cap T) hs R) p cap hs E (.returned (.int .i64 ((hs+1:Nat):Int))) (w4.setCell ⟨p,2,none⟩ (.slice (some ⟨g',0,none⟩) (hs+1+1) c')):=by
  intro w1 w4 Fc' g' c' hc1 hm1 hr4 k4 hg4
  have s1:=hm1.keeps.size
  have s4:=k4.size
  have hcl:=hc1.lt
  have hnew:∀b,b∉Fc->b<w.heap.size->b∉Fc':=fun b a c e=>by
   rcases hm1.from' b e with f|f
   .exact a f
   .omega
  have b4:=k4.blk (hm1.keeps.blk m.blk n2) (by simpa using n1)
  have k5:Keeps [p] w4 (w4.setCell ⟨p,2,none⟩ (.slice (some ⟨g',0,none⟩) (hs+1+1) c')):=(Keeps.refl _ _).setCell (.inl (by simp)) _
  have k15:Keeps [p,gr] w1 (w4.setCell ⟨p,2,none⟩ (.slice (some ⟨g',0,none⟩) (hs+1+1) c')):=(k4.mono (T:=[p,gr]) (by simp)).trans k5 (by simp)
  have kall:Keeps (p::gr::Fc) w (w4.setCell ⟨p,2,none⟩ (.slice (some ⟨g',0,none⟩) (hs+1+1) c')):=(hm1.keeps.mono (T:=p::gr::Fc) fun b hb=>.inl (by simp [hb])).trans k15 fun b hb=>.inl (by simp at hb;rcases hb with c|c<;>simp [c])
  have hg':∀b,b<w.heap.size->b≠gr->b≠g':=fun b h1 h2=>by rcases hg4 with e|e<;>omega
  have hgF:g'∉Fc':=by
   rcases hg4 with e|e
   .rw [e];exact hnew gr n3 lg
   .exact fun f=>by have:=hcl _ f;omega
  have hgT:g'∉treeF pf gf cap T:=by
   rcases hg4 with e|e
   .rw [e];exact n5
   .intro f;have:=m.fo.lt _ f;omega
  have hQ:BinQ (w4.setCell ⟨p,2,none⟩ (.slice (some ⟨g',0,none⟩) (hs+1+1) c')) p pc pf gf g' c' Fc' cap (hs+1) E T U (upd R (hs+1) BRow.nil):=by
   refine ⟨?_,hc1.keep k15 ?_,m.fo.keep kall ?_,?_,fun g hg=>?_,⟨hg' p lp n1,hnew p n2 lp,hgF,n4,hgT,fun b hb=>?_⟩,fun g x hg e=>?_,fun g g2 x h1 h2 hne e1 e2=>?_⟩
   .rw [blk_setCell _ b4];simp
   .intro b hb e
    simp only [List.mem_cons,List.not_mem_nil,or_false] at e
    rcases e with rfl|rfl
    .exact hnew b n2 lp hb
    .exact hnew b n3 lg hb
   .intro b hb e
    simp only [List.mem_cons] at e
    rcases e with rfl|rfl|e
    .exact n4 hb
    .exact n5 hb
    .exact n6 b e hb
   .rw [<-hbr];exact k5.row hr4 (by simpa using fun e:g'=p=>hg' p lp n1 e.symm)
   .by_cases c:g=hs+1
    .subst c;rw [upd_same];exact Rg.IR.nil _ _
    .rw [upd_other _ _ c]
     refine ir_keep' (m.mem g (by omega)) kall (fun b e f=>?_)
     obtain ⟨a1,a2,a3,a4⟩:=m.own g b (by omega) e
     simp only [List.mem_cons] at f
     rcases f with f|f|f
     .exact a1 f
     .exact a2 f
     .exact a3 f
   .rcases hm1.from' b hb with c|c
    .exact n6 b c
    .intro f;have:=m.fo.lt b f;omega
   .obtain ⟨h1,h2⟩:=hown g x e hg
    obtain ⟨a1,a2,a3,a4⟩:=m.own g x h1 h2
    have lx:=hlt x (binF_mem.2 (.inr (.inr (.inr (.inr ⟨g,h1,h2⟩)))))
    exact ⟨a1,hg' x lx a2,hnew x a3 lx,a4⟩
   .obtain ⟨h3,h4⟩:=hown g x e1 h1
    obtain ⟨h5,h6⟩:=hown g2 x e2 h2
    exact m.dis g g2 x h3 h5 hne h4 h6
  refine ⟨frozen_of_blk b4,by rw [cell_of_blk b4];rfl,_,rfl,⟨pc,pf,gf,g',c',Fc',T,U,_,rfl,hQ,by rw [hrl];exact o⟩,kall.mono ?_,?_,hQ.lt⟩
  .intro b hb
   simp only [List.mem_cons] at hb
   rcases hb with c|c|c
   .exact .inl (binF_mem.2 (.inl c))
   .exact .inl (binF_mem.2 (.inr (.inl c)))
   .exact .inl (binF_mem.2 (.inr (.inr (.inl c))))
  .intro b hb
   rcases binF_mem.1 hb with c|c|c|c|⟨g,hg,c⟩
   .exact .inl (binF_mem.2 (.inl c))
   .rcases hg4 with e|e
    .exact .inl (binF_mem.2 (.inr (.inl (c.trans e))))
    .exact .inr (by omega)
   .rcases hm1.from' b c with d|d
    .exact .inl (binF_mem.2 (.inr (.inr (.inl d))))
    .exact .inr d
   .exact .inl (binF_mem.2 (.inr (.inr (.inr (.inl c)))))
   .obtain ⟨h3,h4⟩:=hown g b c hg
    exact .inl (binF_mem.2 (.inr (.inr (.inr (.inr ⟨g,h3,h4⟩)))))
 have hstep:∀(w1:World) (Fc':List Nat),Moved Fc w Fc' w1->w1.cell? ⟨p,2,none⟩=some (.slice (some ⟨gr,0,none⟩) (hs+1) rc)∧w1.ownsRow 0 28 1 (.slice (some ⟨gr,0,none⟩) (hs+1) rc) (hs+1) (bRows R (hs+1)):=fun w1 Fc' h1 =>
  ⟨by rw [cell_of_blk (h1.keeps.blk m.blk n2)];rfl,h1.keeps.row m.rows n3⟩
 have hh3:(0:Int)<((hs+1:Nat):Int):=by omega
 have HF:=Lib.hid hfin
 have HS:=Lib.hid hstep
 clear hfin hstep m o hlt hnil hrl hbr hown n1 n2 n3 n4 n5 n6 lp lg
 go_enter Tryz.func344,Tryz.ntmps344
 go_upto_region 3 with (go_at_call 318;refine hmk.mono ?_;rintro e w1 ⟨Fc',rfl,hc1,hm1⟩)
 obtain ⟨q1,q2⟩:=HS.out w1 Fc' hm1
 go_wp2_with (first
  | (at_builtin;refine wpList_push _ 28 (.slice none 0 0) (0,0) rfl (.tmp 15) (.tmp 16) 110 rfl (.slice none 0 0) 24 Tryz.underlying110 Tryz.infoInts rfl rfl _ (hs+1) (bRows R (hs+1)) (by simp [Act.eval]) q2 (by simp [Act.eval]) (by unfold maxLen;omega) (by omega) ?_;intro g' cap' w4 hr4 hk4 hf4;obtain ⟨f5,c5,hD5⟩:=HF.out w1 w4 Fc' g' cap' hc1 hm1 hr4 (by simpa [Value.ownBlock] using hk4) (by simpa [Value.ownBlock,eq_comm] using hf4);clear hr4 hk4 hf4))
 go_ret
 exact hD5
def BinNew (w:World) (n:Nat) (e:Ending) (w':World):Prop :=
 ∃(F:List Nat) (p:Nat),e=.returned (.tuple #[.pointer (some ⟨p,0,none⟩),.int .i64 0])∧BinAt w' F p n 0 (fun _=>none)∧Keeps [] w w'∧∀b∈F,w.heap.size<=b
theorem bin_new (w:World) (n:Nat) (hn:n<=65536):Calls Tryz.prog 60 #[.int .i64 n] w (BinNew w n):=by
 have hs:=fun u=>fo_new u n hn
 have hfin:∀(w1 w2:World) (Fc:List Nat) (pc pf gf:Nat),CellsAt w1 Fc pc n 0 (fun _=>none)->Keeps [] w w1->(∀b∈Fc,w.heap.size<=b)->ForestAt w2 pf gf n (fun _=>⟨none,0,[]⟩) (fun _=>none)->Keeps [] w1 w2->w1.heap.size<=pf->w1.heap.size<=gf ->
   BinNew w n (.returned (.tuple #[.pointer (some ⟨w2.heap.size+1,0,none⟩),.int .i64 0])) ((w2.alloc (.cells #[.slice none 0 0] 28 (0,0))).alloc (.cells #[.pointer (some ⟨pc,0,none⟩),.pointer (some ⟨pf,0,none⟩),.slice (some ⟨w2.heap.size,0,none⟩) 1 1] 213 (0,0))):=by
  intro w1 w2 Fc pc pf gf hc1 hk1 hF1 hf2 hk2 hp2 hg2
  have hl1:=hc1.lt
  have hl2:=hf2.lt
  have k1:=hk1.size
  have k2:=hk2.size
  have kA:Keeps [] w2 (w2.alloc (.cells #[.slice none 0 0] 28 (0,0))):=(Keeps.refl _ _).alloc _
  have kB:Keeps [] (w2.alloc (.cells #[.slice none 0 0] 28 (0,0))) ((w2.alloc (.cells #[.slice none 0 0] 28 (0,0))).alloc (.cells #[.pointer (some ⟨pc,0,none⟩),.pointer (some ⟨pf,0,none⟩),.slice (some ⟨w2.heap.size,0,none⟩) 1 1] 213 (0,0))):=(Keeps.refl _ _).alloc _
  have kk:=kA.trans kB (by simp)
  have hb0:(w2.alloc (.cells #[.slice none 0 0] 28 (0,0))).heap[w2.heap.size]?=some (.cells #[.slice none 0 0] 28 (0,0)):=blk_alloc_new _
  have hb1:=kB.blk hb0 (by simp)
  have htl:∀b∈treeF pf gf n (fun _=>(⟨none,0,[]⟩:TwigR)),b=pf∨b=gf:=fun b hb=>by
   rcases treeF_mem.1 hb with c|c|⟨z,hz,q,e,_⟩
   .exact .inl c
   .exact .inr c
   .cases e
  have lpf:pf<w2.heap.size:=hl2 pf (treeF_mem.2 (.inl rfl))
  have lgf:gf<w2.heap.size:=hl2 gf (treeF_mem.2 (.inr (.inl rfl)))
  have hQ:BinQ ((w2.alloc (.cells #[.slice none 0 0] 28 (0,0))).alloc (.cells #[.pointer (some ⟨pc,0,none⟩),.pointer (some ⟨pf,0,none⟩),.slice (some ⟨w2.heap.size,0,none⟩) 1 1] 213 (0,0))) (w2.heap.size+1) pc pf gf w2.heap.size 1 Fc n 0 (fun _=>none) (fun _=>⟨none,0,[]⟩) (fun _=>none) (fun _=>BRow.nil):=by
   refine ⟨?_,(hc1.keep hk2 (by simp)).keep kk (by simp),hf2.keep kk (by simp),?_,fun g hg=>Rg.IR.nil _ _,⟨by omega,fun e=>by have:=hl1 _ e;omega,fun e=>by have:=hl1 _ e;omega,fun e=>by rcases htl _ e with c|c<;>omega,fun e=>by rcases htl _ e with c|c<;>omega,fun b hb e=>by have:=hl1 b hb;rcases htl _ e with c|c<;>omega⟩,fun g x hg e=>(by cases e),fun g g' x h1 h2 hne e1 e2=>(by cases e1)⟩
   .have:=blk_alloc_new (w:=w2.alloc (.cells #[.slice none 0 0] 28 (0,0))) (.cells #[.pointer (some ⟨pc,0,none⟩),.pointer (some ⟨pf,0,none⟩),.slice (some ⟨w2.heap.size,0,none⟩) 1 1] 213 (0,0))
    simpa using this
   .exact ⟨by simp [bRows],.inr ⟨w2.heap.size,1,#[.slice none 0 0],rfl,Nat.zero_le _,hb1,by simp,by decide,by simp,by simp [bRows,BRow.nil,BRow.v]⟩⟩
  refine ⟨_,_,rfl,⟨pc,pf,gf,w2.heap.size,1,Fc,_,_,_,rfl,hQ,BinO.init⟩,(hk1.trans hk2 (by simp)).trans kk (by simp),fun b hb=>?_⟩
  rcases binF_mem.1 hb with c|c|c|c|⟨g,hg,c⟩
  .omega
  .omega
  .exact hF1 b c
  .rcases htl b c with d|d<;>omega
  .cases c
 have HF:=Lib.hid hfin
 clear hfin
 go_enter Tryz.func60,Tryz.ntmps60
 go_wp2_with (first
  | (go_at_call 87;refine (cells_new w n hn).mono ?_;rintro e w1 ⟨Fc,pc,rfl,hc1,hk1,hF1⟩)
  | (go_at_call 89;refine (hs w1).mono ?_;rintro e w2 ⟨pf,gf,rfl,hf2,hk2,hp2,hg2⟩))
 go_ret2
 exact HF.out _ _ _ _ _ _ hc1 hk1 hF1 hf2 hk2 hp2 hg2
end
section
variable (w:World) (pn pc:Nat) (Fc:List Nat) (cap hs:Nat) (E:Ent) (p d:Nat) (ao:Option Addr) (ca mb n:Nat)
def RoseDone (v:Nat->Nat) (e:Ending) (w':World):Prop :=
 e=.returned (.bool true)∧∃v':Nat->Nat,RowFull w' p d ao ca mb n v'∧OrdAt w' pn pc Fc cap hs E∧Inj v' n∧Same v v' n∧Heap' d (ahead E) v' n∧Keeps (rfp p mb ao++Fc) w w'
theorem row_raise (v:Nat->Nat) (i:Nat) (hr:RowFull w p d ao ca mb n v) (ho:OrdAt w pn pc Fc cap hs E) (hv:Inj v n) (hE:∀j,j<n->(E (v j)).isSome) (hi:i<n) (hn:n<=65536) (hd1:2<=d) (hd2:d<=16)
  (hat:HeapAt d (ahead E) v n i) (hdn:∀j,0<j->j<n->par d j=i->ahead E (v i) (v j)=true) (hap:∀b∈rfp p mb ao,b∉pn::Fc) :
  Calls Tryz.prog 310 #[.pointer (some ⟨p,0,none⟩),.iface 148 (.pointer (some ⟨pn,0,none⟩)),.int .i64 (v i:Nat)] w (RoseDone w pn pc Fc cap hs E p d ao ca mb n v):=by
 have hup:=row_up w pn pc Fc cap hs E p d ao ca mb n v i _ (hr.hole hv hi) ho hv hE hi hn hd1 hd2 hat hap
 have hbc:=ho.ce.ok.bc
 have hxc:=ho.ce.ok.lt (v i) (hE i hi)
 have hord:Ord (ahead E) v n:=ordOf hv hE
 have hfin:(i=0∨ahead E (v i) (v (par d i))=false)->Heap' d (ahead E) v n:=fun hst=>by
  have h1:=hat.down hd1 hord hi hst
  intro j hj hjn
  by_cases c:par d j=i
  .rw [c];exact hdn j hj hjn c
  .exact h1.1 j hj hjn c
 obtain ⟨Lm,r,hl,hlv⟩:=hr
 have c2:=r.c2
 have HM:=Lib.hid r.map
 have HPOS:=Lib.hid (posF_at hv hi)
 have HF:=Lib.hid hfin
 clear hfin r hl hlv hord ho hv hE hat hdn
 go_enter Tryz.func310,Tryz.ntmps310
 go_wp2_with (first
  | (at_lookup;refine wpList_imap_look_ok rfl _ _ rfl mapTy mb _ _ rfl HM.out ((v i:Nat):Int) rfl (WalkArith.wf_i64 (by omega)) ?_;rw [HPOS.out])
  | (go_at_call 324;refine hup.mono ?_;rintro e w7 ⟨i',v',rfl,hi',hf7,ho7,hv7,hs7,hk7,hres⟩))
 go_ret
 refine ⟨rfl,v',hf7,ho7,hv7,hs7,?_,hk7⟩
 rcases hres with ⟨_,rfl,hst⟩|⟨_,hh⟩
 .exact HF.out hst
 .exact hh
end
section
variable (w:World) (F:List Nat) (p cap hs:Nat) (E:Ent)
theorem dary_decrease (c:DaryAt w F p cap hs E) (x h q:Nat) (k k':Int) (he:E x=some (h,k,q)) (hk:k'<=k) (hw:(Lit.int .i64 k').wf=true) :
  Calls Tryz.prog 297 #[.pointer (some ⟨p,0,none⟩),.int .i64 x,.agg #[.int .i64 k',.int .u64 (q:Int)]] w (DaryIn w F p cap hs (put E x (some (h,k',q)))):=by
 have hlt:=c.lt
 obtain ⟨pc,gr,rc,d,Fc,R,rfl,m⟩:=c
 have hx:isIn E h x:=⟨_,he⟩
 have hbc:=m.ce.ok.bc
 obtain ⟨h1,h2⟩:1<=h∧h<=hs:=m.ce.ok.heap x h _ he
 have hrok:=m.ok h h1 h2
 obtain ⟨i,hi,hvi⟩:=(hrok.mem x).1 hx
 have hnle:(R h).n<=65536:=by
  have h5:=nodup_len (n:=cap) (l:=(List.range (R h).n).map (R h).v)
   (List.pairwise_map.2 (List.Pairwise.imp_of_mem (fun {a b} ha hb hne e=>hne (hrok.inj a b (List.mem_range.1 ha) (List.mem_range.1 hb) e)) List.nodup_range)) (by
    intro y hy
    obtain ⟨j,hj,rfl⟩:=List.mem_map.1 hy
    exact m.ce.ok.lt _ (m.isSome h1 h2 j (List.mem_range.1 hj)))
  simp at h5
  omega
 obtain ⟨w0,hw0⟩:∃w0,w0=w.alloc (.cells #[.int .i64 k',.int .u64 (q:Int)] 104 (0,0)):=⟨_,rfl⟩
 obtain ⟨eb,heb⟩:∃eb,eb=w.heap.size:=⟨_,rfl⟩
 have k0:Keeps [] w w0:=by rw [hw0];exact (Keeps.refl _ _).alloc _
 have b0:w0.heap[eb]?=some (.cells #[.int .i64 k',.int .u64 (q:Int)] 104 (0,0)):=by rw [hw0,heb];exact blk_alloc_new _
 have e0:w0.cell? ⟨eb,0,none⟩=some (.int .i64 k'):=by rw [cell_of_blk b0];rfl
 have e1:w0.cell? ⟨eb,1,none⟩=some (.int .u64 (q:Int)):=by rw [cell_of_blk b0];rfl
 have m0:=m.keep k0 (by simp)
 have d0:=m0.c0
 have hlow:=cells_lower w0.drew Fc pc cap hs E (m0.ce.keep ((Keeps.refl [] w0).drew) (by simp)) x h q k k' he hk hw
 have hE':∀j,j<(R h).n->(put E x (some (h,k',q)) ((R h).v j)).isSome:=fun j hj=>by rw [some_low he];exact m.isSome h1 h2 j hj
 have hinx:∀j,j<(R h).n->j≠i->(R h).v j≠x:=fun j hj hne e=>hne (hrok.inj j i hj hi (e.trans hvi.symm))
 have hat:HeapAt d (ahead (put E x (some (h,k',q)))) (R h).v (R h).n i:=by
  refine ⟨fun j hj hn hne hp=>?_,fun j hj hn hp h0=>?_⟩
  .have:=par_lt m.d1 hj
   rw [ahead_put_other (hinx _ (by omega) hp) (hinx _ hn hne)];exact hrok.heap j hj hn
  .have l1:=par_lt m.d1 h0
   have l2:=par_lt m.d1 hj
   have a:=hrok.heap i h0 hi
   have b:=hrok.heap j hj hn
   rw [hp] at b
   rw [ahead_put_other (hinx _ (by omega) (by omega)) (hinx _ hn (by omega))]
   exact ahead_tr a b
 have hdn:∀j,0<j->j<(R h).n->par d j=i->ahead (put E x (some (h,k',q))) ((R h).v i) ((R h).v j)=true:=fun j hj hn hp=>by
  have l2:=par_lt m.d1 hj
  have b:=hrok.heap j hj hn
  rw [hp] at b
  exact ahead_low he hk (hinx _ hn (by omega)) b
 have hmid:∀w1,CellsAt w1 Fc pc cap hs (put E x (some (h,k',q)))->Keeps Fc w0.drew w1->∀a,(w1.drewN a).cell? ⟨p,2,none⟩=some (.slice (some ⟨gr,0,none⟩) (hs+1) rc)∧(w1.drewN a).cell? ⟨gr,h,none⟩=some (.pointer (some ⟨(R h).p,0,none⟩))∧(w1.drewN a).cell? ⟨p,0,none⟩=some (.pointer (some ⟨pc,0,none⟩)) ∧
   Hid (Calls Tryz.prog 310 #[.pointer (some ⟨(R h).p,0,none⟩),.iface 148 (.pointer (some ⟨p,0,none⟩)),.int .i64 (x:Nat)] (w1.drewN a) (RoseDone (w1.drewN a) p pc Fc cap hs (put E x (some (h,k',q))) (R h).p d (R h).ao (R h).ca (R h).mb (R h).n (R h).v)):=by
  intro w1 hc1 k1 a
  have kk:Keeps Fc w w1:=((k0.trans ((Keeps.refl [] w0).drew) (by simp)).mono (by simp)).trans k1 (fun b hb=>.inl hb)
  have ka:Keeps Fc w (w1.drewN a):=kk.drewN a
  have hp:=ka.blk m.blk m.ne.2.1
  have hrow:=ka.row m.rows m.ne.2.2
  have hc2:=hc1.drewN a
  refine ⟨by rw [cell_of_blk hp];rfl,?_,by rw [cell_of_blk hp];rfl,?_⟩
  .rw [hrow.cellAt h (by omega)];exact rowsV_at _ _ _ h1 (by omega)
  .have:=row_raise (w1.drewN a) p pc Fc cap hs (put E x (some (h,k',q))) (R h).p d (R h).ao (R h).ca (R h).mb (R h).n (R h).v i ((m.mem h h1 h2).keep ka fun b hb e=>(m.own h h1 h2 b hb).2.2 e) ⟨by rw [cell_of_blk hp];rfl,lt_of_block hp,m.ne.2.1,hc2⟩ hrok.inj hE' hi hnle m.d1 m.d2 hat hdn (m.apart h1 h2)
   rw [hvi] at this
   exact this
 have hfin:∀(w1 w3:World) (a:Nat),Keeps Fc w0.drew w1->∀e,RoseDone (w1.drewN a) p pc Fc cap hs (put E x (some (h,k',q))) (R h).p d (R h).ao (R h).ca (R h).mb (R h).n (R h).v e w3->e=.returned (.bool true)∧Hid (DaryIn w (nestF p gr Fc hs fun g=>(R g).fp) p cap hs (put E x (some (h,k',q))) (.returned (.bool true)) w3):=by
  rintro w1 w3 a k1 e ⟨rfl,v',hf2,ho2,hv2,hs2,hh2,k2⟩
  refine ⟨rfl,?_⟩
  have kk:Keeps Fc w w1:=((k0.trans ((Keeps.refl [] w0).drew) (by simp)).mono (by simp)).trans k1 (fun b hb=>.inl hb)
  have hch:=m.change h1 h2 (w':=w3) (E':=put E x (some (h,k',q))) (r:={ p:=(R h).p,mb:=(R h).mb,ao:=(R h).ao,ca:=(R h).ca,n:=(R h).n,v:=v' }) (((kk.drewN a).mono (T:=(R h).fp++Fc) (fun b hb=>.inl (by simp [hb]))).trans k2 fun b hb=>.inl hb) rfl
   (fun b hb=>.inl hb) ho2.ce hf2
   ⟨hv2,fun z=>by
    show _↔∃j,j<(R h).n∧v' j=z
    rw [hs2 z,isIn_low he,hrok.mem z],hh2⟩
   (fun g' a b c=>(m.ok g' a b).other m.d1 (fun j hj e=>c (isIn_one (((m.ok g' a b).mem x).2 ⟨j,hj,e⟩) hx)) fun y=>isIn_low he k' g' y)
  exact ⟨rfl,_,⟨pc,gr,rc,d,Fc,_,rfl,hch.1⟩,hch.2⟩
 have hhome:=fun u (hu:CellsAt u Fc pc cap hs (put E x (some (h,k',q))))=>cells_home u Fc pc cap hs _ hu x h ((isIn_low he k' h x).2 hx)
 have hhs3:(h:Int)<((hs+1:Nat):Int):=by omega
 have hhs4:(h:Int)<(hs:Int)+1:=by omega
 have HF:=Lib.hid hfin
 have HM:=Lib.hid hmid
 have HH:=Lib.hid hhome
 clear hfin hmid hhome hat hdn hE' hinx m m0 hrok hvi hlt hx he b0 k0 hnle hi
 go_enter Tryz.func297,Tryz.ntmps297
 go_upto_region 1 with fail
 rw [<-hw0,<-heb]
 clear hw0 heb
 go_region_law (first
  | (go_simp;go_at_call 309;refine hlow.mono ?_;rintro e w1 ⟨rfl,hc1,k1⟩;have HC1:=Lib.hid hc1;have K1:=Lib.hid k1;clear hc1 k1))
 all_goals
  clear hlow e0 e1 d0
  obtain ⟨_,_,d0,_⟩:=HM.out w1 HC1.out K1.out 0
  have d0:w1.cell? ⟨p,0,none⟩=some (.pointer (some ⟨pc,0,none⟩)):=d0
  go_upto_region 4 with (go_at_call 302;refine (HH.out w1 HC1.out).mono ?_;rintro e w2 ⟨rfl,a,rfl⟩;obtain ⟨d2,d3,d0',hra⟩:=HM.out w1 HC1.out K1.out a;clear d0)
  go_wp2_with (go_at_call 310;refine hra.out.mono ?_;intro e w3 hd;obtain ⟨rfl,z⟩:=HF.out w1 w3 a K1.out e hd;clear hd)
  go_ret
  exact z.out
end
end Go.Proofs.YtkdbjelhkfdfjaaGreatDoor

