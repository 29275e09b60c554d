/-
  Contracts that the law rests on. Conditions: none.
-/
import Derived.Test.YtkdbjelhkfdfjaaGreatDoorLo10
set_option linter.unusedVariables false
set_option maxRecDepth 100000
set_option maxHeartbeats 32000000
namespace Go.Proofs.YtkdbjelhkfdfjaaGreatDoor
open Go.RowKit
theorem par_range {d i j:Nat} (hd:2<=d) (hj:0<j):par d j=i↔d*i+1<=j∧j<=d*i+d:=by
 unfold par
 constructor
 .rintro rfl
  have h1:=Nat.div_add_mod (j - 1) d
  have h2:=Nat.mod_lt (j - 1) (show 0<d by omega)
  omega
 .rintro ⟨h1,h2⟩
  refine Nat.div_eq_of_lt_le ?_ ?_
  .rw [Nat.mul_comm];omega
  .rw [Nat.succ_mul,Nat.mul_comm];omega
section
variable (w:World) (pn pc:Nat) (Fc:List Nat) (cap hs:Nat) (E:Ent) (p d:Nat) (ao:Option Addr) (ca mb n:Nat)
def FirstDone (v:Nat->Nat) (i:Nat) (e:Ending) (w':World):Prop :=
 ∃b:Nat,e=.returned (.tuple #[.int .i64 b,.bool true])∧b<n∧0<b∧par d b=i∧(∀j,0<j->j<n->par d j=i->j≠b->ahead E (v b) (v j)=true)∧OrdAt w' pn pc Fc cap hs E∧Keeps Fc w w'
theorem row_first_no (v:Nat->Nat) (i:Nat) (o:Option Int) (hr:RowHole w p d ao ca mb n v i o) (hi:i<n) (hn:n<=65536) (hd1:2<=d) (hd2:d<=16) (hno:n<=d*i+1) (ov:Value) :
  Calls Tryz.prog 333 #[.pointer (some ⟨p,0,none⟩),ov,.int .i64 i] w fun e w'=>e=.returned (.tuple #[.int .i64 0,.bool false])∧w=w':=by
 have hD:=hr.c0
 have c1:=hr.c1
 have hc:=child_calls w d i 1 hd1 hd2 (by omega) (by omega) (by omega)
 clear hr
 generalize hb:d*i+1=b at *
 have h3:(n:Int)<=(b:Int):=by omega
 go_enter Tryz.func333,Tryz.ntmps333
 go_wp2_with (go_at_call 337;refine hc.mono ?_;rintro e w' ⟨rfl,rfl⟩)
 go_ret2
 exact ⟨rfl,rfl⟩
theorem row_first_yes (v:Nat->Nat) (i:Nat) (o:Option Int) (hr:RowHole w p d ao ca mb n v i o) (ho:OrdAt w pn pc Fc cap hs E) (hv:Inj v n) (hE:∀j,j<n->(E (v j)).isSome) (hi:i<n) (hn:n<=65536) (hd1:2<=d) (hd2:d<=16)
  (hyes:d*i+1<n) (hap:∀b∈rfp p mb ao,b∉pn::Fc) :
  Calls Tryz.prog 333 #[.pointer (some ⟨p,0,none⟩),.iface 148 (.pointer (some ⟨pn,0,none⟩)),.int .i64 i] w (FirstDone w pn pc Fc cap hs E d n v i):=by
 have hD:=hr.c0
 have hord:Ord (ahead E) v n:=ordOf hv hE
 have hiq:i<d*i+1:=by have:1*i<=d*i:=Nat.mul_le_mul_right i (by omega);omega
 obtain ⟨g,hao,hgm,c1,_⟩:=hr.at (q:=d*i+1) hyes (by omega)
 subst hao
 have hgn:g∉pn::Fc:=hap g hgm
 have hpn:p∉pn::Fc:=hap p (by simp [rfp])
 have hpl:p<w.heap.size:=hr.lt p (by simp [rfp])
 have hgl:g<w.heap.size:=hr.lt g hgm
 have hcell:∀q,q<n->q≠i->w.cell? ⟨g,q,none⟩=some (.int .i64 (v q:Nat)):=fun q hq hqi=>by
  obtain ⟨g',e,_,_,c⟩:=hr.at (q:=q) hq hqi
  cases e;exact c
 have hc:=child_calls w d i 1 hd1 hd2 (by omega) (by omega) (by omega)
 have hch:=fun (u:World) (k:Nat) (h1:1<=k) (h2:k<=d)=>child_calls u d i k hd1 hd2 (by omega) h1 h2
 have HORD:=Lib.hid hord
 have HCELL:=Lib.hid hcell
 have HE:=Lib.hid hE
 have HCH:=Lib.hid hch
 have HO:=Lib.hid ho
 have hplt:=ho.lt
 have hnf:=ho.nf
 have o0:=ho.c0
 clear hord hcell hE hch hr
 generalize hB:d*i=B at *
 have h3:¬(n:Int)<=((B+1:Nat):Int):=by omega
 go_enter Tryz.func333,Tryz.ntmps333
 go_wp2_with (go_at_call 337;refine hc.mono ?_;rintro e w' ⟨rfl,rfl⟩)
 go_loopg [8,10] (d - 1) (fun m s t wr=>∃b k:Nat,m+k=d+1∧s=.int .i64 b∧t=.int .i64 k∧2<=k∧B+1<=b∧b<B+k∧b<n∧(∀j,j<n->B+1<=j->j<B+k->j≠b->ahead E (v b) (v j)=true)∧OrdAt wr pn pc Fc cap hs E∧Keeps Fc w wr)
 case atStart=>exact ⟨B+1,2,by omega,rfl,rfl,by omega,by omega,by omega,by omega,fun j _ _ _ _=>by omega,HO.out,Keeps.refl _ _⟩
 case round =>
  clear hc ho
  obtain ⟨b,k,hk,rfl,rfl,hk2,hb1,hb2,hb3,hbest,ho,kp⟩:=hrel
  have HK:=Lib.hid hk
  have HBEST:=Lib.hid hbest
  clear hk hbest
  have hS:∀u,Keeps Fc w u->u.cell? ⟨p,0,none⟩=some (.int .i64 (d:Int))∧u.cell? ⟨p,1,none⟩=some (.slice (some ⟨g,0,none⟩) n ca)∧u.cell? ⟨pn,0,none⟩=some (.pointer (some ⟨pc,0,none⟩)):=fun u k =>
   ⟨(World.cell?_of_block (a:=⟨p,0,none⟩) (k.block p hpl (fun e=>hpn (by simp [e])))).trans hD,(World.cell?_of_block (a:=⟨p,1,none⟩) (k.block p hpl (fun e=>hpn (by simp [e])))).trans c1,(World.cell?_of_block (a:=⟨pn,0,none⟩) (k.block pn hplt hnf)).trans o0⟩
  have hC:∀u,Keeps Fc w u->∀q,q<n->q≠i->u.cell? ⟨g,q,none⟩=some (.int .i64 (v q:Nat)):=fun u k q hq hqi =>
   (World.cell?_of_block (a:=⟨g,q,none⟩) (k.block g hgl (fun e=>hgn (by simp [e])))).trans (HCELL.out q hq hqi)
  obtain ⟨d1,d2,d3⟩:=hS wr kp
  by_cases hkd:k<=d
  .have hcc:=HCH.out wr k (by omega) hkd
   obtain ⟨c,hc⟩:∃c,B+k=c:=⟨_,rfl⟩
   rw [hc] at hcc
   by_cases hcn:c<n
   .have e1:=hC wr kp c hcn (by omega)
    have e2:=hC wr kp b hb3 (by omega)
    have hal:=fun u (hu:CellsAt u Fc pc cap hs E)=>cells_ahead u Fc pc cap hs E hu (v c) (v b) (HE.out c hcn) (HE.out b hb3)
    have hS2:∀u,Keeps Fc wr u->u.cell? ⟨p,1,none⟩=some (.slice (some ⟨g,0,none⟩) n ca)∧u.cell? ⟨g,c,none⟩=some (.int .i64 (v c:Nat))∧u.cell? ⟨g,b,none⟩=some (.int .i64 (v b:Nat))∧u.cell? ⟨pn,0,none⟩=some (.pointer (some ⟨pc,0,none⟩)):=fun u k =>
     ⟨(hS u (kp.trans k fun _ h=>.inl h)).2.1,hC u (kp.trans k fun _ h=>.inl h) c hcn (by omega),hC u (kp.trans k fun _ h=>.inl h) b hb3 (by omega),(hS u (kp.trans k fun _ h=>.inl h)).2.2⟩
    have kdr:Keeps Fc wr wr.drew:=⟨rfl,rfl,rfl,Nat.le_refl _,fun _ _ _=>rfl⟩
    have hna:=fun (u:World)=>nil_ahead 587 ⟨pn,0,none⟩ u
    have hme:=fun (u:World) (hu:u.cell? ⟨pn,0,none⟩=some (.pointer (some ⟨pc,0,none⟩)))=>dary_ahead 587 pn pc u hu
    have hcn3:(c:Int)<(n:Int):=by omega
    have hbn3:(b:Int)<(n:Int):=by omega
    cases hba:ahead E (v c) (v b) with
    | true =>
     rw [hba] at hal
     go_upto_region 8 with (go_at_call 337;refine hcc.mono ?_;rintro e w' ⟨rfl,rfl⟩)
     go_region_held3 (fun u=>u.cell? ⟨p,1,none⟩=some (.slice (some ⟨g,0,none⟩) n ca)∧u.cell? ⟨g,c,none⟩=some (.int .i64 (v c:Nat))∧u.cell? ⟨g,b,none⟩=some (.int .i64 (v b:Nat))∧u.cell? ⟨pn,0,none⟩=some (.pointer (some ⟨pc,0,none⟩)))
      (first|exact hS2 _ kdr|exact hS2 _ (kdr.trans (by assumption) (fun _ h=>.inl h)))
      (first
       | (go_at_call 339;refine (hal _ (by exact ho.ce.drew)).mono ?_;rintro e w1 ⟨rfl,hc1,hk1⟩))
     all_goals
      have hn2:∀j,j<n->B+1<=j->j<B+(k+1)->j≠c->ahead E (v c) (v j)=true:=by
       intro j h1 h2 h3 h4
       by_cases hjb:j=b
       .rw [hjb];exact hba
       .exact ahead_tr hba (HBEST.out j h1 h2 (by omega) hjb)
      have HN2:=Lib.hid hn2
      have k1:Keeps Fc wr w1:=hk1.ofDrew
      have ho1:=ho.cells hc1 k1
      clear hn2 hal hS hC hS2 hba e1 e2 hna hme hk1
      go_wp2_with fail
      go_roundg (gk - 1)
      case measure=>have:=HK.out;omega
      case rel=>exact ⟨c,k+1,by have:=HK.out;omega,rfl,by go_num,by omega,by omega,by omega,hcn,HN2.out,ho1,kp.trans k1 (fun _ h=>.inl h)⟩
    | false =>
     rw [hba] at hal
     have hab:ahead E (v b) (v c)=true:=by
      rcases HORD.out.tot b c hb3 hcn (by omega) with h|h
      .exact h
      .rw [hba] at h;cases h
     go_upto_region 8 with (go_at_call 337;refine hcc.mono ?_;rintro e w' ⟨rfl,rfl⟩)
     go_region_held3 (fun u=>u.cell? ⟨p,1,none⟩=some (.slice (some ⟨g,0,none⟩) n ca)∧u.cell? ⟨g,c,none⟩=some (.int .i64 (v c:Nat))∧u.cell? ⟨g,b,none⟩=some (.int .i64 (v b:Nat))∧u.cell? ⟨pn,0,none⟩=some (.pointer (some ⟨pc,0,none⟩)))
      (first|exact hS2 _ kdr|exact hS2 _ (kdr.trans (by assumption) (fun _ h=>.inl h)))
      (first
       | (go_at_call 339;refine (hal _ (by exact ho.ce.drew)).mono ?_;rintro e w1 ⟨rfl,hc1,hk1⟩))
     all_goals
      have hn2:∀j,j<n->B+1<=j->j<B+(k+1)->j≠b->ahead E (v b) (v j)=true:=by
       intro j h1 h2 h3 h4
       by_cases hjb:j=c
       .rw [hjb];exact hab
       .exact HBEST.out j h1 h2 (by omega) h4
      have HN2:=Lib.hid hn2
      have k1:Keeps Fc wr w1:=hk1.ofDrew
      have ho1:=ho.cells hc1 k1
      clear hn2 hal hS hC hS2 hba hab e1 e2 hna hme hk1
      go_wp2_with fail
      go_roundg (gk - 1)
      case measure=>have:=HK.out;omega
      case rel=>exact ⟨b,k+1,by have:=HK.out;omega,rfl,by go_num,by omega,by omega,by omega,hb3,HN2.out,ho1,kp.trans k1 (fun _ h=>.inl h)⟩
   .have hcn3:decide ((c:Int)<(n:Int))=false:=by rw [decide_eq_false_iff_not];omega
    have hcn4:decide (c<n)=false:=by rw [decide_eq_false_iff_not];omega
    have hn2:∀j,j<n->B+1<=j->j<B+(k+1)->j≠b->ahead E (v b) (v j)=true:=fun j h1 h2 h3 h4=>HBEST.out j h1 h2 (by omega) h4
    have HN2:=Lib.hid hn2
    clear hn2 hS hC
    go_upto_region 8 with (go_at_call 337;refine hcc.mono ?_;rintro e w' ⟨rfl,rfl⟩)
    go_quiet (fail)
    go_wp2_with fail
    go_roundg (gk - 1)
    case measure=>have:=HK.out;omega
    case rel=>exact ⟨b,k+1,by have:=HK.out;omega,rfl,by go_num,by omega,by omega,by omega,hb3,HN2.out,ho.keep (S:=[]) ⟨rfl,rfl,rfl,Nat.le_refl _,fun _ _ _=>rfl⟩ (by simp),kp.trans (T:=[]) ⟨rfl,rfl,rfl,Nat.le_refl _,fun _ _ _=>rfl⟩ (by simp)⟩
  .obtain rfl:k=d+1:=by have:=HK.out;omega
   have hfin:∀j,0<j->j<n->par d j=i->j≠b->ahead E (v b) (v j)=true:=fun j h1 h2 h3 h4=>by
    have:=(par_range hd1 h1).1 h3
    rw [hB] at this
    exact HBEST.out j h2 (by omega) (by omega) h4
   have hpb:par d b=i:=(par_range hd1 (by omega)).2 (by rw [hB];omega)
   have HF:=Lib.hid hfin
   clear hfin hS hC
   go_wp2_with fail
   go_ret2
   exact ⟨b,rfl,hb3,by omega,hpb,HF.out,ho,kp⟩
end
end Go.Proofs.YtkdbjelhkfdfjaaGreatDoor

