/-
  Contracts that the law rests on. Conditions: none.
-/
import Derived.Test.YtkdbjelhkfdfjaaGreatDoorLo14
import Derived.Test.YtkdbjelhkfdfjaaGreatDoorLo16
set_option linter.unusedVariables false
set_option maxRecDepth 100000
set_option maxHeartbeats 32000000
namespace Go.Proofs.YtkdbjelhkfdfjaaGreatDoor
open Go.RowKit
theorem fresh_calls (w:World):Calls Tryz.prog 91 #[] w fun e w'=>e=.returned (.agg #[.int .i64 (-1),.int .i64 (-1),.int .i64 0,.bool false])∧Keeps [] w w':=by
 go_enter Tryz.func91,Tryz.ntmps91
 go_wp2_with fail
 exact bodyPost_ret (results_cell_row rfl _ _ w.heap.size 226 #[.int .i64 (-1),.int .i64 (-1),.int .i64 0,.bool false] (0,0) _ (by simp) (blk_alloc_new _) Tryz.underlying226 rfl (by kernel_rfl)) rfl ⟨rfl,(Keeps.refl _ _).alloc _⟩
section
variable (w:World) (p pc pr gn gp gt gT cT:Nat) (Fc:List Nat) (cap hs:Nat) (E:Ent) (wl:List (List Nat)) (U kid:Nat->Option Nat) (deg:Nat->Nat) (mk:Nat->Bool) (top:Nat->Option Nat)
def RaiseDone (Eo:Ent) (top:Nat->Option Nat) (h x:Nat) (w':World):Prop :=
 ∃(wl':List (List Nat)) (U' kid':Nat->Option Nat) (deg':Nat->Nat) (mk':Nat->Bool),FibQ w' p pc pr gn gp gt gT cT Fc cap hs E wl' U' kid' deg' mk' top∧FibM Eo cap (Rl wl') U' kid' deg' top h (fun _=>True)∧U' x=none∧kid' x=none∧Keeps (p::pr::gn::gp::gt::gT::Fc) w w'
theorem fib_raise_any (q:FibQ w p pc pr gn gp gt gT cT Fc cap hs E wl U kid deg mk top) (h x:Nat) (Eo:Ent) (m:FibM Eo cap (Rl wl) U kid deg top h (fun _=>True)) (hx:rootOf Eo U h x) :
  Calls Tryz.prog 389 #[.pointer (some ⟨p,0,none⟩),.int .i64 x] w fun e w'=>e=.returned (.tuple #[])∧RaiseDone w p pc pr gn gp gt gT cT Fc cap hs E Eo top h x w':=by
 have hxc:=hx.lt m
 have c2:=q.c2
 have d1:=q.k1 hxc
 have hx3:(x:Int)<(cap:Int):=by omega
 cases ek:kid x with
 | none =>
  rw [ek] at d1
  simp only [oZ_none] at d1
  have hfin:RaiseDone w p pc pr gn gp gt gT cT Fc cap hs E Eo top h x w:=⟨wl,U,kid,deg,mk,q,m,hx.2,ek,Keeps.refl _ _⟩
  have HF:=Lib.hid hfin
  clear hfin q m hx ek
  go_enter Tryz.func389,Tryz.ntmps389
  go_wp2_with fail
  refine bodyPost_ret (results_none rfl _ _ _) rfl ?_
  exact ⟨rfl,HF.out⟩
 | some k =>
  rw [ek] at d1
  simp only [oZ_some] at d1
  have hkc:=m.kidLt (m.kidS x k ek)
  have hk1:((k:Int)==-1)=false:=by rw [beq_eq_false_iff_ne];omega
  have hall:=rg_all q.rg q.cp hkc
  obtain ⟨N,P,hr⟩:=q.rg.rings
  obtain ⟨lx,rx,hlx,hxl,hax,hpx,hndx,hmx,hbx⟩:=hr.home hkc
  obtain ⟨l,hle⟩:∃l,l=Rg.allZ wl k:=⟨_,rfl⟩
  have hlz:∀z,z∈l↔U z=some x:=fun z=>by rw [hle];exact m.ringKid ek hkc z
  have hlc:∀z∈l,z<cap:=fun z hz=>m.kidLt ((hlz z).1 hz)
  have hln:l.Nodup:=by rw [hle,hax];exact hndx
  have hll:l.length<=65536:=Nat.le_trans (nodup_len hln hlc) q.cp
  rw [<-hle] at hall
  have hne:¬Rl wl x k:=fun c=>by
   have:=((m.ringRoot hx k).1 c).2
   rw [m.kidS x k ek] at this;cases this
  have hR:∀u v,u<cap->(Rl (Rg.spliceZ wl x k).1 u v↔Rl wl u v∨((Rl wl x u∨Rl wl k u)∧(Rl wl x v∨Rl wl k v))):=fun u v hu=>rl_splice hr hxc hkc hne hu
  have hm2:=m.raise hx ek hlz hR
  have c1:=q.c1
  have hlt:=q.lt
  have hq0:∀w1,Below w.heap.size w w1->FibQ w1 p pc pr gn gp gt gT cT Fc cap hs E wl (updM U (l.take 0) none) kid deg (updM mk (l.take 0) false) top∧Keeps (p::pr::gn::gp::gt::gT::Fc) w w1:=fun w1 b1=>by
   rw [List.take_zero,updM_nil,updM_nil]
   exact ⟨q.same (Below.keeps b1 (Nat.le_refl _) []),Below.keeps b1 (Nat.le_refl _) _⟩
  have hfin:∀w2 w3,FibQ w2 p pc pr gn gp gt gT cT Fc cap hs E (Rg.spliceZ wl x k).1 (updM U l none) kid deg (updM mk l false) top->Keeps (p::pr::gn::gp::gt::gT::Fc) w w2->Keeps [] w2 w3 ->
    w3.cell? ⟨p,2,none⟩=some (.slice (some ⟨gt,0,none⟩) cap cap)∧Hid (RaiseDone w p pc pr gn gp gt gT cT Fc cap hs E Eo top h x ((((w3.setCell ⟨gt,x*4,none⟩ (.int .i64 (-1))).setCell ⟨gt,x*4+1,none⟩ (.int .i64 (-1))).setCell ⟨gt,x*4+2,none⟩ (.int .i64 0)).setCell ⟨gt,x*4+3,none⟩ (.bool false))):=by
   intro w2 w3 q2 k2 k3
   have q3:=q2.same k3
   have q4:=q3.setPlace hxc (j:=0) (by decide) _ (place_up x none)
   have q5:=q4.setPlace hxc (j:=1) (by decide) _ (place_kid x none)
   have q6:=q5.setPlace hxc (j:=2) (by decide) _ (place_deg x 0)
   have q7:=q6.setPlace hxc (j:=3) (by decide) _ (place_mark x false)
   have hu0:updM U l none x=none:=by
    by_cases c:x∈l
    .exact updM_in _ _ c
    .rw [updM_out _ _ c];exact hx.2
   have hu:upd (updM U l none) x none=updM U l none:=by
    have:=hu0
    have h5:=upd_self (updM U l none) x
    rw [this] at h5;exact h5
   rw [hu] at q7
   refine ⟨q3.c2,_,_,_,_,_,q7,hm2,hu0,upd_same _ _ _,?_⟩
   exact ((((k2.trans k3 (by simp)).setCell (.inl (by simp)) _).setCell (.inl (by simp)) _).setCell (.inl (by simp)) _).setCell (.inl (by simp)) _
  have HF:=Lib.hid hfin
  have HQ:=Lib.hid hq0
  have HC:=Lib.hid hlc
  have HT:=Lib.hid hlt
  have hcp:=q.cp
  clear hfin hq0 hm2 hR hne hlz hle hln hlc hr hlx hxl hax hpx hndx hmx hbx hlt q m hx ek
  go_enter Tryz.func389,Tryz.ntmps389
  go_wp2_with (first
   | (go_at_call 391;refine hall.mono ?_;rintro e w1 ⟨v,rfl,hir,hb1⟩;obtain ⟨q1,k1⟩:=HQ.out w1 hb1;obtain ⟨ao,ca,rfl⟩:=hir.form;have Q1:=Lib.hid q1;have K1:=Lib.hid k1;have IR:=Lib.hid hir;clear q1 k1 hir hb1))
  go_loopg [24] (l.length+1) (fun n s wr=>∃i:Nat,n+i=l.length+1∧i<=l.length∧s=.int .i64 i∧FibQ wr p pc pr gn gp gt gT cT Fc cap hs E wl (updM U (l.take i) none) kid deg (updM mk (l.take i) false) top∧Rg.IR w.heap.size wr (.slice ao l.length ca) l∧Keeps (p::pr::gn::gp::gt::gT::Fc) w wr)
  case atStart=>exact ⟨0,by omega,by omega,rfl,Q1.out,IR.out,K1.out⟩
  case round =>
   clear hall c2 d1 c1 Q1 K1 IR HQ
   obtain ⟨i,hk,hin,rfl,q,hir,kp⟩:=hrel
   have HK:=Lib.hid hk
   clear hk
   by_cases hi:i<l.length
   .obtain ⟨y,hy⟩:∃y,l[i]?=some y:=⟨_,List.getElem?_eq_getElem hi⟩
    have hyc:=HC.out y (List.mem_of_getElem? hy)
    obtain ⟨gg,e,_,hgw,d0⟩:=hir.at i hi
    subst e
    have hyf:Rg.fn l i=y:=by simp [Rg.fn,List.getD,hy]
    rw [hyf] at d0
    have c2:=q.c2
    have f0:=q.ar.frozen (y*4)
    have f3:=q.ar.frozen (y*4+3)
    have e0:=q.k0 hyc
    have e3:=q.k3 hyc
    have hp:=HT.out gt (by simp)
    have hgp:p≠gt:=q.apart.1.2.2.2.1
    have hi3:(i:Int)<(l.length:Int):=by omega
    have hy3:(y:Int)<(cap:Int):=by omega
    have q1:=q.setPlace hyc (j:=0) (by decide) _ (place_up y none)
    have q2:=q1.setPlace hyc (j:=3) (by decide) _ (place_mark y false)
    have ht1:l.take (i+1)=l.take i++[y]:=by rw [List.take_add_one,hy];rfl
    rw [<-updM_snoc,<-updM_snoc,<-ht1] at q2
    have k2:Keeps (p::pr::gn::gp::gt::gT::Fc) w ((wr.setCell ⟨gt,y*4+0,none⟩ (.int .i64 (oZ none))).setCell ⟨gt,y*4+3,none⟩ (.bool false)):=(kp.setCell (.inl (by simp)) _).setCell (.inl (by simp)) _
    have hir2:Rg.IR w.heap.size ((wr.setCell ⟨gt,y*4+0,none⟩ (.int .i64 (oZ none))).setCell ⟨gt,y*4+3,none⟩ (.bool false)) (.slice (some ⟨gg,0,none⟩) l.length ca) l :=
     ir_keep' hir (S:=[gt]) (((Keeps.refl _ _).setCell (.inl (by simp)) _).setCell (.inl (by simp)) _) (fun b eb=>by
      rw [ownBlock_some] at eb;cases eb
      simp only [List.mem_singleton];omega)
    have Q2:=Lib.hid q2
    have K2:=Lib.hid k2
    have I2:=Lib.hid hir2
    clear q q1 q2 k2 kp hir hir2 ht1 hy hyf
    go_upto_region 5 with fail
    go_region_held3 (fun u=>u.cell? ⟨p,2,none⟩=some (.slice (some ⟨gt,0,none⟩) cap cap)) (first|exact c2|exact cell_set_ne hgp c2|exact cell_set_ne hgp (cell_set_ne hgp c2)) (fail)
    all_goals
     clear c2 d0 f0 f3 e0 e3
     go_wp2_with fail
     go_roundg (gk - 1)
     case measure=>have:=HK.out;omega
     case rel=>exact ⟨i+1,by have:=HK.out;omega,by omega,by go_num,Q2.out.same ⟨rfl,rfl,rfl,Nat.le_refl _,fun _ _ _=>rfl⟩,ir_keep' I2.out (S:=[]) ⟨rfl,rfl,rfl,Nat.le_refl _,fun _ _ _=>rfl⟩ (by simp),K2.out.trans (T:=[]) ⟨rfl,rfl,rfl,Nat.le_refl _,fun _ _ _=>rfl⟩ (by simp)⟩
   .obtain rfl:i=l.length:=by omega
    rw [List.take_length] at q
    have hsp:=rg_splice q.rg hcp hxc hkc
    have c1:=q.c1
    have hstep:∀w2,RgAt w2 pr gn gp cap (Rg.spliceZ wl x k).1->Keeps [gn,gp] wr w2->Hid (∀w3,Keeps [] w2 w3->w3.cell? ⟨p,2,none⟩=some (.slice (some ⟨gt,0,none⟩) cap cap)∧(∃v0 v1 v2 v3,w3.cell? ⟨gt,x*4,none⟩=some v0∧w3.cell? ⟨gt,x*4+1,none⟩=some v1∧w3.cell? ⟨gt,x*4+2,none⟩=some v2∧w3.cell? ⟨gt,x*4+3,none⟩=some v3)∧(w3.frozen? ⟨gt,x*4,none⟩=false∧w3.frozen? ⟨gt,x*4+1,none⟩=false∧w3.frozen? ⟨gt,x*4+2,none⟩=false∧w3.frozen? ⟨gt,x*4+3,none⟩=false)∧Hid (RaiseDone w p pc pr gn gp gt gT cT Fc cap hs E Eo top h x ((((w3.setCell ⟨gt,x*4,none⟩ (.int .i64 (-1))).setCell ⟨gt,x*4+1,none⟩ (.int .i64 (-1))).setCell ⟨gt,x*4+2,none⟩ (.int .i64 0)).setCell ⟨gt,x*4+3,none⟩ (.bool false)))):=fun w2 hr2 k2=>by
     intro w3 k3
     have q2:=q.ring hr2 k2
     obtain ⟨a1,a2⟩:=HF.out w2 w3 q2 (kp.trans k2 (fun b hb=>.inl (by simp only [List.mem_cons,List.not_mem_nil,or_false] at hb ⊢;rcases hb with c|c<;>simp [c]))) k3
     have q3:=q2.same k3
     exact ⟨a1,⟨_,_,_,_,q3.k0 hxc,q3.k1 hxc,q3.k2 hxc,q3.k3 hxc⟩,⟨q3.ar.frozen _,q3.ar.frozen _,q3.ar.frozen _,q3.ar.frozen _⟩,a2⟩
    have HS:=Lib.hid hstep
    clear hstep q hir kp HF
    go_upto_region 8 with (first
     | (go_at_call 396;refine hsp.mono ?_;rintro e w2 ⟨rfl,hr2,k2⟩;have hs2:=HS.out w2 hr2 k2;clear hr2 k2 HS))
    clear hsp c1
    obtain ⟨z0,_,_,_⟩:=hs2.out w2 (Keeps.refl _ _)
    have hfr:=fresh_calls w2.drew
    go_region_law (first
     | (go_simp;go_at_call 91;refine hfr.mono ?_;rintro e w3 ⟨rfl,k3⟩;obtain ⟨y0,⟨v0,v1,v2,v3,y1,y2,y3,y4⟩,⟨g0,g1,g2,g3⟩,y5⟩:=hs2.out w3 (Keeps.trans (a:=w2) (b:=w2.drew) ⟨rfl,rfl,rfl,Nat.le_refl _,fun _ _ _=>rfl⟩ k3 (by simp));clear k3))
    all_goals
     clear z0 y0 y1 y2 y3 y4 g0 g1 g2 g3
     go_wp2_with fail
     go_end0
     exact ⟨rfl,y5.out⟩
theorem fib_raise (q:FibQ w p pc pr gn gp gt gT cT Fc cap hs E wl U kid deg mk top) (h x:Nat) (m:FibM E cap (Rl wl) U kid deg top h (fun _=>True)) (e:top h=some x) :
  Calls Tryz.prog 389 #[.pointer (some ⟨p,0,none⟩),.int .i64 x] w fun e w'=>e=.returned (.tuple #[])∧RaiseDone w p pc pr gn gp gt gT cT Fc cap hs E E top h x w' :=
 fib_raise_any w p pc pr gn gp gt gT cT Fc cap hs E wl U kid deg mk top q h x E m (m.topS h x e).1
end
def tabV (tab:List (Option Nat)):List Value:=tab.map fun o=>.int .i64 (oZ o)
theorem tabV_push (tab:List (Option Nat)):tabV tab++[.int .i64 (-1)]=tabV (tab++[none]):=by simp [tabV,oZ]
theorem tabV_set (tab:List (Option Nat)) (i:Nat) (o:Option Nat):(tabV tab).set i (.int .i64 (oZ o))=tabV (tab.set i o):=by simp [tabV,List.map_set]
theorem tabV_at {tab:List (Option Nat)} {i:Nat} {o:Option Nat} (h:tab[i]?=some o):(tabV tab)[i]?=some (.int .i64 (oZ o)):=by simp [tabV,h]
def TabAt (B:Nat) (w:World) (v:Value) (tab:List (Option Nat)):Prop:=w.ownsRow B 3 1 v tab.length (tabV tab)
section
variable {w w':World} {B i g cap:Nat} {v:Value} {tab:List (Option Nat)} {S:List Nat} {o:Option Nat}
theorem TabAt.keep (h:TabAt B w v tab) (k:Keeps S w w') (hS:∀b,v.ownBlock=some b->b∉S):TabAt B w' v tab:=by
 refine ⟨h.1,?_⟩
 rcases h.2 with h0|⟨g,cap',cur,e,hb,hg,r⟩
 .exact .inl h0
 .exact .inr ⟨g,cap',cur,e,hb,k.blk hg (hS g (by rw [e];exact ownBlock_some _ _ _ _)),r⟩
theorem TabAt.own (h:TabAt B w v tab):∀b,v.ownBlock=some b->B<=b∧b<w.heap.size:=by
 intro b e
 rcases h.2 with ⟨h0,_⟩|⟨g,cap',cur,e',hb,hg,r⟩
 .rw [h0] at e;cases e
 .rw [e',ownBlock_some] at e;cases e;exact ⟨hb,lt_of_block hg⟩
theorem TabAt.form (h:TabAt B w v tab):∃ao cap,v=.slice ao tab.length cap:=by
 rcases h.2 with ⟨rfl,h0⟩|⟨g,cap',cur,rfl,_⟩
 .exact ⟨none,0,by rw [h0]⟩
 .exact ⟨_,_,rfl⟩
theorem TabAt.at (h:TabAt B w v tab) (hi:tab[i]?=some o):∃g cap,v=.slice (some ⟨g,0,none⟩) tab.length cap∧B<=g∧w.cell? ⟨g,i,none⟩=some (.int .i64 (oZ o))∧w.frozen? ⟨g,i,none⟩=false:=by
 have hl:=(List.getElem?_eq_some_iff.1 hi).1
 have h':=h
 rcases h.2 with ⟨_,h0⟩|⟨g,cap',cur,rfl,hb,hg,_⟩
 .omega
 .refine ⟨g,cap',rfl,hb,?_,frozen_of_blk hg⟩
  rw [World.ownsRow.cellAt h' i (by omega)]
  exact tabV_at hi
theorem TabAt.set (h:TabAt B w (.slice (some ⟨g,0,none⟩) tab.length cap) tab) (hi:i<tab.length) (o:Option Nat):TabAt B (w.setCell ⟨g,i,none⟩ (.int .i64 (oZ o))) (.slice (some ⟨g,0,none⟩) (tab.set i o).length cap) (tab.set i o):=by
 have:=Rg.row_set h i hi (.int .i64 (oZ o))
 unfold TabAt
 rw [<-tabV_set,List.length_set]
 exact this
theorem win_get {L:List Nat} {x:Nat} (h:Win B w v L) (hx:L[i]?=some x):∃g off cap,v=.slice (some ⟨g,off,none⟩) L.length cap∧B<=g∧w.cell? ⟨g,off+i,none⟩=some (.int .i64 (x:Nat)):=by
 have hi:=(List.getElem?_eq_some_iff.1 hx).1
 rcases h with ⟨_,h0⟩|⟨g,off,cap,cur,rfl,hb,hg,h1,h2,h3⟩
 .subst h0;cases hx
 .refine ⟨g,off,cap,rfl,hb,?_⟩
  rw [cell_of_blk hg]
  simpa using h3 i x hx
end
section
variable (w:World) (p pc pr gn gp gt gT cT:Nat) (Fc:List Nat) (cap hs:Nat) (E:Ent) (top:Nat->Option Nat) (h x:Nat)
def TidyP (c:Option Nat) (rest:List Nat) (wl:List (List Nat)) (U kid:Nat->Option Nat) (deg:Nat->Nat) (mk:Nat->Bool) (tab:List (Option Nat)) (v:Value) (wr:World):Prop :=
 FibQ wr p pc pr gn gp gt gT cT Fc cap hs E wl U kid deg mk top∧Tidy E cap (Rl wl) U kid deg top h x tab c rest∧TabAt w.heap.size wr v tab∧tab.length<=65537∧Keeps (p::pr::gn::gp::gt::gT::Fc) w wr
def TidyS (c:Option Nat) (rest:List Nat) (v:Value) (wr:World):Prop:=∃wl U kid deg mk tab,TidyP w p pc pr gn gp gt gT cT Fc cap hs E top h x c rest wl U kid deg mk tab v wr
end
section
variable {w wr w':World} {p pc pr gn gp gt gT cT:Nat} {Fc:List Nat} {cap hs:Nat} {E:Ent} {top:Nat->Option Nat} {h x:Nat} {c:Option Nat} {rest:List Nat} {wl:List (List Nat)} {U kid:Nat->Option Nat} {deg:Nat->Nat} {mk:Nat->Bool} {tab:List (Option Nat)} {v v':Value}
theorem TidyP.apart (t:TidyP w p pc pr gn gp gt gT cT Fc cap hs E top h x c rest wl U kid deg mk tab v wr) (hF:∀b∈p::pr::gn::gp::gt::gT::Fc,b<w.heap.size):∀b,v.ownBlock=some b->b∉p::pr::gn::gp::gt::gT::Fc:=fun b e f=>by
 have h1:=(t.2.2.1.own b e).1
 have h2:=hF b f
 omega
theorem TidyP.table {tab':List (Option Nat)} {c':Option Nat} {rest':List Nat} (t:TidyP w p pc pr gn gp gt gT cT Fc cap hs E top h x c rest wl U kid deg mk tab v wr) (hF:∀b∈p::pr::gn::gp::gt::gT::Fc,b<w.heap.size) (k:Keeps v.ownBlock.toList wr w')
  (z:Tidy E cap (Rl wl) U kid deg top h x tab' c' rest') (ht:TabAt w.heap.size w' v' tab') (hl:tab'.length<=65537):TidyP w p pc pr gn gp gt gT cT Fc cap hs E top h x c' rest' wl U kid deg mk tab' v' w':=by
 have ha:=t.apart hF
 obtain ⟨q,_,tt,_,kp⟩:=t
 refine ⟨q.keep k (fun b hb e=>ha b (by simpa [Option.mem_toList] using e) hb),z,ht,hl,kp.trans k (fun b hb=>.inr (tt.own b (by simpa [Option.mem_toList] using hb)).1)⟩
end
section
variable (w:World) (p pc pr gn gp gt gT cT:Nat) (Fc:List Nat) (cap hs:Nat) (E:Ent) (wl:List (List Nat)) (U kid:Nat->Option Nat) (deg:Nat->Nat) (mk:Nat->Bool) (top:Nat->Option Nat)
theorem tab_up {B g cap:Nat} {u:World} {tab:List (Option Nat)} (h:TabAt 0 u (.slice (some ⟨g,0,none⟩) tab.length cap) tab) (hg:B<=g):TabAt B u (.slice (some ⟨g,0,none⟩) tab.length cap) tab:=by
 refine ⟨h.1,?_⟩
 rcases h.2 with ⟨h0,_⟩|⟨g',cap',cur,e,hb,r⟩
 .cases h0
 .cases e;exact .inr ⟨g,cap,cur,rfl,hg,r⟩
theorem tab_lo {B:Nat} {u:World} {v:Value} {tab:List (Option Nat)} (h:TabAt B u v tab):TabAt 0 u v tab:=by
 refine ⟨h.1,?_⟩
 rcases h.2 with h0|⟨g',cap',cur,e,hb,r⟩
 .exact .inl h0
 .exact .inr ⟨g',cap',cur,e,Nat.zero_le _,r⟩
theorem fib_tidy (q:FibQ w p pc pr gn gp gt gT cT Fc cap hs E wl U kid deg mk top) (h x:Nat) (roots:List Nat) (ao:Option Addr) (ca:Nat) (hw:Win 0 w (.slice ao roots.length ca) roots)
  (hvr:∀b,(Value.slice ao roots.length ca).ownBlock=some b->b∉p::pr::gn::gp::gt::gT::Fc) (t:Tidy E cap (Rl wl) U kid deg top h x [] none roots) (hrl:roots.length<=65536) :
  Calls Tryz.prog 392 #[.pointer (some ⟨p,0,none⟩),.slice ao roots.length ca] w fun e w'=>∃v,e=.returned v∧TidyS w p pc pr gn gp gt gT cT Fc cap hs E top h x none [] v w':=by
 have hF:=q.lt
 have hcp:=q.cp
 have hs0:TidyS w p pc pr gn gp gt gT cT Fc cap hs E top h x none (roots.drop 0) (.slice none 0 0) w:=⟨wl,U,kid,deg,mk,[],q,t,World.ownsRow_nil _ _ _ _,by simp,Keeps.refl _ _⟩
 have HFF:=Lib.hid hF
 have HW:=Lib.hid hw
 have HV:=Lib.hid hvr
 have HS:=Lib.hid hs0
 clear hF hw hvr hs0 q t
 go_enter Tryz.func392,Tryz.ntmps392
 go_wp2_with fail
 go_loopg [5,12] (roots.length+1) (fun n v s wr=>∃i:Nat,n+i=roots.length+1∧i<=roots.length∧s=.int .i64 i∧TidyS w p pc pr gn gp gt gT cT Fc cap hs E top h x none (roots.drop i) v wr)
 case atStart=>exact ⟨0,by omega,by omega,rfl,HS.out⟩
 case round =>
  clear HS
  obtain ⟨i,hk,hin,rfl,ts⟩:=hrel
  have HK:=Lib.hid hk
  clear hk
  by_cases hi:i<roots.length
  .obtain ⟨y,hy⟩:∃y,roots[i]?=some y:=⟨_,List.getElem?_eq_getElem hi⟩
   have hdr:roots.drop i=y::roots.drop (i+1):=by
    rw [List.drop_eq_getElem_cons hi]
    rw [List.getElem?_eq_getElem hi] at hy
    cases hy;rfl
   rw [hdr] at ts
   obtain ⟨wl1,U1,kid1,deg1,mk1,tab1,q1,t1,ta1,hl1,k1⟩:=ts
   obtain ⟨g,off,cap',e,_,d0⟩:=win_get (HW.out.keep' k1 (fun b eb=>HV.out b eb)) hy
   cases e
   have hdl1:=t1.m.degLe y
   have T1:Hid (TidyP w p pc pr gn gp gt gT cT Fc cap hs E top h x (some y) (roots.drop (i+1)) wl1 U1 kid1 deg1 mk1 tab1 _ wr):=Lib.hid ⟨q1,t1.take,ta1,hl1,k1⟩
   have hi3:(i:Int)<(roots.length:Int):=by omega
   clear hdr hy q1 t1 ta1 hl1 k1
   generalize hrest:roots.drop (i+1)=rest at *
   have HRR:=Lib.hid hrest
   clear hrest
   go_upto_block 1 with fail
   go_cut [5] (fun v wx=>TidyS w p pc pr gn gp gt gT cT Fc cap hs E top h x none rest v wx)
   case first =>
    go_wp2_with fail
    go_loopg [7,5] (cap+1 - deg1 y) (fun n s v wr=>∃c wl U kid deg mk tab,n+deg c=cap+1∧s=.int .i64 (c:Nat)∧TidyP w p pc pr gn gp gt gT cT Fc cap hs E top h x (some c) rest wl U kid deg mk tab v wr)
    case atStart=>exact ⟨y,wl1,U1,kid1,deg1,mk1,tab1,by omega,rfl,T1.out⟩
    case round =>
     clear T1 hdl1 d0
     obtain ⟨c,wl2,U2,kid2,deg2,mk2,tab2,hk,rfl,tp⟩:=hrel
     have HK2:=Lib.hid hk
     clear hk
     have hcR:=tp.2.1.curRoot
     have hcc:=hcR.1.lt tp.2.1.m
     have hdl:=tp.2.1.m.degLe c
     have c2:=tp.1.c2
     have d2:=tp.1.k2 hcc
     have hcc3:(c:Int)<(cap:Int):=by omega
     obtain ⟨dc,hdc⟩:∃dc,deg2 c=dc:=⟨_,rfl⟩
     rw [hdc] at d2 hdl
     have TP:=Lib.hid tp
     have HDC:=Lib.hid hdc
     clear tp hcR hdc
     go_upto_block 4 with fail
     go_cut [5] (fun v wx=>∃tab',dc<tab'.length∧TidyP w p pc pr gn gp gt gT cT Fc cap hs E top h x (some c) rest wl2 U2 kid2 deg2 mk2 tab' v wx)
     case first =>
      clear c2 d2
      go_wp2_with fail
      go_loopg [5] (dc+1 - tab2.length) (fun n v wr=>∃tab',n=dc+1 - tab'.length∧TidyP w p pc pr gn gp gt gT cT Fc cap hs E top h x (some c) rest wl2 U2 kid2 deg2 mk2 tab' v wr)
      case atStart=>exact ⟨tab2,rfl,TP.out⟩
      case round =>
       clear TP
       obtain ⟨tab3,hk,tp⟩:=hrel
       have HK3:=Lib.hid hk
       clear hk
       obtain ⟨ta,tca,rfl⟩:=tp.2.2.1.form
       have hl3:=tp.2.2.2.1
       by_cases htl:tab3.length<=dc
       .have hrow:=tab_lo tp.2.2.1
        unfold TabAt at hrow
        have htl3:(tab3.length:Int)<=(dc:Int):=by omega
        have TP:=Lib.hid tp
        clear tp
        go_wp2_with (at_builtin;refine wpList_push _ 3 (.int .i64 (-1)) (0,0) rfl (.tmp 28) (.tmp 29) 28 rfl (.int .i64 0) 8 Tryz.underlying28 Rg.Tryz.infoInt rfl rfl (.slice ta tab3.length tca) tab3.length (tabV tab3) (by simp [Act.eval]) hrow (by simp [Act.eval]) (by unfold maxLen;omega) (by omega) ?_)
        intro g' cap' w4 hr4 hk4 hf4
        have hT:TidyP w p pc pr gn gp gt gT cT Fc cap hs E top h x (some c) rest wl2 U2 kid2 deg2 mk2 (tab3++[none]) (.slice (some ⟨g',0,none⟩) (tab3.length+1) cap') w4:=by
         have hg':w.heap.size<=g':=by
          rcases hf4 with e|e
          .exact (TP.out.2.2.1.own g' e).1
          .exact Nat.le_trans TP.out.2.2.2.2.size e
         have h4:TabAt 0 w4 (.slice (some ⟨g',0,none⟩) (tab3++[none]).length cap') (tab3++[none]):=by
          unfold TabAt
          rw [<-tabV_push,List.length_append]
          exact hr4
         have h5:=tab_up h4 hg'
         rw [List.length_append] at h5
         exact TP.out.table HFF.out hk4 TP.out.2.1.pad h5 (by rw [List.length_append];simp;omega)
        have HT:=Lib.hid hT
        clear hT hr4 hk4 hf4 hrow TP
        go_wp2_with fail
        go_roundg (gk - 1)
        case measure=>have:=HK3.out;omega
        case rel=>exact ⟨tab3++[none],by rw [List.length_append];have:=HK3.out;simp;omega,HT.out⟩
       .have htl3:¬(tab3.length:Int)<=(dc:Int):=by omega
        have TP:=Lib.hid tp
        clear tp
        go_wp2_with fail
        go_meet
        case rel=>exact ⟨tab3,by omega,TP.out⟩
     case rest =>
      clear TP tab2 c2 d2
      obtain ⟨tab3,htl,tp⟩:=hcut
      obtain ⟨o,ho⟩:∃o,tab3[dc]?=some o:=⟨_,List.getElem?_eq_getElem htl⟩
      obtain ⟨g3,c3,e3,hg3,d3,f3⟩:=tp.2.2.1.at ho
      subst e3
      have htl3:(dc:Int)<(tab3.length:Int):=by omega
      have hn3:=tp.2.2.2.1
      have kS:∀u,Keeps (Value.slice (some ⟨g3,0,none⟩) tab3.length c3).ownBlock.toList wc (wc.setCell ⟨g3,dc,none⟩ u):=fun u=>(Keeps.refl _ _).setCell (.inl (by rw [ownBlock_some];simp)) _
      cases o with
      | none =>
       simp only [oZ_none] at d3
       have hT:TidyP w p pc pr gn gp gt gT cT Fc cap hs E top h x none rest wl2 U2 kid2 deg2 mk2 (tab3.set dc (some c)) (.slice (some ⟨g3,0,none⟩) tab3.length c3) (wc.setCell ⟨g3,dc,none⟩ (.int .i64 (c:Int))):=by
        have h5:=tp.2.2.1.set htl (some c)
        rw [List.length_set] at h5
        have h6:=tp.2.1.put (by rw [HDC.out];exact ho)
        rw [HDC.out] at h6
        exact tp.table HFF.out (kS _) h6 h5 (by rw [List.length_set];exact hn3)
       have HT:=Lib.hid hT
       clear hT tp ho kS
       go_wp2_with fail
       go_meet
       case rel=>exact ⟨wl2,U2,kid2,deg2,mk2,_,HT.out⟩
      | some y2 =>
       simp only [oZ_some] at d3
       have hy3:((y2:Int)==-1)=false:=by rw [beq_eq_false_iff_ne];omega
       have hyR:=tp.2.1.tabRoot ⟨dc,ho⟩
       have hcR:=tp.2.1.curRoot
       have hap:=tp.apart HFF.out
       obtain ⟨w4,hw4⟩:∃w4,w4=wc.setCell ⟨g3,dc,none⟩ (.int .i64 (-1)):=⟨_,rfl⟩
       have k4:Keeps (Value.slice (some ⟨g3,0,none⟩) tab3.length c3).ownBlock.toList wc w4:=by rw [hw4];exact kS _
       have q4:=tp.1.keep k4 (fun b hb e=>hap b (by simpa [Option.mem_toList] using e) hb)
       have t4:TabAt w.heap.size w4 (.slice (some ⟨g3,0,none⟩) tab3.length c3) (tab3.set dc none):=by
        have h5:=tp.2.2.1.set htl none
        rw [List.length_set] at h5
        rw [hw4];exact h5
       have kp4:Keeps (p::pr::gn::gp::gt::gT::Fc) w w4:=tp.2.2.2.2.trans k4 (fun b hb=>.inr (tp.2.2.1.own b (by simpa [Option.mem_toList] using hb)).1)
       have e0:=q4.c0
       have hne:c≠y2:=by rintro rfl;exact (tp.2.1.c1 c rfl).1 ⟨dc,ho⟩
       have htot:ahead E y2 c=false->ahead E c y2=true:=fun hf=>by
        rcases ahead_tot hyR.1.1.some hcR.1.1.some (fun e=>hne e.symm) with z|z
        .rw [hf] at z;cases z
        .exact z
       have hal:=cells_ahead w4 Fc pc cap hs E q4.ce y2 c hyR.1.1.some hcR.1.1.some
       have hstep:∀w5,CellsAt w5 Fc pc cap hs E->Keeps Fc w4 w5->∀win lose,((win=c∧lose=y2)∨(win=y2∧lose=c))->ahead E win lose=true ->
         Calls Tryz.prog 398 #[.pointer (some ⟨p,0,none⟩),.int .i64 (lose:Nat),.int .i64 (win:Nat)] w5 fun e w6=>e=.returned (.tuple #[]) ∧
          Hid (∃wl U kid deg mk tab,deg win=dc+1∧TidyP w p pc pr gn gp gt gT cT Fc cap hs E top h x (some win) rest wl U kid deg mk tab (.slice (some ⟨g3,0,none⟩) tab3.length c3) w6):=by
        intro w5 hc5 k5 win lose hwl ha
        have q5:=q4.cells hc5 k5
        have hwR:rootOf E U2 h win:=by rcases hwl with ⟨rfl,rfl⟩|⟨rfl,rfl⟩;exact hcR.1;exact hyR.1
        have hlR:rootOf E U2 h lose:=by rcases hwl with ⟨rfl,rfl⟩|⟨rfl,rfl⟩;exact hyR.1;exact hcR.1
        refine (fib_under w5 p pc pr gn gp gt gT cT Fc cap hs E wl2 U2 kid2 deg2 mk2 top q5 h win lose tp.2.1.m hwR hlR (ahead_ne ha)).mono ?_
        rintro e w6 ⟨rfl,wl6,mk6,q6,hR6,k6⟩
        obtain ⟨j1,j2⟩:=tp.2.1.join (by rw [HDC.out];exact ho) hwl ha hR6
        rw [HDC.out] at j1 j2
        have hos:∀b,(Value.slice (some ⟨g3,0,none⟩) tab3.length c3).ownBlock=some b->b∉p::pr::gn::gp::gt::gT::Fc:=hap
        refine ⟨rfl,wl6,_,_,_,mk6,_,?_,q6,j1,?_,by rw [List.length_set];exact hn3,?_⟩
        .rw [upd_same,j2]
        .exact (t4.keep k5 (fun b eb f=>hos b eb (by simp [f]))).keep k6 hos
        .exact (kp4.trans k5 (fun b hb=>.inl (by simp [hb]))).trans k6 (fun b hb=>.inl hb)
       have HS:=Lib.hid hstep
       have HTT:=Lib.hid htot
       clear htot
       clear hstep tp ho kS hyR hcR hap k4 q4 t4 kp4
       go_upto_region 12 with fail
       rw [<-hw4]
       clear hw4 d3 f3
       cases ha:ahead E y2 c with
       | true =>
        rw [ha] at hal
        have HA:=Lib.hid ha
        clear ha
        go_wp2_with (first
         | (go_at_call 339;refine hal.mono ?_;rintro e w5 ⟨rfl,hc5,k5⟩;have hun:=HS.out w5 hc5 k5 y2 c (.inr ⟨rfl,rfl⟩) HA.out;clear hc5 k5)
         | (go_at_call 398;refine hun.mono ?_;rintro e w6 ⟨rfl,hfin⟩))
        obtain ⟨wl6,U6,kid6,deg6,mk6,tab6,hd6,tp6⟩:=hfin.out
        go_roundg (gk - 1)
        case measure=>have:=HK2.out;have:=HDC.out;omega
        case rel=>exact ⟨y2,wl6,U6,kid6,deg6,mk6,tab6,by have:=HK2.out;have:=HDC.out;omega,rfl,tp6⟩
       | false =>
        rw [ha] at hal
        have HA:=Lib.hid ha
        clear ha
        have hcy:ahead E c y2=true:=HTT.out HA.out
        go_wp2_with (first
         | (go_at_call 339;refine hal.mono ?_;rintro e w5 ⟨rfl,hc5,k5⟩;have hun:=HS.out w5 hc5 k5 c y2 (.inl ⟨rfl,rfl⟩) hcy;clear hc5 k5)
         | (go_at_call 398;refine hun.mono ?_;rintro e w6 ⟨rfl,hfin⟩))
        obtain ⟨wl6,U6,kid6,deg6,mk6,tab6,hd6,tp6⟩:=hfin.out
        go_roundg (gk - 1)
        case measure=>have:=HK2.out;have:=HDC.out;omega
        case rel=>exact ⟨c,wl6,U6,kid6,deg6,mk6,tab6,by have:=HK2.out;have:=HDC.out;omega,rfl,tp6⟩
   case rest =>
    clear T1 d0 hdl1
    have HC:=Lib.hid hcut
    clear hcut
    go_wp2_with fail
    go_roundg (gk - 1)
    case measure=>have:=HK.out;omega
    case rel=>exact ⟨i+1,by have:=HK.out;omega,by omega,by go_num,by rw [HRR.out];exact HC.out⟩
  .obtain rfl:i=roots.length:=by omega
   rw [List.drop_length] at ts
   have TS:=Lib.hid ts
   clear ts
   go_wp2_with fail
   go_ret
   exact ⟨_,rfl,TS.out⟩
end
structure PileOk (w:World) (p pc ga q:Nat) (ao:Option Addr) (ca:Nat) (vP:Value) (Fc:List Nat) (cap hs:Nat) (E:Ent) (n:Nat) (v:Nat->Nat) (f:Nat->Int):Prop where
 bp:w.heap[p]?=some (.cells #[.pointer (some ⟨pc,0,none⟩),vP,.slice (some ⟨ga,0,none⟩) cap cap] 238 (0,0))
 bq:w.heap[q]?=some (.cells #[.pointer (some ⟨p,0,none⟩),.slice ao n ca] 482 (0,0))
 ce:CellsAt w Fc pc cap hs E
 ar:Arr w 3 1 cap ga (numV f)
 row:∃Lm:List Nat,Lm.length=n∧Rg.IR 0 w (.slice ao Lm.length ca) Lm∧∀j,j<n->Rg.fn Lm j=v j
 ne:p≠q∧p≠ga∧q≠ga∧p∉Fc∧q∉Fc∧ga∉Fc
 na:∀x,ao=some x->x.block≠p∧x.block≠q∧x.block≠ga∧x.block∉Fc
 pos:∀j,j<n->f (v j)=(j:Int)
 lt:∀j,j<n->v j<cap
 inj:Inj v n
def pfp (q:Nat) (ao:Option Addr):List Nat:=q::ao.toList.map (·.block)
section
variable {w w':World} {p pc ga q ca cap hs n i j:Nat} {ao:Option Addr} {vP:Value} {Fc S:List Nat} {E E':Ent} {v:Nat->Nat} {f:Nat->Int}
theorem PileOk.keep (h:PileOk w p pc ga q ao ca vP Fc cap hs E n v f) (k:Keeps S w w') (hS:∀b∈p::ga::(pfp q ao++Fc),b∉S):PileOk w' p pc ga q ao ca vP Fc cap hs E n v f:=by
 obtain ⟨Lm,l1,l2,l3⟩:=h.row
 exact ⟨k.blk h.bp (hS p (by simp)),k.blk h.bq (hS q (by simp [pfp])),h.ce.keep k (fun b hb=>hS b (by simp [hb])),h.ar.keep k (hS ga (by simp)),⟨Lm,l1,ir_keep l2 k (fun x e=>hS _ (by simp [pfp,e])),l3⟩,h.ne,h.na,h.pos,h.lt,h.inj⟩
theorem PileOk.cells (h:PileOk w p pc ga q ao ca vP Fc cap hs E n v f) (c:CellsAt w' Fc pc cap hs E') (k:Keeps Fc w w'):PileOk w' p pc ga q ao ca vP Fc cap hs E' n v f:=by
 obtain ⟨Lm,l1,l2,l3⟩:=h.row
 obtain ⟨n1,n2,n3,n4,n5,n6⟩:=h.ne
 exact ⟨k.blk h.bp n4,k.blk h.bq n5,c,h.ar.keep k n6,⟨Lm,l1,ir_keep l2 k (fun x e=>(h.na x e).2.2.2),l3⟩,h.ne,h.na,h.pos,h.lt,h.inj⟩
theorem PileOk.same (h:PileOk w p pc ga q ao ca vP Fc cap hs E n v f) (k:Keeps [] w w'):PileOk w' p pc ga q ao ca vP Fc cap hs E n v f:=h.keep k (by simp)
theorem PileOk.below (h:PileOk w p pc ga q ao ca vP Fc cap hs E n v f):∀b∈p::ga::(pfp q ao++Fc),b<w.heap.size:=by
 intro b hb
 simp only [List.mem_cons,List.mem_append,pfp,List.mem_map,Option.mem_toList] at hb
 rcases hb with rfl|rfl|(rfl|⟨x,e,rfl⟩)|hb
 .exact lt_of_block h.bp
 .exact h.ar.lt
 .exact lt_of_block h.bq
 .obtain ⟨Lm,l1,l2,l3⟩:=h.row
  rcases l2.2 with ⟨h0,_⟩|⟨g,cap',cur,e',hb,hg,r⟩
  .simp only [Value.slice.injEq] at h0
   rw [h0.1] at e;cases e
  .cases e';cases e;exact lt_of_block hg
 .exact h.ce.lt b hb
theorem PileOk.q0 (h:PileOk w p pc ga q ao ca vP Fc cap hs E n v f):w.cell? ⟨q,0,none⟩=some (.pointer (some ⟨p,0,none⟩)):=by rw [cell_of_blk h.bq];rfl
theorem PileOk.q1 (h:PileOk w p pc ga q ao ca vP Fc cap hs E n v f):w.cell? ⟨q,1,none⟩=some (.slice ao n ca):=by rw [cell_of_blk h.bq];rfl
theorem PileOk.p0 (h:PileOk w p pc ga q ao ca vP Fc cap hs E n v f):w.cell? ⟨p,0,none⟩=some (.pointer (some ⟨pc,0,none⟩)):=by rw [cell_of_blk h.bp];rfl
theorem PileOk.p2 (h:PileOk w p pc ga q ao ca vP Fc cap hs E n v f):w.cell? ⟨p,2,none⟩=some (.slice (some ⟨ga,0,none⟩) cap cap):=by rw [cell_of_blk h.bp];rfl
theorem PileOk.at (h:PileOk w p pc ga q ao ca vP Fc cap hs E n v f) (hi:i<n):∃g,ao=some ⟨g,0,none⟩∧g≠p∧g≠q∧g≠ga∧g∉Fc∧g<w.heap.size∧w.cell? ⟨g,i,none⟩=some (.int .i64 (v i:Nat))∧w.frozen? ⟨g,i,none⟩=false:=by
 obtain ⟨Lm,l1,l2,l3⟩:=h.row
 obtain ⟨g,e,hlt,_,hc⟩:=l2.at i (by omega)
 subst e
 obtain ⟨n1,n2,n3,n4⟩:=h.na _ rfl
 refine ⟨g,rfl,n1,n2,n3,n4,hlt,by rw [<-l3 i hi];exact hc,?_⟩
 rcases l2.2 with ⟨h0,_⟩|⟨g',cap',cur,e',hb,hg,r⟩
 .simp only [Value.slice.injEq] at h0;cases h0.1
 .cases e';exact frozen_of_blk hg
theorem PileOk.pl (h:PileOk w p pc ga q ao ca vP Fc cap hs E n v f) (hi:i<n):w.cell? ⟨ga,v i,none⟩=some (.int .i64 (i:Int))∧w.frozen? ⟨ga,v i,none⟩=false:=by
 have:=h.ar.cell1 (h.lt i hi)
 simp only [numV,List.getElem?_cons_zero,h.pos i hi] at this
 exact ⟨this,h.ar.frozen _⟩
end
section
variable (w:World) (p pc ga q:Nat) (ao:Option Addr) (ca:Nat) (vP:Value) (Fc:List Nat) (cap hs:Nat) (E:Ent) (n:Nat) (v:Nat->Nat) (f:Nat->Int)
theorem pile_len (h:PileOk w p pc ga q ao ca vP Fc cap hs E n v f):Calls Tryz.prog 443 #[.pointer (some ⟨q,0,none⟩)] w fun e w'=>e=.returned (.int .i64 n)∧w=w':=by
 have q1:=h.q1
 clear h
 go_enter Tryz.func443,Tryz.ntmps443
 go_wp2
 go_ret
 exact ⟨rfl,rfl⟩
def LessDone (b:Bool) (e:Ending) (w':World):Prop:=e=.returned (.bool b)∧PileOk w' p pc ga q ao ca vP Fc cap hs E n v f∧Keeps Fc w w'
theorem pile_less (h:PileOk w p pc ga q ao ca vP Fc cap hs E n v f) (i j:Nat) (hi:i<n) (hj:j<n) (hE:∀j,j<n->(E (v j)).isSome) :
  Calls Tryz.prog 452 #[.pointer (some ⟨q,0,none⟩),.int .i64 i,.int .i64 j] w (LessDone w p pc ga q ao ca vP Fc cap hs E n v f (ahead E (v i) (v j))):=by
 obtain ⟨g,rfl,g1,g2,g3,g4,g5,c1,_⟩:=h.at hi
 obtain ⟨g',e',_,_,_,_,_,c2,_⟩:=h.at hj
 cases e'
 have q0:=h.q0
 have q1:=h.q1
 have p0:=h.p0
 have hal:=fun u (hu:CellsAt u Fc pc cap hs E)=>cells_ahead u Fc pc cap hs E hu (v i) (v j) (hE i hi) (hE j hj)
 obtain ⟨n1,n2,n3,n4,n5,n6⟩:=h.ne
 have hql:=h.below q (by simp [pfp])
 have hpl:=h.below p (by simp)
 have hS:∀u,Keeps Fc w u->u.cell? ⟨q,0,none⟩=some (.pointer (some ⟨p,0,none⟩))∧u.cell? ⟨q,1,none⟩=some (.slice (some ⟨g,0,none⟩) n ca)∧u.cell? ⟨p,0,none⟩=some (.pointer (some ⟨pc,0,none⟩))∧u.cell? ⟨g,i,none⟩=some (.int .i64 (v i:Nat))∧u.cell? ⟨g,j,none⟩=some (.int .i64 (v j:Nat)):=fun u k =>
  ⟨(World.cell?_of_block (a:=⟨q,0,none⟩) (k.block q hql n5)).trans q0,(World.cell?_of_block (a:=⟨q,1,none⟩) (k.block q hql n5)).trans q1,(World.cell?_of_block (a:=⟨p,0,none⟩) (k.block p hpl n4)).trans p0,
   (World.cell?_of_block (a:=⟨g,i,none⟩) (k.block g g5 g4)).trans c1,(World.cell?_of_block (a:=⟨g,j,none⟩) (k.block g g5 g4)).trans c2⟩
 have kdr:Keeps Fc w w.drew:=⟨rfl,rfl,rfl,Nat.le_refl _,fun _ _ _=>rfl⟩
 have hi3:(i:Int)<(n:Int):=by omega
 have hj3:(j:Int)<(n:Int):=by omega
 go_enter Tryz.func452,Tryz.ntmps452
 go_wp2_with fail
 go_region_held3 (fun u=>u.cell? ⟨q,0,none⟩=some (.pointer (some ⟨p,0,none⟩))∧u.cell? ⟨q,1,none⟩=some (.slice (some ⟨g,0,none⟩) n ca)∧u.cell? ⟨p,0,none⟩=some (.pointer (some ⟨pc,0,none⟩))∧u.cell? ⟨g,i,none⟩=some (.int .i64 (v i:Nat))∧u.cell? ⟨g,j,none⟩=some (.int .i64 (v j:Nat)))
  (first|exact hS _ kdr|exact hS _ (kdr.trans (by assumption) (fun _ h=>.inl h)))
  (first
   | (go_at_call 339;refine (hal _ (by exact h.ce.drew)).mono ?_;rintro e w1 ⟨rfl,hc1,hk1⟩))
 all_goals
  go_wp2_with fail
  go_ret
  exact ⟨rfl,h.cells hc1 hk1.ofDrew,hk1.ofDrew⟩
end
end Go.Proofs.YtkdbjelhkfdfjaaGreatDoor

