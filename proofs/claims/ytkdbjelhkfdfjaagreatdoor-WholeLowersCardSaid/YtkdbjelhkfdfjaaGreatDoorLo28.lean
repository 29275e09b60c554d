/-
  Contracts that the law rests on. Conditions: none.
-/
import Derived.Test.YtkdbjelhkfdfjaaGreatDoorLo20
set_option linter.unusedVariables false
set_option maxRecDepth 100000
set_option maxHeartbeats 32000000
namespace Go.Proofs.YtkdbjelhkfdfjaaGreatDoor
open Go.RowKit
section
variable (w:World) (p pc ga q:Nat) (ao:Option Addr) (ca:Nat) (vP:Value) (Fc:List Nat) (cap hs:Nat) (E:Ent) (n:Nat) (v:Nat->Nat) (f:Nat->Int)
def SwapDone (i j:Nat) (e:Ending) (w':World):Prop :=
 ∃f':Nat->Int,e=.returned (.tuple #[])∧PileOk w' p pc ga q ao ca vP Fc cap hs E n (sw v i j) f'∧Keeps (ga::pfp q ao) w w'∧(∀x,(∀k,k<n->v k≠x)->f' x=f x)
theorem pile_swap (h:PileOk w p pc ga q ao ca vP Fc cap hs E n v f) (i j:Nat) (hi:i<n) (hj:j<n) (hij:i≠j) :
  Calls Tryz.prog 455 #[.pointer (some ⟨q,0,none⟩),.int .i64 i,.int .i64 j] w (SwapDone w p pc ga q ao ca vP Fc cap hs E n v f i j):=by
 obtain ⟨g,rfl,g1,g2,g3,g4,g5,c1,f1⟩:=h.at hi
 obtain ⟨g',e',_,_,_,_,_,c2,f2⟩:=h.at hj
 cases e'
 have q0:=h.q0
 have q1:=h.q1
 have p2:=h.p2
 obtain ⟨d1,e1⟩:=h.pl hi
 obtain ⟨d2,e2⟩:=h.pl hj
 have hvi:=h.lt i hi
 have hvj:=h.lt j hj
 have hv:v i≠v j:=fun e=>hij (h.inj i j hi hj e)
 obtain ⟨n1,n2,n3,n4,n5,n6⟩:=h.ne
 have hvi3:((v i:Nat):Int)<(cap:Int):=by omega
 have hvj3:((v j:Nat):Int)<(cap:Int):=by omega
 have hi3:(i:Int)<(n:Int):=by omega
 have hj3:(j:Int)<(n:Int):=by omega
 have hfin:∀W,W.heap=((((w.setCell ⟨g,i,none⟩ (.int .i64 (v j:Nat))).setCell ⟨g,j,none⟩ (.int .i64 (v i:Nat))).setCell ⟨ga,v j,none⟩ (.int .i64 (i:Int))).setCell ⟨ga,v i,none⟩ (.int .i64 (j:Int))).heap->W.os=w.os->W.tape=w.tape->W.output=w.output ->
   SwapDone w p pc ga q (some ⟨g,0,none⟩) ca vP Fc cap hs E n v f i j (.returned (.tuple #[])) W:=by
  intro W e0 e3 e4 e5
  have k0:Keeps [ga,g] w ((((w.setCell ⟨g,i,none⟩ (.int .i64 (v j:Nat))).setCell ⟨g,j,none⟩ (.int .i64 (v i:Nat))).setCell ⟨ga,v j,none⟩ (.int .i64 (i:Int))).setCell ⟨ga,v i,none⟩ (.int .i64 (j:Int))):=((((Keeps.refl _ _).setCell (.inl (by simp)) _).setCell (.inl (by simp)) _).setCell (.inl (by simp)) _).setCell (.inl (by simp)) _
  have k1:Keeps [ga,g] w W:=⟨by rw [e3],by rw [e4],by rw [e5],by rw [e0];exact k0.size,by rw [e0];exact k0.block⟩
  obtain ⟨Lm,l1,l2,l3⟩:=h.row
  have kr:Keeps [ga] ((w.setCell ⟨g,i,none⟩ (.int .i64 (v j:Nat))).setCell ⟨g,j,none⟩ (.int .i64 (v i:Nat))) W :=
   ⟨by rw [e3];rfl,by rw [e4];rfl,by rw [e5];rfl,by rw [e0];simp [World.setCell],fun b hb hg=>by
    rw [e0]
    simp only [List.mem_cons,List.not_mem_nil,or_false] at hg
    rw [blk_setCell_ne _ hg,blk_setCell_ne _ hg]⟩
  have r1:=Rg.row_set (Rg.row_set l2 i (by omega) (.int .i64 (v j:Nat))) j (by omega) (.int .i64 (v i:Nat))
  have hr:Rg.IR 0 ((w.setCell ⟨g,i,none⟩ (.int .i64 (v j:Nat))).setCell ⟨g,j,none⟩ (.int .i64 (v i:Nat))) (.slice (some ⟨g,0,none⟩) ((Lm.set i (v j)).set j (v i)).length ca) ((Lm.set i (v j)).set j (v i)):=by
   unfold Rg.IR
   rw [List.length_set,List.length_set,Rg.nCells_set,Rg.nCells_set]
   exact r1
  have ka:Keeps [g] w ((w.setCell ⟨g,i,none⟩ (.int .i64 (v j:Nat))).setCell ⟨g,j,none⟩ (.int .i64 (v i:Nat))):=((Keeps.refl _ _).setCell (.inl (by simp)) _).setCell (.inl (by simp)) _
  have ha:=((h.ar.keep ka (by simpa using fun e=>g3 e.symm)).set1 hvj (.int .i64 (i:Int))).set1 hvi (.int .i64 (j:Int))
  have ha2:Arr W 3 1 cap ga (numV (upd (upd f (v j) (i:Int)) (v i) (j:Int))):=by
   have:Arr W 3 1 cap ga _:=⟨by
    refine ⟨ha.row.1,?_⟩
    rw [e0];exact ha.row.2,ha.size⟩
   refine this.congr fun k _=>?_
   by_cases a:k=v i
   .subst a;simp [upd_same,numV]
   .rw [upd_other _ _ a]
    by_cases b:k=v j
    .subst b;simp [upd_same,numV,upd_other _ _ a]
    .simp [upd_other _ _ b,numV,upd_other _ _ a]
  refine ⟨upd (upd f (v j) (i:Int)) (v i) (j:Int),rfl,⟨k1.blk h.bp (by simp;exact ⟨n2,fun e=>g1 e.symm⟩),k1.blk h.bq (by simp;exact ⟨n3,fun e=>g2 e.symm⟩),h.ce.keep k1 (fun b hb e=>by simp at e;rcases e with rfl|rfl;exact n6 hb;exact g4 hb),ha2,
   ⟨_,by rw [List.length_set,List.length_set];exact l1,ir_keep hr kr (fun x e=>by cases e;simpa using g3),?_⟩,h.ne,h.na,?_,?_,h.inj.sw hi hj⟩,k1.mono (by simp [pfp]),?_⟩
  .intro k hk
   by_cases a:k=j
   .subst a;rw [fn_set_same (by rw [List.length_set];omega),sw_right]
   .rw [fn_set_other a]
    by_cases b:k=i
    .subst b;rw [fn_set_same (by omega),sw_left]
    .rw [fn_set_other b,sw_other _ _ _ _ b a];exact l3 k hk
  .intro k hk
   by_cases b:k=i
   .subst b;rw [sw_left,upd_other _ _ (fun e=>hv e.symm),upd_same]
   .by_cases a:k=j
    .subst a;rw [sw_right,upd_same]
    .rw [sw_other _ _ _ _ b a,upd_other _ _ (fun e=>b (h.inj k i hk hi e)),upd_other _ _ (fun e=>a (h.inj k j hk hj e))];exact h.pos k hk
  .intro k hk
   obtain ⟨m,m1,m2,m3,m4⟩:=sw_idx v i j k
   rw [m1]
   refine h.lt m ?_
   by_cases b:k=i
   .rw [m2 b];exact hj
   .by_cases a:k=j
    .rw [m3 a b];exact hi
    .rw [m4 b a];exact hk
  .intro x hx
   rw [upd_other _ _ (fun e=>hx i hi e.symm),upd_other _ _ (fun e=>hx j hj e.symm)]
 have HF:=Lib.hid hfin
 have HC:∀u,u=((w.setCell ⟨g,i,none⟩ (.int .i64 (v j:Nat))).setCell ⟨g,j,none⟩ (.int .i64 (v i:Nat))).drew ->
   u.cell? ⟨q,0,none⟩=some (.pointer (some ⟨p,0,none⟩))∧u.cell? ⟨q,1,none⟩=some (.slice (some ⟨g,0,none⟩) n ca)∧u.cell? ⟨p,2,none⟩=some (.slice (some ⟨ga,0,none⟩) cap cap) ∧
   u.cell? ⟨g,i,none⟩=some (.int .i64 (v j:Nat))∧u.cell? ⟨g,j,none⟩=some (.int .i64 (v i:Nat)) ∧
   u.cell? ⟨ga,v i,none⟩=some (.int .i64 (i:Int))∧u.frozen? ⟨ga,v i,none⟩=false∧u.cell? ⟨ga,v j,none⟩=some (.int .i64 (j:Int))∧u.frozen? ⟨ga,v j,none⟩=false:=by
  rintro u rfl
  have k0:Keeps [g] w ((w.setCell ⟨g,i,none⟩ (.int .i64 (v j:Nat))).setCell ⟨g,j,none⟩ (.int .i64 (v i:Nat))):=((Keeps.refl _ _).setCell (.inl (by simp)) _).setCell (.inl (by simp)) _
  have k:Keeps [g] w ((w.setCell ⟨g,i,none⟩ (.int .i64 (v j:Nat))).setCell ⟨g,j,none⟩ (.int .i64 (v i:Nat))).drew:=⟨k0.os,k0.tape,k0.output,k0.size,k0.block⟩
  have bk:∀b,b<w.heap.size->b≠g->((w.setCell ⟨g,i,none⟩ (.int .i64 (v j:Nat))).setCell ⟨g,j,none⟩ (.int .i64 (v i:Nat))).drew.heap[b]?=w.heap[b]?:=fun b h1 h2=>k.block b h1 (by simpa using h2)
  have hq:=h.below q (by simp [pfp])
  have hp:=h.below p (by simp)
  have hga:=h.below ga (by simp)
  refine ⟨(World.cell?_of_block (a:=⟨q,0,none⟩) (bk q hq (fun e=>g2 e.symm))).trans q0,(World.cell?_of_block (a:=⟨q,1,none⟩) (bk q hq (fun e=>g2 e.symm))).trans q1,(World.cell?_of_block (a:=⟨p,2,none⟩) (bk p hp (fun e=>g1 e.symm))).trans p2,?_,?_,
   (World.cell?_of_block (a:=⟨ga,v i,none⟩) (bk ga hga (fun e=>g3 e.symm))).trans d1,(World.frozen?_of_block (a:=⟨ga,v i,none⟩) (bk ga hga (fun e=>g3 e.symm))).trans e1,
   (World.cell?_of_block (a:=⟨ga,v j,none⟩) (bk ga hga (fun e=>g3 e.symm))).trans d2,(World.frozen?_of_block (a:=⟨ga,v j,none⟩) (bk ga hga (fun e=>g3 e.symm))).trans e2⟩
  .show (World.setCell _ _ _).cell? _=_
   rw [World.cell?_setCell_other _ _ _ _ (by first|simp|simpa using hij)]
   exact World.cell?_setCell_same _ _ _ c1
  .show (World.setCell _ _ _).cell? _=_
   exact World.cell?_setCell_same _ _ _ (by rw [World.cell?_setCell_other _ _ _ _ (by first|simp|simpa using fun e=>hij e.symm)];exact c2)
 clear hfin h
 go_enter Tryz.func455,Tryz.ntmps455
 generalize hw0:w=w0 at *
 clear hw0
 go_wp2_with fail
 go_region
 all_goals
  clear q0 q1 p2 c1 c2 d1 d2 e1 e2 f1 f2
  generalize hu:((w0.setCell ⟨g,i,none⟩ (.int .i64 (v j:Nat))).setCell ⟨g,j,none⟩ (.int .i64 (v i:Nat))).drew=u
  obtain ⟨q0,q1,p2,c1,c2,d1,e1,d2,e2⟩:=HC u hu.symm
  have hu2:=Lib.hid hu
  clear hu HC
  go_wp2_with fail
  go_region_held3 (fun u=>u.cell? ⟨q,0,none⟩=some (.pointer (some ⟨p,0,none⟩))∧u.cell? ⟨q,1,none⟩=some (.slice (some ⟨g,0,none⟩) n ca)∧u.cell? ⟨p,2,none⟩=some (.slice (some ⟨ga,0,none⟩) cap cap)∧u.cell? ⟨g,i,none⟩=some (.int .i64 (v j:Nat))∧u.cell? ⟨g,j,none⟩=some (.int .i64 (v i:Nat)))
   (first|exact ⟨q0,q1,p2,c1,c2⟩|exact ⟨cell_set_ne n3 q0,cell_set_ne n3 q1,cell_set_ne n2 p2,cell_set_ne g3 c1,cell_set_ne g3 c2⟩|exact ⟨cell_set_ne n3 (cell_set_ne n3 q0),cell_set_ne n3 (cell_set_ne n3 q1),cell_set_ne n2 (cell_set_ne n2 p2),cell_set_ne g3 (cell_set_ne g3 c1),cell_set_ne g3 (cell_set_ne g3 c2)⟩) (fail)
 all_goals
  go_end0
  have hu:=hu2.out
  subst hu
  exact HF.out _ rfl rfl rfl rfl
end
structure PMoved (n m:Nat) (v:Nat->Nat) (f:Nat->Int) (v':Nat->Nat) (f':Nat->Int):Prop where
 same:Same v v' m
 rest:∀j,m<=j->v' j=v j
 off:∀x,(∀k,k<n->v k≠x)->f' x=f x
theorem PMoved.refl (n m:Nat) (v:Nat->Nat) (f:Nat->Int):PMoved n m v f v f:=⟨Same.refl _ _,fun _ _=>rfl,fun _ _=>rfl⟩
theorem PMoved.range {n m:Nat} {v v':Nat->Nat} {f f':Nat->Int} (h:PMoved n m v f v' f') (hm:m<=n) {k:Nat} (hk:k<n):∃j,j<n∧v' k=v j:=by
 by_cases e:k<m
 .obtain ⟨j,a,b⟩:=(h.same (v' k)).1 ⟨k,e,rfl⟩
  exact ⟨j,by omega,b.symm⟩
 .exact ⟨k,hk,h.rest k (by omega)⟩
theorem PMoved.trans {n m:Nat} {v v' v2:Nat->Nat} {f f' f2:Nat->Int} (h:PMoved n m v f v' f') (k:PMoved n m v' f' v2 f2) (hm:m<=n):PMoved n m v f v2 f2 :=
 ⟨h.same.trans k.same,fun j hj=>(k.rest j hj).trans (h.rest j hj),fun x hx=>(k.off x (fun i hi e=>by
  obtain ⟨j,a,b⟩:=h.range hm hi
  exact hx j a (b.symm.trans e))).trans (h.off x hx)⟩
theorem PMoved.sw {n m:Nat} {v:Nat->Nat} {f f':Nat->Int} {i j:Nat} (hi:i<m) (hj:j<m) (ho:∀x,(∀k,k<n->v k≠x)->f' x=f x):PMoved n m v f (sw v i j) f' :=
 ⟨Same.sw hi hj,fun k hk=>sw_other _ _ _ _ (by omega) (by omega),ho⟩
theorem sw_comm (v:Nat->Nat) (i j:Nat):sw v i j=sw v j i:=by
 funext k
 simp only [sw]
 by_cases a:k=i
 .subst a
  by_cases b:k=j
  .subst b;rfl
  .rw [if_pos rfl,if_neg b,if_pos rfl]
 .rw [if_neg a]
  by_cases b:k=j
  .rw [if_pos b,if_pos b]
  .rw [if_neg b,if_neg b,if_neg a]
section
variable (w:World) (p pc ga q:Nat) (ao:Option Addr) (ca:Nat) (vP:Value) (Fc:List Nat) (cap hs:Nat) (E:Ent) (n m:Nat) (v:Nat->Nat) (f:Nat->Int)
theorem pile_m1 (fuel:Nat) (a:Addr) (w:World):(method (fuel+1) 478 (.pointer (some a)) "Less").run Tryz.prog w=.ok (452,.pointer (some a)) w:=by kernel_rfl
theorem pile_m2 (fuel:Nat) (a:Addr) (w:World):(method (fuel+1) 478 (.pointer (some a)) "Swap").run Tryz.prog w=.ok (455,.pointer (some a)) w:=by kernel_rfl
def PUp (j:Nat) (e:Ending) (w':World):Prop :=
 ∃v' f',e=.returned (.tuple #[])∧PileOk w' p pc ga q ao ca vP Fc cap hs E n v' f'∧PMoved n m v f v' f'∧Keeps (ga::(pfp q ao++Fc)) w w'∧((v'=v∧(j=0∨ahead E (v j) (v (par 2 j))=false))∨Heap' 2 (ahead E) v' m)
theorem pile_up (h:PileOk w p pc ga q ao ca vP Fc cap hs E n v f) (j:Nat) (hj:j<m) (hm:m<=n) (hE:∀j,j<n->(E (v j)).isSome) (hn:n<=65536) (hat:HeapAt 2 (ahead E) v m j) :
  Calls Tryz.prog 445 #[.iface 478 (.pointer (some ⟨q,0,none⟩)),.int .i64 j] w (PUp w p pc ga q ao ca vP Fc cap hs E n m v f j):=by
 have hEs:∀v' f',PMoved n m v f v' f'->∀j,j<n->(E (v' j)).isSome:=fun v' f' s j hj=>by
  obtain ⟨k,hk,e⟩:=s.range hm hj
  rw [e];exact hE k hk
 have HES:=Lib.hid hEs
 clear hEs
 go_enter Tryz.func445,Tryz.ntmps445
 go_wp2_with fail
 go_loopg [1] (j+1) (fun k s wr=>∃(i':Nat) (v':Nat->Nat) (f':Nat->Int),k=i'+1∧s=.int .i64 i'∧i'<m∧PileOk wr p pc ga q ao ca vP Fc cap hs E n v' f'∧PMoved n m v f v' f'∧Keeps (ga::(pfp q ao++Fc)) w wr ∧
  ((i'=j∧v'=v∧HeapAt 2 (ahead E) v m j)∨(i'<j∧HeapUp 2 (ahead E) v' m i')))
 case atStart=>exact ⟨j,v,f,rfl,rfl,hj,h,PMoved.refl _ _ _ _,Keeps.refl _ _,.inl ⟨rfl,rfl,hat⟩⟩
 case round =>
  clear h hat hE
  obtain ⟨i',v',f',hk,rfl,hi',hp,hmv,kp,hst⟩:=hrel
  have HK:=Lib.hid hk
  clear hk
  have hEv:=HES.out v' f' hmv
  have hord:Ord (ahead E) v' m:=ordOf (fun a b ha hb=>hp.inj a b (by omega) (by omega)) (fun k hk=>hEv k (by omega))
  have hme:=fun (u:World)=>pile_m1 587 ⟨q,0,none⟩ u
  have hms:=fun (u:World)=>pile_m2 587 ⟨q,0,none⟩ u
  by_cases h0:i'=0
  .subst h0
   go_wp2_with fail
   go_end0
   refine ⟨v',f',rfl,hp,hmv,kp,?_⟩
   rcases hst with ⟨rfl,rfl,_⟩|⟨hlt,hup⟩
   .exact .inl ⟨rfl,.inl rfl⟩
   .exact .inr (hup.stop (by decide) hord (.inl rfl))
  .obtain ⟨r,hr⟩:∃r,par 2 i'=r:=⟨_,rfl⟩
   have hrlt:r<i':=by rw [<-hr];exact par_lt (by decide) (by omega)
   have hpi:=par_int 2 i' (by omega)
   have hpi2:((i':Int) - 1) / 2=(r:Int):=by rw [hr] at hpi;exact hpi.symm
   have HR:=Lib.hid hr
   have HI:=Lib.hid hpi
   clear hpi hr
   have b1:decide ((r:Int)=(i':Int))=false:=by rw [decide_eq_false_iff_not];omega
   have b2:decide (r=i')=false:=by rw [decide_eq_false_iff_not];omega
   have b4:(0:Int)<=(i':Int) - 1:=by omega
   have hls:=fun u (hu:PileOk u p pc ga q ao ca vP Fc cap hs E n v' f')=>pile_less u p pc ga q ao ca vP Fc cap hs E n v' f' hu i' r (by omega) (by omega) hEv
   have hsw:=fun u (hu:PileOk u p pc ga q ao ca vP Fc cap hs E n v' f')=>pile_swap u p pc ga q ao ca vP Fc cap hs E n v' f' hu r i' (by omega) (by omega) (by omega)
   cases hb:ahead E (v' i') (v' r) with
   | false =>
    rw [hb] at hls
    go_wp2_with (go_at_call 452;refine (hls _ hp).mono ?_;rintro e w1 ⟨rfl,hp1,hk1⟩)
    go_end0
    refine ⟨v',f',rfl,hp1,hmv,kp.trans hk1 (fun b hb=>.inl (by simp [hb])),?_⟩
    rcases hst with ⟨rfl,rfl,_⟩|⟨hlt,hup⟩
    .exact .inl ⟨rfl,.inr (by rw [HR.out];exact hb)⟩
    .exact .inr (hup.stop (by decide) hord (.inr (by rw [HR.out];exact hb)))
   | true =>
    rw [hb] at hls
    have hup:HeapUp 2 (ahead E) v' m i':=by
     rcases hst with ⟨rfl,rfl,hat⟩|⟨hlt,hup⟩
     .exact hat.up (by decide) hord hi' (by omega) (by rw [HR.out];exact hb)
     .exact hup
    have hst2:=hup.step (by decide) hord (by omega) hi' (by rw [HR.out];exact hb)
    rw [HR.out] at hst2
    have hile:i'<=j:=by rcases hst with ⟨rfl,_⟩|⟨hlt,_⟩<;>omega
    clear hst hup
    have HB:=Lib.hid hb
    clear hb
    go_wp2_with (first
     | (go_at_call 452;refine (hls _ hp).mono ?_;rintro e w1 ⟨rfl,hp1,hk1⟩)
     | (go_at_call 455;refine (hsw _ hp1).mono ?_;rintro e w2 ⟨f2,rfl,hp2,hk2,ho2⟩))
    have hsy:sw v' r i'=sw v' i' r:=sw_comm _ _ _
    rw [hsy] at hp2
    have kp2:Keeps (ga::(pfp q ao++Fc)) w w2:=(kp.trans hk1 (fun b hb=>.inl (by simp [hb]))).trans hk2 (fun b hb=>.inl (by simp at hb ⊢;rcases hb with rfl|hb;exact .inl rfl;exact .inr (.inl hb)))
    go_roundg (r+1)
    case measure=>have:=HK.out;omega
    case rel=>exact ⟨r,sw v' i' r,f2,rfl,rfl,by omega,hp2,hmv.trans (PMoved.sw hi' (by omega) ho2) hm,kp2,.inr ⟨by omega,hst2⟩⟩
end
theorem do_sort (a a':Int) (o:List UInt8) (rep:∀(db g:Nat) (u:World),u.heap[db]?=some (deskO a 0 (.pointer none))->SAt u g 1 [⟨#[50]⟩,⟨#[49]⟩] ->
   Calls Tryz.prog 104 #[.pointer (some ⟨db,0,none⟩),.slice (some ⟨g,1,none⟩) 2 2] u fun e w'=>e=.returned (.string ⟨o.toArray⟩)∧w'.heap[db]?=some (deskO a' 0 (.pointer none))∧Keeps [db] u w') :
  DoGives a ⟨#[115,111,114,116,32,50,32,49]⟩ o a':=fun db w hb=>by
 obtain ⟨w0,hw0⟩:∃w0,w0=w.alloc (.cells #[.string ⟨#[]⟩] 9 (0,0)):=⟨_,rfl⟩
 obtain ⟨r,hr⟩:∃r,r=w.heap.size:=⟨_,rfl⟩
 have k0:Keeps [] w w0:=by rw [hw0];exact (Keeps.refl _ _).alloc _
 have hr0:w0.heap[r]?=some (.cells #[.string ⟨#[]⟩] 9 (0,0)):=by rw [hw0,hr];exact blk_alloc_new _
 have hdr:db<r:=by rw [hr];exact lt_of_block hb
 have hwr:w.heap.size<=r:=by omega
 have hd0:=k0.blk hb (by simp)
 have hsp:=split_sort w0
 obtain ⟨g,hg⟩:∃g,g=w0.heap.size:=⟨_,rfl⟩
 rw [<-hg] at hsp
 have hgr:r<g:=by have:=lt_of_block hr0;omega
 have hmf:∀(fn:Fn) (first cap:Array Value) (w:World),(Instr.makeFunc fn first cap).run Tryz.prog w=.ok (.func fn first cap) w:=fun _ _ _ _=>rfl
 have hcn:=fun (u:World) (hu:SAt u g 0 [wSort,⟨#[50]⟩,⟨#[49]⟩])=>contains_none u g 0 3 [wSort,⟨#[50]⟩,⟨#[49]⟩] ⟨#[]⟩ hu (by simp [ByteArray.toList_eq]) (by decide)
 have hvb:=fun u=>verb_sort u (.pointer (some ⟨db,0,none⟩))
 have hfin:∀w1,Keeps [] w0 w1->SAt w1 g 0 [wSort,⟨#[50]⟩,⟨#[49]⟩]->SAt w1 g 0 [wSort,⟨#[50]⟩,⟨#[49]⟩]∧w1.cell? ⟨g,0,none⟩=some (.string wSort) ∧
   (Calls Tryz.prog 104 #[.pointer (some ⟨db,0,none⟩),.slice (some ⟨g,1,none⟩) 2 2] w1.drew fun e w2=>e=.returned (.string ⟨o.toArray⟩) ∧
    w2.cell? ⟨g,0,none⟩=some (.string wSort)∧w2.cell? ⟨r,0,none⟩=some (.string ⟨#[]⟩)∧w2.frozen? ⟨r,0,none⟩=false ∧
    Hid ((w2.setCell ⟨r,0,none⟩ (.string ⟨o.toArray⟩)).heap[db]?=some (deskO a' 0 (.pointer none))∧Keeps [db] w (w2.setCell ⟨r,0,none⟩ (.string ⟨o.toArray⟩)))):=by
  intro w1 k1 hs1
  refine ⟨hs1,hs1 0 _ rfl,?_⟩
  have b1:=k1.blk hr0 (by simp)
  have d1:=k1.blk hd0 (by simp)
  have hs1':SAt w1.drew g 1 [⟨#[50]⟩,⟨#[49]⟩]:=hs1.tail
  refine (rep db g w1.drew d1 hs1').mono ?_
  rintro e w2 ⟨rfl,d2,k2⟩
  have k2':Keeps [db] w1 w2:=⟨k2.os,k2.tape,k2.output,k2.size,k2.block⟩
  have b2:=k2'.blk b1 (by simp;omega)
  have kk:Keeps [db] w w2:=((k0.trans k1 (by simp)).mono (T:=[db]) (by simp)).trans k2' (by simp)
  refine ⟨rfl,?_,by rw [cell_of_blk b2];rfl,frozen_of_blk b2,?_,?_⟩
  .have c:=hs1 0 _ rfl
   have hlt:=World.block_lt_of_cell? w1 _ c
   rw [World.cell?_of_block (a:=⟨g,0,none⟩) (k2'.block g hlt (by simp;omega))];exact c
  .exact (blk_setCell_ne (a:=⟨r,0,none⟩) _ (by show db≠r;omega)).trans d2
  .exact kk.setCell (p:=⟨r,0,none⟩) (.inr hwr) _
 have HF:=Lib.hid hfin
 clear hfin rep hd0 hb hg
 go_enter_defers Tryz.func46,Tryz.ntmps46
 go_upto_region 1 with fail
 rw [<-hw0,<-hr]
 have hgr':g≠r:=by omega
 clear hw0 k0 hr0 hr hwr hdr hgr
 go_upto_region 5 with (first
  | (go_at_call 78;refine hsp.mono ?_;rintro e w1 ⟨rfl,k1,hs1⟩;obtain ⟨y0,y1,y2⟩:=HF.out w1 k1 hs1;clear hs1 k1)
  | (go_at_call 79;refine (hcn _ y0).mono ?_;rintro e w' ⟨rfl,rfl⟩))
 have HY:=Lib.hid y0
 clear HF y0 hsp hcn
 go_region_held3 (fun u=>u.cell? ⟨g,0,none⟩=some (.string wSort)) (first|exact y1|exact q2|exact (World.cell?_of_block (a:=⟨g,0,none⟩) (blk_setCell_ne _ hgr')).trans q2)
  (first
   | (go_at_call 81;refine (hvb _).mono ?_;rintro e w' ⟨rfl,rfl⟩)
   | (go_at_call 104;refine y2.mono ?_;rintro e w2 ⟨rfl,q2,c2,f2,z2⟩))
 all_goals
  have hc3:=World.cell?_setCell_same' w2 ⟨r,0,none⟩ (.string ⟨o.toArray⟩) (by rw [c2];rfl)
  clear y1 y2 q2 c2 f2 hvb
  go_wp2_with fail
  refine leaves_cons (f:=80) (args:=#[.pointer (some ⟨r,0,none⟩)]) (by simp) (by simp [go_sem]) ?_
  refine (do_idle _ ⟨r,0,none⟩).mono ?_
  rintro e u' w'' ⟨rfl,rfl,rfl⟩
  have hz:=z2.out
  simp [Leaves,settle,results,Tryz.results46,go_sem,hc3]
  exact hz
theorem do_kind (a a':Int) (o:List UInt8) (rep:∀(db g:Nat) (u:World),u.heap[db]?=some (deskO a 0 (.pointer none))->SAt u g 1 [wSkew] ->
   Calls Tryz.prog 101 #[.pointer (some ⟨db,0,none⟩),.slice (some ⟨g,1,none⟩) 1 1] u fun e w'=>e=.returned (.string ⟨o.toArray⟩)∧w'.heap[db]?=some (deskO a' 0 (.pointer none))∧Keeps [db] u w') :
  DoGives a ⟨#[107,105,110,100,32,115,107,101,119]⟩ o a':=fun db w hb=>by
 obtain ⟨w0,hw0⟩:∃w0,w0=w.alloc (.cells #[.string ⟨#[]⟩] 9 (0,0)):=⟨_,rfl⟩
 obtain ⟨r,hr⟩:∃r,r=w.heap.size:=⟨_,rfl⟩
 have k0:Keeps [] w w0:=by rw [hw0];exact (Keeps.refl _ _).alloc _
 have hr0:w0.heap[r]?=some (.cells #[.string ⟨#[]⟩] 9 (0,0)):=by rw [hw0,hr];exact blk_alloc_new _
 have hdr:db<r:=by rw [hr];exact lt_of_block hb
 have hwr:w.heap.size<=r:=by omega
 have hd0:=k0.blk hb (by simp)
 have hsp:=split_kind w0
 obtain ⟨g,hg⟩:∃g,g=w0.heap.size:=⟨_,rfl⟩
 rw [<-hg] at hsp
 have hgr:r<g:=by have:=lt_of_block hr0;omega
 have hmf:∀(fn:Fn) (first cap:Array Value) (w:World),(Instr.makeFunc fn first cap).run Tryz.prog w=.ok (.func fn first cap) w:=fun _ _ _ _=>rfl
 have hcn:=fun (u:World) (hu:SAt u g 0 [wKind,wSkew])=>contains_none u g 0 2 [wKind,wSkew] ⟨#[]⟩ hu (by simp [ByteArray.toList_eq]) (by decide)
 have hvb:=fun u=>verb_kind u (.pointer (some ⟨db,0,none⟩))
 have hfin:∀w1,Keeps [] w0 w1->SAt w1 g 0 [wKind,wSkew]->SAt w1 g 0 [wKind,wSkew]∧w1.cell? ⟨g,0,none⟩=some (.string wKind) ∧
   (Calls Tryz.prog 101 #[.pointer (some ⟨db,0,none⟩),.slice (some ⟨g,1,none⟩) 1 1] w1.drew fun e w2=>e=.returned (.string ⟨o.toArray⟩) ∧
    w2.cell? ⟨g,0,none⟩=some (.string wKind)∧w2.cell? ⟨r,0,none⟩=some (.string ⟨#[]⟩)∧w2.frozen? ⟨r,0,none⟩=false ∧
    Hid ((w2.setCell ⟨r,0,none⟩ (.string ⟨o.toArray⟩)).heap[db]?=some (deskO a' 0 (.pointer none))∧Keeps [db] w (w2.setCell ⟨r,0,none⟩ (.string ⟨o.toArray⟩)))):=by
  intro w1 k1 hs1
  refine ⟨hs1,hs1 0 _ rfl,?_⟩
  have b1:=k1.blk hr0 (by simp)
  have d1:=k1.blk hd0 (by simp)
  have hs1':SAt w1.drew g 1 [wSkew]:=hs1.tail
  refine (rep db g w1.drew d1 hs1').mono ?_
  rintro e w2 ⟨rfl,d2,k2⟩
  have k2':Keeps [db] w1 w2:=⟨k2.os,k2.tape,k2.output,k2.size,k2.block⟩
  have b2:=k2'.blk b1 (by simp;omega)
  have kk:Keeps [db] w w2:=((k0.trans k1 (by simp)).mono (T:=[db]) (by simp)).trans k2' (by simp)
  refine ⟨rfl,?_,by rw [cell_of_blk b2];rfl,frozen_of_blk b2,?_,?_⟩
  .have c:=hs1 0 _ rfl
   have hlt:=World.block_lt_of_cell? w1 _ c
   rw [World.cell?_of_block (a:=⟨g,0,none⟩) (k2'.block g hlt (by simp;omega))];exact c
  .exact (blk_setCell_ne (a:=⟨r,0,none⟩) _ (by show db≠r;omega)).trans d2
  .exact kk.setCell (p:=⟨r,0,none⟩) (.inr hwr) _
 have HF:=Lib.hid hfin
 clear hfin rep hd0 hb hg
 go_enter_defers Tryz.func46,Tryz.ntmps46
 go_upto_region 1 with fail
 rw [<-hw0,<-hr]
 have hgr':g≠r:=by omega
 clear hw0 k0 hr0 hr hwr hdr hgr
 go_upto_region 5 with (first
  | (go_at_call 78;refine hsp.mono ?_;rintro e w1 ⟨rfl,k1,hs1⟩;obtain ⟨y0,y1,y2⟩:=HF.out w1 k1 hs1;clear hs1 k1)
  | (go_at_call 79;refine (hcn _ y0).mono ?_;rintro e w' ⟨rfl,rfl⟩))
 have HY:=Lib.hid y0
 clear HF y0 hsp hcn
 go_region_held3 (fun u=>u.cell? ⟨g,0,none⟩=some (.string wKind)) (first|exact y1|exact q2|exact (World.cell?_of_block (a:=⟨g,0,none⟩) (blk_setCell_ne _ hgr')).trans q2)
  (first
   | (go_at_call 81;refine (hvb _).mono ?_;rintro e w' ⟨rfl,rfl⟩)
   | (go_at_call 101;refine y2.mono ?_;rintro e w2 ⟨rfl,q2,c2,f2,z2⟩))
 all_goals
  have hc3:=World.cell?_setCell_same' w2 ⟨r,0,none⟩ (.string ⟨o.toArray⟩) (by rw [c2];rfl)
  clear y1 y2 q2 c2 f2 hvb
  go_wp2_with fail
  refine leaves_cons (f:=80) (args:=#[.pointer (some ⟨r,0,none⟩)]) (by simp) (by simp [go_sem]) ?_
  refine (do_idle _ ⟨r,0,none⟩).mono ?_
  rintro e u' w'' ⟨rfl,rfl,rfl⟩
  have hz:=z2.out
  simp [Leaves,settle,results,Tryz.results46,go_sem,hc3]
  exact hz
end Go.Proofs.YtkdbjelhkfdfjaaGreatDoor

