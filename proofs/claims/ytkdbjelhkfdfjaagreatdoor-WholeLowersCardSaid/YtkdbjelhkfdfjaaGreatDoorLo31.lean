/-
  Contracts that the law rests on. Conditions: none.
-/
import Derived.Test.YtkdbjelhkfdfjaaGreatDoorLo29
import Derived.Test.YtkdbjelhkfdfjaaGreatDoorLo30
set_option linter.unusedVariables false
set_option maxRecDepth 100000
set_option maxHeartbeats 32000000
namespace Go.Proofs.YtkdbjelhkfdfjaaGreatDoor
open Go.RowKit
theorem HeapAt.cong {d n i:Nat} {r:Nat->Nat->Bool} {v v':Nat->Nat} (h:HeapAt d r v n i) (hd:2<=d) (hi:i<n) (hv:∀j,j<n->v' j=v j):HeapAt d r v' n i:=by
 refine ⟨fun j hj hn hne hp=>?_,fun j hj hn hp h0=>?_⟩
 .have:=par_lt hd hj
  rw [hv j hn,hv _ (by omega)];exact h.1 j hj hn hne hp
 .have:=par_lt hd h0
  rw [hv j hn,hv _ (by omega)];exact h.2 j hj hn hp h0
theorem pile_m3 (fuel:Nat) (a:Addr) (w:World):(method (fuel+1) 478 (.pointer (some a)) "Len").run Tryz.prog w=.ok (443,.pointer (some a)) w:=by kernel_rfl
theorem pile_m4 (fuel:Nat) (a:Addr) (w:World):(method (fuel+1) 478 (.pointer (some a)) "Push").run Tryz.prog w=.ok (454,.pointer (some a)) w:=by kernel_rfl
theorem pile_m5 (fuel:Nat) (a:Addr) (w:World):(method (fuel+1) 478 (.pointer (some a)) "Pop").run Tryz.prog w=.ok (453,.pointer (some a)) w:=by kernel_rfl
section
variable (w:World) (p pc ga q:Nat) (ao:Option Addr) (ca:Nat) (vP:Value) (Fc:List Nat) (cap hs:Nat) (E:Ent) (n:Nat) (v:Nat->Nat) (f:Nat->Int)
def HAdd (x:Nat) (e:Ending) (w':World):Prop :=
 ∃ao' ca' v' f',e=.returned (.tuple #[])∧PileOk w' p pc ga q ao' ca' vP Fc cap hs E (n+1) v' f'∧(∀z,(∃j,j<n+1∧v' j=z)↔z=x∨∃j,j<n∧v j=z)∧Heap' 2 (ahead E) v' (n+1) ∧
  Keeps (ga::(pfp q ao++Fc)) w w'∧(∀b∈pfp q ao',b∈pfp q ao∨w.heap.size<=b)∧(∀y,y≠x->(∀k,k<n->v k≠y)->f' y=f y)
theorem heap_push (h:PileOk w p pc ga q ao ca vP Fc cap hs E n v f) (x:Nat) (hx:∀j,j<n->v j≠x) (hE:∀j,j<n->(E (v j)).isSome) (hEx:(E x).isSome) (hn:n+1<=65536) (hh:Heap' 2 (ahead E) v n) :
  Calls Tryz.prog 442 #[.iface 478 (.pointer (some ⟨q,0,none⟩)),.iface 3 (.int .i64 x)] w (HAdd w p pc ga q ao vP Fc cap hs E n v f x):=by
 have hc:=h.ce.ok.lt x hEx
 have hpu:=pile_push w p pc ga q ao ca vP Fc cap hs E n v f h x hx hc hn
 have hE':∀j,j<n+1->(E ((fun k=>if k=n then x else v k) j)).isSome:=by
  intro j hj
  by_cases e:j=n
  .simp only [if_pos e];exact hEx
  .simp only [if_neg e];exact hE j (by omega)
 have hat:=hh.at_end (by decide) x
 have hup:=fun u ao' ca' (hu:PileOk u p pc ga q ao' ca' vP Fc cap hs E (n+1) (fun k=>if k=n then x else v k) (upd f x (n:Int)))=>pile_up u p pc ga q ao' ca' vP Fc cap hs E (n+1) (n+1) _ _ hu n (by omega) (Nat.le_refl _) hE' hn hat
 have hle:=fun u ao' ca' (hu:PileOk u p pc ga q ao' ca' vP Fc cap hs E (n+1) (fun k=>if k=n then x else v k) (upd f x (n:Int)))=>pile_len u p pc ga q ao' ca' vP Fc cap hs E (n+1) _ _ hu
 have hfin:∀ao' (w1 w2:World) e ca',(∀b∈pfp q ao',b∈pfp q ao∨w.heap.size<=b)->Keeps (ga::pfp q ao) w w1->PUp w1 p pc ga q ao' ca' vP Fc cap hs E (n+1) (n+1) (fun k=>if k=n then x else v k) (upd f x (n:Int)) n e w2->HAdd w p pc ga q ao vP Fc cap hs E n v f x e w2:=by
  rintro ao' w1 w2 e ca' fp k1 ⟨v',f',rfl,hp,hm,k2,hres⟩
  have hd6:Ord (ahead E) v' (n+1):=ordOf hp.inj (fun j hj=>by obtain ⟨k,hk,e⟩:=hm.range (Nat.le_refl _) hj;rw [e];exact hE' k hk)
  refine ⟨ao',ca',v',f',rfl,hp,fun z=>?_,?_,(k1.mono fun b hb=>.inl (by simp at hb ⊢;rcases hb with rfl|hb;exact .inl rfl;exact .inr (.inl hb))).trans k2 (fun b hb=>?_),fp,fun y hy hk=>?_⟩
  .rw [hm.same z]
   constructor
   .rintro ⟨j,hj,e⟩
    simp only at e
    by_cases c:j=n
    .rw [if_pos c] at e;exact .inl e.symm
    .rw [if_neg c] at e;exact .inr ⟨j,by omega,e⟩
   .rintro (rfl|⟨j,hj,e⟩)
    .exact ⟨n,by omega,by simp⟩
    .exact ⟨j,by omega,by simp only [if_neg (show j≠n by omega)];exact e⟩
  .rcases hres with ⟨rfl,hst⟩|hh
   .refine (hat.down (by decide) hd6 (by omega) ?_).last (by decide) (by omega)
    simpa using hst
   .exact hh
  .simp only [List.mem_cons,List.mem_append] at hb ⊢
   rcases hb with rfl|hb|hb
   .exact .inl (.inl rfl)
   .rcases fp b hb with c|c
    .exact .inl (.inr (.inl c))
    .exact .inr c
   .exact .inl (.inr (.inr hb))
  .rw [hm.off y (fun k hk' e=>?_),upd_other _ _ hy]
   by_cases c:k=n
   .simp only [if_pos c] at e;exact hy e.symm
   .simp only [if_neg c] at e;exact hk k (by omega) e
 have HF:=Lib.hid hfin
 have hm3:=fun (u:World)=>pile_m3 587 ⟨q,0,none⟩ u
 have hm4:=fun (u:World)=>pile_m4 587 ⟨q,0,none⟩ u
 clear hfin hat hE' hh h hx hE
 go_enter Tryz.func442,Tryz.ntmps442
 go_wp2_with (first
  | (go_at_call 454;refine hpu.mono ?_;rintro e w1 ⟨ao',ca',rfl,hp1,hk1,fp1⟩)
  | (go_at_call 443;refine (hle _ _ _ hp1).mono ?_;rintro e w1' ⟨rfl,rfl⟩)
  | (go_at_call 445;refine (hup _ _ _ hp1).mono ?_;intro e w2 hu2;have hup2:=HF.out _ _ _ _ _ fp1 hk1 hu2;obtain ⟨ao2,ca2,v2,f2,rfl,hr2⟩:=hup2))
 go_end0
 exact ⟨ao2,ca2,v2,f2,rfl,hr2⟩
def HRem (i:Nat) (e:Ending) (w':World):Prop :=
 ∃v' f',e=.returned (.iface 3 (.int .i64 (v i:Nat)))∧PileOk w' p pc ga q ao ca vP Fc cap hs E n v' f'∧(∀z,(∃j,j<n∧v' j=z)↔z≠v i∧∃j,j<n+1∧v j=z)∧Heap' 2 (ahead E) v' n ∧
  Keeps (ga::(pfp q ao++Fc)) w w'∧(∀y,(∀k,k<n+1->v k≠y)->f' y=f y)
theorem heap_remove (h:PileOk w p pc ga q ao ca vP Fc cap hs E (n+1) v f) (i:Nat) (hi:i<n+1) (hE:∀j,j<n+1->(E (v j)).isSome) (hn:n+1<=65536) (hh:Heap' 2 (ahead E) v (n+1)) :
  Calls Tryz.prog 441 #[.iface 478 (.pointer (some ⟨q,0,none⟩)),.int .i64 i] w (HRem w p pc ga q ao ca vP Fc cap hs E n v f i):=by
 have hle:=pile_len w p pc ga q ao ca vP Fc cap hs E (n+1) v f h
 have hpo:=fun u v2 f2 (hu:PileOk u p pc ga q ao ca vP Fc cap hs E (n+1) v2 f2)=>pile_pop u p pc ga q ao ca vP Fc cap hs E n v2 f2 hu hn
 have hm1:=fun (u:World)=>pile_m3 587 ⟨q,0,none⟩ u
 have hm2:=fun (u:World)=>pile_m2 587 ⟨q,0,none⟩ u
 have hm5:=fun (u:World)=>pile_m5 587 ⟨q,0,none⟩ u
 by_cases hin:i=n
 .subst hin
  go_enter Tryz.func441,Tryz.ntmps441
  go_wp2_with (first
   | (go_at_call 443;refine hle.mono ?_;rintro e w1' ⟨rfl,rfl⟩)
   | (go_at_call 453;refine (hpo _ _ _ h).mono ?_;rintro e w2 ⟨rfl,hp2,hk2⟩))
  go_ret
  refine ⟨v,f,rfl,hp2,fun z=>?_,fun j h0 hj=>hh j h0 (by omega),hk2.mono (fun b hb=>.inl (by simp at hb;subst hb;simp [pfp])),fun y hy=>rfl⟩
  constructor
  .rintro ⟨j,hj,rfl⟩
   exact ⟨fun e=>by have:=h.inj j i (by omega) (by omega) e;omega,j,by omega,rfl⟩
  .rintro ⟨hz,j,hj,rfl⟩
   refine ⟨j,?_,rfl⟩
   rcases Nat.lt_or_ge j i with c|c
   .exact c
   .obtain rfl:j=i:=by omega
    exact absurd rfl hz
 .have hin2:i<n:=by omega
  have hord:Ord (ahead E) v (n+1):=ordOf h.inj hE
  have hswp:=pile_swap w p pc ga q ao ca vP Fc cap hs E (n+1) v f h i n hi (by omega) hin
  have hat:HeapAt 2 (ahead E) (sw v i n) n i:=(hh.refill (by decide) hord hin2).cong (by decide) hin2 (fun j hj=>by
   by_cases c:j=i
   .subst c;rw [sw_left];simp
   .rw [sw_other _ _ _ _ c (by omega)];simp [c])
  have hE2:∀j,j<n+1->(E (sw v i n j)).isSome:=by
   intro j hj
   obtain ⟨m,m1,m2,m3,m4⟩:=sw_idx v i n j
   rw [m1]
   refine hE m ?_
   by_cases b:j=i
   .rw [m2 b];omega
   .by_cases a:j=n
    .rw [m3 a b];omega
    .rw [m4 b a];exact hj
  have hinj2:Inj (sw v i n) (n+1):=h.inj.sw hi (by omega)
  have hord2:Ord (ahead E) (sw v i n) n:=ordOf (fun a b ha hb e=>hinj2 a b (by omega) (by omega) e) (fun j hj=>hE2 j (by omega))
  have hset:∀z,(∃j,j<n∧sw v i n j=z)↔z≠v i∧∃j,j<n+1∧v j=z:=by
   intro z
   have hvn:v n≠v i:=fun e=>hin (h.inj n i (by omega) (by omega) e).symm
   constructor
   .rintro ⟨j,hj,e⟩
    by_cases c:j=i
    .subst c;rw [sw_left] at e;subst e;exact ⟨hvn,n,by omega,rfl⟩
    .rw [sw_other _ _ _ _ c (by omega)] at e;subst e;exact ⟨fun e=>c (h.inj j i (by omega) (by omega) e),j,by omega,rfl⟩
   .rintro ⟨hz,j,hj,rfl⟩
    rcases Nat.lt_or_ge j n with c|c
    .exact ⟨j,c,sw_other _ _ _ _ (fun e=>hz (by rw [e])) (by omega)⟩
    .obtain rfl:j=n:=by omega
     exact ⟨i,hin2,sw_left _ _ _⟩
  have hhd:HeapDown 2 (ahead E) (sw v i n) n i∨HeapUp 2 (ahead E) (sw v i n) n i:=by
   by_cases h0:i=0
   .exact .inl (hat.down (by decide) hord2 hin2 (.inl h0))
   .cases hb:ahead E (sw v i n i) (sw v i n (par 2 i)) with
    | false=>exact .inl (hat.down (by decide) hord2 hin2 (.inr hb))
    | true=>exact .inr (hat.up (by decide) hord2 hin2 (by omega) hb)
  have hgo:i=0∨ahead E (sw v i n i) (sw v i n (par 2 i))=false->HeapDown 2 (ahead E) (sw v i n) n i:=fun c=>hat.down (by decide) hord2 hin2 c
  have hdn:=fun u f2 (hu:PileOk u p pc ga q ao ca vP Fc cap hs E (n+1) (sw v i n) f2)=>pile_down u p pc ga q ao ca vP Fc cap hs E (n+1) n _ _ hu i hin2 (by omega) hE2 hn hhd
  have hup:=fun u f2 (hu:PileOk u p pc ga q ao ca vP Fc cap hs E (n+1) (sw v i n) f2)=>pile_up u p pc ga q ao ca vP Fc cap hs E (n+1) n _ _ hu i hin2 (by omega) hE2 hn hat
  have hfin:∀f2 v3 f3 w1 w4 w5,(∀x,(∀k,k<n+1->v k≠x)->f2 x=f x)->Keeps (ga::(pfp q ao++Fc)) w w1->PMoved (n+1) n (sw v i n) f2 v3 f3->Keeps (ga::(pfp q ao++Fc)) w1 w4->Heap' 2 (ahead E) v3 n->PopDone w4 p pc ga q ao ca vP Fc cap hs E n v3 f3 (.returned (.iface 3 (.int .i64 (v3 n:Nat)))) w5->HRem w p pc ga q ao ca vP Fc cap hs E n v f i (.returned (.iface 3 (.int .i64 (v3 n:Nat)))) w5:=by
   rintro f2 v3 f3 w1 w4 w5 h2 k1 hm k2 hh3 ⟨_,hp5,k5⟩
   have hvn:v3 n=v i:=by rw [hm.rest n (Nat.le_refl _),sw_right]
   refine ⟨v3,f3,by rw [hvn],hp5,fun z=>(hm.same z).trans (hset z),hh3,(k1.trans k2 (fun b hb=>.inl hb)).trans k5 (fun b hb=>.inl (by simp at hb;subst hb;simp [pfp])),fun y hy=>?_⟩
   rw [hm.off y (fun k hk e=>?_)]
   .exact h2 y hy
   .obtain ⟨m,m1,m2,m3,m4⟩:=sw_idx v i n k
    rw [m1] at e
    refine hy m ?_ e
    by_cases b:k=i
    .rw [m2 b];omega
    .by_cases a:k=n
     .rw [m3 a b];omega
     .rw [m4 b a];exact hk
  have b1:((n:Int)==(i:Int))=false:=by rw [beq_eq_false_iff_ne];omega
  have HF:=Lib.hid hfin
  have HGO:=Lib.hid hgo
  have HAT:=Lib.hid hat
  have HO:=Lib.hid hord2
  clear hfin hset hat hord hh hE hE2 hinj2 hord2 hhd hin hgo
  go_enter Tryz.func441,Tryz.ntmps441
  go_upto_region 4 with (first
   | (go_at_call 443;refine hle.mono ?_;rintro e w1' ⟨rfl,rfl⟩)
   | (go_at_call 455;refine hswp.mono ?_;rintro e w1 ⟨f2,rfl,hp1,hk1,ho1⟩))
  have k1:Keeps (ga::(pfp q ao++Fc)) w w1:=hk1.mono (fun b hb=>.inl (by simp at hb ⊢;rcases hb with rfl|hb;exact .inl rfl;exact .inr (.inl hb)))
  have HO1:=Lib.hid ho1
  clear ho1 hk1
  go_upto_if 20 with (go_at_call 444;refine (hdn _ _ hp1).mono ?_;rintro e w2 ⟨v2,f3,bb,rfl,hp2,hm2',hk2,ht2,hf2⟩)
  cases bb with
  | true =>
   have hh2:=ht2 rfl
   clear ht2 hf2
   have HM:=Lib.hid hm2'
   have HH:=Lib.hid hh2
   clear hm2' hh2
   go_wp2_with (go_at_call 453;refine (hpo _ _ _ hp2).mono ?_;intro e w5 hd5;obtain rfl:=hd5.1;have HD:=Lib.hid hd5;clear hd5)
   go_ret
   exact HF.out _ _ _ _ _ _ HO1.out k1 HM.out hk2 HH.out HD.out
  | false =>
   obtain ⟨rfl,hh2⟩:=hf2 rfl
   have HH:=Lib.hid hh2
   have HM:=Lib.hid hm2'
   clear ht2 hf2 hh2 hm2'
   go_wp2_with (first
    | (go_at_call 445;refine (hup _ _ hp2).mono ?_;rintro e w4 ⟨v4,f4,rfl,hp4,hm4,hk4,hr4⟩;have HM4:=Lib.hid hm4;have HR4:=Lib.hid hr4;clear hm4 hr4)
    | (go_at_call 453;refine (hpo _ _ _ hp4).mono ?_;intro e w5 hd5;obtain rfl:=hd5.1;have HD:=Lib.hid hd5;clear hd5))
   go_ret
   refine HF.out _ _ _ _ _ _ HO1.out k1 (HM.out.trans HM4.out (by omega)) (hk2.trans hk4 (fun b hb=>.inl hb)) ?_ HD.out
   rcases HR4.out with ⟨rfl,hst⟩|hh4
   .exact HH.out (HGO.out hst)
   .exact hh4
end
end Go.Proofs.YtkdbjelhkfdfjaaGreatDoor

