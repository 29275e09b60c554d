/-
  Contracts that the law rests on. Conditions: none.
-/
import Derived.Test.YtkdbjelhkfdfjaaGreatDoorLo11
import Derived.Test.YtkdbjelhkfdfjaaGreatDoorLo28
set_option linter.unusedVariables false
set_option maxRecDepth 100000
set_option maxHeartbeats 32000000
namespace Go.Proofs.YtkdbjelhkfdfjaaGreatDoor
open Go.RowKit
section
variable (w:World) (p pc ga q:Nat) (ao:Option Addr) (ca:Nat) (vP:Value) (Fc:List Nat) (cap hs:Nat) (E:Ent) (n m:Nat) (v:Nat->Nat) (f:Nat->Int)
def PDown (j:Nat) (e:Ending) (w':World):Prop :=
 ∃v' f' b,e=.returned (.bool b)∧PileOk w' p pc ga q ao ca vP Fc cap hs E n v' f'∧PMoved n m v f v' f'∧Keeps (ga::(pfp q ao++Fc)) w w'∧(b=true->Heap' 2 (ahead E) v' m)∧(b=false->v'=v∧(HeapDown 2 (ahead E) v m j->Heap' 2 (ahead E) v m))
theorem pile_down (h:PileOk w p pc ga q ao ca vP Fc cap hs E n v f) (j:Nat) (hj:j<m) (hm:m<=n) (hE:∀j,j<n->(E (v j)).isSome) (hn:n<=65536) (hat:HeapDown 2 (ahead E) v m j∨HeapUp 2 (ahead E) v m j) :
  Calls Tryz.prog 444 #[.iface 478 (.pointer (some ⟨q,0,none⟩)),.int .i64 j,.int .i64 m] w (PDown w p pc ga q ao ca vP Fc cap hs E n m v f j):=by
 have hEs:∀v' f',PMoved n m v f v' f'->∀j,j<n->(E (v' j)).isSome:=fun v' f' s j hj=>by
  obtain ⟨k,hk,e⟩:=s.range hm hj
  rw [e];exact hE k hk
 have HES:=Lib.hid hEs
 clear hEs
 go_enter Tryz.func444,Tryz.ntmps444
 go_wp2_with fail
 go_loopg [7] (m - j) (fun k s wr=>∃(i':Nat) (v':Nat->Nat) (f':Nat->Int),k=m - i'∧s=.int .i64 i'∧i'<m∧PileOk wr p pc ga q ao ca vP Fc cap hs E n v' f'∧PMoved n m v f v' f'∧Keeps (ga::(pfp q ao++Fc)) w wr ∧
  ((i'=j∧v'=v∧(HeapDown 2 (ahead E) v m j∨HeapUp 2 (ahead E) v m j))∨(j<i'∧HeapDown 2 (ahead E) v' m i')))
 case atStart=>exact ⟨j,v,f,rfl,rfl,hj,h,PMoved.refl _ _ _ _,Keeps.refl _ _,.inl ⟨rfl,rfl,hat⟩⟩
 case round =>
  clear h hat hE
  obtain ⟨i',v',f',hk,rfl,hi',hp,hmv,kp,hst⟩:=hrel
  have HK:=Lib.hid hk
  clear hk
  have hEv:=HES.out v' f' hmv
  have hord:Ord (ahead E) v' m:=ordOf (fun a b ha hb=>hp.inj a b (by omega) (by omega)) (fun k hk=>hEv k (by omega))
  have hme:=fun (u:World)=>pile_m1 587 ⟨q,0,none⟩ u
  have hms:=fun (u:World)=>pile_m2 587 ⟨q,0,none⟩ u
  obtain ⟨bb,hbb⟩:∃bb,decide (j<i')=bb:=⟨_,rfl⟩
  have hbb2:decide ((j:Int)<(i':Int))=bb:=by rw [<-hbb];congr 1;simp
  have HBB:=Lib.hid hbb
  obtain ⟨c,hc⟩:∃c,2*i'+1=c:=⟨_,rfl⟩
  have hc2:2*(i':Int)+1=(c:Int):=by omega
  have hcn:decide ((c:Int)<0)=false:=by rw [decide_eq_false_iff_not];omega
  have HC:=Lib.hid hc
  clear hc
  by_cases hcm:m<=c
  .have e1:(m:Int)<=(c:Int):=by omega
   go_wp2_with fail
   go_ret
   refine ⟨v',f',bb,rfl,hp,hmv,kp,?_⟩
   have hstop:∀jj,0<jj->jj<m->par 2 jj=i'->ahead E (v' i') (v' jj)=true:=by
    intro jj h1 h2 h3
    have:=(par_range (by decide) h1).1 h3
    have:=HC.out
    omega
   rcases hst with ⟨rfl,rfl,h⟩|⟨hlt,h⟩
   .refine ⟨fun e=>?_,fun _=>⟨rfl,fun h=>h.stop hstop⟩⟩
    have:=HBB.out
    rw [e,decide_eq_true_iff] at this
    omega
   .refine ⟨fun _=>h.stop hstop,fun e=>?_⟩
    have:=HBB.out
    rw [e,decide_eq_false_iff_not] at this
    omega
  .have e1:¬(m:Int)<=(c:Int):=by omega
   have hic:i'<c:=by have:=HC.out;omega
   obtain ⟨d,hd⟩:∃d,c+1=d:=⟨_,rfl⟩
   have hd2:(c:Int)+1=(d:Int):=by omega
   have HD:=Lib.hid hd
   have hcd:c<d:=by omega
   have hpc:par 2 c=i':=(par_range (by decide) (by omega)).2 (by have:=HC.out;omega)
   clear hd
   by_cases hdm:d<m
   .have e2:(d:Int)<(m:Int):=by omega
    have hpd:par 2 d=i':=(par_range (by decide) (by omega)).2 (by have:=HC.out;have:=HD.out;omega)
    have hls:=fun u (hu:PileOk u p pc ga q ao ca vP Fc cap hs E n v' f')=>pile_less u p pc ga q ao ca vP Fc cap hs E n v' f' hu d c (by omega) (by omega) hEv
    cases hdc:ahead E (v' d) (v' c) with
    | true =>
     rw [hdc] at hls
     have hbest:∀jj,0<jj->jj<m->par 2 jj=i'->jj≠d->ahead E (v' d) (v' jj)=true:=by
      intro jj h1 h2 h3 h4
      have:=(par_range (by decide) h1).1 h3
      have:jj=c:=by have:=HC.out;have:=HD.out;omega
      rw [this];exact hdc
     have HBEST:=Lib.hid hbest
     have HPB:=Lib.hid hpd
     clear hbest hpd hpc hdc
     have hid:i'<d:=by omega
     have hls2:=fun u (hu:PileOk u p pc ga q ao ca vP Fc cap hs E n v' f')=>pile_less u p pc ga q ao ca vP Fc cap hs E n v' f' hu d i' (by omega) (by omega) hEv
     have hsw:=fun u (hu:PileOk u p pc ga q ao ca vP Fc cap hs E n v' f')=>pile_swap u p pc ga q ao ca vP Fc cap hs E n v' f' hu i' d (by omega) (by omega) (by omega)
     cases hb:ahead E (v' d) (v' i') with
     | false =>
      rw [hb] at hls2
      have HB:=Lib.hid hb
      clear hb
      go_upto_region 8 with (go_at_call 452;refine (hls _ hp).mono ?_;rintro e w1 ⟨rfl,hp1,hk1⟩)
      go_wp2_with (go_at_call 452;refine (hls2 _ hp1).mono ?_;rintro e w2 ⟨rfl,hp2,hk2⟩)
      go_ret
      refine ⟨v',f',bb,rfl,hp2,hmv,(kp.trans hk1 (fun b hb=>.inl (by simp [hb]))).trans hk2 (fun b hb=>.inl (by simp [hb])),?_⟩
      have hstop:∀jj,0<jj->jj<m->par 2 jj=i'->ahead E (v' i') (v' jj)=true:=by
       intro jj h1 h2 h3
       have hib:ahead E (v' i') (v' d)=true:=by
        rcases hord.tot i' d hi' (by omega) (by omega) with h|h
        .exact h
        .rw [HB.out] at h;cases h
       by_cases e:jj=d
       .rw [e];exact hib
       .exact ahead_tr hib (HBEST.out jj h1 h2 h3 e)
      rcases hst with ⟨rfl,rfl,h⟩|⟨hlt,h⟩
      .refine ⟨fun e=>?_,fun _=>⟨rfl,fun h=>h.stop hstop⟩⟩
       have:=HBB.out
       rw [e,decide_eq_true_iff] at this
       omega
      .refine ⟨fun _=>h.stop hstop,fun e=>?_⟩
       have:=HBB.out
       rw [e,decide_eq_false_iff_not] at this
       omega
     | true =>
      rw [hb] at hls2
      have hdn:HeapDown 2 (ahead E) v' m i':=by
       rcases hst with ⟨rfl,rfl,h|h⟩|⟨hlt,h⟩
       .exact h
       .have:=h.1 d (by omega) (by omega) (by omega)
        rw [HPB.out] at this
        rw [hord.asym hi' (by omega) this] at hb
        cases hb
       .exact h
      have hst2:=hdn.step (by decide) hord (by omega) (by omega) HPB.out HBEST.out hb
      have hile:j<=i':=by rcases hst with ⟨rfl,_⟩|⟨hlt,_⟩<;>omega
      clear hst hdn
      have HB:=Lib.hid hb
      clear hb
      go_upto_region 8 with (go_at_call 452;refine (hls _ hp).mono ?_;rintro e w1 ⟨rfl,hp1,hk1⟩)
      go_wp2_with (first
       | (go_at_call 452;refine (hls2 _ hp1).mono ?_;rintro e w2 ⟨rfl,hp2,hk2⟩)
       | (go_at_call 455;refine (hsw _ hp2).mono ?_;rintro e w3 ⟨f2,rfl,hp3,hk3,ho3⟩))
      have kp3:Keeps (ga::(pfp q ao++Fc)) w w3:=((kp.trans hk1 (fun b hb=>.inl (by simp [hb]))).trans hk2 (fun b hb=>.inl (by simp [hb]))).trans hk3 (fun b hb=>.inl (by simp at hb ⊢;rcases hb with rfl|hb;exact .inl rfl;exact .inr (.inl hb)))
      go_roundg (m - d)
      case measure=>have:=HK.out;omega
      case rel=>exact ⟨d,sw v' i' d,f2,rfl,rfl,by omega,hp3,hmv.trans (PMoved.sw hi' (by omega) ho3) hm,kp3,.inr ⟨by omega,hst2⟩⟩
    | false =>
     rw [hdc] at hls
     have hcd2:ahead E (v' c) (v' d)=true:=by
      rcases hord.tot c d (by omega) hdm (by omega) with h|h
      .exact h
      .rw [hdc] at h;cases h
     have hbest:∀jj,0<jj->jj<m->par 2 jj=i'->jj≠c->ahead E (v' c) (v' jj)=true:=by
      intro jj h1 h2 h3 h4
      have:=(par_range (by decide) h1).1 h3
      have:jj=d:=by have:=HC.out;have:=HD.out;omega
      rw [this];exact hcd2
     have HBEST:=Lib.hid hbest
     have HPB:=Lib.hid hpc
     clear hbest hpd hpc hdc hcd2
     have hls2:=fun u (hu:PileOk u p pc ga q ao ca vP Fc cap hs E n v' f')=>pile_less u p pc ga q ao ca vP Fc cap hs E n v' f' hu c i' (by omega) (by omega) hEv
     have hsw:=fun u (hu:PileOk u p pc ga q ao ca vP Fc cap hs E n v' f')=>pile_swap u p pc ga q ao ca vP Fc cap hs E n v' f' hu i' c (by omega) (by omega) (by omega)
     cases hb:ahead E (v' c) (v' i') with
     | false =>
      rw [hb] at hls2
      have HB:=Lib.hid hb
      clear hb
      go_upto_region 8 with (go_at_call 452;refine (hls _ hp).mono ?_;rintro e w1 ⟨rfl,hp1,hk1⟩)
      go_wp2_with (go_at_call 452;refine (hls2 _ hp1).mono ?_;rintro e w2 ⟨rfl,hp2,hk2⟩)
      go_ret
      refine ⟨v',f',bb,rfl,hp2,hmv,(kp.trans hk1 (fun b hb=>.inl (by simp [hb]))).trans hk2 (fun b hb=>.inl (by simp [hb])),?_⟩
      have hstop:∀jj,0<jj->jj<m->par 2 jj=i'->ahead E (v' i') (v' jj)=true:=by
       intro jj h1 h2 h3
       have hib:ahead E (v' i') (v' c)=true:=by
        rcases hord.tot i' c hi' (by omega) (by omega) with h|h
        .exact h
        .rw [HB.out] at h;cases h
       by_cases e:jj=c
       .rw [e];exact hib
       .exact ahead_tr hib (HBEST.out jj h1 h2 h3 e)
      rcases hst with ⟨rfl,rfl,h⟩|⟨hlt,h⟩
      .refine ⟨fun e=>?_,fun _=>⟨rfl,fun h=>h.stop hstop⟩⟩
       have:=HBB.out
       rw [e,decide_eq_true_iff] at this
       omega
      .refine ⟨fun _=>h.stop hstop,fun e=>?_⟩
       have:=HBB.out
       rw [e,decide_eq_false_iff_not] at this
       omega
     | true =>
      rw [hb] at hls2
      have hdn:HeapDown 2 (ahead E) v' m i':=by
       rcases hst with ⟨rfl,rfl,h|h⟩|⟨hlt,h⟩
       .exact h
       .have:=h.1 c (by omega) (by omega) (by omega)
        rw [HPB.out] at this
        rw [hord.asym hi' (by omega) this] at hb
        cases hb
       .exact h
      have hst2:=hdn.step (by decide) hord (by omega) (by omega) HPB.out HBEST.out hb
      have hile:j<=i':=by rcases hst with ⟨rfl,_⟩|⟨hlt,_⟩<;>omega
      clear hst hdn
      have HB:=Lib.hid hb
      clear hb
      go_upto_region 8 with (go_at_call 452;refine (hls _ hp).mono ?_;rintro e w1 ⟨rfl,hp1,hk1⟩)
      go_wp2_with (first
       | (go_at_call 452;refine (hls2 _ hp1).mono ?_;rintro e w2 ⟨rfl,hp2,hk2⟩)
       | (go_at_call 455;refine (hsw _ hp2).mono ?_;rintro e w3 ⟨f2,rfl,hp3,hk3,ho3⟩))
      have kp3:Keeps (ga::(pfp q ao++Fc)) w w3:=((kp.trans hk1 (fun b hb=>.inl (by simp [hb]))).trans hk2 (fun b hb=>.inl (by simp [hb]))).trans hk3 (fun b hb=>.inl (by simp at hb ⊢;rcases hb with rfl|hb;exact .inl rfl;exact .inr (.inl hb)))
      go_roundg (m - c)
      case measure=>have:=HK.out;omega
      case rel=>exact ⟨c,sw v' i' c,f2,rfl,rfl,by omega,hp3,hmv.trans (PMoved.sw hi' (by omega) ho3) hm,kp3,.inr ⟨by omega,hst2⟩⟩
   .have e2:decide ((d:Int)<(m:Int))=false:=by rw [decide_eq_false_iff_not];omega
    have e3:decide (d<m)=false:=by rw [decide_eq_false_iff_not];omega
    have hbest:∀jj,0<jj->jj<m->par 2 jj=i'->jj≠c->ahead E (v' c) (v' jj)=true:=by
     intro jj h1 h2 h3 h4
     have:=(par_range (by decide) h1).1 h3
     have:=HC.out;have:=HD.out;omega
    have HBEST:=Lib.hid hbest
    have HPB:=Lib.hid hpc
    clear hbest hpc
    have hls2:=fun u (hu:PileOk u p pc ga q ao ca vP Fc cap hs E n v' f')=>pile_less u p pc ga q ao ca vP Fc cap hs E n v' f' hu c i' (by omega) (by omega) hEv
    have hsw:=fun u (hu:PileOk u p pc ga q ao ca vP Fc cap hs E n v' f')=>pile_swap u p pc ga q ao ca vP Fc cap hs E n v' f' hu i' c (by omega) (by omega) (by omega)
    cases hb:ahead E (v' c) (v' i') with
    | false =>
     rw [hb] at hls2
     have HB:=Lib.hid hb
     clear hb
     go_upto_region 8 with fail
     go_wp2_with (go_at_call 452;refine (hls2 _ hp).mono ?_;rintro e w2 ⟨rfl,hp2,hk2⟩)
     go_ret
     refine ⟨v',f',bb,rfl,hp2,hmv,kp.trans hk2 (fun b hb=>.inl (by simp [hb])),?_⟩
     have hstop:∀jj,0<jj->jj<m->par 2 jj=i'->ahead E (v' i') (v' jj)=true:=by
      intro jj h1 h2 h3
      have hib:ahead E (v' i') (v' c)=true:=by
       rcases hord.tot i' c hi' (by omega) (by omega) with h|h
       .exact h
       .rw [HB.out] at h;cases h
      by_cases e:jj=c
      .rw [e];exact hib
      .exact ahead_tr hib (HBEST.out jj h1 h2 h3 e)
     rcases hst with ⟨rfl,rfl,h⟩|⟨hlt,h⟩
     .refine ⟨fun e=>?_,fun _=>⟨rfl,fun h=>h.stop hstop⟩⟩
      have:=HBB.out
      rw [e,decide_eq_true_iff] at this
      omega
     .refine ⟨fun _=>h.stop hstop,fun e=>?_⟩
      have:=HBB.out
      rw [e,decide_eq_false_iff_not] at this
      omega
    | true =>
     rw [hb] at hls2
     have hdn:HeapDown 2 (ahead E) v' m i':=by
      rcases hst with ⟨rfl,rfl,h|h⟩|⟨hlt,h⟩
      .exact h
      .have:=h.1 c (by omega) (by omega) (by omega)
       rw [HPB.out] at this
       rw [hord.asym hi' (by omega) this] at hb
       cases hb
      .exact h
     have hst2:=hdn.step (by decide) hord (by omega) (by omega) HPB.out HBEST.out hb
     have hile:j<=i':=by rcases hst with ⟨rfl,_⟩|⟨hlt,_⟩<;>omega
     clear hst hdn
     have HB:=Lib.hid hb
     clear hb
     go_upto_region 8 with fail
     go_wp2_with (first
      | (go_at_call 452;refine (hls2 _ hp).mono ?_;rintro e w2 ⟨rfl,hp2,hk2⟩)
      | (go_at_call 455;refine (hsw _ hp2).mono ?_;rintro e w3 ⟨f2,rfl,hp3,hk3,ho3⟩))
     have kp3:Keeps (ga::(pfp q ao++Fc)) w w3:=(kp.trans hk2 (fun b hb=>.inl (by simp [hb]))).trans hk3 (fun b hb=>.inl (by simp at hb ⊢;rcases hb with rfl|hb;exact .inl rfl;exact .inr (.inl hb)))
     go_roundg (m - c)
     case measure=>have:=HK.out;omega
     case rel=>exact ⟨c,sw v' i' c,f2,rfl,rfl,by omega,hp3,hmv.trans (PMoved.sw hi' (by omega) ho3) hm,kp3,.inr ⟨by omega,hst2⟩⟩
end
end Go.Proofs.YtkdbjelhkfdfjaaGreatDoor

