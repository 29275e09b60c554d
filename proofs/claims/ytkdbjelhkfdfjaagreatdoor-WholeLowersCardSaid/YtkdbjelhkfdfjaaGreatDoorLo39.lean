/-
  Contracts that the law rests on. Conditions: none.
-/
import Derived.Test.YtkdbjelhkfdfjaaGreatDoorLo33
import Derived.Test.YtkdbjelhkfdfjaaGreatDoorLo38
set_option linter.unusedVariables false
set_option maxRecDepth 100000
set_option maxHeartbeats 32000000
namespace Go.Proofs.YtkdbjelhkfdfjaaGreatDoor
open Go.RowKit
theorem Par.irr {E:Ent} {U:Nat->Option Nat} (h:Par E U):∀y,U y≠some y:=fun y e=>by
 have:=(h y y e).2
 rw [ahead_irr] at this;cases this
theorem Pair.perm {E:Ent} {K:Nat->List Nat} {kid next back U top:Nat->Option Nat} {h:Nat} {l l':List Nat} (z:Pair E K kid next back U h l top) (hm:∀y,y∈l'↔y∈l) (hn:l'.Nodup):Pair E K kid next back U h l' top :=
 ⟨z.ties,z.par,fun y=>(hm y).trans (z.here y),hn,z.apart⟩
section
variable (w:World) (F:List Nat) (p cap hs:Nat) (E:Ent)
theorem pair_decrease (c:PairAt w F p cap hs E) (x h q:Nat) (k k':Int) (he:E x=some (h,k,q)) (hk:k'<=k) (hw:(Lit.int .i64 k').wf=true) :
  Calls Tryz.prog 370 #[.pointer (some ⟨p,0,none⟩),.int .i64 x,.agg #[.int .i64 k',.int .u64 (q:Int)]] w (PairSt w F p cap hs (put E x (some (h,k',q)))):=by
 obtain ⟨pc,gt,gT,cT,Fc,K,kid,next,back,U,top,rfl,m,tr,ng,t⟩:=c
 have hbh:=m.ce.ok.bh
 have hx:=m.ce.ok.lt x (by rw [he];rfl)
 obtain ⟨h1,h2⟩:=m.ce.ok.heap x h _ he
 have hxi:isIn E h x:=⟨_,he⟩
 obtain ⟨w0,hw0⟩:∃w0,w0=w.alloc (.cells #[.int .i64 k',.int .u64 (q:Int)] 104 (0,0)):=⟨_,rfl⟩
 obtain ⟨eb,heb⟩:∃eb,eb=w.heap.size:=⟨_,rfl⟩
 have k0:Keeps [] w w0:=by rw [hw0];exact (Keeps.refl _ _).alloc _
 have b0:w0.heap[eb]?=some (.cells #[.int .i64 k',.int .u64 (q:Int)] 104 (0,0)):=by rw [hw0,heb];exact blk_alloc_new _
 have e0:w0.cell? ⟨eb,0,none⟩=some (.int .i64 k'):=by rw [cell_of_blk b0];rfl
 have e1:w0.cell? ⟨eb,1,none⟩=some (.int .u64 (q:Int)):=by rw [cell_of_blk b0];rfl
 have m0:=m.keep k0 (by simp)
 have d0:=m0.c0
 have hlow:=cells_lower w0.drew Fc pc cap hs E (m0.ce.keep ((Keeps.refl [] w0).drew) (by simp)) x h q k k' he hk hw
 have hne:=m.ne
 have hgn:=ng
 simp only [List.mem_cons,not_or] at hgn
 obtain ⟨g1,g3,g5⟩:=hgn
 have hmid:∀w1,CellsAt w1 Fc pc cap hs (put E x (some (h,k',q)))->Keeps Fc w0.drew w1->PairMid w1 p pc gt (.slice (some ⟨gT,0,none⟩) (hs+1) cT) Fc cap hs (put E x (some (h,k',q))) kid next back∧TopRow w1 gT (hs+1) cT top∧Keeps Fc w w1:=fun w1 hc1 k1=>by
  have kk:Keeps Fc w w1:=((k0.trans ((Keeps.refl [] w0).drew) (by simp)).mono (by simp)).trans k1 (fun b hb=>.inl hb)
  exact ⟨m.cells hc1 kk,tr.keep kk g5,kk⟩
 have hhome:=fun u (hu:CellsAt u Fc pc cap hs (put E x (some (h,k',q))))=>cells_home u Fc pc cap hs _ hu x h ((isIn_low he k' h x).2 hxi)
 have HM:=Lib.hid hmid
 have HH:=Lib.hid hhome
 have HE:=Lib.hid he
 have HT:=Lib.hid t
 have HN:=Lib.hid hne
 have HX:=Lib.hid hxi
 have HG:=Lib.hid ng
 clear hmid hhome m m0 tr t hne b0 k0 he hxi ng
 go_enter Tryz.func370,Tryz.ntmps370
 go_upto_region 1 with fail
 rw [<-hw0,<-heb]
 clear hw0 heb
 go_region_law (first
  | (go_simp;go_at_call 309;refine hlow.mono ?_;rintro e w1 ⟨rfl,hc1,k1⟩;obtain ⟨m1,tr1,kk1⟩:=HM.out w1 hc1 k1;have M1:=Lib.hid m1;have T1:=Lib.hid tr1;have K1:=Lib.hid kk1;clear hc1 k1 m1 tr1 kk1))
 all_goals
  clear hlow e0 e1 d0
  have d0:=M1.out.c0
  go_upto_region 4 with (go_at_call 302;refine (HH.out w1 M1.out.ce).mono ?_;rintro e w2 ⟨rfl,a,rfl⟩;clear d0)
  have m2:=M1.out.drewN a
  have tr2:TopRow (w1.drewN a) gT (hs+1) cT top:=T1.out.keep ((Keeps.refl [] w1).drewN a) (by simp)
  have k2:Keeps Fc w (w1.drewN a):=K1.out.drewN a
  generalize w1.drewN a=w2 at *
  clear M1 T1 K1
  have d2:=m2.c2
  have d3:=tr2.at (i:=h) (by omega)
  have hhs3:(h:Int)<((hs+1:Nat):Int):=by omega
  have hhs4:(h:Int)<(hs:Int)+1:=by omega
  cases hu:U x with
  | none =>
   have htop:top h=some x:=(HT.out.all h x).2 ⟨HX.out,hu⟩
   have hz:PairSt w (p::gt::gT::Fc) p cap hs (put E x (some (h,k',q))) (.returned (.bool true)) w2:=⟨rfl,⟨pc,gt,gT,cT,Fc,K,kid,next,back,U,top,rfl,m2,tr2,HG.out,HT.out.low hu HE.out hk⟩,k2.mono (fun b hb=>.inl (by simp [hb]))⟩
   have HZ:=Lib.hid hz
   rw [htop,oZ_some] at d3
   clear hz m2 tr2 k2 hu htop
   go_wp2_with fail
   go_ret
   exact HZ.out
  | some q0 =>
   have hnt:top h≠some x:=fun e=>by rw [((HT.out.all h x).1 e).2] at hu;cases hu
   have hnz:(oZ (top h)==(x:Int))=false:=by
    rw [beq_eq_false_iff_ne]
    intro c
    cases hc:top h with
    | none=>rw [hc,oZ_none] at c;omega
    | some r=>rw [hc,oZ_some] at c;have e2:r=x:=(by omega);exact hnt (by rw [hc,e2])
   obtain ⟨i,hi⟩:=List.getElem?_of_mem ((HT.out.ties.mem q0 x).2 hu)
   have hoff:=off_calls w2 p pc gt _ Fc cap hs _ kid next back m2 K U HT.out.ties HT.out.par.irr q0 x i hi hx
   have hpl:=(HT.out.off hi HX.out).low (upd_same _ _ _) HE.out hk
   have M2:=Lib.hid m2
   have T2:=Lib.hid tr2
   have K2:=Lib.hid k2
   have HPL:=Lib.hid hpl
   have HOZ:Hid (∃zt,oZ (top h)=zt):=Lib.hid ⟨_,rfl⟩
   obtain ⟨zt,hzt⟩:=HOZ.out
   rw [hzt] at d3 hnz
   have HZT:=Lib.hid hzt
   clear m2 tr2 k2 hu hpl hnt hi hzt HOZ
   go_upto_region 6 with (go_at_call 377;refine hoff.mono ?_;rintro e w3 ⟨rfl,t3,k3⟩;have T3:=Lib.hid t3;have K3:=Lib.hid k3;clear t3 k3)
   clear hoff d2 d3
   obtain ⟨⟨a1,a2⟩,cd⟩:=HN.out
   have m3:=M2.out.ties T3.out K3.out
   have kw3:Keeps (gt::Fc) w w3:=(K2.out.mono (T:=gt::Fc) (fun b hb=>.inl (by simp [hb]))).trans K3.out (by simp)
   have tr3:=T2.out.keep K3.out (by simpa using g3)
   have m5:=m3.keep (S:=[]) (w':=w3.drew) ⟨rfl,rfl,rfl,Nat.le_refl _,fun _ _ _=>rfl⟩ (by simp)
   have d2:=m3.c2
   have d3:=tr3.at (i:=h) (by omega)
   have d2':=m5.c2
   have d3':=(tr3.like (w':=w3.drew) rfl).at (i:=h) (by omega)
   rw [HZT.out] at d3 d3'
   have hlk:=link_top w3.drew p pc gt _ Fc cap hs _ h top x ⟨_,_,_,_,_,m5,by simpa using HPL.out,by simp⟩
   rw [HZT.out] at hlk
   have hfin:∀(w5:World) (c:Nat),PairL w5 p pc gt (.slice (some ⟨gT,0,none⟩) (hs+1) cT) Fc cap hs (put E x (some (h,k',q))) h top [] [c]->Keeps (gt::Fc) w3.drew w5 ->
     w5.cell? ⟨p,2,none⟩=some (.slice (some ⟨gT,0,none⟩) (hs+1) cT)∧w5.cell? ⟨gT,h,none⟩=some (.int .i64 zt)∧w5.frozen? ⟨gT,h,none⟩=false∧PairSt w (p::gt::gT::Fc) p cap hs (put E x (some (h,k',q))) (.returned (.bool true)) (w5.setCell ⟨gT,h,none⟩ (.int .i64 (oZ (some c)))):=by
    rintro w5 c ⟨K',kid',next',back',U',m6,z6,_⟩ k6
    simp only [List.append_nil] at z6
    have tr6:=(tr3.like (w':=w3.drew) rfl).keep k6 (by simp;exact ⟨g3,g5⟩)
    have k7:Keeps [gT] w5 (w5.setCell ⟨gT,h,none⟩ (.int .i64 (oZ (some c)))):=(Keeps.refl _ _).setCell (.inl (by simp)) _
    refine ⟨m6.c2,by rw [tr6.at (by omega),HZT.out],tr6.frozen _,rfl,⟨pc,gt,gT,cT,Fc,K',kid',next',back',U',upd top h (some c),rfl,m6.keep k7 ?_,tr6.set (by omega) (by omega) (some c),HG.out,z6.shut fun y=>?_⟩,?_⟩
    .intro b hb e
     simp only [List.mem_cons,List.not_mem_nil,or_false] at e
     subst e
     exact HG.out hb
    .simp [eq_comm]
    .exact (((kw3.mono (T:=p::gt::gT::Fc) (fun b hb=>.inl (by simp only [List.mem_cons] at hb ⊢;rcases hb with c|c<;>simp [c]))).drew).trans k6 (fun b hb=>.inl (by simp only [List.mem_cons] at hb ⊢;rcases hb with c|c<;>simp [c]))).trans k7 (by simp)
   have HF:=Lib.hid hfin
   clear hfin m3 m5 tr3 kw3 M2 T2 K2 T3 K3 HPL HN
   go_region_law (first
    | (go_simp;go_at_call 378;refine hlk.mono ?_;rintro e w5 ⟨c,rfl,s5,k5⟩;obtain ⟨d6,d7,f7,hfi⟩:=HF.out w5 c s5 k5;clear s5 k5))
   all_goals
    go_wp2
    go_ret
    exact ⟨rfl,hfi.2.1.keep (S:=[]) ⟨rfl,rfl,rfl,Nat.le_refl _,fun _ _ _=>rfl⟩ (by simp),hfi.2.2.trans (T:=[]) ⟨rfl,rfl,rfl,Nat.le_refl _,fun _ _ _=>rfl⟩ (by simp)⟩
theorem link_rest (pc gt:Nat) (vT:Value) (Fc:List Nat) (h:Nat) (top:Nat->Option Nat) (x r:Nat) (C:Option Nat) (s:PairL w p pc gt vT Fc cap hs E h ⟨top,[r]⟩ [x] (x::C.toList)) :
  Calls Tryz.prog 378 #[.pointer (some ⟨p,0,none⟩),.int .i64 (r:Int),.int .i64 (oZ C)] w fun e w'=>∃c:Nat,e=.returned (.int .i64 (c:Int))∧PairL w' p pc gt vT Fc cap hs E h top [x] [x,c]∧Keeps (gt::Fc) w w':=by
 cases C with
 | none =>
  refine (link_one w p r).mono ?_
  rintro e w' ⟨rfl,rfl⟩
  exact ⟨r,rfl,s,Keeps.refl _ _⟩
 | some d =>
  have s2:PairL w p pc gt vT Fc cap hs E h top [x] [x,d,r]:=s
  have hn:=s2.nd
  have h1:r≠d:=by rintro rfl;simp at hn
  have h2:r∉[x]:=by intro c;simp at c;subst c;simp at hn
  have h3:d∉[x]:=by intro c;simp at c;subst c;simp at hn
  simp only [oZ_some]
  refine (link_two w p pc gt vT Fc cap hs E h top [x] _ s2 r d (by simp) (by simp) h1 h2 h3).mono ?_
  rintro e w' ⟨c,d',rfl,hcd,hall,k⟩
  simp only [List.mem_cons,List.not_mem_nil,or_false] at h2 h3
  refine ⟨c,rfl,hall [x,c] ?_ fun y=>?_,k⟩
  .rcases hcd with ⟨rfl,rfl⟩|⟨rfl,rfl⟩
   .simp;exact fun e=>h2 e.symm
   .simp;exact fun e=>h3 e.symm
  .simp only [List.mem_cons,List.not_mem_nil,or_false]
   rcases hcd with ⟨rfl,rfl⟩|⟨rfl,rfl⟩
   .constructor
    .rintro (rfl|rfl)
     .exact ⟨.inl rfl,fun e=>h3 e.symm⟩
     .exact ⟨.inr (.inr rfl),h1⟩
    .rintro ⟨c1|c1|c1,c2⟩
     .exact .inl c1
     .exact absurd c1 c2
     .exact .inr c1
   .constructor
    .rintro (rfl|rfl)
     .exact ⟨.inl rfl,fun e=>h2 e.symm⟩
     .exact ⟨.inr (.inl rfl),fun e=>h1 e.symm⟩
    .rintro ⟨c1|c1|c1,c2⟩
     .exact .inl c1
     .exact .inr c1
     .exact absurd c1 c2
theorem pair_delete_in (pc gt gT cT:Nat) (Fc:List Nat) (K:Nat->List Nat) (kid next back U top:Nat->Option Nat) (m:PairMid w p pc gt (.slice (some ⟨gT,0,none⟩) (hs+1) cT) Fc cap hs E kid next back) (tr:TopRow w gT (hs+1) cT top) (ng:gT∉p::gt::Fc) (t:Pairs E K kid next back U top) (h x q0:Nat) (hxi:isIn E h x) (hu:U x=some q0) :
  Calls Tryz.prog 371 #[.pointer (some ⟨p,0,none⟩),.int .i64 x] w (PairSt w (p::gt::gT::Fc) p cap hs (put E x none)):=by
 have hn:=fun y (hy:(E y).isSome)=>m.ce.ok.lt y hy
 have hx:=hn x hxi.some
 obtain ⟨hk0,hk1⟩:=id hxi
 obtain ⟨h1,h2⟩:=m.ce.ok.heap x h _ hk1
 have hhome:=cells_home w Fc pc cap hs E m.ce x h hxi
 have hdrop:=fun u (hu:CellsAt u Fc pc cap hs E)=>cells_drop u Fc pc cap hs E hu x h hxi
 obtain ⟨r,hrU,hrI⟩:=t.par.top_of hn hxi
 have htop:top h=some r:=(t.all h r).2 ⟨hrI,hrU⟩
 have hrx:r≠x:=fun e=>by rw [e,hu] at hrU;cases hrU
 have hrb:((r:Int)==(x:Int))=false:=by rw [beq_eq_false_iff_ne];omega
 obtain ⟨i,hi⟩:=List.getElem?_of_mem ((t.ties.mem q0 x).2 hu)
 have hgn:=ng
 simp only [List.mem_cons,not_or] at hgn
 obtain ⟨g1,g3,g5⟩:=hgn
 have hpair:=(t.off hi hxi).perm (l':=[x,r]) (fun y=>by rw [htop];simp [or_comm]) (by simp;exact fun e=>hrx e.symm)
 have hne:=m.ne
 have hmid:∀a w2,TieAt w2 gt cap (offKid kid next q0 x) (offNext kid next back q0 x) (offBack next back x)->Keeps [gt] (w.drewN a) w2 ->
   w2.cell? ⟨p,2,none⟩=some (.slice (some ⟨gT,0,none⟩) (hs+1) cT)∧w2.cell? ⟨gT,h,none⟩=some (.int .i64 (r:Int)) ∧
   Hid (Calls Tryz.prog 379 #[.pointer (some ⟨p,0,none⟩),.int .i64 x] w2.drew fun e w3=>∃C:Option Nat,e=.returned (.int .i64 (oZ C)) ∧
    w3.cell? ⟨p,2,none⟩=some (.slice (some ⟨gT,0,none⟩) (hs+1) cT)∧w3.cell? ⟨gT,h,none⟩=some (.int .i64 (r:Int)) ∧
    Hid (Calls Tryz.prog 378 #[.pointer (some ⟨p,0,none⟩),.int .i64 (r:Int),.int .i64 (oZ C)] w3 fun e w4=>∃c:Nat,e=.returned (.int .i64 (c:Int)) ∧
     w4.cell? ⟨p,2,none⟩=some (.slice (some ⟨gT,0,none⟩) (hs+1) cT)∧w4.cell? ⟨gT,h,none⟩=some (.int .i64 (r:Int))∧w4.frozen? ⟨gT,h,none⟩=false ∧
     Hid (∀w5:World,w5.heap=(w4.setCell ⟨gT,h,none⟩ (.int .i64 (c:Int))).heap->w5.os=w4.os->w5.tape=w4.tape->w5.output=w4.output ->
      w5.cell? ⟨p,0,none⟩=some (.pointer (some ⟨pc,0,none⟩))∧CellsAt w5 Fc pc cap hs E∧Hid (∀w6,CellsAt w6 Fc pc cap hs (put E x none)->Keeps Fc w5 w6->PairSt w (p::gt::gT::Fc) p cap hs (put E x none) (.returned (.bool true)) w6)))):=by
  intro a w2 t2 k2
  have m2:=(m.drewN a).ties t2 k2
  have tr2:=(tr.keep ((Keeps.refl [] w).drewN a) (by simp)).keep k2 (by simpa using g3)
  have kw2:Keeps (gt::Fc) w w2:=(k2.ofDrewN).mono (fun b hb=>.inl (by simp at hb;simp [hb]))
  refine ⟨m2.c2,by rw [tr2.at (by omega),htop];rfl,?_⟩
  have m2d:=m2.keep (S:=[]) (w':=w2.drew) ⟨rfl,rfl,rfl,Nat.le_refl _,fun _ _ _=>rfl⟩ (by simp)
  refine (shed_calls w2.drew p pc gt _ Fc cap hs E h ⟨top,[r]⟩ _ _ _ _ _ m2d x hpair).mono ?_
  rintro e w3 ⟨C,rfl,s3,k3⟩
  have kw3:=kw2.trans k3.ofDrew (fun b hb=>.inl hb)
  have tr3:=(tr.keep kw3 (by simp;exact ⟨g3,g5⟩))
  obtain ⟨_,_,_,_,_,m3,_,_⟩:=id s3
  refine ⟨C,rfl,m3.c2,by rw [tr3.at (by omega),htop];rfl,?_⟩
  refine (link_rest w3 p cap hs E pc gt _ Fc h top x r C s3).mono ?_
  rintro e w4 ⟨c,rfl,⟨K',kid',next',back',U',m4,z4,hz4⟩,k4⟩
  simp only [List.append_nil] at z4
  have kw4:=kw3.trans k4 (fun b hb=>.inl hb)
  have tr4:=(tr.keep kw4 (by simp;exact ⟨g3,g5⟩))
  refine ⟨c,rfl,m4.c2,by rw [tr4.at (by omega),htop];rfl,tr4.frozen _,fun w5 e1 e2 e3 e4=>?_⟩
  have kz:Keeps [] (w4.setCell ⟨gT,h,none⟩ (.int .i64 (c:Int))) w5:=⟨e2,e3,e4,by rw [e1];exact Nat.le_refl _,fun j _ _=>by rw [e1]⟩
  have ks:Keeps [gT] w4 w5:=((Keeps.refl _ _).setCell (p:=⟨gT,h,none⟩) (.inl (by simp)) _).trans kz (by simp)
  have m5:=m4.keep ks (fun b hb e=>by simp at e;subst e;exact ng hb)
  have tr5:=(tr4.set (i:=h) (by omega) (by omega) (some c)).keep kz (by simp)
  refine ⟨m5.c0,m5.ce,fun w6 c6 k6=>⟨rfl,⟨pc,gt,gT,cT,Fc,K',kid',next',back',U',upd top h (some c),rfl,m5.cells c6 k6,tr5.keep k6 g5,ng,z4.drop (by simp) (hz4 x (by simp)) fun y=>?_⟩,?_⟩⟩
  .have hnd:=(List.nodup_cons.1 z4.nd).1
   simp only [List.mem_cons,List.not_mem_nil,or_false,Option.some.injEq] at hnd ⊢
   constructor
   .rintro ⟨c1|c1,c2⟩
    .exact absurd c1 c2
    .exact c1.symm
   .rintro rfl;exact ⟨.inr rfl,fun e=>hnd e.symm⟩
  .exact ((kw4.mono (T:=p::gt::gT::Fc) (fun b hb=>.inl (by simp only [List.mem_cons] at hb ⊢;rcases hb with c|c<;>simp [c]))).trans ks (by simp)).trans k6 (fun b hb=>.inl (by simp [hb]))
 have hoff:=fun a=>off_calls (w.drewN a) p pc gt _ Fc cap hs E kid next back (m.drewN a) K U t.ties t.par.irr q0 x i hi hx
 have d0:=m.c0
 have d2:=m.c2
 have d3:=tr.at (i:=h) (by omega)
 rw [htop,oZ_some] at d3
 have hhs3:(h:Int)<((hs+1:Nat):Int):=by omega
 have hhs4:(h:Int)<(hs:Int)+1:=by omega
 have HM:=Lib.hid hmid
 have HOFF:=Lib.hid hoff
 have HDROP:=Lib.hid hdrop
 clear hmid hoff hdrop hpair t tr ng htop hn hk1 m hne hu hrU hrI hi hxi
 go_enter Tryz.func371,Tryz.ntmps371
 go_upto_region 4 with (go_at_call 302;refine hhome.mono ?_;rintro e w1 ⟨rfl,n1,rfl⟩)
 go_upto_region 8 with (go_at_call 377;refine (HOFF.out n1).mono ?_;rintro e w2 ⟨rfl,t2,k2⟩;obtain ⟨y2,y3,hshed⟩:=HM.out n1 w2 t2 k2;clear t2 k2)
 clear d0 d2 d3 hhome HOFF HM
 have y2':w2.drew.cell? ⟨p,2,none⟩=some (.slice (some ⟨gT,0,none⟩) (hs+1) cT):=y2
 have y3':w2.drew.cell? ⟨gT,h,none⟩=some (.int .i64 (r:Int)):=y3
 go_region_law (first
  | (go_simp;go_at_call 379;refine hshed.out.mono ?_;rintro e w3 ⟨C,rfl,z2,z3,hlink⟩)
  | (go_simp;go_at_call 378;refine hlink.out.mono ?_;rintro e w4 ⟨c,rfl,v2,v3,v4,hend⟩))
 all_goals
  clear hshed hlink y2 y3 y2' y3' z2 z3
  obtain ⟨w5,hw5⟩:∃w5,w5=w4.setCell ⟨gT,h,none⟩ (.int .i64 (c:Int)):=⟨_,rfl⟩
  obtain ⟨u0,u1,u2⟩:=hend.out w5 (by subst hw5;rfl) (by subst hw5;rfl) (by subst hw5;rfl) (by subst hw5;rfl)
  rw [<-hw5]
  clear hw5 hend v2 v3 v4
  go_wp2_with (go_at_call 312;refine (HDROP.out w5 u1).mono ?_;rintro e w6 ⟨rfl,c6,k6⟩)
  go_ret
  exact u2.out w6 c6 k6
theorem pair_delete_any (c:PairAt w F p cap hs E) (h x:Nat) (hx:isIn E h x) :
  Calls Tryz.prog 371 #[.pointer (some ⟨p,0,none⟩),.int .i64 x] w (PairSt w F p cap hs (put E x none)):=by
 obtain ⟨pc,gt,gT,cT,Fc,K,kid,next,back,U,top,rfl,m,tr,ng,t⟩:=id c
 cases hu:U x with
 | some q0=>exact pair_delete_in w p cap hs E pc gt gT cT Fc K kid next back U top m tr ng t h x q0 hx hu
 | none=>exact pair_delete w _ p cap hs E c h x (t.first (fun y hy=>m.ce.ok.lt y hy) ((t.all h x).2 ⟨hx,hu⟩))
end
end Go.Proofs.YtkdbjelhkfdfjaaGreatDoor

