/-
  Contracts that the law rests on. Conditions: none.
-/
import Derived.Test.YtkdbjelhkfdfjaaGreatDoorLo33
import Derived.Test.YtkdbjelhkfdfjaaGreatDoorLo35
set_option linter.unusedVariables false
set_option maxRecDepth 100000
set_option maxHeartbeats 32000000
namespace Go.Proofs.YtkdbjelhkfdfjaaGreatDoor
open Go.RowKit
section
variable (w:World) (p pc ga q:Nat) (ao:Option Addr) (ca:Nat) (vP:Value) (Fc:List Nat) (cap hs:Nat) (E:Ent) (n:Nat) (v:Nat->Nat) (f:Nat->Int)
def HFix (e:Ending) (w':World):Prop :=
 ∃v' f',e=.returned (.tuple #[])∧PileOk w' p pc ga q ao ca vP Fc cap hs E n v' f'∧Same v v' n∧Heap' 2 (ahead E) v' n∧Keeps (ga::(pfp q ao++Fc)) w w'∧(∀y,(∀k,k<n->v k≠y)->f' y=f y)
theorem heap_fix (h:PileOk w p pc ga q ao ca vP Fc cap hs E n v f) (i:Nat) (hi:i<n) (hE:∀j,j<n->(E (v j)).isSome) (hn:n<=65536) (hat:HeapAt 2 (ahead E) v n i) :
  Calls Tryz.prog 440 #[.iface 478 (.pointer (some ⟨q,0,none⟩)),.int .i64 i] w (HFix w p pc ga q ao ca vP Fc cap hs E n v f):=by
 have hle:=pile_len w p pc ga q ao ca vP Fc cap hs E n v f h
 have hm1:=fun (u:World)=>pile_m3 587 ⟨q,0,none⟩ u
 have hord:Ord (ahead E) v n:=ordOf h.inj hE
 have hhd:HeapDown 2 (ahead E) v n i∨HeapUp 2 (ahead E) v n i:=by
  by_cases h0:i=0
  .exact .inl (hat.down (by decide) hord hi (.inl h0))
  .cases hb:ahead E (v i) (v (par 2 i)) with
   | false=>exact .inl (hat.down (by decide) hord hi (.inr hb))
   | true=>exact .inr (hat.up (by decide) hord hi (by omega) hb)
 have hgo:i=0∨ahead E (v i) (v (par 2 i))=false->HeapDown 2 (ahead E) v n i:=fun c=>hat.down (by decide) hord hi c
 have hdn:=pile_down w p pc ga q ao ca vP Fc cap hs E n n v f h i hi (Nat.le_refl _) hE hn hhd
 have hup:=fun u f2 (hu:PileOk u p pc ga q ao ca vP Fc cap hs E n v f2)=>pile_up u p pc ga q ao ca vP Fc cap hs E n n _ _ hu i hi (Nat.le_refl _) hE hn hat
 have HGO:=Lib.hid hgo
 clear h hat hord hhd hgo hE
 go_enter Tryz.func440,Tryz.ntmps440
 go_upto_if 9 with (first
  | (go_at_call 443;refine hle.mono ?_;rintro e w1' ⟨rfl,rfl⟩)
  | (go_at_call 444;refine hdn.mono ?_;rintro e w2 ⟨v2,f3,bb,rfl,hp2,hm2',hk2,ht2,hf2⟩))
 cases bb with
 | true =>
  have hh2:=ht2 rfl
  have HZ:Hid (HFix w p pc ga q ao ca vP Fc cap hs E n v f (.returned (.tuple #[])) w2):=Lib.hid ⟨v2,f3,rfl,hp2,hm2'.same,hh2,hk2,hm2'.off⟩
  clear ht2 hf2 hm2' hh2 hp2 hk2
  go_wp2_with fail
  go_end0
  exact HZ.out
 | false =>
  obtain ⟨rfl,hh2⟩:=hf2 rfl
  have HH:=Lib.hid hh2
  have HM:=Lib.hid hm2'
  have HK:=Lib.hid hk2
  clear ht2 hf2 hh2 hm2' hk2
  go_wp2_with (go_at_call 445;refine (hup _ _ hp2).mono ?_;rintro e w4 ⟨v4,f4,rfl,hp4,hm4,hk4,hr4⟩;have HM4:=Lib.hid hm4;have HR4:=Lib.hid hr4;clear hm4 hr4)
  go_end0
  have hmm:=HM.out.trans HM4.out (Nat.le_refl _)
  refine ⟨v4,f4,rfl,hp4,hmm.same,?_,HK.out.trans hk4 (fun b hb=>.inl hb),hmm.off⟩
  rcases HR4.out with ⟨rfl,hst⟩|hh4
  .exact HH.out (HGO.out hst)
  .exact hh4
end
section
variable (w:World) (F:List Nat) (p cap hs:Nat) (E:Ent)
theorem shed_decrease (c:ShedAt w F p cap hs E) (x h q:Nat) (k k':Int) (he:E x=some (h,k,q)) (hk:k'<=k) (hw:(Lit.int .i64 k').wf=true) :
  Calls Tryz.prog 433 #[.pointer (some ⟨p,0,none⟩),.int .i64 x,.agg #[.int .i64 k',.int .u64 (q:Int)]] w (ShedIn w F p cap hs (put E x (some (h,k',q)))):=by
 have hlt:=c.lt
 obtain ⟨pc,gr,rc,ga,Fc,R,f,rfl,m⟩:=c
 have hx:isIn E h x:=⟨_,he⟩
 have hbc:=m.ce.ok.bc
 obtain ⟨h1,h2⟩:1<=h∧h<=hs:=m.ce.ok.heap x h _ he
 have hrok:=m.ok h h1 h2
 obtain ⟨i,hi,hvi⟩:=(hrok.mem x).1 hx
 have hsome:=m.isSome h1 h2
 have hxc:x<cap:=m.ce.ok.lt x hx.some
 have hnle:(R h).n<=65536:=by
  have h5:=nodup_len (n:=cap) (l:=(List.range (R h).n).map (R h).v)
   (List.pairwise_map.2 (List.Pairwise.imp_of_mem (fun {a b} ha hb hne e=>hne (hrok.inj a b (List.mem_range.1 ha) (List.mem_range.1 hb) e)) List.nodup_range)) (by
    intro y hy
    obtain ⟨j,hj,rfl⟩:=List.mem_map.1 hy
    exact m.ce.ok.lt _ (hsome j (List.mem_range.1 hj)))
  simp at h5
  omega
 obtain ⟨w0,hw0⟩:∃w0,w0=w.alloc (.cells #[.int .i64 k',.int .u64 (q:Int)] 104 (0,0)):=⟨_,rfl⟩
 obtain ⟨eb,heb⟩:∃eb,eb=w.heap.size:=⟨_,rfl⟩
 have k0:Keeps [] w w0:=by rw [hw0];exact (Keeps.refl _ _).alloc _
 have b0:w0.heap[eb]?=some (.cells #[.int .i64 k',.int .u64 (q:Int)] 104 (0,0)):=by rw [hw0,heb];exact blk_alloc_new _
 have e0:w0.cell? ⟨eb,0,none⟩=some (.int .i64 k'):=by rw [cell_of_blk b0];rfl
 have e1:w0.cell? ⟨eb,1,none⟩=some (.int .u64 (q:Int)):=by rw [cell_of_blk b0];rfl
 have m0:=m.keep k0 (by simp)
 have d0:=m0.c0
 have hlow:=cells_lower w0.drew Fc pc cap hs E (m0.ce.keep ((Keeps.refl [] w0).drew) (by simp)) x h q k k' he hk hw
 have hE':∀j,j<(R h).n->(put E x (some (h,k',q)) ((R h).v j)).isSome:=fun j hj=>by rw [some_low he];exact hsome j hj
 have hinx:∀j,j<(R h).n->j≠i->(R h).v j≠x:=fun j hj hne e=>hne (hrok.inj j i hj hi (e.trans hvi.symm))
 have hat:HeapAt 2 (ahead (put E x (some (h,k',q)))) (R h).v (R h).n i:=by
  refine ⟨fun j hj hn hne hp=>?_,fun j hj hn hp h0=>?_⟩
  .have:=par_lt (d:=2) (by decide) hj
   rw [ahead_put_other (hinx _ (by omega) hp) (hinx _ hn hne)];exact hrok.heap j hj hn
  .have l1:=par_lt (d:=2) (by decide) h0
   have l2:=par_lt (d:=2) (by decide) hj
   have a:=hrok.heap i h0 hi
   have b:=hrok.heap j hj hn
   rw [hp] at b
   rw [ahead_put_other (hinx _ (by omega) (by omega)) (hinx _ hn (by omega))]
   exact ahead_tr a b
 obtain ⟨n1,n2,n3,n4,n5,n6⟩:=m.ne
 have hmid:∀w1,CellsAt w1 Fc pc cap hs (put E x (some (h,k',q)))->Keeps Fc w0.drew w1->∀u:World,u.heap=w1.heap->u.os=w1.os->u.tape=w1.tape->u.output=w1.output ->
   u.cell? ⟨p,0,none⟩=some (.pointer (some ⟨pc,0,none⟩))∧u.cell? ⟨p,1,none⟩=some (.slice (some ⟨gr,0,none⟩) (hs+1) rc)∧u.cell? ⟨p,2,none⟩=some (.slice (some ⟨ga,0,none⟩) cap cap)∧u.cell? ⟨gr,h,none⟩=some (.pointer (some ⟨(R h).p,0,none⟩))∧u.cell? ⟨ga,x,none⟩=some (.int .i64 (i:Int)) ∧
   Hid (Calls Tryz.prog 440 #[.iface 478 (.pointer (some ⟨(R h).p,0,none⟩)),.int .i64 i] u fun e w3=>e=.returned (.tuple #[])∧Hid (ShedIn w (nestF p gr (ga::Fc) hs fun g=>pf (R g)) p cap hs (put E x (some (h,k',q))) (.returned (.bool true)) w3)):=by
  intro w1 hc1 k1 u e1 e2 e3 e4
  have ku:Keeps [] w1 u:=⟨e2,e3,e4,by rw [e1];exact Nat.le_refl _,fun j _ _=>by rw [e1]⟩
  have kk:Keeps Fc w w1:=((k0.trans ((Keeps.refl [] w0).drew) (by simp)).mono (by simp)).trans k1 (fun b hb=>.inl hb)
  have ka:Keeps Fc w u:=kk.trans ku (by simp)
  have hp:=ka.blk m.blk n4
  have hpo:=(m.mem h h1 h2).cells (hc1.keep ku (by simp)) ka
  have hrow:=ka.row m.rows (by assumption)
  have hpl:=(hpo.pl hi).1
  rw [hvi] at hpl
  refine ⟨by rw [cell_of_blk hp];rfl,by rw [cell_of_blk hp];rfl,by rw [cell_of_blk hp];rfl,?_,hpl,?_⟩
  .rw [hrow.cellAt h (by omega)];exact rowsV_at _ _ _ h1 (by omega)
  .refine (heap_fix u p pc ga (R h).p (R h).ao (R h).ca _ Fc cap hs _ (R h).n (R h).v f hpo i hi hE' hnle hat).mono ?_
   rintro e w3 ⟨v',f',rfl,hp3,hs3,hh3,k3,ho3⟩
   refine ⟨rfl,?_⟩
   have hch:=m.change h1 h2 (w':=w3) (E':=put E x (some (h,k',q))) (r:={ p:=(R h).p,mb:=0,ao:=(R h).ao,ca:=(R h).ca,n:=(R h).n,v:=v' }) ((ka.mono (T:=ga::(pf (R h)++Fc)) fun b hb=>.inl (by simp [hb])).trans k3 fun b hb=>.inl hb) rfl
    (fun b hb=>.inl hb) hp3
    ⟨hp3.inj,fun z=>by
     show _↔∃j,j<(R h).n∧v' j=z
     rw [hs3 z,isIn_low he,hrok.mem z],hh3⟩
    (fun g' a b c=>(m.ok g' a b).other (by decide) (fun j hj e=>c (isIn_one (((m.ok g' a b).mem x).2 ⟨j,hj,e⟩) hx)) fun y=>isIn_low he k' g' y)
    (fun g' a b c j hj=>ho3 _ (fun i' hi' e=>c (isIn_one (((m.ok g' a b).mem _).2 ⟨j,hj,e.symm⟩) ((hrok.mem _).2 ⟨i',by omega,rfl⟩))))
   exact ⟨rfl,_,⟨pc,gr,rc,ga,Fc,_,f',rfl,hch.1⟩,hch.2⟩
 have hhome:=fun u (hu:CellsAt u Fc pc cap hs (put E x (some (h,k',q))))=>cells_home u Fc pc cap hs _ hu x h ((isIn_low he k' h x).2 hx)
 have hhs3:(h:Int)<((hs+1:Nat):Int):=by omega
 have hhs4:(h:Int)<(hs:Int)+1:=by omega
 have hx3:(x:Int)<(cap:Int):=by omega
 have HM:=Lib.hid hmid
 have HH:=Lib.hid hhome
 clear hmid hhome hat hE' hinx m m0 hrok hvi hlt hx he b0 k0 hnle hi hsome
 go_enter Tryz.func433,Tryz.ntmps433
 go_upto_region 1 with fail
 rw [<-hw0,<-heb]
 clear hw0 heb
 go_region_law (first
  | (go_simp;go_at_call 309;refine hlow.mono ?_;rintro e w1 ⟨rfl,hc1,k1⟩;have HC1:=Lib.hid hc1;have K1:=Lib.hid k1;clear hc1 k1))
 all_goals
  clear hlow e0 e1 d0
  obtain ⟨d0,_⟩:=HM.out w1 HC1.out K1.out w1 rfl rfl rfl rfl
  go_upto_region 4 with (go_at_call 302;refine (HH.out w1 HC1.out).mono ?_;rintro e w2 ⟨rfl,a,rfl⟩;obtain ⟨_,d1,d2,d3,d4,hfx⟩:=HM.out w1 HC1.out K1.out (w1.drewN a).drew rfl rfl rfl rfl;obtain ⟨_,d1',d2',d3',d4',_⟩:=HM.out w1 HC1.out K1.out (w1.drewN a) rfl rfl rfl rfl;clear d0)
  go_region_law (first
   | (go_simp;go_at_call 440;refine hfx.out.mono ?_;rintro e w3 ⟨rfl,hz⟩))
  all_goals
   go_wp2_with fail
   go_ret
   exact hz.out
end
def SkewRest2 (w:World) (p pc pt gt mb:Nat) (Fc:List Nat) (cap hs:Nat) (E:Ent) (top Lc Rc:Nat->Option Nat) (h:Hd) (s:Value) (w':World):Prop :=
 ∃(C:Option Nat) (L' R' U':Nat->Option Nat),s=.int .i64 (oZ C)∧SkewMid w' p pc pt gt mb Fc cap hs E L' R' U'∧Zip E L' R' U' (fun y=>∃g,top g=some y) Lc Rc h [] C none∧Keeps (gt::Fc) w w'
section
variable (w:World) (F:List Nat) (p cap hs:Nat) (E:Ent)
theorem skew_delete_in (pc pt gt mb:Nat) (Fc:List Nat) (L R U top:Nat->Option Nat) (m:SkewMid w p pc pt gt mb Fc cap hs E L R U) (im:IMap Tryz.prog 3 w mb (topN top hs) (topF top)) (t:Tops E L R U top) (h x q0:Nat) (hxi:isIn E h x) (hu:U x=some q0) :
  Calls Tryz.prog 424 #[.pointer (some ⟨p,0,none⟩),.int .i64 x] w (SkewOut w (p::pt::gt::mb::Fc) p cap hs (put E x none)):=by
 have hn:=fun y (hy:(E y).isSome)=>m.ce.ok.lt y hy
 have hx:=hn x hxi.some
 obtain ⟨hov1,hov2⟩:=t.over hxi.some hu
 have hq0:=hn q0 (ahead_some hov2).1
 have hxq:x≠q0:=(ahead_ne hov2).symm
 have hhome:=cells_home w Fc pc cap hs E m.ce x h hxi
 have hcut:=t.cut2 hxi hu
 have hstart:∀n,HalfCut w p pc pt gt mb Fc cap hs E L R U x false false (w.drewN n):=fun n=>⟨by rw [halfU_none];simpa using m.drewN n,(Keeps.refl _ _).drewN n⟩
 have d0:=m.c0
 have d1:=m.c1
 have hne:=m.ne
 have hchild:=t.child hxi.some hu
 have hrest:∀(w3:World) (C:Option Nat) (L' R' U':Nat->Option Nat),SkewMid w3 p pc pt gt mb Fc cap hs E L' R' U'->Zip E L' R' U' (fun y=>∃g,top g=some y) (upd L x none) (upd R x none) (hdOf E h x q0) [] C none->Keeps (gt::Fc) w w3 ->
   L' q0=L q0∧R' q0=R q0∧U' x=some q0∧(∀r,C=some r->r<cap∧r≠q0∧r≠x∧U' r=none) ∧
   Hid (∀(w5:World) (L2 R2 U2:Nat->Option Nat),SpineLeft w3 pt gt cap L2 R2 U2 w5->((L q0=some x∧L2=upd L' q0 C∧R2=R'∧U2=onU (upd U' x none) C q0)∨(R q0=some x∧L2=L'∧R2=upd R' q0 C∧U2=onU (upd U' x none) C q0)) ->
    CellsAt w5 Fc pc cap hs E∧w5.cell? ⟨p,0,none⟩=some (.pointer (some ⟨pc,0,none⟩))∧Hid (∀w6,CellsAt w6 Fc pc cap hs (put E x none)->Keeps Fc w5 w6->SkewOut w (p::pt::gt::mb::Fc) p cap hs (put E x none) (.returned (.bool true)) w6)):=by
  intro w3 C L' R' U' m3 z3 k3
  obtain ⟨f1,f2⟩:=z3.fxd q0 (.inr hov2)
  rw [upd_other _ _ hxq.symm] at f1 f2
  have hU:U' x=some q0:=by
   rcases hchild with ⟨a,_⟩|⟨a,_⟩
   .exact (z3.bin.left q0 x (f1.trans a)).1
   .exact (z3.bin.right q0 x (f2.trans a)).1
  refine ⟨f1,f2,hU,fun r e=>?_,fun w5 L2 R2 U2 hs5 hc=>?_⟩
  .have g1:=z3.nf r (.inr (.inl e))
   exact ⟨m3.ce.ok.lt r (z3.na r e).2.2.some,fun d=>g1 (.inr (by rw [d];exact hov2)),fun d=>g1 (.inl d),(z3.bin.top r (.inr (.inr (.inl e)))).2⟩
  .have m5:=m3.spine hs5
   refine ⟨m5.ce,m5.c0,fun w6 c6 k6=>?_⟩
   have hhung:=z3.hung hxi hov1 hov2 (upd_same _ _ _) (upd_same _ _ _) (t.noTop hu)
   have hb:Bin E L2 R2 U2 (fun y=>(∃g,top g=some y)∨y=x)∧L2 x=none∧R2 x=none:=by
    rcases hc with ⟨a,rfl,rfl,rfl⟩|⟨a,rfl,rfl,rfl⟩
    .exact hhung.1 (by rw [upd_other _ _ hxq.symm];exact a)
    .exact hhung.2 (by rw [upd_other _ _ hxq.symm];exact a)
   have hfree:∀y,E y=none->U2 y=none:=fun y e=>by
    have e1:=z3.free y e
    have e2:upd U' x none y=none:=by
     by_cases d:y=x
     .subst d;exact upd_same _ _ _
     .rw [upd_other _ _ d];exact e1
    have e3:onU (upd U' x none) C q0 y=none:=by
     cases hC:C with
     | none=>exact e2
     | some r =>
      have:y≠r:=fun d=>by have:=(z3.na r hC).2.2.some;rw [<-d,e] at this;cases this
      rw [show onU (upd U' x none) (some r) q0=upd (upd U' x none) r (some q0) from rfl,upd_other _ _ this];exact e2
    rcases hc with ⟨_,_,_,rfl⟩|⟨_,_,_,rfl⟩
    .exact e3
    .exact e3
   have ht:=hb.1.gone hb.2.1 hb.2.2 t.mine (t.noTop hu) hfree
   obtain ⟨⟨a1,a2,a3,a4⟩,⟨b1,b2,b3⟩,⟨c1,c2⟩,cd⟩:=hne
   have im5:IMap Tryz.prog 3 w5 mb (topN top hs) (topF top):=(im.keep k3 (by simp;exact ⟨fun e=>c1 e.symm,cd⟩)).keep hs5.2 (by simpa using fun e=>c1 e.symm)
   refine ⟨rfl,⟨pc,pt,gt,mb,Fc,L2,R2,U2,top,rfl,m5.cells c6 k6,im5.keep k6 cd,ht⟩,?_⟩
   exact ((k3.mono (T:=p::pt::gt::mb::Fc) (fun b hb=>.inl (by simp only [List.mem_cons] at hb ⊢;rcases hb with c|c<;>simp [c]))).trans hs5.2 (by simp)).trans k6 (fun b hb=>.inl (by simp [hb]))
 have hdrop:=fun u (hu:CellsAt u Fc pc cap hs E)=>cells_drop u Fc pc cap hs E hu x h hxi
 have HB:=Lib.hid t.bin
 have HCUT:=Lib.hid hcut
 have HR:=Lib.hid hrest
 have HSTART:=Lib.hid hstart
 have HDROP:=Lib.hid hdrop
 have HCH:=Lib.hid hchild
 clear hcut hrest hstart t im m hne hn hdrop hchild hu hov1 hov2 hxi
 go_enter Tryz.func424,Tryz.ntmps424
 go_upto_region 4 with (go_at_call 302;refine hhome.mono ?_;rintro e w1 ⟨rfl,n1,rfl⟩)
 go_cut [7] (fun s wc=>SkewRest2 w p pc pt gt mb Fc cap hs E top (upd L x none) (upd R x none) (hdOf E h x q0) s wc)
 case first =>
  have q0:=HSTART.out (n1+1)
  go_region_held3 (fun u=>u.cell? ⟨p,1,none⟩=some (.pointer (some ⟨pt,0,none⟩))) (first|exact HalfCut.c1 (by assumption)|exact SkewMid.c1 (by assumption))
   (first
    | (go_at_call 411;(with_reducible refine (hc_left (by assumption) hx).mono ?_);rintro e w2 ⟨rfl,q⟩)
    | (go_at_call 412;(with_reducible refine (hc_right (by assumption) hx).mono ?_);rintro e w2 ⟨rfl,q⟩)
    | (go_at_call 432;(with_reducible refine (hc_looseL (by assumption) HB.out).mono ?_);rintro e w2 ⟨rfl,q⟩)
    | (go_at_call 432;(with_reducible refine (hc_looseR (by assumption) HB.out).mono ?_);rintro e w2 ⟨rfl,q⟩)
    | (go_at_call 430;(with_reducible refine (skew_merge _ p pc pt gt mb Fc cap hs E _ _ _ _ _ _ _ _ _ (HalfCut.full (by assumption)) HCUT.out).mono ?_);rintro e w2 ⟨C,L',R',U',rfl,m2,z2,k2⟩))
  all_goals
   go_wp2_with fail
   go_meet
   case rel=>exact ⟨C,L',R',U',rfl,m2,z2,(HalfCut.keeps (by assumption)).trans k2 (fun b hb=>.inl hb)⟩
 case rest =>
  obtain ⟨C,L',R',U',rfl,m3,z3,k3⟩:=hcut
  obtain ⟨f1,f2,hU,hCr,hfin⟩:=HR.out wc C L' R' U' m3 z3 k3
  have hup:=sp_Up wc pt gt cap L' R' U' m3.sp x hx
  rw [hU] at hup
  simp only [Option.getD_some,Option.isSome_some] at hup
  have hrq:=sp_Right wc pt gt cap L' R' U' m3.sp q0 hq0
  rw [f2] at hrq
  have hdr:∀a,SpineAt (wc.drewN a) pt gt cap L' R' U':=fun a=>(m3.drewN a).sp
  have hkd:∀a w5 L2 R2 U2,SpineLeft (wc.drewN a) pt gt cap L2 R2 U2 w5->SpineLeft wc pt gt cap L2 R2 U2 w5:=fun a w5 L2 R2 U2 hh=>⟨hh.1,hh.2.ofDrewN⟩
  have e1:=m3.c1
  have e0:=m3.c0
  have hstay:∀a u,Keeps [gt] (wc.drewN a) u->u.cell? ⟨p,1,none⟩=some (.pointer (some ⟨pt,0,none⟩)):=fun a u kk=>by
   have hb:=kk.ofDrewN.blk m3.blk (by simpa using m3.ne.1.2.1)
   rw [cell_of_blk hb];rfl
  have HS:=Lib.hid hstay
  have HDR:=Lib.hid hdr
  have HKD:=Lib.hid hkd
  have HCR:=Lib.hid hCr
  clear d0 d1 m3 z3 k3 hCr hdr hstay hkd
  rcases HCH.out with ⟨a1,a2⟩|⟨a1,a2⟩
  .have hcut:=fun a=>sp_cut_L (wc.drewN a) pt gt cap L' R' U' (HDR.out a) x q0 hx hU (f1.trans a1) (by rw [f2];exact a2)
   have hflag:∃(rv:Nat) (rb:Bool),(R q0).getD 0=rv∧(R q0).isSome=rb∧(rb=false∨(rb=true∧((rv:Int)==(x:Int))=false)):=by
    cases hR:R q0 with
    | none=>exact ⟨_,_,rfl,rfl,.inl rfl⟩
    | some r =>
     refine ⟨_,_,rfl,rfl,.inr ⟨rfl,?_⟩⟩
     rw [beq_eq_false_iff_ne]
     intro e
     simp only [Option.getD_some] at e
     have e2:r=x:=by omega
     exact a2 (by rw [hR,e2])
   obtain ⟨rv,rb,g1,g2,g3⟩:=hflag
   rw [g1,g2] at hrq
   clear g1 g2 HCH
   have hA1:=Lib.hid a1
   clear a1 a2 f1 f2
   cases C with
   | none =>
    simp only [oZ_none]
    rcases g3 with rfl|⟨rfl,g3⟩
    all_goals
     go_wp2_with (first
      | (go_at_call 413;refine hup.mono ?_;rintro e w' ⟨rfl,rfl⟩)
      | (go_at_call 412;refine hrq.mono ?_;rintro e w' ⟨rfl,n2,rfl⟩)
      | (go_at_call 407;refine (hcut n2).mono ?_;rintro e w5 ⟨rfl,hs5⟩;obtain ⟨c5,e5,z⟩:=hfin.out w5 _ _ _ (HKD.out n2 _ _ _ _ hs5) (.inl ⟨hA1.out,rfl,rfl,rfl⟩);clear hs5)
      | (go_at_call 312;refine (HDROP.out _ c5).mono ?_;rintro e w6 ⟨rfl,c6,k6⟩))
     go_ret
     exact z.out w6 c6 k6
   | some r0 =>
    simp only [oZ_some]
    obtain ⟨r1,r2,r3,r4⟩:=HCR.out r0 rfl
    have hr1:((r0:Int) != -1)=true:=by rw [bne_iff_ne];omega
    have hhang:=fun u (hu:SpineAt u pt gt cap (upd L' q0 none) R' (upd U' x none))=>sp_hangL u pt gt cap _ _ _ hu q0 r0 hq0 r1 (fun e=>r2 e.symm) (by rw [upd_other _ _ r3];exact r4) (upd_same _ _ _)
    rcases g3 with rfl|⟨rfl,g3⟩
    all_goals
     go_wp2_with (first
      | (go_at_call 413;refine hup.mono ?_;rintro e w' ⟨rfl,rfl⟩)
      | (go_at_call 412;refine hrq.mono ?_;rintro e w' ⟨rfl,n2,rfl⟩)
      | (go_at_call 407;refine (hcut n2).mono ?_;rintro e w4 ⟨rfl,hs4⟩;have y1:=HS.out n2 w4 hs4.2)
      | (go_at_call 414;refine (hhang w4 hs4.1).mono ?_;rintro e w5 ⟨rfl,hs5⟩;obtain ⟨c5,e5,z⟩:=hfin.out w5 _ _ _ (HKD.out n2 _ _ _ _ ⟨hs5.1,hs4.2.trans hs5.2 (fun b hb=>.inl hb)⟩) (.inl ⟨hA1.out,upd_two _ _ _ _,rfl,rfl⟩);clear hs5 hs4)
      | (go_at_call 312;refine (HDROP.out _ c5).mono ?_;rintro e w6 ⟨rfl,c6,k6⟩))
     go_ret
     exact z.out w6 c6 k6
  .have hcut:=fun a=>sp_cut_R (wc.drewN a) pt gt cap L' R' U' (HDR.out a) x q0 hx hU (f2.trans a1)
   rw [a1] at hrq
   simp only [Option.getD_some,Option.isSome_some] at hrq
   have hA1:=Lib.hid a1
   clear a1 a2 f1 f2 HCH
   cases C with
   | none =>
    simp only [oZ_none]
    go_wp2_with (first
     | (go_at_call 413;refine hup.mono ?_;rintro e w' ⟨rfl,rfl⟩)
     | (go_at_call 412;refine hrq.mono ?_;rintro e w' ⟨rfl,n2,rfl⟩)
     | (go_at_call 407;refine (hcut n2).mono ?_;rintro e w5 ⟨rfl,hs5⟩;obtain ⟨c5,e5,z⟩:=hfin.out w5 _ _ _ (HKD.out n2 _ _ _ _ hs5) (.inr ⟨hA1.out,rfl,rfl,rfl⟩);clear hs5)
     | (go_at_call 312;refine (HDROP.out _ c5).mono ?_;rintro e w6 ⟨rfl,c6,k6⟩))
    go_ret
    exact z.out w6 c6 k6
   | some r0 =>
    simp only [oZ_some]
    obtain ⟨r1,r2,r3,r4⟩:=HCR.out r0 rfl
    have hr1:((r0:Int) != -1)=true:=by rw [bne_iff_ne];omega
    have hhang:=fun u (hu:SpineAt u pt gt cap L' (upd R' q0 none) (upd U' x none))=>sp_hang u pt gt cap _ _ _ hu q0 r0 hq0 r1 (fun e=>r2 e.symm) (by rw [upd_other _ _ r3];exact r4) (upd_same _ _ _)
    go_wp2_with (first
     | (go_at_call 413;refine hup.mono ?_;rintro e w' ⟨rfl,rfl⟩)
     | (go_at_call 412;refine hrq.mono ?_;rintro e w' ⟨rfl,n2,rfl⟩)
     | (go_at_call 407;refine (hcut n2).mono ?_;rintro e w4 ⟨rfl,hs4⟩;have y1:=HS.out n2 w4 hs4.2)
     | (go_at_call 414;refine (hhang w4 hs4.1).mono ?_;rintro e w5 ⟨rfl,hs5⟩;obtain ⟨c5,e5,z⟩:=hfin.out w5 _ _ _ (HKD.out n2 _ _ _ _ ⟨hs5.1,hs4.2.trans hs5.2 (fun b hb=>.inl hb)⟩) (.inr ⟨hA1.out,rfl,upd_two _ _ _ _,rfl⟩);clear hs5 hs4)
     | (go_at_call 312;refine (HDROP.out _ c5).mono ?_;rintro e w6 ⟨rfl,c6,k6⟩))
    go_ret
    exact z.out w6 c6 k6
theorem skew_delete_any (c:SkewAt w F p cap hs E) (h x:Nat) (hx:isIn E h x) :
  Calls Tryz.prog 424 #[.pointer (some ⟨p,0,none⟩),.int .i64 x] w (SkewOut w F p cap hs (put E x none)):=by
 obtain ⟨pc,pt,gt,mb,Fc,L,R,U,top,rfl,m,im,t⟩:=id c
 cases hu:U x with
 | some q0=>exact skew_delete_in w p cap hs E pc pt gt mb Fc L R U top m im t h x q0 hx hu
 | none =>
  obtain ⟨g,e⟩:=t.isTop hx.some hu
  obtain rfl:g=h:=isIn_one (t.mine g x e) hx
  exact skew_delete w _ p cap hs E c g x (t.first (fun y hy=>m.ce.ok.lt y hy) e)
end
end Go.Proofs.YtkdbjelhkfdfjaaGreatDoor

