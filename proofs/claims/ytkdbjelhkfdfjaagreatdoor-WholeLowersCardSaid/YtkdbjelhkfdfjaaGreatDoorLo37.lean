/-
  Contracts that the law rests on. Conditions: none.
-/
import Derived.Test.YtkdbjelhkfdfjaaGreatDoorLo36
set_option linter.unusedVariables false
set_option maxRecDepth 100000
set_option maxHeartbeats 32000000
namespace Go.Proofs.YtkdbjelhkfdfjaaGreatDoor
open Go.RowKit
section
variable {w w1 w2:World} {p pc pf gf gr rc cap hs x h:Nat} {Fc F:List Nat} {E Eo:Ent} {T:Nat->TwigR} {U:Nat->Option Nat} {R:Nat->BRow}
theorem LiftDone.heap (d:LiftDone w1 p pc pf gf gr rc cap hs Fc E E T R x w2) (hs':(E x).isSome) (k:Keeps (binF p gr Fc (treeF pf gf cap T) hs R) w w1) :
  BinIn w (binF p gr Fc (treeF pf gf cap T) hs R) p cap hs E (.returned (.bool true)) w2:=by
 obtain ⟨T',U',R',q,z,k2,hsub,hf⟩:=d
 refine ⟨rfl,_,⟨pc,pf,gf,gr,rc,Fc,T',U',R',rfl,q,z.fin hs' hf fun y e=>?_⟩,k.trans k2 (fun b hb=>.inl hb),fun b hb=>.inl (hsub b hb),q.lt⟩
 obtain ⟨⟨h,v⟩,hv⟩:=Option.isSome_iff_exists.1 hs'
 have h1:isIn E h x:=⟨v,hv⟩
 exact (show isIn E h y by rw [<-hp_some,z.par.same x y e,hp_some];exact h1).some
end
section
variable (w:World) (F:List Nat) (p cap hs:Nat) (E:Ent)
theorem bin_decrease (c:BinAt w F p cap hs E) (x h q:Nat) (k k':Int) (he:E x=some (h,k,q)) (hk:k'<=k) (hw:(Lit.int .i64 k').wf=true) :
  Calls Tryz.prog 340 #[.pointer (some ⟨p,0,none⟩),.int .i64 x,.agg #[.int .i64 k',.int .u64 (q:Int)]] w (BinIn w F p cap hs (put E x (some (h,k',q)))):=by
 obtain ⟨pc,pf,gf,gr,rc,Fc,T,U,R,rfl,m,o⟩:=c
 have hx:=m.ce.ok.lt x (by rw [he];rfl)
 obtain ⟨h1,h2⟩:=m.ce.ok.heap x h _ he
 have hxi:isIn E h x:=⟨_,he⟩
 have hlt:=m.lt
 obtain ⟨wA,hwA⟩:∃wA,wA=w.alloc (.cells #[.pointer (some ⟨p,0,none⟩)] 152 (0,0)):=⟨_,rfl⟩
 obtain ⟨wB,hwB⟩:∃wB,wB=wA.alloc (.cells #[.int .i64 (x:Nat)] 3 (0,0)):=⟨_,rfl⟩
 obtain ⟨w0,hw0⟩:∃w0,w0=wB.alloc (.cells #[.int .i64 k',.int .u64 (q:Int)] 104 (0,0)):=⟨_,rfl⟩
 obtain ⟨bn,hbn⟩:∃b,b=w.heap.size:=⟨_,rfl⟩
 have sA:wA.heap.size=bn+1:=by rw [hwA,hbn];exact Array.size_push _
 have sB:wB.heap.size=bn+1+1:=by rw [hwB,<-sA];exact Array.size_push _
 have kA:Keeps [] w wA:=by rw [hwA];exact (Keeps.refl _ _).alloc _
 have kB:Keeps [] wA wB:=by rw [hwB];exact (Keeps.refl _ _).alloc _
 have kC:Keeps [] wB w0:=by rw [hw0];exact (Keeps.refl _ _).alloc _
 have b0:w0.heap[bn]?=some (.cells #[.pointer (some ⟨p,0,none⟩)] 152 (0,0)):=kC.blk (kB.blk (by rw [hwA,hbn];exact blk_alloc_new _) (by simp)) (by simp)
 have b1:w0.heap[bn+1]?=some (.cells #[.int .i64 (x:Nat)] 3 (0,0)):=kC.blk (by rw [hwB,<-sA];exact blk_alloc_new _) (by simp)
 have b2:w0.heap[bn+1+1]?=some (.cells #[.int .i64 k',.int .u64 (q:Int)] 104 (0,0)):=by rw [hw0,<-sB];exact blk_alloc_new _
 have k0:Keeps [] w w0:=(kA.trans kB (by simp)).trans kC (by simp)
 clear sA sB kA kB kC
 have e0:w0.cell? ⟨bn,0,none⟩=some (.pointer (some ⟨p,0,none⟩)):=by rw [cell_of_blk b0];rfl
 have e1:w0.cell? ⟨bn+1,0,none⟩=some (.int .i64 (x:Nat)):=by rw [cell_of_blk b1];rfl
 have e2:w0.cell? ⟨bn+1+1,0,none⟩=some (.int .i64 k'):=by rw [cell_of_blk b2];rfl
 have e3:w0.cell? ⟨bn+1+1,1,none⟩=some (.int .u64 (q:Int)):=by rw [cell_of_blk b2];rfl
 have m0:=m.keep k0 (by simp)
 have d0:=m0.c0
 have hlow:=cells_lower w0.drew Fc pc cap hs E (m0.ce.keep ((Keeps.refl [] w0).drew) (by simp)) x h q k k' he hk hw
 have hsome:(put E x (some (h,k',q)) x).isSome:=by rw [put_same];rfl
 have hmid:∀w1,CellsAt w1 Fc pc cap hs (put E x (some (h,k',q)))->Keeps Fc w0.drew w1 ->
   w1.cell? ⟨bn,0,none⟩=some (.pointer (some ⟨p,0,none⟩))∧w1.cell? ⟨bn+1,0,none⟩=some (.int .i64 (x:Nat))∧w1.cell? ⟨p,0,none⟩=some (.pointer (some ⟨pc,0,none⟩)) ∧
   Hid (Calls Tryz.prog 302 #[.pointer (some ⟨pc,0,none⟩),.int .i64 x] w1.drew fun e w'=>e=.returned (.tuple #[.int .i64 h,.bool true])∧∃a,w'=w1.drew.drewN a) ∧
   Hid (∀w2,w2.heap=w1.heap->w2.os=w1.os->w2.tape=w1.tape->w2.output=w1.output->w2.cell? ⟨bn,0,none⟩=some (.pointer (some ⟨p,0,none⟩))∧w2.cell? ⟨bn+1,0,none⟩=some (.int .i64 (x:Nat)) ∧
    Hid (Calls Tryz.prog 348 #[.pointer (some ⟨p,0,none⟩),.int .i64 h,.int .i64 x,.func (.func 349) #[] #[.pointer (some ⟨bn,0,none⟩),.pointer (some ⟨bn+1,0,none⟩)]] w2 fun e w3=>e=.returned (.tuple #[]) ∧
     Hid (BinIn w (binF p gr Fc (treeF pf gf cap T) hs R) p cap hs (put E x (some (h,k',q))) (.returned (.bool true)) w3))):=by
  intro w1 hc1 k1
  have m1:BinQ w1 p pc pf gf gr rc Fc cap hs (put E x (some (h,k',q))) T U R:=(m0.keep ((Keeps.refl [] w0).drew) (by simp)).cells hc1 k1
  have hbF:∀b,bn<=b->b∉binF p gr Fc (treeF pf gf cap T) hs R:=fun b hb e=>by have:=hlt b e;omega
  have hbc:∀b,bn<=b->b∉Fc:=fun b hb e=>hbF b hb (binF_mem.2 (.inr (.inr (.inl e))))
  have c0:=k1.blk (k:=bn) b0 (hbc _ (Nat.le_refl _))
  have c1:=k1.blk (k:=bn+1) b1 (hbc _ (by omega))
  refine ⟨by rw [cell_of_blk c0];rfl,by rw [cell_of_blk c1];rfl,m1.c0,cells_home w1.drew Fc pc cap hs _ (hc1.drew) x h ((isIn_low he k' h x).2 hxi),fun w2 e0 e1 e2 e3=>?_⟩
  have k2:Keeps [] w1 w2:=⟨e1,e2,e3,by rw [e0];exact Nat.le_refl _,fun _ _ _=>by rw [e0]⟩
  have c0':=k2.blk c0 (by simp)
  have c1':=k2.blk c1 (by simp)
  have m2:=m1.keep k2 (by simp)
  refine ⟨by rw [cell_of_blk c0'];rfl,by rw [cell_of_blk c1'];rfl,(bin_lift_dec w2 p pc pf gf gr rc cap hs Fc _ T U R m2 h x (o.low he hk) h2 hx ((isIn_low he k' h x).2 hxi) bn (bn+1) c0' c1' (hbF _ (Nat.le_refl _)) (hbF _ (by omega))).mono ?_⟩
  rintro e w3 ⟨rfl,d⟩
  have kall:Keeps (binF p gr Fc (treeF pf gf cap T) hs R) w w2:=(((k0.trans ((Keeps.refl [] w0).drew) (by simp)).mono (T:=binF p gr Fc (treeF pf gf cap T) hs R) (by simp)).trans k1 (fun b hb=>.inl (binF_mem.2 (.inr (.inr (.inl hb)))))).trans k2 (by simp)
  exact ⟨rfl,LiftDone.heap d.out hsome kall⟩
 have HM:=Lib.hid hmid
 clear hmid hsome m0 m o hlt hxi he b0 b1 b2 k0
 go_enter Tryz.func340,Tryz.ntmps340
 go_upto_region 1 with fail
 rw [<-hwA,<-hwB,<-hw0,<-hbn]
 clear hwA hwB hw0 hbn
 go_region_law (first
  | (go_simp;go_at_call 309;refine hlow.mono ?_;rintro e w1 ⟨rfl,hc1,k1⟩;obtain ⟨s1,s2,s3,s4,s5⟩:=HM.out w1 hc1 k1;clear hc1 k1))
 all_goals
  clear hlow e0 e1 e2 e3 d0 HM
  go_upto_region 3 with fail
  go_region_law (first
   | (go_simp;go_at_call 302;refine s4.out.mono ?_;rintro e w2 ⟨rfl,a,rfl⟩))
  all_goals
   go_upto_region 4 with fail
   obtain ⟨w2,hw2⟩:∃w2,w2=w1.drewN (1+a):=⟨_,rfl⟩
   rw [<-hw2]
   obtain ⟨t1,t2,t3⟩:=s5.out w2 (by subst hw2;rfl) (by subst hw2;rfl) (by subst hw2;rfl) (by subst hw2;rfl)
   clear hw2 s1 s2 s3 s4 s5
   go_wp2_with (go_at_call 348;refine t3.out.mono ?_;rintro e w3 ⟨rfl,hfin⟩)
   go_ret
   exact hfin.out
theorem bin_delete (c:BinAt w F p cap hs E) (x h:Nat) (hxi:isIn E h x) :
  Calls Tryz.prog 341 #[.pointer (some ⟨p,0,none⟩),.int .i64 x] w (BinIn w F p cap hs (put E x none)):=by
 obtain ⟨pc,pf,gf,gr,rc,Fc,T,U,R,rfl,m,o⟩:=c
 have hx:=m.ce.ok.lt x hxi.some
 obtain ⟨⟨k,q⟩,he⟩:=id hxi
 obtain ⟨h1,h2⟩:=m.ce.ok.heap x h _ he
 obtain ⟨kb,hkb⟩:=key_below E cap
 have hk:kb<=k:=Int.le_of_lt (hkb x hx h k q he)
 obtain ⟨Eo,hEo⟩:∃Eo,Eo=put E x (some (h,kb,q)):=⟨_,rfl⟩
 have hii:∀g v,isIn Eo g v↔isIn E g v:=fun g v=>by rw [hEo];exact isIn_low he kb g v
 have hall:∀y,y≠x->isIn Eo h y->ahead Eo x y=true:=fun y hne hy=>by
  have hy2:=(hii h y).1 hy
  rw [hEo];exact ahead_below hkb hy2.some (m.ce.ok.lt y hy2.some) hne
 have hput:put Eo x none=put E x none:=by
  rw [hEo];funext y
  by_cases c:y=x
  .subst c;rw [put_same,put_same]
  .rw [put_other _ _ _ c,put_other _ _ _ c,put_other _ _ _ c]
 have hz:BinX Eo (fun z=>(T z).kids) U (fun g=>(R g).l) x:=by rw [hEo];exact o.low he hk
 have hhome:=cells_home w Fc pc cap hs E m.ce x h hxi
 have d0:=m.c0
 have hlift:∀a,Calls Tryz.prog 348 #[.pointer (some ⟨p,0,none⟩),.int .i64 h,.int .i64 x,.func (.func 350) #[] #[]] (w.drewN a) fun e w2=>e=.returned (.tuple #[]) ∧
   Hid (Calls Tryz.prog 351 #[.pointer (some ⟨p,0,none⟩),.int .i64 h,.int .i64 x] w2 fun e w3=>e=.returned (.bool true)∧Hid (BinIn w (binF p gr Fc (treeF pf gf cap T) hs R) p cap hs (put E x none) (.returned (.bool true)) w3)):=fun a=>by
  have kd:Keeps [] w (w.drewN a):=⟨rfl,rfl,rfl,Nat.le_refl _,fun _ _ _=>rfl⟩
  refine (bin_lift_del (w.drewN a) p pc pf gf gr rc cap hs Fc E Eo T U R (m.keep kd (by simp)) h x hz h2 hx ((hii h x).2 hxi) (fun g v e=>(hii g v).1 e) hall).mono ?_
  rintro e w2 ⟨rfl,T',U',R',q2,z2,k2,hsub,hf⟩
  have hroot:U' x=none:=by
   cases c:U' x with
   | none=>rfl
   | some y =>
    have hne:y≠x:=fun e=>by
     subst e
     have:=z2.cubes.lt ((z2.cubes.mem y y).2 c);omega
    have:=hf y c
    rw [hall y hne (by rw [<-hp_some,z2.par.same x y c,hp_some];exact (hii h x).2 hxi)] at this
    cases this
  have o2:=z2.fin ((hii h x).2 hxi).some hf (fun y e=>by rw [hroot] at e;cases e)
  refine ⟨rfl,(bin_take_as w2 p cap hs E pc pf gf gr rc Fc T' U' R' q2 Eo o2 h x h1 h2 ((z2.mem h x).2 ⟨(hii h x).2 hxi,hroot⟩) hxi hput).mono ?_⟩
  rintro e w3 ⟨rfl,F',hb,hm⟩
  have k02:Keeps (binF p gr Fc (treeF pf gf cap T) hs R) w w2:=(kd.mono (T:=binF p gr Fc (treeF pf gf cap T) hs R) (by simp)).trans k2 (fun b hb=>.inl hb)
  exact ⟨rfl,rfl,F',hb,k02.trans hm.keeps (fun b hb=>.inl (hsub b hb)),fun b hb=>(hm.from' b hb).imp (hsub b) (fun e=>Nat.le_trans k02.size e),hm.lt⟩
 have HL:=Lib.hid hlift
 clear hlift hz hput hall hii hEo hkb he hxi m o
 go_enter Tryz.func341,Tryz.ntmps341
 go_upto_region 4 with (go_at_call 302;refine hhome.mono ?_;rintro e w1 ⟨rfl,a,rfl⟩)
 have hl:=HL.out a
 clear HL
 go_wp2_with (first
  | (go_at_call 348;refine hl.mono ?_;rintro e w2 ⟨rfl,ht⟩)
  | (go_at_call 351;refine ht.out.mono ?_;rintro e w3 ⟨rfl,hfin⟩))
 go_ret
 exact hfin.out
end
end Go.Proofs.YtkdbjelhkfdfjaaGreatDoor

