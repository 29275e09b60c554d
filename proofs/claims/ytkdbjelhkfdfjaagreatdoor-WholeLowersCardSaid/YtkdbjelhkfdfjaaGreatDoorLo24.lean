/-
  Contracts that the law rests on. Conditions: none.
-/
import Derived.Test.YtkdbjelhkfdfjaaGreatDoorLo17
import Derived.Test.YtkdbjelhkfdfjaaGreatDoorLo23
set_option linter.unusedVariables false
set_option maxRecDepth 100000
set_option maxHeartbeats 32000000
namespace Go.Proofs.YtkdbjelhkfdfjaaGreatDoor
open Go.RowKit
def BinAdd (w:World) (p pc pf gf gr rc:Nat) (Fc:List Nat) (cap hs:Nat) (E:Ent) (T:Nat->TwigR) (U:Nat->Option Nat) (R:Nat->BRow) (h:Nat) (b:List Nat) (w':World):Prop :=
 ∃(T':Nat->TwigR) (U':Nat->Option Nat) (r:BRow),BinQ w' p pc pf gf gr rc Fc cap hs E T' U' (upd R h r)∧CarDone E (fun x=>(T x).kids) U (R h).l b (fun x=>(T' x).kids) U' r.l ∧
  Moved (binF p gr Fc (treeF pf gf cap T) hs R) w (binF p gr Fc (treeF pf gf cap T') hs (upd R h r)) w'
section
variable {w w' w5:World} {p pc pf gf gr rc cap hs h:Nat} {Fc S b:List Nat} {E E':Ent} {T T':Nat->TwigR} {U U':Nat->Option Nat} {R R':Nat->BRow} {e:Ending}
theorem BinQ.added (q:BinQ w p pc pf gf gr rc Fc cap hs E T U R) (hh:h<=hs) (hd:CarryDone w pf gf cap T U p pc Fc cap hs E (R h).l b e w5) :
  ∃(ao:Option Addr) (ca:Nat) (out:List Nat),e=.returned (.tuple #[.slice ao out.length ca,.bool true])∧w5.cell? ⟨p,2,none⟩=some (.slice (some ⟨gr,0,none⟩) (hs+1) rc)∧w5.cell? ⟨gr,h,none⟩=some (R h).v∧w5.frozen? ⟨gr,h,none⟩=false ∧
   BinAdd w p pc pf gf gr rc Fc cap hs E T U R h b (w5.setCell ⟨gr,h,none⟩ (.slice ao out.length ca)):=by
 obtain ⟨ao,ca,out,T',U',rfl,hir,hfo,hod,hk,htf,hot,hcd⟩:=hd
 obtain ⟨n1,n2,n3,n4,n5,n6⟩:=q.ne
 have hlt:=q.lt
 have lp:=hlt p (binF_mem.2 (.inl rfl))
 have lg:=hlt gr (binF_mem.2 (.inr (.inl rfl)))
 have lF:∀x∈Fc,x<w.heap.size:=fun x hx=>hlt x (binF_mem.2 (.inr (.inr (.inl hx))))
 have lR:∀g x,g<=hs->(R g).v.ownBlock=some x->x<w.heap.size:=fun g x hg e=>hlt x (binF_mem.2 (.inr (.inr (.inr (.inr ⟨g,hg,e⟩)))))
 have ho:=hir.own
 have hp5:p∉treeF pf gf cap T++Fc:=by simp only [List.mem_append,not_or];exact ⟨n4,n2⟩
 have hg5:gr∉treeF pf gf cap T++Fc:=by simp only [List.mem_append,not_or];exact ⟨n5,n3⟩
 have hold:∀x,x<w.heap.size->x∉treeF pf gf cap T->x∉treeF pf gf cap T':=fun x h1 h2 h3=>by
  rcases htf x h3 with c|c
  .exact h2 c
  .omega
 have hrow:=hk.row q.rows hg5
 have kS:Keeps [gr] w5 (w5.setCell ⟨gr,h,none⟩ (.slice ao out.length ca)):=(Keeps.refl _ _).setCell (.inl (by simp)) _
 have hvb:((⟨ao,ca,out⟩:BRow)).v=.slice ao out.length ca:=rfl
 have hown:∀g x,g<=hs->(upd R h ⟨ao,ca,out⟩ g).v.ownBlock=some x->(g≠h∧(R g).v.ownBlock=some x)∨(g=h∧w.heap.size<=x∧x∉treeF pf gf cap T'):=fun g x hg e=>by
  by_cases c:g=h
  .subst c
   rw [upd_same,hvb] at e
   exact .inr ⟨rfl,(ho x e).1,hot x e⟩
  .rw [upd_other _ _ c] at e;exact .inl ⟨c,e⟩
 have hQ:BinQ (w5.setCell ⟨gr,h,none⟩ (.slice ao out.length ca)) p pc pf gf gr rc Fc cap hs E T' U' (upd R h ⟨ao,ca,out⟩):=by
  refine ⟨kS.blk (hk.blk q.blk hp5) (by simpa using n1),hod.ce.keep kS (fun x hx e=>n3 (by simp only [List.mem_singleton] at e;exact e ▸ hx)),hfo.keep kS (fun x hx e=>hold gr lg n5 (by simp only [List.mem_singleton] at e;exact e ▸ hx)),?_,fun g hg=>?_,
   ⟨n1,n2,n3,hold p lp n4,hold gr lg n5,fun x hx=>hold x (lF x hx) (n6 x hx)⟩,fun g x hg e=>?_,fun g g' x hg hg' hne e e'=>?_⟩
  .have:=Rg.row_set hrow h (by omega) (.slice ao out.length ca)
   rw [<-hvb,bRows_set] at this
   exact this
  .by_cases c:g=h
   .subst c
    rw [upd_same]
    exact ir_keep' (hir.lo (Nat.zero_le _)) kS (fun x e f=>by
     simp only [List.mem_singleton] at f;subst f
     have:=(ho x e).1;omega)
   .rw [upd_other _ _ c]
    refine ir_keep' (ir_keep' (q.mem g hg) hk (fun x e f=>?_)) kS (fun x e f=>?_)
    .obtain ⟨_,_,a3,a4⟩:=q.own g x hg e
     rcases List.mem_append.1 f with f|f
     .exact a4 f
     .exact a3 f
    .simp only [List.mem_singleton] at f;subst f
     exact (q.own g x hg e).2.1 rfl
  .rcases hown g x hg e with ⟨c,e⟩|⟨c,e1,e2⟩
   .obtain ⟨a1,a2,a3,a4⟩:=q.own g x hg e
    exact ⟨a1,a2,a3,hold x (lR g x hg e) a4⟩
   .exact ⟨by omega,by omega,fun f=>by have:=lF x f;omega,e2⟩
  .rcases hown g x hg e with ⟨c,e⟩|⟨c,e1,e2⟩<;>rcases hown g' x hg' e' with ⟨d,f⟩|⟨d,f1,f2⟩
   .exact q.dis g g' x hg hg' hne e f
   .have:=lR g x hg e;omega
   .have:=lR g' x hg' f;omega
   .omega
 refine ⟨ao,ca,out,rfl,by rw [cell_of_blk (hk.blk q.blk hp5)];rfl,?_,hrow.frozenAt _,T',U',⟨ao,ca,out⟩,hQ,hcd,?_,fun x hx=>?_,hQ.lt⟩
 .rw [hrow.cellAt h (by omega)];exact bRows_at R (by omega)
 .refine (hk.mono (T:=binF p gr Fc (treeF pf gf cap T) hs R) fun x hx=>.inl (binF_mem.2 ?_)).trans kS (fun x hx=>.inl (binF_mem.2 (.inr (.inl (by simpa using hx)))))
  rcases List.mem_append.1 hx with c|c
  .exact .inr (.inr (.inr (.inl c)))
  .exact .inr (.inr (.inl c))
 .rcases binF_mem.1 hx with c|c|c|c|⟨g,hg,c⟩
  .exact .inl (binF_mem.2 (.inl c))
  .exact .inl (binF_mem.2 (.inr (.inl c)))
  .exact .inl (binF_mem.2 (.inr (.inr (.inl c))))
  .rcases htf x c with d|d
   .exact .inl (binF_mem.2 (.inr (.inr (.inr (.inl d)))))
   .exact .inr d
  .rcases hown g x hg c with ⟨d,e⟩|⟨d,e1,e2⟩
   .exact .inl (binF_mem.2 (.inr (.inr (.inr (.inr ⟨g,hg,e⟩)))))
   .exact .inr e1
end
section
variable (w:World) (p pc pf gf gr rc cap hs:Nat) (Fc:List Nat) (E:Ent) (T:Nat->TwigR) (U:Nat->Option Nat) (R:Nat->BRow)
theorem bin_add (q:BinQ w p pc pf gf gr rc Fc cap hs E T U R) (h:Nat) (hh:h<=hs) (bo:Option Addr) (cb:Nat) (b:List Nat) (hb:Rg.IR 0 w (.slice bo b.length cb) b)
  (hbf:∀x,(Value.slice bo b.length cb).ownBlock=some x->x∉binF p gr Fc (treeF pf gf cap T) hs R) (hcb:Cubes (fun x=>(T x).kids) U) (hra:CRow (fun x=>(T x).kids) U (R h).l) (hrb:CRow (fun x=>(T x).kids) U b)
  (hd:∀x∈(R h).l,x∉b) (hn:∀x,x∈(R h).l∨x∈b->x<cap∧(E x).isSome) :
  Calls Tryz.prog 352 #[.pointer (some ⟨p,0,none⟩),.int .i64 h,.slice bo b.length cb] w fun e w'=>e=.returned (.tuple #[])∧BinAdd w p pc pf gf gr rc Fc cap hs E T U R h b w':=by
 have k0:Keeps [] w w.drew:=⟨rfl,rfl,rfl,Nat.le_refl _,fun _ _ _=>rfl⟩
 have q0:=q.keep k0 (by simp)
 have hbh:=q.ce.ok.bh
 have hcar:=fo_carry w.drew pf gf cap T U p pc Fc cap hs E (R h).l b q0.fo q0.ord (fun x hx e=>by
   rcases List.mem_cons.1 e with rfl|e
   .exact q.ne.2.2.2.1 hx
   .exact q.ne.2.2.2.2.2 x e hx) hcb (R h).ao (R h).ca (q0.mem h hh) bo cb (ir_keep' hb k0 (by simp))
  (fun x e f=>by
   obtain ⟨_,_,a3,a4⟩:=q.own h x hh e
   rcases List.mem_append.1 f with f|f
   .exact a4 f
   .exact a3 f)
  (fun x e f=>hbf x e (binF_mem.2 (by
   rcases List.mem_append.1 f with f|f
   .exact .inr (.inr (.inr (.inl f)))
   .exact .inr (.inr (.inl f))))) hra hrb hd hn
 have c1:=q.c1
 have c2:=q.c2
 have d1:=q.at hh
 have hfin:∀e w5,CarryDone w.drew pf gf cap T U p pc Fc cap hs E (R h).l b e w5->∃(ao:Option Addr) (ca:Nat) (out:List Nat),e=.returned (.tuple #[.slice ao out.length ca,.bool true])∧w5.cell? ⟨p,2,none⟩=some (.slice (some ⟨gr,0,none⟩) (hs+1) rc)∧w5.cell? ⟨gr,h,none⟩=some (.slice (R h).ao (R h).l.length (R h).ca)∧w5.frozen? ⟨gr,h,none⟩=false ∧
   Hid (BinAdd w p pc pf gf gr rc Fc cap hs E T U R h b (w5.setCell ⟨gr,h,none⟩ (.slice ao out.length ca))):=fun e w5 hc=>by
  obtain ⟨ao,ca,out,a1,a2,a3,a4,T',U',r,b1,b2,b3⟩:=q0.added hh hc
  exact ⟨ao,ca,out,a1,a2,a3,a4,T',U',r,b1,b2,(b3.keeps.mono (T:=binF p gr Fc (treeF pf gf cap T) hs R) (fun x hx=>.inl hx)) |> fun kk=>⟨k0.mono (T:=binF p gr Fc (treeF pf gf cap T) hs R) (by simp) |>.trans kk (fun x hx=>.inl hx),b3.from',b3.lt⟩⟩
 have hh3:(h:Int)<((hs+1:Nat):Int):=by omega
 have hh4:(h:Int)<(hs:Int)+1:=by omega
 have HF:=Lib.hid hfin
 clear hfin q q0 hb hbf hcb hra hrb hd hn k0
 go_enter Tryz.func352,Tryz.ntmps352
 go_region_law (first
  | (go_simp;go_at_call 360;refine hcar.mono ?_;intro e w5 hjd;obtain ⟨ao,ca,out,rfl,z1,z2,z3,z4⟩:=HF.out _ _ hjd;clear hjd))
 all_goals
  go_wp2_with fail
  go_end0
  exact ⟨rfl,z4.out⟩
end
end Go.Proofs.YtkdbjelhkfdfjaaGreatDoor

