/-
  Contracts that the law rests on. Conditions: none.
-/
import Derived.Test.YtkdbjelhkfdfjaaGreatDoorLo26
set_option linter.unusedVariables false
set_option maxRecDepth 100000
set_option maxHeartbeats 32000000
namespace Go.Proofs.YtkdbjelhkfdfjaaGreatDoor
open Go.RowKit
def tieV (A B C:Nat->Option Nat) (i:Nat):List Value:=[.int .i64 (oZ (A i)),.int .i64 (oZ (B i)),.int .i64 (oZ (C i))]
structure TieAt (w:World) (g n:Nat) (A B C:Nat->Option Nat):Prop where
 arr:Arr w 218 3 n g (tieV A B C)
 wf:∀x y,A x=some y∨B x=some y∨C x=some y->y<n
section
variable {w w':World} {g n:Nat} {A B C:Nat->Option Nat} {S:List Nat}
theorem TieAt.keep (h:TieAt w g n A B C) (k:Keeps S w w') (h2:g∉S):TieAt w' g n A B C:=⟨h.arr.keep k h2,h.wf⟩
theorem TieAt.a (h:TieAt w g n A B C) {x:Nat} (hx:x<n):w.cell? ⟨g,x*3,none⟩=some (.int .i64 (oZ (A x))):=by
 have:=h.arr.cell hx (j:=0) (by omega)
 simpa [tieV] using this
theorem TieAt.b (h:TieAt w g n A B C) {x:Nat} (hx:x<n):w.cell? ⟨g,x*3+1,none⟩=some (.int .i64 (oZ (B x))):=by
 have:=h.arr.cell hx (j:=1) (by omega)
 simpa [tieV] using this
theorem TieAt.c (h:TieAt w g n A B C) {x:Nat} (hx:x<n):w.cell? ⟨g,x*3+2,none⟩=some (.int .i64 (oZ (C x))):=by
 have:=h.arr.cell hx (j:=2) (by omega)
 simpa [tieV] using this
theorem TieAt.frozen (h:TieAt w g n A B C) (i:Nat):w.frozen? ⟨g,i,none⟩=false:=h.arr.frozen i
theorem TieAt.setA (h:TieAt w g n A B C) {x:Nat} (hx:x<n) {o:Option Nat} (ho:∀y,o=some y->y<n):TieAt (w.setCell ⟨g,x*3,none⟩ (.int .i64 (oZ o))) g n (upd A x o) B C:=by
 refine ⟨(h.arr.set hx (j:=0) (by omega) (.int .i64 (oZ o))).congr fun i _=>?_,?_⟩
 .by_cases c:i=x
  .subst c;rw [upd_same];simp [tieV,upd_same]
  .rw [upd_other _ _ c];simp [tieV,upd_other _ _ c]
 .intro a b c
  by_cases e:a=x
  .subst e
   rw [upd_same] at c
   rcases c with c|c|c
   .exact ho b c
   .exact h.wf a b (.inr (.inl c))
   .exact h.wf a b (.inr (.inr c))
  .rw [upd_other _ _ e] at c;exact h.wf a b c
theorem TieAt.setB (h:TieAt w g n A B C) {x:Nat} (hx:x<n) {o:Option Nat} (ho:∀y,o=some y->y<n):TieAt (w.setCell ⟨g,x*3+1,none⟩ (.int .i64 (oZ o))) g n A (upd B x o) C:=by
 refine ⟨(h.arr.set hx (j:=1) (by omega) (.int .i64 (oZ o))).congr fun i _=>?_,?_⟩
 .by_cases c:i=x
  .subst c;rw [upd_same];simp [tieV,upd_same]
  .rw [upd_other _ _ c];simp [tieV,upd_other _ _ c]
 .intro a b c
  by_cases e:a=x
  .subst e
   rw [upd_same] at c
   rcases c with c|c|c
   .exact h.wf a b (.inl c)
   .exact ho b c
   .exact h.wf a b (.inr (.inr c))
  .rw [upd_other _ _ e] at c;exact h.wf a b c
theorem TieAt.setC (h:TieAt w g n A B C) {x:Nat} (hx:x<n) {o:Option Nat} (ho:∀y,o=some y->y<n):TieAt (w.setCell ⟨g,x*3+2,none⟩ (.int .i64 (oZ o))) g n A B (upd C x o):=by
 refine ⟨(h.arr.set hx (j:=2) (by omega) (.int .i64 (oZ o))).congr fun i _=>?_,?_⟩
 .by_cases c:i=x
  .subst c;rw [upd_same];simp [tieV,upd_same]
  .rw [upd_other _ _ c];simp [tieV,upd_other _ _ c]
 .intro a b c
  by_cases e:a=x
  .subst e
   rw [upd_same] at c
   rcases c with c|c|c
   .exact h.wf a b (.inl c)
   .exact h.wf a b (.inr (.inl c))
   .exact ho b c
  .rw [upd_other _ _ e] at c;exact h.wf a b c
end
structure PairMid (w:World) (p pc gt:Nat) (vT:Value) (Fc:List Nat) (cap hs:Nat) (E:Ent) (A B C:Nat->Option Nat):Prop where
 nd:(p::gt::Fc).Nodup
 blk:w.heap[p]?=some (.cells #[.pointer (some ⟨pc,0,none⟩),.slice (some ⟨gt,0,none⟩) cap cap,vT] 216 (0,0))
 ce:CellsAt w Fc pc cap hs E
 ti:TieAt w gt cap A B C
section
variable {w w':World} {p pc gt cap hs:Nat} {vT:Value} {Fc S:List Nat} {E E':Ent} {A B C A' B' C':Nat->Option Nat}
theorem PairMid.ne (m:PairMid w p pc gt vT Fc cap hs E A B C):(p≠gt∧p∉Fc)∧gt∉Fc:=by
 have:=m.nd
 simp only [List.nodup_cons,List.mem_cons,not_or] at this
 exact ⟨this.1,this.2.1⟩
theorem PairMid.keep (m:PairMid w p pc gt vT Fc cap hs E A B C) (k:Keeps S w w') (hS:∀b∈p::gt::Fc,b∉S):PairMid w' p pc gt vT Fc cap hs E A B C :=
 ⟨m.nd,k.blk m.blk (hS p (by simp)),m.ce.keep k (fun b hb=>hS b (by simp [hb])),m.ti.keep k (hS gt (by simp))⟩
theorem PairMid.below (m:PairMid w p pc gt vT Fc cap hs E A B C) (k:Below w.heap.size w w'):PairMid w' p pc gt vT Fc cap hs E A B C:=m.keep (Below.keeps k (Nat.le_refl _) []) (by simp)
theorem PairMid.drewN (m:PairMid w p pc gt vT Fc cap hs E A B C) (n:Nat):PairMid (w.drewN n) p pc gt vT Fc cap hs E A B C:=m.keep (S:=[]) ⟨rfl,rfl,rfl,Nat.le_refl _,fun _ _ _=>rfl⟩ (by simp)
theorem PairMid.cells (m:PairMid w p pc gt vT Fc cap hs E A B C) (c:CellsAt w' Fc pc cap hs E') (k:Keeps Fc w w'):PairMid w' p pc gt vT Fc cap hs E' A B C :=
 ⟨m.nd,k.blk m.blk m.ne.1.2,c,m.ti.keep k m.ne.2⟩
theorem PairMid.ties (m:PairMid w p pc gt vT Fc cap hs E A B C) (t:TieAt w' gt cap A' B' C') (k:Keeps [gt] w w'):PairMid w' p pc gt vT Fc cap hs E A' B' C' :=
 ⟨m.nd,k.blk m.blk (by simpa using m.ne.1.1),m.ce.keep k (fun b hb e=>by simp at e;subst e;exact m.ne.2 hb),t⟩
theorem PairMid.lt (m:PairMid w p pc gt vT Fc cap hs E A B C):p<w.heap.size∧gt<w.heap.size∧∀b∈Fc,b<w.heap.size:=⟨lt_of_block m.blk,m.ti.arr.lt,m.ce.lt⟩
theorem PairMid.c0 (m:PairMid w p pc gt vT Fc cap hs E A B C):w.cell? ⟨p,0,none⟩=some (.pointer (some ⟨pc,0,none⟩)):=by rw [cell_of_blk m.blk];rfl
theorem PairMid.c1 (m:PairMid w p pc gt vT Fc cap hs E A B C):w.cell? ⟨p,1,none⟩=some (.slice (some ⟨gt,0,none⟩) cap cap):=by rw [cell_of_blk m.blk];rfl
theorem PairMid.c2 (m:PairMid w p pc gt vT Fc cap hs E A B C):w.cell? ⟨p,2,none⟩=some vT:=by rw [cell_of_blk m.blk];rfl
end
structure TopX where
 t:Nat->Option Nat
 x:List Nat
abbrev TopX.of (t:Nat->Option Nat):TopX:=⟨t,[]⟩
instance : Coe (Nat->Option Nat) TopX:=⟨TopX.of⟩
def PairL (w:World) (p pc gt:Nat) (vT:Value) (Fc:List Nat) (cap hs:Nat) (E:Ent) (h:Nat) (top:TopX) (Z l:List Nat):Prop :=
 ∃(K:Nat->List Nat) (kid next back U:Nat->Option Nat),PairMid w p pc gt vT Fc cap hs E kid next back∧Pair E K kid next back U h (l++top.x) top.t∧∀z∈Z,K z=[]
section
variable (w:World) (p pc gt:Nat) (vT:Value) (Fc:List Nat) (cap hs:Nat) (E:Ent) (h:Nat) (top:TopX) (Z l:List Nat)
theorem link_none (b:Int):Calls Tryz.prog 378 #[.pointer (some ⟨p,0,none⟩),.int .i64 (-1),.int .i64 b] w fun e w'=>e=.returned (.int .i64 b)∧w=w':=by
 go_enter Tryz.func378,Tryz.ntmps378
 go_wp2
 go_ret
 exact ⟨rfl,rfl⟩
theorem link_one (a:Nat):Calls Tryz.prog 378 #[.pointer (some ⟨p,0,none⟩),.int .i64 a,.int .i64 (-1)] w fun e w'=>e=.returned (.int .i64 a)∧w=w':=by
 have ha:((a:Int)==-1)=false:=by rw [beq_eq_false_iff_ne];omega
 go_enter Tryz.func378,Tryz.ntmps378
 go_wp2
 go_ret
 exact ⟨rfl,rfl⟩
def Linked (a b:Nat) (e:Ending) (w':World):Prop :=
 ∃c d:Nat,e=.returned (.int .i64 c)∧((c=a∧d=b)∨(c=b∧d=a))∧(∀l',l'.Nodup->(∀y,y∈l'↔y∈l∧y≠d)->PairL w' p pc gt vT Fc cap hs E h top Z l')∧Keeps (gt::Fc) w w'
theorem link_two (s:PairL w p pc gt vT Fc cap hs E h top Z l) (a b:Nat) (ha:a∈l) (hb:b∈l) (hne:a≠b) (hza:a∉Z) (hzb:b∉Z) :
  Calls Tryz.prog 378 #[.pointer (some ⟨p,0,none⟩),.int .i64 a,.int .i64 b] w (Linked w p pc gt vT Fc cap hs E h top Z l a b):=by
 obtain ⟨K,kid,next,back,U,m,z,hZ⟩:=s
 have hea:=((z.here a).1 (List.mem_append.2 (.inl ha))).1
 have heb:=((z.here b).1 (List.mem_append.2 (.inl hb))).1
 have hac:=m.ce.ok.lt a hea.some
 have hbc:=m.ce.ok.lt b heb.some
 have hal:=cells_ahead w Fc pc cap hs E m.ce b a heb.some hea.some
 have c0:=m.c0
 have hna:((a:Int)==-1)=false:=by rw [beq_eq_false_iff_ne];omega
 have hnb:((b:Int)==-1)=false:=by rw [beq_eq_false_iff_ne];omega
 have hmain:∀(u v:Nat) (w1:World),u∈l->v∈l->u<cap->v<cap->u∉Z->u≠v->ahead E u v=true->CellsAt w1 Fc pc cap hs E->Keeps Fc w w1 ->
   PairMid w1 p pc gt vT Fc cap hs E kid next back∧∀w2,TieAt w2 gt cap (upd kid u (some v)) (upd next v (kid u)) (backOf kid back u v)->Keeps [gt] w1 w2 ->
    (∀l',l'.Nodup->(∀y,y∈l'↔y∈l∧y≠v)->PairL w2 p pc gt vT Fc cap hs E h top Z l')∧Keeps (gt::Fc) w w2:=by
  intro u v w1 hu hv huc hvc hzu huv hah hc1 hk1
  have m1:=m.cells hc1 hk1
  have hdj:=List.nodup_append.1 z.nd
  refine ⟨m1,fun w2 t2 k2=>⟨fun l' hn hl'=>⟨_,_,_,_,_,m1.ties t2 k2,z.link (List.mem_append.2 (.inl hu)) (List.mem_append.2 (.inl hv)) hah (l':=l'++top.x) (fun y=>by
    rw [List.mem_append,List.mem_append,hl']
    constructor
    .rintro (⟨c,d⟩|c)
     .exact ⟨.inl c,d⟩
     .exact ⟨.inr c,fun e=>hdj.2.2 v hv y c e.symm⟩
    .rintro ⟨c|c,d⟩
     .exact .inl ⟨c,d⟩
     .exact .inr c) (List.nodup_append.2 ⟨hn,hdj.2.1,fun y hy y' hy' e=>hdj.2.2 y ((hl' y).1 hy).1 y' hy' e⟩),fun z' hz'=>?_⟩,(hk1.mono (T:=gt::Fc) fun b hb=>.inl (by simp [hb])).trans k2 (by simp)⟩⟩
  have:z'≠u:=by rintro rfl;exact hzu hz'
  rw [upd_other K _ this];exact hZ z' hz'
 have HM:=Lib.hid hmain
 have HTOT:=Lib.hid (ahead_tot hea.some heb.some hne)
 have HAL:=Lib.hid hal
 clear hmain hal z m hZ hea heb
 cases hbb:ahead E b a with
 | true =>
  have hal:=HAL.out
  rw [hbb] at hal
  obtain ⟨u,rfl⟩:∃u,u=b:=⟨b,rfl⟩
  obtain ⟨v,rfl⟩:∃v,v=a:=⟨a,rfl⟩
  have HB:=Lib.hid hbb
  clear hbb
  go_enter Tryz.func378,Tryz.ntmps378
  go_upto_region 7 with (go_at_call 339;refine hal.mono ?_;rintro e w1 ⟨rfl,hc1,hk1⟩)
  obtain ⟨m1,hfin⟩:=HM.out u v w1 hb ha hbc hac hzb (fun e=>hne e.symm) HB.out hc1 hk1
  clear hal
  have d1:=m1.c1
  have D1:=Lib.hid d1
  have t1:=m1.ti
  have hpg:p≠gt:=m1.ne.1.1
  have e0:=t1.a (x:=u) (by assumption)
  have e1:=t1.b (x:=v) (by assumption)
  have e2:=t1.c (x:=v) (by assumption)
  have f1:=t1.frozen (v*3+1)
  have f2:=t1.frozen (v*3+2)
  have hu3:(u:Int)<(cap:Int):=by omega
  have hv3:(v:Int)<(cap:Int):=by omega
  have hvn:v<cap:=by assumption
  have hun:u<cap:=by assumption
  have hup:u<cap:=by assumption
  have hb1:=hc1.lt
  have hpl:p<w1.heap.size:=m1.lt.1
  cases hk:kid u with
  | none =>
   rw [hk] at e0
   simp only [oZ_none] at e0
   have t2:=((t1.setB hvn (o:=none) (by simp)).setC hvn (o:=some u) (by rintro y e;cases e;exact hun)).keep (S:=[]) (w':=(((w1.setCell ⟨gt,v*3+1,none⟩ (.int .i64 (-1))).setCell ⟨gt,v*3+2,none⟩ (.int .i64 (u:Int))).drew)) ⟨rfl,rfl,rfl,Nat.le_refl _,fun _ _ _=>rfl⟩ (by simp)
   have k2:Keeps [gt] w1 (((w1.setCell ⟨gt,v*3+1,none⟩ (.int .i64 (-1))).setCell ⟨gt,v*3+2,none⟩ (.int .i64 (u:Int))).drew):=(((Keeps.refl _ _).setCell (.inl (by simp)) _).setCell (.inl (by simp)) _).drew
   go_upto_region 8 with fail
   go_region
   all_goals
    generalize (((w1.setCell ⟨gt,v*3+1,none⟩ (.int .i64 (-1))).setCell ⟨gt,v*3+2,none⟩ (.int .i64 (u:Int))).drew)=w2 at *
    have d2:w2.cell? ⟨p,1,none⟩=some (.slice (some ⟨gt,0,none⟩) cap cap):=(World.cell?_of_block (a:=⟨p,1,none⟩) (k2.block p hpl (by simpa using hpg))).trans d1
    have g0:=t2.a (x:=u) hun
    have h0:=t2.frozen (u*3)
    have t3:=t2.setA hun (o:=some v) (by rintro y e;cases e;exact hvn)
    have k3:Keeps [gt] w1 (w2.setCell ⟨gt,u*3,none⟩ (.int .i64 (v:Int))):=k2.setCell (.inl (by simp)) _
    rw [<-backOf_none hk] at t3
    have hfi:=hfin _ (by rw [hk];exact t3) k3
    have HFI:=Lib.hid hfi
    clear hfin hfi t3 k3 d1 e0 e1 e2 f1 f2 t1 m1 k2 t2 hk
    go_wp2_with fail
    go_ret
    exact ⟨u,v,rfl,.inr ⟨rfl,rfl⟩,HFI.out.1,HFI.out.2⟩
  | some z =>
   have hzn:=t1.wf u z (.inl hk)
   have hz3:(z:Int)<(cap:Int):=by omega
   have hzb:((z:Int) != -1)=true:=by rw [bne_iff_ne];omega
   rw [hk] at e0
   simp only [oZ_some] at e0
   have t2:=((t1.setB hvn (o:=some z) (by rintro y e;cases e;exact hzn)).setC hvn (o:=some u) (by rintro y e;cases e;exact hun)).keep (S:=[]) (w':=(((w1.setCell ⟨gt,v*3+1,none⟩ (.int .i64 (z:Int))).setCell ⟨gt,v*3+2,none⟩ (.int .i64 (u:Int))).drew)) ⟨rfl,rfl,rfl,Nat.le_refl _,fun _ _ _=>rfl⟩ (by simp)
   have k2:Keeps [gt] w1 (((w1.setCell ⟨gt,v*3+1,none⟩ (.int .i64 (z:Int))).setCell ⟨gt,v*3+2,none⟩ (.int .i64 (u:Int))).drew):=(((Keeps.refl _ _).setCell (.inl (by simp)) _).setCell (.inl (by simp)) _).drew
   go_upto_region 8 with fail
   go_region
   all_goals
    generalize (((w1.setCell ⟨gt,v*3+1,none⟩ (.int .i64 (z:Int))).setCell ⟨gt,v*3+2,none⟩ (.int .i64 (u:Int))).drew)=w2 at *
    have d2:w2.cell? ⟨p,1,none⟩=some (.slice (some ⟨gt,0,none⟩) cap cap):=(World.cell?_of_block (a:=⟨p,1,none⟩) (k2.block p hpl (by simpa using hpg))).trans d1
    have g0:=t2.c (x:=z) hzn
    have h0:=t2.frozen (z*3+2)
    have t3:=t2.setC hzn (o:=some v) (by rintro y e;cases e;exact hvn)
    rw [oZ_some] at t3
    have k3:Keeps [gt] w1 (w2.setCell ⟨gt,z*3+2,none⟩ (.int .i64 (v:Int))):=k2.setCell (.inl (by simp)) _
    clear d1 e0 e1 e2 f1 f2 t1 m1 t2 k2
    go_upto_region 11 with fail
    clear g0 h0 d2
    generalize w2.setCell ⟨gt,z*3+2,none⟩ (.int .i64 (v:Int))=w3 at *
    have d2:w3.cell? ⟨p,1,none⟩=some (.slice (some ⟨gt,0,none⟩) cap cap):=(World.cell?_of_block (a:=⟨p,1,none⟩) (k3.block p hpl (by simpa using hpg))).trans D1.out
    have g0:=t3.a (x:=u) hun
    have h0:=t3.frozen (u*3)
    have t4:=t3.setA hun (o:=some v) (by rintro y e;cases e;exact hvn)
    have k4:Keeps [gt] w1 (w3.setCell ⟨gt,u*3,none⟩ (.int .i64 (v:Int))):=k3.setCell (.inl (by simp)) _
    rw [<-backOf_some hk] at t4
    have hfi:=hfin _ (by rw [hk];exact t4) k4
    have HFI:=Lib.hid hfi
    clear hfin hfi t4 k4 t3 k3 hk
    go_wp2_with fail
    go_ret
    exact ⟨u,v,rfl,.inr ⟨rfl,rfl⟩,HFI.out.1,HFI.out.2⟩
 | false =>
  have hal:=HAL.out
  rw [hbb] at hal
  have hab:ahead E a b=true:=by
   rcases HTOT.out with c|c
   .exact c
   .rw [hbb] at c;cases c
  obtain ⟨u,rfl⟩:∃u,u=a:=⟨a,rfl⟩
  obtain ⟨v,rfl⟩:∃v,v=b:=⟨b,rfl⟩
  have HB:=Lib.hid hab
  clear hbb hab
  go_enter Tryz.func378,Tryz.ntmps378
  go_upto_region 7 with (go_at_call 339;refine hal.mono ?_;rintro e w1 ⟨rfl,hc1,hk1⟩)
  obtain ⟨m1,hfin⟩:=HM.out u v w1 ha hb hac hbc hza hne HB.out hc1 hk1
  clear hal
  have d1:=m1.c1
  have D1:=Lib.hid d1
  have t1:=m1.ti
  have hpg:p≠gt:=m1.ne.1.1
  have e0:=t1.a (x:=u) (by assumption)
  have e1:=t1.b (x:=v) (by assumption)
  have e2:=t1.c (x:=v) (by assumption)
  have f1:=t1.frozen (v*3+1)
  have f2:=t1.frozen (v*3+2)
  have hu3:(u:Int)<(cap:Int):=by omega
  have hv3:(v:Int)<(cap:Int):=by omega
  have hvn:v<cap:=by assumption
  have hun:u<cap:=by assumption
  have hup:u<cap:=by assumption
  have hb1:=hc1.lt
  have hpl:p<w1.heap.size:=m1.lt.1
  cases hk:kid u with
  | none =>
   rw [hk] at e0
   simp only [oZ_none] at e0
   have t2:=((t1.setB hvn (o:=none) (by simp)).setC hvn (o:=some u) (by rintro y e;cases e;exact hun)).keep (S:=[]) (w':=(((w1.setCell ⟨gt,v*3+1,none⟩ (.int .i64 (-1))).setCell ⟨gt,v*3+2,none⟩ (.int .i64 (u:Int))).drew)) ⟨rfl,rfl,rfl,Nat.le_refl _,fun _ _ _=>rfl⟩ (by simp)
   have k2:Keeps [gt] w1 (((w1.setCell ⟨gt,v*3+1,none⟩ (.int .i64 (-1))).setCell ⟨gt,v*3+2,none⟩ (.int .i64 (u:Int))).drew):=(((Keeps.refl _ _).setCell (.inl (by simp)) _).setCell (.inl (by simp)) _).drew
   go_upto_region 8 with fail
   go_region
   all_goals
    generalize (((w1.setCell ⟨gt,v*3+1,none⟩ (.int .i64 (-1))).setCell ⟨gt,v*3+2,none⟩ (.int .i64 (u:Int))).drew)=w2 at *
    have d2:w2.cell? ⟨p,1,none⟩=some (.slice (some ⟨gt,0,none⟩) cap cap):=(World.cell?_of_block (a:=⟨p,1,none⟩) (k2.block p hpl (by simpa using hpg))).trans d1
    have g0:=t2.a (x:=u) hun
    have h0:=t2.frozen (u*3)
    have t3:=t2.setA hun (o:=some v) (by rintro y e;cases e;exact hvn)
    have k3:Keeps [gt] w1 (w2.setCell ⟨gt,u*3,none⟩ (.int .i64 (v:Int))):=k2.setCell (.inl (by simp)) _
    rw [<-backOf_none hk] at t3
    have hfi:=hfin _ (by rw [hk];exact t3) k3
    have HFI:=Lib.hid hfi
    clear hfin hfi t3 k3 d1 e0 e1 e2 f1 f2 t1 m1 k2 t2 hk
    go_wp2_with fail
    go_ret
    exact ⟨u,v,rfl,.inl ⟨rfl,rfl⟩,HFI.out.1,HFI.out.2⟩
  | some z =>
   have hzn:=t1.wf u z (.inl hk)
   have hz3:(z:Int)<(cap:Int):=by omega
   have hzb:((z:Int) != -1)=true:=by rw [bne_iff_ne];omega
   rw [hk] at e0
   simp only [oZ_some] at e0
   have t2:=((t1.setB hvn (o:=some z) (by rintro y e;cases e;exact hzn)).setC hvn (o:=some u) (by rintro y e;cases e;exact hun)).keep (S:=[]) (w':=(((w1.setCell ⟨gt,v*3+1,none⟩ (.int .i64 (z:Int))).setCell ⟨gt,v*3+2,none⟩ (.int .i64 (u:Int))).drew)) ⟨rfl,rfl,rfl,Nat.le_refl _,fun _ _ _=>rfl⟩ (by simp)
   have k2:Keeps [gt] w1 (((w1.setCell ⟨gt,v*3+1,none⟩ (.int .i64 (z:Int))).setCell ⟨gt,v*3+2,none⟩ (.int .i64 (u:Int))).drew):=(((Keeps.refl _ _).setCell (.inl (by simp)) _).setCell (.inl (by simp)) _).drew
   go_upto_region 8 with fail
   go_region
   all_goals
    generalize (((w1.setCell ⟨gt,v*3+1,none⟩ (.int .i64 (z:Int))).setCell ⟨gt,v*3+2,none⟩ (.int .i64 (u:Int))).drew)=w2 at *
    have d2:w2.cell? ⟨p,1,none⟩=some (.slice (some ⟨gt,0,none⟩) cap cap):=(World.cell?_of_block (a:=⟨p,1,none⟩) (k2.block p hpl (by simpa using hpg))).trans d1
    have g0:=t2.c (x:=z) hzn
    have h0:=t2.frozen (z*3+2)
    have t3:=t2.setC hzn (o:=some v) (by rintro y e;cases e;exact hvn)
    rw [oZ_some] at t3
    have k3:Keeps [gt] w1 (w2.setCell ⟨gt,z*3+2,none⟩ (.int .i64 (v:Int))):=k2.setCell (.inl (by simp)) _
    clear d1 e0 e1 e2 f1 f2 t1 m1 t2 k2
    go_upto_region 11 with fail
    clear g0 h0 d2
    generalize w2.setCell ⟨gt,z*3+2,none⟩ (.int .i64 (v:Int))=w3 at *
    have d2:w3.cell? ⟨p,1,none⟩=some (.slice (some ⟨gt,0,none⟩) cap cap):=(World.cell?_of_block (a:=⟨p,1,none⟩) (k3.block p hpl (by simpa using hpg))).trans D1.out
    have g0:=t3.a (x:=u) hun
    have h0:=t3.frozen (u*3)
    have t4:=t3.setA hun (o:=some v) (by rintro y e;cases e;exact hvn)
    have k4:Keeps [gt] w1 (w3.setCell ⟨gt,u*3,none⟩ (.int .i64 (v:Int))):=k3.setCell (.inl (by simp)) _
    rw [<-backOf_some hk] at t4
    have hfi:=hfin _ (by rw [hk];exact t4) k4
    have HFI:=Lib.hid hfi
    clear hfin hfi t4 k4 t3 k3 hk
    go_wp2_with fail
    go_ret
    exact ⟨u,v,rfl,.inl ⟨rfl,rfl⟩,HFI.out.1,HFI.out.2⟩
end
section
variable {P:Program}
theorem step_push {ops:Array Oper} {o:Oper} {a:Act} {K:Act->World->Prop} {Q:Exit->Act->World->Prop} {E:Prop} (hgd:o.guard=none) (s x:Operand) (t e:TypeId)
  (ho:o.op=.call { callee:=.builtin .append,args:=#[s,x],argTypes:=#[t,t] })
  (z:Value) (ht:P.underlying t=some (.slice e)) (hi:(P.info? e).map (fun i=>(i.zero,i.size,i.bytes))=some (some z,1,8)) (hzs:z.cells.size=1)
  (B:Nat) (w W:World) (y:Value) (hy:y.oneCell'=true) (c:Nat×Nat) (hB:B<=w.heap.size) (hW:W.heap=(w.alloc (.cells #[y] e c)).heap) (hW1:W.os=w.os) (hW2:W.tape=w.tape) (hW3:W.output=w.output)
  (v:Value) (n:Nat) (xs:List Value) (hs:a.eval s=v) (hown:w.ownsRow B e 1 v n xs) (hx:a.eval x=.slice (some ⟨w.heap.size,0,none⟩) 1 1)
  (h63:n+1<=maxLen) (hbytes:(n+1)*8<=140737488355328)
  (h:∀v' w',w'.ownsRow B e 1 v' (n+1) (xs++[y])->Keeps v.ownBlock.toList w w'->K (a.put o.dst v') w') :
  if Region.wanted o (yielded ops a.tmps)=true then Oper.wp P o a W K Q else E:=by
 obtain ⟨i,hi,hz,hsize,hby⟩:=info_parts hi
 have hw:Region.wanted o (yielded ops a.tmps)=true:=by simp [Region.wanted,hgd]
 rw [if_pos hw]
 have hownW:W.ownsRow B e 1 v n xs:=by
  have:=hown.alloc (.cells #[y] e c)
  refine ⟨this.1,?_⟩
  rw [hW];exact this.2
 have hcell:∀j u,([y]:List Value)[j]?=some u->W.cell? ((⟨w.heap.size,0,none⟩:Addr).add j)=some u:=by
  intro j u hj
  match j,hj with
  | 0,hj =>
   simp at hj;subst hj
   have:W.heap[w.heap.size]?=some (.cells #[y] e c):=by rw [hW];exact blk_alloc_new _
   show W.cell? ⟨w.heap.size,0,none⟩=_
   rw [cell_of_blk this];rfl
 have hBW:B<=W.heap.size:=by rw [hW];simp;omega
 obtain ⟨v',w',hr,h2,h3,_,h5⟩:=run_append_own_at (P:=P) W B t o.type e i z 1 8 ht hi hz hsize hby hzs (by decide) v n xs hownW ⟨w.heap.size,0,none⟩ 1 1 [y] rfl hcell (by intro u hu;simp at hu;subst hu;exact hy) h63 hbytes hBW
 have k1:Keeps [] w W:=by
  have k:Keeps [] w (w.alloc (.cells #[y] e c)):=(Keeps.refl _ _).alloc _
  exact ⟨hW1.trans k.os,hW2.trans k.tape,hW3.trans k.output,by rw [hW];exact k.size,by rw [hW];exact k.block⟩
 have k2:Keeps v.ownBlock.toList W w':=(Keeps.refl _ _).grown h3 (fun k e=>.inl (by simp [e]))
 have hfin:=h v' w' h2 ((k1.mono (T:=v.ownBlock.toList) (by simp)).trans k2 fun _ hb=>.inl hb)
 unfold Oper.wp execOp
 simp only [ho,resolve,invoke,builtin,Sem.run_bind,Sem.run_pure,Result.andThen_ok,List.map_toArray,List.map_cons,List.map_nil,hs,hx,hr]
 exact hfin
end
theorem ir_of {B:Nat} {w:World} {v:Value} {L:List Nat} {x:Nat} (h:w.ownsRow B 3 1 v (L.length+1) (Rg.nCells L++[.int .i64 (x:Int)])):Rg.IR B w v (L++[x]):=by
 unfold Rg.IR
 rw [List.length_append,List.length_singleton,Rg.nCells_append]
 simpa [Rg.nCells] using h
section
variable (w:World) (p pc gt:Nat) (vT:Value) (Fc:List Nat) (cap hs:Nat) (E:Ent) (h:Nat) (top:Nat->Option Nat)
def KidsDone (l:List Nat) (e:Ending) (w':World):Prop:=∃v,e=.returned v∧Rg.IR w.heap.size w' v l∧Below w.heap.size w w'
theorem kids_calls (K:Nat->List Nat) (kid next back U:Nat->Option Nat) (m:PairMid w p pc gt vT Fc cap hs E kid next back) (t:Ties K kid next back U) (x:Nat) (hx:isIn E h x) :
  Calls Tryz.prog 380 #[.pointer (some ⟨p,0,none⟩),.int .i64 x] w (KidsDone w (K x)):=by
 have hxc:=m.ce.ok.lt x hx.some
 have hbc:=m.ce.ok.bc
 have hhome:=cells_home w Fc pc cap hs E m.ce x h hx
 have c0:=m.c0
 have hkc:∀y∈K x,y<cap:=by
  intro y hy
  obtain ⟨i,hi,e⟩:=List.mem_iff_getElem.1 hy
  cases i with
  | zero=>exact m.ti.wf x y (.inl (by rw [t.kid,List.getElem?_eq_getElem hi,e]))
  | succ i =>
   have hi':i<(K x).length:=by omega
   have hn:=t.nx x i _ (List.getElem?_eq_getElem hi')
   exact m.ti.wf _ y (.inr (.inl (by rw [hn,List.getElem?_eq_getElem hi,e])))
 have hlen:(K x).length<=cap:=nodup_len (t.nd x) hkc
 have hk0:=t.kid x
 have hnx:=t.nx x
 have hA:∀u,Below w.heap.size w u->u.cell? ⟨p,1,none⟩=some (.slice (some ⟨gt,0,none⟩) cap cap)∧(∀y,y<cap->u.cell? ⟨gt,y*3,none⟩=some (.int .i64 (oZ (kid y))))∧(∀y,y<cap->u.cell? ⟨gt,y*3+1,none⟩=some (.int .i64 (oZ (next y)))):=fun u hb =>
  have m':=m.below hb
  ⟨m'.c1,fun y hy=>m'.ti.a hy,fun y hy=>m'.ti.b hy⟩
 obtain ⟨l,hl⟩:∃l,K x=l:=⟨_,rfl⟩
 rw [hl] at hkc hlen hk0 hnx ⊢
 have HA:=Lib.hid hA
 have HNX:=Lib.hid hnx
 have HK0:=Lib.hid hk0
 have HKC:=Lib.hid hkc
 clear hA hnx hk0 hkc hl t m
 have hx3:(x:Int)<(cap:Int):=by omega
 go_enter Tryz.func380,Tryz.ntmps380
 go_upto_region 5 with (go_at_call 302;refine hhome.mono ?_;rintro e w1 ⟨rfl,n1,rfl⟩)
 have hb0:Below w.heap.size w (w.drewN n1):=⟨rfl,rfl,rfl,Nat.le_refl _,fun _ _=>rfl⟩
 obtain ⟨d1,d2,_⟩:=HA.out _ hb0
 have d3:=d2 x hxc
 rw [HK0.out] at d3
 clear d2
 generalize w.drewN n1=w0 at *
 go_wp2_with fail
 go_loopg [7,8] (l.length+1) (fun m s t wr=>∃(i:Nat) (ao:Option Addr) (ca:Nat),m+i=l.length+1∧i<=l.length∧s=.slice ao i ca∧t=.int .i64 (oZ (l[i]?))∧Rg.IR w.heap.size wr s (l.take i)∧Below w.heap.size w wr)
 case atStart=>exact ⟨0,none,0,by omega,by omega,rfl,rfl,Rg.IR.nil _ _,hb0⟩
 case round =>
  clear hb0 d1 d3
  obtain ⟨i,ao,ca,hk,hi,rfl,rfl,hir,hb⟩:=hrel
  have HK:=Lib.hid hk
  clear hk
  rcases Nat.lt_or_ge i l.length with hlt|hge
  .obtain ⟨y,hy⟩:∃y,l[i]?=some y:=⟨_,List.getElem?_eq_getElem hlt⟩
   have hyc:=HKC.out y (List.mem_of_getElem? hy)
   have hnext:=HNX.out i y hy
   have hyb:((y:Int) != -1)=true:=by rw [bne_iff_ne];omega
   have htk:l.take (i+1)=l.take i++[y]:=by
    rw [List.take_add_one,hy];rfl
   have hlt2:(l.take i).length=i:=by simp;omega
   have HY:=Lib.hid hy
   rw [hy]
   simp only [oZ_some]
   clear hy
   have hrow:wr.ownsRow 0 3 1 (.slice ao i ca) i (Rg.nCells (l.take i)):=by
    have:=hir.lo (Nat.zero_le _)
    unfold Rg.IR at this
    rwa [hlt2] at this
   have hsz:=hb.size
   have HTK:=Lib.hid htk
   have HNEXT:=Lib.hid hnext
   clear htk hnext
   go_upto_region 7 with (at_builtin;refine wpList_push _ 3 (.int .i64 (y:Int)) (0,0) rfl (.tmp 38) (.tmp 40) 28 rfl (.int .i64 0) 8 Tryz.underlying28 Rg.Tryz.infoInt rfl rfl _ i (Rg.nCells (l.take i)) (by simp [Act.eval]) hrow (by simp [Act.eval]) (by unfold maxLen;omega) (by omega) ?_;intro g' cap' w4 hr4 hk4 hf4)
   have hown:∀b∈(Value.slice ao i ca).ownBlock.toList,w.heap.size<=b:=fun b hb=>(hir.own b (by simpa using hb)).1
   have hg':w.heap.size<=g':=by
    rcases hf4 with h1|h1
    .exact hown g' (by simpa using h1)
    .omega
   have hir4:Rg.IR w.heap.size w4 (.slice (some ⟨g',0,none⟩) (i+1) cap') (l.take (i+1)):=by
    rw [HTK.out]
    have:=Rg.IR.pushed (B:=w.heap.size) (L:=l.take i) (x:=y) (by rw [hlt2];exact hr4) hg'
    rwa [hlt2] at this
   have hb4:=hb.trans (hk4.below hsz hown)
   obtain ⟨d1,_,d2⟩:=HA.out _ hb4
   have d3:=d2 y hyc
   rw [HNEXT.out] at d3
   have hy3:(y:Int)<(cap:Int):=by omega
   clear d2 hr4 hk4 hf4 hown hrow hir hb
   go_wp2_with fail
   go_roundg (gk - 1)
   case measure=>have:=HK.out;omega
   case rel=>exact ⟨i+1,_,_,by have:=HK.out;omega,by omega,rfl,rfl,hir4,hb4⟩
  .obtain rfl:i=l.length:=by omega
   rw [show l[l.length]?=none from List.getElem?_eq_none (Nat.le_refl _),List.take_length] at *
   simp only [oZ_none]
   go_wp2_with fail
   go_ret
   exact ⟨_,rfl,hir,hb⟩
end
section
variable {w w4:World} {p pc ga q ca cap hs n x g' cap':Nat} {ao:Option Addr} {vP:Value} {Fc:List Nat} {E:Ent} {v:Nat->Nat} {f:Nat->Int}
theorem PileOk.list (h:PileOk w p pc ga q ao ca vP Fc cap hs E n v f):∃Lm:List Nat,Lm.length=n∧Rg.IR 0 w (.slice ao n ca) Lm∧∀j,j<n->Rg.fn Lm j=v j:=by
 obtain ⟨Lm,l1,l2,l3⟩:=h.row
 exact ⟨Lm,l1,by rw [l1] at l2;exact l2,l3⟩
theorem PileOk.setAt (h:PileOk w p pc ga q ao ca vP Fc cap hs E n v f) (hx:∀j,j<n->v j≠x) (hc:x<cap) (z:Int) :
  PileOk (w.setCell ⟨ga,x,none⟩ (.int .i64 z)) p pc ga q ao ca vP Fc cap hs E n v (upd f x z):=by
 have k:Keeps [ga] w (w.setCell ⟨ga,x,none⟩ (.int .i64 z)):=(Keeps.refl _ _).setCell (.inl (by simp)) _
 obtain ⟨n1,n2,n3,n4,n5,n6⟩:=h.ne
 obtain ⟨Lm,l1,l2,l3⟩:=h.row
 refine ⟨k.blk h.bp (by simpa using n2),k.blk h.bq (by simpa using n3),h.ce.keep k (fun b hb e=>by simp at e;subst e;exact n6 hb),?_,⟨Lm,l1,ir_keep l2 k (fun y e=>by simpa using (h.na y e).2.2.1),l3⟩,h.ne,h.na,?_,h.lt,h.inj⟩
 .refine (h.ar.set1 hc (.int .i64 z)).congr fun k _=>?_
  by_cases a:k=x
  .subst a;simp [upd_same,numV]
  .simp [upd_other _ _ a,numV]
 .intro j hj
  rw [upd_other _ _ (hx j hj)];exact h.pos j hj
theorem PileOk.push (h:PileOk w p pc ga q ao ca vP Fc cap hs E n v f) (hx:∀j,j<n->v j≠x) (hc:x<cap) (hf:f x=(n:Int)) {Lm:List Nat} (l1:Lm.length=n) (l3:∀j,j<n->Rg.fn Lm j=v j)
  (hr:w4.ownsRow 0 3 1 (.slice (some ⟨g',0,none⟩) (n+1) cap') (n+1) (Rg.nCells Lm++[.int .i64 (x:Int)]))
  (hk:Keeps (Value.slice ao n ca).ownBlock.toList w w4) (hg:(Value.slice ao n ca).ownBlock=some g'∨w.heap.size<=g') :
  PileOk (w4.setCell ⟨q,1,none⟩ (.slice (some ⟨g',0,none⟩) (n+1) cap')) p pc ga q (some ⟨g',0,none⟩) cap' vP Fc cap hs E (n+1) (fun k=>if k=n then x else v k) f ∧
   Keeps (pfp q ao) w (w4.setCell ⟨q,1,none⟩ (.slice (some ⟨g',0,none⟩) (n+1) cap'))∧(∀b∈pfp q (some ⟨g',0,none⟩),b∈pfp q ao∨w.heap.size<=b)∧(∃u,w4.cell? ⟨q,1,none⟩=some u)∧w4.frozen? ⟨q,1,none⟩=false:=by
 have hown:∀b∈(Value.slice ao n ca).ownBlock.toList,∃x,ao=some x∧x.block=b:=by
  intro b hb
  cases ao with
  | none=>simp [Value.ownBlock] at hb
  | some a =>
   obtain ⟨b',o',i'⟩:=a
   refine ⟨_,rfl,?_⟩
   simp [Value.ownBlock] at hb
   exact hb.symm
 have hno:∀b,b=p∨b=q∨b=ga∨b∈Fc->b∉(Value.slice ao n ca).ownBlock.toList:=by
  intro b hb e
  obtain ⟨y,e1,e2⟩:=hown b e
  obtain ⟨m1,m2,m3,m4⟩:=h.na y e1
  rw [e2] at m1 m2 m3 m4
  rcases hb with rfl|rfl|rfl|hb
  .exact m1 rfl
  .exact m2 rfl
  .exact m3 rfl
  .exact m4 hb
 have hbl:=h.below
 obtain ⟨n1,n2,n3,n4,n5,n6⟩:=h.ne
 have hgp:g'≠p∧g'≠q∧g'≠ga∧g'∉Fc:=by
  rcases hg with e|e
  .obtain ⟨y,e1,e2⟩:=hown g' (by simp [e])
   rw [<-e2];exact h.na y e1
  .have a1:=hbl p (by simp)
   have a2:=hbl q (by simp [pfp])
   have a3:=hbl ga (by simp)
   exact ⟨by omega,by omega,by omega,fun hm=>by have:=hbl g' (by simp [hm]);omega⟩
 have k2:Keeps [q] w4 (w4.setCell ⟨q,1,none⟩ (.slice (some ⟨g',0,none⟩) (n+1) cap')):=(Keeps.refl _ _).setCell (.inl (by simp)) _
 have bq4:=hk.blk h.bq (hno q (by simp))
 have hr2:Rg.IR 0 w4 (.slice (some ⟨g',0,none⟩) (Lm++[x]).length cap') (Lm++[x]):=by
  subst l1
  have:=Rg.IR.pushed (B:=0) (L:=Lm) (x:=x) hr (Nat.zero_le _)
  simpa using this
 refine ⟨⟨k2.blk (hk.blk h.bp (hno p (by simp))) (by simpa using n1),?_,(h.ce.keep hk (fun b hb=>hno b (by simp [hb]))).keep k2 (fun b hb e=>by simp at e;subst e;exact n5 hb),(h.ar.keep hk (hno ga (by simp))).keep k2 (by simpa using fun e=>n3 e.symm),
  ⟨Lm++[x],by simp [l1],ir_keep hr2 k2 (fun y e=>by cases e;simpa using hgp.2.1),?_⟩,h.ne,fun y e=>by cases e;exact hgp,?_,?_,(hole_add h.inj hx).2⟩,?_,?_,⟨_,by rw [cell_of_blk bq4];rfl⟩,frozen_of_blk bq4⟩
 .rw [blk_setCell _ bq4];simp
 .intro j hj
  by_cases e:j=n
  .subst e;subst l1;simp [Rg.fn,List.getD]
  .simp only [if_neg e]
   rw [<-l3 j (by omega)]
   simp [Rg.fn,List.getD,List.getElem?_append_left (show j<Lm.length by omega)]
 .intro j hj
  by_cases e:j=n
  .subst e;simpa using hf
  .simp only [if_neg e];exact h.pos j (by omega)
 .intro j hj
  by_cases e:j=n
  .subst e;simpa using hc
  .simp only [if_neg e];exact h.lt j (by omega)
 .refine (hk.mono (T:=pfp q ao) fun b hb=>.inl ?_).trans k2 (by simp [pfp])
  obtain ⟨y,e1,e2⟩:=hown b hb
  simp [pfp,e1,e2]
 .intro b hb
  simp only [pfp,Option.toList_some,List.map_cons,List.map_nil,List.mem_cons,List.not_mem_nil,or_false] at hb
  rcases hb with rfl|rfl
  .exact .inl (by simp [pfp])
  .rcases hg with e|e
   .obtain ⟨y,e1,e2⟩:=hown b (by simp [e])
    exact .inl (by simp [pfp,e1,e2])
   .exact .inr e
theorem PileOk.pop (h:PileOk w p pc ga q ao ca vP Fc cap hs E (n+1) v f):PileOk (w.setCell ⟨q,1,none⟩ (.slice ao n ca)) p pc ga q ao ca vP Fc cap hs E n v f:=by
 have k:Keeps [q] w (w.setCell ⟨q,1,none⟩ (.slice ao n ca)):=(Keeps.refl _ _).setCell (.inl (by simp)) _
 obtain ⟨n1,n2,n3,n4,n5,n6⟩:=h.ne
 obtain ⟨Lm,l1,l2,l3⟩:=h.row
 have hlt:(Lm.take n).length=n:=by simp;omega
 refine ⟨k.blk h.bp (by simpa using n1),by rw [blk_setCell _ h.bq];simp,h.ce.keep k (fun b hb e=>by simp at e;subst e;exact n5 hb),h.ar.keep k (by simpa using fun e=>n3 e.symm),⟨Lm.take n,hlt,?_,fun j hj=>?_⟩,h.ne,h.na,fun j hj=>h.pos j (by omega),fun j hj=>h.lt j (by omega),fun a b ha hb e=>h.inj a b (by omega) (by omega) e⟩
 .rw [hlt]
  have hr:=ir_keep l2 k (fun x hx=>by simpa using (h.na x hx).2.1)
  rcases hr.2 with ⟨h0,h1⟩|⟨g',cap',cur,hv,hb,hh,r1,r2,r3,r4⟩
  .omega
  .cases hv
   refine ⟨by simp [Rg.nCells],.inr ⟨g',ca,cur,by rw [hlt],hb,hh,by omega,r2,r3,?_⟩⟩
   rw [Nat.mul_one] at r4 ⊢
   have e:cur.toList.take (Lm.take n).length=(cur.toList.take Lm.length).take n:=by rw [List.take_take,hlt,Nat.min_eq_left (by omega)]
   rw [e,r4];simp [Rg.nCells,List.map_take]
 .rw [<-l3 j (by omega)]
  simp [Rg.fn,List.getD,hj]
end
section
variable (w:World) (p pc ga q:Nat) (ao:Option Addr) (ca:Nat) (vP:Value) (Fc:List Nat) (cap hs:Nat) (E:Ent) (n:Nat) (v:Nat->Nat) (f:Nat->Int)
theorem assert_int (x:Int) (t:TypeId) (w:World):(Instr.typeAssert (.iface 3 (.int .i64 x)) t 3 false).run Tryz.prog w=.ok (.int .i64 x) w:=by kernel_rfl
def PushDone (x:Nat) (e:Ending) (w':World):Prop :=
 ∃ao' ca',e=.returned (.tuple #[])∧PileOk w' p pc ga q ao' ca' vP Fc cap hs E (n+1) (fun k=>if k=n then x else v k) (upd f x (n:Int))∧Keeps (ga::pfp q ao) w w'∧(∀b∈pfp q ao',b∈pfp q ao∨w.heap.size<=b)
theorem pile_push (h:PileOk w p pc ga q ao ca vP Fc cap hs E n v f) (x:Nat) (hx:∀j,j<n->v j≠x) (hc:x<cap) (hn:n+1<=65536) :
  Calls Tryz.prog 454 #[.pointer (some ⟨q,0,none⟩),.iface 3 (.int .i64 x)] w (PushDone w p pc ga q ao vP Fc cap hs E n v f x):=by
 have q0:=h.q0
 have q1:=h.q1
 have p2:=h.p2
 obtain ⟨n1,n2,n3,n4,n5,n6⟩:=h.ne
 obtain ⟨xv,hxv⟩:∃u,w.cell? ⟨ga,x,none⟩=some u:=⟨_,h.ar.cell1 hc⟩
 have hxf:w.frozen? ⟨ga,x,none⟩=false:=h.ar.frozen _
 have hx3:(x:Int)<(cap:Int):=by omega
 have hset:=h.setAt hx hc (n:Int)
 have hmid:∀u,u.heap=(w.setCell ⟨ga,x,none⟩ (.int .i64 (n:Int))).heap->u.os=w.os->u.tape=w.tape->u.output=w.output->∃Lm:List Nat,Lm.length=n∧Rg.IR 0 u (.slice ao n ca) Lm∧u.cell? ⟨q,1,none⟩=some (.slice ao n ca)∧u.frozen? ⟨q,1,none⟩=false ∧
   ∀(w4:World) (g' cap':Nat),w4.ownsRow 0 3 1 (.slice (some ⟨g',0,none⟩) (n+1) cap') (n+1) (Rg.nCells Lm++[.int .i64 (x:Int)])->Keeps (Value.slice ao n ca).ownBlock.toList u w4->((Value.slice ao n ca).ownBlock=some g'∨u.heap.size<=g') ->
    w4.frozen? ⟨q,1,none⟩=false∧(∃u,w4.cell? ⟨q,1,none⟩=some u)∧∀W,W=w4.setCell ⟨q,1,none⟩ (.slice (some ⟨g',0,none⟩) (n+1) cap')->PushDone w p pc ga q ao vP Fc cap hs E n v f x (.returned (.tuple #[])) W:=by
  intro u e1 e2 e3 e4
  have k0:Keeps [ga] w (w.setCell ⟨ga,x,none⟩ (.int .i64 (n:Int))):=(Keeps.refl _ _).setCell (.inl (by simp)) _
  have ku:Keeps [] (w.setCell ⟨ga,x,none⟩ (.int .i64 (n:Int))) u:=⟨by rw [e2];rfl,by rw [e3];rfl,by rw [e4];rfl,by rw [e1];exact Nat.le_refl _,fun k _ _=>by rw [e1]⟩
  have hu:=hset.same ku
  have kwu:Keeps [ga] w u:=k0.trans ku (by simp)
  obtain ⟨Lm,l1,l2,l3⟩:=hu.list
  refine ⟨Lm,l1,l2,hu.q1,frozen_of_blk hu.bq,fun w4 g' cap' a1 a2 a3=>?_⟩
  obtain ⟨b1,b2,b3,b4,b5⟩:=hu.push hx hc (by rw [upd_same]) l1 l3 a1 a2 a3
  refine ⟨b5,b4,?_⟩
  rintro W rfl
  refine ⟨_,_,rfl,b1,(kwu.mono (T:=ga::pfp q ao) (by simp)).trans b2 (fun b hb=>.inl (by simp [hb])),fun b hb=>?_⟩
  rcases b3 b hb with c|c
  .exact .inl c
  .exact .inr (by have:=kwu.size;omega)
 have HMID:=Lib.hid hmid
 clear hmid hset h hx
 have hta:=fun t=>assert_int x t w
 go_enter Tryz.func454,Tryz.ntmps454
 go_wp2_with fail
 go_region_held3 (fun u=>u.cell? ⟨q,0,none⟩=some (.pointer (some ⟨p,0,none⟩))∧u.cell? ⟨q,1,none⟩=some (.slice ao n ca)∧u.cell? ⟨p,2,none⟩=some (.slice (some ⟨ga,0,none⟩) cap cap))
  (first|exact ⟨q0,q1,p2⟩|exact ⟨cell_set_ne n3 q0,cell_set_ne n3 q1,cell_set_ne n2 p2⟩) (fail)
 all_goals
  obtain ⟨u,hu⟩:∃u,u=(w.setCell ⟨ga,x,none⟩ (.int .i64 (n:Int))).drew:=⟨_,rfl⟩
  obtain ⟨Lm,l1,l2,l4,l5,l6⟩:=HMID.out u (by rw [hu];rfl) (by rw [hu];rfl) (by rw [hu];rfl) (by rw [hu];rfl)
  have l2':u.ownsRow 0 3 1 (.slice ao n ca) n (Rg.nCells Lm):=by
   unfold Rg.IR at l2;rwa [l1] at l2
  have H6:=Lib.hid l6
  have H1:=Lib.hid l1
  clear l6 HMID q0 q1 p2 hxv hxf l2 l1
  rw [<-hu]
  clear hu
  go_upto_region 3 with (first
   | (at_builtin;refine wpList_push _ 3 (.int .i64 (x:Int)) (0,0) rfl (.tmp 25) (.tmp 27) 28 rfl (.int .i64 0) 8 Tryz.underlying28 Rg.Tryz.infoInt rfl rfl _ n (Rg.nCells Lm) (by simp [Act.eval]) l2' (by simp [Act.eval]) (by unfold maxLen;omega) (by omega) ?_;intro g' cap' w4 hr4 hk4 hf4;obtain ⟨f4,⟨u4,c4⟩,HF⟩:=H6.out w4 g' cap' hr4 hk4 hf4;have HF4:=Lib.hid HF;clear hr4 hk4 hf4 HF))
  go_end0
  exact HF4.out _ rfl
def PopDone (e:Ending) (w':World):Prop:=e=.returned (.iface 3 (.int .i64 (v n:Nat)))∧PileOk w' p pc ga q ao ca vP Fc cap hs E n v f∧Keeps [q] w w'
theorem pile_pop (h:PileOk w p pc ga q ao ca vP Fc cap hs E (n+1) v f) (hn:n+1<=65536) :
  Calls Tryz.prog 453 #[.pointer (some ⟨q,0,none⟩)] w (PopDone w p pc ga q ao ca vP Fc cap hs E n v f):=by
 obtain ⟨g,rfl,g1,g2,g3,g4,g5,c1,_⟩:=h.at (i:=n) (by omega)
 have q1:=h.q1
 have f1:w.frozen? ⟨q,1,none⟩=false:=frozen_of_blk h.bq
 have hcap:n+1<=ca:=by
  obtain ⟨Lm,l1,l2,l3⟩:=h.row
  have:=row_cap l2
  omega
 have hn3:(n:Int)<((n+1:Nat):Int):=by omega
 have hfin:∀W,W.heap=(w.setCell ⟨q,1,none⟩ (.slice (some ⟨g,0,none⟩) n ca)).heap->W.os=w.os->W.tape=w.tape->W.output=w.output->PopDone w p pc ga q (some ⟨g,0,none⟩) ca vP Fc cap hs E n v f (.returned (.iface 3 (.int .i64 (v n:Nat)))) W:=by
  intro W e1 e2 e3 e4
  have k0:Keeps [q] w (w.setCell ⟨q,1,none⟩ (.slice (some ⟨g,0,none⟩) n ca)):=(Keeps.refl _ _).setCell (.inl (by simp)) _
  have ku:Keeps [] (w.setCell ⟨q,1,none⟩ (.slice (some ⟨g,0,none⟩) n ca)) W:=⟨by rw [e2];rfl,by rw [e3];rfl,by rw [e4];rfl,by rw [e1];exact Nat.le_refl _,fun k _ _=>by rw [e1]⟩
  exact ⟨rfl,h.pop.same ku,k0.trans ku (by simp)⟩
 have HF:=Lib.hid hfin
 clear hfin h
 go_enter Tryz.func453,Tryz.ntmps453
 go_wp2_with fail
 go_quiet (fail)
 go_wp2_with fail
 go_region
 all_goals
  go_wp2_with fail
  go_ret
  exact HF.out _ rfl rfl rfl rfl
end
section
variable (w:World) (p pc pr gn gp gt gT cT:Nat) (Fc:List Nat) (cap hs:Nat) (E Eo:Ent) (U:Nat->Option Nat) (top:Nat->Option Nat)
def CasDone (h:Nat) (w':World):Prop :=
 ∃(wl':List (List Nat)) (U' kid':Nat->Option Nat) (deg':Nat->Nat) (mk':Nat->Bool),FibQ w' p pc pr gn gp gt gT cT Fc cap hs E wl' U' kid' deg' mk' top∧FibM Eo cap (Rl wl') U' kid' deg' top h (fun _=>True) ∧
  Keeps (p::pr::gn::gp::gt::gT::Fc) w w'∧∀y,U y=none->U' y=none
def CasAt (h:Nat) (m x:Nat) (w':World):Prop :=
 ∃(wl':List (List Nat)) (U' kid':Nat->Option Nat) (deg':Nat->Nat) (mk':Nat->Bool),m=nonN U' cap+1∧FibQ w' p pc pr gn gp gt gT cT Fc cap hs E wl' U' kid' deg' mk' top∧FibM Eo cap (Rl wl') U' kid' deg' top h (fun _=>True)∧isIn Eo h x ∧
  Keeps (p::pr::gn::gp::gt::gT::Fc) w w'∧∀y,U y=none->U' y=none
variable (wl:List (List Nat)) (kid:Nat->Option Nat) (deg:Nat->Nat) (mk:Nat->Bool)
theorem fib_cascade (q:FibQ w p pc pr gn gp gt gT cT Fc cap hs E wl U kid deg mk top) (h x:Nat) (h2:h<=hs) (m:FibM Eo cap (Rl wl) U kid deg top h (fun _=>True)) (hi:isIn Eo h x) :
  Calls Tryz.prog 395 #[.pointer (some ⟨p,0,none⟩),.int .i64 h,.int .i64 x] w fun e w'=>e=.returned (.tuple #[])∧Hid (CasDone w p pc pr gn gp gt gT cT Fc cap hs E Eo U top h w'):=by
 have hstart:CasAt w p pc pr gn gp gt gT cT Fc cap hs E Eo U top h (nonN U cap+1) x w:=⟨wl,U,kid,deg,mk,rfl,q,m,hi,Keeps.refl _ _,fun _ e=>e⟩
 have HS:=Lib.hid hstart
 clear hstart q m hi
 go_enter Tryz.func395,Tryz.ntmps395
 go_wp2_with fail
 go_loopg [2] (nonN U cap+1) (fun m s wr=>∃y:Nat,s=.int .i64 y∧CasAt w p pc pr gn gp gt gT cT Fc cap hs E Eo U top h m y wr)
 case atStart=>exact ⟨x,rfl,HS.out⟩
 case round =>
  clear HS
  obtain ⟨go,rfl⟩:∃u,u=gk:=⟨gk,rfl⟩
  obtain ⟨y,rfl,wl',U',kid',deg',mk',hm,q,m,hi,k,hu0⟩:=hrel
  have hyc:=m.lt y hi.some
  have c2:=q.c2
  have d0:=q.k0 hyc
  have hy3:(y:Int)<(cap:Int):=by omega
  cases hu:U' y with
  | none =>
   rw [hu,oZ_none] at d0
   have hfin:CasDone w p pc pr gn gp gt gT cT Fc cap hs E Eo U top h wr:=⟨wl',U',kid',deg',mk',q,m,k,hu0⟩
   have HF:=Lib.hid hfin
   clear hfin q m hi k hu0 hu hm
   go_wp2_with fail
   first|go_end0|refine bodyPost_ret (results_none rfl _ _ _) rfl ?_
   exact ⟨rfl,HF.out⟩
  | some r =>
   rw [hu,oZ_some] at d0
   have d3:=q.k3 hyc
   have f3:=q.ar.frozen (y*4+3)
   have hb:((r:Int)==-1)=false:=by rw [beq_eq_false_iff_ne];omega
   have hb2:((r:Int) != -1)=true:=by rw [bne_iff_ne];omega
   cases hmk:mk' y with
   | false =>
    rw [hmk] at d3
    have q1:=q.setPlace hyc (j:=3) (by decide) _ (place_mark y true)
    have hfin:CasDone w p pc pr gn gp gt gT cT Fc cap hs E Eo U top h (wr.setCell ⟨gt,y*4+3,none⟩ (.bool true)):=⟨wl',U',kid',deg',_,q1,m,k.setCell (.inl (by simp)) _,hu0⟩
    have HF:=Lib.hid hfin
    clear hfin q1 q m hi k hu0 hu hm hmk
    go_wp2_with fail
    first|go_end0|refine bodyPost_ret (results_none rfl _ _ _) rfl ?_
    exact ⟨rfl,HF.out⟩
   | true =>
    rw [hmk] at d3
    have hoff:=fib_off wr p pc pr gn gp gt gT cT Fc cap hs E Eo wl' U' kid' deg' mk' top q h y r h2 m hi hu
    have hir:isIn Eo h r:=by rw [<-hp_some,(m.par y r hu).1,hp_some];exact hi
    have hnx:∀w3,OffDone wr p pc pr gn gp gt gT cT Fc cap hs E Eo U' top h y r w3->∃m',m'<go∧CasAt w p pc pr gn gp gt gT cT Fc cap hs E Eo U top h m' r w3:=by
     rintro w3 ⟨wl3,kid3,deg3,mk3,q3,m3,k3⟩
     have hn:=nonN_off hyc hu
     refine ⟨nonN (upd U' y none) cap+1,by omega,wl3,_,kid3,deg3,mk3,rfl,q3,m3,hir,k.trans k3 (fun b hb=>.inl hb),fun v hv=>?_⟩
     by_cases c:v=y
     .subst c;exact upd_same _ _ _
     .rw [upd_other _ _ c];exact hu0 v hv
    have HN:=Lib.hid hnx
    clear hnx hir q m hi k hu0 hu hm hmk f3
    go_wp2_with (go_at_call 394;refine hoff.mono ?_;rintro e w3 ⟨rfl,hd⟩)
    obtain ⟨m',h3,h4⟩:=HN.out _ hd.out
    go_roundg m'
    case measure=>exact h3
    case rel=>exact ⟨r,rfl,h4⟩
def LooseDone (h x:Nat) (w':World):Prop :=
 ∃(wl':List (List Nat)) (U' kid':Nat->Option Nat) (deg':Nat->Nat) (mk':Nat->Bool),FibQ w' p pc pr gn gp gt gT cT Fc cap hs E wl' U' kid' deg' mk' top∧FibM Eo cap (Rl wl') U' kid' deg' top h (fun _=>True) ∧
  Keeps (p::pr::gn::gp::gt::gT::Fc) w w'∧U' x=none
theorem fib_loosen (q:FibQ w p pc pr gn gp gt gT cT Fc cap hs E wl U kid deg mk top) (h x:Nat) (h2:h<=hs) (m:FibM Eo cap (Rl wl) U kid deg top h (fun _=>True)) (hi:isIn Eo h x) :
  Calls Tryz.prog 388 #[.pointer (some ⟨p,0,none⟩),.int .i64 h,.int .i64 x] w fun e w'=>e=.returned (.tuple #[])∧Hid (LooseDone w p pc pr gn gp gt gT cT Fc cap hs E Eo top h x w'):=by
 have hxc:=m.lt x hi.some
 have c2:=q.c2
 have d0:=q.k0 hxc
 have hx3:(x:Int)<(cap:Int):=by omega
 cases hu:U x with
 | none =>
  rw [hu,oZ_none] at d0
  have hfin:LooseDone w p pc pr gn gp gt gT cT Fc cap hs E Eo top h x w:=⟨wl,U,kid,deg,mk,q,m,Keeps.refl _ _,hu⟩
  have HF:=Lib.hid hfin
  clear hfin q m hi hu
  go_enter Tryz.func388,Tryz.ntmps388
  go_wp2_with fail
  first|go_end0|refine bodyPost_ret (results_none rfl _ _ _) rfl ?_
  exact ⟨rfl,HF.out⟩
 | some r =>
  rw [hu,oZ_some] at d0
  have hb:((r:Int)==-1)=false:=by rw [beq_eq_false_iff_ne];omega
  have hb2:((r:Int) != -1)=true:=by rw [bne_iff_ne];omega
  have hir:isIn Eo h r:=by rw [<-hp_some,(m.par x r hu).1,hp_some];exact hi
  have hoff:=fib_off w p pc pr gn gp gt gT cT Fc cap hs E Eo wl U kid deg mk top q h x r h2 m hi hu
  have hcas:∀w3,OffDone w p pc pr gn gp gt gT cT Fc cap hs E Eo U top h x r w3->Calls Tryz.prog 395 #[.pointer (some ⟨p,0,none⟩),.int .i64 h,.int .i64 r] w3 fun e w'=>e=.returned (.tuple #[])∧Hid (LooseDone w p pc pr gn gp gt gT cT Fc cap hs E Eo top h x w'):=by
   rintro w3 ⟨wl3,kid3,deg3,mk3,q3,m3,k3⟩
   refine (fib_cascade w3 p pc pr gn gp gt gT cT Fc cap hs E Eo _ top wl3 kid3 deg3 mk3 q3 h r h2 m3 hir).mono ?_
   rintro e w4 ⟨rfl,wl4,U4,kid4,deg4,mk4,q4,m4,k4,hu4⟩
   exact ⟨rfl,wl4,U4,kid4,deg4,mk4,q4,m4,k3.trans k4 (fun b hb=>.inl hb),hu4 x (upd_same _ _ _)⟩
  have HC:=Lib.hid hcas
  clear hcas hir q m hi hu
  go_enter Tryz.func388,Tryz.ntmps388
  go_upto_region 3 with (go_at_call 394;refine hoff.mono ?_;rintro e w3 ⟨rfl,hd⟩)
  have hc:=HC.out w3 hd.out
  clear hoff hd HC c2 d0
  go_wp2_with (go_at_call 395;refine hc.mono ?_;rintro e w4 ⟨rfl,hfin⟩)
  first|go_end0|refine bodyPost_ret (results_none rfl _ _ _) rfl ?_
  exact ⟨rfl,hfin⟩
end
end Go.Proofs.YtkdbjelhkfdfjaaGreatDoor

