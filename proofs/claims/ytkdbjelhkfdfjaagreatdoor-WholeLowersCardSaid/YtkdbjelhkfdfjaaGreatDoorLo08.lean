/-
  Contracts that the law rests on. Conditions: none.
-/
import Derived.Test.YtkdbjelhkfdfjaaGreatDoorLo05
import Derived.Test.YtkdbjelhkfdfjaaGreatDoorLo06
import Derived.Test.YtkdbjelhkfdfjaaGreatDoorLo07
import Derived.Defers
import Derived.Recover
set_option linter.unusedVariables false
set_option maxRecDepth 100000
set_option maxHeartbeats 32000000
namespace Go.Proofs.YtkdbjelhkfdfjaaGreatDoor
open Go.RowKit
section
variable (w:World) (F:List Nat) (p cap hs:Nat) (E:Ent)
theorem CellsAt.at {w:World} {F:List Nat} {p cap hs:Nat} {E:Ent} (hc:CellsAt w F p cap hs E) {x h q:Nat} {k:Int} (e:E x=some (h,k,q)) :
  ∃gs,gs∈F∧w.cell? ⟨p,1,none⟩=some (.slice (some ⟨gs,0,none⟩) cap cap)∧w.cell? ⟨gs,x*3,none⟩=some (.int .i64 (h:Int))∧w.cell? ⟨gs,x*3+1,none⟩=some (.int .i64 k)∧w.cell? ⟨gs,x*3+2,none⟩=some (.int .u64 (q:Int)):=by
 obtain ⟨steps,gs,pn,gn,cn,mb,rfl,hnd,hok,hs0,hs1,hb,ha,hn,hm⟩:=hc
 have hx:=hok.lt x (by rw [e];rfl)
 have d0:=ha.cell hx (j:=0) (by omega)
 have d1:=ha.cell hx (j:=1) (by omega)
 have d2:=ha.cell hx (j:=2) (by omega)
 rw [cellV_at e] at d0 d1 d2
 refine ⟨gs,by simp,by rw [cell_of_blk hb];rfl,by simpa using d0,by simpa using d1,by simpa using d2⟩
theorem ahead_entries {E:Ent} {a b g h q r:Nat} {k l:Int} (ea:E a=some (g,k,q)) (eb:E b=some (h,l,r)) :
  ahead E a b=(decide (cmpE k q l r<0) || (decide (cmpE k q l r=0)&&decide (a<b))):=by
 rw [Bool.eq_iff_iff,ahead_iff]
 simp only [Bool.or_eq_true,Bool.and_eq_true,decide_eq_true_eq,cmpE_lt,cmpE_zero]
 constructor
 .rintro ⟨g',k',h',l',e1,e2,c⟩
  rw [ea] at e1;rw [eb] at e2
  cases e1;cases e2
  simp only at c
  omega
 .intro c
  exact ⟨_,_,_,_,ea,eb,by simp only;omega⟩
theorem cells_in_yes (hc:CellsAt w F p cap hs E) (x:Nat) (he:(E x).isSome) :
  Calls Tryz.prog 313 #[.pointer (some ⟨p,0,none⟩),.int .i64 x] w fun e w'=>e=.returned (.bool true)∧w=w':=by
 have:=cells_in w F p cap hs E hc x (hc.ok.lt x he)
 rwa [he] at this
theorem cells_in_no (hc:CellsAt w F p cap hs E) (x:Nat) (hx:x<cap) (he:E x=none) :
  Calls Tryz.prog 313 #[.pointer (some ⟨p,0,none⟩),.int .i64 x] w fun e w'=>e=.returned (.bool false)∧w=w':=by
 have:=cells_in w F p cap hs E hc x hx
 rwa [he] at this
def TwoAt (w:World) (p gs cap a b:Nat) (k l:Int) (q r:Nat):Prop :=
 w.cell? ⟨p,1,none⟩=some (.slice (some ⟨gs,0,none⟩) cap cap)∧w.cell? ⟨gs,a*3+1,none⟩=some (.int .i64 k)∧w.cell? ⟨gs,a*3+2,none⟩=some (.int .u64 (q:Int))∧w.cell? ⟨gs,b*3+1,none⟩=some (.int .i64 l)∧w.cell? ⟨gs,b*3+2,none⟩=some (.int .u64 (r:Int))
theorem TwoAt.next {w w':World} {p gs cap a b:Nat} {k l:Int} {q r:Nat} (h:TwoAt w p gs cap a b k l q r) (hp:p<w.heap.size) (hg:gs<w.heap.size) (n:Below w.heap.size w w'):TwoAt w' p gs cap a b k l q r :=
 ⟨(n.cell (p:=⟨_,_,none⟩) hp).trans h.1,(n.cell (p:=⟨_,_,none⟩) hg).trans h.2.1,(n.cell (p:=⟨_,_,none⟩) hg).trans h.2.2.1,(n.cell (p:=⟨_,_,none⟩) hg).trans h.2.2.2.1,(n.cell (p:=⟨_,_,none⟩) hg).trans h.2.2.2.2⟩
theorem CellsAt.two {w:World} {F:List Nat} {p cap hs:Nat} {E:Ent} (hc:CellsAt w F p cap hs E) {a b g h q r:Nat} {k l:Int} (ea:E a=some (g,k,q)) (eb:E b=some (h,l,r)) :
  ∃gs,gs<w.heap.size∧p<w.heap.size∧TwoAt w p gs cap a b k l q r:=by
 have hlt:=hc.lt
 obtain ⟨steps,gs,pn,gn,cn,mb,rfl,hnd,hok,hs0,hs1,hblk,harr,hn,hm⟩:=hc
 have hax:=hok.lt a (by rw [ea];rfl)
 have hbx:=hok.lt b (by rw [eb];rfl)
 have d1:=harr.cell hax (j:=1) (by omega)
 have d2:=harr.cell hax (j:=2) (by omega)
 have d3:=harr.cell hbx (j:=1) (by omega)
 have d4:=harr.cell hbx (j:=2) (by omega)
 rw [cellV_at ea] at d1 d2
 rw [cellV_at eb] at d3 d4
 exact ⟨gs,hlt gs (by simp),hlt p (by simp),by rw [cell_of_blk hblk];rfl,by simpa using d1,by simpa using d2,by simpa using d3,by simpa using d4⟩
theorem cells_ahead (hc:CellsAt w F p cap hs E) (a b:Nat) (ha:(E a).isSome) (hb:(E b).isSome) :
  Calls Tryz.prog 339 #[.pointer (some ⟨p,0,none⟩),.int .i64 a,.int .i64 b] w fun e w'=>e=.returned (.bool (ahead E a b))∧CellsAt w' F p cap hs E∧Keeps F w w':=by
 obtain ⟨⟨g,k,q⟩,ea⟩:=Option.isSome_iff_exists.1 ha
 obtain ⟨⟨h,l,r⟩,eb⟩:=Option.isSome_iff_exists.1 hb
 have hax:=hc.ok.lt a ha
 have hbx:=hc.ok.lt b hb
 have hae:=ahead_entries ea eb
 obtain ⟨steps,gs,pn,gn,cn,mb,rfl,hnd,hok,hs0,hs1,hblk,harr,hn,hm⟩:=id hc
 have c1:=count_calls w p [_,_,_] _ steps hblk hs0 hs1
 have hpost:∀s',0<=s'->s'<=4611686018427387904->CellsAt (w.setCell ⟨p,0,none⟩ (.int .i64 s')) [p,gs,pn,gn,mb] p cap hs E∧Keeps [p,gs,pn,gn,mb] w (w.setCell ⟨p,0,none⟩ (.int .i64 s')):=by
  intro s' h0 h1
  have hk:Keeps [p] w (w.setCell ⟨p,0,none⟩ (.int .i64 s')):=(Keeps.refl _ _).setCell (.inl (by simp)) _
  have hnd0:=hnd
  simp only [List.nodup_cons,List.mem_cons,List.not_mem_nil,or_false,not_or,List.nodup_nil,and_true,not_false_eq_true] at hnd0
  obtain ⟨⟨n1,n2,n3,n4⟩,_⟩:=hnd0
  refine ⟨⟨s',gs,pn,gn,cn,mb,rfl,hnd,hok,h0,h1,blk_setCell _ hblk,harr.keep hk (by simp;exact fun e=>n1 e.symm),hn.keep hk (by simp;exact fun e=>n2 e.symm) (by simp;exact fun e=>n3 e.symm),hm.keep hk (by simp;exact fun e=>n4 e.symm)⟩,hk.mono (by simp)⟩
 go_enter Tryz.func339,Tryz.ntmps339
 have HA:=Lib.hid hae
 have HI:=Lib.hid (And.intro ha hb)
 have HE:=Lib.hid (And.intro ea eb)
 have HP:=Lib.hid hpost
 clear ha hb ea eb hblk harr hn hm hnd hok hae hpost hs0 hs1
 go_wp2_with (first
  | (go_at_call 313;refine (cells_in_yes _ _ p cap hs E hc _ (by first|exact HI.out.1|exact HI.out.2)).mono ?_;rintro e w' ⟨rfl,rfl⟩)
  | (go_at_call 347;refine c1.mono ?_;rintro e w' ⟨rfl,s',h0,h1,rfl⟩)
  )
 obtain ⟨hc1,hk1⟩:=HP.out s' h0 h1
 generalize w.setCell ⟨p,0,none⟩ (.int .i64 s')=w1 at *
 obtain ⟨gs,hg,hp,ht⟩:=hc1.two HE.out.1 HE.out.2
 have hax3:(a:Int)<(cap:Int):=by omega
 have hbx3:(b:Int)<(cap:Int):=by omega
 have hlt:=hc1.lt
 clear HP HE HI c1 hc
 go_region_held3 (fun w'=>w'.cell? ⟨p,1,none⟩=some (.slice (some ⟨gs,0,none⟩) cap cap)∧w'.cell? ⟨gs,a*3+1,none⟩=some (.int .i64 k)∧w'.cell? ⟨gs,a*3+2,none⟩=some (.int .u64 (q:Int))∧w'.cell? ⟨gs,b*3+1,none⟩=some (.int .i64 l)∧w'.cell? ⟨gs,b*3+2,none⟩=some (.int .u64 (r:Int)))
  (first|exact ht|exact TwoAt.next (w:=w1.drew) ht hp hg (by assumption))
  (first
   | (go_at_call 330;refine (compare_calls _ _ _ _ _).mono ?_;rintro e w' ⟨rfl,hb⟩))
 all_goals
  have hc2:=(CellsAt.below (w:=w1.drew) (hc1.keep ⟨rfl,rfl,rfl,Nat.le_refl _,fun _ _ _=>rfl⟩ (S:=[]) (by simp)) hb)
  have hk2:Keeps _ w w':=hk1.drew.trans (T:=[]) (Below.keeps hb (Nat.le_refl _) []) (by simp)
  clear hc1 hk1 hb ht hlt hax3 hbx3
  generalize cmpE k q l r=c at *
  rcases Int.lt_trichotomy c 0 with c0|c0|c0
  .have hb0:decide (c<0)=true:=by simpa using c0
   rw [hb0] at HA
   have HA2:=HA.out
   rw [Bool.true_or] at HA2
   have HX:=Lib.hid HA2
   clear HA HA2
   go_wp2_with fail
   go_ret
   exact ⟨by rw [HX.out];rfl,hc2,hk2⟩
  .subst c0
   by_cases hab:a<b
   .have HA2:=HA.out
    have hab3:(a:Int)<(b:Int):=by omega
    have HX:=Lib.hid (show ahead E a b=true by rw [HA2];simp [hab])
    clear HA HA2 hab
    go_wp2_with fail
    go_ret
    exact ⟨by rw [HX.out];rfl,hc2,hk2⟩
   .have HA2:=HA.out
    have hab3:¬(a:Int)<(b:Int):=by omega
    have HX:=Lib.hid (show ahead E a b=false by rw [HA2];simp;omega)
    clear HA HA2 hab
    go_wp2_with fail
    go_ret
    exact ⟨by rw [HX.out];rfl,hc2,hk2⟩
  .have hb0:¬c<0:=by omega
   have hb1:(c==0)=false:=by rw [beq_eq_false_iff_ne];omega
   have HA2:=HA.out
   have HX:=Lib.hid (show ahead E a b=false by rw [HA2];simp;omega)
   clear HA HA2 c0
   go_wp2_with fail
   go_ret
   exact ⟨by rw [HX.out];rfl,hc2,hk2⟩
end
end Go.Proofs.YtkdbjelhkfdfjaaGreatDoor
namespace Go.Proofs.YtkdbjelhkfdfjaaGreatDoor
def desc (E:Ent):List Nat->Prop
 | []=>True
 | y::l=>(∀x,l.head?=some x->ahead E x y=true)∧desc E l
structure Hd where
 h:Nat
 fx:Nat->Prop
 lo:Nat->Prop
abbrev Hd.of (h:Nat):Hd:=⟨h,fun _=>False,fun _=>False⟩
instance : Coe Nat Hd:=⟨Hd.of⟩
structure Zip (E:Ent) (L R U:Nat->Option Nat) (To:Nat->Prop) (L0 R0:Nat->Option Nat) (h:Hd) (S:List Nat) (a b:Option Nat):Prop where
 bin:Bin E L R U (fun y=>To y∨y∈S∨a=some y∨b=some y)
 nd:S.Nodup
 na:∀y,a=some y->y∉S∧¬To y∧isIn E h.h y
 nb:∀y,b=some y->y∉S∧¬To y∧isIn E h.h y
 ab:∀y,a=some y->b≠some y
 nm:∀y∈S,¬To y∧isIn E h.h y∧R y=none
 last:∀x,S.head?=some x->∀y,a=some y∨b=some y->ahead E x y=true
 chain:desc E S
 fix:∀y,To y->L y=L0 y∧R y=R0 y
 free:∀y,E y=none->U y=none
 fxd:∀y,h.fx y->L y=L0 y∧R y=R0 y
 nf:∀y,(y∈S∨a=some y∨b=some y)->¬h.fx y
 cl:∀y q,h.fx y->U y=some q->h.fx q
 low:∀z,h.lo z->∀y,(y∈S∨a=some y∨b=some y)->ahead E z y=true
def offU (U:Nat->Option Nat) (o:Option Nat):Nat->Option Nat:=match o with|some z=>upd U z none|none=>U
def onU (U:Nat->Option Nat) (o:Option Nat) (p:Nat):Nat->Option Nat:=match o with|some z=>upd U z (some p)|none=>U
section
variable {E:Ent} {L R U L0 R0:Nat->Option Nat} {To T:Nat->Prop} {h:Hd} {S:List Nat} {a b:Option Nat} {x y:Nat}
theorem offU_other {U:Nat->Option Nat} {o:Option Nat} {y:Nat} (h:o≠some y):offU U o y=U y:=by
 unfold offU
 split
 .rename_i z;rw [upd_other U _ (by rintro rfl;exact h rfl)]
 .rfl
theorem offU_none {U:Nat->Option Nat} {o:Option Nat} {y:Nat} (h:U y=none):offU U o y=none:=by
 unfold offU
 split
 .rename_i z
  by_cases c:y=z
  .subst c;exact upd_same _ _ _
  .rw [upd_other U _ c];exact h
 .exact h
theorem isIn_hp {h:Nat} (hx:isIn E h x):hp E x=some h:=hp_some.2 hx
theorem Zip.start {h:Nat} (hb:Bin E L R U T) (hT:∀y,T y↔To y∨a=some y∨b=some y) (ha:∀y,a=some y->¬To y∧isIn E h y) (hb':∀y,b=some y->¬To y∧isIn E h y)
  (hab:∀y,a=some y->b≠some y) (hf:∀y,E y=none->U y=none):Zip E L R U To L R h [] a b :=
 ⟨hb.cong (by intro y;rw [hT y];simp),List.nodup_nil,fun y e=>⟨by simp,ha y e⟩,fun y e=>⟨by simp,hb' y e⟩,hab,by simp,by simp,trivial,fun y _=>⟨rfl,rfl⟩,hf,fun y c=>c.elim,fun y _ c=>c,fun y q c=>c.elim,fun z c=>c.elim⟩
theorem Zip.start2 (h:Hd) (hb:Bin E L R U T) (hT:∀y,T y↔To y∨a=some y∨b=some y) (ha:∀y,a=some y->¬To y∧isIn E h.h y) (hb':∀y,b=some y->¬To y∧isIn E h.h y)
  (hab:∀y,a=some y->b≠some y) (hf:∀y,E y=none->U y=none) (hnf:∀y,a=some y∨b=some y->¬h.fx y) (hcl:∀y q,h.fx y->U y=some q->h.fx q) (hlo:∀z,h.lo z->∀y,a=some y∨b=some y->ahead E z y=true):Zip E L R U To L R h [] a b :=
 ⟨hb.cong (by intro y;rw [hT y];simp),List.nodup_nil,fun y e=>⟨by simp,ha y e⟩,fun y e=>⟨by simp,hb' y e⟩,hab,by simp,by simp,trivial,fun y _=>⟨rfl,rfl⟩,hf,fun y _=>⟨rfl,rfl⟩,fun y c=>hnf y (by simpa using c),hcl,fun z c y d=>hlo z c y (by simpa using d)⟩
theorem Zip.swap (z:Zip E L R U To L0 R0 h S a b):Zip E L R U To L0 R0 h S b a :=
 ⟨z.bin.cong (by intro y;constructor<;>(rintro (c|c|c|c)<;>simp [c])),z.nd,z.nb,z.na,fun y e c=>z.ab y c e,z.nm,fun x e y c=>z.last x e y c.symm,z.chain,z.fix,z.free,z.fxd,fun y c=>z.nf y (by rcases c with c|c|c<;>simp [c]),z.cl,fun u hu y c=>z.low u hu y (by rcases c with c|c|c<;>simp [c])⟩
theorem Zip.step (z:Zip E L R U To L0 R0 h S (some x) (some y)) (ha:ahead E x y=true):Zip E L (upd R x none) (offU U (R x)) To L0 R0 h (x::S) (R x) (some y):=by
 obtain ⟨x1,x2,x3⟩:=z.na x rfl
 obtain ⟨y1,y2,y3⟩:=z.nb y rfl
 have hxy:x≠y:=ahead_ne ha
 have old:∀w,(To w∨w∈S∨some x=some w∨some y=some w)->U w=none:=fun w hw=>(z.bin.top w hw).2
 have hbin:Bin E L (upd R x none) (offU U (R x)) (fun w=>To w∨w∈x::S∨R x=some w∨some y=some w):=by
  cases e:R x with
  | none =>
   rw [show upd R x none=R by rw [<-e];exact upd_self R x]
   refine z.bin.cong fun w=>?_
   simp only [List.mem_cons,Option.some.injEq]
   constructor
   .rintro (c|(rfl|c)|c|c)<;>simp_all
   .rintro (c|c|rfl|c)<;>simp_all
  | some r =>
   refine z.bin.cutR e fun w=>?_
   simp only [List.mem_cons,Option.some.injEq]
   constructor
   .rintro (c|(rfl|c)|c|c)<;>simp_all
   .rintro ((c|c|rfl|c)|c)<;>simp_all
 have hr:∀r,R x=some r->r∉x::S∧¬To r∧isIn E h.h r:=by
  intro r e
  obtain ⟨r1,r2,r3⟩:=z.bin.right x r e
  have no:∀w,(To w∨w∈S∨some x=some w∨some y=some w)->w≠r:=by
   rintro w hw rfl
   rw [old w hw] at r1;cases r1
  refine ⟨?_,fun c=>no r (.inl c) rfl,?_⟩
  .simp only [List.mem_cons]
   rintro (rfl|c)
   .exact no r (.inr (.inr (.inl rfl))) rfl
   .exact no r (.inr (.inl c)) rfl
  .rw [<-hp_some,<-r2];exact isIn_hp x3
 refine ⟨hbin,List.nodup_cons.2 ⟨x1,z.nd⟩,hr,?_,?_,?_,?_,⟨?_,z.chain⟩,?_,?_,?_,?_,?_,?_⟩
 .intro w e
  cases e
  refine ⟨?_,y2,y3⟩
  simp only [List.mem_cons]
  rintro (c|c)
  .exact hxy c.symm
  .exact y1 c
 .intro w e c
  cases c
  have:=(z.bin.right x y e).1
  rw [old y (.inr (.inr (.inr rfl)))] at this;cases this
 .intro w hw
  simp only [List.mem_cons] at hw
  rcases hw with rfl|hw
  .exact ⟨x2,x3,upd_same _ _ _⟩
  .obtain ⟨n1,n2,n3⟩:=z.nm w hw
   refine ⟨n1,n2,?_⟩
   rw [upd_other R _ (by rintro rfl;exact x1 hw)];exact n3
 .intro w e v c
  simp only [List.head?_cons,Option.some.injEq] at e
  subst e
  rcases c with c|c
  .exact (z.bin.right x v c).2.2
  .cases c;exact ha
 .intro w e
  exact z.last w e x (.inl rfl)
 .intro w hw
  obtain ⟨f1,f2⟩:=z.fix w hw
  refine ⟨f1,?_⟩
  rw [upd_other R _ (by rintro rfl;exact x2 hw)];exact f2
 .intro w hw
  exact offU_none (z.free w hw)
 .intro w hw
  obtain ⟨f1,f2⟩:=z.fxd w hw
  refine ⟨f1,?_⟩
  rw [upd_other R _ (by rintro rfl;exact z.nf w (.inr (.inl rfl)) hw)];exact f2
 .intro w c
  simp only [List.mem_cons] at c
  rcases c with (rfl|c)|c|c
  .exact z.nf w (.inr (.inl rfl))
  .exact z.nf w (.inl c)
  .intro d
   exact z.nf x (.inr (.inl rfl)) (z.cl w x d (z.bin.right x w c).1)
  .exact z.nf w (.inr (.inr c))
 .intro w q c e
  refine z.cl w q c ?_
  cases hr:R x with
  | none=>rw [hr] at e;exact e
  | some r =>
   rw [hr] at e
   by_cases d:w=r
   .subst d;rw [show offU U (some w)=upd U w none from rfl,upd_same] at e;cases e
   .rw [show offU U (some r)=upd U r none from rfl,upd_other U _ d] at e;exact e
 .intro u hu w c
  have hx:=z.low u hu x (.inr (.inl rfl))
  simp only [List.mem_cons] at c
  rcases c with (rfl|c)|c|c
  .exact hx
  .exact z.low u hu w (.inl c)
  .exact ahead_tr hx (z.bin.right x w c).2.2
  .exact z.low u hu w (.inr (.inr c))
theorem Zip.back (z:Zip E L R U To L0 R0 h (x::S) a none):Zip E L (upd R x a) (onU U a x) To L0 R0 h S (some x) none:=by
 obtain ⟨x1,x2,x3⟩:=z.nm x (by simp)
 have hnd:=List.nodup_cons.1 z.nd
 have hbin:Bin E L (upd R x a) (onU U a x) (fun w=>To w∨w∈S∨some x=some w∨none=some w):=by
  cases e:a with
  | none =>
   rw [show upd R x none=R by rw [<-x3];exact upd_self R x]
   refine z.bin.cong fun w=>?_
   subst e
   simp only [List.mem_cons,Option.some.injEq]
   constructor
   .rintro (c|c|rfl|c)<;>simp_all
   .rintro (c|(rfl|c)|c|c)<;>simp_all
  | some r =>
   subst e
   obtain ⟨r1,r2,r3⟩:=z.na r rfl
   refine z.bin.hangR x3 (.inr (.inr (.inl rfl))) ?_ (z.last x rfl r (.inl rfl)) fun w=>?_
   .rw [isIn_hp x2,isIn_hp r3]
   .simp only [List.mem_cons,Option.some.injEq] at r1 ⊢
    constructor
    .rintro (c|c|rfl|c)
     .exact ⟨.inl c,by rintro rfl;exact r2 c⟩
     .exact ⟨.inr (.inl (.inr c)),by rintro rfl;exact r1 (.inr c)⟩
     .exact ⟨.inr (.inl (.inl rfl)),fun c=>r1 (.inl c.symm)⟩
     .cases c
    .rintro ⟨c|(rfl|c)|rfl|c,d⟩
     .exact .inl c
     .exact .inr (.inr (.inl rfl))
     .exact .inr (.inl c)
     .exact absurd rfl d
     .cases c
 refine ⟨hbin,hnd.2,?_,by simp,by simp,?_,?_,z.chain.2,?_,?_,?_,?_,?_,?_⟩
 .intro w e
  cases e
  exact ⟨hnd.1,x1,x2⟩
 .intro w hw
  obtain ⟨n1,n2,n3⟩:=z.nm w (by simp [hw])
  refine ⟨n1,n2,?_⟩
  rw [upd_other R _ (by rintro rfl;exact hnd.1 hw)];exact n3
 .intro w e v c
  rcases c with c|c
  .cases c;exact z.chain.1 w e
  .cases c
 .intro w hw
  obtain ⟨f1,f2⟩:=z.fix w hw
  refine ⟨f1,?_⟩
  rw [upd_other R _ (by rintro rfl;exact x1 hw)];exact f2
 .intro w hw
  unfold onU
  split
  .rename_i r
   obtain ⟨r1,r2,k,r3⟩:=z.na r rfl
   rw [upd_other U _ (by rintro rfl;rw [hw] at r3;cases r3)];exact z.free w hw
  .exact z.free w hw
 .intro w hw
  obtain ⟨f1,f2⟩:=z.fxd w hw
  refine ⟨f1,?_⟩
  rw [upd_other R _ (by rintro rfl;exact z.nf w (.inl (by simp)) hw)];exact f2
 .intro w c
  rcases c with c|c|c
  .exact z.nf w (.inl (by simp [c]))
  .cases c;exact z.nf x (.inl (by simp))
  .cases c
 .intro w q c e
  refine z.cl w q c ?_
  cases a with
  | none=>exact e
  | some r =>
   by_cases d:w=r
   .subst d;exact absurd c (z.nf w (.inr (.inl rfl)))
   .rw [show onU U (some r) x=upd U r (some x) from rfl,upd_other U _ d] at e;exact e
 .intro u hu w c
  rcases c with c|c|c
  .exact z.low u hu w (.inl (by simp [c]))
  .cases c;exact z.low u hu x (.inl (by simp))
  .cases c
theorem Zip.turn (z:Zip E L R U To L0 R0 h S (some x) b) (hx:x∉S) (ht:¬To x):Zip E (upd L x (R x)) (upd R x (L x)) U To L0 R0 h S (some x) b:=by
 refine ⟨z.bin.turn x,z.nd,z.na,z.nb,z.ab,?_,z.last,z.chain,?_,z.free,?_,z.nf,z.cl,z.low⟩
 .intro w hw
  obtain ⟨n1,n2,n3⟩:=z.nm w hw
  exact ⟨n1,n2,by rw [upd_other R _ (by rintro rfl;exact hx hw)];exact n3⟩
 .intro w hw
  have:w≠x:=by rintro rfl;exact ht hw
  rw [upd_other L _ this,upd_other R _ this];exact z.fix w hw
 .intro w hw
  have:w≠x:=by rintro rfl;exact z.nf w (.inr (.inl rfl)) hw
  rw [upd_other L _ this,upd_other R _ this];exact z.fxd w hw
theorem nodup_len:∀{n:Nat} {l:List Nat},l.Nodup->(∀x∈l,x<n)->l.length<=n:=by
 intro n
 induction n with
 | zero =>
  intro l _ hl
  cases l with
  | nil=>simp
  | cons x l=>have:=hl x (by simp);omega
 | succ n ih =>
  intro l hn hl
  have h1:=ih (l:=l.erase n) (hn.erase n) fun x hx=>by
   have h2:=(hn.mem_erase_iff).1 hx
   have:=hl x h2.2
   have:=h2.1
   omega
  rw [List.length_erase] at h1
  split at h1<;>omega
theorem Zip.len (z:Zip E L R U To L0 R0 h S (some x) b) {n:Nat} (hn:∀y,(E y).isSome->y<n):S.length<n:=by
 have h1:=nodup_len (n:=n) (l:=x::S) (List.nodup_cons.2 ⟨(z.na x rfl).1,z.nd⟩) fun y hy=>by
  simp only [List.mem_cons] at hy
  rcases hy with rfl|hy
  .exact hn _ (z.na y rfl).2.2.some
  .exact hn _ (z.nm y hy).2.1.some
 simp at h1
 omega
theorem Bin.top_of {n g:Nat} (hb:Bin E L R U T) (hn:∀y,(E y).isSome->y<n) (hx:isIn E g x):∃t,T t∧isIn E g t:=by
 have key:∀m x,before E n x<=m->isIn E g x->∃t,T t∧isIn E g t:=by
  intro m
  induction m with
  | zero =>
   intro x hm hx
   by_cases c:T x
   .exact ⟨x,c,hx⟩
   .obtain ⟨p,p1,p2⟩:=hb.up x hx.some c
    have h3:U x=some p∧hp E p=hp E x∧ahead E p x=true:=by
     rcases p2 with p2|p2
     .exact hb.left p x p2
     .exact hb.right p x p2
    have:=before_lt (hn p (ahead_some h3.2.2).1) h3.2.2
    omega
  | succ m ih =>
   intro x hm hx
   by_cases c:T x
   .exact ⟨x,c,hx⟩
   .obtain ⟨p,p1,p2⟩:=hb.up x hx.some c
    have h3:U x=some p∧hp E p=hp E x∧ahead E p x=true:=by
     rcases p2 with p2|p2
     .exact hb.left p x p2
     .exact hb.right p x p2
    have:=before_lt (hn p (ahead_some h3.2.2).1) h3.2.2
    exact ih p (by omega) (by rw [<-hp_some,h3.2.1];exact isIn_hp hx)
 exact key _ x (Nat.le_refl _) hx
end
end Go.Proofs.YtkdbjelhkfdfjaaGreatDoor
namespace Go.Proofs.YtkdbjelhkfdfjaaGreatDoor
open Go.RowKit
structure SkewMid (w:World) (p pc pt gt mb:Nat) (Fc:List Nat) (cap hs:Nat) (E:Ent) (L R U:Nat->Option Nat):Prop where
 nd:(p::pt::gt::mb::Fc).Nodup
 blk:w.heap[p]?=some (.cells #[.pointer (some ⟨pc,0,none⟩),.pointer (some ⟨pt,0,none⟩),.map (some mb)] 235 (0,0))
 ce:CellsAt w Fc pc cap hs E
 sp:SpineAt w pt gt cap L R U
section
variable {w w':World} {p pc pt gt mb cap hs:Nat} {Fc S:List Nat} {E E':Ent} {L R U L' R' U':Nat->Option Nat}
theorem SkewMid.ne (m:SkewMid w p pc pt gt mb Fc cap hs E L R U):(p≠pt∧p≠gt∧p≠mb∧p∉Fc)∧(pt≠gt∧pt≠mb∧pt∉Fc)∧(gt≠mb∧gt∉Fc)∧mb∉Fc:=by
 have:=m.nd
 simp only [List.nodup_cons,List.mem_cons,not_or] at this
 obtain ⟨⟨a1,a2,a3,a4⟩,⟨b1,b2,b3⟩,⟨c1,c2⟩,d,_⟩:=this
 exact ⟨⟨a1,a2,a3,a4⟩,⟨b1,b2,b3⟩,⟨c1,c2⟩,d⟩
theorem SkewMid.keep (m:SkewMid w p pc pt gt mb Fc cap hs E L R U) (k:Keeps S w w') (hS:∀b∈p::pt::gt::Fc,b∉S):SkewMid w' p pc pt gt mb Fc cap hs E L R U :=
 ⟨m.nd,k.blk m.blk (hS p (by simp)),m.ce.keep k (fun b hb=>hS b (by simp [hb])),m.sp.keep k (hS pt (by simp)) (hS gt (by simp))⟩
theorem SkewMid.below (m:SkewMid w p pc pt gt mb Fc cap hs E L R U) (k:Below w.heap.size w w'):SkewMid w' p pc pt gt mb Fc cap hs E L R U:=m.keep (Below.keeps k (Nat.le_refl _) []) (by simp)
theorem SkewMid.drewN (m:SkewMid w p pc pt gt mb Fc cap hs E L R U) (n:Nat):SkewMid (w.drewN n) p pc pt gt mb Fc cap hs E L R U:=m.keep (S:=[]) ⟨rfl,rfl,rfl,Nat.le_refl _,fun _ _ _=>rfl⟩ (by simp)
theorem SkewMid.cells (m:SkewMid w p pc pt gt mb Fc cap hs E L R U) (c:CellsAt w' Fc pc cap hs E') (k:Keeps Fc w w'):SkewMid w' p pc pt gt mb Fc cap hs E' L R U:=by
 obtain ⟨⟨a1,a2,a3,a4⟩,⟨b1,b2,b3⟩,⟨c1,c2⟩,d⟩:=m.ne
 exact ⟨m.nd,k.blk m.blk a4,c,m.sp.keep k b3 c2⟩
theorem SkewMid.spine (m:SkewMid w p pc pt gt mb Fc cap hs E L R U) (c:SpineLeft w pt gt cap L' R' U' w'):SkewMid w' p pc pt gt mb Fc cap hs E L' R' U':=by
 obtain ⟨⟨a1,a2,a3,a4⟩,⟨b1,b2,b3⟩,⟨c1,c2⟩,d⟩:=m.ne
 exact ⟨m.nd,c.2.blk m.blk (by simpa using a2),m.ce.keep c.2 (fun b hb e=>by simp at e;subst e;exact c2 hb),c.1⟩
theorem SkewMid.lt (m:SkewMid w p pc pt gt mb Fc cap hs E L R U):p<w.heap.size∧pt<w.heap.size∧gt<w.heap.size∧∀b∈Fc,b<w.heap.size:=⟨lt_of_block m.blk,m.sp.lt.1,m.sp.lt.2,m.ce.lt⟩
theorem SkewMid.c0 (m:SkewMid w p pc pt gt mb Fc cap hs E L R U):w.cell? ⟨p,0,none⟩=some (.pointer (some ⟨pc,0,none⟩)):=by rw [cell_of_blk m.blk];rfl
theorem SkewMid.c1 (m:SkewMid w p pc pt gt mb Fc cap hs E L R U):w.cell? ⟨p,1,none⟩=some (.pointer (some ⟨pt,0,none⟩)):=by rw [cell_of_blk m.blk];rfl
theorem SkewMid.c2 (m:SkewMid w p pc pt gt mb Fc cap hs E L R U):w.cell? ⟨p,2,none⟩=some (.map (some mb)):=by rw [cell_of_blk m.blk];rfl
end
theorem oZ_none:oZ none=-1:=rfl
theorem oZ_some (x:Nat):oZ (some x)=(x:Int):=rfl
theorem offU_no (U:Nat->Option Nat):offU U none=U:=rfl
theorem offU_yes (U:Nat->Option Nat) (z:Nat):offU U (some z)=upd U z none:=rfl
section
variable (w:World) (p pc pt gt mb:Nat) (Fc:List Nat) (cap hs:Nat) (E:Ent) (L R U:Nat->Option Nat)
theorem loose_R (m:SkewMid w p pc pt gt mb Fc cap hs E L R U) (u:Nat) (hz:∀z,R u=some z->U z=some u) :
  Calls Tryz.prog 432 #[.pointer (some ⟨p,0,none⟩),.int .i64 (((R u).getD 0:Nat):Int),.bool (R u).isSome] w fun e w'=>e=.returned (.int .i64 (oZ (R u)))∧SpineLeft w pt gt cap L (upd R u none) (offU U (R u)) w':=by
 have c1:=m.c1
 cases e:R u with
 | none =>
  have hf:SpineLeft w pt gt cap L (upd R u none) (offU U none) w:=by
   rw [show upd R u none=R by rw [<-e];exact upd_self R u,offU_no]
   exact ⟨m.sp,Keeps.refl _ _⟩
  go_enter Tryz.func432,Tryz.ntmps432
  go_wp2
  go_ret
  exact ⟨rfl,hf⟩
 | some z =>
  have hzc:=m.sp.wf u z (.inr (.inl e))
  have hc:=sp_cut_R w pt gt cap L R U m.sp z u hzc (hz z e) e
  rw [offU_yes]
  clear hz e
  go_enter Tryz.func432,Tryz.ntmps432
  go_wp2_with (go_at_call 407;refine hc.mono ?_;rintro e w' ⟨rfl,hs⟩)
  go_ret
  exact ⟨rfl,hs⟩
theorem loose_L (m:SkewMid w p pc pt gt mb Fc cap hs E L R U) (u:Nat) (hz:∀z,L u=some z->U z=some u∧R u≠some z) :
  Calls Tryz.prog 432 #[.pointer (some ⟨p,0,none⟩),.int .i64 (((L u).getD 0:Nat):Int),.bool (L u).isSome] w fun e w'=>e=.returned (.int .i64 (oZ (L u)))∧SpineLeft w pt gt cap (upd L u none) R (offU U (L u)) w':=by
 have c1:=m.c1
 cases e:L u with
 | none =>
  have hf:SpineLeft w pt gt cap (upd L u none) R (offU U none) w:=by
   rw [show upd L u none=L by rw [<-e];exact upd_self L u,offU_no]
   exact ⟨m.sp,Keeps.refl _ _⟩
  go_enter Tryz.func432,Tryz.ntmps432
  go_wp2
  go_ret
  exact ⟨rfl,hf⟩
 | some z =>
  have hzc:=m.sp.wf u z (.inl e)
  have hc:=sp_cut_L w pt gt cap L R U m.sp z u hzc (hz z e).1 e (hz z e).2
  rw [offU_yes]
  clear hz e
  go_enter Tryz.func432,Tryz.ntmps432
  go_wp2_with (go_at_call 407;refine hc.mono ?_;rintro e w' ⟨rfl,hs⟩)
  go_ret
  exact ⟨rfl,hs⟩
end
structure TwigR where
 ao:Option Addr
 ca:Nat
 kids:List Nat
def twigV (T:Nat->TwigR) (U:Nat->Option Nat) (x:Nat):List Value:=[.slice (T x).ao (T x).kids.length (T x).ca,.int .i64 (oZ (U x))]
structure ForestAt (w:World) (p g n:Nat) (T:Nat->TwigR) (U:Nat->Option Nat):Prop where
 blk:w.heap[p]?=some (.cells #[.slice (some ⟨g,0,none⟩) n n] 263 (0,0))
 arr:Arr w 265 2 n g (twigV T U)
 rows:∀x,x<n->Rg.IR 0 w (.slice (T x).ao (T x).kids.length (T x).ca) (T x).kids
 ne:p≠g
 own:∀x,x<n->∀a,(T x).ao=some a->a.block≠p∧a.block≠g
 dis:∀x y,x<n->y<n->x≠y->∀a b,(T x).ao=some a->(T y).ao=some b->a.block≠b.block
 cap:n<=65536
 num:∀x,x<n->(T x).kids.length<=65536∧(∀y∈(T x).kids,y<n)∧(∀y,U x=some y->y<n)
def treeF (p g n:Nat) (T:Nat->TwigR):List Nat:=p::g::(List.range n).flatMap fun x=>(T x).ao.toList.map (·.block)
theorem treeF_mem {p g n b:Nat} {T:Nat->TwigR}:b∈treeF p g n T↔b=p∨b=g∨∃x,x<n∧∃a,(T x).ao=some a∧a.block=b:=by
 simp only [treeF,List.mem_cons,List.mem_flatMap,List.mem_range,List.mem_map,Option.mem_toList]
section
variable {w w':World} {p g n x:Nat} {T:Nat->TwigR} {U:Nat->Option Nat} {S:List Nat}
theorem ForestAt.lt (h:ForestAt w p g n T U):∀b∈treeF p g n T,b<w.heap.size:=by
 intro b hb
 rcases treeF_mem.1 hb with rfl|rfl|⟨x,hx,a,e,rfl⟩
 .exact lt_of_block h.blk
 .exact h.arr.lt
 .rcases (h.rows x hx).2 with ⟨h0,_⟩|⟨g',cap',cur,e',hb,hg,r⟩
  .simp only [Value.slice.injEq] at h0
   rw [h0.1] at e;cases e
  .simp only [Value.slice.injEq] at e'
   rw [e'.1] at e;cases e
   exact lt_of_block hg
theorem ForestAt.keep (h:ForestAt w p g n T U) (k:Keeps S w w') (hS:∀b∈treeF p g n T,b∉S):ForestAt w' p g n T U :=
 ⟨k.blk h.blk (hS p (treeF_mem.2 (.inl rfl))),h.arr.keep k (hS g (treeF_mem.2 (.inr (.inl rfl)))),fun x hx=>ir_keep (h.rows x hx) k (fun a e=>hS _ (treeF_mem.2 (.inr (.inr ⟨x,hx,a,e,rfl⟩)))),h.ne,h.own,h.dis,h.cap,h.num⟩
theorem ForestAt.like (h:ForestAt w p g n T U) (e:w'.heap=w.heap):ForestAt w' p g n T U :=
 ⟨by rw [e];exact h.blk,⟨by
  refine ⟨h.arr.row.1,?_⟩
  rw [e];exact h.arr.row.2,h.arr.size⟩,fun x hx=>by
  refine ⟨(h.rows x hx).1,?_⟩
  rw [e];exact (h.rows x hx).2,h.ne,h.own,h.dis,h.cap,h.num⟩
theorem ForestAt.c0 (h:ForestAt w p g n T U):w.cell? ⟨p,0,none⟩=some (.slice (some ⟨g,0,none⟩) n n):=by rw [cell_of_blk h.blk];rfl
theorem ForestAt.k0 (h:ForestAt w p g n T U) (hx:x<n):w.cell? ⟨g,x*2,none⟩=some (.slice (T x).ao (T x).kids.length (T x).ca):=h.arr.cell (j:=0) hx (by decide)
theorem ForestAt.k1 (h:ForestAt w p g n T U) (hx:x<n):w.cell? ⟨g,x*2+1,none⟩=some (.int .i64 (oZ (U x))):=h.arr.cell (j:=1) hx (by decide)
end
section
variable (w:World) (p g n:Nat) (T:Nat->TwigR) (U:Nat->Option Nat)
theorem fo_has (h:ForestAt w p g n T U) (x:Nat) (hx:x<n):Calls Tryz.prog 361 #[.pointer (some ⟨p,0,none⟩),.int .i64 x] w fun e w'=>e=.returned (.bool true)∧w=w':=by
 have c0:=h.c0
 have b1:(x:Int)<(n:Int):=by omega
 have b2:(0:Int)<=(x:Int):=by omega
 clear h
 go_enter Tryz.func361,Tryz.ntmps361
 go_wp2
 go_ret
 exact ⟨rfl,rfl⟩
theorem fo_root (h:ForestAt w p g n T U) (x:Nat) (hx:x<n):Calls Tryz.prog 363 #[.pointer (some ⟨p,0,none⟩),.int .i64 x] w fun e w'=>e=.returned (.bool (U x).isNone)∧w=w':=by
 have c0:=h.c0
 have c1:=h.k1 hx
 have hh:=fo_has w p g n T U h x hx
 have b1:(x:Int)<(n:Int):=by omega
 clear h
 cases hu:U x with
 | none =>
  rw [hu] at c1
  simp only [oZ_none] at c1
  clear hu
  go_enter Tryz.func363,Tryz.ntmps363
  go_wp2_with (go_at_call 361;refine hh.mono ?_;rintro e w' ⟨rfl,rfl⟩)
  go_ret
  exact ⟨rfl,rfl⟩
 | some y =>
  rw [hu] at c1
  simp only [oZ_some] at c1
  have b2:((y:Int)==-1)=false:=by rw [beq_eq_false_iff_ne];omega
  clear hu
  go_enter Tryz.func363,Tryz.ntmps363
  go_wp2_with (go_at_call 361;refine hh.mono ?_;rintro e w' ⟨rfl,rfl⟩)
  go_ret
  exact ⟨rfl,rfl⟩
theorem fo_degree (h:ForestAt w p g n T U) (x:Nat) (hx:x<n):Calls Tryz.prog 367 #[.pointer (some ⟨p,0,none⟩),.int .i64 x] w fun e w'=>e=.returned (.int .i64 (T x).kids.length)∧w=w':=by
 have c0:=h.c0
 have c1:=h.k0 hx
 have hh:=fo_has w p g n T U h x hx
 have b1:(x:Int)<(n:Int):=by omega
 clear h
 go_enter Tryz.func367,Tryz.ntmps367
 go_wp2_with (go_at_call 361;refine hh.mono ?_;rintro e w' ⟨rfl,rfl⟩)
 go_ret
 exact ⟨rfl,rfl⟩
end
section
variable {P:Program}
theorem wpList_app_at (w:World) (B:Nat) {ops:Array Oper} {rest:List Oper} {o:Oper} {a:Act} {Q:Exit->Act->World->Prop} (hgd:o.guard=none) (s x:Operand) (t:TypeId)
  (ho:o.op=.call { callee:=.builtin .append,args:=#[s,x],argTypes:=#[t,t] })
  (e:TypeId) (z:Value) (bytes:Nat) (ht:P.underlying t=some (.slice e)) (hi:(P.info? e).map (fun i=>(i.zero,i.size,i.bytes))=some (some z,1,bytes)) (hzs:z.cells.size=1)
  (v:Value) (n:Nat) (xs:List Value) (hs:a.eval s=v) (hown:w.ownsRow B e 1 v n xs)
  (ad:Addr) (m c:Nat) (news:List Value) (hx:a.eval x=.slice (some ad) m c) (hl:news.length=m) (hnews:∀j u,news[j]?=some u->w.cell? (ad.add j)=some u) (h1:∀u∈news,u.oneCell'=true)
  (h63:n+m<=maxLen) (hbytes:(n+m)*bytes<=140737488355328) (hB:B<=w.heap.size)
  (h:∀v' w',w'.ownsRow B e 1 v' (n+m) (xs++news)->Keeps v.ownBlock.toList w w'->wpList P ops Q rest (a.put o.dst v') w'):wpList P ops Q (o::rest) a w:=by
 obtain ⟨i,hi,hz,hsize,hby⟩:=info_parts hi
 refine wpList_plain hgd fun K hK=>?_
 obtain ⟨v',w',hr,h2,h3,_,_⟩:=run_append_own_at (P:=P) w B t o.type e i z 1 bytes ht hi hz hsize hby hzs (by decide) v n xs hown ad m c news (by rw [hl];omega) hnews h1 h63 hbytes hB
 unfold Oper.wp execOp
 simp only [ho,resolve,invoke,builtin,Sem.run_bind,Sem.run_pure,Result.andThen_ok,List.map_toArray,List.map_cons,List.map_nil,hs,hx,hr]
 exact hK _ _ (h v' w' h2 ((Keeps.refl _ _).grown h3 (fun k e=>.inl (by simp [e]))))
end
def CloneDone (w:World) (L:List Nat) (e:Ending) (w':World):Prop:=∃v,e=.returned v∧Rg.IR w.heap.size w' v L∧Keeps [] w w'
theorem clone_ints (w:World) (ao:Option Addr) (ca:Nat) (L:List Nat) (h:Rg.IR 0 w (.slice ao L.length ca) L) (hl:L.length<=65536) :
  Calls Tryz.prog 252 #[.slice ao L.length ca] w (CloneDone w L):=by
 have qT:∀(w:World) (a:Option Addr) (n c n' c':Nat),(binOp .eql 28 (.slice a n c) (.slice none n' c')).run Tryz.prog w=.ok (.bool a.isNone) w:=fun w a n c n' c'=>Lib.run_eql_slice_nil w _ _ a n c n' c' Tryz.underlying28
 cases ao with
 | none =>
  have hL:L=[]:=by
   rcases h.2 with ⟨_,h1⟩|⟨g,cap',cur,e,_⟩
   .exact List.length_eq_zero_iff.1 h1
   .simp at e
  subst hL
  clear h
  go_enter Tryz.func252,Tryz.ntmps252
  go_wp2_with fail
  go_ret
  exact ⟨_,rfl,Rg.IR.nil _ _,Keeps.refl _ _⟩
 | some ad =>
  have h0:∀o,Rg.IR 0 (w.alloc o) (.slice (some ad) L.length ca) L:=fun o=>ir_keep h ((Keeps.refl [] _).alloc o) (by simp)
  have hcell:∀o j u,(Rg.nCells L)[j]?=some u->(w.alloc o).cell? (ad.add j)=some u:=by
   intro o j u hj
   have hjl:j<L.length:=by
    have:=(List.getElem?_eq_some_iff.1 hj).1
    simpa [Rg.nCells] using this
   obtain ⟨g,e,_,_,c⟩:=(h0 o).at j hjl
   cases e
   rw [Addr.add_lit,Nat.zero_add,c]
   rw [<-hj]
   simp [Rg.nCells,Rg.fn,List.getD,hjl]
  have hone:∀u∈Rg.nCells L,u.oneCell'=true:=by
   intro u hu
   simp only [Rg.nCells,List.mem_map] at hu
   obtain ⟨x,_,rfl⟩:=hu
   rfl
  have hown:(w.alloc (.cells #[] 3 (0,0))).ownsRow w.heap.size 3 1 (.slice (some ⟨w.heap.size,0,none⟩) 0 0) 0 [] :=
   ⟨by simp,.inr ⟨w.heap.size,0,#[],rfl,Nat.le_refl _,blk_alloc_new _,Nat.le_refl _,by decide,by simp,by simp⟩⟩
  have hfin:∀v' w',w'.ownsRow w.heap.size 3 1 v' (0+L.length) ([]++Rg.nCells L)->Keeps (Value.slice (some ⟨w.heap.size,0,none⟩) 0 0).ownBlock.toList (w.alloc (.cells #[] 3 (0,0))) w'->CloneDone w L (.returned v') w':=by
   intro v' w' hr hk
   refine ⟨v',rfl,by unfold Rg.IR;simpa using hr,?_⟩
   exact ((Keeps.refl [] w).alloc _).trans hk (fun b hb=>by simp [Value.ownBlock] at hb;subst hb;exact .inr (Nat.le_refl _))
  have HF:=Lib.hid hfin
  have HC:=Lib.hid hcell
  have H1:=Lib.hid hone
  clear hfin hcell hone h0 h
  have hnl:(Rg.nCells L).length=L.length:=by simp [Rg.nCells]
  have HNL:=Lib.hid hnl
  clear hnl
  go_enter Tryz.func252,Tryz.ntmps252
  go_wp2_with (at_builtin;refine wpList_app_at _ w.heap.size rfl (.tmp 5) (.tmp 6) 28 rfl 3 (.int .i64 0) 8 Tryz.underlying28 Rg.Tryz.infoInt rfl _ 0 [] (by simp [Act.eval]) hown ad L.length ca (Rg.nCells L) (by simp [Act.eval]) HNL.out (HC.out _) H1.out (by unfold maxLen;omega) (by omega) (by simp) ?_;intro v' w' hr hk;have hz:=HF.out v' w' hr hk;have HZ:=Lib.hid hz;clear hr hk hz)
  go_ret
  exact HZ.out
end Go.Proofs.YtkdbjelhkfdfjaaGreatDoor
namespace Go.Proofs.YtkdbjelhkfdfjaaGreatDoor
structure CarI (E:Ent) (K0:Nat->List Nat) (U0:Nat->Option Nat) (a0 b0:List Nat) (d da db od:Nat) (K:Nat->List Nat) (U:Nat->Option Nat) (a b held out:List Nat):Prop where
 cubes:Cubes K U
 up:∀x y,U x=some y->U0 x=some y∨((x∈a0∨x∈b0)∧(y∈a0∨y∈b0)∧ahead E y x=true)
 fr:∀x,x∉a0->x∉b0->K x=K0 x∧U x=U0 x
 ra:a.Pairwise fun x y=>(K x).length<(K y).length
 rb:b.Pairwise fun x y=>(K x).length<(K y).length
 ro:out.Pairwise fun x y=>(K x).length<(K y).length
 ga:∀x∈a,da<=(K x).length
 gb:∀x∈b,db<=(K x).length
 go:∀x∈out,(K x).length<od
 gh:∀x∈held,(K x).length=d
 nd:(a++b++held++out).Nodup
 mem:∀x,x∈a++b++held++out↔(x∈a0∨x∈b0)∧U x=none
section
variable {E:Ent} {K0 K:Nat->List Nat} {U0 U:Nat->Option Nat} {a0 b0 a b held out:List Nat} {d da db od x y:Nat}
theorem CarI.start (h:Cubes K U) (ha:CRow K U a) (hb:CRow K U b) (hd:∀x∈a,x∉b):CarI E K U a b 0 0 0 0 K U a b [] []:=by
 refine ⟨h,fun x y e=>.inl e,fun x _ _=>⟨rfl,rfl⟩,ha.2,hb.2,by simp,by simp,by simp,by simp,by simp,?_,?_⟩
 .simp only [List.append_nil]
  rw [List.nodup_append]
  exact ⟨ha.nodup,hb.nodup,fun x hx y hy e=>hd x hx (e ▸ hy)⟩
 .intro x
  simp only [List.append_nil,List.mem_append]
  constructor
  .rintro (q|q)
   .exact ⟨.inl q,ha.1 x q⟩
   .exact ⟨.inr q,hb.1 x q⟩
  .rintro ⟨q,_⟩;exact q
theorem CarI.takeA (h:CarI E K0 U0 a0 b0 d d db od K U (x::a) b held out) (e:(K x).length=d):CarI E K0 U0 a0 b0 d (d+1) db od K U a b (held++[x]) out:=by
 have hr:=List.pairwise_cons.1 h.ra
 have hp:((x::a)++b++held++out).Perm (a++b++(held++[x])++out):=by
  rw [List.perm_iff_count];intro z;simp only [List.count_append,List.count_cons,List.count_nil];omega
 refine ⟨h.cubes,h.up,h.fr,hr.2,h.rb,h.ro,?_,h.gb,h.go,?_,(hp.nodup_iff).1 h.nd,fun z=>by rw [<-hp.mem_iff];exact h.mem z⟩
 .intro z hz;have:=hr.1 z hz;omega
 .intro z hz
  rcases List.mem_append.1 hz with q|q
  .exact h.gh z q
  .simp only [List.mem_singleton] at q;subst q;exact e
theorem CarI.skipA (h:CarI E K0 U0 a0 b0 d d db od K U a b held out) (e:∀x,a.head?=some x->(K x).length≠d):CarI E K0 U0 a0 b0 d (d+1) db od K U a b held out:=by
 refine ⟨h.cubes,h.up,h.fr,h.ra,h.rb,h.ro,?_,h.gb,h.go,h.gh,h.nd,h.mem⟩
 intro z hz
 have hr:=h.ra
 have hg:=h.ga
 cases a with
 | nil=>cases hz
 | cons w l =>
  have h1:=e w rfl
  have h2:=hg w (by simp)
  rcases List.mem_cons.1 hz with q|q
  .subst q;omega
  .have:=(List.pairwise_cons.1 hr).1 z q;omega
theorem CarI.takeB (h:CarI E K0 U0 a0 b0 d da d od K U a (x::b) held out) (e:(K x).length=d):CarI E K0 U0 a0 b0 d da (d+1) od K U a b (held++[x]) out:=by
 have hr:=List.pairwise_cons.1 h.rb
 have hp:(a++(x::b)++held++out).Perm (a++b++(held++[x])++out):=by
  rw [List.perm_iff_count];intro z;simp only [List.count_append,List.count_cons,List.count_nil];omega
 refine ⟨h.cubes,h.up,h.fr,h.ra,hr.2,h.ro,h.ga,?_,h.go,?_,(hp.nodup_iff).1 h.nd,fun z=>by rw [<-hp.mem_iff];exact h.mem z⟩
 .intro z hz;have:=hr.1 z hz;omega
 .intro z hz
  rcases List.mem_append.1 hz with q|q
  .exact h.gh z q
  .simp only [List.mem_singleton] at q;subst q;exact e
theorem CarI.skipB (h:CarI E K0 U0 a0 b0 d da d od K U a b held out) (e:∀x,b.head?=some x->(K x).length≠d):CarI E K0 U0 a0 b0 d da (d+1) od K U a b held out:=by
 refine ⟨h.cubes,h.up,h.fr,h.ra,h.rb,h.ro,h.ga,?_,h.go,h.gh,h.nd,h.mem⟩
 intro z hz
 have hr:=h.rb
 have hg:=h.gb
 cases b with
 | nil=>cases hz
 | cons w l =>
  have h1:=e w rfl
  have h2:=hg w (by simp)
  rcases List.mem_cons.1 hz with q|q
  .subst q;omega
  .have:=(List.pairwise_cons.1 hr).1 z q;omega
theorem CarI.done (h:CarI E K0 U0 a0 b0 d da db d K U a b (x::held) out):CarI E K0 U0 a0 b0 d da db (d+1) K U a b held (out++[x]):=by
 have hp:(a++b++(x::held)++out).Perm (a++b++held++(out++[x])):=by
  rw [List.perm_iff_count];intro z;simp only [List.count_append,List.count_cons,List.count_nil];omega
 have hx:=h.gh x (by simp)
 refine ⟨h.cubes,h.up,h.fr,h.ra,h.rb,?_,h.ga,h.gb,?_,fun z hz=>h.gh z (by simp [hz]),(hp.nodup_iff).1 h.nd,fun z=>by rw [<-hp.mem_iff];exact h.mem z⟩
 .rw [List.pairwise_append]
  refine ⟨h.ro,by simp,fun z hz w hw=>?_⟩
  simp only [List.mem_singleton] at hw;subst hw
  have:=h.go z hz;omega
 .intro z hz
  rcases List.mem_append.1 hz with q|q
  .have:=h.go z q;omega
  .simp only [List.mem_singleton] at q;subst q;omega
theorem CarI.notDone (h:CarI E K0 U0 a0 b0 d da db d K U a b held out):CarI E K0 U0 a0 b0 d da db (d+1) K U a b held out :=
 ⟨h.cubes,h.up,h.fr,h.ra,h.rb,h.ro,h.ga,h.gb,fun z hz=>Nat.lt_succ_of_lt (h.go z hz),h.gh,h.nd,h.mem⟩
theorem CarI.next (h:CarI E K0 U0 a0 b0 d da db od K U a b [] out) (d':Nat):CarI E K0 U0 a0 b0 d' da db od K U a b [] out :=
 ⟨h.cubes,h.up,h.fr,h.ra,h.rb,h.ro,h.ga,h.gb,h.go,by simp,h.nd,h.mem⟩
theorem CarI.pair (h:CarI E K0 U0 a0 b0 d da db od K U a b [x,y] out):x≠y∧U x=none∧U y=none∧(K x).length=(K y).length∧(x∈a0∨x∈b0)∧(y∈a0∨y∈b0):=by
 have h1:=(h.mem x).1 (by simp)
 have h2:=(h.mem y).1 (by simp)
 refine ⟨?_,h1.2,h2.2,by rw [h.gh x (by simp),h.gh y (by simp)],h1.1,h2.1⟩
 rintro rfl
 have:=h.nd
 rw [List.nodup_append] at this
 have:=(List.nodup_append.1 this.1).2.1
 simp at this
theorem CarI.swap (h:CarI E K0 U0 a0 b0 d da db od K U a b [x,y] out):CarI E K0 U0 a0 b0 d da db od K U a b [y,x] out:=by
 have hp:(a++b++[x,y]++out).Perm (a++b++[y,x]++out):=by
  rw [List.perm_iff_count];intro z;simp only [List.count_append,List.count_cons,List.count_nil];omega
 exact ⟨h.cubes,h.up,h.fr,h.ra,h.rb,h.ro,h.ga,h.gb,h.go,fun z hz=>h.gh z (by simp only [List.mem_cons,List.not_mem_nil,or_false] at hz ⊢;exact hz.symm),(hp.nodup_iff).1 h.nd,fun z=>by rw [<-hp.mem_iff];exact h.mem z⟩
theorem CarI.join (h:CarI E K0 U0 a0 b0 d (d+1) (d+1) (d+1) K U a b [x,y] out) (had:ahead E x y=true) :
  CarI E K0 U0 a0 b0 (d+1) (d+1) (d+1) (d+1) (upd K x (K x++[y])) (upd U y (some x)) a b [x] out:=by
 obtain ⟨hne,hux,huy,hd,hx0,hy0⟩:=h.pair
 have hp:(a++b++[x,y]++out).Perm (y::(a++b++[x]++out)):=by
  rw [List.perm_iff_count];intro z;simp only [List.count_append,List.count_cons,List.count_nil];omega
 have hq:(a++b++[x,y]++out).Perm (x::y::(a++b++out)):=by
  rw [List.perm_iff_count];intro z;simp only [List.count_append,List.count_cons,List.count_nil];omega
 have hn1:=List.nodup_cons.1 ((hp.nodup_iff).1 h.nd)
 have hn2:=List.nodup_cons.1 ((hq.nodup_iff).1 h.nd)
 have hx:x∉a∧x∉b∧x∉out:=by
  have:=hn2.1
  simp only [List.mem_cons,List.mem_append,not_or] at this
  exact ⟨this.2.1.1,this.2.1.2,this.2.2⟩
 have other:∀(l:List Nat) (R:Nat->Nat->Prop),x∉l->l.Pairwise (fun u v=>(K u).length<(K v).length)->l.Pairwise fun u v=>(upd K x (K x++[y]) u).length<(upd K x (K x++[y]) v).length:=by
  intro l _ hl hr
  refine List.Pairwise.imp_of_mem ?_ hr
  intro u v hu hv e
  rw [upd_other _ _ (by rintro rfl;exact hl hu),upd_other _ _ (by rintro rfl;exact hl hv)];exact e
 refine ⟨h.cubes.link hne hux huy hd,?_,?_,other a (fun _ _=>True) hx.1 h.ra,other b (fun _ _=>True) hx.2.1 h.rb,other out (fun _ _=>True) hx.2.2 h.ro,?_,?_,?_,?_,hn1.2,?_⟩
 .intro u v e
  by_cases c:u=y
  .subst c;rw [upd_same] at e;cases e;exact .inr ⟨hy0,hx0,had⟩
  .rw [upd_other _ _ c] at e;exact h.up u v e
 .intro u hu hv
  have c1:u≠x:=by rintro rfl;exact hx0.elim hu hv
  have c2:u≠y:=by rintro rfl;exact hy0.elim hu hv
  rw [upd_other _ _ c1,upd_other _ _ c2];exact h.fr u hu hv
 .intro u hu;rw [upd_other _ _ (by rintro rfl;exact hx.1 hu)];exact h.ga u hu
 .intro u hu;rw [upd_other _ _ (by rintro rfl;exact hx.2.1 hu)];exact h.gb u hu
 .intro u hu;rw [upd_other _ _ (by rintro rfl;exact hx.2.2 hu)];exact h.go u hu
 .intro u hu
  simp only [List.mem_singleton] at hu;subst hu
  rw [upd_same,List.length_append,h.gh u (by simp)];rfl
 .intro u
  have h1:=h.mem u
  rw [hp.mem_iff,List.mem_cons] at h1
  by_cases c:u=y
  .subst c
   rw [upd_same]
   constructor
   .intro q;exact absurd q hn1.1
   .rintro ⟨_,q⟩;cases q
  .rw [upd_other _ _ c,<-h1];simp only [c,false_or]
structure CarDone (E:Ent) (K0:Nat->List Nat) (U0:Nat->Option Nat) (a0 b0:List Nat) (K:Nat->List Nat) (U:Nat->Option Nat) (out:List Nat):Prop where
 cubes:Cubes K U
 up:∀x y,U x=some y->U0 x=some y∨((x∈a0∨x∈b0)∧(y∈a0∨y∈b0)∧ahead E y x=true)
 fr:∀x,x∉a0->x∉b0->K x=K0 x∧U x=U0 x
 row:CRow K U out
 mem:∀x,x∈out↔(x∈a0∨x∈b0)∧U x=none
theorem CarI.fin (h:CarI E K0 U0 a0 b0 d da db od K U [] [] [] out):CarDone E K0 U0 a0 b0 K U out:=by
 have hm:∀x,x∈out↔(x∈a0∨x∈b0)∧U x=none:=fun x=>by have:=h.mem x;simpa using this
 exact ⟨h.cubes,h.up,h.fr,⟨fun x hx=>((hm x).1 hx).2,h.ro⟩,hm⟩
end
end Go.Proofs.YtkdbjelhkfdfjaaGreatDoor
namespace Go.Proofs.YtkdbjelhkfdfjaaGreatDoor
open Go.RowKit
abbrev wSort:ByteArray:=⟨#[115,111,114,116]⟩
abbrev wKind:ByteArray:=⟨#[107,105,110,100]⟩
abbrev wSkew:ByteArray:=⟨#[115,107,101,119]⟩
abbrev deskO (a b:Int) (st:Value):Obj:=.cells #[.int .i64 a,.int .i64 b,st] 184 (0,0)
section
variable (w:World)
theorem split_sort:Calls Tryz.prog 78 #[.string ⟨#[115,111,114,116,32,50,32,49]⟩,.string ⟨#[32]⟩] w fun e w'=>e=.returned (.slice (some ⟨w.heap.size,0,none⟩) 3 3)∧Keeps [] w w'∧SAt w' w.heap.size 0 [wSort,⟨#[50]⟩,⟨#[49]⟩]:=by
 have h:=gen_sort w
 go_enter Tryz.func78,Tryz.ntmps78
 go_wp2_with (go_at_call 99;refine h.mono ?_;rintro e w' ⟨rfl,hk,hb⟩)
 go_ret
 refine ⟨rfl,hk,fun i s e=>?_⟩
 rw [cell_of_blk hb,Nat.zero_add]
 match i,e with
 | 0,e=>cases e;rfl
 | 1,e=>cases e;rfl
 | 2,e=>cases e;rfl
theorem split_kind:Calls Tryz.prog 78 #[.string ⟨#[107,105,110,100,32,115,107,101,119]⟩,.string ⟨#[32]⟩] w fun e w'=>e=.returned (.slice (some ⟨w.heap.size,0,none⟩) 2 2)∧Keeps [] w w'∧SAt w' w.heap.size 0 [wKind,wSkew]:=by
 have h:=gen_kind w
 go_enter Tryz.func78,Tryz.ntmps78
 go_wp2_with (go_at_call 99;refine h.mono ?_;rintro e w' ⟨rfl,hk,hb⟩)
 go_ret
 refine ⟨rfl,hk,fun i s e=>?_⟩
 rw [cell_of_blk hb,Nat.zero_add]
 match i,e with
 | 0,e=>cases e;rfl
 | 1,e=>cases e;rfl
theorem do_idle (p:Addr):CallsD Tryz.prog 80 #[.pointer (some p)] .returning w fun e u' w'=>e=.returned (.tuple #[])∧u'=.returning∧w'=w:=by
 refine callsD_of_wpS Tryz.func80 rfl fun c₀ cs hu=>?_
 apply wpS_seq
 apply wpS_region
 simp [wpOpsS,go_sem,recoverD,hu,Tryz.ntmps80,Exit.thenS]
 refine wpS_of_wp ?_
 go_wp2_with fail
 cases c₀
 simp_all [bodyPostS,results,Tryz.results80]
end
end Go.Proofs.YtkdbjelhkfdfjaaGreatDoor

