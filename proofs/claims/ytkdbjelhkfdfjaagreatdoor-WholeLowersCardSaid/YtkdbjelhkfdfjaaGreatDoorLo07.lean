/-
  Contracts that the law rests on. Conditions: none.
-/
import Derived.Test.YtkdbjelhkfdfjaaGreatDoorLo03
set_option linter.unusedVariables false
set_option maxRecDepth 100000
set_option maxHeartbeats 32000000
namespace Go.Proofs.YtkdbjelhkfdfjaaGreatDoor
open Go.RowKit
def oZ:Option Nat->Int
 | some x=>x
 | none=>-1
def linkV (L R U:Nat->Option Nat) (i:Nat):List Value:=[.int .i64 (oZ (L i)),.int .i64 (oZ (R i)),.int .i64 (oZ (U i))]
structure SpineAt (w:World) (p g n:Nat) (L R U:Nat->Option Nat):Prop where
 blk:w.heap[p]?=some (.cells #[.slice (some ⟨g,0,none⟩) n n] 270 (0,0))
 arr:Arr w 273 3 n g (linkV L R U)
 ne:g≠p
 le:n<=65536
 wf:∀x y,L x=some y∨R x=some y∨U x=some y->y<n
section
variable {w w':World} {p g n:Nat} {L R U:Nat->Option Nat}
theorem SpineAt.keep {S:List Nat} (h:SpineAt w p g n L R U) (k:Keeps S w w') (h1:p∉S) (h2:g∉S):SpineAt w' p g n L R U:=⟨k.blk h.blk h1,h.arr.keep k h2,h.ne,h.le,h.wf⟩
theorem SpineAt.head (h:SpineAt w p g n L R U):w.cell? ⟨p,0,none⟩=some (.slice (some ⟨g,0,none⟩) n n):=by rw [cell_of_blk h.blk];rfl
theorem SpineAt.left (h:SpineAt w p g n L R U) {x:Nat} (hx:x<n):w.cell? ⟨g,x*3,none⟩=some (.int .i64 (oZ (L x))):=by
 have:=h.arr.cell hx (j:=0) (by omega)
 simpa [linkV] using this
theorem SpineAt.right (h:SpineAt w p g n L R U) {x:Nat} (hx:x<n):w.cell? ⟨g,x*3+1,none⟩=some (.int .i64 (oZ (R x))):=by
 have:=h.arr.cell hx (j:=1) (by omega)
 simpa [linkV] using this
theorem SpineAt.up (h:SpineAt w p g n L R U) {x:Nat} (hx:x<n):w.cell? ⟨g,x*3+2,none⟩=some (.int .i64 (oZ (U x))):=by
 have:=h.arr.cell hx (j:=2) (by omega)
 simpa [linkV] using this
theorem SpineAt.frozen (h:SpineAt w p g n L R U) (i:Nat):w.frozen? ⟨g,i,none⟩=false:=h.arr.frozen i
theorem SpineAt.lt (h:SpineAt w p g n L R U):p<w.heap.size∧g<w.heap.size:=⟨lt_of_block h.blk,h.arr.lt⟩
theorem SpineAt.setL (h:SpineAt w p g n L R U) {x:Nat} (hx:x<n) {o:Option Nat} (ho:∀y,o=some y->y<n):SpineAt (w.setCell ⟨g,x*3,none⟩ (.int .i64 (oZ o))) p g n (upd L x o) R U:=by
 refine ⟨by rw [blk_setCell_ne _ (by simpa using h.ne.symm)];exact h.blk,?_,h.ne,h.le,?_⟩
 .refine (h.arr.set hx (j:=0) (by omega) (.int .i64 (oZ o))).congr fun i _=>?_
  by_cases c:i=x
  .subst c;rw [upd_same];simp [linkV,upd_same]
  .rw [upd_other _ _ c];simp [linkV,upd_other _ _ c]
 .intro a b c
  by_cases e:a=x
  .subst e
   rw [upd_same] at c
   rcases c with c|c
   .exact ho b c
   .exact h.wf a b (.inr c)
  .rw [upd_other _ _ e] at c;exact h.wf a b c
theorem SpineAt.setR (h:SpineAt w p g n L R U) {x:Nat} (hx:x<n) {o:Option Nat} (ho:∀y,o=some y->y<n):SpineAt (w.setCell ⟨g,x*3+1,none⟩ (.int .i64 (oZ o))) p g n L (upd R x o) U:=by
 refine ⟨by rw [blk_setCell_ne _ (by simpa using h.ne.symm)];exact h.blk,?_,h.ne,h.le,?_⟩
 .refine (h.arr.set hx (j:=1) (by omega) (.int .i64 (oZ o))).congr fun i _=>?_
  by_cases c:i=x
  .subst c;rw [upd_same];simp [linkV,upd_same]
  .rw [upd_other _ _ c];simp [linkV,upd_other _ _ c]
 .intro a b c
  by_cases e:a=x
  .subst e
   rw [upd_same] at c
   rcases c with c|c|c
   .exact h.wf a b (.inl c)
   .exact ho b c
   .exact h.wf a b (.inr (.inr c))
  .rw [upd_other _ _ e] at c;exact h.wf a b c
theorem SpineAt.setU (h:SpineAt w p g n L R U) {x:Nat} (hx:x<n) {o:Option Nat} (ho:∀y,o=some y->y<n):SpineAt (w.setCell ⟨g,x*3+2,none⟩ (.int .i64 (oZ o))) p g n L R (upd U x o):=by
 refine ⟨by rw [blk_setCell_ne _ (by simpa using h.ne.symm)];exact h.blk,?_,h.ne,h.le,?_⟩
 .refine (h.arr.set hx (j:=2) (by omega) (.int .i64 (oZ o))).congr fun i _=>?_
  by_cases c:i=x
  .subst c;rw [upd_same];simp [linkV,upd_same]
  .rw [upd_other _ _ c];simp [linkV,upd_other _ _ c]
 .intro a b c
  by_cases e:a=x
  .subst e
   rw [upd_same] at c
   rcases c with c|c|c
   .exact h.wf a b (.inl c)
   .exact h.wf a b (.inr (.inl c))
   .exact ho b c
  .rw [upd_other _ _ e] at c;exact h.wf a b c
end
theorem side_calls (w:World) (b:Bool):Calls Tryz.prog 416 #[.bool b] w fun e w'=>e=.returned (.int .i64 (if b then 1 else 0))∧w=w':=by
 cases b with
 | true =>
  go_enter Tryz.func416,Tryz.ntmps416
  go_wp2
  go_ret
  exact ⟨rfl,rfl⟩
 | false =>
  go_enter Tryz.func416,Tryz.ntmps416
  go_wp2
  go_ret
  exact ⟨rfl,rfl⟩
theorem told_calls (w:World) (o:Option Nat):Calls Tryz.prog 419 #[.int .i64 (oZ o)] w fun e w'=>e=.returned (.tuple #[.int .i64 ((o.getD 0:Nat):Int),.bool o.isSome])∧w=w':=by
 cases o with
 | none =>
  simp only [oZ]
  go_enter Tryz.func419,Tryz.ntmps419
  go_wp2
  go_ret2
  exact ⟨rfl,rfl⟩
 | some x =>
  simp only [oZ]
  have hx:((x:Int)==-1)=false:=by rw [beq_eq_false_iff_ne];omega
  go_enter Tryz.func419,Tryz.ntmps419
  go_wp2
  go_ret2
  exact ⟨rfl,rfl⟩
section
variable (w:World) (p g n:Nat) (L R U:Nat->Option Nat) (h:SpineAt w p g n L R U)
include h
theorem sp_has (x:Nat) (hx:x<n):Calls Tryz.prog 420 #[.pointer (some ⟨p,0,none⟩),.int .i64 x] w fun e w'=>e=.returned (.bool true)∧w=w':=by
 have c0:=h.head
 have hx0:decide ((0:Int)<=(x:Int))=true:=by rw [decide_eq_true_iff];omega
 go_enter Tryz.func420,Tryz.ntmps420
 go_wp2
 go_ret
 exact ⟨rfl,rfl⟩
theorem sp_hasno:Calls Tryz.prog 420 #[.pointer (some ⟨p,0,none⟩),.int .i64 (-1)] w fun e w'=>e=.returned (.bool false)∧w=w':=by
 have c0:=h.head
 go_enter Tryz.func420,Tryz.ntmps420
 go_wp2
 go_ret
 exact ⟨rfl,rfl⟩
theorem sp_above (x:Nat) (hx:x<n):Calls Tryz.prog 415 #[.pointer (some ⟨p,0,none⟩),.int .i64 x] w fun e w'=>e=.returned (.int .i64 (oZ (U x)))∧w=w':=by
 have c0:=h.head
 have c1:=h.up hx
 have hs:=fun w=>sp_has w p g n L R U (x:=x) (hx:=hx)
 generalize oZ (U x)=u at *
 go_enter Tryz.func415,Tryz.ntmps415
 go_wp2_with (go_at_call 420;refine (sp_has w p g n L R U h x hx).mono ?_;rintro e w' ⟨rfl,rfl⟩)
 go_ret
 exact ⟨rfl,rfl⟩
end
theorem side_true (w:World):Calls Tryz.prog 416 #[.bool true] w fun e w'=>e=.returned (.int .i64 1)∧w'=w :=
 (side_calls w true).mono fun _ _ h=>⟨h.1,h.2.symm⟩
theorem side_false (w:World):Calls Tryz.prog 416 #[.bool false] w fun e w'=>e=.returned (.int .i64 0)∧w'=w :=
 (side_calls w false).mono fun _ _ h=>⟨h.1,h.2.symm⟩
theorem cell_set_ne {w:World} {a:Addr} {v x:Value} {b o:Nat} (hb:b≠a.block) (h:w.cell? ⟨b,o,none⟩=some x):(w.setCell a v).cell? ⟨b,o,none⟩=some x :=
 (World.cell?_of_block (a:=⟨b,o,none⟩) (blk_setCell_ne v hb)).trans h
theorem SpineAt.like {w w':World} {p g n:Nat} {L R U:Nat->Option Nat} (h:SpineAt w p g n L R U) (e:w'.heap=w.heap):SpineAt w' p g n L R U :=
 ⟨by rw [e];exact h.blk,⟨by
  refine ⟨h.arr.row.1,?_⟩
  rw [e];exact h.arr.row.2,h.arr.size⟩,h.ne,h.le,h.wf⟩
section
variable (w:World) (p g n:Nat) (L R U:Nat->Option Nat) (h:SpineAt w p g n L R U)
include h
theorem sp_kidR (x:Nat) (hx:x<n):Calls Tryz.prog 417 #[.pointer (some ⟨p,0,none⟩),.int .i64 x,.bool true] w fun e w'=>e=.returned (.int .i64 (oZ (R x)))∧∃m,w'=w.drewN m:=by
 have c0:=h.head
 have c1:=h.right hx
 have hx3:(x:Int)<(n:Int):=by omega
 generalize oZ (R x)=u at *
 go_enter Tryz.func417,Tryz.ntmps417
 go_wp2_with (go_at_call 420;refine (sp_has w p g n L R U h x hx).mono ?_;rintro e w' ⟨rfl,rfl⟩)
 go_quiet ((go_at_call 416;exact Calls.quiet_of_same (side_true _)))
 go_wp2
 go_ret
 exact ⟨rfl,_,rfl⟩
theorem sp_kidL (x:Nat) (hx:x<n):Calls Tryz.prog 417 #[.pointer (some ⟨p,0,none⟩),.int .i64 x,.bool false] w fun e w'=>e=.returned (.int .i64 (oZ (L x)))∧∃m,w'=w.drewN m:=by
 have c0:=h.head
 have c1:=h.left hx
 have hx3:(x:Int)<(n:Int):=by omega
 generalize oZ (L x)=u at *
 go_enter Tryz.func417,Tryz.ntmps417
 go_wp2_with (go_at_call 420;refine (sp_has w p g n L R U h x hx).mono ?_;rintro e w' ⟨rfl,rfl⟩)
 go_quiet ((go_at_call 416;exact Calls.quiet_of_same (side_false _)))
 go_wp2
 go_ret
 exact ⟨rfl,_,rfl⟩
theorem sp_Left (x:Nat) (hx:x<n):Calls Tryz.prog 411 #[.pointer (some ⟨p,0,none⟩),.int .i64 x] w fun e w'=>e=.returned (.tuple #[.int .i64 (((L x).getD 0:Nat):Int),.bool (L x).isSome])∧∃m,w'=w.drewN m:=by
 go_enter Tryz.func411,Tryz.ntmps411
 go_wp2_with (first
  | (go_at_call 417;refine (sp_kidL w p g n L R U h x hx).mono ?_;rintro e w' ⟨rfl,m,rfl⟩)
  | (go_at_call 419;refine (told_calls _ _).mono ?_;rintro e w' ⟨rfl,rfl⟩))
 go_ret2
 exact ⟨rfl,_,rfl⟩
theorem sp_Right (x:Nat) (hx:x<n):Calls Tryz.prog 412 #[.pointer (some ⟨p,0,none⟩),.int .i64 x] w fun e w'=>e=.returned (.tuple #[.int .i64 (((R x).getD 0:Nat):Int),.bool (R x).isSome])∧∃m,w'=w.drewN m:=by
 go_enter Tryz.func412,Tryz.ntmps412
 go_wp2_with (first
  | (go_at_call 417;refine (sp_kidR w p g n L R U h x hx).mono ?_;rintro e w' ⟨rfl,m,rfl⟩)
  | (go_at_call 419;refine (told_calls _ _).mono ?_;rintro e w' ⟨rfl,rfl⟩))
 go_ret2
 exact ⟨rfl,_,rfl⟩
theorem sp_Up (x:Nat) (hx:x<n):Calls Tryz.prog 413 #[.pointer (some ⟨p,0,none⟩),.int .i64 x] w fun e w'=>e=.returned (.tuple #[.int .i64 (((U x).getD 0:Nat):Int),.bool (U x).isSome])∧w=w':=by
 go_enter Tryz.func413,Tryz.ntmps413
 go_wp2_with (first
  | (go_at_call 415;refine (sp_above w p g n L R U h x hx).mono ?_;rintro e w' ⟨rfl,rfl⟩)
  | (go_at_call 419;refine (told_calls _ _).mono ?_;rintro e w' ⟨rfl,rfl⟩))
 go_ret2
 exact ⟨rfl,rfl⟩
theorem sp_aboveno:Calls Tryz.prog 415 #[.pointer (some ⟨p,0,none⟩),.int .i64 (-1)] w fun e w'=>e=.returned (.int .i64 (-1))∧w=w':=by
 go_enter Tryz.func415,Tryz.ntmps415
 go_wp2_with (go_at_call 420;refine (sp_hasno w p g n L R U h).mono ?_;rintro e w' ⟨rfl,rfl⟩)
 go_ret
 exact ⟨rfl,rfl⟩
end
section
variable (w:World) (p g n:Nat) (L R U:Nat->Option Nat) (h:SpineAt w p g n L R U)
include h
def SpineLeft (w:World) (p g n:Nat) (L R U:Nat->Option Nat) (w':World):Prop:=SpineAt w' p g n L R U∧Keeps [g] w w'
theorem sp_cutno:Calls Tryz.prog 407 #[.pointer (some ⟨p,0,none⟩),.int .i64 (-1)] w fun e w'=>e=.returned (.tuple #[.int .i64 0,.bool false])∧w=w':=by
 go_enter Tryz.func407,Tryz.ntmps407
 go_wp2_with (go_at_call 415;refine (sp_aboveno w p g n L R U h).mono ?_;rintro e w' ⟨rfl,rfl⟩)
 go_ret2
 exact ⟨rfl,rfl⟩
theorem sp_cut_R (x q:Nat) (hx:x<n) (hu:U x=some q) (hr:R q=some x) :
  Calls Tryz.prog 407 #[.pointer (some ⟨p,0,none⟩),.int .i64 x] w fun e w'=>e=.returned (.tuple #[.int .i64 q,.bool true])∧SpineLeft w p g n L (upd R q none) (upd U x none) w':=by
 have hq:=h.wf x q (.inr (.inr hu))
 have ha:=sp_above w p g n L R U h x hx
 have hk:=fun u (hu:SpineAt u p g n L R U)=>sp_kidR u p g n L R U hu q hq
 rw [hu] at ha
 rw [hr] at hk
 simp only [oZ] at ha hk
 have h1:=h.setR hq (o:=none) (by simp)
 have h2:=h1.setU hx (o:=none) (by simp)
 have k2:Keeps [g] w ((w.setCell ⟨g,q*3+1,none⟩ (.int .i64 (oZ none))).setCell ⟨g,x*3+2,none⟩ (.int .i64 (oZ none))):=((Keeps.refl _ _).setCell (.inl (by simp)) _).setCell (.inl (by simp)) _
 simp only [oZ] at h2 k2
 have c0:=h.head
 have c1:=h.right hq
 have c2:=h.up hx
 have f1:=h.frozen (q*3+1)
 have f2:=h.frozen (x*3+2)
 have hne:=h.ne
 have hq3:(q:Int)<(n:Int):=by omega
 have hx3:(x:Int)<(n:Int):=by omega
 have hqn:((q:Int)==-1)=false:=by rw [beq_eq_false_iff_ne];omega
 have H2:=Lib.hid h2
 have K2:=Lib.hid k2
 clear h1 h2 k2 hu hr
 go_enter Tryz.func407,Tryz.ntmps407
 go_upto_region 4 with (go_at_call 415;refine ha.mono ?_;rintro e w' ⟨rfl,rfl⟩)
 go_region_held3 (fun w'=>w'.cell? ⟨p,0,none⟩=some (.slice (some ⟨g,0,none⟩) n n)) (first|exact c0|exact cell_set_ne hne.symm c0)
  (first
   | (go_at_call 417;refine (hk _ (by exact h.like rfl)).mono ?_;rintro e w' ⟨rfl,m,rfl⟩)
   | (go_at_call 416;refine (side_true _).mono ?_;rintro e w' ⟨rfl,rfl⟩))
 all_goals
  go_wp2
  go_ret2
  exact ⟨rfl,H2.out.keep (S:=[]) ⟨rfl,rfl,rfl,Nat.le_refl _,fun _ _ _=>rfl⟩ (by simp) (by simp),K2.out.trans (T:=[]) ⟨rfl,rfl,rfl,Nat.le_refl _,fun _ _ _=>rfl⟩ (by simp)⟩
end
section
variable (w:World) (p g n:Nat) (L R U:Nat->Option Nat) (h:SpineAt w p g n L R U)
include h
theorem sp_cut_L (x q:Nat) (hx:x<n) (hu:U x=some q) (hl:L q=some x) (hr:R q≠some x) :
  Calls Tryz.prog 407 #[.pointer (some ⟨p,0,none⟩),.int .i64 x] w fun e w'=>e=.returned (.tuple #[.int .i64 q,.bool true])∧SpineLeft w p g n (upd L q none) R (upd U x none) w':=by
 have hq:=h.wf x q (.inr (.inr hu))
 have ha:=sp_above w p g n L R U h x hx
 have hk:=fun u (hu:SpineAt u p g n L R U)=>sp_kidR u p g n L R U hu q hq
 rw [hu] at ha
 simp only [oZ] at ha
 have h1:=h.setL hq (o:=none) (by simp)
 have h2:=h1.setU hx (o:=none) (by simp)
 have k2:Keeps [g] w ((w.setCell ⟨g,q*3,none⟩ (.int .i64 (oZ none))).setCell ⟨g,x*3+2,none⟩ (.int .i64 (oZ none))):=((Keeps.refl _ _).setCell (.inl (by simp)) _).setCell (.inl (by simp)) _
 simp only [oZ] at h2 k2
 have c0:=h.head
 have c1:=h.left hq
 have c2:=h.up hx
 have f1:=h.frozen (q*3)
 have f2:=h.frozen (x*3+2)
 have hne:=h.ne
 have hq3:(q:Int)<(n:Int):=by omega
 have hx3:(x:Int)<(n:Int):=by omega
 have hqn:((q:Int)==-1)=false:=by rw [beq_eq_false_iff_ne];omega
 have hrx:(oZ (R q)==(x:Int))=false:=by
  rw [beq_eq_false_iff_ne]
  cases e:R q with
  | none=>simp only [oZ];omega
  | some y=>simp only [oZ];rintro e';exact hr (by rw [e];congr 1;omega)
 have H2:=Lib.hid h2
 have K2:=Lib.hid k2
 clear h1 h2 k2 hu hl hr
 generalize oZ (R q)=z at *
 go_enter Tryz.func407,Tryz.ntmps407
 go_upto_region 4 with (go_at_call 415;refine ha.mono ?_;rintro e w' ⟨rfl,rfl⟩)
 go_region_held3 (fun w'=>w'.cell? ⟨p,0,none⟩=some (.slice (some ⟨g,0,none⟩) n n)) (first|exact c0|exact cell_set_ne hne.symm c0)
  (first
   | (go_at_call 417;refine (hk _ (by exact h.like rfl)).mono ?_;rintro e w' ⟨rfl,m,rfl⟩)
   | (go_at_call 416;refine (side_false _).mono ?_;rintro e w' ⟨rfl,rfl⟩))
 all_goals
  go_wp2
  go_ret2
  exact ⟨rfl,H2.out.keep (S:=[]) ⟨rfl,rfl,rfl,Nat.le_refl _,fun _ _ _=>rfl⟩ (by simp) (by simp),K2.out.trans (T:=[]) ⟨rfl,rfl,rfl,Nat.le_refl _,fun _ _ _=>rfl⟩ (by simp)⟩
theorem sp_hang (q x:Nat) (hq:q<n) (hx:x<n) (hne':q≠x) (hu:U x=none) (hr:R q=none) :
  Calls Tryz.prog 414 #[.pointer (some ⟨p,0,none⟩),.int .i64 q,.int .i64 x,.bool true] w fun e w'=>e=.returned (.bool true)∧SpineLeft w p g n L (upd R q (some x)) (upd U x (some q)) w':=by
 have ha:=sp_above w p g n L R U h x hx
 have hk:=fun u (hu:SpineAt u p g n L R U)=>sp_kidR u p g n L R U hu q hq
 rw [hu] at ha
 rw [hr] at hk
 simp only [oZ] at ha hk
 have h1:=h.setR hq (o:=some x) (by rintro y e;cases e;exact hx)
 have h2:=h1.setU hx (o:=some q) (by rintro y e;cases e;exact hq)
 have k2:Keeps [g] w ((w.setCell ⟨g,q*3+1,none⟩ (.int .i64 (oZ (some x)))).setCell ⟨g,x*3+2,none⟩ (.int .i64 (oZ (some q)))):=((Keeps.refl _ _).setCell (.inl (by simp)) _).setCell (.inl (by simp)) _
 simp only [oZ] at h2 k2
 have c0:=h.head
 have c1:=h.right hq
 have c2:=h.up hx
 have f1:=h.frozen (q*3+1)
 have f2:=h.frozen (x*3+2)
 have hne:=h.ne
 have hq3:(q:Int)<(n:Int):=by omega
 have hx3:(x:Int)<(n:Int):=by omega
 have hqx:((q:Int)==(x:Int))=false:=by rw [beq_eq_false_iff_ne];omega
 have H2:=Lib.hid h2
 have K2:=Lib.hid k2
 clear h1 h2 k2 hu hr
 go_enter Tryz.func414,Tryz.ntmps414
 go_upto_region 3 with (first
  | (go_at_call 420;refine (sp_has w p g n L R U h _ (by first|exact hq|exact hx)).mono ?_;rintro e w' ⟨rfl,rfl⟩)
  | (go_at_call 415;refine ha.mono ?_;rintro e w' ⟨rfl,rfl⟩)
  | (go_at_call 417;refine (hk _ (by exact h.like rfl)).mono ?_;rintro e w' ⟨rfl,m,rfl⟩))
 go_region_held3 (fun w'=>w'.cell? ⟨p,0,none⟩=some (.slice (some ⟨g,0,none⟩) n n)) (first|exact c0|exact cell_set_ne hne.symm c0)
  (first
   | (go_at_call 416;refine (side_true _).mono ?_;rintro e w' ⟨rfl,rfl⟩))
 all_goals
  go_wp2
  go_ret
  exact ⟨rfl,H2.out.keep (S:=[]) ⟨rfl,rfl,rfl,Nat.le_refl _,fun _ _ _=>rfl⟩ (by simp) (by simp),K2.out.trans (T:=[]) ⟨rfl,rfl,rfl,Nat.le_refl _,fun _ _ _=>rfl⟩ (by simp)⟩
theorem sp_turn (q:Nat) (hq:q<n) :
  Calls Tryz.prog 422 #[.pointer (some ⟨p,0,none⟩),.int .i64 q] w fun e w'=>e=.returned (.bool true)∧SpineLeft w p g n (upd L q (R q)) (upd R q (L q)) U w':=by
 have h1:=h.setL hq (o:=R q) (fun y e=>h.wf q y (.inr (.inl e)))
 have h2:=h1.setR hq (o:=L q) (fun y e=>h.wf q y (.inl e))
 have k2:Keeps [g] w ((w.setCell ⟨g,q*3,none⟩ (.int .i64 (oZ (R q)))).setCell ⟨g,q*3+1,none⟩ (.int .i64 (oZ (L q)))):=((Keeps.refl _ _).setCell (.inl (by simp)) _).setCell (.inl (by simp)) _
 have c0:=h.head
 have c1:=h.left hq
 have c2:=h.right hq
 have f1:=h.frozen (q*3)
 have f2:=h.frozen (q*3+1)
 have hne:=h.ne
 have hq3:(q:Int)<(n:Int):=by omega
 have H2:=Lib.hid h2
 have K2:=Lib.hid k2
 clear h1 h2 k2
 generalize oZ (R q)=zr at *
 generalize oZ (L q)=zl at *
 go_enter Tryz.func422,Tryz.ntmps422
 go_upto_region 4 with (first
  | (go_at_call 420;refine (sp_has w p g n L R U h _ hq).mono ?_;rintro e w' ⟨rfl,rfl⟩))
 go_region
 all_goals
  go_wp2
  go_ret
  exact ⟨rfl,H2.out.keep (S:=[]) ⟨rfl,rfl,rfl,Nat.le_refl _,fun _ _ _=>rfl⟩ (by simp) (by simp),K2.out.trans (T:=[]) ⟨rfl,rfl,rfl,Nat.le_refl _,fun _ _ _=>rfl⟩ (by simp)⟩
end
end Go.Proofs.YtkdbjelhkfdfjaaGreatDoor

