/-
  Contracts that the law rests on. Conditions: none.
-/
import Derived.Test.YtkdbjelhkfdfjaaGreatDoorLo22
set_option linter.unusedVariables false
set_option maxRecDepth 100000
set_option maxHeartbeats 32000000
namespace Go.Proofs.YtkdbjelhkfdfjaaGreatDoor
open Go.RowKit
section
variable (w:World) (Bx x:Nat)
theorem take_is (hB:w.cell? ⟨Bx,0,none⟩=some (.int .i64 (x:Nat))) (y:Nat) :
  Calls Tryz.prog 358 #[.int .i64 y,.pointer (some ⟨Bx,0,none⟩)] w fun e w'=>e=.returned (.bool (decide (x=y)))∧w=w':=by
 by_cases c:x=y
 .have c3:((x:Int)==(y:Int))=true:=by rw [beq_iff_eq];omega
  have C:=Lib.hid c
  clear c
  go_enter Tryz.func358,Tryz.ntmps358
  go_wp2_with fail
  go_ret
  exact ⟨by simp [C.out],rfl⟩
 .have c3:((x:Int)==(y:Int))=false:=by rw [beq_eq_false_iff_ne];omega
  have C:=Lib.hid c
  clear c
  go_enter Tryz.func358,Tryz.ntmps358
  go_wp2_with fail
  go_ret
  exact ⟨by simp [C.out],rfl⟩
theorem take_index (hB:w.cell? ⟨Bx,0,none⟩=some (.int .i64 (x:Nat))) (ao:Option Addr) (ca n:Nat) (a b:List Nat) (hn:n=(a++x::b).length) (hl:Rg.IR 0 w (.slice ao n ca) (a++x::b)) (hll:n<=65536) (hx:x∉a) :
  Calls Tryz.prog 251 #[.slice ao n ca,.func (.func 358) #[] #[.pointer (some ⟨Bx,0,none⟩)]] w fun e w'=>e=.returned (.int .i64 a.length)∧w=w':=by
 have hno:=take_is w Bx x hB
 have hat:∀i,i<n->∃gg y,ao=some ⟨gg,0,none⟩∧w.cell? ⟨gg,i,none⟩=some (.int .i64 (y:Nat))∧(a++x::b)[i]?=some y:=fun i hi=>by
  obtain ⟨gg,e,_,_,c⟩:=hl.at i (by omega)
  exact ⟨gg,_,e,c,by rw [Rg.fn,List.getD,List.getElem?_eq_getElem (by omega)];rfl⟩
 have HAT:=Lib.hid hat
 have HX:=Lib.hid hx
 have hna:a.length<n:=by rw [hn];simp
 have HA:=Lib.hid hna
 clear hat hl hB hn hx hna
 go_enter Tryz.func251,Tryz.ntmps251
 go_wp2_with fail
 go_loopg [8] (a.length+1) (fun k s wr=>∃i:Nat,k+i=a.length+1∧i<=a.length∧s=.int .i64 i∧wr=w)
 case atStart=>exact ⟨0,by omega,by omega,rfl,rfl⟩
 case round =>
  obtain ⟨i,hk,hin,rfl,rfl⟩:=hrel
  have HK:=Lib.hid hk
  clear hk
  have hi:i<n:=by have:=HA.out;omega
  obtain ⟨gg,y,hao,d1,hy⟩:=HAT.out i hi
  subst hao
  have hc:=hno y
  have hi3:(i:Int)<(n:Int):=by omega
  by_cases h:i<a.length
  .rw [List.getElem?_append_left h] at hy
   have hxy:decide (x=y)=false:=by
    rw [decide_eq_false_iff_not];rintro rfl
    exact HX.out (List.mem_of_getElem? hy)
   rw [hxy] at hc
   clear hno hxy hy
   go_wp2_with (go_at_call 358;refine hc.mono ?_;rintro e w' ⟨rfl,rfl⟩)
   go_roundg (gk - 1)
   case measure=>have:=HK.out;omega
   case rel=>exact ⟨i+1,by have:=HK.out;omega,by omega,by go_num,rfl⟩
  .obtain rfl:i=a.length:=by omega
   rw [List.getElem?_append_right (Nat.le_refl _),Nat.sub_self] at hy
   have hxy:decide (x=y)=true:=by simpa using hy
   rw [hxy] at hc
   clear hno hxy hy
   go_wp2_with (go_at_call 358;refine hc.mono ?_;rintro e w' ⟨rfl,rfl⟩)
   go_ret
   exact ⟨rfl,rfl⟩
end
theorem ir_short {B n m ca:Nat} {w:World} {ao:Option Addr} {L M:List Nat} (h:Rg.IR B w (.slice ao n ca) (L++M)) (hm:m=L.length) (h0:0<n) (hn:n=(L++M).length):Rg.IR B w (.slice ao m ca) L:=by
 subst hm
 refine ⟨by simp [Rg.nCells],.inr ?_⟩
 rcases h.2 with ⟨e,_⟩|⟨g,cap,cur,e,hb,hg,h1,h2,h3,h4⟩
 .cases e;omega
 .cases e
  refine ⟨g,ca,cur,rfl,hb,hg,by simp only [List.length_append] at h1;omega,h2,h3,?_⟩
  have:=congrArg (List.take (L.length*1)) h4
  rw [List.take_take] at this
  rw [show min (L.length*1) ((L++M).length*1)=L.length*1 by simp] at this
  rw [this,Rg.nCells_append,List.take_append_of_le_length (by simp [Rg.nCells]),List.take_of_length_le (by simp [Rg.nCells])]
theorem ir_frozen {B n ca g:Nat} {w:World} {L:List Nat} (h:Rg.IR B w (.slice (some ⟨g,0,none⟩) n ca) L) (i:Nat):w.frozen? ⟨g,i,none⟩=false:=by
 rcases h.2 with ⟨e,_⟩|⟨g',cap,cur,e,hb,hg,_⟩
 .cases e
 .cases e;exact frozen_of_blk hg
def delL (a b:List Nat) (x k:Nat):List Nat:=a++b.take k++(x::b).drop k
theorem delL_len (a b:List Nat) (x k:Nat) (hk:k<=b.length):(delL a b x k).length=a.length+b.length+1:=by simp [delL];omega
theorem delL_zero (a b:List Nat) (x:Nat):delL a b x 0=a++x::b:=by simp [delL]
theorem delL_at (a b:List Nat) (x k y:Nat) (h:b[k]?=some y):(delL a b x k)[a.length+k+1]?=some y:=by
 have hk:=(List.getElem?_eq_some_iff.1 h).1
 unfold delL
 rw [List.getElem?_append_right (by simp;omega)]
 simp only [List.length_append,List.length_take]
 rw [show a.length+k+1 - (a.length+min k b.length)=1 by omega,List.getElem?_drop]
 simpa using h
theorem delL_set (a b:List Nat) (x k y:Nat) (h:b[k]?=some y):(delL a b x k).set (a.length+k) y=delL a b x (k+1):=by
 have hk:=(List.getElem?_eq_some_iff.1 h).1
 obtain ⟨c,hc⟩:∃c,(x::b).drop k=c::b.drop k:=by
  rw [List.drop_eq_getElem_cons (by simp;omega)];exact ⟨_,by rw [List.drop_succ_cons]⟩
 unfold delL
 rw [hc,List.set_append_right _ _ (by simp;omega)]
 have e:a.length+k - (a++b.take k).length=0:=by simp;omega
 rw [e,List.set_cons_zero,List.take_add_one,h]
 simp
theorem delL_last (a b:List Nat) (x:Nat):∃c,delL a b x b.length=a++b++[c]:=by
 obtain ⟨c,hc⟩:∃c,(x::b).drop b.length=[c]:=by
  rw [List.drop_eq_getElem_cons (by simp)];exact ⟨_,by rw [List.drop_succ_cons,List.drop_length]⟩
 exact ⟨c,by simp [delL,hc]⟩
section
variable (w:World) (Bx x:Nat)
theorem delete_one (hB:w.heap[Bx]?=some (.cells #[.int .i64 (x:Nat)] 3 (0,0))) (g ca n:Nat) (a b:List Nat) (hn:n=(a++x::b).length) (hl:Rg.IR 0 w (.slice (some ⟨g,0,none⟩) n ca) (a++x::b)) (hll:n<=65536) (hx:x∉a) (hxb:x∉b) (hg:g≠Bx) :
  Calls Tryz.prog 357 #[.slice (some ⟨g,0,none⟩) n ca,.func (.func 358) #[] #[.pointer (some ⟨Bx,0,none⟩)]] w fun e w'=>e=.returned (.slice (some ⟨g,0,none⟩) (n - 1) ca)∧Rg.IR 0 w' (.slice (some ⟨g,0,none⟩) (n - 1) ca) (a++b)∧Keeps [g] w w':=by
 have hc0:w.cell? ⟨Bx,0,none⟩=some (.int .i64 (x:Nat)):=by rw [cell_of_blk hB];rfl
 have hix:=take_index w Bx x hc0 (some ⟨g,0,none⟩) ca n a b hn hl hll hx
 have hna:n=a.length+b.length+1:=by rw [hn];simp;omega
 have hca:n<=ca:=by
  rcases hl.2 with ⟨e,_⟩|⟨g',cap,cur,e,_,_,h1,_⟩
  .cases e
  .cases e;omega
 have hab:a.length<=65535:=by omega
 have hi1:((a.length:Int)==-1)=false:=by rw [beq_eq_false_iff_ne];omega
 have HB:=Lib.hid hB
 have HL:Hid (Rg.IR 0 w (.slice (some ⟨g,0,none⟩) n ca) (delL a b x 0)):=Lib.hid (by rw [delL_zero];exact hl)
 have HN:=Lib.hid hna
 have HXB:=Lib.hid hxb
 clear hB hn hl hx hna hxb hc0
 go_enter Tryz.func357,Tryz.ntmps357
 go_wp2_with (go_at_call 251;refine hix.mono ?_;rintro e w' ⟨rfl,rfl⟩)
 go_loopg [5,6] (b.length+1) (fun m s t wr=>∃k:Nat,m+k=b.length+1∧k<=b.length∧s=.int .i64 ((a.length+k:Nat):Int)∧t=.int .i64 ((a.length+k+1:Nat):Int)∧Rg.IR 0 wr (.slice (some ⟨g,0,none⟩) n ca) (delL a b x k)∧Keeps [g] w wr)
 case atStart=>exact ⟨0,by omega,by omega,by go_num,by have:=HN.out;go_num,HL.out,Keeps.refl _ _⟩
 case round =>
  clear hix HL hi1
  obtain ⟨k,hk,hkb,rfl,rfl,hir,kp⟩:=hrel
  have HK:=Lib.hid hk
  clear hk
  have hnl:=HN.out
  have hlen:=delL_len a b x k hkb
  by_cases h:k<b.length
  .obtain ⟨y,hy⟩:∃y,b[k]?=some y:=⟨_,List.getElem?_eq_getElem h⟩
   have hat:=delL_at a b x k y hy
   obtain ⟨gg,e,_,_,d1⟩:=hir.at (a.length+k+1) (by omega)
   cases e
   have d2:wr.cell? ⟨g,a.length+k+1,none⟩=some (.int .i64 (y:Nat)):=by
    rw [d1,Rg.fn,List.getD,hat];rfl
   have hxy:decide (x=y)=false:=by
    rw [decide_eq_false_iff_not];rintro rfl
    exact HXB.out (List.mem_of_getElem? hy)
   have hc:=take_is wr Bx x (by rw [cell_of_blk (kp.blk HB.out (by simpa using hg.symm))];rfl) y
   rw [hxy] at hc
   have hir':Rg.IR 0 (wr.setCell ⟨g,a.length+k,none⟩ (.int .i64 (y:Int))) (.slice (some ⟨g,0,none⟩) n ca) (delL a b x (k+1)):=by
    have h1:=Rg.row_set (w:=wr) (n:=n) (xs:=Rg.nCells (delL a b x k)) (by have:=hir;unfold Rg.IR at this;rwa [hlen,<-hnl] at this) (a.length+k) (by omega) (.int .i64 (y:Int))
    unfold Rg.IR
    rw [delL_len a b x (k+1) (by omega),<-hnl,<-delL_set a b x k y hy,Rg.nCells_set]
    exact h1
   have f0:wr.frozen? ⟨g,a.length+k,none⟩=false:=ir_frozen hir _
   obtain ⟨gg,e,_,_,d0⟩:=hir.at (a.length+k) (by omega)
   cases e
   have kp':Keeps [g] w (wr.setCell ⟨g,a.length+k,none⟩ (.int .i64 (y:Int))):=kp.setCell (.inl (by simp)) _
   have b1:((a.length+k+1:Nat):Int)<(n:Int):=by omega
   have b2:((a.length+k:Nat):Int)<(n:Int):=by omega
   have HI:=Lib.hid hir'
   have HP:=Lib.hid kp'
   clear hir hir' kp' kp hxy hat hy d1 hlen hnl
   go_wp2_with (go_at_call 358;refine hc.mono ?_;rintro e w' ⟨rfl,rfl⟩)
   go_roundg (gk - 1)
   case measure=>have:=HK.out;omega
   case rel=>exact ⟨k+1,by have:=HK.out;omega,by omega,by go_num,by go_num,HI.out,HP.out⟩
  .obtain rfl:k=b.length:=by omega
   obtain ⟨c,hcl⟩:=delL_last a b x
   rw [hcl] at hir
   clear hlen hcl
   subst hnl
   have f0:wr.frozen? ⟨g,a.length+b.length,none⟩=false:=ir_frozen hir _
   obtain ⟨gg,e,_,_,d0⟩:=hir.at (a.length+b.length) (by simp)
   cases e
   have hsc:∀ty,(Builtin.clear_ #[28] ty #[.slice (some ⟨g,a.length+b.length,none⟩) 1 (ca - (a.length+b.length))]).run Tryz.prog wr=.ok (.tuple #[]) (wr.setCell ⟨g,a.length+b.length,none⟩ (.int .i64 0)):=fun ty =>
    Lib.run_clear_slice wr 28 3 ty (.int .i64 0) Tryz.underlying28 (by intro w;kernel_rfl) rfl rfl g (a.length+b.length) 1 _ (by omega) (fun j hj=>by
     obtain rfl:j=0:=by omega
     rw [Nat.add_zero,d0];rfl) (fun j hj=>by
     obtain rfl:j=0:=by omega
     exact f0)
   have hir':Rg.IR 0 (wr.setCell ⟨g,a.length+b.length,none⟩ (.int .i64 0)) (.slice (some ⟨g,0,none⟩) (a.length+b.length) ca) (a++b):=by
    have h1:=Rg.row_set (w:=wr) (n:=a.length+b.length+1) (xs:=Rg.nCells (a++b++[c])) (by have:=hir;unfold Rg.IR at this;rwa [show (a++b++[c]).length=a.length+b.length+1 by simp;omega] at this) (a.length+b.length) (by omega) (.int .i64 0)
    have h2:Rg.IR 0 (wr.setCell ⟨g,a.length+b.length,none⟩ (.int .i64 0)) (.slice (some ⟨g,0,none⟩) (a.length+b.length+1) ca) (a++b++[0]):=by
     unfold Rg.IR
     have e1:(Rg.nCells (a++b++[c])).set (a.length+b.length) (.int .i64 0)=Rg.nCells (a++b++[0]):=by
      have:=Rg.nCells_set (a++b++[c]) (a.length+b.length) 0
      rw [show (a++b++[c]).set (a.length+b.length) 0=a++b++[0] by
       rw [List.set_append_right _ _ (by simp)];simp] at this
      exact this.symm
     rw [e1] at h1
     have e2:(a++b++[0]).length=a.length+b.length+1:=by simp;omega
     rw [e2]
     exact h1
    exact ir_short h2 (by simp) (by omega) (by simp;omega)
   have kp':Keeps [g] w (wr.setCell ⟨g,a.length+b.length,none⟩ (.int .i64 0)):=kp.setCell (.inl (by simp)) _
   have hcne:¬ca=a.length+b.length:=by omega
   have HI:=Lib.hid hir'
   have HP:=Lib.hid kp'
   clear hir hir' kp' kp HK HN
   go_wp2_with fail
   go_ret
   exact ⟨rfl,HI.out,HP.out⟩
end
theorem Tryz.infoLinks:(Tryz.prog.info? 273).map (fun i=>(i.zero,i.size,i.bytes))=some (some (.agg #[.int .i64 0,.int .i64 0,.int .i64 0]),3,24):=by kernel_rfl
def laidL (i j:Nat):List Value:=if j<i then [.int .i64 (-1),.int .i64 (-1),.int .i64 (-1)] else [.int .i64 0,.int .i64 0,.int .i64 0]
theorem laidL_upd (i:Nat):upd (laidL i) i [.int .i64 (-1),.int .i64 (-1),.int .i64 (-1)]=laidL (i+1):=by
 funext j
 by_cases e:j=i
 .subst e;rw [upd_same];simp [laidL]
 .rw [upd_other _ _ e]
  unfold laidL
  by_cases c:j<i
  .rw [if_pos c,if_pos (by omega)]
  .rw [if_neg c,if_neg (by omega)]
def SpineNew (w:World) (n:Nat) (e:Ending) (w':World):Prop :=
 ∃p g,e=.returned (.tuple #[.pointer (some ⟨p,0,none⟩),.int .i64 0])∧SpineAt w' p g n (fun _=>none) (fun _=>none) (fun _=>none)∧Keeps [] w w'∧w.heap.size<=p∧w.heap.size<=g
theorem sp_new (w:World) (n:Nat) (hn:n<=65536):Calls Tryz.prog 92 #[.int .i64 n] w (SpineNew w n):=by
 have b1:decide ((n:Int)<0)=false:=by rw [decide_eq_false_iff_not];omega
 have b2:decide (65536<(n:Int))=false:=by rw [decide_eq_false_iff_not];omega
 obtain ⟨i0,hi,hz0,hz1,hzb⟩:=info_parts Tryz.infoLinks
 go_enter Tryz.func92,Tryz.ntmps92
 go_upto_region 4 with (at_make;refine wpList_make_full _ rfl _ _ 268 rfl 0 273 i0 (.agg #[.int .i64 0,.int .i64 0,.int .i64 0]) 3 Tryz.underlying268 hi hz0 hz1 .i64 .i64 n n n rfl rfl rfl rfl (by rw [hzb];omega) (by unfold maxLen;omega) (Nat.zero_le _) ?_;intro w2 hr2 hg2)
 have hk2:Keeps [] w w2:=(Keeps.refl _ _).grown hg2 (fun k h=>by cases h)
 have hg1:w.heap.size<w2.heap.size:=row_lt hr2
 have ha:Arr w2 273 3 n w.heap.size (laidL 0):=(Arr.made rfl (by decide) hr2).congr (fun i _=>by simp [laidL];rfl)
 have hblk:(w2.alloc (.cells #[.slice (some ⟨w.heap.size,0,none⟩) n n] 270 (0,0))).heap[w2.heap.size]?=some (.cells #[.slice (some ⟨w.heap.size,0,none⟩) n n] 270 (0,0)):=blk_alloc_new _
 have hk3:Keeps [] w (w2.alloc (.cells #[.slice (some ⟨w.heap.size,0,none⟩) n n] 270 (0,0))):=hk2.alloc _
 have ha3:=ha.alloc (.cells #[.slice (some ⟨w.heap.size,0,none⟩) n n] 270 (0,0))
 have hp:=hk2.size
 obtain ⟨g,hgd⟩:∃g,w.heap.size=g:=⟨_,rfl⟩
 obtain ⟨p,hpd⟩:∃p,w2.heap.size=p:=⟨_,rfl⟩
 rw [hgd,hpd] at hblk
 rw [hgd] at ha3 hk3
 rw [hgd,hpd]
 generalize w2.alloc (.cells #[.slice (some ⟨g,0,none⟩) n n] 270 (0,0))=w3 at *
 have e0:w3.cell? ⟨p,0,none⟩=some (.slice (some ⟨g,0,none⟩) n n):=by rw [cell_of_blk hblk];rfl
 have hgp:g<p:=by omega
 have hgB:w.heap.size<=g:=by omega
 have hpB:w.heap.size<=p:=by omega
 clear ha hr2 hg2 hk2 hgd hpd hg1 hp
 go_wp2_with fail
 go_loopg [21] (n+1) (fun m s wr=>∃i:Nat,m+i=n+1∧i<=n∧s=.int .i64 i∧Arr wr 273 3 n g (laidL i)∧wr.heap[p]?=some (.cells #[.slice (some ⟨g,0,none⟩) n n] 270 (0,0))∧Keeps [] w wr)
 case atStart=>exact ⟨0,by omega,by omega,rfl,ha3,hblk,hk3⟩
 case round =>
  clear ha3 hblk hk3 e0
  obtain ⟨i,hk,hin,rfl,ha,hb,kp⟩:=hrel
  have HK:=Lib.hid hk
  clear hk
  have e0:wr.cell? ⟨p,0,none⟩=some (.slice (some ⟨g,0,none⟩) n n):=by rw [cell_of_blk hb];rfl
  by_cases hlt:i<n
  .have hlt3:(i:Int)<(n:Int):=by omega
   have f0:=ha.frozen (i*3)
   have f1:=ha.frozen (i*3+1)
   have f2:=ha.frozen (i*3+2)
   have d0:=ha.cell hlt (j:=0) (by omega)
   have d1:=ha.cell hlt (j:=1) (by omega)
   have d2:=ha.cell hlt (j:=2) (by omega)
   simp only [laidL,Nat.lt_irrefl,if_false,List.getElem?_cons_zero,List.getElem?_cons_succ,Nat.add_zero] at d0 d1 d2
   have h3:=ha.set3 hlt (.int .i64 (-1)) (.int .i64 (-1)) (.int .i64 (-1))
   rw [laidL_upd] at h3
   have k3:Keeps [] w (((wr.setCell ⟨g,i*3,none⟩ (.int .i64 (-1))).setCell ⟨g,i*3+1,none⟩ (.int .i64 (-1))).setCell ⟨g,i*3+2,none⟩ (.int .i64 (-1))):=((kp.setCell (.inr hgB) _).setCell (.inr hgB) _).setCell (.inr hgB) _
   have hb3:(((wr.setCell ⟨g,i*3,none⟩ (.int .i64 (-1))).setCell ⟨g,i*3+1,none⟩ (.int .i64 (-1))).setCell ⟨g,i*3+2,none⟩ (.int .i64 (-1))).heap[p]?=some (.cells #[.slice (some ⟨g,0,none⟩) n n] 270 (0,0)):=by
    rw [blk_setCell_ne _ (by simp;omega),blk_setCell_ne _ (by simp;omega),blk_setCell_ne _ (by simp;omega)];exact hb
   clear ha hb kp
   go_wp2_with fail
   go_roundg (gk - 1)
   case measure=>have:=HK.out;omega
   case rel=>exact ⟨i+1,by have:=HK.out;omega,by omega,by go_num,h3,hb3,k3⟩
  .obtain rfl:i=n:=by omega
   go_wp2_with fail
   go_ret2
   refine ⟨p,g,rfl,⟨hb,ha.congr (fun j hj=>by simp [laidL,linkV,oZ,hj]),by omega,hn,by simp⟩,kp,hpB,hgB⟩
section
variable (w:World) (F:List Nat) (p cap hs:Nat) (E:Ent)
def SkewNew (w:World) (n:Nat) (e:Ending) (w':World):Prop :=
 ∃(F:List Nat) (p:Nat),e=.returned (.tuple #[.pointer (some ⟨p,0,none⟩),.int .i64 0])∧SkewAt w' F p n 0 (fun _=>none)∧Keeps [] w w'∧∀b∈F,w.heap.size<=b
theorem skew_new (w:World) (n:Nat) (hn:n<=65536):Calls Tryz.prog 68 #[.int .i64 n] w (SkewNew w n):=by
 have hmm:=@run_makeMap Tryz.prog
 have hs:=fun u=>sp_new u n hn
 go_enter Tryz.func68,Tryz.ntmps68
 go_wp2_with (first
  | (go_at_call 87;refine (cells_new w n hn).mono ?_;rintro e w1 ⟨Fc,pc,rfl,hc1,hk1,hF1⟩)
  | (go_at_call 92;refine (hs w1).mono ?_;rintro e w2 ⟨pt,gt,rfl,hs2,hk2,hp2,hg2⟩))
 go_ret2
 have hl1:=hc1.lt
 have hl2:=hs2.lt
 have hk3:∀o,Keeps [] w2 ((w2.alloc (.map #[] 0)).alloc o):=fun o=>((Keeps.refl _ _).alloc _).alloc _
 have k1:=hk1.size
 have k2:=hk2.size
 refine ⟨(w2.heap.size+1)::pt::gt::w2.heap.size::Fc,w2.heap.size+1,rfl,⟨pc,pt,gt,w2.heap.size,Fc,fun _=>none,fun _=>none,fun _=>none,fun _=>none,rfl,⟨?_,?_,(hc1.keep hk2 (by simp)).keep (hk3 _) (by simp),hs2.keep (hk3 _) (by simp) (by simp)⟩,?_,Tops.init⟩,(hk1.trans hk2 (by simp)).trans (hk3 _) (by simp),?_⟩
 .have hne:=hs2.ne
  have h4:∀b∈Fc,b<w1.heap.size:=hl1
  have h5:=hc1.nodup
  simp only [List.nodup_cons,List.mem_cons,not_or]
  exact ⟨⟨by omega,by omega,by omega,fun e=>by have:=h4 _ e;omega⟩,⟨fun e=>hne e.symm,by omega,fun e=>by have:=h4 _ e;omega⟩,⟨by omega,fun e=>by have:=h4 _ e;omega⟩,fun e=>by have:=h4 _ e;omega,h5⟩
 .have:=blk_alloc_new (w:=w2.alloc (.map #[] 0)) (.cells #[.pointer (some ⟨pc,0,none⟩),.pointer (some ⟨pt,0,none⟩),.map (some w2.heap.size)] 235 (0,0))
  simpa using this
 .rw [topN_none,topF_none]
  exact (IMap.made Tryz.prog 3 w2).keep ((Keeps.refl [] _).alloc _) (by simp)
 .intro b hb
  simp only [List.mem_cons] at hb
  rcases hb with rfl|rfl|rfl|rfl|hb
  .omega
  .omega
  .omega
  .omega
  .exact hF1 b hb
theorem skew_make (c:SkewAt w F p cap hs E) (hh:hs<65536):∃pc,w.cell? ⟨p,0,none⟩=some (.pointer (some ⟨pc,0,none⟩)) ∧
  Calls Tryz.prog 318 #[.pointer (some ⟨pc,0,none⟩)] w fun e w'=>∃F',e=.returned (.int .i64 ((hs+1:Nat):Int))∧SkewAt w' F' p cap (hs+1) E∧Moved F w F' w':=by
 obtain ⟨pc,pt,gt,mb,Fc,L,R,U,top,rfl,m,im,t⟩:=c
 refine ⟨pc,m.c0,(cells_make w Fc pc cap hs E m.ce hh).mono ?_⟩
 rintro e w' ⟨Fc',rfl,hc,hm⟩
 obtain ⟨⟨a1,a2,a3,a4⟩,⟨b1,b2,b3⟩,⟨c1,c2⟩,cd⟩:=m.ne
 obtain ⟨l1,l2,l3,l4⟩:=m.lt
 have l5:=im.lt
 have hnew:∀b,b∉Fc->b<w.heap.size->b∉Fc':=fun b h1 h2 e=>by
  rcases hm.from' b e with c|c
  .exact h1 c
  .omega
 have ht:top (hs+1)=none:=by
  cases e:top (hs+1) with
  | none=>rfl
  | some x =>
   obtain ⟨k,hk⟩:=t.mine _ _ e
   have:=m.ce.ok.heap x _ _ hk
   omega
 refine ⟨p::pt::gt::mb::Fc',rfl,⟨pc,pt,gt,mb,Fc',L,R,U,top,rfl,⟨?_,hm.keeps.blk m.blk a4,hc,m.sp.keep hm.keeps b3 c2⟩,?_,t⟩,?_⟩
 .simp only [List.nodup_cons,List.mem_cons,not_or]
  exact ⟨⟨a1,a2,a3,hnew p a4 l1⟩,⟨b1,b2,hnew pt b3 l2⟩,⟨c1,hnew gt c2 l3⟩,hnew mb cd l5,hc.nodup⟩
 .rw [topN_wide top hs ht]
  exact im.keep hm.keeps cd
 .exact hm.part' (G:=[p,pt,gt,mb]) (by
   intro b hb
   simp only [List.mem_cons,List.not_mem_nil,or_false] at hb
   rcases hb with rfl|rfl|rfl|rfl<;>assumption)
end
theorem Tryz.infoPileP:(Tryz.prog.info? 478).map (fun i=>(i.zero,i.size,i.bytes))=some (some (.pointer none),1,8):=by kernel_rfl
section
variable (w:World) (F:List Nat) (p cap hs:Nat) (E:Ent)
def ShedMade (w:World) (F:List Nat) (p cap hs:Nat) (E:Ent) (e:Ending) (w':World):Prop:=∃F',e=.returned (.int .i64 ((hs+1:Nat):Int))∧ShedAt w' F' p cap (hs+1) E∧Moved F w F' w'
theorem shed_make (c:ShedAt w F p cap hs E) (hh:hs<65536):Calls Tryz.prog 437 #[.pointer (some ⟨p,0,none⟩)] w (ShedMade w F p cap hs E):=by
 have hlt:=c.lt
 obtain ⟨pc,gr,rc,ga,Fc,R,f,rfl,m⟩:=c
 have hmk:=cells_make w Fc pc cap hs E m.ce hh
 have d0:=m.c0
 have hno:∀x,¬isIn E (hs+1) x:=fun x ⟨k,e⟩=>by have:=(m.ce.ok.heap x _ k e).2;omega
 obtain ⟨n1,n2,n3,n4,n5,n6⟩:=m.ne
 have hpl:=lt_of_block m.blk
 have hgl:=row_lt m.rows
 have hal:=m.ar.lt
 have hfin:∀(w1 w4:World) (Fc':List Nat) (g' cap':Nat),CellsAt w1 Fc' pc cap (hs+1) E->Moved Fc w Fc' w1 ->
   w4.ownsRow 0 478 1 (.slice (some ⟨g',0,none⟩) (hs+1+1) cap') (hs+1+1) (rowsV (fun i=>(R i).p) (hs+1)++[.pointer (some ⟨w1.heap.size,0,none⟩)])->Keeps [gr] (w1.alloc (.cells #[.pointer (some ⟨p,0,none⟩),.slice none 0 0] 482)) w4->(g'=gr∨w1.heap.size+1<=g') ->
   w4.frozen? ⟨p,1,none⟩=false∧w4.cell? ⟨p,1,none⟩=some (.slice (some ⟨gr,0,none⟩) (hs+1) rc)∧ShedMade w (nestF p gr (ga::Fc) hs fun g=>pf (R g)) p cap hs E (.returned (.int .i64 ((hs+1:Nat):Int))) (w4.setCell ⟨p,1,none⟩ (.slice (some ⟨g',0,none⟩) (hs+1+1) cap')):=by
  intro w1 w4 Fc' g' cap' hc1 hm1 hr4 k4 hg4
  obtain ⟨w2,hw2⟩:∃w2,w2=w1.alloc (.cells #[.pointer (some ⟨p,0,none⟩),.slice none 0 0] 482):=⟨_,rfl⟩
  rw [<-hw2] at k4
  have k2:Keeps [] w1 w2:=by rw [hw2];exact (Keeps.refl _ _).alloc _
  have z2:w2.heap.size=w1.heap.size+1:=by rw [hw2];simp
  have hbq:w2.heap[w1.heap.size]?=some (.cells #[.pointer (some ⟨p,0,none⟩),.slice none 0 0] 482 (0,0)):=by rw [hw2];exact blk_alloc_new _
  have s1:=hm1.keeps.size
  have s2:=k2.size
  have s4:=k4.size
  have hcl:=hc1.lt
  obtain ⟨pr,hpr⟩:∃pr,pr=w1.heap.size:=⟨_,rfl⟩
  rw [<-hpr] at hr4 hbq
  have hnew:∀b,b∉Fc->b<w.heap.size->b∉Fc':=fun b a c e=>by
   rcases hm1.from' b e with q|q
   .exact a q
   .omega
  have k12:Keeps Fc w w2:=hm1.keeps.trans k2 (by simp)
  have b2:=k12.blk m.blk n4
  have b4:=k4.blk b2 (by simpa using n1)
  have hgp:g'≠p∧g'≠ga:=by rcases hg4 with e|e;rw [e];exact ⟨fun e=>n1 e.symm,n3⟩;exact ⟨by omega,by omega⟩
  have k5:Keeps [p] w4 (w4.setCell ⟨p,1,none⟩ (.slice (some ⟨g',0,none⟩) (hs+1+1) cap')):=(Keeps.refl _ _).setCell (.inl (by simp)) _
  have hbp:(w4.setCell ⟨p,1,none⟩ (.slice (some ⟨g',0,none⟩) (hs+1+1) cap')).heap[p]?=some (.cells #[.pointer (some ⟨pc,0,none⟩),.slice (some ⟨g',0,none⟩) (hs+1+1) cap',.slice (some ⟨ga,0,none⟩) cap cap] 238 (0,0)):=by
   rw [blk_setCell _ b4];simp
  have hw4f:=frozen_of_blk b4 (i:=1)
  have hw4c:w4.cell? ⟨p,1,none⟩=some (.slice (some ⟨gr,0,none⟩) (hs+1) rc):=by rw [cell_of_blk b4];rfl
  have k5r:=k5.row hr4 (by simpa using hgp.1)
  have kall:Keeps ([p,gr]++Fc) w (w4.setCell ⟨p,1,none⟩ (.slice (some ⟨g',0,none⟩) (hs+1+1) cap')):=((k12.mono (T:=[p,gr]++Fc) fun b hb=>.inl (by simp [hb])).trans k4 fun b hb=>.inl (by simp at hb;simp [hb])).trans k5 fun b hb=>.inl (by simp at hb;simp [hb])
  have kold:Keeps [p,gr] w2 (w4.setCell ⟨p,1,none⟩ (.slice (some ⟨g',0,none⟩) (hs+1+1) cap')):=(k4.mono (T:=[p,gr]) (by simp)).trans k5 (by simp)
  generalize w4.setCell ⟨p,1,none⟩ (.slice (some ⟨g',0,none⟩) (hs+1+1) cap')=w5 at *
  have hgF:g'∉Fc':=by rcases hg4 with e|e;rw [e];exact hnew gr n5 hgl;exact fun q=>by have:=hcl _ q;omega
  have hce:CellsAt w5 Fc' pc cap (hs+1) E:=(hc1.keep k2 (by simp)).keep kold (by
   intro b hb e
   simp only [List.mem_cons,List.not_mem_nil,or_false] at e
   rcases e with rfl|rfl
   .exact hnew b n4 hpl hb
   .exact hnew b n5 hgl hb)
  have har:Arr w5 3 1 cap ga (numV f):=m.ar.keep kall (by simp only [List.mem_append,List.mem_cons,List.not_mem_nil,or_false];rintro ((e|e)|e);exact n2 e.symm;exact n3 e.symm;exact n6 e)
  have hold:∀g,1<=g->g<=hs->∀b∈pf (R g),b∉[p,gr]++Fc:=fun g a b x hx e=>by
   obtain ⟨q1,q2,q3,q4⟩:=m.own g a b x hx
   simp only [List.mem_append,List.mem_cons,List.not_mem_nil,or_false] at e
   rcases e with (e|e)|e
   .exact q1 e
   .exact q2 e
   .exact q4 e
  have hpf0:∀x,x∈pf (⟨pr,0,none,0,0,fun _=>0⟩:RowR)->x=pr:=fun x hx=>by simpa [pf,pfp] using hx
  have hD:ShedP w5 p pc g' cap' ga Fc' cap (hs+1) E (upd R (hs+1) ⟨pr,0,none,0,0,fun _=>0⟩) f:=by
   refine ⟨hbp,hce,?_,har,⟨fun e=>hgp.1 e.symm,n2,hgp.2,hnew p n4 hpl,hgF,hnew ga n6 hal⟩,?_,?_,?_,?_⟩
   .rw [rowsV_snoc _ _ (by omega),rowsV_congr (r:=fun i=>(R i).p) (r':=fun i=>(upd R (hs+1) ⟨pr,0,none,0,0,fun _=>0⟩ i).p)]
    .simp only [upd_same];exact k5r
    .intro i a b
     simp only [upd_other R _ (show i≠hs+1 by omega)]
   .intro g a b x hx
    by_cases c:g=hs+1
    .subst c
     rw [upd_same] at hx
     have hx:=hpf0 x hx
     have:x∉Fc':=fun e=>by have:=hcl _ e;omega
     refine ⟨by omega,?_,by omega,this⟩
     rcases hg4 with e|e<;>omega
    .rw [upd_other R _ c] at hx
     obtain ⟨q1,q2,q3,q4⟩:=m.own g a (by omega) x hx
     have hxl:=hlt x (nestF_mem.2 (.inr (.inr (.inr ⟨g,a,by omega,hx⟩))))
     refine ⟨q1,?_,q3,hnew x q4 hxl⟩
     rcases hg4 with e|e
     .rw [e];exact q2
     .omega
   .intro g1 g2 a1 a2 b1 b2 hne x hx hx2
    by_cases c1:g1=hs+1
    .subst c1
     rw [upd_same] at hx
     rw [upd_other R _ (fun e=>hne e.symm)] at hx2
     have hxl:=hlt x (nestF_mem.2 (.inr (.inr (.inr ⟨g2,b1,by omega,hx2⟩))))
     have hx:=hpf0 x hx
     omega
    .rw [upd_other R _ c1] at hx
     have hxl:=hlt x (nestF_mem.2 (.inr (.inr (.inr ⟨g1,a1,by omega,hx⟩))))
     by_cases c2:g2=hs+1
     .subst c2
      rw [upd_same] at hx2
      have hx2:=hpf0 x hx2
      omega
     .rw [upd_other R _ c2] at hx2
      exact m.dis g1 g2 a1 (by omega) b1 (by omega) hne x hx hx2
   .intro g a b
    by_cases c:g=hs+1
    .subst c
     rw [upd_same]
     have hpn:pr∉[p,gr]:=by simp;exact ⟨by omega,by omega⟩
     exact ⟨hbp,kold.blk hbq hpn,hce,har,⟨[],rfl,Rg.IR.nil _ _,by simp⟩,⟨by show p≠pr;omega,n2,by show pr≠ga;omega,hnew p n4 hpl,fun (e:pr∈Fc')=>by have:=hcl pr e;omega,hnew ga n6 hal⟩,fun x e=>by (cases e),fun j hj=>by simp at hj,fun j hj=>by simp at hj,fun i j hi=>by simp at hi⟩
    .rw [upd_other R _ c]
     have hm:=m.mem g a (by omega)
     obtain ⟨Lm,l1,l2,l3⟩:=hm.row
     have hno2:=hold g a (by omega)
     have hown:=m.own g a (by omega)
     obtain ⟨q1,q2,q3,q4⟩:=hown (R g).p (by simp [pf,pfp])
     have hql:=hlt (R g).p (nestF_mem.2 (.inr (.inr (.inr ⟨g,a,by omega,by simp [pf,pfp]⟩))))
     refine ⟨hbp,kall.blk hm.bq (hno2 _ (by simp [pf,pfp])),hce,har,⟨Lm,l1,ir_keep l2 kall (fun x e=>hno2 _ (by simp [pf,pfp,e])),l3⟩,⟨hm.ne.1,n2,hm.ne.2.2.1,hnew p n4 hpl,hnew _ q4 hql,hnew ga n6 hal⟩,fun x e=>?_,hm.pos,hm.lt,hm.inj⟩
     obtain ⟨t1,t2,t3,t4⟩:=hm.na x e
     exact ⟨t1,t2,t3,hnew _ t4 (hlt x.block (nestF_mem.2 (.inr (.inr (.inr ⟨g,a,by omega,by simp [pf,pfp,e]⟩)))))⟩
   .intro g a b
    by_cases c:g=hs+1
    .subst c
     rw [upd_same]
     exact ⟨fun i j hi=>by simp at hi,fun x=>⟨fun e=>absurd e (hno x),fun ⟨j,hj,_⟩=>by simp at hj⟩,fun j _ hj=>by simp at hj⟩
    .rw [upd_other R _ c];exact m.ok g a (by omega)
  refine ⟨hw4f,hw4c,_,rfl,⟨pc,g',cap',ga,Fc',_,f,rfl,hD⟩,kall.mono fun b hb=>.inl (nestF_mem.2 ?_),fun b hb=>?_,hD.lt⟩
  .simp only [List.mem_append,List.mem_cons,List.not_mem_nil,or_false] at hb ⊢
   rcases hb with (e|e)|e
   .exact .inl e
   .exact .inr (.inl e)
   .exact .inr (.inr (.inl (.inr e)))
  .rcases nestF_mem.1 hb with e|e|e|⟨i,a1,a2,e⟩
   .exact .inl (nestF_mem.2 (.inl e))
   .rcases hg4 with q|q
    .exact .inl (nestF_mem.2 (.inr (.inl (e.trans q))))
    .exact .inr (by omega)
   .rcases List.mem_cons.1 e with e|e
    .exact .inl (nestF_mem.2 (.inr (.inr (.inl (by simp [e])))))
    .rcases hm1.from' b e with q|q
     .exact .inl (nestF_mem.2 (.inr (.inr (.inl (by simp [q])))))
     .exact .inr q
   .by_cases c:i=hs+1
    .subst c
     rw [upd_same] at e
     have:=hpf0 b e
     exact .inr (by omega)
    .rw [upd_other R _ c] at e
     exact .inl (nestF_mem.2 (.inr (.inr (.inr ⟨i,a1,by omega,e⟩))))
 have hstep:∀(w1:World) (Fc':List Nat) (o:Obj),Moved Fc w Fc' w1->w1.cell? ⟨p,1,none⟩=some (.slice (some ⟨gr,0,none⟩) (hs+1) rc)∧(w1.alloc o).ownsRow 0 478 1 (.slice (some ⟨gr,0,none⟩) (hs+1) rc) (hs+1) (rowsV (fun i=>(R i).p) (hs+1)):=fun w1 Fc' o h1 =>
  ⟨by rw [cell_of_blk (h1.keeps.blk m.blk n4)];rfl,(h1.keeps.alloc o).row m.rows n5⟩
 have hh3:(0:Int)<((hs+1:Nat):Int):=by omega
 have HF:=Lib.hid hfin
 have HS:=Lib.hid hstep
 clear hfin hstep m hlt hno
 go_enter Tryz.func437,Tryz.ntmps437
 go_upto_region 3 with (go_at_call 318;refine hmk.mono ?_;rintro e w1 ⟨Fc',rfl,hc1,hm1⟩)
 obtain ⟨q2,q3⟩:=HS.out w1 Fc' (.cells #[.pointer (some ⟨p,0,none⟩),.slice none 0 0] 482 (0,0)) hm1
 go_wp2_with (first
  | (at_builtin;refine wpList_push _ 478 (.pointer (some ⟨w1.heap.size,0,none⟩)) (0,0) rfl (.tmp 15) (.tmp 19) 236 rfl (.pointer none) 8 Tryz.underlying236 Tryz.infoPileP rfl rfl _ (hs+1) (rowsV (fun i=>(R i).p) (hs+1)) (by simp [Act.eval]) q3 (by simp [Act.eval]) (by unfold maxLen;omega) (by omega) ?_;intro g' cap' w4 hr4 hk4 hf4;obtain ⟨f5,c5,hD5⟩:=HF.out w1 w4 Fc' g' cap' hc1 hm1 hr4 (by simpa [Value.ownBlock] using hk4) (by simpa [Value.ownBlock,eq_comm] using hf4);clear hr4 hk4 hf4))
 go_ret
 exact hD5
def ShedNew (w:World) (n:Nat) (e:Ending) (w':World):Prop :=
 ∃(F:List Nat) (p:Nat),e=.returned (.tuple #[.pointer (some ⟨p,0,none⟩),.int .i64 0])∧ShedAt w' F p n 0 (fun _=>none)∧Keeps [] w w'∧∀b∈F,w.heap.size<=b
theorem shed_new (w:World) (n:Nat) (hn:n<=65536):Calls Tryz.prog 70 #[.int .i64 n] w (ShedNew w n):=by
 obtain ⟨i0,hi,hz0,hz1,hzb⟩:=info_parts Rg.Tryz.infoInt
 go_enter Tryz.func70,Tryz.ntmps70
 go_wp2_with (first
  | (go_at_call 87;refine (cells_new w n hn).mono ?_;rintro e w1 ⟨Fc,pc,rfl,hc1,hk1,hF1⟩)
  | (at_make;refine wpList_make_full _ rfl _ _ 28 rfl 0 3 i0 (.int .i64 0) 1 Tryz.underlying28 hi hz0 hz1 .i64 .i64 n n n rfl rfl rfl rfl (by rw [hzb];omega) (by unfold maxLen;omega) (Nat.zero_le _) ?_;intro w3 hr3 hg3))
 go_ret2
 have hl1:=hc1.lt
 have k1:=hk1.size
 obtain ⟨w2,hw2⟩:∃w2,w2=w1.alloc (.cells #[.pointer none] 478):=⟨_,rfl⟩
 have k2:Keeps [] w1 w2:=by rw [hw2];exact (Keeps.refl _ _).alloc _
 have z2:w2.heap.size=w1.heap.size+1:=by rw [hw2];simp
 have b2:w2.heap[w1.heap.size]?=some (.cells #[.pointer none] 478 (0,0)):=by rw [hw2];exact blk_alloc_new _
 rw [<-hw2] at hr3 hg3
 have k3:Keeps [] w2 w3:=(Keeps.refl _ _).grown hg3 (fun k h=>by cases h)
 have z3:=row_lt hr3
 have ha:Arr w3 3 1 n w2.heap.size (numV fun _=>0):=Arr.made rfl (by decide) hr3
 rw [z2] at z3 ha
 obtain ⟨w5,hw5⟩:∃w5,w5=w3.alloc (.cells #[.pointer (some ⟨pc,0,none⟩),.slice (some ⟨w1.heap.size,0,none⟩) 1 1,.slice (some ⟨w1.heap.size+1,0,none⟩) n n] 238):=⟨_,rfl⟩
 rw [<-hw5]
 have k5:Keeps [] w3 w5:=by rw [hw5];exact (Keeps.refl _ _).alloc _
 have b5:w5.heap[w3.heap.size]?=some (.cells #[.pointer (some ⟨pc,0,none⟩),.slice (some ⟨w1.heap.size,0,none⟩) 1 1,.slice (some ⟨w1.heap.size+1,0,none⟩) n n] 238 (0,0)):=by rw [hw5];exact blk_alloc_new _
 have k15:Keeps [] w1 w5:=(k2.trans k3 (by simp)).trans k5 (by simp)
 refine ⟨nestF w3.heap.size w1.heap.size ((w1.heap.size+1)::Fc) 0 (fun _=>[]),w3.heap.size,rfl,⟨pc,w1.heap.size,1,w1.heap.size+1,Fc,fun _=>⟨0,0,none,0,0,fun _=>0⟩,fun _=>0,by simp [nestF],⟨b5,hc1.keep k15 (by simp),?_,ha.keep k5 (by simp),?_,fun g a b=>by omega,fun g g' a b=>by omega,fun g a b=>by omega,fun g a b=>by omega⟩⟩,hk1.trans k15 (by simp),?_⟩
 .refine ⟨by simp [rowsV],.inr ⟨w1.heap.size,1,#[.pointer none],rfl,Nat.zero_le _,?_,by simp,by decide,by simp,by simp [rowsV]⟩⟩
  exact (k3.trans k5 (by simp)).blk b2 (by simp)
 .exact ⟨by omega,by omega,by omega,fun e=>by have:=hl1 _ e;omega,fun e=>by have:=hl1 _ e;omega,fun e=>by have:=hl1 _ e;omega⟩
 .intro b hb
  rcases nestF_mem.1 hb with rfl|rfl|e|⟨i,a,b,_⟩
  .have:=k15.size;omega
  .omega
  .rcases List.mem_cons.1 e with rfl|e
   .omega
   .exact hF1 b e
  .omega
end
end Go.Proofs.YtkdbjelhkfdfjaaGreatDoor

