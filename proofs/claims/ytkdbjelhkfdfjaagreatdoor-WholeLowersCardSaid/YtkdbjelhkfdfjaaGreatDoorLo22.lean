/-
  Contracts that the law rests on. Conditions: none.
-/
import Derived.Test.YtkdbjelhkfdfjaaGreatDoorLo19
import Derived.Test.YtkdbjelhkfdfjaaGreatDoorLo20
import Derived.Test.YtkdbjelhkfdfjaaGreatDoorLo21
set_option linter.unusedVariables false
set_option maxRecDepth 100000
set_option maxHeartbeats 32000000
namespace Go.Proofs.YtkdbjelhkfdfjaaGreatDoor
open Go.RowKit
theorem made_fCells (zs:Array Value) (s n:Nat) (hs:zs.size=s) (h0:0<s):(madeCells zs (n*s)).toList=fCells (fun _=>zs.toList) n:=by
 induction n with
 | zero=>simp [madeCells,fCells]
 | succ n ih =>
  rw [fCells_succ,<-ih]
  simp only [madeCells,Array.toList_map,Array.toList_range]
  rw [show (n+1)*s=n*s+s by rw [Nat.succ_mul],List.range_add,List.map_append]
  congr 1
  apply List.ext_getElem (by simp [hs])
  intro j h1 h2
  simp at h1
  have hm:(n*s+j) % s=j:=by rw [Nat.mul_comm,Nat.mul_add_mod];exact Nat.mod_eq_of_lt h1
  simp [hs,hm,h1]
theorem Arr.made {w:World} {T s n g:Nat} {zs:Array Value} (hs:zs.size=s) (h0:0<s) (h:w.ownsRow 0 T s (.slice (some ⟨g,0,none⟩) n n) n (madeCells zs (n*s)).toList):Arr w T s n g (fun _=>zs.toList) :=
 ⟨by rw [<-made_fCells zs s n hs h0];exact h,fun _ _=>by simpa using hs⟩
theorem Tryz.infoCell:(Tryz.prog.info? 448).map (fun i=>(i.zero,i.size,i.bytes))=some (some (.agg #[.int .i64 0,.int .i64 0,.int .u64 0]),3,24):=by kernel_rfl
def NewCells (w:World) (n:Nat) (e:Ending) (w':World):Prop :=
 ∃(F:List Nat) (p:Nat),e=.returned (.tuple #[.pointer (some ⟨p,0,none⟩),.int .i64 0])∧CellsAt w' F p n 0 (fun _=>none)∧Keeps [] w w'∧∀b∈F,w.heap.size<=b
theorem cells_new (w:World) (n:Nat) (hn:n<=65536):Calls Tryz.prog 87 #[.int .i64 n] w (NewCells w n):=by
 have b1:decide ((n:Int)<0)=false:=by rw [decide_eq_false_iff_not];omega
 have b2:decide (65536<(n:Int))=false:=by rw [decide_eq_false_iff_not];omega
 have hmm:=@run_makeMap Tryz.prog
 obtain ⟨i0,hi,hz0,hz1,hzb⟩:=info_parts Tryz.infoCell
 go_enter Tryz.func87,Tryz.ntmps87
 go_upto_region 4 with (go_at_call 117;refine (Nm.new_yes _ 65536 (by omega) (by omega)).mono ?_;rintro e w1 ⟨rfl,hn1,hk1,hs1⟩)
 go_wp2_with (at_make;refine wpList_make_full _ rfl _ _ 254 rfl 0 448 i0 (.agg #[.int .i64 0,.int .i64 0,.int .u64 0]) 3 Tryz.underlying254 hi hz0 hz1 .i64 .i64 n n n rfl rfl rfl rfl (by rw [hzb];omega) (by unfold maxLen;omega) (Nat.zero_le _) ?_;intro w2 hr2 hg2)
 have hk2:Keeps [] w1 w2:=(Keeps.refl _ _).grown hg2 (fun k h=>by cases h)
 have hs2:=hk2.size
 have hg1:w1.heap.size<w2.heap.size:=row_lt hr2
 have ha:Arr w2 448 3 n w1.heap.size (cellV fun _=>none):=Arr.made rfl (by decide) hr2
 have hm:IMap Tryz.prog 3 (w2.alloc (.map #[] 0)) w2.heap.size (full (fun _=>none) n 0) (manyF (fun _=>none) n):=by
  rw [full_none,manyF_none];exact IMap.made _ _ _
 have hk3:Keeps [] w2 (w2.alloc (.map #[] 0)):=(Keeps.refl _ _).alloc _
 have hk4:∀o,Keeps [] w2 ((w2.alloc (.map #[] 0)).alloc o):=fun o=>hk3.alloc _
 refine bodyPost_ret (results_tmp2 rfl _ _ _) rfl ⟨[w2.heap.size+1,w1.heap.size,w.heap.size+1,w.heap.size,w2.heap.size],w2.heap.size+1,rfl,⟨0,w1.heap.size,w.heap.size+1,w.heap.size,1,w2.heap.size,rfl,?_,⟨by omega,by omega,by simp,by simp,by simp⟩,by omega,by omega,?_,ha.keep (hk4 _) (by simp),(hn1.keep hk2 (by simp) (by simp)).keep (hk4 _) (by simp) (by simp),hm.keep ((Keeps.refl [] _).alloc _) (by simp)⟩,?_,?_⟩
 .simp;omega
 .have:=blk_alloc_new (w:=w2.alloc (.map #[] 0)) (.cells #[.int .i64 0,.slice (some ⟨w.heap.size+2,0,none⟩) n n,.pointer (some ⟨w.heap.size+1,0,none⟩),.map (some w2.heap.size)] 258 (0,0))
  rw [hs1]
  simpa using this
 .exact (hk1.trans hk2 (by simp)).trans (hk4 _) (by simp)
 .intro b hb
  simp only [List.mem_cons,List.not_mem_nil,or_false] at hb
  omega
section
variable (w:World) (F:List Nat) (p cap hs:Nat) (E:Ent)
theorem idL_snoc (hs:Nat):idL (hs+1)=idL hs++[((idL hs).length:Int)]:=by
 rw [idL_len]
 unfold idL
 rw [List.range_succ (n:=hs+1),List.map_append]
 simp
def MadeCells (e:Ending) (w':World):Prop:=∃F',e=.returned (.int .i64 ((hs+1:Nat):Int))∧CellsAt w' F' p cap (hs+1) E∧Moved F w F' w'
theorem cells_make (hc:CellsAt w F p cap hs E) (hh:hs<65536):Calls Tryz.prog 318 #[.pointer (some ⟨p,0,none⟩)] w (MadeCells w F p cap hs E):=by
 have hlt:=hc.lt
 obtain ⟨steps,gs,pn,gn,cn,mb,rfl,hnd,hok,hs0,hs1,hb,ha,hn,hm⟩:=hc
 have c2:w.cell? ⟨p,2,none⟩=some (.pointer (some ⟨pn,0,none⟩)):=by rw [cell_of_blk hb];rfl
 have hl:=idL_len hs
 have hmk:=Nm.make_yes w pn gn cn (idL hs) 65536 hs hn (by omega) (by omega) (by omega) (by omega) (by omega)
 unfold Nm.MadeOne at hmk
 rw [<-idL_snoc,hl] at hmk
 have hc0:count E cap (hs+1)=0:=count_zero.2 fun x _ ⟨k,e⟩=>by have:=hok.heap x _ k e;omega
 have hfin:∀w',(∃g' cap',Nm.NamesAt w' pn g' cap' (idL (hs+1)) 65536 ((hs:Int)+1)∧Keeps [pn,gn] w w'∧(g'=gn∨w.heap.size<=g'))->MadeCells w [p,gs,pn,gn,mb] p cap hs E (.returned (.int .i64 ((hs+1:Nat):Int))) w':=by
  rintro w' ⟨g',cap',n',k',f'⟩
  have hnd0:=hnd
  simp only [List.nodup_cons,List.mem_cons,List.not_mem_nil,or_false,not_or,List.nodup_nil,and_true,not_false_eq_true] at hnd0
  obtain ⟨⟨n1,n2,n3,n4⟩,⟨n5,n6,n7⟩,⟨n8,n9⟩,n10⟩:=hnd0
  have l1:=hlt p (by simp)
  have l2:=hlt gs (by simp)
  have l3:=hlt pn (by simp)
  have l4:=hlt mb (by simp)
  have hg1:p≠g'∧gs≠g'∧g'≠mb:=by rcases f' with rfl|f'<;>refine ⟨?_,?_,?_⟩<;>first|assumption|omega
  have hg2:pn≠g':=by rcases f' with rfl|f';exact n8;omega
  refine ⟨[p,gs,pn,g',mb],rfl,⟨steps,gs,pn,g',cap',mb,rfl,?_,⟨hok.bc,by omega,hok.lt,fun x h k e=>by have:=hok.heap x h k e;omega,hok.wf⟩,hs0,hs1,k'.blk hb (by simp;exact ⟨n2,n3⟩),ha.keep k' (by simp;exact ⟨n5,n6⟩),n',?_⟩,k'.mono (by simp),?_,?_⟩
  .simp;exact ⟨⟨n1,n2,hg1.1,n4⟩,⟨n5,hg1.2.1,n7⟩,⟨hg2,n9⟩,hg1.2.2⟩
  .have hfu:full E cap (hs+1)=full E cap hs:=by rw [manyF_make,hc0];simp
   rw [hfu]
   exact hm.keep k' (by simp;exact ⟨fun e=>n9 e.symm,fun e=>n10 e.symm⟩)
  .intro b hb
   simp only [List.mem_cons,List.not_mem_nil,or_false] at hb ⊢
   rcases hb with rfl|rfl|rfl|rfl|rfl
   .simp
   .simp
   .simp
   .rcases f' with rfl|f'
    .simp
    .exact .inr f'
   .simp
  .intro b hb
   have:=k'.size
   simp only [List.mem_cons,List.not_mem_nil,or_false] at hb
   rcases hb with rfl|rfl|rfl|rfl|rfl
   .omega
   .omega
   .omega
   .exact row_lt n'.row
   .omega
 have HF:=Lib.hid hfin
 clear hfin hb ha hn hm hok hnd hc0 hl hlt hs0 hs1
 go_enter Tryz.func318,Tryz.ntmps318
 go_wp2_with (go_at_call 328;refine hmk.mono ?_;rintro e w1 ⟨rfl,hm1⟩)
 go_ret
 exact HF.out _ hm1
end
theorem Tryz.infoNode:(Tryz.prog.info? 265).map (fun i=>(i.zero,i.size,i.bytes))=some (some (.agg #[.slice none 0 0,.int .i64 0]),2,32):=by kernel_rfl
def laidN (i j:Nat):List Value:=if j<i then [.slice none 0 0,.int .i64 (-1)] else [.slice none 0 0,.int .i64 0]
theorem laidN_upd (i:Nat):upd (laidN i) i ((laidN i i).set 1 (.int .i64 (-1)))=laidN (i+1):=by
 funext j
 by_cases e:j=i
 .subst e;rw [upd_same];simp [laidN]
 .rw [upd_other _ _ e]
  unfold laidN
  by_cases c:j<i
  .rw [if_pos c,if_pos (by omega)]
  .rw [if_neg c,if_neg (by omega)]
def ForestNew (w:World) (n:Nat) (e:Ending) (w':World):Prop :=
 ∃p g,e=.returned (.tuple #[.pointer (some ⟨p,0,none⟩),.int .i64 0])∧ForestAt w' p g n (fun _=>⟨none,0,[]⟩) (fun _=>none)∧Keeps [] w w'∧w.heap.size<=p∧w.heap.size<=g
theorem fo_new (w:World) (n:Nat) (hn:n<=65536):Calls Tryz.prog 89 #[.int .i64 n] w (ForestNew w n):=by
 have b1:decide ((n:Int)<0)=false:=by rw [decide_eq_false_iff_not];omega
 have b2:decide (65536<(n:Int))=false:=by rw [decide_eq_false_iff_not];omega
 obtain ⟨i0,hi,hz0,hz1,hzb⟩:=info_parts Tryz.infoNode
 go_enter Tryz.func89,Tryz.ntmps89
 go_upto_region 4 with (at_make;refine wpList_make_full _ rfl _ _ 261 rfl 0 265 i0 (.agg #[.slice none 0 0,.int .i64 0]) 2 Tryz.underlying261 hi hz0 hz1 .i64 .i64 n n n rfl rfl rfl rfl (by rw [hzb];omega) (by unfold maxLen;omega) (Nat.zero_le _) ?_;intro w2 hr2 hg2)
 have hk2:Keeps [] w w2:=(Keeps.refl _ _).grown hg2 (fun k h=>by cases h)
 have hg1:w.heap.size<w2.heap.size:=row_lt hr2
 have ha:Arr w2 265 2 n w.heap.size (laidN 0):=(Arr.made rfl (by decide) hr2).congr (fun i _=>by simp [laidN];rfl)
 have hblk:(w2.alloc (.cells #[.slice (some ⟨w.heap.size,0,none⟩) n n] 263 (0,0))).heap[w2.heap.size]?=some (.cells #[.slice (some ⟨w.heap.size,0,none⟩) n n] 263 (0,0)):=blk_alloc_new _
 have hk3:Keeps [] w (w2.alloc (.cells #[.slice (some ⟨w.heap.size,0,none⟩) n n] 263 (0,0))):=hk2.alloc _
 have ha3:=ha.alloc (.cells #[.slice (some ⟨w.heap.size,0,none⟩) n n] 263 (0,0))
 have hp:=hk2.size
 obtain ⟨g,hgd⟩:∃g,w.heap.size=g:=⟨_,rfl⟩
 obtain ⟨p,hpd⟩:∃p,w2.heap.size=p:=⟨_,rfl⟩
 rw [hgd,hpd] at hblk
 rw [hgd] at ha3 hk3
 rw [hgd,hpd]
 generalize w2.alloc (.cells #[.slice (some ⟨g,0,none⟩) n n] 263 (0,0))=w3 at *
 have e0:w3.cell? ⟨p,0,none⟩=some (.slice (some ⟨g,0,none⟩) n n):=by rw [cell_of_blk hblk];rfl
 have hgp:g<p:=by omega
 have hgB:w.heap.size<=g:=by omega
 have hpB:w.heap.size<=p:=by omega
 clear ha hr2 hg2 hk2 hgd hpd hg1 hp
 go_wp2_with fail
 go_loopg [21] (n+1) (fun m s wr=>∃i:Nat,m+i=n+1∧i<=n∧s=.int .i64 i∧Arr wr 265 2 n g (laidN i)∧wr.heap[p]?=some (.cells #[.slice (some ⟨g,0,none⟩) n n] 263 (0,0))∧Keeps [] w wr)
 case atStart=>exact ⟨0,by omega,by omega,rfl,ha3,hblk,hk3⟩
 case round =>
  clear ha3 hblk hk3 e0
  obtain ⟨i,hk,hin,rfl,ha,hb,kp⟩:=hrel
  have HK:=Lib.hid hk
  clear hk
  have e0:wr.cell? ⟨p,0,none⟩=some (.slice (some ⟨g,0,none⟩) n n):=by rw [cell_of_blk hb];rfl
  by_cases hlt:i<n
  .have hlt3:(i:Int)<(n:Int):=by omega
   have f1:=ha.frozen (i*2+1)
   have d1:=ha.cell hlt (j:=1) (by omega)
   simp only [laidN,Nat.lt_irrefl,if_false,List.getElem?_cons_zero,List.getElem?_cons_succ] at d1
   have h3:=ha.set hlt (j:=1) (by decide) (.int .i64 (-1))
   rw [laidN_upd] at h3
   have k3:Keeps [] w (wr.setCell ⟨g,i*2+1,none⟩ (.int .i64 (-1))):=kp.setCell (.inr hgB) _
   have hb3:(wr.setCell ⟨g,i*2+1,none⟩ (.int .i64 (-1))).heap[p]?=some (.cells #[.slice (some ⟨g,0,none⟩) n n] 263 (0,0)):=by
    rw [blk_setCell_ne _ (by simp;omega)];exact hb
   clear ha hb kp
   go_wp2_with fail
   go_roundg (gk - 1)
   case measure=>have:=HK.out;omega
   case rel=>exact ⟨i+1,by have:=HK.out;omega,by omega,by go_num,h3,hb3,k3⟩
  .obtain rfl:i=n:=by omega
   go_wp2_with fail
   go_ret2
   refine ⟨p,g,rfl,⟨hb,ha.congr (fun j hj=>by simp [laidN,twigV,oZ,hj]),fun x hx=>Rg.IR.nil _ _,by omega,fun x hx a e=>(by cases e),fun x y _ _ _ a b e=>(by cases e),hn,fun x hx=>⟨by simp,by simp,by simp⟩⟩,kp,hpB,hgB⟩
section
variable {w:World} {p pc pr gn gp gt gT cT:Nat} {Fc:List Nat} {cap hs h x:Nat} {E:Ent} {wl:List (List Nat)} {U kid:Nat->Option Nat} {deg:Nat->Nat} {mk:Nat->Bool} {top:Nat->Option Nat} {D:Nat->Prop}
theorem FibQ.ringOf (q:FibQ w p pc pr gn gp gt gT cT Fc cap hs E wl U kid deg mk top) (hx:x<cap):∃r,Rg.allZ wl x=x::r∧(x::r).Nodup∧(∀y∈x::r,y<cap)∧(x::r).length<=65536:=by
 obtain ⟨N,P,hr⟩:=q.rg.rings
 obtain ⟨lx,rx,hlx,hxl,hax,hpx,hndx,hmx,hbx⟩:=hr.home hx
 have hb:∀y∈x::rx,y<cap:=fun y hy=>by
  rcases List.mem_cons.1 hy with rfl|hy
  .exact hx
  .exact hbx y hy
 exact ⟨rx,hax,hndx,hb,Nat.le_trans (nodup_len hndx hb) q.cp⟩
end
section
variable (w:World) (F:List Nat) (p cap hs:Nat) (E:Ent)
def FibExt (h:Nat) (e:Ending) (w':World):Prop :=
 ∃x:Nat,e=.returned (.tuple #[.int .i64 x,.bool true])∧least E h x∧FibAt w' F p cap hs (put E x none)∧Keeps F w w'
theorem fib_extract (c:FibAt w F p cap hs E) (h:Nat) (h1:1<=h) (h2:h<=hs) (hi:∃y,isIn E h y) :
  Calls Tryz.prog 383 #[.pointer (some ⟨p,0,none⟩),.int .i64 h] w (FibExt w F p cap hs E h):=by
 have hmin:=fib_min_yes w F p cap hs E c h h1 h2 hi
 obtain ⟨pc,pr,gn,gp,gt,gT,cT,Fc,wl,U,kid,deg,mk,top,rfl,q,o⟩:=c
 have hbh:=q.ce.ok.bh
 obtain ⟨x,htop⟩:∃x,top h=some x:=by
  cases e:top h with
  | none=>obtain ⟨y,hy⟩:=hi;exact absurd hy (FibM.none_of o e y)
  | some x=>exact ⟨x,rfl⟩
 have hlx:least E h x:=FibM.first o htop
 have m:=FibM.any o h
 have hraise:=fib_raise w p pc pr gn gp gt gT cT Fc cap hs E wl U kid deg mk top q h x m htop
 have hxc:x<cap:=q.ce.ok.lt x hlx.1.some
 have hF:=q.lt
 have hcp:=q.cp
 have HX:=Lib.hid hlx
 have HT:=Lib.hid htop
 have HFF:=Lib.hid hF
 clear q o m hi hlx htop hF
 go_enter Tryz.func383,Tryz.ntmps383
 go_upto_region 5 with (first
  | (go_at_call 387;refine hmin.mono ?_;rintro e w' ⟨⟨x',rfl,hl'⟩,rfl⟩;have hxx:=hl'.one HX.out;subst hxx;clear hl')
  | (go_at_call 389;refine hraise.mono ?_;rintro e w1 ⟨rfl,wl1,U1,kid1,deg1,mk1,q1,m1,_,hk1,k1⟩))
 clear hmin hraise
 obtain ⟨r,hax,hnd,hbr,hrl⟩:=q1.ringOf hxc
 have hall:=rg_all q1.rg hcp hxc
 rw [hax] at hall
 have hmem:∀z,z∈x'::r↔rootOf E U1 h z:=fun z=>by
  rw [<-hax]
  have:=m1.ringTop HT.out z
  simp only [and_true] at this
  exact this
 have c1:=q1.c1
 have Q1:=Lib.hid q1
 have M1:=Lib.hid m1
 have K1:=Lib.hid k1
 have HM:=Lib.hid hmem
 have HB:=Lib.hid hbr
 have HND:=Lib.hid hnd
 have HK1:=Lib.hid hk1
 have HAX:=Lib.hid hax
 have hsz:=k1.size
 clear q1 m1 k1 hmem hbr hnd hax hk1
 simp only [List.length_cons] at hrl
 have hge:(1:Int)<=(r.length:Int)+1:=by omega
 go_cut [8] (fun v wx=>∃(ao:Option Addr) (ca:Nat),v=.slice ao r.length ca∧Win w.heap.size wx v r∧FibQ wx p pc pr gn gp gt gT cT Fc cap hs E wl1 U1 kid1 deg1 mk1 top∧Keeps (p::pr::gn::gp::gt::gT::Fc) w wx)
 case first =>
  go_wp2_with (go_at_call 391;(refine hall.mono ?_;rintro e w2 ⟨v,rfl,hir,hb2⟩;obtain ⟨ao,ca,rfl⟩:=hir.form;obtain ⟨g,rfl,hg1,hg2,_⟩:=hir.at 0 (Nat.succ_pos _);have IR:=Lib.hid hir;have B2:=Lib.hid hb2;clear hir hb2;simp only [List.length_cons]))
  all_goals
   go_meet
   case rel =>
    have hw:=Win.of (IR.out.lo hsz)
    simp only [List.length_cons] at hw
    have k2:=Below.keeps B2.out (Nat.le_refl _) []
    refine ⟨_,_,rfl,?_,Q1.out.same k2,K1.out.trans k2 (by simp)⟩
    first
     | exact win_tail2 _ hw
     | exact win_tail1 (by assumption) _ hw
 case rest =>
  clear hall c1
  obtain ⟨ao,ca,rfl,hw,q,kp⟩:=hcut
  have hall:=rg_all q.rg hcp hxc
  rw [HAX.out] at hall
  have c1:=q.c1
  have HW:=Lib.hid hw
  have Q:=Lib.hid q
  have KP:=Lib.hid kp
  have hszc:=kp.size
  clear hw q kp
  go_upto_block 0 with (go_at_call 391;(refine hall.mono ?_;rintro e w2 ⟨v,rfl,hir,hb2⟩;obtain ⟨bo,cb,rfl⟩:=hir.form;have IR:=Lib.hid hir;have B2:=Lib.hid hb2;clear hir hb2;simp only [List.length_cons]))
  go_cut [38] (fun _ wx=>∃wl2,FibQ wx p pc pr gn gp gt gT cT Fc cap hs E wl2 U1 kid1 deg1 mk1 top∧Parted cap (Rl wl1) (Rl wl2) (x'::r)∧Win w.heap.size wx (.slice ao r.length ca) r∧Keeps (p::pr::gn::gp::gt::gT::Fc) w wx)
  case first =>
   go_wp2_with fail
   go_loopg [38] (r.length+2) (fun n s wr=>∃(i:Nat) (wlj:List (List Nat)),n+i=r.length+2∧i<=r.length+1∧s=.int .i64 i∧FibQ wr p pc pr gn gp gt gT cT Fc cap hs E wlj U1 kid1 deg1 mk1 top∧Parted cap (Rl wl1) (Rl wlj) ((x'::r).take i) ∧
    Rg.IR wc.heap.size wr (.slice bo (r.length+1) cb) (x'::r)∧Win w.heap.size wr (.slice ao r.length ca) r∧Keeps (p::pr::gn::gp::gt::gT::Fc) w wr)
   case atStart =>
    have k2:=Below.keeps B2.out (Nat.le_refl _) []
    exact ⟨0,wl1,by omega,by omega,rfl,Q.out.same k2,Parted.nil _ _,IR.out,HW.out.keep' k2 (by simp),KP.out.trans k2 (by simp)⟩
   case round =>
    clear hall c1 IR B2
    obtain ⟨i,wlj,hk,hin,rfl,q,hpt,hir,hw,kp⟩:=hrel
    have HK:=Lib.hid hk
    clear hk
    by_cases hi:i<r.length+1
    .obtain ⟨y,hy⟩:∃y,(x'::r)[i]?=some y:=⟨_,List.getElem?_eq_getElem (by simpa using hi)⟩
     have hyc:=HB.out y (List.mem_of_getElem? hy)
     obtain ⟨gg,e,_,hgw,d0⟩:=hir.at i (by simpa using hi)
     subst e
     have hyf:Rg.fn (x'::r) i=y:=by simp [Rg.fn,List.getD,hy]
     rw [hyf] at d0
     have c1:=q.c1
     have hpart:=rg_part q.rg hcp hyc
     have hi3:(i:Int)<((r.length+1:Nat):Int):=by omega
     have hi4:(i:Int)<(r.length:Int)+1:=by omega
     have hfin:∀w3,RgAt w3 pr gn gp cap (Rg.partZ wlj y).1->Keeps [gn,gp] wr w3->FibQ w3 p pc pr gn gp gt gT cT Fc cap hs E (Rg.partZ wlj y).1 U1 kid1 deg1 mk1 top∧Parted cap (Rl wl1) (Rl (Rg.partZ wlj y).1) ((x'::r).take (i+1)) ∧
       Rg.IR wc.heap.size w3 (.slice (some ⟨gg,0,none⟩) (r.length+1) cb) (x'::r)∧Win w.heap.size w3 (.slice ao r.length ca) r∧Keeps (p::pr::gn::gp::gt::gT::Fc) w w3:=fun w3 hr3 k3=>by
      have hgn:=HFF.out gn (by simp)
      have hgp:=HFF.out gp (by simp)
      have ht1:(x'::r).take (i+1)=(x'::r).take i++[y]:=by rw [List.take_add_one,hy];rfl
      obtain ⟨N,P,hr⟩:=q.rg.rings
      refine ⟨q.ring hr3 k3,?_,ir_keep' hir k3 (fun b eb=>?_),hw.keep' k3 (fun b eb=>?_),kp.trans k3 (fun b hb=>.inl (by simp only [List.mem_cons,List.not_mem_nil,or_false] at hb ⊢;rcases hb with c|c<;>simp [c]))⟩
      .rw [ht1]
       exact hpt.more fun a b ha=>rl_part hr hyc ha
      .have:=(hir.own b eb).1
       simp only [List.mem_cons,List.not_mem_nil,or_false]
       omega
      .have:=(hw.block b eb).1
       simp only [List.mem_cons,List.not_mem_nil,or_false]
       omega
     have HF:=Lib.hid hfin
     clear hfin q hpt hir hw kp hyf hy
     go_wp2_with (go_at_call 390;refine hpart.mono ?_;rintro e w3 ⟨rfl,hr3,k3⟩;have H3:=Lib.hid (HF.out w3 hr3 k3);clear hr3 k3)
     go_roundg (gk - 1)
     case measure=>have:=HK.out;omega
     case rel =>
      obtain ⟨a1,a2,a3,a4,a5⟩:=H3.out
      exact ⟨i+1,_,by have:=HK.out;omega,by omega,by go_num,a1,a2,a3,a4,a5⟩
    .obtain rfl:i=r.length+1:=by omega
     have ht:(x'::r).take (r.length+1)=x'::r:=by simp
     rw [ht] at hpt
     have Q2:=Lib.hid q
     have P2:=Lib.hid hpt
     have W2:=Lib.hid hw
     have K2:=Lib.hid kp
     clear q hpt hw kp hir ht
     go_wp2_with fail
     go_meet
     case rel=>exact ⟨wlj,Q2.out,P2.out,W2.out,K2.out⟩
  case rest =>
   clear hall c1 HW Q KP
   obtain ⟨wl2,q,hpt,hw,kp⟩:=hcut
   clear B2 IR
   have c3:=q.c3
   have f0:=q.tr.frozen h
   have hh3:(h:Int)<((hs+1:Nat):Int):=by omega
   have hh4:(h:Int)<(hs:Int)+1:=by omega
   have d0:=q.tr.at (i:=h) (by omega)
   obtain ⟨w4,hw4⟩:∃w4,w4=wc.setCell ⟨gT,h,none⟩ (.int .i64 (-1)):=⟨_,rfl⟩
   have k4:Keeps [gT] wc w4:=by rw [hw4];exact (Keeps.refl _ _).setCell (.inl (by simp)) _
   have q4:FibQ w4 p pc pr gn gp gt gT cT Fc cap hs E wl2 U1 kid1 deg1 mk1 (upd top h none):=by rw [hw4];exact q.setTop h1 h2 none
   have hgT:=HFF.out gT (by simp)
   have hw2:Win w.heap.size w4 (.slice ao r.length ca) r:=hw.keep' k4 (fun b eb=>by have:=(hw.block b eb).1;simp only [List.mem_singleton];omega)
   have kp4:Keeps (p::pr::gn::gp::gt::gT::Fc) w w4:=kp.trans k4 (fun b hb=>.inl (by simp only [List.mem_singleton] at hb;simp [hb]))
   have mp:=M1.out.parted HM.out hpt
   have hty:=Tidy.start mp HM.out HND.out HK1.out
   have hw0:Win 0 w4 (.slice ao r.length ca) r:=by
    rcases hw2 with e|⟨g,off,cap',cur,e,_,rest⟩
    .exact .inl e
    .exact .inr ⟨g,off,cap',cur,e,Nat.zero_le _,rest⟩
   have htd:=fib_tidy w4 p pc pr gn gp gt gT cT Fc cap hs E wl2 U1 kid1 deg1 mk1 (upd top h none) q4 h x' r ao ca hw0 (fun b eb f=>by
    have h5:=(hw2.block b eb).1
    have h6:=HFF.out b f
    omega) hty (by omega)
   have KP4:=Lib.hid kp4
   have hsz4:=kp4.size
   clear q hw kp q4 k4 hw2 hw0 kp4 mp hty hpt
   go_upto_region 12 with fail
   rw [<-hw4]
   clear hw4 c3 f0 d0
   go_wp2_with (go_at_call 392;(refine htd.mono ?_;rintro e w5 ⟨v,rfl,wl5,U5,kid5,deg5,mk5,tab,q5,t5,ta5,hl5,k5⟩;obtain ⟨ta,tca,rfl⟩:=ta5.form;have B5:=Lib.hid t5.back;have Q5:=Lib.hid q5;have TA5:=Lib.hid ta5;have K5:=Lib.hid k5;clear q5 t5 ta5 k5))
   go_loopg [59] (tab.length+1) (fun n s wr=>∃(i:Nat) (wl6:List (List Nat)) (top6:Nat->Option Nat),n+i=tab.length+1∧i<=tab.length∧s=.int .i64 i∧FibQ wr p pc pr gn gp gt gT cT Fc cap hs E wl6 U5 kid5 deg5 mk5 top6∧Back E cap (Rl wl6) U5 kid5 deg5 top6 h x' tab i ∧
    TabAt w4.heap.size wr (.slice ta tab.length tca) tab∧Keeps (p::pr::gn::gp::gt::gT::Fc) w wr)
   case atStart=>exact ⟨0,wl5,_,by omega,by omega,rfl,Q5.out,B5.out,TA5.out,KP4.out.trans K5.out (fun b hb=>.inl hb)⟩
   case round =>
    clear Q5 B5 TA5 K5 htd
    obtain ⟨i,wl6,top6,hk,hin,rfl,q,b,ta6,kp⟩:=hrel
    have HK:=Lib.hid hk
    clear hk
    by_cases hi:i<tab.length
    .obtain ⟨o,ho⟩:∃o,tab[i]?=some o:=⟨_,List.getElem?_eq_getElem hi⟩
     obtain ⟨g6,c6,e6,hg6,d6,_⟩:=ta6.at ho
     cases e6
     have hi3:(i:Int)<(tab.length:Int):=by omega
     cases o with
     | none =>
      simp only [oZ_none] at d6
      have bs:=b.skip ho
      have B6:=Lib.hid bs
      have Q6:=Lib.hid q
      have T6:=Lib.hid ta6
      have K6:=Lib.hid kp
      clear bs b q ta6 kp ho
      go_wp2_with fail
      go_roundg (gk - 1)
      case measure=>have:=HK.out;omega
      case rel=>exact ⟨i+1,wl6,top6,by have:=HK.out;omega,by omega,by go_num,Q6.out,B6.out,T6.out,K6.out⟩
     | some y =>
      simp only [oZ_some] at d6
      have hy1:((y:Int) != -1)=true:=by rw [bne_iff_ne];omega
      obtain ⟨l1,l2⟩:=b.loose ho
      have hroot:=fib_root wr p pc pr gn gp gt gT cT Fc cap hs E wl6 U5 kid5 deg5 mk5 top6 q h y _ h1 h2 b.m l1 l2
      have hfin:∀w7,RootDone wr p pc pr gn gp gt gT cT Fc cap hs E U5 kid5 deg5 mk5 h y (fun z=>∃d,d<i∧tab[d]?=some (some z)) w7->∃(wl7:List (List Nat)) (top7:Nat->Option Nat),FibQ w7 p pc pr gn gp gt gT cT Fc cap hs E wl7 U5 kid5 deg5 mk5 top7∧Back E cap (Rl wl7) U5 kid5 deg5 top7 h x' tab (i+1) ∧
        TabAt w4.heap.size w7 (.slice (some ⟨g6,0,none⟩) tab.length tca) tab∧Keeps (p::pr::gn::gp::gt::gT::Fc) w w7:=by
       rintro w7 ⟨wl7,top7,q7,m7,k7⟩
       refine ⟨wl7,top7,q7,b.more ho m7,ta6.keep k7 (fun b' eb f=>?_),kp.trans k7 (fun b' hb=>.inl hb)⟩
       have h5:=(ta6.own b' eb).1
       have h6:=HFF.out b' f
       omega
      have HF:=Lib.hid hfin
      clear hfin b q ta6 kp ho l1 l2
      go_wp2_with (go_at_call 393;(refine hroot.mono ?_;rintro e w7 ⟨rfl,hd7⟩;have H7:=Lib.hid (HF.out w7 hd7);clear hd7))
      go_roundg (gk - 1)
      case measure=>have:=HK.out;omega
      case rel =>
       obtain ⟨wl7,top7,a1,a2,a3,a4⟩:=H7.out
       exact ⟨i+1,wl7,top7,by have:=HK.out;omega,by omega,by go_num,a1,a2,a3,a4⟩
    .obtain rfl:i=tab.length:=by omega
     have hdrop:=cells_drop wr Fc pc cap hs E q.ce x' h HX.out.1
     have c0:=q.c0
     have hfin:∀w8,CellsAt w8 Fc pc cap hs (put E x' none)->Keeps Fc wr w8->FibExt w (p::pr::gn::gp::gt::gT::Fc) p cap hs E h (.returned (.tuple #[.int .i64 x',.bool true])) w8:=fun w8 hc8 k8 =>
      ⟨x',rfl,HX.out,⟨pc,pr,gn,gp,gt,gT,cT,Fc,wl6,U5,kid5,deg5,mk5,top6,rfl,q.cells hc8 k8,b.drop⟩,kp.trans k8 (fun b' hb=>.inl (by simp [hb]))⟩
     have HF:=Lib.hid hfin
     clear hfin q b ta6 kp
     go_wp2_with (go_at_call 312;(refine hdrop.mono ?_;rintro e w8 ⟨rfl,hc8,k8⟩;have H8:=Lib.hid (HF.out w8 hc8 k8);clear hc8 k8))
     go_ret2
     exact H8.out
end
def pf (r:RowR):List Nat:=pfp r.p r.ao
structure ShedP (w:World) (p pc gr rc ga:Nat) (Fc:List Nat) (cap hs:Nat) (E:Ent) (R:Nat->RowR) (f:Nat->Int):Prop where
 blk:w.heap[p]?=some (.cells #[.pointer (some ⟨pc,0,none⟩),.slice (some ⟨gr,0,none⟩) (hs+1) rc,.slice (some ⟨ga,0,none⟩) cap cap] 238 (0,0))
 ce:CellsAt w Fc pc cap hs E
 rows:w.ownsRow 0 478 1 (.slice (some ⟨gr,0,none⟩) (hs+1) rc) (hs+1) (rowsV (fun i=>(R i).p) (hs+1))
 ar:Arr w 3 1 cap ga (numV f)
 ne:p≠gr∧p≠ga∧gr≠ga∧p∉Fc∧gr∉Fc∧ga∉Fc
 own:∀g,1<=g->g<=hs->∀b∈pf (R g),b≠p∧b≠gr∧b≠ga∧b∉Fc
 dis:∀g g',1<=g->g<=hs->1<=g'->g'<=hs->g≠g'->∀b∈pf (R g),b∉pf (R g')
 mem:∀g,1<=g->g<=hs->PileOk w p pc ga (R g).p (R g).ao (R g).ca (.slice (some ⟨gr,0,none⟩) (hs+1) rc) Fc cap hs E (R g).n (R g).v f
 ok:∀g,1<=g->g<=hs->RowOk E 2 g (R g)
def ShedAt (w:World) (F:List Nat) (p cap hs:Nat) (E:Ent):Prop :=
 ∃(pc gr rc ga:Nat) (Fc:List Nat) (R:Nat->RowR) (f:Nat->Int),F=nestF p gr (ga::Fc) hs (fun g=>pf (R g))∧ShedP w p pc gr rc ga Fc cap hs E R f
section
variable {w w':World} {p pc gr rc ga cap hs:Nat} {F Fc S:List Nat} {E E':Ent} {R:Nat->RowR} {f f':Nat->Int}
theorem ShedP.lt (h:ShedP w p pc gr rc ga Fc cap hs E R f):∀b∈nestF p gr (ga::Fc) hs (fun g=>pf (R g)),b<w.heap.size:=by
 intro b hb
 rcases nestF_mem.1 hb with rfl|rfl|c|⟨i,h1,h2,c⟩
 .exact lt_of_block h.blk
 .exact row_lt h.rows
 .rcases List.mem_cons.1 c with rfl|c
  .exact h.ar.lt
  .exact h.ce.lt b c
 .exact (h.mem i h1 h2).below b (by simp only [List.mem_cons,List.mem_append];exact .inr (.inr (.inl c)))
theorem ShedP.keep (h:ShedP w p pc gr rc ga Fc cap hs E R f) (k:Keeps S w w') (hS:∀b∈nestF p gr (ga::Fc) hs (fun g=>pf (R g)),b∉S):ShedP w' p pc gr rc ga Fc cap hs E R f :=
 ⟨k.blk h.blk (hS p (nestF_mem.2 (.inl rfl))),h.ce.keep k (fun b hb=>hS b (nestF_mem.2 (.inr (.inr (.inl (by simp [hb])))))),k.row h.rows (hS gr (nestF_mem.2 (.inr (.inl rfl)))),h.ar.keep k (hS ga (nestF_mem.2 (.inr (.inr (.inl (by simp)))))),h.ne,h.own,h.dis,
  fun g h1 h2=>(h.mem g h1 h2).keep k (fun b hb=>hS b (nestF_mem.2 (by
   simp only [List.mem_cons,List.mem_append] at hb ⊢
   rcases hb with e|e|e|e
   .exact .inl e
   .exact .inr (.inr (.inl (.inl e)))
   .exact .inr (.inr (.inr ⟨g,h1,h2,e⟩))
   .exact .inr (.inr (.inl (.inr e)))))),h.ok⟩
theorem ShedAt.lt (h:ShedAt w F p cap hs E):∀b∈F,b<w.heap.size:=by obtain ⟨pc,gr,rc,ga,Fc,R,f,rfl,h⟩:=h;exact h.lt
theorem ShedAt.mem (h:ShedAt w F p cap hs E):p∈F:=by obtain ⟨pc,gr,rc,ga,Fc,R,f,rfl,h⟩:=h;exact nestF_mem.2 (.inl rfl)
theorem ShedAt.keep (h:ShedAt w F p cap hs E) (k:Keeps S w w') (hS:∀b∈F,b∉S):ShedAt w' F p cap hs E:=by
 obtain ⟨pc,gr,rc,ga,Fc,R,f,rfl,h⟩:=h
 exact ⟨pc,gr,rc,ga,Fc,R,f,rfl,h.keep k hS⟩
theorem ShedAt.ok (h:ShedAt w F p cap hs E):EntOk E cap hs:=by obtain ⟨pc,gr,rc,ga,Fc,R,f,rfl,h⟩:=h;exact h.ce.ok
theorem ShedP.c0 (h:ShedP w p pc gr rc ga Fc cap hs E R f):w.cell? ⟨p,0,none⟩=some (.pointer (some ⟨pc,0,none⟩)):=by rw [cell_of_blk h.blk];rfl
theorem ShedP.c1 (h:ShedP w p pc gr rc ga Fc cap hs E R f):w.cell? ⟨p,1,none⟩=some (.slice (some ⟨gr,0,none⟩) (hs+1) rc):=by rw [cell_of_blk h.blk];rfl
theorem ShedP.c2 (h:ShedP w p pc gr rc ga Fc cap hs E R f):w.cell? ⟨p,2,none⟩=some (.slice (some ⟨ga,0,none⟩) cap cap):=by rw [cell_of_blk h.blk];rfl
theorem ShedP.row (h:ShedP w p pc gr rc ga Fc cap hs E R f) {g:Nat} (h1:1<=g) (h2:g<=hs):w.cell? ⟨gr,g,none⟩=some (.pointer (some ⟨(R g).p,0,none⟩)):=by
 rw [h.rows.cellAt g (by omega)]
 exact rowsV_at _ _ _ h1 (by omega)
theorem ShedP.isSome (h:ShedP w p pc gr rc ga Fc cap hs E R f) {g:Nat} (h1:1<=g) (h2:g<=hs):∀j,j<(R g).n->(E ((R g).v j)).isSome:=fun j hj=>(((h.ok g h1 h2).mem _).2 ⟨j,hj,rfl⟩).some
theorem ShedP.change (h:ShedP w p pc gr rc ga Fc cap hs E R f) {g:Nat} (h1:1<=g) (h2:g<=hs) {r:RowR} (k:Keeps (ga::(pf (R g)++Fc)) w w') (hp:r.p=(R g).p) (hf:∀b∈pf r,b∈pf (R g)∨w.heap.size<=b)
  (hr:PileOk w' p pc ga r.p r.ao r.ca (.slice (some ⟨gr,0,none⟩) (hs+1) rc) Fc cap hs E' r.n r.v f') (ho:RowOk E' 2 g r) (hoth:∀g',1<=g'->g'<=hs->g'≠g->RowOk E' 2 g' (R g'))
  (hff:∀g',1<=g'->g'<=hs->g'≠g->∀j,j<(R g').n->f' ((R g').v j)=f ((R g').v j)) :
  ShedP w' p pc gr rc ga Fc cap hs E' (upd R g r) f'∧Moved (nestF p gr (ga::Fc) hs (fun g=>pf (R g))) w (nestF p gr (ga::Fc) hs (fun g'=>pf (upd R g r g'))) w':=by
 have hlt:=h.lt
 obtain ⟨n1,n2,n3,n4,n5,n6⟩:=h.ne
 have hnot:∀b,b≠ga->b∉pf (R g)->b∉Fc->b∉ga::(pf (R g)++Fc):=fun b z a c e=>by
  simp only [List.mem_cons,List.mem_append] at e
  rcases e with e|e|e
  .exact z e
  .exact a e
  .exact c e
 have hpg:p∉pf (R g):=fun e=>(h.own g h1 h2 p e).1 rfl
 have hgg:gr∉pf (R g):=fun e=>(h.own g h1 h2 gr e).2.1 rfl
 have hD:ShedP w' p pc gr rc ga Fc cap hs E' (upd R g r) f':=by
  refine ⟨k.blk h.blk (hnot p n2 hpg n4),hr.ce,?_,hr.ar,h.ne,?_,?_,?_,?_⟩
  .have:=k.row h.rows (hnot gr n3 hgg n5)
   rw [rowsV_congr (r:=fun i=>(R i).p) (r':=fun i=>(upd R g r i).p)]
   .exact this
   .intro i a b
    by_cases c:i=g
    .subst c;simp only [upd_same];exact hp
    .simp only [upd_other R r c]
  .intro g' a b x hx
   by_cases c:g'=g
   .subst c
    rw [upd_same] at hx
    rcases hf x hx with e|e
    .exact h.own g' a b x e
    .have l1:=hlt p (nestF_mem.2 (.inl rfl))
     have l2:=hlt gr (nestF_mem.2 (.inr (.inl rfl)))
     have l3:=h.ar.lt
     exact ⟨by omega,by omega,by omega,fun e2=>by have:=h.ce.lt x e2;omega⟩
   .rw [upd_other R r c] at hx;exact h.own g' a b x hx
  .intro g1 g2 a1 a2 b1 b2 hne x hx hx2
   by_cases c1:g1=g
   .subst c1
    rw [upd_same] at hx
    rw [upd_other R r (fun e=>hne e.symm)] at hx2
    rcases hf x hx with e|e
    .exact h.dis g1 g2 a1 a2 b1 b2 hne x e hx2
    .have:=hlt x (nestF_mem.2 (.inr (.inr (.inr ⟨g2,b1,b2,hx2⟩))));omega
   .rw [upd_other R r c1] at hx
    by_cases c2:g2=g
    .subst c2
     rw [upd_same] at hx2
     rcases hf x hx2 with e|e
     .exact h.dis g1 g2 a1 a2 b1 b2 hne x hx e
     .have:=hlt x (nestF_mem.2 (.inr (.inr (.inr ⟨g1,a1,a2,hx⟩))));omega
    .rw [upd_other R r c2] at hx2
     exact h.dis g1 g2 a1 a2 b1 b2 hne x hx hx2
  .intro g' a b
   by_cases c:g'=g
   .subst c;rw [upd_same];exact hr
   .rw [upd_other R r c]
    have hm:=h.mem g' a b
    obtain ⟨Lm,l1,l2,l3⟩:=hm.row
    have hno:∀x∈pf (R g'),x∉ga::(pf (R g)++Fc):=fun x hx=>by
     obtain ⟨q1,q2,q3,q4⟩:=h.own g' a b x hx
     exact hnot x q3 (fun e=>h.dis g' g a b h1 h2 c x hx e) q4
    exact ⟨hr.bp,k.blk hm.bq (hno _ (by simp [pf,pfp])),hr.ce,hr.ar,⟨Lm,l1,ir_keep l2 k (fun x e=>hno _ (by simp [pf,pfp,e])),l3⟩,hm.ne,hm.na,fun j hj=>(hff g' a b c j hj).trans (hm.pos j hj),hm.lt,hm.inj⟩
  .intro g' a b
   by_cases c:g'=g
   .subst c;rw [upd_same];exact ho
   .rw [upd_other R r c];exact hoth g' a b c
 refine ⟨hD,k.mono (fun b hb=>.inl (nestF_mem.2 ?_)),fun b hb=>?_,hD.lt⟩
 .simp only [List.mem_cons,List.mem_append] at hb ⊢
  rcases hb with e|e|e
  .exact .inr (.inr (.inl (.inl e)))
  .exact .inr (.inr (.inr ⟨g,h1,h2,e⟩))
  .exact .inr (.inr (.inl (.inr e)))
 .rcases nestF_mem.1 hb with e|e|e|⟨g',a1,a2,e⟩
  .exact .inl (nestF_mem.2 (.inl e))
  .exact .inl (nestF_mem.2 (.inr (.inl e)))
  .exact .inl (nestF_mem.2 (.inr (.inr (.inl e))))
  .by_cases c:g'=g
   .subst c
    rw [upd_same] at e
    rcases hf b e with q|q
    .exact .inl (nestF_mem.2 (.inr (.inr (.inr ⟨g',a1,a2,q⟩))))
    .exact .inr q
   .rw [upd_other R r c] at e
    exact .inl (nestF_mem.2 (.inr (.inr (.inr ⟨g',a1,a2,e⟩))))
end
section
variable (w:World) (F:List Nat) (p cap hs:Nat) (E:Ent)
theorem shed_min_yes (c:ShedAt w F p cap hs E) (h:Nat) (h1:1<=h) (h2:h<=hs) (hi:∃y,isIn E h y) :
  Calls Tryz.prog 439 #[.pointer (some ⟨p,0,none⟩),.int .i64 h] w fun e w'=>(∃x:Nat,e=.returned (.tuple #[.int .i64 x,.bool true])∧least E h x)∧w=w':=by
 obtain ⟨pc,gr,rc,ga,Fc,R,f,rfl,m⟩:=c
 have hlen:=cells_len w Fc pc cap hs E m.ce h (by have:=m.ce.ok.bh;omega)
 obtain ⟨cn,hcn⟩:∃cn,count E cap h=cn+1:=by
  have:=count_some (h:=h) m.ce.ok hi
  exact ⟨count E cap h - 1,by omega⟩
 rw [hcn] at hlen
 have c0:=m.c0
 have c1:=m.c1
 have c3:=m.row h1 h2
 have hok:=m.ok h h1 h2
 have hm:=m.mem h h1 h2
 have hn:0<(R h).n:=by
  obtain ⟨y,hy⟩:=hi
  obtain ⟨j,hj,_⟩:=(hok.mem y).1 hy
  omega
 obtain ⟨g,hao,_,_,_,_,_,d1,_⟩:=hm.at hn
 have d0:=hm.q1
 rw [hao] at d0
 have hord:Ord (ahead E) (R h).v (R h).n:=ordOf hok.inj (m.isSome h1 h2)
 have hl:=hok.heap.least (by decide) hord hn hok.mem
 have HL:=Lib.hid hl
 have hhs3:(h:Int)<((hs+1:Nat):Int):=by omega
 have hhs4:(h:Int)<(hs:Int)+1:=by omega
 have b0:(((cn+1:Nat):Int)==0)=false:=by rw [beq_eq_false_iff_ne];omega
 have hn3:(0:Int)<((R h).n:Int):=by omega
 clear hl hok hm hord m hi hao hcn
 go_enter Tryz.func439,Tryz.ntmps439
 go_wp2_with (go_at_call 304;refine hlen.mono ?_;rintro e w' ⟨rfl,rfl⟩)
 go_ret2
 exact ⟨⟨_,rfl,HL.out⟩,rfl⟩
theorem shed_min_no (c:ShedAt w F p cap hs E) (h:Nat) (h1:1<=h) (h2:h<=hs) (hi:∀y,¬isIn E h y) :
  Calls Tryz.prog 439 #[.pointer (some ⟨p,0,none⟩),.int .i64 h] w fun e w'=>e=.returned (.tuple #[.int .i64 0,.bool false])∧w=w':=by
 obtain ⟨pc,gr,rc,ga,Fc,R,f,rfl,m⟩:=c
 have hlen:=cells_len w Fc pc cap hs E m.ce h (by have:=m.ce.ok.bh;omega)
 rw [count_no hi] at hlen
 have c0:=m.c0
 clear m hi
 go_enter Tryz.func439,Tryz.ntmps439
 go_wp2_with (go_at_call 304;refine hlen.mono ?_;rintro e w' ⟨rfl,rfl⟩)
 go_ret2
 exact ⟨rfl,rfl⟩
end
theorem less_no (w:World) (k l:Int) (q:Nat) (hk:l<=k):Calls Tryz.prog 323 #[.agg #[.int .i64 k,.int .u64 (q:Int)],.agg #[.int .i64 l,.int .u64 (q:Int)]] w fun e w'=>e=.returned (.bool false)∧Below w.heap.size w w':=by
 refine (less_calls w k q l q).mono ?_
 rintro e w' ⟨rfl,hb⟩
 exact ⟨by rw [decide_eq_false (fun c=>by rw [cmpE_lt] at c;omega)],hb⟩
theorem cellV_low {E:Ent} {x h q:Nat} {k k':Int} (he:E x=some (h,k,q)):upd (upd (cellV E) x ((cellV E x).set 1 (.int .i64 k'))) x (((cellV E x).set 1 (.int .i64 k')).set 2 (.int .u64 (q:Int)))=cellV (put E x (some (h,k',q))):=by
 rw [upd_two,cellV_put,cellV_at he];rfl
theorem cells_lower (w:World) (F:List Nat) (p cap hs:Nat) (E:Ent) (hc:CellsAt w F p cap hs E) (x h q:Nat) (k k':Int) (he:E x=some (h,k,q)) (hk:k'<=k) (hw:(Lit.int .i64 k').wf=true) :
  Calls Tryz.prog 309 #[.pointer (some ⟨p,0,none⟩),.int .i64 x,.agg #[.int .i64 k',.int .u64 (q:Int)]] w fun e w'=>e=.returned (.bool true)∧CellsAt w' F p cap hs (put E x (some (h,k',q)))∧Keeps F w w':=by
 obtain ⟨w0,hw0⟩:∃w0,w0=w.alloc (.cells #[.int .i64 k',.int .u64 (q:Int)] 104 (0,0)):=⟨_,rfl⟩
 obtain ⟨d,hd⟩:∃d,d=w.heap.size:=⟨_,rfl⟩
 have k0:Keeps [] w w0:=by rw [hw0];exact (Keeps.refl _ _).alloc _
 have b0:w0.heap[d]?=some (.cells #[.int .i64 k',.int .u64 (q:Int)] 104 (0,0)):=by rw [hw0,hd];exact blk_alloc_new _
 have hc0:=hc.keep k0 (by simp)
 have hx:=hc.ok.lt x (by rw [he];rfl)
 have hes:(E x).isSome:=by rw [he];rfl
 have hin:=fun u (hu:CellsAt u F p cap hs E)=>cells_in_yes u F p cap hs E hu x hes
 have hless:=fun u=>less_no u k k' q hk
 have hlt:=hc.lt
 obtain ⟨steps,gs,pn,gn,cn,mb,rfl,hnd,hok,hs0,hs1,hbk0,ha0,hn0,hm0⟩:=id hc
 have hgd:gs≠d:=by have:=hlt gs (by simp);omega
 have hall:∀u,Keeps [] w0 u->u.cell? ⟨p,1,none⟩=some (.slice (some ⟨gs,0,none⟩) cap cap)∧u.cell? ⟨gs,x*3+1,none⟩=some (.int .i64 k)∧u.cell? ⟨gs,x*3+2,none⟩=some (.int .u64 (q:Int))∧u.frozen? ⟨gs,x*3+1,none⟩=false∧u.frozen? ⟨gs,x*3+2,none⟩=false ∧
   u.cell? ⟨d,0,none⟩=some (.int .i64 k')∧u.cell? ⟨d,1,none⟩=some (.int .u64 (q:Int)) ∧
   Hid (∀w6,w6.heap=((u.setCell ⟨gs,x*3+1,none⟩ (.int .i64 k')).setCell ⟨gs,x*3+2,none⟩ (.int .u64 (q:Int))).heap->w6.os=u.os->w6.tape=u.tape->w6.output=u.output->CellsAt w6 [p,gs,pn,gn,mb] p cap hs (put E x (some (h,k',q)))∧Keeps [p,gs,pn,gn,mb] w w6):=by
  intro u ku
  have kw:=k0.trans ku (by simp)
  have hb:=ku.blk b0 (by simp)
  have hbk:=kw.blk hbk0 (by simp)
  have ha:=ha0.keep kw (by simp)
  have hn:=hn0.keep kw (by simp) (by simp)
  have hm:=hm0.keep kw (by simp)
  have d1:=ha.cell hx (j:=1) (by omega)
  have d2:=ha.cell hx (j:=2) (by omega)
  rw [cellV_at he] at d1 d2
  refine ⟨by rw [cell_of_blk hbk];rfl,by simpa using d1,by simpa using d2,ha.frozen _,ha.frozen _,by rw [cell_of_blk hb];rfl,by rw [cell_of_blk hb];rfl,fun w6 e1 e2 e3 e4=>?_⟩
  have hnd0:=hnd
  simp only [List.nodup_cons,List.mem_cons,List.not_mem_nil,or_false,not_or,List.nodup_nil,and_true,not_false_eq_true] at hnd0
  obtain ⟨⟨n1,n2,n3,n4⟩,⟨n5,n6,n7⟩,_⟩:=hnd0
  have kz:Keeps [] ((u.setCell ⟨gs,x*3+1,none⟩ (.int .i64 k')).setCell ⟨gs,x*3+2,none⟩ (.int .u64 (q:Int))) w6:=⟨e2,e3,e4,by rw [e1];exact Nat.le_refl _,fun j _ _=>by rw [e1]⟩
  have hk3:Keeps [gs] u w6:=(((Keeps.refl _ _).setCell (p:=⟨gs,x*3+1,none⟩) (.inl (by simp)) _).setCell (p:=⟨gs,x*3+2,none⟩) (.inl (by simp)) _).trans kz (by simp)
  have h3:=((ha.set hx (j:=1) (by omega) (.int .i64 k')).set hx (j:=2) (by omega) (.int .u64 (q:Int))).keep kz (by simp)
  rw [upd_same,cellV_low he] at h3
  obtain ⟨h1,h2⟩:=hok.heap x h _ he
  refine ⟨⟨steps,gs,pn,gn,cn,mb,rfl,hnd,hok.put hx h1 h2 hw (hok.wf x h k q he).2,hs0,hs1,hk3.blk hbk (by simpa using n1),h3,hn.keep hk3 (by simpa using fun e=>n5 e.symm) (by simpa using fun e=>n6 e.symm),?_⟩,?_⟩
  .have hm':=hm.keep hk3 (by simpa using fun e=>n7 e.symm)
   have hcnt:∀g,count (put E x (some (h,k',q))) cap g=count E cap g:=fun g=>by
    unfold count
    congr 1
    exact List.filter_congr fun y _=>by simp only [isIn_low he]
   have e1:manyF (put E x (some (h,k',q))) cap=manyF E cap:=by funext z;simp only [manyF,hcnt]
   have e2:full (put E x (some (h,k',q))) cap hs=full E cap hs:=by simp only [full,hcnt]
   rw [e1,e2];exact hm'
  .exact (kw.mono (by simp)).trans hk3 (by simp)
 have HA:=Lib.hid hall
 have HI:=Lib.hid hin
 have HC0:=Lib.hid hc0
 obtain ⟨c1,c2,c3,_,_,c6,c7,_⟩:=hall w0 (Keeps.refl _ _)
 have hx3:(x:Int)<(cap:Int):=by omega
 clear hall hin hc hc0 hes he k0 b0 hlt hbk0 ha0 hn0 hm0 hnd hok hs0 hs1
 go_enter Tryz.func309,Tryz.ntmps309
 go_upto_region 1 with fail
 rw [<-hw0,<-hd]
 clear hw0 hd
 go_region_held3 (fun u=>u.cell? ⟨p,1,none⟩=some (.slice (some ⟨gs,0,none⟩) cap cap)∧u.cell? ⟨gs,x*3+1,none⟩=some (.int .i64 k)∧u.cell? ⟨gs,x*3+2,none⟩=some (.int .u64 (q:Int))∧u.cell? ⟨d,0,none⟩=some (.int .i64 k')∧u.cell? ⟨d,1,none⟩=some (.int .u64 (q:Int)))
  (first|exact ⟨c1,c2,c3,c6,c7⟩|exact q1)
  (first
   | (go_at_call 313;refine (HI.out _ (by exact HC0.out.keep ((Keeps.refl [] w0).drew) (by simp))).mono ?_;rintro e w' ⟨rfl,rfl⟩)
   | (go_at_call 323;refine (hless _).mono ?_;rintro e w' ⟨rfl,hb⟩;have kb:=Below.keeps hb (Nat.le_refl _) [];obtain ⟨y1,y2,y3,_,_,y6,y7,_⟩:=HA.out w' (by exact ((Keeps.refl [] w0).drew).trans kb (by simp));have q1:=And.intro y1 (And.intro y2 (And.intro y3 (And.intro y6 y7)))))
 all_goals
  have hkw:Keeps [] w0 w':=((Keeps.refl [] w0).drew).trans (Below.keeps hb (Nat.le_refl _) []) (by simp)
  obtain ⟨y1,y2,y3,y4,y5,y6,y7,z⟩:=HA.out w' hkw
  clear q1 c1 c2 c3 c6 c7 hb kb hkw HA HI HC0 hless
  go_wp2_with fail
  go_region
  all_goals
   go_wp2_with fail
   go_ret
   exact ⟨rfl,z.out _ rfl rfl rfl rfl⟩
end Go.Proofs.YtkdbjelhkfdfjaaGreatDoor
namespace Go.Proofs.YtkdbjelhkfdfjaaGreatDoor.Ar
open Go.RowKit
structure Inv (S:List (Int×Bool)) (W:List Nat) (next:Nat) (cnt most:Int):Prop where
 len:S.length<=65536
 nx:next<=S.length
 m1:1<=most
 m2:most<=4294967295
 w:∀i∈W,i<next∧(S.getD i (0,false)).2=false∧(S.getD i (0,false)).1<most
 nd:W.Nodup
 fresh:∀i,next<=i->S.getD i (0,false)=(0,false)
 used:∀i,i<next->1<=(S.getD i (0,false)).1∧(S.getD i (0,false)).1<=most
 waits:∀i,i<next->(S.getD i (0,false)).2=false->(S.getD i (0,false)).1<most->i∈W
 cnt:cnt=(S.countP fun s=>s.2:Nat)
theorem getD_set_eq {S:List (Int×Bool)} {i:Nat} {x:Int×Bool} (h:i<S.length):(S.set i x).getD i (0,false)=x:=by simp [List.getD,h]
theorem getD_set_ne {S:List (Int×Bool)} {i j:Nat} {x:Int×Bool} (h:i≠j):(S.set i x).getD j (0,false)=S.getD j (0,false):=by simp [List.getD,h]
theorem nodup_len {W:List Nat} {n:Nat} (hd:W.Nodup) (h:∀i∈W,i<n):W.length<=n:=by
 induction n generalizing W with
 | zero =>
  cases W with
  | nil=>simp
  | cons x W=>exact absurd (h x (by simp)) (by omega)
 | succ n ih =>
  by_cases hn:n∈W
  .have h1:=ih (hd.erase n) (fun i hi=>by
    have h2:=(hd.mem_erase_iff).1 hi
    have h3:=h i h2.2
    have h4:=h2.1
    omega)
   rw [List.length_erase_of_mem hn] at h1
   omega
  .have:=ih hd (fun i hi=>by
    have h3:=h i hi
    have h4:i≠n:=fun e=>hn (e ▸ hi)
    omega)
   omega
theorem Inv.wlen {S:List (Int×Bool)} {W:List Nat} {next:Nat} {cnt most:Int} (h:Inv S W next cnt most):W.length<=next:=nodup_len h.nd fun i hi=>(h.w i hi).1
theorem countP_set {S:List (Int×Bool)} {i:Nat} {x:Int×Bool} (h:i<S.length) :
  (S.set i x).countP (fun s=>s.2)+(if (S.getD i (0,false)).2 then 1 else 0)=S.countP (fun s=>s.2)+if x.2 then 1 else 0:=by
 induction S generalizing i with
 | nil=>simp at h
 | cons s S ih =>
  cases i with
  | zero=>simp only [List.set_cons_zero,List.countP_cons,List.getD_cons_zero];omega
  | succ i =>
   have:=ih (i:=i) (by simpa using h)
   simp only [List.set_cons_succ,List.countP_cons,List.getD_cons_succ]
   omega
theorem Inv.cntB {S:List (Int×Bool)} {W:List Nat} {next:Nat} {cnt most:Int} (h:Inv S W next cnt most):0<=cnt∧cnt<=65536:=by
 have:=List.countP_le_length (p:=fun s:Int×Bool=>s.2) (l:=S)
 have:=h.len
 have:=h.cnt
 omega
theorem Inv.pick {S:List (Int×Bool)} {W W':List Nat} {next next' i:Nat} {cnt most:Int} (h:Inv S W next cnt most) (hp:pickS S.length W next=some (i,W',next')) :
  i<S.length∧(S.getD i (0,false)).2=false∧0<=(S.getD i (0,false)).1∧(S.getD i (0,false)).1<most∧Inv (S.set i ((S.getD i (0,false)).1+1,true)) W' next' (cnt+1) most∧i<next'∧next<=next':=by
 have hnx:=h.nx
 cases hg:W.getLast? with
 | some j =>
  simp only [pickS,hg,Option.some.injEq,Prod.mk.injEq] at hp
  obtain ⟨rfl,rfl,rfl⟩:=hp
  obtain ⟨ys,rfl⟩:=List.getLast?_eq_some_iff.1 hg
  obtain ⟨a1,a2,a3⟩:=h.w j (by simp)
  have hu:=h.used j a1
  have hnd:=h.nd
  rw [List.nodup_append] at hnd
  have hjy:∀x∈ys,j≠x:=fun x hx e=>hnd.2.2 x hx j (by simp) e.symm
  refine ⟨by omega,a2,by omega,a3,?_,a1,Nat.le_refl _⟩
  rw [List.dropLast_concat]
  refine ⟨by simpa using h.len,by simpa using hnx,h.m1,h.m2,?_,hnd.1,?_,?_,?_,?_⟩
  .intro x hx
   rw [getD_set_ne (hjy x hx)]
   exact h.w x (by simp [hx])
  .intro x hx
   rw [getD_set_ne (by omega)]
   exact h.fresh x hx
  .intro x hx
   by_cases e:j=x
   .subst e;rw [getD_set_eq (by omega)];simp only;omega
   .rw [getD_set_ne e];exact h.used x hx
  .intro x hx h1 h2
   by_cases e:j=x
   .subst e;rw [getD_set_eq (by omega)] at h1;cases h1
   .rw [getD_set_ne e] at h1 h2
    have:=h.waits x hx h1 h2
    simp only [List.mem_append,List.mem_singleton] at this
    rcases this with h3|h3
    .exact h3
    .exact absurd h3.symm e
  .have:=countP_set (S:=S) (i:=j) (x:=((S.getD j (0,false)).1+1,true)) (by omega)
   have:=h.cnt
   simp only [a2] at *
   simp at *
   omega
 | none =>
  simp only [pickS,hg] at hp
  split at hp
  .rename_i hlt
   simp only [Option.some.injEq,Prod.mk.injEq] at hp
   obtain ⟨rfl,rfl,rfl⟩:=hp
   have hf:=h.fresh next (Nat.le_refl _)
   have hW0:W=[]:=List.getLast?_eq_none_iff.1 hg
   subst hW0
   have hm1:=h.m1
   refine ⟨hlt,by rw [hf],by rw [hf];simp,by rw [hf];simp only;omega,?_,by omega,by omega⟩
   rw [hf]
   refine ⟨by simpa using h.len,by simp;omega,h.m1,h.m2,by simp,by simp,?_,?_,?_,?_⟩
   .intro x hx
    rw [getD_set_ne (by omega)]
    exact h.fresh x (by omega)
   .intro x hx
    by_cases e:next=x
    .subst e;rw [getD_set_eq hlt];simp only;omega
    .rw [getD_set_ne e];exact h.used x (by omega)
   .intro x hx h1 h2
    by_cases e:next=x
    .subst e;rw [getD_set_eq hlt] at h1;cases h1
    .rw [getD_set_ne e] at h1 h2;exact h.waits x (by omega) h1 h2
   .have:=countP_set (S:=S) (i:=next) (x:=((0:Int)+1,true)) hlt
    have:=h.cnt
    rw [hf] at *
    simp at *
    omega
  .cases hp
theorem Inv.give {S:List (Int×Bool)} {W:List Nat} {next i:Nat} {cnt most gen:Int} (h:Inv S W next cnt most) (hi:i<S.length) (hg:S.getD i (0,false)=(gen,true)) :
  Inv (S.set i (gen,false)) (waitS W i gen most) next (cnt - 1) most∧i<next:=by
 have hin:i<next:=by
  rcases Nat.lt_or_ge i next with h1|h1
  .exact h1
  .rw [h.fresh i h1] at hg;cases hg
 have hiW:i∉W:=by intro hw;have:=(h.w i hw).2.1;rw [hg] at this;cases this
 have hu:=h.used i hin
 rw [hg] at hu
 simp only at hu
 refine ⟨⟨by simpa using h.len,by simpa using h.nx,h.m1,h.m2,?_,?_,?_,?_,?_,?_⟩,hin⟩
 .intro x hx
  by_cases e:i=x
  .subst e
   rw [getD_set_eq hi]
   refine ⟨hin,rfl,?_⟩
   rw [waitS] at hx
   split at hx
   .assumption
   .exact absurd hx hiW
  .rw [getD_set_ne e]
   refine h.w x ?_
   rw [waitS] at hx
   split at hx
   .simp only [List.mem_append,List.mem_singleton] at hx
    rcases hx with hx|hx
    .exact hx
    .exact absurd hx.symm e
   .exact hx
 .rw [waitS]
  split
  .rw [List.nodup_append]
   exact ⟨h.nd,by simp,fun x hx y hy=>by simp at hy;subst hy;intro e;subst e;exact hiW hx⟩
  .exact h.nd
 .intro x hx
  rw [getD_set_ne (by omega)]
  exact h.fresh x hx
 .intro x hx
  by_cases e:i=x
  .subst e;rw [getD_set_eq hi];exact hu
  .rw [getD_set_ne e];exact h.used x hx
 .intro x hx h1 h2
  by_cases e:i=x
  .subst e
   rw [getD_set_eq hi] at h2
   rw [waitS,if_pos h2];simp
  .rw [getD_set_ne e] at h1 h2
   have:=h.waits x hx h1 h2
   rw [waitS];split
   .simp [this]
   .exact this
 .have h1:=countP_set (S:=S) (i:=i) (x:=(gen,false)) hi
  have h2:=h.cnt
  rw [hg] at h1
  simp at h1
  omega
theorem Inv.new (n:Nat) (most:Int) (hn:n<=65536) (h1:1<=most) (h2:most<=4294967295):Inv (List.replicate n (0,false)) [] 0 0 most:=by
 have hf:∀i,(List.replicate n ((0:Int),false)).getD i (0,false)=(0,false):=by
  intro i;simp [List.getD,List.getElem?_replicate];split<;>rfl
 refine ⟨by simpa using hn,by omega,h1,h2,by simp,by simp,fun i _=>hf i,by omega,by omega,?_⟩
 simp [List.countP_replicate]
section
variable {B p:Nat} {O:List Nat} {S S':List (Int×Bool)} {W W':List Nat} {next next':Nat} {cnt cnt' most:Int} {wr w1:World}
end
section
variable (B p:Nat) (O:List Nat) (S:List (Int×Bool)) (W:List Nat) (next:Nat) (cnt most:Int) (w:World)
end
end Go.Proofs.YtkdbjelhkfdfjaaGreatDoor.Ar

