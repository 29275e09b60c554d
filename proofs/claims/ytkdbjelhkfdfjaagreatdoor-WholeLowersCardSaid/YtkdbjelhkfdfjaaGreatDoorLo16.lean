/-
  Contracts that the law rests on. Conditions: none.
-/
import Derived.Test.YtkdbjelhkfdfjaaGreatDoorLo09
import Derived.Test.YtkdbjelhkfdfjaaGreatDoorLo13
import Derived.Test.YtkdbjelhkfdfjaaGreatDoorLo15
set_option linter.unusedVariables false
set_option maxRecDepth 100000
set_option maxHeartbeats 32000000
namespace Go.Proofs.YtkdbjelhkfdfjaaGreatDoor
def topF (top:Nat->Option Nat) (z:Int):Option Int:=if 0<=z then (top z.toNat).map fun (x:Nat)=>(x:Int) else none
def topN (top:Nat->Option Nat) (n:Nat):Nat:=((List.range (n+1)).filter fun g=>(top g).isSome).length
theorem topF_at (top:Nat->Option Nat) (h:Nat):topF top (h:Int)=(top h).map fun (x:Nat)=>(x:Int):=by simp [topF]
theorem topN_le (top:Nat->Option Nat) (n:Nat):topN top n<=n+1:=by
 have:=List.length_filter_le (fun g=>(top g).isSome) (List.range (n+1))
 simpa [topN] using this
theorem topF_put (top:Nat->Option Nat) (h x:Nat):topF (upd top h (some x))=fun z=>if z=(h:Int) then some (x:Int) else topF top z:=by
 funext z
 by_cases e:z=(h:Int)
 .subst e;simp [topF,upd_same]
 .rw [if_neg e]
  unfold topF
  by_cases c:0<=z
  .rw [if_pos c,if_pos c,upd_other top _ (by omega)]
  .rw [if_neg c,if_neg c]
theorem topF_del (top:Nat->Option Nat) (h:Nat):topF (upd top h none)=fun z=>if z=(h:Int) then none else topF top z:=by
 funext z
 by_cases e:z=(h:Int)
 .subst e;simp [topF,upd_same]
 .rw [if_neg e]
  unfold topF
  by_cases c:0<=z
  .rw [if_pos c,if_pos c,upd_other top _ (by omega)]
  .rw [if_neg c,if_neg c]
theorem topN_same (top:Nat->Option Nat) (n h:Nat) (o:Option Nat) (e:(top h).isSome=o.isSome):topN (upd top h o) n=topN top n:=by
 unfold topN
 refine filter_range_congr _ _ _ fun g _=>?_
 by_cases c:g=h
 .subst c;rw [upd_same,e]
 .rw [upd_other top _ c]
theorem topN_more (top:Nat->Option Nat) (n h x:Nat) (hh:h<=n) (e:top h=none):topN (upd top h (some x)) n=topN top n+1:=by
 unfold topN
 refine filter_range_one _ h (by omega) _ _ (by rw [e];rfl) (by rw [upd_same];rfl) fun g hg=>?_
 rw [upd_other top _ hg]
theorem topN_less (top:Nat->Option Nat) (n h:Nat) (hh:h<=n) (e:(top h).isSome):topN (upd top h none) n=topN top n - 1:=by
 have:topN top n=topN (upd top h none) n+1:=by
  unfold topN
  refine filter_range_one _ h (by omega) _ _ (by rw [upd_same];rfl) e fun g hg=>?_
  rw [upd_other top _ hg]
 omega
theorem topN_put (top:Nat->Option Nat) (n h x:Nat) (hh:h<=n):topN (upd top h (some x)) n=if (topF top (h:Int)).isSome then topN top n else topN top n+1:=by
 rw [topF_at]
 cases e:top h with
 | none=>simpa using topN_more top n h x hh e
 | some y=>simpa using topN_same top n h (some x) (by rw [e];rfl)
theorem topN_del (top:Nat->Option Nat) (n h:Nat) (hh:h<=n):topN (upd top h none) n=if (topF top (h:Int)).isSome then topN top n - 1 else topN top n:=by
 rw [topF_at]
 cases e:top h with
 | none=>simpa using topN_same top n h none (by rw [e])
 | some y=>simpa using topN_less top n h hh (by rw [e];rfl)
theorem topN_wide (top:Nat->Option Nat) (n:Nat) (e:top (n+1)=none):topN top (n+1)=topN top n:=by
 unfold topN
 rw [List.range_succ (n:=n+1),List.filter_append,List.length_append]
 simp [e]
theorem topN_none (n:Nat):topN (fun _=>none) n=0:=by
 unfold topN
 rw [List.length_eq_zero_iff,List.filter_eq_nil_iff]
 simp
theorem topF_none:topF (fun _=>none)=fun _=>none:=by
 funext z
 unfold topF
 split<;>rfl
end Go.Proofs.YtkdbjelhkfdfjaaGreatDoor
namespace Go.Proofs.YtkdbjelhkfdfjaaGreatDoor
open Go.RowKit
section
variable (w:World) (p g n:Nat) (T:Nat->TwigR) (U:Nat->Option Nat)
def SplitDone (x:Nat) (e:Ending) (w':World):Prop :=
 ∃v,e=.returned v∧Rg.IR w.heap.size w' v (T x).kids∧ForestAt w' p g n (upd T x ⟨none,0,[]⟩) (updM U (T x).kids none)∧Moved (treeF p g n T) w (treeF p g n (upd T x ⟨none,0,[]⟩)) w'
theorem fo_split (h:ForestAt w p g n T U) (x:Nat) (hx:x<n) (hu:U x=none) :
  Calls Tryz.prog 359 #[.pointer (some ⟨p,0,none⟩),.int .i64 x] w (SplitDone w p g n T U x):=by
 have hrt:=fo_root w p g n T U h x hx
 rw [hu] at hrt
 have c0:=h.c0
 have c1:=h.k0 hx
 have f1:=h.arr.frozen (x*2)
 have hlt:=h.lt
 have hrow:=h.rows x hx
 have hkl:=(h.num x hx).1
 have hkm:=(h.num x hx).2.1
 have hown:=h.own x hx
 have hset:=h.setKids hx (t:=⟨none,0,[]⟩) (w5:=w) (Keeps.refl _ _) (Rg.IR.nil _ _) (fun q e=>by cases e) (by simp) (by simp)
 simp only [List.length_nil] at hset
 have hrow1:∀w',Keeps [g] w w'->Rg.IR 0 w' (.slice (T x).ao (T x).kids.length (T x).ca) (T x).kids:=fun w' k=>ir_keep hrow k (fun a e=>by simpa using (hown a e).2)
 have k0:Keeps [g] w (w.setCell ⟨g,x*2,none⟩ (.slice none 0 0)):=(Keeps.refl _ _).setCell (.inl (by simp)) _
 have hcap:=h.cap
 obtain ⟨L,hL⟩:∃L,(T x).kids=L:=⟨_,rfl⟩
 obtain ⟨ao,hao⟩:∃ao,(T x).ao=ao:=⟨_,rfl⟩
 obtain ⟨ca,hca⟩:∃ca,(T x).ca=ca:=⟨_,rfl⟩
 rw [hL,hao,hca] at hrow1
 rw [hL,hao,hca] at c1
 rw [hL] at hkl hkm
 have hx3:(x:Int)<(n:Int):=by omega
 have HROW:=Lib.hid hrow1
 have HKM:=Lib.hid hkm
 have HMV:=Lib.hid hset.2
 have HL:=Lib.hid hL
 have hF0:=hset.1
 clear hrow1 hkm hset hrow hown hlt h hL hao hca hu
 go_enter Tryz.func359,Tryz.ntmps359
 go_upto_region 5 with (go_at_call 363;refine hrt.mono ?_;rintro e w' ⟨rfl,rfl⟩)
 generalize hw1:w.setCell ⟨g,x*2,none⟩ (.slice none 0 0)=w1 at *
 clear hw1 c0 c1 f1 hrt
 go_wp2_with fail
 go_loopg [29] (L.length+1) (fun m s wr=>∃i:Nat,m+i=L.length+1∧i<=L.length∧s=.int .i64 i∧ForestAt wr p g n (upd T x ⟨none,0,[]⟩) (updM U (L.take i) none)∧Keeps [g] w wr∧Keeps [g] w1 wr)
 case atStart=>exact ⟨0,by omega,by omega,rfl,by rw [List.take_zero,updM_nil];exact hF0,k0,Keeps.refl _ _⟩
 case round =>
  clear hF0 k0
  obtain ⟨i,hk,hin,rfl,hF,kp,kp1⟩:=hrel
  have HK:=Lib.hid hk
  clear hk
  have hr:=HROW.out wr kp
  by_cases hi:i<L.length
  .obtain ⟨gg,hao,_,_,d1⟩:=hr.at i hi
   subst hao
   obtain ⟨y,hy⟩:∃y,Rg.fn L i=y:=⟨_,rfl⟩
   have hyL:L[i]?=some y:=by rw [<-hy];simp [Rg.fn,List.getD,hi]
   have hyn:y<n:=HKM.out y (List.mem_of_getElem? hyL)
   have hyn3:(y:Int)<(n:Int):=by omega
   rw [hy] at d1
   have e0:=hF.c0
   have e1:=hF.k1 hyn
   have e2:=hF.arr.frozen (y*2+1)
   have h7:=hF.setUp (x:=y) (o:=none) hyn (fun z e=>by cases e)
   rw [oZ_none] at h7
   have htk:L.take (i+1)=L.take i++[y]:=by rw [List.take_add_one,hyL];rfl
   rw [<-updM_snoc,<-htk] at h7
   have k7:Keeps [g] w (wr.setCell ⟨g,y*2+1,none⟩ (.int .i64 (-1))):=kp.setCell (.inl (by simp)) _
   have k8:Keeps [g] w1 (wr.setCell ⟨g,y*2+1,none⟩ (.int .i64 (-1))):=kp1.setCell (.inl (by simp)) _
   have hi3:(i:Int)<(L.length:Int):=by omega
   clear hr hy hyL htk hF kp kp1
   go_wp2_with fail
   go_roundg (gk - 1)
   case measure=>have:=HK.out;omega
   case rel=>exact ⟨i+1,by have:=HK.out;omega,by omega,by go_num,h7,k7,k8⟩
  .obtain rfl:i=L.length:=by omega
   rw [List.take_length] at hF
   have hcl:=clone_ints wr ao ca L hr hkl
   go_wp2_with (go_at_call 252;refine hcl.mono ?_;rintro e w9 ⟨v,rfl,hv,k9⟩)
   go_ret
   have hF9:=hF.keep k9 (by simp)
   refine ⟨v,rfl,?_,?_,?_⟩
   .rw [HL.out];exact hv.lo kp.size
   .rw [HL.out];exact hF9
   .refine ⟨(kp.mono (T:=treeF p g n T) fun b hb=>.inl (treeF_mem.2 (.inr (.inl (by simpa using hb))))).trans k9 (by simp),HMV.out.from',hF9.lt⟩
end
section
variable (w:World) (p g n:Nat) (T:Nat->TwigR) (U:Nat->Option Nat)
theorem fo_row (h:ForestAt w p g n T U) (ao:Option Addr) (ca:Nat) (l:List Nat) (hr:Rg.IR 0 w (.slice ao l.length ca) l) (hm:∀x∈l,x<n) (hc:CRow (fun x=>(T x).kids) U l) (hl:l.length<=65536) :
  Calls Tryz.prog 364 #[.pointer (some ⟨p,0,none⟩),.slice ao l.length ca] w fun e w'=>e=.returned (.bool true)∧w=w':=by
 have hrt:∀x,x<n->U x=none->Calls Tryz.prog 363 #[.pointer (some ⟨p,0,none⟩),.int .i64 x] w fun e w'=>e=.returned (.bool true)∧w=w':=fun x hx hu=>by
  have:=fo_root w p g n T U h x hx
  rw [hu] at this;exact this
 have hdg:∀x m,x<n->(T x).kids.length=m->Calls Tryz.prog 367 #[.pointer (some ⟨p,0,none⟩),.int .i64 x] w fun e w'=>e=.returned (.int .i64 m)∧w=w':=fun x m hx hu=>by
  have:=fo_degree w p g n T U h x hx
  rw [hu] at this;exact this
 have hat:∀i,i<l.length->∃gg x,ao=some ⟨gg,0,none⟩∧w.cell? ⟨gg,i,none⟩=some (.int .i64 (x:Nat))∧l[i]?=some x:=fun i hi=>by
  obtain ⟨gg,e,_,_,c⟩:=hr.at i hi
  exact ⟨gg,_,e,c,by simp [Rg.fn,List.getD,hi]⟩
 have hx:∀i x,l[i]?=some x->x<n∧U x=none:=fun i x e=>⟨hm x (List.mem_of_getElem? e),hc.1 x (List.mem_of_getElem? e)⟩
 have hlt:∀i x y,l[i]?=some x->l[i+1]?=some y->(T x).kids.length<(T y).kids.length:=fun i x y e1 e2=>by
  obtain ⟨h1,e1⟩:=List.getElem?_eq_some_iff.1 e1
  obtain ⟨h2,e2⟩:=List.getElem?_eq_some_iff.1 e2
  have:=List.pairwise_iff_getElem.1 hc.2 i (i+1) h1 h2 (by omega)
  rw [e1,e2] at this;exact this
 have HAT:=Lib.hid hat
 have HX:=Lib.hid hx
 have HLT:=Lib.hid hlt
 clear hat hx hlt h hr hm hc
 go_enter Tryz.func364,Tryz.ntmps364
 go_wp2_with fail
 go_loopg [9] (l.length+1) (fun m s wr=>∃i:Nat,m+i=l.length+1∧i<=l.length∧s=.int .i64 i∧wr=w)
 case atStart=>exact ⟨0,by omega,by omega,rfl,rfl⟩
 case round =>
  obtain ⟨i,hk,hin,rfl,rfl⟩:=hrel
  have HK:=Lib.hid hk
  clear hk
  by_cases hi:i<l.length
  .obtain ⟨gg,x,hao,d1,hxl⟩:=HAT.out i hi
   subst hao
   obtain ⟨hxn,hxu⟩:=HX.out i x hxl
   have hi3:(i:Int)<(l.length:Int):=by omega
   by_cases h0:i=0
   .subst h0
    have HXL:=Lib.hid hxl
    clear hxl
    go_wp2_with (go_at_call 363;refine (hrt _ (by assumption) (by assumption)).mono ?_;rintro e w' ⟨rfl,rfl⟩)
    go_roundg (gk - 1)
    case measure=>have:=HK.out;omega
    case rel=>exact ⟨1,by have:=HK.out;omega,by omega,by go_num,rfl⟩
   .obtain ⟨j,rfl⟩:∃j,i=j+1:=⟨i - 1,by omega⟩
    obtain ⟨gg',y,e,d2,hyl⟩:=HAT.out j (by omega)
    cases e
    obtain ⟨hyn,hyu⟩:=HX.out j y hyl
    have hd:=HLT.out j y x hyl hxl
    obtain ⟨dx,hdx⟩:∃d,(T x).kids.length=d:=⟨_,rfl⟩
    obtain ⟨dy,hdy⟩:∃d,(T y).kids.length=d:=⟨_,rfl⟩
    rw [hdx,hdy] at hd
    have hd3:¬(dx:Int)<=(dy:Int):=by omega
    have hd4:decide (dx<=dy)=false:=by rw [decide_eq_false_iff_not];omega
    have h03:(0:Int)<((j+1:Nat):Int):=by omega
    have hj3:((j+1:Nat):Int) - 1=(j:Int):=by omega
    have hj4:(j:Int)<(l.length:Int):=by omega
    have hdgx:=hdg x dx hxn hdx
    have hdgy:=hdg y dy hyn hdy
    have hrtx:=hrt x hxn hxu
    have HXL:=Lib.hid hxl
    have HYL:=Lib.hid hyl
    clear hxl hyl hdg hrt hdx hdy hxu hyu
    have hne:x≠y:=by rintro rfl;have:=HLT.out j x x HYL.out HXL.out;omega
    go_wp2_with (first
     | (go_at_call 363;refine hrtx.mono ?_;rintro e w' ⟨rfl,rfl⟩)
     | (go_at_call 367;with_reducible refine Calls.mono hdgy ?_;rintro e w' ⟨rfl,rfl⟩)
     | (go_at_call 367;with_reducible refine Calls.mono hdgx ?_;rintro e w' ⟨rfl,rfl⟩))
    go_roundg (gk - 1)
    case measure=>have:=HK.out;omega
    case rel=>exact ⟨j+2,by have:=HK.out;omega,by omega,by go_num,rfl⟩
  .obtain rfl:i=l.length:=by omega
   go_wp2_with fail
   go_ret
   exact ⟨rfl,rfl⟩
end
section
variable (w:World) (B:Nat) (ao bo:Option Addr) (ca cb:Nat) (l m:List Nat)
theorem common_no (hB:w.cell? ⟨B,0,none⟩=some (.slice bo m.length cb)) (hm:Rg.IR 0 w (.slice bo m.length cb) m) (hml:m.length<=65536) (x:Nat) (hx:x∉m) :
  Calls Tryz.prog 365 #[.int .i64 x,.pointer (some ⟨B,0,none⟩)] w fun e w'=>e=.returned (.bool false)∧w=w':=by
 have hc:=Rg.contains_calls w 0 _ m hm (by omega) (x:Int)
 have hn:m.any (Rg.isI (x:Int))=false:=by
  rw [List.any_eq_false]
  intro y hy e
  simp only [Rg.isI,beq_iff_eq] at e
  have:x=y:=by omega
  exact hx (this ▸ hy)
 rw [hn] at hc
 clear hn hm hx
 go_enter Tryz.func365,Tryz.ntmps365
 go_wp2_with (go_at_call 366;refine hc.mono ?_;rintro e w' ⟨rfl,rfl⟩)
 go_ret
 exact ⟨rfl,rfl⟩
theorem index_no (hB:w.cell? ⟨B,0,none⟩=some (.slice bo m.length cb)) (hm:Rg.IR 0 w (.slice bo m.length cb) m) (hml:m.length<=65536) (hl:Rg.IR 0 w (.slice ao l.length ca) l) (hll:l.length<=65536) (hd:∀x∈l,x∉m) :
  Calls Tryz.prog 251 #[.slice ao l.length ca,.func (.func 365) #[] #[.pointer (some ⟨B,0,none⟩)]] w fun e w'=>e=.returned (.int .i64 (-1))∧w=w':=by
 have hno:=fun x hx=>common_no w B bo cb m hB hm hml x hx
 have hat:∀i,i<l.length->∃gg x,ao=some ⟨gg,0,none⟩∧w.cell? ⟨gg,i,none⟩=some (.int .i64 (x:Nat))∧x∉m:=fun i hi=>by
  obtain ⟨gg,e,_,_,c⟩:=hl.at i hi
  have:l[i]?=some (Rg.fn l i):=by simp [Rg.fn,List.getD,hi]
  exact ⟨gg,_,e,c,hd _ (List.mem_of_getElem? this)⟩
 have HAT:=Lib.hid hat
 clear hat hl hm hd
 go_enter Tryz.func251,Tryz.ntmps251
 go_wp2_with fail
 go_loopg [8] (l.length+1) (fun k s wr=>∃i:Nat,k+i=l.length+1∧i<=l.length∧s=.int .i64 i∧wr=w)
 case atStart=>exact ⟨0,by omega,by omega,rfl,rfl⟩
 case round =>
  obtain ⟨i,hk,hin,rfl,rfl⟩:=hrel
  have HK:=Lib.hid hk
  clear hk
  by_cases hi:i<l.length
  .obtain ⟨gg,x,hao,d1,hx⟩:=HAT.out i hi
   subst hao
   have hc:=hno x hx
   have hi3:(i:Int)<(l.length:Int):=by omega
   clear hno
   go_wp2_with (go_at_call 365;refine hc.mono ?_;rintro e w' ⟨rfl,rfl⟩)
   go_roundg (gk - 1)
   case measure=>have:=HK.out;omega
   case rel=>exact ⟨i+1,by have:=HK.out;omega,by omega,by go_num,rfl⟩
  .obtain rfl:i=l.length:=by omega
   go_wp2_with fail
   go_ret
   exact ⟨rfl,rfl⟩
theorem none_common (hB:w.cell? ⟨B,0,none⟩=some (.slice bo m.length cb)) (hm:Rg.IR 0 w (.slice bo m.length cb) m) (hml:m.length<=65536) (hl:Rg.IR 0 w (.slice ao l.length ca) l) (hll:l.length<=65536) (hd:∀x∈l,x∉m) :
  Calls Tryz.prog 229 #[.slice ao l.length ca,.func (.func 365) #[] #[.pointer (some ⟨B,0,none⟩)]] w fun e w'=>e=.returned (.bool false)∧w=w':=by
 have hi:=index_no w B ao bo ca cb l m hB hm hml hl hll hd
 clear hB hm hl hd
 go_enter Tryz.func229,Tryz.ntmps229
 go_wp2_with (go_at_call 251;refine hi.mono ?_;rintro e w' ⟨rfl,rfl⟩)
 go_ret
 exact ⟨rfl,rfl⟩
end
def SkewAt (w:World) (F:List Nat) (p cap hs:Nat) (E:Ent):Prop :=
 ∃(pc pt gt mb:Nat) (Fc:List Nat) (L R U top:Nat->Option Nat),F=p::pt::gt::mb::Fc∧SkewMid w p pc pt gt mb Fc cap hs E L R U∧IMap Tryz.prog 3 w mb (topN top hs) (topF top)∧Tops E L R U top
section
variable {w w':World} {F S:List Nat} {p cap hs:Nat} {E:Ent}
theorem SkewAt.lt (h:SkewAt w F p cap hs E):∀b∈F,b<w.heap.size:=by
 obtain ⟨pc,pt,gt,mb,Fc,L,R,U,top,rfl,m,im,t⟩:=h
 obtain ⟨l1,l2,l3,l4⟩:=m.lt
 intro b hb
 simp only [List.mem_cons] at hb
 rcases hb with rfl|rfl|rfl|rfl|hb
 .exact l1
 .exact l2
 .exact l3
 .exact im.lt
 .exact l4 b hb
theorem SkewAt.mem (h:SkewAt w F p cap hs E):p∈F:=by
 obtain ⟨pc,pt,gt,mb,Fc,L,R,U,top,rfl,m,im,t⟩:=h
 simp
theorem SkewAt.keep (h:SkewAt w F p cap hs E) (k:Keeps S w w') (hS:∀b∈F,b∉S):SkewAt w' F p cap hs E:=by
 obtain ⟨pc,pt,gt,mb,Fc,L,R,U,top,rfl,m,im,t⟩:=h
 exact ⟨pc,pt,gt,mb,Fc,L,R,U,top,rfl,m.keep k (fun b hb=>hS b (by simp only [List.mem_cons] at hb ⊢;rcases hb with c|c|c|c<;>simp [c])),im.keep k (hS mb (by simp)),t⟩
theorem SkewAt.ok (h:SkewAt w F p cap hs E):EntOk E cap hs:=by
 obtain ⟨pc,pt,gt,mb,Fc,L,R,U,top,rfl,m,im,t⟩:=h
 exact m.ce.ok
end
section
variable (w:World) (p pc pt gt mb:Nat) (Fc:List Nat) (cap hs:Nat) (E:Ent) (L R U top:Nat->Option Nat)
theorem skew_first (m:SkewMid w p pc pt gt mb Fc cap hs E L R U) (im:IMap Tryz.prog 3 w mb (topN top hs) (topF top)) (h:Nat) (hh:h<=65536) :
  Calls Tryz.prog 431 #[.pointer (some ⟨p,0,none⟩),.int .i64 h] w fun e w'=>e=.returned (.int .i64 (oZ (top h)))∧w=w':=by
 have c2:=m.c2
 have HM:=Lib.hid im
 clear m im
 cases e:top h with
 | none =>
  have HT:=Lib.hid (show topF top (h:Int)=none by rw [topF_at,e];rfl)
  clear e
  go_enter Tryz.func431,Tryz.ntmps431
  go_wp2_with (at_lookup;refine wpList_imap_look_ok rfl _ _ rfl mapTy mb _ _ rfl HM.out (h:Int) rfl (WalkArith.wf_i64 (by omega)) ?_;rw [HT.out])
  go_ret
  exact ⟨rfl,rfl⟩
 | some x =>
  have HT:=Lib.hid (show topF top (h:Int)=some (x:Int) by rw [topF_at,e];rfl)
  clear e
  go_enter Tryz.func431,Tryz.ntmps431
  go_wp2_with (at_lookup;refine wpList_imap_look_ok rfl _ _ rfl mapTy mb _ _ rfl HM.out (h:Int) rfl (WalkArith.wf_i64 (by omega)) ?_;rw [HT.out])
  go_ret
  exact ⟨rfl,rfl⟩
def Crowned (h:Nat) (o:Option Nat) (e:Ending) (w':World):Prop:=e=.returned (.tuple #[])∧IMap Tryz.prog 3 w' mb (topN (upd top h o) hs) (topF (upd top h o))∧Keeps [mb] w w'
theorem skew_crown (m:SkewMid w p pc pt gt mb Fc cap hs E L R U) (im:IMap Tryz.prog 3 w mb (topN top hs) (topF top)) (h:Nat) (h2:h<=hs) (o:Option Nat) (ho:∀x,o=some x->x<cap) :
  Calls Tryz.prog 429 #[.pointer (some ⟨p,0,none⟩),.int .i64 h,.int .i64 (oZ o)] w (Crowned w mb hs top h o):=by
 have c2:=m.c2
 have hok:=m.ce.ok
 have hbh:=hok.bh
 have hbc:=hok.bc
 have HM:=Lib.hid im
 have HC:topN top hs<maxLen:=by have:=topN_le top hs;unfold maxLen;omega
 have HC2:=Lib.hid HC
 clear m im hok HC
 cases o with
 | none =>
  simp only [oZ_none]
  go_enter Tryz.func429,Tryz.ntmps429
  go_wp2_with (at_delete;go_loud (refine wpList_imap_del rfl _ _ rfl mapTy mb _ _ rfl HM.out (h:Int) rfl (WalkArith.wf_i64 (by omega)) ?_;intro w5 hm5 hg5;have HM5:=Lib.hid hm5;have HG5:=Lib.hid hg5;clear hm5 hg5))
  go_end0
  exact ⟨rfl,by rw [topN_del top hs h h2,topF_del];exact HM5.out,(Keeps.refl _ _).grown HG5.out (by simp)⟩
 | some x =>
  simp only [oZ_some]
  have hx:=ho x rfl
  have hxn:((x:Int)==-1)=false:=by rw [beq_eq_false_iff_ne];omega
  clear ho
  go_enter Tryz.func429,Tryz.ntmps429
  go_wp2_with (at_mapUpdate;refine wpList_imap_put rfl _ _ _ rfl mapTy mb _ _ rfl HM.out HC2.out (h:Int) (x:Int) rfl rfl (WalkArith.wf_i64 (by omega)) (WalkArith.wf_i64 (by omega)) ?_;intro w5 hm5 hg5;have HM5:=Lib.hid hm5;have HG5:=Lib.hid hg5;clear hm5 hg5)
  go_end0
  exact ⟨rfl,by rw [topN_put top hs h x h2,topF_put];exact HM5.out,(Keeps.refl _ _).grown HG5.out (by simp)⟩
end
section
variable (w:World) (F:List Nat) (p cap hs:Nat) (E:Ent)
theorem skew_min_yes (c:SkewAt w F p cap hs E) (h:Nat) (hh:h<=65536) (hi:∃y,isIn E h y) :
  Calls Tryz.prog 428 #[.pointer (some ⟨p,0,none⟩),.int .i64 h] w fun e w'=>(∃x:Nat,e=.returned (.tuple #[.int .i64 x,.bool true])∧least E h x)∧w=w':=by
 obtain ⟨pc,pt,gt,mb,Fc,L,R,U,top,rfl,m,im,t⟩:=c
 have hf:=skew_first w p pc pt gt mb Fc cap hs E L R U top m im h hh
 have hn:=fun y (hy:(E y).isSome)=>m.ce.ok.lt y hy
 cases e:top h with
 | none =>
  obtain ⟨y,hy⟩:=hi
  exact absurd hy (t.none_of hn e y)
 | some x =>
  have hl:=t.first hn e
  rw [e] at hf
  simp only [oZ_some] at hf
  have hxn:((x:Int)==-1)=false:=by rw [beq_eq_false_iff_ne];omega
  have HL:=Lib.hid hl
  clear hl e t m im hn hi
  go_enter Tryz.func428,Tryz.ntmps428
  go_wp2_with (go_at_call 431;refine hf.mono ?_;rintro e w' ⟨rfl,rfl⟩)
  go_ret2
  exact ⟨⟨x,rfl,HL.out⟩,rfl⟩
theorem skew_min_no (c:SkewAt w F p cap hs E) (h:Nat) (hh:h<=65536) (hi:∀y,¬isIn E h y) :
  Calls Tryz.prog 428 #[.pointer (some ⟨p,0,none⟩),.int .i64 h] w fun e w'=>e=.returned (.tuple #[.int .i64 0,.bool false])∧w=w':=by
 obtain ⟨pc,pt,gt,mb,Fc,L,R,U,top,rfl,m,im,t⟩:=c
 have hf:=skew_first w p pc pt gt mb Fc cap hs E L R U top m im h hh
 cases e:top h with
 | some x=>exact absurd (t.mine h x e) (hi x)
 | none =>
  rw [e] at hf
  simp only [oZ_none] at hf
  clear e t m im hi
  go_enter Tryz.func428,Tryz.ntmps428
  go_wp2_with (go_at_call 431;refine hf.mono ?_;rintro e w' ⟨rfl,rfl⟩)
  go_ret2
  exact ⟨rfl,rfl⟩
def SkewIn (w:World) (F:List Nat) (p cap hs:Nat) (E':Ent) (e:Ending) (w':World):Prop:=e=.returned (.bool true)∧SkewAt w' F p cap hs E'∧Keeps F w w'
theorem skew_insert (c:SkewAt w F p cap hs E) (h x q:Nat) (k:Int) (h1:1<=h) (h2:h<=hs) (hx:x<cap) (he:E x=none) (hk:(Lit.int .i64 k).wf=true) (hq:(Lit.int .u64 (q:Int)).wf=true) :
  Calls Tryz.prog 426 #[.pointer (some ⟨p,0,none⟩),.int .i64 h,.int .i64 x,.agg #[.int .i64 k,.int .u64 (q:Int)]] w (SkewIn w F p cap hs (put E x (some (h,k,q)))):=by
 obtain ⟨pc,pt,gt,mb,Fc,L,R,U,top,rfl,m,im,t⟩:=c
 obtain ⟨l1,l2,l3,l4⟩:=m.lt
 have hbh:=m.ce.ok.bh
 have hne:=m.ne
 have hb0:Below w.heap.size w (w.alloc (.cells #[.int .i64 k,.int .u64 (q:Int)] 104)):=(Below.refl _ w).alloc (Nat.le_refl _) _
 have e0:(w.alloc (.cells #[.int .i64 k,.int .u64 (q:Int)] 104)).cell? ⟨w.heap.size,0,none⟩=some (.int .i64 k):=by rw [cell_of_blk (blk_alloc_new _)];rfl
 have e1:(w.alloc (.cells #[.int .i64 k,.int .u64 (q:Int)] 104)).cell? ⟨w.heap.size,1,none⟩=some (.int .u64 (q:Int)):=by rw [cell_of_blk (blk_alloc_new _)];rfl
 have m0:=m.below hb0
 have im0:IMap Tryz.prog 3 (w.alloc (.cells #[.int .i64 k,.int .u64 (q:Int)] 104)) mb (topN top hs) (topF top):=im.keep (Below.keeps hb0 (Nat.le_refl _) []) (by simp)
 have hz:=t.insert he (k,q) (h:=h)
 have HZ:=Lib.hid hz
 have HT:=Lib.hid t
 have HE:=Lib.hid he
 have HN:=Lib.hid hne
 have HI:=Lib.hid im
 clear hz t m im he hne
 go_enter Tryz.func426,Tryz.ntmps426
 go_upto_region 1 with fail
 have hw0:w.heap.size<(w.alloc (.cells #[.int .i64 k,.int .u64 (q:Int)] 104)).heap.size:=by simp
 generalize w.alloc (.cells #[.int .i64 k,.int .u64 (q:Int)] 104)=w0 at *
 have d0:=m0.c0
 have hS:∀u,Keeps Fc w0 u->u.cell? ⟨p,0,none⟩=some (.pointer (some ⟨pc,0,none⟩))∧u.cell? ⟨w.heap.size,0,none⟩=some (.int .i64 k)∧u.cell? ⟨w.heap.size,1,none⟩=some (.int .u64 (q:Int)):=fun u kk =>
  have hz:w.heap.size∉Fc:=fun e=>Nat.lt_irrefl _ (l4 _ e)
  ⟨(World.cell?_of_block (a:=⟨p,0,none⟩) (kk.block p m0.lt.1 HN.out.1.2.2.2)).trans d0,(World.cell?_of_block (a:=⟨_,0,none⟩) (kk.block _ hw0 hz)).trans e0,(World.cell?_of_block (a:=⟨_,1,none⟩) (kk.block _ hw0 hz)).trans e1⟩
 have hput:=fun u (hu:CellsAt u Fc pc cap hs E)=>cells_put u Fc pc cap hs E hu h x q k h1 h2 hx HE.out hk hq
 go_region_held3 (fun w'=>w'.cell? ⟨p,0,none⟩=some (.pointer (some ⟨pc,0,none⟩))∧w'.cell? ⟨w.heap.size,0,none⟩=some (.int .i64 k)∧w'.cell? ⟨w.heap.size,1,none⟩=some (.int .u64 (q:Int))) (first|exact ⟨d0,e0,e1⟩|exact q1)
  (first
   | (go_at_call 316;refine (hput _ (m0.drewN 1).ce).mono ?_;rintro e w1 ⟨rfl,hc1,hk1⟩;have q1:=hS w1 hk1.ofDrew))
 all_goals
  obtain ⟨⟨a1,a2,a3,a4⟩,⟨b1,b2,b3⟩,⟨c1,c2⟩,cd⟩:=HN.out
  have k1:Keeps Fc w0 w1:=hk1.ofDrew
  have m1:=m0.cells hc1 k1
  have im1:=im0.keep k1 cd
  have hf:=skew_first w1 p pc pt gt mb Fc cap hs _ L R U top m1 im1 h (by omega)
  have hmg:=skew_merge w1 p pc pt gt mb Fc cap hs _ L R U _ L R h (top h) (some x) m1 HZ.out
  rw [oZ_some] at hmg
  have kw:Keeps (gt::Fc) w w1:=(Below.keeps hb0 (Nat.le_refl _) _).trans k1 (fun b hb=>.inl (by simp [hb]))
  have d1:=m1.c0
  clear d0 e0 e1 m0 im0 hput hk1 hc1 k1 hS q1
  go_upto_region 3 with fail
  go_wp2_with (first
   | (go_at_call 431;refine hf.mono ?_;rintro e w' ⟨rfl,rfl⟩)
   | (go_at_call 430;refine hmg.mono ?_;rintro e w2 ⟨C,L',R',U',rfl,m2,z2,k2⟩;have im2:=im1.keep k2 (by simp;exact ⟨fun e=>c1 e.symm,cd⟩);have hcr:=skew_crown w2 p pc pt gt mb Fc cap hs _ L' R' U' top m2 im2 h h2 C (fun y e=>m2.ce.ok.lt y (z2.na y e).2.2.some))
   | (go_at_call 429;refine hcr.mono ?_;rintro e w3 ⟨rfl,im3,k3⟩))
  go_ret
  have ht:Tops (put E x (some (h,k,q))) L' R' U' (upd top h C):=Tops.merged z2 (fun y=>Iff.rfl) (fun g t' hg e=>by
   have h1:=HT.out.mine g t' e
   have hne:t'≠x:=by rintro rfl;have:=h1.some;rw [HE.out] at this;cases this
   exact (isIn_put_other hne).2 h1)
  exact ⟨rfl,⟨pc,pt,gt,mb,Fc,L',R',U',upd top h C,rfl,m2.keep k3 (by simp;exact ⟨a3,b2,c1,fun b hb e=>cd (e ▸ hb)⟩),im3,ht⟩,(kw.mono (fun b hb=>.inl (by simp only [List.mem_cons] at hb ⊢;rcases hb with c|c<;>simp [c]))).trans ((k2.mono (T:=p::pt::gt::mb::Fc) (fun b hb=>.inl (by simp only [List.mem_cons] at hb ⊢;rcases hb with c|c<;>simp [c]))).trans k3 (by simp)) (fun b hb=>.inl hb)⟩
end
def RgAt (w:World) (p gn gp n:Nat) (wl:List (List Nat)):Prop:=∃N P,Rg.RingAt w p gn gp N P∧Rg.Rings n N P wl
section
variable {w w':World} {p gn gp n x y:Nat} {wl:List (List Nat)} {S:List Nat}
theorem RgAt.keep (h:RgAt w p gn gp n wl) (k:Keeps S w w') (h1:p∉S) (h2:gn∉S) (h3:gp∉S):RgAt w' p gn gp n wl:=by
 obtain ⟨N,P,a,b⟩:=h
 exact ⟨N,P,a.keep k h1 h2 h3,b⟩
theorem RgAt.lt (h:RgAt w p gn gp n wl):p<w.heap.size∧gn<w.heap.size∧gp<w.heap.size:=by
 obtain ⟨N,P,a,b⟩:=h
 exact a.lt
theorem RgAt.rings (h:RgAt w p gn gp n wl):∃N P,Rg.Rings n N P wl:=by
 obtain ⟨N,P,a,b⟩:=h
 exact ⟨N,P,b⟩
theorem rg_splice (h:RgAt w p gn gp n wl) (hn:n<=65536) (hx:x<n) (hy:y<n) :
  Calls Tryz.prog 396 #[.pointer (some ⟨p,0,none⟩),.int .i64 x,.int .i64 y] w fun e w'=>e=.returned (.bool true)∧RgAt w' p gn gp n (Rg.spliceZ wl x y).1∧Keeps [gn,gp] w w':=by
 obtain ⟨N,P,a,b⟩:=h
 have hl:=b.ln
 refine (Rg.splice_yes w p gn gp N P a (by omega) x y (by omega) (by omega) (by rw [hl];exact (b.inv x hx).1) (by rw [hl];exact (b.inv y hy).1) (fun hne e=>hne (b.inj hx hy e))).mono ?_
 rintro e w' ⟨rfl,h1,h2⟩
 exact ⟨rfl,⟨_,_,h1,(b.splice hx hy).2⟩,h2⟩
theorem rg_part (h:RgAt w p gn gp n wl) (hn:n<=65536) (hx:x<n) :
  Calls Tryz.prog 390 #[.pointer (some ⟨p,0,none⟩),.int .i64 x] w fun e w'=>e=.returned (.bool true)∧RgAt w' p gn gp n (Rg.partZ wl x).1∧Keeps [gn,gp] w w':=by
 obtain ⟨N,P,a,b⟩:=h
 have hl:=b.ln
 have hp:=(b.inv x hx).2.1
 refine (Rg.part_yes w p gn gp N P a (by omega) x (by omega) (by rw [hl];exact hp) (by rw [hl];exact (b.inv x hx).1) (by rw [hl];exact (b.inv _ hp).1) (fun hne e=>hne (b.inj hx hp e))).mono ?_
 rintro e w' ⟨rfl,h1,h2⟩
 exact ⟨rfl,⟨_,_,h1,(b.part hx).2⟩,h2⟩
theorem rg_all (h:RgAt w p gn gp n wl) (hn:n<=65536) (hx:x<n) :
  Calls Tryz.prog 391 #[.pointer (some ⟨p,0,none⟩),.int .i64 x] w fun e w'=>∃v,e=.returned v∧Rg.IR w.heap.size w' v (Rg.allZ wl x)∧Below w.heap.size w w':=by
 obtain ⟨N,P,a,b⟩:=h
 have hl:=b.ln
 obtain ⟨lx,rx,hlx,hxl,hax,hpx,hndx,hmx,hbx⟩:=b.home hx
 rw [hax]
 have hlen:=nodup_len hndx (n:=n) (fun z hz=>by
  rcases List.mem_cons.1 hz with rfl|hz
  .exact hx
  .exact hbx z hz)
 simp only [List.length_cons] at hlen
 exact Rg.all_yes w p gn gp N P a (by omega) x (by omega) rx hpx (List.nodup_cons.1 hndx).1 (fun z hz=>by rw [hl];exact hbx z hz) (by omega)
end
def placeV (U kid:Nat->Option Nat) (deg:Nat->Nat) (mk:Nat->Bool) (x:Nat):List Value:=[.int .i64 (oZ (U x)),.int .i64 (oZ (kid x)),.int .i64 (deg x),.bool (mk x)]
structure FibQ (w:World) (p pc pr gn gp gt gT cT:Nat) (Fc:List Nat) (cap hs:Nat) (E:Ent) (wl:List (List Nat)) (U kid:Nat->Option Nat) (deg:Nat->Nat) (mk:Nat->Bool) (top:Nat->Option Nat):Prop where
 nd:(p::pr::gn::gp::gt::gT::Fc).Nodup
 blk:w.heap[p]?=some (.cells #[.pointer (some ⟨pc,0,none⟩),.pointer (some ⟨pr,0,none⟩),.slice (some ⟨gt,0,none⟩) cap cap,.slice (some ⟨gT,0,none⟩) (hs+1) cT] 224 (0,0))
 ce:CellsAt w Fc pc cap hs E
 rg:RgAt w pr gn gp cap wl
 ar:Arr w 226 4 cap gt (placeV U kid deg mk)
 tr:TopRow w gT (hs+1) cT top
 cp:cap<=65536
def FibAt (w:World) (F:List Nat) (p cap hs:Nat) (E:Ent):Prop :=
 ∃(pc pr gn gp gt gT cT:Nat) (Fc:List Nat) (wl:List (List Nat)) (U kid:Nat->Option Nat) (deg:Nat->Nat) (mk:Nat->Bool) (top:Nat->Option Nat),F=p::pr::gn::gp::gt::gT::Fc ∧
  FibQ w p pc pr gn gp gt gT cT Fc cap hs E wl U kid deg mk top∧FibO E cap (Rl wl) U kid deg top
section
variable {w w':World} {p pc pr gn gp gt gT cT cap hs:Nat} {F Fc S:List Nat} {E E':Ent} {wl wl':List (List Nat)} {U kid top top':Nat->Option Nat} {deg:Nat->Nat} {mk:Nat->Bool}
theorem FibQ.apart (h:FibQ w p pc pr gn gp gt gT cT Fc cap hs E wl U kid deg mk top) :
  (p≠pr∧p≠gn∧p≠gp∧p≠gt∧p≠gT∧p∉Fc)∧(pr≠gn∧pr≠gp∧pr≠gt∧pr≠gT∧pr∉Fc)∧(gn≠gp∧gn≠gt∧gn≠gT∧gn∉Fc)∧(gp≠gt∧gp≠gT∧gp∉Fc)∧(gt≠gT∧gt∉Fc)∧gT∉Fc:=by
 have:=h.nd
 simp only [List.nodup_cons,List.mem_cons,not_or] at this
 obtain ⟨a,b,c,d,e,f,_⟩:=this
 exact ⟨a,b,c,d,e,f⟩
theorem FibQ.lt (h:FibQ w p pc pr gn gp gt gT cT Fc cap hs E wl U kid deg mk top):∀b∈p::pr::gn::gp::gt::gT::Fc,b<w.heap.size:=by
 obtain ⟨r1,r2,r3⟩:=h.rg.lt
 intro b hb
 simp only [List.mem_cons] at hb
 rcases hb with rfl|rfl|rfl|rfl|rfl|rfl|hb
 .exact lt_of_block h.blk
 .exact r1
 .exact r2
 .exact r3
 .exact h.ar.lt
 .exact h.tr.lt
 .exact h.ce.lt b hb
theorem FibQ.keep (h:FibQ w p pc pr gn gp gt gT cT Fc cap hs E wl U kid deg mk top) (k:Keeps S w w') (hS:∀b∈p::pr::gn::gp::gt::gT::Fc,b∉S):FibQ w' p pc pr gn gp gt gT cT Fc cap hs E wl U kid deg mk top :=
 ⟨h.nd,k.blk h.blk (hS p (by simp)),h.ce.keep k (fun b hb=>hS b (by simp [hb])),h.rg.keep k (hS pr (by simp)) (hS gn (by simp)) (hS gp (by simp)),h.ar.keep k (hS gt (by simp)),h.tr.keep k (hS gT (by simp)),h.cp⟩
theorem FibQ.same (h:FibQ w p pc pr gn gp gt gT cT Fc cap hs E wl U kid deg mk top) (k:Keeps [] w w'):FibQ w' p pc pr gn gp gt gT cT Fc cap hs E wl U kid deg mk top:=h.keep k (by simp)
theorem FibQ.cells (h:FibQ w p pc pr gn gp gt gT cT Fc cap hs E wl U kid deg mk top) (hc:CellsAt w' Fc pc cap hs E') (k:Keeps Fc w w'):FibQ w' p pc pr gn gp gt gT cT Fc cap hs E' wl U kid deg mk top:=by
 obtain ⟨⟨_,_,_,_,_,a⟩,⟨_,_,_,_,b⟩,⟨_,_,_,c⟩,⟨_,_,d⟩,⟨_,e⟩,f⟩:=h.apart
 exact ⟨h.nd,k.blk h.blk a,hc,h.rg.keep k b c d,h.ar.keep k e,h.tr.keep k f,h.cp⟩
theorem FibQ.ring (h:FibQ w p pc pr gn gp gt gT cT Fc cap hs E wl U kid deg mk top) (hr:RgAt w' pr gn gp cap wl') (k:Keeps [gn,gp] w w'):FibQ w' p pc pr gn gp gt gT cT Fc cap hs E wl' U kid deg mk top:=by
 obtain ⟨⟨a1,a2,a3,a4,a5,a6⟩,⟨b1,b2,b3,b4,b5⟩,⟨c1,c2,c3,c4⟩,⟨d1,d2,d3⟩,⟨e1,e2⟩,f⟩:=h.apart
 exact ⟨h.nd,k.blk h.blk (by simp;exact ⟨a2,a3⟩),h.ce.keep k (fun b hb e=>by
  simp only [List.mem_cons,List.not_mem_nil,or_false] at e
  rcases e with rfl|rfl
  .exact c4 hb
  .exact d3 hb),hr,h.ar.keep k (by simp;exact ⟨c2.symm,d1.symm⟩),h.tr.keep k (by simp;exact ⟨c3.symm,d2.symm⟩),h.cp⟩
theorem FibQ.setTop (h:FibQ w p pc pr gn gp gt gT cT Fc cap hs E wl U kid deg mk top) {g:Nat} (h1:1<=g) (h2:g<=hs) (o:Option Nat) :
  FibQ (w.setCell ⟨gT,g,none⟩ (.int .i64 (oZ o))) p pc pr gn gp gt gT cT Fc cap hs E wl U kid deg mk (upd top g o):=by
 obtain ⟨⟨a1,a2,a3,a4,a5,a6⟩,⟨b1,b2,b3,b4,b5⟩,⟨c1,c2,c3,c4⟩,⟨d1,d2,d3⟩,⟨e1,e2⟩,f⟩:=h.apart
 have k:Keeps [gT] w (w.setCell ⟨gT,g,none⟩ (.int .i64 (oZ o))):=(Keeps.refl _ _).setCell (.inl (by simp)) _
 exact ⟨h.nd,k.blk h.blk (by simpa using a5),h.ce.keep k (fun b hb e=>by simp only [List.mem_singleton] at e;exact f (e ▸ hb)),h.rg.keep k (by simpa using b4) (by simpa using c3) (by simpa using d2),h.ar.keep k (by simpa using e1),h.tr.set (by omega) (by omega) o,h.cp⟩
theorem FibQ.setPlace (h:FibQ w p pc pr gn gp gt gT cT Fc cap hs E wl U kid deg mk top) {x j:Nat} (hx:x<cap) (hj:j<4) (v:Value) {U' kid':Nat->Option Nat} {deg':Nat->Nat} {mk':Nat->Bool}
  (e:upd (placeV U kid deg mk) x ((placeV U kid deg mk x).set j v)=placeV U' kid' deg' mk'):FibQ (w.setCell ⟨gt,x*4+j,none⟩ v) p pc pr gn gp gt gT cT Fc cap hs E wl U' kid' deg' mk' top:=by
 obtain ⟨⟨a1,a2,a3,a4,a5,a6⟩,⟨b1,b2,b3,b4,b5⟩,⟨c1,c2,c3,c4⟩,⟨d1,d2,d3⟩,⟨e1,e2⟩,f⟩:=h.apart
 have k:Keeps [gt] w (w.setCell ⟨gt,x*4+j,none⟩ v):=(Keeps.refl _ _).setCell (.inl (by simp)) _
 exact ⟨h.nd,k.blk h.blk (by simpa using a4),h.ce.keep k (fun b hb e=>by simp only [List.mem_singleton] at e;exact e2 (e ▸ hb)),h.rg.keep k (by simpa using b3) (by simpa using c2) (by simpa using d1),by rw [<-e];exact h.ar.set hx hj v,h.tr.keep k (by simpa using e1.symm),h.cp⟩
theorem place_up (x:Nat) (o:Option Nat):upd (placeV U kid deg mk) x ((placeV U kid deg mk x).set 0 (.int .i64 (oZ o)))=placeV (upd U x o) kid deg mk:=by
 funext j
 by_cases e:j=x
 .subst e;rw [upd_same];simp [placeV,upd_same]
 .rw [upd_other _ _ e];simp only [placeV,upd_other U _ e]
theorem place_kid (x:Nat) (o:Option Nat):upd (placeV U kid deg mk) x ((placeV U kid deg mk x).set 1 (.int .i64 (oZ o)))=placeV U (upd kid x o) deg mk:=by
 funext j
 by_cases e:j=x
 .subst e;rw [upd_same];simp [placeV,upd_same]
 .rw [upd_other _ _ e];simp only [placeV,upd_other kid _ e]
theorem place_deg (x d:Nat):upd (placeV U kid deg mk) x ((placeV U kid deg mk x).set 2 (.int .i64 (d:Nat)))=placeV U kid (upd deg x d) mk:=by
 funext j
 by_cases e:j=x
 .subst e;rw [upd_same];simp [placeV,upd_same]
 .rw [upd_other _ _ e];simp only [placeV,upd_other deg _ e]
theorem place_mark (x:Nat) (b:Bool):upd (placeV U kid deg mk) x ((placeV U kid deg mk x).set 3 (.bool b))=placeV U kid deg (upd mk x b):=by
 funext j
 by_cases e:j=x
 .subst e;rw [upd_same];simp [placeV,upd_same]
 .rw [upd_other _ _ e];simp only [placeV,upd_other mk _ e]
theorem FibQ.c0 (h:FibQ w p pc pr gn gp gt gT cT Fc cap hs E wl U kid deg mk top):w.cell? ⟨p,0,none⟩=some (.pointer (some ⟨pc,0,none⟩)):=by rw [cell_of_blk h.blk];rfl
theorem FibQ.c1 (h:FibQ w p pc pr gn gp gt gT cT Fc cap hs E wl U kid deg mk top):w.cell? ⟨p,1,none⟩=some (.pointer (some ⟨pr,0,none⟩)):=by rw [cell_of_blk h.blk];rfl
theorem FibQ.c2 (h:FibQ w p pc pr gn gp gt gT cT Fc cap hs E wl U kid deg mk top):w.cell? ⟨p,2,none⟩=some (.slice (some ⟨gt,0,none⟩) cap cap):=by rw [cell_of_blk h.blk];rfl
theorem FibQ.c3 (h:FibQ w p pc pr gn gp gt gT cT Fc cap hs E wl U kid deg mk top):w.cell? ⟨p,3,none⟩=some (.slice (some ⟨gT,0,none⟩) (hs+1) cT):=by rw [cell_of_blk h.blk];rfl
theorem FibQ.k0 (h:FibQ w p pc pr gn gp gt gT cT Fc cap hs E wl U kid deg mk top) {x:Nat} (hx:x<cap):w.cell? ⟨gt,x*4,none⟩=some (.int .i64 (oZ (U x))):=h.ar.cell (j:=0) hx (by decide)
theorem FibQ.k1 (h:FibQ w p pc pr gn gp gt gT cT Fc cap hs E wl U kid deg mk top) {x:Nat} (hx:x<cap):w.cell? ⟨gt,x*4+1,none⟩=some (.int .i64 (oZ (kid x))):=h.ar.cell (j:=1) hx (by decide)
theorem FibQ.k2 (h:FibQ w p pc pr gn gp gt gT cT Fc cap hs E wl U kid deg mk top) {x:Nat} (hx:x<cap):w.cell? ⟨gt,x*4+2,none⟩=some (.int .i64 (deg x:Nat)):=h.ar.cell (j:=2) hx (by decide)
theorem FibQ.k3 (h:FibQ w p pc pr gn gp gt gT cT Fc cap hs E wl U kid deg mk top) {x:Nat} (hx:x<cap):w.cell? ⟨gt,x*4+3,none⟩=some (.bool (mk x)):=h.ar.cell (j:=3) hx (by decide)
theorem FibAt.lt (h:FibAt w F p cap hs E):∀b∈F,b<w.heap.size:=by
 obtain ⟨pc,pr,gn,gp,gt,gT,cT,Fc,wl,U,kid,deg,mk,top,rfl,q,o⟩:=h;exact q.lt
theorem FibAt.mem (h:FibAt w F p cap hs E):p∈F:=by
 obtain ⟨pc,pr,gn,gp,gt,gT,cT,Fc,wl,U,kid,deg,mk,top,rfl,q,o⟩:=h;simp
theorem FibAt.keep (h:FibAt w F p cap hs E) (k:Keeps S w w') (hS:∀b∈F,b∉S):FibAt w' F p cap hs E:=by
 obtain ⟨pc,pr,gn,gp,gt,gT,cT,Fc,wl,U,kid,deg,mk,top,rfl,q,o⟩:=h
 exact ⟨pc,pr,gn,gp,gt,gT,cT,Fc,wl,U,kid,deg,mk,top,rfl,q.keep k hS,o⟩
theorem FibAt.ok (h:FibAt w F p cap hs E):EntOk E cap hs:=by
 obtain ⟨pc,pr,gn,gp,gt,gT,cT,Fc,wl,U,kid,deg,mk,top,rfl,q,o⟩:=h;exact q.ce.ok
end
section
variable (w:World) (p pc pr gn gp gt gT cT:Nat) (Fc:List Nat) (cap hs:Nat) (E:Ent) (wl:List (List Nat)) (U kid:Nat->Option Nat) (deg:Nat->Nat) (mk:Nat->Bool) (top:Nat->Option Nat)
def UnderDone (c d:Nat) (w':World):Prop :=
 ∃(wl':List (List Nat)) (mk':Nat->Bool),FibQ w' p pc pr gn gp gt gT cT Fc cap hs E wl' (upd U d (some c)) (upd kid c (some d)) (upd deg c (deg c+1)) mk' top ∧
  (∀u v,u<cap->(Rl wl' u v↔Rl wl u v∨((U u=some c∨u=d)∧(U v=some c∨v=d))))∧Keeps (p::pr::gn::gp::gt::gT::Fc) w w'
theorem fib_under (q:FibQ w p pc pr gn gp gt gT cT Fc cap hs E wl U kid deg mk top) (h c d:Nat) (m:FibM E cap (Rl wl) U kid deg top h (fun _=>False)) (hc:rootOf E U h c) (hd:rootOf E U h d) (hne:c≠d) :
  Calls Tryz.prog 398 #[.pointer (some ⟨p,0,none⟩),.int .i64 d,.int .i64 c] w fun e w'=>e=.returned (.tuple #[])∧UnderDone w p pc pr gn gp gt gT cT Fc cap hs E wl U kid deg top c d w':=by
 have hcc:=hc.lt m
 have hdc:=hd.lt m
 have hdl:=m.degLe c
 have hcp:=q.cp
 have c1:=q.c1
 have c2:=q.c2
 have d1:=q.k1 hcc
 have hc3:(c:Int)<(cap:Int):=by omega
 have hd3:(d:Int)<(cap:Int):=by omega
 have hfin:∀w1 wl',FibQ w1 p pc pr gn gp gt gT cT Fc cap hs E wl' U kid deg mk top->Keeps (p::pr::gn::gp::gt::gT::Fc) w w1->(∀u v,u<cap->(Rl wl' u v↔Rl wl u v∨((U u=some c∨u=d)∧(U v=some c∨v=d)))) ->
   w1.frozen? ⟨gt,c*4+1,none⟩=false∧(w1.setCell ⟨gt,c*4+1,none⟩ (.int .i64 (d:Int))).cell? ⟨gt,c*4+2,none⟩=some (.int .i64 (deg c:Nat))∧w1.frozen? ⟨gt,c*4+2,none⟩=false ∧
    (∃v,((w1.setCell ⟨gt,c*4+1,none⟩ (.int .i64 (d:Int))).setCell ⟨gt,c*4+2,none⟩ (.int .i64 ((deg c:Int)+1))).cell? ⟨gt,d*4,none⟩=some v)∧w1.frozen? ⟨gt,d*4,none⟩=false ∧
    (∃v,(((w1.setCell ⟨gt,c*4+1,none⟩ (.int .i64 (d:Int))).setCell ⟨gt,c*4+2,none⟩ (.int .i64 ((deg c:Int)+1))).setCell ⟨gt,d*4,none⟩ (.int .i64 (c:Int))).cell? ⟨gt,d*4+3,none⟩=some v)∧w1.frozen? ⟨gt,d*4+3,none⟩=false ∧
    Hid (UnderDone w p pc pr gn gp gt gT cT Fc cap hs E wl U kid deg top c d ((((w1.setCell ⟨gt,c*4+1,none⟩ (.int .i64 (d:Int))).setCell ⟨gt,c*4+2,none⟩ (.int .i64 ((deg c:Int)+1))).setCell ⟨gt,d*4,none⟩ (.int .i64 (c:Int))).setCell ⟨gt,d*4+3,none⟩ (.bool false))):=by
  intro w1 wl' q1 k1 hR
  have q2:=q1.setPlace hcc (j:=1) (by decide) _ (place_kid c (some d))
  have q3:=q2.setPlace hcc (j:=2) (by decide) _ (place_deg c (deg c+1))
  have q4:=q3.setPlace hdc (j:=0) (by decide) _ (place_up d (some c))
  have q5:=q4.setPlace hdc (j:=3) (by decide) _ (place_mark d false)
  refine ⟨q1.ar.frozen _,q2.k2 hcc,q1.ar.frozen _,⟨_,q3.k0 hdc⟩,q1.ar.frozen _,⟨_,q4.k3 hdc⟩,q1.ar.frozen _,wl',_,q5,hR,?_⟩
  exact (((k1.setCell (.inl (by simp)) _).setCell (.inl (by simp)) _).setCell (.inl (by simp)) _).setCell (.inl (by simp)) _
 cases ek:kid c with
 | none =>
  rw [ek] at d1
  simp only [oZ_none] at d1
  have hR:∀u v,u<cap->(Rl wl u v↔Rl wl u v∨((U u=some c∨u=d)∧(U v=some c∨v=d))):=fun u v hu=>by
   have hno:∀z,U z≠some c:=fun z e=>by have:=m.kidN c z e;rw [ek] at this;cases this
   constructor
   .exact fun a=>.inl a
   .rintro (a|⟨a|a,b|b⟩)
    .exact a
    .exact absurd a (hno u)
    .exact absurd a (hno u)
    .exact absurd b (hno v)
    .rw [a,b];exact (m.rel d d hdc).2 (.inl rfl)
  have hall:∀n,(w.drewN n).cell? ⟨gt,c*4+1,none⟩=some (.int .i64 (-1))∧(w.drewN n).frozen? ⟨gt,c*4+1,none⟩=false∧((w.drewN n).setCell ⟨gt,c*4+1,none⟩ (.int .i64 (d:Int))).cell? ⟨gt,c*4+2,none⟩=some (.int .i64 (deg c:Nat))∧(w.drewN n).frozen? ⟨gt,c*4+2,none⟩=false ∧
    (∃v,(((w.drewN n).setCell ⟨gt,c*4+1,none⟩ (.int .i64 (d:Int))).setCell ⟨gt,c*4+2,none⟩ (.int .i64 ((deg c:Int)+1))).cell? ⟨gt,d*4,none⟩=some v)∧(w.drewN n).frozen? ⟨gt,d*4,none⟩=false ∧
    (∃v,((((w.drewN n).setCell ⟨gt,c*4+1,none⟩ (.int .i64 (d:Int))).setCell ⟨gt,c*4+2,none⟩ (.int .i64 ((deg c:Int)+1))).setCell ⟨gt,d*4,none⟩ (.int .i64 (c:Int))).cell? ⟨gt,d*4+3,none⟩=some v)∧(w.drewN n).frozen? ⟨gt,d*4+3,none⟩=false ∧
    Hid (UnderDone w p pc pr gn gp gt gT cT Fc cap hs E wl U kid deg top c d (((((w.drewN n).setCell ⟨gt,c*4+1,none⟩ (.int .i64 (d:Int))).setCell ⟨gt,c*4+2,none⟩ (.int .i64 ((deg c:Int)+1))).setCell ⟨gt,d*4,none⟩ (.int .i64 (c:Int))).setCell ⟨gt,d*4+3,none⟩ (.bool false))):=fun n=>by
   have kd:Keeps [] w (w.drewN n):=(Keeps.refl _ _).drewN n
   obtain ⟨z1,z2,z3,z4,z5,z6,z7,z8⟩:=hfin (w.drewN n) wl (q.same kd) (kd.mono (by simp)) hR
   have:=(q.same kd).k1 hcc
   rw [ek] at this
   exact ⟨this,z1,z2,z3,z4,z5,z6,z7,z8⟩
  have HA:=Lib.hid hall
  clear hall hfin hR q m hc hd ek d1 c1
  generalize hdd:deg c=dc at *
  clear hdd
  go_enter Tryz.func398,Tryz.ntmps398
  go_wp2_with fail
  go_quiet (fail)
  obtain ⟨z0,z1,z2,z3,⟨v4,z4⟩,z5,⟨v6,z6⟩,z7,z8⟩:=HA.out nq
  generalize w.drewN nq=w0 at *
  clear HA c2
  go_wp2_with fail
  go_end0
  exact ⟨rfl,z8.out⟩
 | some k =>
  rw [ek] at d1
  simp only [oZ_some] at d1
  have hkc:=m.kidLt (m.kidS c k ek)
  have hk1:((k:Int) != -1)=true:=by rw [bne_iff_ne];omega
  have hno:¬Rl wl k d:=fun a=>by
   have:=(m.ringKid ek hkc d).1 a
   rw [hd.2] at this;cases this
  obtain ⟨N,P,hr⟩:=q.rg.rings
  have hR:∀u v,u<cap->(Rl (Rg.spliceZ wl k d).1 u v↔Rl wl u v∨((U u=some c∨u=d)∧(U v=some c∨v=d))):=fun u v hu=>by
   rw [rl_splice hr hkc hdc hno hu,m.ringKid ek hkc,m.ringKid ek hkc,m.ringLoose hd (fun a=>a),m.ringLoose hd (fun a=>a),eq_comm (a:=d) (b:=u),eq_comm (a:=d) (b:=v)]
  have hall:∀n,(w.drewN n).cell? ⟨p,1,none⟩=some (.pointer (some ⟨pr,0,none⟩))∧(w.drewN n).cell? ⟨gt,c*4+1,none⟩=some (.int .i64 (k:Int)) ∧
    Hid (Calls Tryz.prog 396 #[.pointer (some ⟨pr,0,none⟩),.int .i64 k,.int .i64 d] (w.drewN n).drew fun e w1=>e=.returned (.bool true)∧(∃v,w1.cell? ⟨gt,c*4+1,none⟩=some v)∧w1.frozen? ⟨gt,c*4+1,none⟩=false∧(w1.setCell ⟨gt,c*4+1,none⟩ (.int .i64 (d:Int))).cell? ⟨gt,c*4+2,none⟩=some (.int .i64 (deg c:Nat))∧w1.frozen? ⟨gt,c*4+2,none⟩=false ∧
    (∃v,((w1.setCell ⟨gt,c*4+1,none⟩ (.int .i64 (d:Int))).setCell ⟨gt,c*4+2,none⟩ (.int .i64 ((deg c:Int)+1))).cell? ⟨gt,d*4,none⟩=some v)∧w1.frozen? ⟨gt,d*4,none⟩=false ∧
    (∃v,(((w1.setCell ⟨gt,c*4+1,none⟩ (.int .i64 (d:Int))).setCell ⟨gt,c*4+2,none⟩ (.int .i64 ((deg c:Int)+1))).setCell ⟨gt,d*4,none⟩ (.int .i64 (c:Int))).cell? ⟨gt,d*4+3,none⟩=some v)∧w1.frozen? ⟨gt,d*4+3,none⟩=false ∧
    Hid (UnderDone w p pc pr gn gp gt gT cT Fc cap hs E wl U kid deg top c d ((((w1.setCell ⟨gt,c*4+1,none⟩ (.int .i64 (d:Int))).setCell ⟨gt,c*4+2,none⟩ (.int .i64 ((deg c:Int)+1))).setCell ⟨gt,d*4,none⟩ (.int .i64 (c:Int))).setCell ⟨gt,d*4+3,none⟩ (.bool false)))):=fun n=>by
   have kd:Keeps [] w (w.drewN n):=(Keeps.refl _ _).drewN n
   have kd2:Keeps [] w (w.drewN n).drew:=kd.drew
   have q1:=q.same kd
   have q2:=q.same kd2
   have:=q1.k1 hcc
   rw [ek] at this
   refine ⟨q1.c1,this,(rg_splice q2.rg q.cp hkc hdc).mono ?_⟩
   rintro e w1 ⟨rfl,hr1,k1⟩
   have q3:=q2.ring hr1 k1
   obtain ⟨z1,z2,z3,z4,z5,z6,z7,z8⟩:=hfin w1 _ q3 ((kd2.mono (T:=p::pr::gn::gp::gt::gT::Fc) (by simp)).trans k1 (fun b hb=>.inl (by simp only [List.mem_cons,List.not_mem_nil,or_false] at hb ⊢;rcases hb with c|c<;>simp [c]))) hR
   exact ⟨rfl,⟨_,q3.k1 hcc⟩,z1,z2,z3,z4,z5,z6,z7,z8⟩
  have HA:=Lib.hid hall
  clear hall hfin hR q m hc hd ek hr hno c1
  generalize hdd:deg c=dc at *
  clear hdd
  go_enter Tryz.func398,Tryz.ntmps398
  go_wp2_with fail
  go_quiet (fail)
  obtain ⟨y0,y1,y2⟩:=HA.out nq
  generalize w.drewN nq=w0 at *
  clear HA c2 d1
  go_upto_region 2 with fail
  go_region_law (first
   | (go_simp;go_at_call 396;refine y2.out.mono ?_;rintro e w1 ⟨rfl,⟨v1,z0⟩,z1,z2,z3,⟨v4,z4⟩,z5,⟨v6,z6⟩,z7,z8⟩))
  all_goals
   clear y0 y1 y2
   go_wp2_with fail
   go_end0
   exact ⟨rfl,z8.out⟩
end
end Go.Proofs.YtkdbjelhkfdfjaaGreatDoor
namespace Go.Proofs.YtkdbjelhkfdfjaaGreatDoor
def offKid (kid next:Nat->Option Nat) (p x:Nat):Nat->Option Nat:=if kid p=some x then upd kid p (next x) else kid
def offNext (kid next back:Nat->Option Nat) (p x:Nat):Nat->Option Nat:=upd (if kid p=some x then next else upd next ((back x).getD 0) (next x)) x none
def offBack (next back:Nat->Option Nat) (x:Nat):Nat->Option Nat:=upd (match next x with|some y=>upd back y (back x)|none=>back) x none
section
variable {E:Ent} {K:Nat->List Nat} {kid next back U top:Nat->Option Nat} {x p i h q:Nat}
theorem nodup_at {l:List Nat} (hd:l.Nodup) {i j x:Nat} (a:l[i]?=some x) (b:l[j]?=some x):i=j :=
 (List.getElem?_inj (List.getElem?_eq_some_iff.1 a).1 hd).1 (a.trans b.symm)
theorem Ties.backAt (h:Ties K kid next back U) (e:(K p)[i]?=some x):(i=0∧back x=some p∧kid p=some x)∨(0<i∧back x=(K p)[i - 1]?∧kid p≠some x):=by
 cases i with
 | zero=>exact .inl ⟨rfl,h.bk0 p x e,by rw [h.kid];exact e⟩
 | succ i=>exact .inr ⟨by omega,h.bkS p i x e,fun c=>by rw [h.kid] at c;have:=nodup_at (h.nd p) c e;omega⟩
theorem Ties.off (h:Ties K kid next back U) (e:(K p)[i]?=some x):Ties (upd K p ((K p).eraseIdx i)) (offKid kid next p x) (offNext kid next back p x) (offBack next back x) (upd U x none):=by
 have hx:=h.above e
 have hnd:=h.nd p
 have hnx:=h.nx p i x e
 have hU:∀j y,(K p)[j]?=some y->U y=some p:=fun j y c=>h.above c
 have hne:∀j y,(K p)[j]?=some y->j≠i->y≠x:=fun j y c d f=>d (nodup_at hnd c (f ▸ e))
 have hb:=h.backAt e
 have nxt:∀j y,(K p)[j]?=some y->j≠i->offNext kid next back p x y=if j+1=i then next x else next y:=fun j y c d=>by
  have hyx:=hne j y c d
  unfold offNext
  rw [upd_other _ _ hyx]
  rcases hb with ⟨b1,b2,b3⟩|⟨b1,b2,b3⟩
  .rw [if_pos b3,if_neg (by omega)]
  .rw [if_neg b3]
   obtain ⟨s,hs⟩:∃s,(K p)[i - 1]?=some s:=⟨_,List.getElem?_eq_getElem (by have:=(List.getElem?_eq_some_iff.1 e).1;omega)⟩
   rw [b2,hs]
   by_cases f:j+1=i
   .have:(K p)[i - 1]?=some y:=by rw [<-f];simpa using c
    rw [hs] at this;cases this
    rw [if_pos f];exact upd_same _ _ _
   .rw [if_neg f]
    exact upd_other _ _ (fun g=>f (by have:=nodup_at hnd c (g ▸ hs:(K p)[i - 1]?=some y);omega))
 have nxo:∀y,U y≠some p->y≠x->offNext kid next back p x y=next y:=fun y c d=>by
  unfold offNext
  rw [upd_other _ _ d]
  rcases hb with ⟨b1,b2,b3⟩|⟨b1,b2,b3⟩
  .rw [if_pos b3]
  .rw [if_neg b3]
   obtain ⟨s,hs⟩:∃s,(K p)[i - 1]?=some s:=⟨_,List.getElem?_eq_getElem (by have:=(List.getElem?_eq_some_iff.1 e).1;omega)⟩
   rw [b2,hs]
   exact upd_other _ _ (fun g=>c (by rw [g];exact hU _ _ hs))
 have bkt:∀j y,(K p)[j]?=some y->j≠i->offBack next back x y=if j=i+1 then back x else back y:=fun j y c d=>by
  have hyx:=hne j y c d
  unfold offBack
  rw [upd_other _ _ hyx,hnx]
  cases hz:(K p)[i+1]? with
  | none =>
   have:j≠i+1:=fun f=>by rw [f,hz] at c;cases c
   rw [if_neg this]
  | some z =>
   by_cases f:j=i+1
   .subst f;rw [hz] at c;cases c
    rw [if_pos rfl];exact upd_same _ _ _
   .rw [if_neg f]
    exact upd_other _ _ (fun g=>f (nodup_at hnd c (g ▸ hz)))
 have bko:∀y,U y≠some p->y≠x->offBack next back x y=back y:=fun y c d=>by
  unfold offBack
  rw [upd_other _ _ d,hnx]
  cases hz:(K p)[i+1]? with
  | none=>rfl
  | some z=>exact upd_other _ _ (fun g=>c (by rw [g];exact hU _ _ hz))
 have hoth:∀r,r≠p->∀j y,(K r)[j]?=some y->U y≠some p∧y≠x:=fun r c j y d=>by
  have:=h.above d
  refine ⟨fun f=>?_,fun f=>?_⟩
  .rw [this] at f;cases f;exact c rfl
  .subst f;rw [hx] at this;cases this;exact c rfl
 have er:∀j,((K p).eraseIdx i)[j]?=if j<i then (K p)[j]? else (K p)[j+1]?:=fun j=>List.getElem?_eraseIdx
 refine ⟨fun r=>?_,fun r y=>?_,fun r=>?_,fun r j y c=>?_,fun r y c=>?_,fun r j y c=>?_,fun y c=>?_⟩
 .by_cases d:r=p
  .subst d
   rw [upd_same,er]
   unfold offKid
   rcases hb with ⟨b1,b2,b3⟩|⟨b1,b2,b3⟩
   .subst b1
    rw [if_pos b3,upd_same,if_neg (by omega)];exact hnx
   .rw [if_neg b3,if_pos b1];exact h.kid r
  .rw [upd_other _ _ d]
   unfold offKid
   split
   .rw [upd_other _ _ d];exact h.kid r
   .exact h.kid r
 .by_cases d:r=p
  .subst d
   rw [upd_same,List.mem_eraseIdx_iff_getElem?]
   constructor
   .rintro ⟨j,j1,j2⟩
    rw [upd_other _ _ (hne j y j2 j1)];exact hU j y j2
   .intro f
    by_cases g:y=x
    .subst g;rw [upd_same] at f;cases f
    .rw [upd_other _ _ g] at f
     obtain ⟨j,hj⟩:=List.getElem?_of_mem ((h.mem r y).2 f)
     exact ⟨j,fun k=>g (by subst k;rw [e] at hj;exact (Option.some.inj hj).symm),hj⟩
  .rw [upd_other _ _ d,h.mem]
   by_cases g:y=x
   .subst g
    rw [upd_same,hx]
    constructor
    .intro f;cases f;exact absurd rfl d
    .intro f;cases f
   .rw [upd_other _ _ g]
 .by_cases d:r=p
  .subst d;rw [upd_same];exact hnd.sublist (List.eraseIdx_sublist _ _)
  .rw [upd_other _ _ d];exact h.nd r
 .by_cases d:r=p
  .subst d
   rw [upd_same,er] at c
   rw [upd_same,er]
   by_cases f:j<i
   .rw [if_pos f] at c
    rw [nxt j y c (by omega)]
    by_cases g:j+1=i
    .rw [if_pos g,if_neg (by omega),hnx,g]
    .rw [if_neg g,if_pos (by omega)];exact h.nx r j y c
   .rw [if_neg f] at c
    rw [nxt (j+1) y c (by omega),if_neg (by omega),if_neg (by omega)];exact h.nx r (j+1) y c
  .rw [upd_other _ _ d] at c ⊢
   obtain ⟨o1,o2⟩:=hoth r d j y c
   rw [nxo y o1 o2];exact h.nx r j y c
 .by_cases d:r=p
  .subst d
   rw [upd_same,er] at c
   by_cases f:0<i
   .rw [if_pos f] at c
    rw [bkt 0 y c (by omega),if_neg (by omega)];exact h.bk0 r y c
   .rw [if_neg f] at c
    obtain rfl:i=0:=by omega
    rw [bkt 1 y c (by omega),if_pos rfl];exact h.bk0 r x e
  .rw [upd_other _ _ d] at c
   obtain ⟨o1,o2⟩:=hoth r d 0 y c
   rw [bko y o1 o2];exact h.bk0 r y c
 .by_cases d:r=p
  .subst d
   rw [upd_same,er] at c
   rw [upd_same,er]
   by_cases f:j+1<i
   .rw [if_pos f] at c
    rw [if_pos (by omega),bkt (j+1) y c (by omega),if_neg (by omega)];exact h.bkS r j y c
   .rw [if_neg f] at c
    rw [bkt (j+1+1) y c (by omega)]
    by_cases g:j+1=i
    .rw [if_pos (by omega),if_pos (by omega)]
     rcases hb with ⟨b1,_⟩|⟨b1,b2,_⟩
     .omega
     .rw [b2];congr 1;omega
    .rw [if_neg (by omega),if_neg (by omega)];exact h.bkS r (j+1) y c
  .rw [upd_other _ _ d] at c ⊢
   obtain ⟨o1,o2⟩:=hoth r d (j+1) y c
   rw [bko y o1 o2];exact h.bkS r j y c
 .by_cases g:y=x
  .subst g
   exact ⟨upd_same _ _ _,upd_same _ _ _⟩
  .rw [upd_other _ _ g] at c
   have hup:U y≠some p:=by rw [c];simp
   rw [nxo y hup g,bko y hup g];exact h.root y c
theorem Par.low {k k':Int} (z:Par E U) (hu:U x=none) (he:E x=some (h,k,q)) (hk:k'<=k):Par (put E x (some (h,k',q))) U:=by
 intro y r e
 have hy:y≠x:=by rintro rfl;rw [hu] at e;cases e
 obtain ⟨a,b⟩:=z y r e
 exact ⟨by rw [hp_low he,hp_low he];exact a,ahead_low he hk hy b⟩
theorem Par.low2 {k k':Int} (z:Par E U) (he:E x=some (h,k,q)) (hk:k'<=k) (hup:∀r,U x=some r->ahead (put E x (some (h,k',q))) r x=true):Par (put E x (some (h,k',q))) U:=by
 intro y r e
 obtain ⟨a,b⟩:=z y r e
 refine ⟨by rw [hp_low he,hp_low he];exact a,?_⟩
 by_cases hy:y=x
 .subst hy;exact hup r e
 .exact ahead_low he hk hy b
theorem Pairs.low {k k':Int} (z:Pairs E K kid next back U top) (hu:U x=none) (he:E x=some (h,k,q)) (hk:k'<=k):Pairs (put E x (some (h,k',q))) K kid next back U top :=
 ⟨z.ties,z.par.low hu he hk,fun g y=>by rw [isIn_low he];exact z.all g y⟩
theorem Pairs.off (z:Pairs E K kid next back U top) (e:(K p)[i]?=some x) (hx:isIn E h x) :
  Pair E (upd K p ((K p).eraseIdx i)) (offKid kid next p x) (offNext kid next back p x) (offBack next back x) (upd U x none) h ((top h).toList++[x]) top:=by
 have hup:=z.ties.above e
 have hnt:∀g,top g≠some x:=fun g c=>by rw [((z.all g x).1 c).2] at hup;cases hup
 refine ⟨z.ties.off e,z.par.detach x,fun y=>?_,?_,fun g c y=>?_⟩
 .simp only [List.mem_append,List.mem_singleton]
  by_cases d:y=x
  .subst d;simp only [or_true,true_iff];exact ⟨hx,upd_same _ _ _⟩
  .rw [upd_other _ _ d,<-z.all]
   cases top h with
   | none=>simp [d]
   | some t=>simp [d,eq_comm]
 .cases ht:top h with
  | none=>simp
  | some y=>simp;rintro rfl;exact hnt h ht
 .rw [z.all]
  by_cases d:y=x
  .subst d
   rw [upd_same,hup]
   constructor
   .intro f;cases f.2
   .intro f;exact absurd (isIn_one f.1 hx) c
  .rw [upd_other _ _ d]
theorem Pair.low {k k':Int} {l:List Nat} {g:Nat} (z:Pair E K kid next back U g l top) (hu:U x=none) (he:E x=some (h,k,q)) (hk:k'<=k):Pair (put E x (some (h,k',q))) K kid next back U g l top :=
 ⟨z.ties,z.par.low hu he hk,fun y=>by rw [isIn_low he];exact z.here y,z.nd,fun r c y=>by rw [isIn_low he];exact z.apart r c y⟩
end
end Go.Proofs.YtkdbjelhkfdfjaaGreatDoor
namespace Go.Proofs.YtkdbjelhkfdfjaaGreatDoor
open Go.RowKit
section
variable {P:Program}
theorem results_cell2 {fn:Func} {p u:Tmp} {ty:TypeId} (h:fn.results=#[.cell p ty,.tmp u]) (tmps:Array Value) (w:World) (g:Nat) (t:TypeId) (cs:Array Value) (fr:Nat×Nat) (d:TypeDesc)
  (hp:tmps.getD p undef=.pointer (some ⟨g,0,none⟩)) (hg:w.heap[g]?=some (.cells cs t fr))
  (hu:P.underlying ty=some d) (hd:(match d with|.struct _|.array _ _=>true|_=>false)=true) (hi:(P.info? ty).map (·.size)=some cs.size) :
  (results fn tmps).run P w=.ok (.tuple #[.agg cs,tmps.getD u undef]) w:=by
 have hp':tmps[p]?.getD undef=.pointer (some ⟨g,0,none⟩):=by simpa using hp
 simp [results,h,hp',asAddr,Result.andThen,run_loadVar_row w g t ty cs fr d hg hu hd hi]
theorem results_cell3 {fn:Func} {p u v:Tmp} {ty:TypeId} (h:fn.results=#[.cell p ty,.tmp u,.tmp v]) (tmps:Array Value) (w:World) (g:Nat) (t:TypeId) (cs:Array Value) (fr:Nat×Nat) (d:TypeDesc)
  (hp:tmps.getD p undef=.pointer (some ⟨g,0,none⟩)) (hg:w.heap[g]?=some (.cells cs t fr))
  (hu:P.underlying ty=some d) (hd:(match d with|.struct _|.array _ _=>true|_=>false)=true) (hi:(P.info? ty).map (·.size)=some cs.size) :
  (results fn tmps).run P w=.ok (.tuple #[.agg cs,tmps.getD u undef,tmps.getD v undef]) w:=by
 have hp':tmps[p]?.getD undef=.pointer (some ⟨g,0,none⟩):=by simpa using hp
 simp [results,h,hp',asAddr,Result.andThen,run_loadVar_row w g t ty cs fr d hg hu hd hi]
end
end Go.Proofs.YtkdbjelhkfdfjaaGreatDoor

