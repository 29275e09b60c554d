/-
  Contracts that the law rests on. Conditions: none.
-/
import Derived.Test.YtkdbjelhkfdfjaaGreatDoorLo30
set_option linter.unusedVariables false
set_option maxRecDepth 100000
set_option maxHeartbeats 32000000
namespace Go.Proofs.YtkdbjelhkfdfjaaGreatDoor
open Go.RowKit
section
variable {w w':World} {p pc gt cap hs h:Nat} {vT:Value} {Fc S:List Nat} {E:Ent} {top:TopX} {Z l:List Nat}
theorem PairL.keep (s:PairL w p pc gt vT Fc cap hs E h top Z l) (k:Keeps S w w') (hS:∀b∈p::gt::Fc,b∉S):PairL w' p pc gt vT Fc cap hs E h top Z l:=by
 obtain ⟨K,kid,next,back,U,m,z,hZ⟩:=s
 exact ⟨K,kid,next,back,U,m.keep k hS,z,hZ⟩
theorem PairL.nd (s:PairL w p pc gt vT Fc cap hs E h top Z l):l.Nodup:=by obtain ⟨K,kid,next,back,U,m,z,hZ⟩:=s;exact (List.nodup_append.1 z.nd).1
theorem PairL.mem (s:PairL w p pc gt vT Fc cap hs E h top Z l):∀y∈l,y<cap:=by
 obtain ⟨K,kid,next,back,U,m,z,hZ⟩:=s
 exact fun y hy=>m.ce.ok.lt y ((z.here y).1 (List.mem_append.2 (.inl hy))).1.some
theorem PairL.lt (s:PairL w p pc gt vT Fc cap hs E h top Z l):p<w.heap.size∧gt<w.heap.size∧∀b∈Fc,b<w.heap.size:=by obtain ⟨K,kid,next,back,U,m,z,hZ⟩:=s;exact m.lt
end
theorem shed_list {x y z c d:Nat} {T D:List Nat} (hn:(x::(T++y::z::D)).Nodup) (hcd:(c=y∧d=z)∨(c=z∧d=y)) :
  (x::((T++[c])++D)).Nodup∧∀q,q∈x::((T++[c])++D)↔q∈x::(T++y::z::D)∧q≠d:=by
 have hp:(x::(T++y::z::D)).Perm (d::(x::((T++[c])++D))):=by
  rcases hcd with ⟨rfl,rfl⟩|⟨rfl,rfl⟩
  .have:=List.perm_middle (a:=d) (l₁:=x::(T++[c])) (l₂:=D)
   simpa using this
  .have:=List.perm_middle (a:=d) (l₁:=x::T) (l₂:=c::D)
   simpa using this
 have h2:=hp.nodup_iff.1 hn
 obtain ⟨h3,h4⟩:=List.nodup_cons.1 h2
 refine ⟨h4,fun q=>?_⟩
 rw [hp.mem_iff,List.mem_cons (a:=q) (b:=d)]
 constructor
 .intro h;exact ⟨.inr h,by rintro rfl;exact h3 h⟩
 .rintro ⟨h|h,hne⟩
  .exact absurd h hne
  .exact h
section
variable (w:World) (p pc gt:Nat) (vT:Value) (Fc:List Nat) (cap hs:Nat) (E:Ent) (h:Nat) (top:TopX)
def ShedDone (x:Nat) (e:Ending) (w':World):Prop:=∃C:Option Nat,e=.returned (.int .i64 (oZ C))∧PairL w' p pc gt vT Fc cap hs E h top [x] (x::C.toList)∧Keeps (gt::Fc) w w'
def ShedOff (x:Nat) (kids:List Nat) (v:Value) (w':World):Prop:=Rg.IR w.heap.size w' v kids∧PairL w' p pc gt vT Fc cap hs E h top [x] (x::kids)∧Keeps (gt::Fc) w w'
def ShedTwos (x:Nat) (v:Value) (w':World):Prop:=∃T:List Nat,Rg.IR w.heap.size w' v T∧PairL w' p pc gt vT Fc cap hs E h top [x] (x::T)∧Keeps (gt::Fc) w w'
theorem shed_calls (K:Nat->List Nat) (kid next back U:Nat->Option Nat) (m:PairMid w p pc gt vT Fc cap hs E kid next back) (x:Nat) (t:Pair E K kid next back U h (x::top.x) top.t) :
  Calls Tryz.prog 379 #[.pointer (some ⟨p,0,none⟩),.int .i64 x] w (ShedDone w p pc gt vT Fc cap hs E h top x):=by
 have hxi:=((t.here x).1 (by simp)).1
 have hxc:=m.ce.ok.lt x hxi.some
 have hbc:=m.ce.ok.bc
 have hcut:=t.cut
 have hkids:=kids_calls w p pc gt vT Fc cap hs E h K kid next back U m t.ties x hxi
 obtain ⟨l1,l2,l3⟩:=m.lt
 have hlp:∀b∈p::gt::Fc,b<w.heap.size:=by
  intro b hb
  simp only [List.mem_cons] at hb
  rcases hb with rfl|rfl|hb
  .exact l1
  .exact l2
  .exact l3 b hb
 have hkc:∀y∈K x,y<cap:=fun y hy=>by
  have:=t.par y x ((t.ties.mem x y).1 hy)
  exact m.ce.ok.lt y (ahead_some this.2).2
 have hlen:(K x).length<=cap:=nodup_len (t.ties.nd x) hkc
 obtain ⟨kids,hkd⟩:∃kids,K x=kids:=⟨_,rfl⟩
 have HCUT:=Lib.hid hcut
 have HM:=Lib.hid m
 rw [hkd] at hkids hkc hlen
 have HKD:=Lib.hid hkd
 have HKC:=Lib.hid hkc
 have HLP:=Lib.hid hlp
 have hpg:p≠gt:=m.ne.1.1
 clear hcut m t hkd hkc hxi hlp
 have hx3:(x:Int)<(cap:Int):=by omega
 go_enter Tryz.func379,Tryz.ntmps379
 go_upto_region 2 with (go_at_call 380;refine hkids.mono ?_;rintro e w1 ⟨v,rfl,hir,hb⟩)
 clear hkids
 have m1:=HM.out.below hb
 obtain ⟨ao,ca,rfl⟩:=hir.form
 have d1:=m1.c1
 have e0:=m1.ti.a hxc
 have f0:=m1.ti.frozen (x*3)
 have t2:=m1.ti.setA hxc (o:=none) (by simp)
 rw [oZ_none] at t2
 have k2:Keeps [gt] w1 (w1.setCell ⟨gt,x*3,none⟩ (.int .i64 (-1))):=(Keeps.refl _ _).setCell (.inl (by simp)) _
 have m2:=m1.ties t2 k2
 have hir2:=hir.keep k2 (by simpa using l2)
 have k02:Keeps (gt::Fc) w (w1.setCell ⟨gt,x*3,none⟩ (.int .i64 (-1))):=(Below.keeps hb (Nat.le_refl _) _).trans k2 (by simp)
 go_upto_block 0 with fail
 clear d1 e0 f0 t2 k2 m1 hir hb
 generalize w1.setCell ⟨gt,x*3,none⟩ (.int .i64 (-1))=w2 at *
 go_cut [5] (fun s wc=>ShedOff w p pc gt vT Fc cap hs E h top x kids s wc)
 case first =>
  go_wp2_with fail
  go_loopg [24] (kids.length+1) (fun m s wr=>∃i:Nat,m+i=kids.length+1∧i<=kids.length∧s=.int .i64 i∧PairMid wr p pc gt vT Fc cap hs E (upd kid x none) (updL next (kids.take i) none) (updL back (kids.take i) none)∧Keeps (gt::Fc) w wr∧Keeps [gt] w2 wr)
  case atStart=>exact ⟨0,by omega,by omega,rfl,by rw [List.take_zero,updL_nil,updL_nil];exact m2,k02,Keeps.refl _ _⟩
  case round =>
   clear m2 k02
   obtain ⟨i,hk,hi,rfl,m3,k3,k23⟩:=hrel
   have HK:=Lib.hid hk
   clear hk
   rcases Nat.lt_or_ge i kids.length with hlt|hge
   .obtain ⟨g,hao,glt,gB,c9⟩:=(hir2.keep k23 (by simpa using l2)).at i hlt
    subst hao
    have hmem:Rg.fn kids i∈kids:=by simp [Rg.fn,List.getD,hlt]
    have hyc:=HKC.out _ hmem
    have htk:kids.take (i+1)=kids.take i++[Rg.fn kids i]:=by rw [List.take_succ_eq_append_getElem hlt];simp [Rg.fn,List.getD,hlt]
    generalize Rg.fn kids i=y at *
    have d1:=m3.c1
    have e1:=m3.ti.b hyc
    have e2:=m3.ti.c hyc
    have f1:=m3.ti.frozen (y*3+1)
    have f2:=m3.ti.frozen (y*3+2)
    have t4:=((m3.ti.setB hyc (o:=none) (by simp)).setC hyc (o:=none) (by simp)).keep (S:=[]) (w':=(((wr.setCell ⟨gt,y*3+1,none⟩ (.int .i64 (-1))).setCell ⟨gt,y*3+2,none⟩ (.int .i64 (-1))).drew)) ⟨rfl,rfl,rfl,Nat.le_refl _,fun _ _ _=>rfl⟩ (by simp)
    have k4:Keeps [gt] wr (((wr.setCell ⟨gt,y*3+1,none⟩ (.int .i64 (-1))).setCell ⟨gt,y*3+2,none⟩ (.int .i64 (-1))).drew):=(((Keeps.refl _ _).setCell (.inl (by simp)) _).setCell (.inl (by simp)) _).drew
    rw [<-updL_snoc,<-updL_snoc,<-htk] at t4
    have m4:=m3.ties t4 k4
    have hlt3:(i:Int)<(kids.length:Int):=by omega
    have hy3:(y:Int)<(cap:Int):=by omega
    have HM4:=Lib.hid m4
    clear htk hmem t4 m4 m3
    go_upto_region 6 with fail
    go_region
    all_goals
     go_wp2_with fail
     go_roundg (gk - 1)
     case measure=>have:=HK.out;omega
     case rel=>exact ⟨i+1,by have:=HK.out;omega,by omega,by go_num,HM4.out,k3.trans k4 (by simp),k23.trans k4 (by simp)⟩
   .obtain rfl:i=kids.length:=by omega
    rw [List.take_length] at m3
    have hp:PairL wr p pc gt vT Fc cap hs E h top [x] (x::kids):=by
     have hc:=HCUT.out
     rw [HKD.out] at hc
     exact ⟨_,_,_,_,_,m3,hc,by simp [upd_same]⟩
    have hir3:=hir2.keep k23 (by simpa using l2)
    clear m3
    go_wp2_with fail
    go_meet
    case rel=>exact ⟨hir3,hp,k3⟩
 case rest =>
  clear m2 hir2 k02
  obtain ⟨hir,hp,k3⟩:=hcut
  obtain ⟨ao,ca,rfl⟩:=hir.form
  have hwc:=k3.size
  obtain ⟨l1,l2,l3⟩:=hp.lt
  have hlp:∀b∈p::gt::Fc,b<wc.heap.size:=by
   intro b hb
   simp only [List.mem_cons] at hb
   rcases hb with rfl|rfl|hb
   .exact l1
   .exact l2
   .exact l3 b hb
  have hlf:∀b∈gt::Fc,b<w.heap.size:=fun b hb=>HLP.out b (by simp only [List.mem_cons] at hb ⊢;exact .inr hb)
  have HIR:=Lib.hid hir
  have HLF:=Lib.hid hlf
  clear hir hlf
  obtain ⟨wk,rfl⟩:∃wk,wk=wc:=⟨wc,rfl⟩
  go_upto_block 2 with fail
  go_cut [8] (fun s wd=>ShedTwos w p pc gt vT Fc cap hs E h top x s wd)
  case first =>
   go_wp2_with fail
   go_loopg [8,9] (kids.length+2) (fun m s t wr=>∃(i:Nat) (T:List Nat) (at':Option Addr) (ct:Nat),m+i=kids.length+2∧i<=kids.length+1∧T.length<=i∧s=.slice at' T.length ct∧t=.int .i64 i ∧
    Rg.IR wk.heap.size wr s T∧PairL wr p pc gt vT Fc cap hs E h top [x] (x::(T++kids.drop i))∧Keeps (gt::Fc) wk wr)
   case atStart=>exact ⟨0,[],none,0,by omega,by omega,by simp,rfl,rfl,Rg.IR.nil _ _,hp,Keeps.refl _ _⟩
   case round =>
    clear hp
    obtain ⟨i,T,at',ct,hk,hi,hTi,rfl,rfl,hirT,hp,kp⟩:=hrel
    have HK:=Lib.hid hk
    clear hk
    have hsz:=kp.size
    have hown:∀b∈(Value.slice at' T.length ct).ownBlock.toList,wk.heap.size<=b:=fun b hb=>(hirT.own b (by simpa using hb)).1
    rcases Nat.lt_or_ge i kids.length with hlt|hge
    .obtain ⟨g,hao,glt,gB,c9⟩:=(HIR.out.keep kp HLF.out).at i hlt
     subst hao
     by_cases hlast:i+1=kids.length
     .have hbt:(((i:Int)+1)==(kids.length:Int))=true:=by rw [beq_iff_eq];omega
      have hdr:kids.drop i=[Rg.fn kids i]∧kids.drop (i+2)=[]:=by
       refine ⟨?_,by rw [List.drop_eq_nil_iff];omega⟩
       rw [List.drop_eq_getElem_cons hlt,show kids.drop (i+1)=[] by rw [List.drop_eq_nil_iff];omega]
       simp [Rg.fn,List.getD,hlt]
      generalize Rg.fn kids i=y at *
      have hrow:wr.ownsRow 0 3 1 (.slice at' T.length ct) T.length (Rg.nCells T):=hirT.lo (Nat.zero_le _)
      have hlt3:(i:Int)<(kids.length:Int):=by omega
      have HDR:=Lib.hid hdr
      clear hdr
      go_upto_region 11 with (at_builtin;refine wpList_push _ 3 (.int .i64 (y:Int)) (0,0) rfl (.tmp 54) (.tmp 59) 28 rfl (.int .i64 0) 8 Tryz.underlying28 Rg.Tryz.infoInt rfl rfl _ T.length (Rg.nCells T) (by simp [Act.eval]) hrow (by simp [Act.eval]) (by unfold maxLen;omega) (by omega) ?_;intro g' cap' w4 hr4 hk4 hf4)
      have hg':wk.heap.size<=g':=by
       rcases hf4 with h1|h1
       .exact hown g' (by simpa using h1)
       .omega
      have hir4:Rg.IR wk.heap.size w4 (.slice (some ⟨g',0,none⟩) (T.length+1) cap') (T++[y]):=Rg.IR.pushed hr4 hg'
      have hp4:PairL w4 p pc gt vT Fc cap hs E h top [x] (x::((T++[y])++kids.drop (i+2))):=by
       rw [HDR.out.2,List.append_nil]
       have:=hp.keep hk4 (fun b hb e=>by have:=hown b e;have:=hlp b hb;omega)
       rwa [HDR.out.1] at this
      have kp4:=kp.trans hk4 (fun b hb=>.inr (hown b hb))
      clear hr4 hk4 hf4 hrow hirT hp
      go_wp2_with fail
      go_roundg (gk - 2)
      case measure=>have:=HK.out;omega
      case rel=>exact ⟨i+2,T++[y],_,_,by have:=HK.out;omega,by omega,by simp;omega,by rw [List.length_append];rfl,by go_num,hir4,hp4,kp4⟩
     .have hbt:(((i:Int)+1)==(kids.length:Int))=false:=by rw [beq_eq_false_iff_ne];omega
      have hlt2:i+1<kids.length:=by omega
      obtain ⟨g2,hao2,_,_,c10⟩:=(HIR.out.keep kp HLF.out).at (i+1) hlt2
      cases hao2
      have hdr:kids.drop i=Rg.fn kids i::Rg.fn kids (i+1)::kids.drop (i+2):=by
       rw [List.drop_eq_getElem_cons hlt,List.drop_eq_getElem_cons hlt2]
       simp [Rg.fn,List.getD,hlt,hlt2]
      rw [hdr] at hp
      have hnd:=hp.nd
      generalize Rg.fn kids i=y at *
      generalize Rg.fn kids (i+1)=z at *
      have hyz:y≠z:=by
       have h1:(y::z::kids.drop (i+2)).Nodup:=(List.nodup_append.1 (List.nodup_cons.1 hnd).2).2.1
       intro e;exact (List.nodup_cons.1 h1).1 (by simp [e])
      have hyx:y∉[x]:=by
       intro e
       simp only [List.mem_cons,List.not_mem_nil,or_false] at e
       exact (List.nodup_cons.1 hnd).1 (by simp [e])
      have hzx:z∉[x]:=by
       intro e
       simp only [List.mem_cons,List.not_mem_nil,or_false] at e
       exact (List.nodup_cons.1 hnd).1 (by simp [e])
      have hlk:=link_two wr.drew p pc gt vT Fc cap hs E h top [x] _ (hp.keep (S:=[]) ⟨rfl,rfl,rfl,Nat.le_refl _,fun _ _ _=>rfl⟩ (by simp)) y z (by simp) (by simp) hyz hyx hzx
      have hlt3:(i:Int)<(kids.length:Int):=by omega
      have hlt4:(i:Int)+1<(kids.length:Int):=by omega
      have hi0:IntKind.i64.wrap ((i:Int)+1)=(i:Int)+1:=IntWalk.i64_in _ (by omega)
      have hnn:(0:Int)<=(i:Int)+1:=by omega
      have hnt:((i:Int)+1).toNat=i+1:=by omega
      have HLK:=Lib.hid hlk
      have HND:=Lib.hid hnd
      clear hdr hlk hnd hyz hyx hzx hp
      go_upto_region 14 with fail
      go_region_law (first
       | (go_simp;go_at_call 378;refine HLK.out.mono ?_;rintro e w4 ⟨c,d,rfl,hcd,hall,k4⟩;have hir4:=hirT.keep k4.ofDrew (fun b hb=>Nat.lt_of_lt_of_le (HLF.out b hb) hwc);have hz4:=k4.size;have HCD:=Lib.hid hcd;have HALL:=Lib.hid hall;clear hcd hall)
       | (refine step_push rfl (.tmp 61) (.tmp 73) 28 3 rfl (.int .i64 0) Tryz.underlying28 Rg.Tryz.infoInt rfl wk.heap.size w4 _ (.int .i64 (c:Int)) rfl (0,0) (Nat.le_trans hsz hz4) rfl rfl rfl rfl (.slice at' T.length ct) T.length (Rg.nCells T) rfl hir4 rfl (by unfold maxLen;omega) (by omega) ?_;intro v5 w5 hr5 hk5))
      all_goals
       have hir5:Rg.IR wk.heap.size w5 v5 (T++[c]):=ir_of hr5
       obtain ⟨a5,c5,hv5⟩:=hir5.form
       obtain ⟨q1,q2⟩:=shed_list HND.out HCD.out
       have hp4:=HALL.out _ q1 q2
       have hp5:PairL w5 p pc gt vT Fc cap hs E h top [x] (x::((T++[c])++kids.drop (i+2))):=hp4.keep hk5 (fun b hb e=>by have:=hown b e;have:=hlp b hb;omega)
       have kp5:=(kp.trans k4.ofDrew (fun b hb=>.inl hb)).trans hk5 (fun b hb=>.inr (hown b hb))
       clear hr5 hk5 hir4 hirT q1 q2 hp4 hi0 hnt
       subst hv5
       go_wp2_with fail
       go_roundg (gk - 2)
       case measure=>have:=HK.out;omega
       case rel=>exact ⟨i+2,T++[c],a5,c5,by have:=HK.out;omega,by omega,by simp;omega,by rw [List.length_append];rfl,by go_num,by rw [List.length_append] at hir5;exact hir5,hp5,kp5⟩
    .have hd:kids.drop i=[]:=by rw [List.drop_eq_nil_iff];omega
     rw [hd,List.append_nil] at hp
     have hge3:(kids.length:Int)<=(i:Int):=by omega
     clear hd
     go_wp2_with fail
     go_meet
     case rel=>exact ⟨T,hirT.lo hwc,hp,k3.trans kp (fun b hb=>.inl hb)⟩
  case rest =>
   clear hp k3 hwc l1 l2 l3 hlp
   obtain ⟨T,hirT,hp,k3⟩:=hcut
   obtain ⟨aT,cT,rfl⟩:=hirT.form
   have hTl:T.length<=cap:=nodup_len (List.nodup_cons.1 hp.nd).2 (fun y hy=>hp.mem y (by simp [hy]))
   go_wp2_with fail
   go_loopg [10,11] (T.length+1) (fun m r i wr=>∃(C:Option Nat) (j:Nat) (iz:Int),m=j+1∧j<=T.length∧iz+1=(j:Int)∧r=.int .i64 (oZ C)∧i=.int .i64 iz∧PairL wr p pc gt vT Fc cap hs E h top [x] (x::(T.take j++C.toList))∧Keeps (gt::Fc) wc wr)
   case atStart=>exact ⟨none,T.length,(T.length:Int) - 1,rfl,Nat.le_refl _,by omega,rfl,rfl,by simpa using hp,Keeps.refl _ _⟩
   case round =>
    clear hp
    obtain ⟨C,j,iz,hk,hj,hiz,rfl,rfl,hp,kp⟩:=hrel
    have HK:=Lib.hid hk
    clear hk
    cases j with
    | zero =>
     obtain rfl:iz=-1:=by omega
     clear hiz
     rw [List.take_zero,List.nil_append] at hp
     go_wp2_with fail
     go_ret
     exact ⟨C,rfl,hp,k3.trans kp (fun b hb=>.inl hb)⟩
    | succ j =>
     obtain rfl:iz=(j:Int):=by omega
     clear hiz
     obtain ⟨g,hao,glt,gB,c9⟩:=(hirT.keep kp HLF.out).at j hj
     subst hao
     have htk:T.take (j+1)=T.take j++[Rg.fn T j]:=by rw [List.take_succ_eq_append_getElem hj];simp [Rg.fn,List.getD,show j<T.length by omega]
     rw [htk] at hp
     have hj3:(j:Int)<(T.length:Int):=by omega
     generalize Rg.fn T j=a at *
     cases C with
     | none =>
      clear htk
      simp only [oZ_none]
      go_wp2_with (go_at_call 378;refine (link_one wr p a).mono ?_;rintro e w' ⟨rfl,rfl⟩)
      go_roundg (j+1)
      case measure=>have:=HK.out;omega
      case rel=>exact ⟨some a,j,(j:Int) - 1,rfl,by omega,by omega,rfl,rfl,by simpa using hp,kp⟩
     | some r =>
      have hp':PairL wr p pc gt vT Fc cap hs E h top [x] (x::(T.take j++a::r::[])):=by simpa using hp
      have hnd:=hp'.nd
      have har:a≠r:=by
       have h1:(a::r::[]).Nodup:=(List.nodup_append.1 (List.nodup_cons.1 hnd).2).2.1
       intro e;exact (List.nodup_cons.1 h1).1 (by simp [e])
      have hax:a∉[x]:=by
       intro e
       simp only [List.mem_cons,List.not_mem_nil,or_false] at e
       exact (List.nodup_cons.1 hnd).1 (by simp [e])
      have hrx:r∉[x]:=by
       intro e
       simp only [List.mem_cons,List.not_mem_nil,or_false] at e
       exact (List.nodup_cons.1 hnd).1 (by simp [e])
      have hlk:=link_two wr p pc gt vT Fc cap hs E h top [x] _ hp' a r (by simp) (by simp) har hax hrx
      have HND:=Lib.hid hnd
      clear htk hnd har hax hrx hp hp'
      simp only [oZ_some]
      go_wp2_with (go_at_call 378;refine hlk.mono ?_;rintro e w4 ⟨c,d,rfl,hcd,hall,k4⟩;have HCD:=Lib.hid hcd;have HALL:=Lib.hid hall;clear hcd hall)
      obtain ⟨q1,q2⟩:=shed_list HND.out HCD.out
      have hp4:=HALL.out _ q1 q2
      clear q1 q2
      go_roundg (j+1)
      case measure=>have:=HK.out;omega
      case rel=>exact ⟨some c,j,(j:Int) - 1,rfl,by omega,by omega,rfl,rfl,by simpa using hp4,kp.trans k4 (fun b hb=>.inl hb)⟩
end
def PairAt (w:World) (F:List Nat) (p cap hs:Nat) (E:Ent):Prop :=
 ∃(pc gt gT cT:Nat) (Fc:List Nat) (K:Nat->List Nat) (kid next back U top:Nat->Option Nat),F=p::gt::gT::Fc∧PairMid w p pc gt (.slice (some ⟨gT,0,none⟩) (hs+1) cT) Fc cap hs E kid next back∧TopRow w gT (hs+1) cT top∧gT∉p::gt::Fc∧Pairs E K kid next back U top
section
variable {w w':World} {F S:List Nat} {p cap hs:Nat} {E:Ent}
theorem PairAt.lt (h:PairAt w F p cap hs E):∀b∈F,b<w.heap.size:=by
 obtain ⟨pc,gt,gT,cT,Fc,K,kid,next,back,U,top,rfl,m,tr,ng,t⟩:=h
 obtain ⟨l1,l2,l4⟩:=m.lt
 intro b hb
 simp only [List.mem_cons] at hb
 rcases hb with rfl|rfl|rfl|hb
 .exact l1
 .exact l2
 .exact tr.lt
 .exact l4 b hb
theorem PairAt.mem (h:PairAt w F p cap hs E):p∈F:=by
 obtain ⟨pc,gt,gT,cT,Fc,K,kid,next,back,U,top,rfl,m,tr,ng,t⟩:=h
 simp
theorem PairAt.keep (h:PairAt w F p cap hs E) (k:Keeps S w w') (hS:∀b∈F,b∉S):PairAt w' F p cap hs E:=by
 obtain ⟨pc,gt,gT,cT,Fc,K,kid,next,back,U,top,rfl,m,tr,ng,t⟩:=h
 exact ⟨pc,gt,gT,cT,Fc,K,kid,next,back,U,top,rfl,m.keep k (fun b hb=>hS b (by simp only [List.mem_cons] at hb ⊢;rcases hb with c|c|c<;>simp [c])),tr.keep k (hS gT (by simp)),ng,t⟩
theorem PairAt.ok (h:PairAt w F p cap hs E):EntOk E cap hs:=by
 obtain ⟨pc,gt,gT,cT,Fc,K,kid,next,back,U,top,rfl,m,tr,ng,t⟩:=h
 exact m.ce.ok
end
section
variable (w:World) (F:List Nat) (p cap hs:Nat) (E:Ent)
theorem pair_min_yes (c:PairAt w F p cap hs E) (h:Nat) (h1:1<=h) (h2:h<=hs) (hi:∃y,isIn E h y) :
  Calls Tryz.prog 376 #[.pointer (some ⟨p,0,none⟩),.int .i64 h] w fun e w'=>(∃x:Nat,e=.returned (.tuple #[.int .i64 x,.bool true])∧least E h x)∧w=w':=by
 obtain ⟨pc,gt,gT,cT,Fc,K,kid,next,back,U,top,rfl,m,tr,ng,t⟩:=c
 have hbh:=m.ce.ok.bh
 have hlen:=cells_len w Fc pc cap hs E m.ce h (by omega)
 have hcnt:=count_some m.ce.ok hi
 have hn:=fun y (hy:(E y).isSome)=>m.ce.ok.lt y hy
 have c0:=m.c0
 have c3:=m.c2
 have d0:=tr.at (i:=h) (by omega)
 cases e:top h with
 | none =>
  obtain ⟨y,hy⟩:=hi
  exact absurd hy (t.none_of hn e y)
 | some x =>
  have hl:=t.first hn e
  rw [e] at d0
  simp only [oZ_some] at d0
  have HL:=Lib.hid hl
  have hhs3:(h:Int)<((hs+1:Nat):Int):=by omega
  have hhs4:(h:Int)<(hs:Int)+1:=by omega
  generalize count E cap h=cn at *
  have hcb:((cn:Int)==0)=false:=by rw [beq_eq_false_iff_ne];omega
  clear hl e t m tr hn hi hcnt
  go_enter Tryz.func376,Tryz.ntmps376
  go_wp2_with (go_at_call 304;refine hlen.mono ?_;rintro e w' ⟨rfl,rfl⟩)
  go_ret2
  exact ⟨⟨x,rfl,HL.out⟩,rfl⟩
theorem pair_min_no (c:PairAt w F p cap hs E) (h:Nat) (hh:h<=65536) (hi:∀y,¬isIn E h y) :
  Calls Tryz.prog 376 #[.pointer (some ⟨p,0,none⟩),.int .i64 h] w fun e w'=>e=.returned (.tuple #[.int .i64 0,.bool false])∧w=w':=by
 obtain ⟨pc,gt,gT,cT,Fc,K,kid,next,back,U,top,rfl,m,tr,ng,t⟩:=c
 have hlen:=cells_len w Fc pc cap hs E m.ce h hh
 have hcnt:count E cap h=0:=count_no hi
 rw [hcnt] at hlen
 have c0:=m.c0
 clear t m tr hi hcnt
 go_enter Tryz.func376,Tryz.ntmps376
 go_wp2_with (go_at_call 304;refine hlen.mono ?_;rintro e w' ⟨rfl,rfl⟩)
 go_ret2
 exact ⟨rfl,rfl⟩
def PairSt (w:World) (F:List Nat) (p cap hs:Nat) (E':Ent) (e:Ending) (w':World):Prop:=e=.returned (.bool true)∧PairAt w' F p cap hs E'∧Keeps F w w'
end
def LinkTop (w:World) (p pc gt:Nat) (vT:Value) (Fc:List Nat) (cap hs:Nat) (E:Ent) (h:Nat) (top:Nat->Option Nat) (e:Ending) (w':World):Prop :=
 ∃c:Nat,e=.returned (.int .i64 (oZ (some c)))∧PairL w' p pc gt vT Fc cap hs E h top [] [c]∧Keeps (gt::Fc) w w'
theorem link_top (w:World) (p pc gt:Nat) (vT:Value) (Fc:List Nat) (cap hs:Nat) (E:Ent) (h:Nat) (top:Nat->Option Nat) (x:Nat) (s:PairL w p pc gt vT Fc cap hs E h top [] ((top h).toList++[x])) :
  Calls Tryz.prog 378 #[.pointer (some ⟨p,0,none⟩),.int .i64 (oZ (top h)),.int .i64 x] w (LinkTop w p pc gt vT Fc cap hs E h top):=by
 cases e:top h with
 | none =>
  rw [e] at s
  refine (link_none w p x).mono ?_
  rintro e' w' ⟨rfl,rfl⟩
  exact ⟨x,rfl,by simpa using s,Keeps.refl _ _⟩
 | some t =>
  rw [e] at s
  have hn:=s.nd
  have htx:t≠x:=by rintro rfl;simp at hn
  refine (link_two w p pc gt vT Fc cap hs E h top [] _ s t x (by simp) (by simp) htx (by simp) (by simp)).mono ?_
  rintro e' w' ⟨c,d,rfl,hcd,hall,k⟩
  refine ⟨c,rfl,hall [c] (by simp) fun y=>?_,k⟩
  rcases hcd with ⟨rfl,rfl⟩|⟨rfl,rfl⟩
  .simp only [Option.toList_some,List.cons_append,List.nil_append,List.mem_cons,List.not_mem_nil,or_false]
   constructor
   .rintro rfl;exact ⟨.inl rfl,htx⟩
   .rintro ⟨h1|h1,h2⟩
    .exact h1
    .exact absurd h1 h2
  .simp only [Option.toList_some,List.cons_append,List.nil_append,List.mem_cons,List.not_mem_nil,or_false]
   constructor
   .rintro rfl;exact ⟨.inr rfl,fun e=>htx e.symm⟩
   .rintro ⟨h1|h1,h2⟩
    .exact absurd h1 h2
    .exact h1
section
variable (w:World) (F:List Nat) (p cap hs:Nat) (E:Ent)
theorem pair_insert (c:PairAt w F p cap hs E) (h x q:Nat) (k:Int) (h1:1<=h) (h2:h<=hs) (hx:x<cap) (he:E x=none) (hk:(Lit.int .i64 k).wf=true) (hq:(Lit.int .u64 (q:Int)).wf=true) :
  Calls Tryz.prog 373 #[.pointer (some ⟨p,0,none⟩),.int .i64 h,.int .i64 x,.agg #[.int .i64 k,.int .u64 (q:Int)]] w (PairSt w F p cap hs (put E x (some (h,k,q)))):=by
 have hlt:=c.lt
 obtain ⟨pc,gt,gT,cT,Fc,K,kid,next,back,U,top,rfl,m,tr,ng,t⟩:=c
 have hbh:=m.ce.ok.bh
 have hne:=m.ne
 have hb0:Below w.heap.size w (w.alloc (.cells #[.int .i64 k,.int .u64 (q:Int)] 104)):=(Below.refl _ w).alloc (Nat.le_refl _) _
 have hkw:Keeps [] w (w.alloc (.cells #[.int .i64 k,.int .u64 (q:Int)] 104)):=Below.keeps hb0 (Nat.le_refl _) []
 have e0:(w.alloc (.cells #[.int .i64 k,.int .u64 (q:Int)] 104)).cell? ⟨w.heap.size,0,none⟩=some (.int .i64 k):=by rw [cell_of_blk (blk_alloc_new _)];rfl
 have e1:(w.alloc (.cells #[.int .i64 k,.int .u64 (q:Int)] 104)).cell? ⟨w.heap.size,1,none⟩=some (.int .u64 (q:Int)):=by rw [cell_of_blk (blk_alloc_new _)];rfl
 have m0:=m.below hb0
 have tr0:=tr.keep hkw (by simp)
 have hz:=t.insert he (k,q) (h:=h)
 have hz0:w.heap.size∉Fc:=fun e=>Nat.lt_irrefl _ (hlt _ (by simp [e]))
 have hw0:w.heap.size<(w.alloc (.cells #[.int .i64 k,.int .u64 (q:Int)] 104)).heap.size:=by simp
 have HZ:=Lib.hid hz
 have HT:=Lib.hid t
 have HE:=Lib.hid he
 have HN:=Lib.hid hne
 have HG:=Lib.hid ng
 clear hz t m tr he hne ng
 go_enter Tryz.func373,Tryz.ntmps373
 go_upto_region 1 with fail
 generalize hW0:w.alloc (.cells #[.int .i64 k,.int .u64 (q:Int)] 104)=w0 at *
 clear hW0
 have d0:=m0.c0
 have hS:∀u,Keeps Fc w0 u->u.cell? ⟨p,0,none⟩=some (.pointer (some ⟨pc,0,none⟩))∧u.cell? ⟨w.heap.size,0,none⟩=some (.int .i64 k)∧u.cell? ⟨w.heap.size,1,none⟩=some (.int .u64 (q:Int)):=fun u kk =>
  ⟨(World.cell?_of_block (a:=⟨p,0,none⟩) (kk.block p m0.lt.1 HN.out.1.2)).trans d0,(World.cell?_of_block (a:=⟨_,0,none⟩) (kk.block _ hw0 hz0)).trans e0,(World.cell?_of_block (a:=⟨_,1,none⟩) (kk.block _ hw0 hz0)).trans e1⟩
 have hput:=fun u (hu:CellsAt u Fc pc cap hs E)=>cells_put u Fc pc cap hs E hu h x q k h1 h2 hx HE.out hk hq
 go_region_held3 (fun w'=>w'.cell? ⟨p,0,none⟩=some (.pointer (some ⟨pc,0,none⟩))∧w'.cell? ⟨w.heap.size,0,none⟩=some (.int .i64 k)∧w'.cell? ⟨w.heap.size,1,none⟩=some (.int .u64 (q:Int))) (first|exact ⟨d0,e0,e1⟩|exact q1)
  (first
   | (go_at_call 316;refine (hput _ (m0.drewN 1).ce).mono ?_;rintro e w1 ⟨rfl,hc1,hk1⟩;have q1:=hS w1 hk1.ofDrew))
 all_goals
  obtain ⟨⟨a1,a2⟩,cd⟩:=HN.out
  have hgn:=HG.out
  simp only [List.mem_cons,not_or] at hgn
  obtain ⟨g1,g3,g5⟩:=hgn
  have k1:Keeps Fc w0 w1:=hk1.ofDrew
  have m1:=m0.cells hc1 k1
  have tr1:=tr0.keep k1 g5
  have kw:Keeps (p::gt::gT::Fc) w w1:=(hkw.mono (T:=p::gt::gT::Fc) (by simp)).trans k1 (fun b hb=>.inl (by simp [hb]))
  clear d0 e0 e1 m0 tr0 hput hk1 hc1 k1 hS q1
  go_upto_region 3 with fail
  have m3:=m1.keep (S:=[]) (w':=w1.drew) ⟨rfl,rfl,rfl,Nat.le_refl _,fun _ _ _=>rfl⟩ (by simp)
  have d3:=m3.c2
  have d4:=(tr1.like (w':=w1.drew) rfl).at (i:=h) (by omega)
  have hlk:=link_top w1.drew p pc gt _ Fc cap hs _ h top x ⟨_,_,_,_,_,m3,by simpa using HZ.out,by simp⟩
  have hhs3:(h:Int)<((hs+1:Nat):Int):=by omega
  have hhs4:(h:Int)<(hs:Int)+1:=by omega
  have hfin:∀(w3:World) (c:Nat),PairL w3 p pc gt (.slice (some ⟨gT,0,none⟩) (hs+1) cT) Fc cap hs (put E x (some (h,k,q))) h top [] [c]->Keeps (gt::Fc) w1.drew w3 ->
    w3.cell? ⟨p,2,none⟩=some (.slice (some ⟨gT,0,none⟩) (hs+1) cT)∧w3.cell? ⟨gT,h,none⟩=some (.int .i64 (oZ (top h)))∧w3.frozen? ⟨gT,h,none⟩=false∧PairSt w (p::gt::gT::Fc) p cap hs (put E x (some (h,k,q))) (.returned (.bool true)) (w3.setCell ⟨gT,h,none⟩ (.int .i64 (oZ (some c)))):=by
   rintro w3 c ⟨K',kid',next',back',U',m4,z4,_⟩ k4
   simp only [List.append_nil] at z4
   have tr4:=(tr1.like (w':=w1.drew) rfl).keep k4 (by simp;exact ⟨g3,g5⟩)
   have k5:Keeps [gT] w3 (w3.setCell ⟨gT,h,none⟩ (.int .i64 (oZ (some c)))):=(Keeps.refl _ _).setCell (.inl (by simp)) _
   refine ⟨m4.c2,tr4.at (by omega),tr4.frozen _,rfl,⟨pc,gt,gT,cT,Fc,K',kid',next',back',U',upd top h (some c),rfl,m4.keep k5 ?_,tr4.set (by omega) (by omega) (some c),HG.out,z4.shut fun y=>?_⟩,?_⟩
   .intro b hb e
    simp only [List.mem_cons,List.not_mem_nil,or_false] at e
    subst e
    exact HG.out hb
   .simp [eq_comm]
   .exact ((kw.drew).trans k4 (fun b hb=>.inl (by simp only [List.mem_cons] at hb ⊢;rcases hb with c|c<;>simp [c]))).trans k5 (by simp)
  have HF:=Lib.hid hfin
  clear hfin m1 tr1 m3 kw
  go_region_law (first
   | (go_simp;go_at_call 378;refine hlk.mono ?_;rintro e w3 ⟨c,rfl,s4,k4⟩;obtain ⟨d6,d7,f7,hfi⟩:=HF.out w3 c s4 k4))
  all_goals
   go_wp2
   go_ret
   exact ⟨rfl,hfi.2.1.keep (S:=[]) ⟨rfl,rfl,rfl,Nat.le_refl _,fun _ _ _=>rfl⟩ (by simp),hfi.2.2.trans (T:=[]) ⟨rfl,rfl,rfl,Nat.le_refl _,fun _ _ _=>rfl⟩ (by simp)⟩
end
section
variable (w:World)
theorem rep_names':Calls Tryz.prog 126 #[] w fun e w'=>e=.returned (.slice (some ⟨w.heap.size,0,none⟩) 9 9)∧Keeps [] w w'∧SAt w' w.heap.size 0 kindsW :=
 (rep_names w).mono fun e w' h=>⟨h.1,by rw [h.2];exact (Keeps.refl _ _).alloc _,by rw [h.2];exact kindsO_at w⟩
theorem skew_at (gg:Nat) (u:World) (h:SAt u gg 0 kindsW):Calls Tryz.prog 100 #[.slice (some ⟨gg,0,none⟩) 9 9,.string ⟨#[115,107,101,119]⟩] u fun e w'=>e=.returned (.int .i64 7)∧u=w' :=
 index_some u gg 0 9 kindsW ⟨#[115,107,101,119]⟩ 7 h (by decide) (fun i s hi hs=>by
  have:i=0∨i=1∨i=2∨i=3∨i=4∨i=5∨i=6:=by omega
  rcases this with rfl|rfl|rfl|rfl|rfl|rfl|rfl<;>(cases hs;rw [ByteArray.toList_eq,ByteArray.toList_eq];rfl)) (fun s hs=>by cases hs;rw [ByteArray.toList_eq];rfl) (by decide)
theorem rep_kind (db:Nat) (a b:Int) (st:Value) (hb:w.heap[db]?=some (deskO a b st)) (g off cap:Nat) (h:SAt w g off [⟨#[115,107,101,119]⟩]) :
  Calls Tryz.prog 101 #[.pointer (some ⟨db,0,none⟩),.slice (some ⟨g,off,none⟩) 1 cap] w fun e w'=>e=.returned (.string ⟨#[111,107]⟩)∧w'.heap[db]?=some (deskO 7 0 st)∧Keeps [db] w w':=by
 have h0:w.cell? ⟨g,off,none⟩=some (.string ⟨#[115,107,101,119]⟩):=h 0 _ rfl
 have hS:∀u,Keeps [] w u->u.cell? ⟨g,off,none⟩=some (.string ⟨#[115,107,101,119]⟩):=fun u k=>k.cell' h0
 have hdb:=lt_of_block hb
 have hgw:g≠w.heap.size:=Nat.ne_of_lt (World.block_lt_of_cell? w _ h0)
 have hfin:∀X c,Keeps [] w X->X.heap[c]?=some (.cells #[.int .i64 7,.int .i64 0] 23 (0,0))->X.cell? ⟨c,0,none⟩=some (.int .i64 7)∧X.cell? ⟨c,1,none⟩=some (.int .i64 0) ∧
   Hid (∀X2,Keeps [] X X2->X2.cell? ⟨c,0,none⟩=some (.int .i64 7)∧X2.cell? ⟨c,1,none⟩=some (.int .i64 0)∧X2.cell? ⟨db,0,none⟩=some (.int .i64 a)∧X2.cell? ⟨db,1,none⟩=some (.int .i64 b)∧X2.frozen? ⟨db,0,none⟩=false∧X2.frozen? ⟨db,1,none⟩=false ∧
    Hid (((X2.setCell ⟨db,0,none⟩ (.int .i64 7)).setCell ⟨db,1,none⟩ (.int .i64 0)).heap[db]?=some (deskO 7 0 st)∧Keeps [db] w ((X2.setCell ⟨db,0,none⟩ (.int .i64 7)).setCell ⟨db,1,none⟩ (.int .i64 0)))):=by
  intro X c kX bX
  refine ⟨by rw [cell_of_blk bX];rfl,by rw [cell_of_blk bX];rfl,fun X2 k2=>?_⟩
  have c2:=k2.blk bX (by simp)
  have d2:=(kX.trans k2 (by simp)).blk hb (by simp)
  refine ⟨by rw [cell_of_blk c2];rfl,by rw [cell_of_blk c2];rfl,by rw [cell_of_blk d2];rfl,by rw [cell_of_blk d2];rfl,frozen_of_blk d2,frozen_of_blk d2,(blk_setCell (i:=1) _ (blk_setCell (i:=0) _ d2)).trans rfl,?_⟩
  exact Keeps.setCell (p:=⟨db,1,none⟩) (Keeps.setCell (p:=⟨db,0,none⟩) ((kX.trans k2 (by simp)).mono (by simp)) (.inl (by simp)) _) (.inl (by simp)) _
 have HF:=Lib.hid hfin
 have hck:=fun u=>check_ok u 7 0 (by decide)
 clear h hfin
 go_enter Tryz.func101,Tryz.ntmps101
 go_upto_region 2 with (go_at_call 125;refine (rep_want _ _ 1 _ 1 (by omega)).mono ?_;rintro e w3 ⟨rfl,rfl⟩)
 go_region_held3 (fun u=>u.cell? ⟨g,off,none⟩=some (.string ⟨#[115,107,101,119]⟩)) (first|exact h0|exact q1|exact ((Keeps.refl [] _).alloc _).cell' h0|exact ((Keeps.refl [] _).alloc _).cell' q1|exact cell_set_ne hgw (cell_set_ne hgw q1)|(exact cell_set_ne (Nat.ne_of_lt (World.block_lt_of_cell? _ _ q1)) (cell_set_ne (Nat.ne_of_lt (World.block_lt_of_cell? _ _ q1)) (((Keeps.refl [] _).alloc _).cell' q1))))
  (first
   | (go_at_call 126;refine (rep_names' _).mono ?_;rintro e w1 ⟨rfl,hk1,hks⟩;have q1:=hk1.cell' (b:=g) (j:=off) (u:=.string ⟨#[115,107,101,119]⟩) (by first|exact h0|exact ((Keeps.refl [] _).alloc _).cell' h0);(try have zb:=hk1.blk (blk_alloc_new (w:=w) (.cells #[.int .i64 0,.int .i64 0] 23)) (by simp));(try have z0:w1.cell? ⟨w.heap.size,0,none⟩=some (.int .i64 0):=(cell_of_blk zb).trans rfl);(try have z1:w1.cell? ⟨w.heap.size,1,none⟩=some (.int .i64 0):=(cell_of_blk zb).trans rfl);(try have f0:w1.frozen? ⟨w.heap.size,0,none⟩=false:=frozen_of_blk zb);(try have f1:w1.frozen? ⟨w.heap.size,1,none⟩=false:=frozen_of_blk zb))
   | (go_at_call 100;refine Calls.mono (skew_at _ _ ?_) ?_;(first|exact hks|exact hks.keep ((Keeps.refl [] _).alloc _)|simpa using hks);rintro e w2 ⟨rfl,rfl⟩))
 all_goals
  first
   | (have k1:Keeps [] w w1:=⟨hk1.os,hk1.tape,hk1.output,hk1.size,hk1.block⟩)
   | (have k1:Keeps [] w w1:=((Keeps.refl [] w).alloc (.cells #[.int .i64 0,.int .i64 0] 23 (0,0))).trans ⟨hk1.os,hk1.tape,hk1.output,hk1.size,hk1.block⟩ (by simp))
  first
   | (obtain ⟨X,hX⟩:∃X,X=w1.alloc (.cells #[.int .i64 7,.int .i64 0] 23 (0,0)):=⟨_,rfl⟩
      have kX:Keeps [] w X:=by rw [hX];exact k1.alloc _
      have bX:X.heap[w1.heap.size]?=some (.cells #[.int .i64 7,.int .i64 0] 23 (0,0)):=by rw [hX];exact blk_alloc_new _
      rw [<-hX]
      clear hX
      generalize w1.heap.size=c at bX ⊢)
   | (obtain ⟨X,hX⟩:∃X,X=(w1.setCell ⟨w.heap.size,0,none⟩ (.int .i64 7)).setCell ⟨w.heap.size,1,none⟩ (.int .i64 0):=⟨_,rfl⟩
      have kX:Keeps [] w X:=by rw [hX];exact Keeps.setCell (p:=⟨w.heap.size,1,none⟩) (Keeps.setCell (p:=⟨w.heap.size,0,none⟩) k1 (.inr (Nat.le_refl _)) _) (.inr (Nat.le_refl _)) _
      have bX:X.heap[w.heap.size]?=some (.cells #[.int .i64 7,.int .i64 0] 23 (0,0)):=by rw [hX];exact (blk_setCell (i:=1) _ (blk_setCell (i:=0) _ zb)).trans rfl
      rw [<-hX]
      clear hX zb z0 z1 f0 f1
      generalize w.heap.size=c at bX ⊢)
   | trace_state
  obtain ⟨x0,x1,x2⟩:=HF.out X c kX bX
  clear HF kX bX hk1 hks q1 k1 h0 hS hb hdb hgw
  go_wp2_with (first
   | (go_at_call 33;refine (hck _).mono ?_;rintro e X2 ⟨rfl,k2⟩;obtain ⟨y0,y1,y2,y3,y4,y5,y6⟩:=x2.out X2 k2;clear k2)
   | (go_at_call 128;refine (rep_check _).mono ?_;rintro e w' ⟨rfl,rfl⟩))
  go_ret
  exact ⟨rfl,y6.out⟩
end
end Go.Proofs.YtkdbjelhkfdfjaaGreatDoor

