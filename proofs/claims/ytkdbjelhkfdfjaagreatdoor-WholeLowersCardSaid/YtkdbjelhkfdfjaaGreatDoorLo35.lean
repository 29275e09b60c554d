/-
  Contracts that the law rests on. Conditions: none.
-/
import Derived.Test.YtkdbjelhkfdfjaaGreatDoorLo30
import Derived.Test.YtkdbjelhkfdfjaaGreatDoorLo34
import Derived.Below
import Derived.ChangeOld
import Derived.Deep.Slices
import Derived.Deep.Strs
import Derived.OpenShut
import Derived.ProofKit
import Derived.ShutString
set_option linter.unusedVariables false
set_option maxRecDepth 100000
set_option maxHeartbeats 32000000
namespace Go.Proofs.YtkdbjelhkfdfjaaGreatDoor
open Go.RowKit
section
variable (w:World) (pn pc:Nat) (Fc:List Nat) (cap hs:Nat) (E:Ent) (p d:Nat) (ao:Option Addr) (ca mb n:Nat)
def RemDone (v:Nat->Nat) (x:Nat) (e:Ending) (w':World):Prop :=
 ∃v':Nat->Nat,e=.returned (.bool true)∧RowFull w' p d ao ca mb n v'∧OrdAt w' pn pc Fc cap hs E∧Inj v' n∧(∀z,(∃j,j<n∧v' j=z)↔z≠x∧∃j,j<n+1∧v j=z)∧Heap' d (ahead E) v' n∧Keeps (rfp p mb ao++Fc) w w'
theorem row_remove (v:Nat->Nat) (i:Nat) (hr:RowFull w p d ao ca mb (n+1) v) (ho:OrdAt w pn pc Fc cap hs E) (hv:Inj v (n+1)) (hE:∀j,j<n+1->(E (v j)).isSome) (hi:i<n+1) (hn:n+1<=65536) (hd1:2<=d) (hd2:d<=16)
  (hh:Heap' d (ahead E) v (n+1)) (hap:∀b∈rfp p mb ao,b∉pn::Fc) :
  Calls Tryz.prog 311 #[.pointer (some ⟨p,0,none⟩),.iface 148 (.pointer (some ⟨pn,0,none⟩)),.int .i64 (v i:Nat)] w (RemDone w pn pc Fc cap hs E p d ao ca mb n v (v i)):=by
 have hbc:=ho.ce.ok.bc
 have hxc:=ho.ce.ok.lt (v i) (hE i hi)
 have hyc:=ho.ce.ok.lt (v n) (hE n (by omega))
 obtain ⟨Lm,r,hl,hlv⟩:=hr
 have c1:=r.c1
 have c2:=r.c2
 rw [hl] at c1
 obtain ⟨g,hao,n1,n2,hgl,d1,_⟩:=r.at (i:=n) (by omega)
 rw [hlv n (by omega)] at d1
 subst hao
 have f1:w.frozen? ⟨p,1,none⟩=false:=frozen_of_blk r.blk
 have hpos:=posF_at hv hi
 have hcap:=row_cap r.row
 rw [hl] at hcap
 have hpl:=r.lt p (by simp [rfp])
 have hml:=r.lt mb (by simp [rfp])
 have hpm:=r.ne
 have hpop:=r.pop hl
 have hk1:Keeps [p] w (w.setCell ⟨p,1,none⟩ (.slice (some ⟨g,0,none⟩) n ca)):=(Keeps.refl _ _).setCell (.inl (by simp)) _
 have hmid:∀W5 W6:World,W5.heap=(w.setCell ⟨p,1,none⟩ (.slice (some ⟨g,0,none⟩) n ca)).heap->W5.os=w.os->W5.tape=w.tape->W5.output=w.output->W5.grownBy W6 (some mb) ->
   IMap Tryz.prog 3 W6 mb n (fun z=>if z=(v i:Int) then none else posF v (n+1) z) ->
   Keeps (rfp p mb (some ⟨g,0,none⟩)) w W6∧RowRaw W6 p d (some ⟨g,0,none⟩) ca mb (Lm.take n) n (fun z=>if z=(v i:Int) then none else posF v (n+1) z):=by
  intro W5 W6 e1 e2 e3 e4 hg hm
  have k5:Keeps [p] w W5:=⟨by rw [e2],by rw [e3],by rw [e4],by rw [e1];exact hk1.size,fun k a b=>by rw [e1];exact hk1.block k a b⟩
  have k6:Keeps [mb] W5 W6:=(Keeps.refl _ _).grown hg (by simp)
  have r5:=hpop.like e1
  refine ⟨(k5.mono (T:=rfp p mb (some ⟨g,0,none⟩)) (by simp [rfp])).trans k6 (by simp [rfp]),⟨k6.blk r5.blk (by simpa using hpm),ir_keep r5.row k6 (fun x e=>by cases e;simpa using n2),hm,hpm,r5.na⟩⟩
 have hmap5:∀W5:World,W5.heap=(w.setCell ⟨p,1,none⟩ (.slice (some ⟨g,0,none⟩) n ca)).heap->IMap Tryz.prog 3 W5 mb (n+1) (posF v (n+1))∧W5.cell? ⟨p,2,none⟩=some (.map (some mb)):=fun W5 e =>
  ⟨(hpop.like e).map,(hpop.like e).c2⟩
 have HM:=Lib.hid r.map
 have HPOS:=Lib.hid hpos
 have HMID:=Lib.hid hmid
 have HMAP5:=Lib.hid hmap5
 have HLV:=Lib.hid hlv
 have HL:=Lib.hid hl
 have HO:=Lib.hid ho
 have HAP:=Lib.hid hap
 have HH:=Lib.hid hh
 have HE:=Lib.hid hE
 have HV:=Lib.hid hv
 clear hmid hmap5 r hlv hl hpop hk1 hpos ho hap hh hE hv
 have hn3:(n:Int)<((n+1:Nat):Int):=by omega
 go_enter Tryz.func311,Tryz.ntmps311
 go_upto_region 4 with (first
  | (at_lookup;refine wpList_imap_look_ok rfl _ _ rfl mapTy mb _ _ rfl HM.out ((v i:Nat):Int) rfl (WalkArith.wf_i64 (by omega)) ?_;rw [HPOS.out]))
 go_quiet (fail)
 go_wp2_with fail
 go_region
 obtain ⟨W5,hW5⟩:∃W5,W5=(w.drewN (nq+1)).setCell ⟨p,1,none⟩ (.slice (some ⟨g,0,none⟩) n ca):=⟨_,rfl⟩
 obtain ⟨m5,e5⟩:=HMAP5.out W5 (by rw [hW5];rfl)
 have hmid5:=fun W6=>HMID.out W5 W6 (by rw [hW5];rfl) (by rw [hW5];rfl) (by rw [hW5];rfl) (by rw [hW5];rfl)
 rw [<-hW5]
 have HM5:=Lib.hid m5
 have HMID5:=Lib.hid hmid5
 clear hW5 HMAP5 HMID m5 hmid5 HM c1 c2 d1 f1
 go_upto_region 7 with (first
  | (at_delete;go_loud (refine wpList_imap_del rfl _ _ rfl mapTy mb _ _ rfl HM5.out ((v i:Nat):Int) rfl (WalkArith.wf_i64 (by omega)) ?_;intro W6 hm6 hg6;have HM6:=Lib.hid hm6;have HG6:=Lib.hid hg6;clear hm6 hg6)))
 have hm6:=HM6.out
 rw [HPOS.out] at hm6
 simp only [Option.isSome_some,if_true,Nat.add_sub_cancel] at hm6
 obtain ⟨k6,r6⟩:=HMID5.out W6 HG6.out hm6
 have hl6:(Lm.take n).length=n:=by have:=HL.out;simp;omega
 have hlv6:∀j,j<n->Rg.fn (Lm.take n) j=v j:=fun j hj=>by
  rw [<-HLV.out j (by omega)]
  simp [Rg.fn,List.getD,hj]
 have ho6:=HO.out.keep k6 (fun b hb e=>HAP.out b e hb)
 clear HM6 HG6 HMID5 hm6 HM5
 by_cases hin:i=n
 .subst hin
  have R6:=Lib.hid r6
  have HLV6:=Lib.hid hlv6
  have HL6:=Lib.hid hl6
  clear r6 hlv6 hl6
  go_wp2_with fail
  go_ret
  have r7:=R6.out
  rw [hole_last HV.out] at r7
  refine ⟨v,rfl,⟨_,r7,HL6.out,HLV6.out⟩,ho6,fun a b ha hb e=>HV.out a b (by omega) (by omega) e,?_,fun j h0 hj=>HH.out j h0 (by omega),k6.mono (fun b hb=>.inl (by simp [hb]))⟩
  intro z
  constructor
  .rintro ⟨j,hj,rfl⟩
   exact ⟨fun e=>by have:=HV.out j i (by omega) (by omega) e;omega,j,by omega,rfl⟩
  .rintro ⟨hz,j,hj,rfl⟩
   refine ⟨j,?_,rfl⟩
   rcases Nat.lt_or_ge j i with c|c
   .exact c
   .obtain rfl:j=i:=by omega
    exact absurd rfl hz
 .have hin2:i<n:=by omega
  have hvn:v n≠v i:=fun e=>hin (HV.out n i (by omega) (by omega) e).symm
  have hvb:(((v n:Nat):Int)==((v i:Nat):Int))=false:=by rw [beq_eq_false_iff_ne];omega
  obtain ⟨t1,t2⟩:=hole_take HV.out hin2
  rw [t1] at r6
  have hE2:∀j,j<n->(E ((fun k=>if k=i then v n else v k) j)).isSome:=by
   intro j hj
   by_cases e:j=i
   .simp only [if_pos e];exact HE.out n (by omega)
   .simp only [if_neg e];exact HE.out j (by omega)
  have hord:Ord (ahead E) v (n+1):=ordOf HV.out HE.out
  have hat:=HH.out.refill hd1 hord hin2
  have hh6:RowHole W6 p d (some ⟨g,0,none⟩) ca mb n (fun k=>if k=i then v n else v k) i (some (n:Int)):=⟨_,n,r6,hl6,fun j hj hji=>by rw [hlv6 j hj];simp only [if_neg hji],by simp⟩
  have hup:=row_up W6 pn pc Fc cap hs E p d (some ⟨g,0,none⟩) ca mb n _ i _ hh6 ho6 t2 hE2 hin2 (by omega) hd1 hd2 hat HAP.out
  simp only [if_true] at hup
  have hord2:Ord (ahead E) (fun k=>if k=i then v n else v k) n:=ordOf t2 hE2
  have hset:∀z,(∃j,j<n∧(fun k=>if k=i then v n else v k) j=z)↔z≠v i∧∃j,j<n+1∧v j=z:=by
   intro z
   constructor
   .rintro ⟨j,hj,e⟩
    simp only at e
    by_cases c:j=i
    .rw [if_pos c] at e;subst e;exact ⟨hvn,n,by omega,rfl⟩
    .rw [if_neg c] at e;subst e;exact ⟨fun e=>c (HV.out j i (by omega) (by omega) e),j,by omega,rfl⟩
   .rintro ⟨hz,j,hj,rfl⟩
    rcases Nat.lt_or_ge j n with c|c
    .exact ⟨j,c,by simp only [if_neg (show j≠i from fun e=>hz (by rw [e]))]⟩
    .obtain rfl:j=n:=by omega
     exact ⟨i,hin2,by simp⟩
  have T2:=Lib.hid t2
  have HE2:=Lib.hid hE2
  have HATT:=Lib.hid hat
  have HORD2:=Lib.hid hord2
  have HSET:=Lib.hid hset
  clear t1 t2 r6 hl6 hlv6 hE2 hord hat hh6 hord2 hset hvn hin
  go_upto_region 9 with fail
  go_upto_if 61 with (go_at_call 324;refine hup.mono ?_;rintro e w7 ⟨i',v',rfl,hi',hf7,ho7,hv7,hs7,hk7,hres⟩)
  rcases hres with ⟨rfl,rfl,hst⟩|⟨hne,hh7⟩
  .have hdn:=HATT.out.down hd1 HORD2.out hin2 (by simpa using hst)
   have hdown:=row_down w7 pn pc Fc cap hs E p d (some ⟨g,0,none⟩) ca mb n _ i' _ (hf7.hole T2.out hin2) ho7 T2.out HE2.out hin2 (by omega) hd1 hd2 hdn HAP.out
   simp only [if_true] at hdown
   clear hst hdn hf7
   go_wp2_with (go_at_call 325;refine hdown.mono ?_;rintro e w8 ⟨v'',rfl,hf8,ho8,hv8,hs8,hk8,hh8⟩)
   go_ret
   exact ⟨v'',rfl,hf8,ho8,hv8,fun z=>(hs8 z).trans (HSET.out z),hh8,((k6.mono (T:=rfp p mb (some ⟨g,0,none⟩)++Fc) (fun b hb=>.inl (by simp [hb]))).trans hk7 (fun b hb=>.inl hb)).trans hk8 (fun b hb=>.inl hb)⟩
  .have hneb:((i':Int)==(i:Int))=false:=by rw [beq_eq_false_iff_ne];omega
   clear hup
   go_wp2_with fail
   go_ret
   exact ⟨v',rfl,hf7,ho7,hv7,fun z=>(hs7 z).trans (HSET.out z),hh7,(k6.mono (T:=rfp p mb (some ⟨g,0,none⟩)++Fc) (fun b hb=>.inl (by simp [hb]))).trans hk7 (fun b hb=>.inl hb)⟩
end
section
variable (w:World) (F:List Nat) (p cap hs:Nat) (E:Ent)
theorem dary_delete (c:DaryAt w F p cap hs E) (h x:Nat) (hx:isIn E h x) :
  Calls Tryz.prog 298 #[.pointer (some ⟨p,0,none⟩),.int .i64 x] w (DaryIn w F p cap hs (put E x none)):=by
 have hlt:=c.lt
 obtain ⟨pc,gr,rc,d,Fc,R,rfl,m⟩:=c
 have hbc:=m.ce.ok.bc
 obtain ⟨h1,h2⟩:1<=h∧h<=hs:=by obtain ⟨k,e⟩:=hx;exact m.ce.ok.heap x h k e
 have hrok:=m.ok h h1 h2
 obtain ⟨i,hi,hvi⟩:=(hrok.mem x).1 hx
 obtain ⟨n,hn⟩:∃n,(R h).n=n+1:=⟨(R h).n - 1,by omega⟩
 have hfull:=m.mem h h1 h2
 have hinj:=hrok.inj
 have hheap:=hrok.heap
 have hsome:=m.isSome h1 h2
 rw [hn] at hfull hinj hheap hsome hi
 have hnle:n+1<=65536:=by
  have h5:=nodup_len (n:=cap) (l:=(List.range (n+1)).map (R h).v)
   (List.pairwise_map.2 (List.Pairwise.imp_of_mem (fun {a b} ha hb hne e=>hne (hinj a b (List.mem_range.1 ha) (List.mem_range.1 hb) e)) List.nodup_range)) (by
    intro y hy
    obtain ⟨j,hj,rfl⟩:=List.mem_map.1 hy
    exact m.ce.ok.lt _ (hsome j (List.mem_range.1 hj)))
  simp at h5
  omega
 have hhome:=cells_home w Fc pc cap hs E m.ce x h hx
 have hdr:∀a,DaryP (w.drewN a) p pc gr rc d Fc cap hs E R:=fun a=>m.keep (S:=[]) ⟨rfl,rfl,rfl,Nat.le_refl _,fun _ _ _=>rfl⟩ (by simp)
 have hrem:=fun a=>row_remove (w.drewN a) p pc Fc cap hs E (R h).p d (R h).ao (R h).ca (R h).mb n (R h).v i (hfull.keep (S:=[]) ⟨rfl,rfl,rfl,Nat.le_refl _,fun _ _ _=>rfl⟩ (by simp)) (hdr a).ord hinj hsome hi hnle m.d1 m.d2 hheap (m.apart h1 h2)
 rw [hvi] at hrem
 have hdrop:=fun u (hu:CellsAt u Fc pc cap hs E)=>cells_drop u Fc pc cap hs E hu x h hx
 have d0:=m.c0
 have d2:=m.c2
 have d3:=m.row h1 h2
 have hS:∀u,Keeps ((R h).fp++Fc) w u->u.cell? ⟨p,0,none⟩=some (.pointer (some ⟨pc,0,none⟩)):=fun u kk =>
  have hp:p∉(R h).fp++Fc:=fun e=>by rcases List.mem_append.1 e with e|e;exact (m.own h h1 h2 p e).1 rfl;exact m.ne.2.1 e
  (World.cell?_of_block (a:=⟨p,0,none⟩) (kk.block p (lt_of_block m.blk) hp)).trans d0
 have hfin:∀(w2 w3:World) (v':Nat->Nat),RowFull w2 (R h).p d (R h).ao (R h).ca (R h).mb n v'->OrdAt w2 p pc Fc cap hs E->Inj v' n->(∀z,(∃j,j<n∧v' j=z)↔z≠x∧∃j,j<n+1∧(R h).v j=z)->Heap' d (ahead E) v' n->Keeps (rfp (R h).p (R h).mb (R h).ao++Fc) w w2 ->
   CellsAt w3 Fc pc cap hs (put E x none)->Keeps Fc w2 w3->DaryIn w (nestF p gr Fc hs fun g=>(R g).fp) p cap hs (put E x none) (.returned (.bool true)) w3:=by
  intro w2 w3 v' hf2 ho2 hv2 hm2 hh2 k2 hc3 k3
  have hne:∀j,j<n->v' j≠x:=fun j hj=>((hm2 (v' j)).1 ⟨j,hj,rfl⟩).1
  have hch:=m.change h1 h2 (w':=w3) (E':=put E x none) (r:={ p:=(R h).p,mb:=(R h).mb,ao:=(R h).ao,ca:=(R h).ca,n:=n,v:=v' }) (k2.trans k3 fun b hb=>.inl (by simp [hb])) rfl
   (fun b hb=>.inl hb) hc3 (hf2.keep k3 fun b hb e=>(m.own h h1 h2 b hb).2.2 e)
   ⟨hv2,fun z=>by
    show _↔∃j,j<n∧v' j=z
    rw [hm2 z,isIn_drop,hrok.mem z,hn],hh2.cong m.d1 (fun _ _=>rfl) fun i j hi hj=>ahead_put_other (hne i hi) (hne j hj)⟩
   (fun g' a b c=>(m.ok g' a b).other m.d1 (fun j hj e=>c (isIn_one (((m.ok g' a b).mem x).2 ⟨j,hj,e⟩) hx)) fun y=>by
    rw [isIn_drop]
    constructor
    .exact fun e=>e.2
    .intro e
     refine ⟨?_,e⟩
     rintro rfl
     exact c (isIn_one e hx))
  exact ⟨rfl,_,⟨pc,gr,rc,d,Fc,_,rfl,hch.1⟩,hch.2⟩
 have hhs3:(h:Int)<((hs+1:Nat):Int):=by omega
 have hhs4:(h:Int)<(hs:Int)+1:=by omega
 have HF:=Lib.hid hfin
 have HR:=Lib.hid hrem
 have HD:=Lib.hid hdrop
 have HS:=Lib.hid hS
 clear hfin hrem hdrop hS m hrok hvi hfull hinj hheap hsome hdr hlt hx hn
 go_enter Tryz.func298,Tryz.ntmps298
 go_wp2_with (first
  | (go_at_call 302;refine hhome.mono ?_;rintro e w' ⟨rfl,n1,rfl⟩)
  | (go_at_call 311;refine (HR.out n1).mono ?_;rintro e w2 ⟨v',rfl,hf2,ho2,hv2,hm2,hh2,k2⟩;have e0:=HS.out w2 k2.ofDrewN)
  | (go_at_call 312;refine (HD.out _ ho2.ce).mono ?_;rintro e w3 ⟨rfl,hc3,k3⟩))
 go_ret
 exact HF.out w2 w3 v' hf2 ho2 hv2 hm2 hh2 k2.ofDrewN hc3 k3
def DaryExt (w:World) (F:List Nat) (p cap hs:Nat) (E:Ent) (h:Nat) (e:Ending) (w':World):Prop :=
 ∃x:Nat,e=.returned (.tuple #[.int .i64 x,.bool true])∧least E h x∧∃F',DaryAt w' F' p cap hs (put E x none)∧Moved F w F' w'
theorem dary_extract (c:DaryAt w F p cap hs E) (h:Nat) (h1:1<=h) (h2:h<=hs) (hi:∃y,isIn E h y) :
  Calls Tryz.prog 300 #[.pointer (some ⟨p,0,none⟩),.int .i64 h] w (DaryExt w F p cap hs E h):=by
 have hm:=dary_min_yes w F p cap hs E c h h1 h2 hi
 have hd:=fun x (hl:least E h x)=>dary_delete w F p cap hs E c h x hl.1
 clear c hi
 go_enter Tryz.func300,Tryz.ntmps300
 go_wp2_with (first
  | (go_at_call 307;refine hm.mono ?_;rintro e w1 ⟨⟨x,rfl,hl⟩,rfl⟩)
  | (go_at_call 298;refine (hd _ hl).mono ?_;rintro e w2 ⟨rfl,F',c2,k2⟩))
 go_ret2
 exact ⟨x,rfl,hl,F',c2,k2⟩
end
def RowNew (w:World) (d:Nat) (e:Ending) (w':World):Prop :=
 ∃p mb,e=.returned (.tuple #[.pointer (some ⟨p,0,none⟩),.int .i64 0])∧(∀v,RowFull w' p d none 0 mb 0 v)∧Keeps [] w w'∧w.heap.size<=p∧w.heap.size<=mb
theorem row_new (w:World) (d:Nat) (h1:2<=d) (h2:d<=16):Calls Tryz.prog 88 #[.int .i64 d] w (RowNew w d):=by
 have hmm:=@run_makeMap Tryz.prog
 go_enter Tryz.func88,Tryz.ntmps88
 go_wp2_with (go_at_call 118;refine (fine_yes _ d h1 h2).mono ?_;rintro e w' ⟨rfl,rfl⟩)
 go_ret2
 refine ⟨w.heap.size+1,w.heap.size,rfl,fun v=>⟨[],⟨?_,Rg.IR.nil _ _,?_,by omega,by simp⟩,rfl,by simp⟩,((Keeps.refl _ _).alloc _).alloc _,by omega,by omega⟩
 .have:=blk_alloc_new (w:=w.alloc (.map #[] 0)) (.cells #[.int .i64 (d:Int),.slice none 0 0,.map (some w.heap.size)] 260 (0,0))
  simpa using this
 .have:posF v 0=fun _=>none:=by funext z;unfold posF;split<;>simp
  rw [this]
  exact (IMap.made Tryz.prog 3 w).keep ((Keeps.refl [] _).alloc _) (by simp)
theorem Tryz.infoRowP:(Tryz.prog.info? 203).map (fun i=>(i.zero,i.size,i.bytes))=some (some (.pointer none),1,8):=by kernel_rfl
section
variable (w:World) (F:List Nat) (p cap hs:Nat) (E:Ent)
def DaryMade (w:World) (F:List Nat) (p cap hs:Nat) (E:Ent) (e:Ending) (w':World):Prop:=∃F',e=.returned (.int .i64 ((hs+1:Nat):Int))∧DaryAt w' F' p cap (hs+1) E∧Moved F w F' w'
theorem dary_make (c:DaryAt w F p cap hs E) (hh:hs<65536):Calls Tryz.prog 305 #[.pointer (some ⟨p,0,none⟩)] w (DaryMade w F p cap hs E):=by
 have hlt:=c.lt
 obtain ⟨pc,gr,rc,d,Fc,R,rfl,m⟩:=c
 have hmk:=cells_make w Fc pc cap hs E m.ce hh
 have d0:=m.c0
 have d1:w.cell? ⟨p,1,none⟩=some (.int .i64 (d:Int)):=by rw [cell_of_blk m.blk];rfl
 have hno:∀x,¬isIn E (hs+1) x:=fun x ⟨k,e⟩=>by have:=(m.ce.ok.heap x _ k e).2;omega
 obtain ⟨n1,n2,n3⟩:=m.ne
 have hpl:=lt_of_block m.blk
 have hgl:=row_lt m.rows
 have hfin:∀(w1 w2 w4:World) (Fc':List Nat) (pr mb g' cap':Nat),CellsAt w1 Fc' pc cap (hs+1) E->Moved Fc w Fc' w1->(∀v,RowFull w2 pr d none 0 mb 0 v)->Keeps [] w1 w2->w1.heap.size<=pr->w1.heap.size<=mb ->
   w4.ownsRow 0 203 1 (.slice (some ⟨g',0,none⟩) (hs+1+1) cap') (hs+1+1) (rowsV (fun i=>(R i).p) (hs+1)++[.pointer (some ⟨pr,0,none⟩)])->Keeps [gr] w2 w4->(g'=gr∨w2.heap.size<=g') ->
   w4.frozen? ⟨p,2,none⟩=false∧w4.cell? ⟨p,2,none⟩=some (.slice (some ⟨gr,0,none⟩) (hs+1) rc)∧DaryMade w (nestF p gr Fc hs fun g=>(R g).fp) p cap hs E (.returned (.int .i64 ((hs+1:Nat):Int))) (w4.setCell ⟨p,2,none⟩ (.slice (some ⟨g',0,none⟩) (hs+1+1) cap')):=by
  intro w1 w2 w4 Fc' pr mb g' cap' hc1 hm1 hf2 k2 hpr hmb hr4 k4 hg4
  have s1:=hm1.keeps.size
  have s2:=k2.size
  have s4:=k4.size
  have hcl:=hc1.lt
  have hf0:=(hf2 (fun _=>0)).lt
  have hprl:=hf0 pr (by simp [rfp])
  have hmbl:=hf0 mb (by simp [rfp])
  have hnew:∀b,b∉Fc->b<w.heap.size->b∉Fc':=fun b a c e=>by
   rcases hm1.from' b e with f|f
   .exact a f
   .omega
  have k12:Keeps Fc w w2:=hm1.keeps.trans k2 (by simp)
  have b2:=k12.blk m.blk n2
  have b4:=k4.blk b2 (by simpa using n1)
  have hgp:g'≠p:=by rcases hg4 with e|e;rw [e];exact fun e=>n1 e.symm;omega
  have k5:Keeps [p] w4 (w4.setCell ⟨p,2,none⟩ (.slice (some ⟨g',0,none⟩) (hs+1+1) cap')):=(Keeps.refl _ _).setCell (.inl (by simp)) _
  have kall:Keeps ([p,gr]++Fc) w (w4.setCell ⟨p,2,none⟩ (.slice (some ⟨g',0,none⟩) (hs+1+1) cap')):=((k12.mono (T:=[p,gr]++Fc) fun b hb=>.inl (by simp [hb])).trans k4 fun b hb=>.inl (by simp at hb;simp [hb])).trans k5 fun b hb=>.inl (by simp at hb;simp [hb])
  have kold:Keeps [p,gr] w2 (w4.setCell ⟨p,2,none⟩ (.slice (some ⟨g',0,none⟩) (hs+1+1) cap')):=(k4.mono (T:=[p,gr]) (by simp)).trans k5 (by simp)
  have hD:DaryP (w4.setCell ⟨p,2,none⟩ (.slice (some ⟨g',0,none⟩) (hs+1+1) cap')) p pc g' cap' d Fc' cap (hs+1) E (upd R (hs+1) ⟨pr,mb,none,0,0,fun _=>0⟩):=by
   have hgF:g'∉Fc':=by rcases hg4 with e|e;rw [e];exact hnew gr n3 hgl;exact fun f=>by have:=hcl _ f;omega
   refine ⟨?_,(hc1.keep k2 (by simp)).keep kold ?_,?_,⟨fun e=>hgp e.symm,hnew p n2 hpl,hgF⟩,?_,?_,?_,?_,m.d1,m.d2⟩
   .rw [blk_setCell _ b4];simp
   .intro b hb e
    simp only [List.mem_cons,List.not_mem_nil,or_false] at e
    rcases e with rfl|rfl
    .exact hnew b n2 hpl hb
    .exact hnew b n3 hgl hb
   .have:=k5.row hr4 (by simpa using hgp)
    rw [rowsV_snoc _ _ (by omega),rowsV_congr (r:=fun i=>(R i).p) (r':=fun i=>(upd R (hs+1) ⟨pr,mb,none,0,0,fun _=>0⟩ i).p)]
    .simp only [upd_same];exact this
    .intro i a b
     simp only [upd_other R _ (show i≠hs+1 by omega)]
   .intro g a b x hx
    by_cases c:g=hs+1
    .subst c
     rw [upd_same] at hx
     simp only [RowR.fp,rfp,Option.toList_none,List.map_nil,List.mem_cons,List.not_mem_nil,or_false] at hx
     have:x∉Fc':=fun e=>by have:=hcl _ e;rcases hx with rfl|rfl<;>omega
     refine ⟨by rcases hx with rfl|rfl<;>omega,?_,this⟩
     rcases hg4 with e|e
     .rw [e];rcases hx with rfl|rfl<;>omega
     .rcases hx with rfl|rfl<;>omega
    .rw [upd_other R _ c] at hx
     obtain ⟨q1,q2,q3⟩:=m.own g a (by omega) x hx
     have hxl:=hlt x (nestF_mem.2 (.inr (.inr (.inr ⟨g,a,by omega,hx⟩))))
     refine ⟨q1,?_,hnew x q3 hxl⟩
     rcases hg4 with e|e
     .rw [e];exact q2
     .omega
   .intro g1 g2 a1 a2 b1 b2 hne x hx hx2
    by_cases c1:g1=hs+1
    .subst c1
     rw [upd_same] at hx
     rw [upd_other R _ (fun e=>hne e.symm)] at hx2
     have hxl:=hlt x (nestF_mem.2 (.inr (.inr (.inr ⟨g2,b1,by omega,hx2⟩))))
     simp only [RowR.fp,rfp,Option.toList_none,List.map_nil,List.mem_cons,List.not_mem_nil,or_false] at hx
     rcases hx with rfl|rfl<;>omega
    .rw [upd_other R _ c1] at hx
     have hxl:=hlt x (nestF_mem.2 (.inr (.inr (.inr ⟨g1,a1,by omega,hx⟩))))
     by_cases c2:g2=hs+1
     .subst c2
      rw [upd_same] at hx2
      simp only [RowR.fp,rfp,Option.toList_none,List.map_nil,List.mem_cons,List.not_mem_nil,or_false] at hx2
      rcases hx2 with rfl|rfl<;>omega
     .rw [upd_other R _ c2] at hx2
      exact m.dis g1 g2 a1 (by omega) b1 (by omega) hne x hx hx2
   .intro g a b
    by_cases c:g=hs+1
    .subst c
     rw [upd_same]
     exact (hf2 _).keep kold fun x hx e=>by
      simp only [rfp,Option.toList_none,List.map_nil,List.mem_cons,List.not_mem_nil,or_false] at hx e
      rcases hx with rfl|rfl<;>omega
    .rw [upd_other R _ c]
     refine (m.mem g a (by omega)).keep kall fun x hx e=>?_
     obtain ⟨q1,q2,q3⟩:=m.own g a (by omega) x hx
     simp only [List.mem_append,List.mem_cons,List.not_mem_nil,or_false] at e
     rcases e with (e|e)|e
     .exact q1 e
     .exact q2 e
     .exact q3 e
   .intro g a b
    by_cases c:g=hs+1
    .subst c
     rw [upd_same]
     exact ⟨fun i j hi=>by simp at hi,fun x=>⟨fun e=>absurd e (hno x),fun ⟨j,hj,_⟩=>by simp at hj⟩,fun j _ hj=>by simp at hj⟩
    .rw [upd_other R _ c];exact m.ok g a (by omega)
  refine ⟨frozen_of_blk b4,by rw [cell_of_blk b4];rfl,_,rfl,⟨pc,g',cap',d,Fc',_,rfl,hD⟩,kall.mono fun b hb=>.inl (nestF_mem.2 ?_),fun b hb=>?_,hD.lt⟩
  .simp only [List.mem_append,List.mem_cons,List.not_mem_nil,or_false] at hb
   rcases hb with (e|e)|e
   .exact .inl e
   .exact .inr (.inl e)
   .exact .inr (.inr (.inl e))
  .rcases nestF_mem.1 hb with e|e|e|⟨i,a1,a2,e⟩
   .exact .inl (nestF_mem.2 (.inl e))
   .rcases hg4 with f|f
    .exact .inl (nestF_mem.2 (.inr (.inl (e.trans f))))
    .exact .inr (by omega)
   .rcases hm1.from' b e with f|f
    .exact .inl (nestF_mem.2 (.inr (.inr (.inl f))))
    .exact .inr f
   .by_cases c:i=hs+1
    .subst c
     rw [upd_same] at e
     simp only [RowR.fp,rfp,Option.toList_none,List.map_nil,List.mem_cons,List.not_mem_nil,or_false] at e
     exact .inr (by rcases e with rfl|rfl<;>omega)
    .rw [upd_other R _ c] at e
     exact .inl (nestF_mem.2 (.inr (.inr (.inr ⟨i,a1,by omega,e⟩))))
 have hstep:∀(w1 w2:World) (Fc':List Nat),Moved Fc w Fc' w1->Keeps [] w1 w2->w1.cell? ⟨p,1,none⟩=some (.int .i64 (d:Int))∧w2.cell? ⟨p,2,none⟩=some (.slice (some ⟨gr,0,none⟩) (hs+1) rc)∧w2.ownsRow 0 203 1 (.slice (some ⟨gr,0,none⟩) (hs+1) rc) (hs+1) (rowsV (fun i=>(R i).p) (hs+1)):=fun w1 w2 Fc' h1 h2 =>
  ⟨(World.cell?_of_block (a:=⟨p,1,none⟩) (h1.keeps.block p hpl n2)).trans d1,by rw [cell_of_blk ((h1.keeps.trans h2 (by simp)).blk m.blk n2)];rfl,(h1.keeps.trans h2 (by simp)).row m.rows n3⟩
 have hnew:=fun u=>row_new u d m.d1 m.d2
 have hh3:(0:Int)<((hs+1:Nat):Int):=by omega
 have HF:=Lib.hid hfin
 have HS:=Lib.hid hstep
 clear hfin hstep m hlt d1 hno
 go_enter Tryz.func305,Tryz.ntmps305
 go_upto_region 3 with (go_at_call 318;refine hmk.mono ?_;rintro e w1 ⟨Fc',rfl,hc1,hm1⟩)
 have q1:=(HS.out w1 w1 Fc' hm1 (Keeps.refl _ _)).1
 go_upto_region 4 with (go_at_call 88;refine (hnew w1).mono ?_;rintro e w2 ⟨pr,mb,rfl,hf2,k2,hpr,hmb⟩)
 obtain ⟨_,q2,q3⟩:=HS.out w1 w2 Fc' hm1 k2
 clear q1
 go_wp2_with (first
  | (at_builtin;refine wpList_push _ 203 (.pointer (some ⟨pr,0,none⟩)) (0,0) rfl (.tmp 25) (.tmp 27) 206 rfl (.pointer none) 8 Tryz.underlying206 Tryz.infoRowP rfl rfl _ (hs+1) (rowsV (fun i=>(R i).p) (hs+1)) (by simp [Act.eval]) q3 (by simp [Act.eval]) (by unfold maxLen;omega) (by omega) ?_;intro g' cap' w4 hr4 hk4 hf4;obtain ⟨f5,c5,hD5⟩:=HF.out w1 w2 w4 Fc' pr mb g' cap' hc1 hm1 hf2 k2 hpr hmb hr4 (by simpa [Value.ownBlock] using hk4) (by simpa [Value.ownBlock,eq_comm] using hf4);clear hr4 hk4 hf4))
 go_ret
 exact hD5
def DaryNew (w:World) (n:Nat) (e:Ending) (w':World):Prop :=
 ∃(F:List Nat) (p:Nat),e=.returned (.tuple #[.pointer (some ⟨p,0,none⟩),.int .i64 0])∧DaryAt w' F p n 0 (fun _=>none)∧Keeps [] w w'∧∀b∈F,w.heap.size<=b
theorem dary_new (w:World) (n d:Nat) (hn:n<=65536) (h1:2<=d) (h2:d<=16):Calls Tryz.prog 57 #[.int .i64 n,.int .i64 d] w (DaryNew w n):=by
 have hs:=fun u=>row_new u d h1 h2
 go_enter Tryz.func57,Tryz.ntmps57
 go_wp2_with (first
  | (go_at_call 87;refine (cells_new w n hn).mono ?_;rintro e w1 ⟨Fc,pc,rfl,hc1,hk1,hF1⟩)
  | (go_at_call 88;refine (hs w1).mono ?_;rintro e w2 ⟨pr,mb,rfl,hf2,hk2,hp2,hm2⟩))
 go_ret2
 have hl1:=hc1.lt
 have k1:=hk1.size
 have k2:=hk2.size
 have hk3:∀o o',Keeps [] w2 ((w2.alloc o).alloc o'):=fun o o'=>((Keeps.refl _ _).alloc _).alloc _
 have hsz:∀o o':Obj,((w2.alloc o).alloc o').heap.size=w2.heap.size+2:=fun o o'=>by simp
 refine ⟨nestF (w2.heap.size+1) w2.heap.size Fc 0 (fun _=>[]),w2.heap.size+1,rfl,⟨pc,w2.heap.size,1,d,Fc,fun _=>⟨0,0,none,0,0,fun _=>0⟩,by simp [nestF],⟨?_,(hc1.keep hk2 (by simp)).keep (hk3 _ _) (by simp),?_,?_,fun g a b=>by omega,fun g g' a b=>by omega,fun g a b=>by omega,fun g a b=>by omega,h1,h2⟩⟩,(hk1.trans hk2 (by simp)).trans (hk3 _ _) (by simp),?_⟩
 .have:=blk_alloc_new (w:=w2.alloc (.cells #[.pointer none] 203 (0,0))) (.cells #[.pointer (some ⟨pc,0,none⟩),.int .i64 (d:Int),.slice (some ⟨w2.heap.size,0,none⟩) 1 1] 208 (0,0))
  simpa using this
 .refine ⟨by simp [rowsV],.inr ⟨w2.heap.size,1,#[.pointer none],rfl,Nat.zero_le _,?_,by simp,by decide,by simp,by simp [rowsV]⟩⟩
  rw [blk_alloc_old _ (by simp),blk_alloc_new]
 .exact ⟨by omega,fun e=>by have:=hl1 _ e;omega,fun e=>by have:=hl1 _ e;omega⟩
 .intro b hb
  rcases nestF_mem.1 hb with rfl|rfl|e|⟨i,a,b,_⟩
  .omega
  .omega
  .exact hF1 b e
  .omega
end
section
variable (w:World) (F:List Nat) (p cap hs:Nat) (E:Ent)
def FibMade (e:Ending) (w':World):Prop:=∃F',e=.returned (.int .i64 ((hs+1:Nat):Int))∧FibAt w' F' p cap (hs+1) E∧Moved F w F' w'
theorem fib_make (c:FibAt w F p cap hs E) (hh:hs<65536):Calls Tryz.prog 385 #[.pointer (some ⟨p,0,none⟩)] w (FibMade w F p cap hs E):=by
 obtain ⟨pc,pr,gn,gp,gt,gT,cT,Fc,wl,U,kid,deg,mk,top,rfl,q,o⟩:=c
 have hlt:=q.lt
 have hmk:=cells_make w Fc pc cap hs E q.ce hh
 have d0:=q.c0
 obtain ⟨⟨a1,a2,a3,a4,a5,a6⟩,⟨b1,b2,b3,b4,b5⟩,⟨c1,c2,c3,c4⟩,⟨e1,e2,e3⟩,⟨f1,f2⟩,g1⟩:=q.apart
 have ht:top (hs+1)=none:=by
  cases e:top (hs+1) with
  | none=>rfl
  | some x =>
   obtain ⟨k,hk⟩:=(o.topS _ _ e).1.1
   have:=q.ce.ok.heap x _ _ hk
   omega
 have lall:p<w.heap.size∧pr<w.heap.size∧gn<w.heap.size∧gp<w.heap.size∧gt<w.heap.size∧gT<w.heap.size:=⟨hlt _ (by simp),hlt _ (by simp),hlt _ (by simp),hlt _ (by simp),hlt _ (by simp),hlt _ (by simp)⟩
 obtain ⟨l1,l2,l3,l4,l5,l6⟩:=lall
 have hfin:∀(w1 w4:World) (Fc':List Nat) (g' c':Nat),CellsAt w1 Fc' pc cap (hs+1) E->Moved Fc w Fc' w1->w4.ownsRow 0 3 1 (.slice (some ⟨g',0,none⟩) (hs+1+1) c') (hs+1+1) (topsV top (hs+1)++[.int .i64 (-1)])->Keeps [gT] w1 w4->(g'=gT∨w1.heap.size<=g') ->
   w4.frozen? ⟨p,3,none⟩=false∧w4.cell? ⟨p,3,none⟩=some (.slice (some ⟨gT,0,none⟩) (hs+1) cT)∧FibMade w (p::pr::gn::gp::gt::gT::Fc) p cap hs E (.returned (.int .i64 ((hs+1:Nat):Int))) (w4.setCell ⟨p,3,none⟩ (.slice (some ⟨g',0,none⟩) (hs+1+1) c')):=by
  intro w1 w4 Fc' g' c' hc1 hm1 hr4 k4 hg4
  have s1:=hm1.keeps.size
  have s4:=k4.size
  have hcl:=hc1.lt
  have hnew:∀b,b∉Fc->b<w.heap.size->b∉Fc':=fun b a c e=>by
   rcases hm1.from' b e with f|f
   .exact a f
   .omega
  have blk4:=k4.blk (hm1.keeps.blk q.blk a6) (by simpa using a5)
  have hgF:g'∉Fc':=by rcases hg4 with e|e;rw [e];exact hnew gT g1 l6;exact fun f=>by have:=hcl _ f;omega
  have hgs:g'≠p∧g'≠pr∧g'≠gn∧g'≠gp∧g'≠gt:=by
   rcases hg4 with e|e
   .rw [e];exact ⟨a5.symm,b4.symm,c3.symm,e2.symm,f1.symm⟩
   .refine ⟨?_,?_,?_,?_,?_⟩<;>omega
  have k5:Keeps [p] w4 (w4.setCell ⟨p,3,none⟩ (.slice (some ⟨g',0,none⟩) (hs+1+1) c')):=(Keeps.refl _ _).setCell (.inl (by simp)) _
  have k15:Keeps [p,gT] w1 (w4.setCell ⟨p,3,none⟩ (.slice (some ⟨g',0,none⟩) (hs+1+1) c')):=(k4.mono (T:=[p,gT]) (by simp)).trans k5 (by simp)
  have kall:Keeps (p::gT::Fc) w (w4.setCell ⟨p,3,none⟩ (.slice (some ⟨g',0,none⟩) (hs+1+1) c')):=(hm1.keeps.mono (T:=p::gT::Fc) fun b hb=>.inl (by simp [hb])).trans k15 fun b hb=>.inl (by simp at hb;rcases hb with c|c<;>simp [c])
  have tr5:TopRow (w4.setCell ⟨p,3,none⟩ (.slice (some ⟨g',0,none⟩) (hs+1+1) c')) g' (hs+1+1) c' top:=(q.tr.more ht (by omega) hr4).keep k5 (by simpa using hgs.1)
  have q5:FibQ (w4.setCell ⟨p,3,none⟩ (.slice (some ⟨g',0,none⟩) (hs+1+1) c')) p pc pr gn gp gt g' c' Fc' cap (hs+1) E wl U kid deg mk top:=by
   refine ⟨?_,?_,hc1.keep k15 ?_,q.rg.keep kall ?_ ?_ ?_,q.ar.keep kall ?_,tr5,q.cp⟩
   .simp only [List.nodup_cons,List.mem_cons,not_or]
    exact ⟨⟨a1,a2,a3,a4,fun e=>hgs.1 e.symm,hnew p a6 l1⟩,⟨b1,b2,b3,fun e=>hgs.2.1 e.symm,hnew pr b5 l2⟩,⟨c1,c2,fun e=>hgs.2.2.1 e.symm,hnew gn c4 l3⟩,⟨e1,fun e=>hgs.2.2.2.1 e.symm,hnew gp e3 l4⟩,⟨fun e=>hgs.2.2.2.2 e.symm,hnew gt f2 l5⟩,hgF,hc1.nodup⟩
   .rw [blk_setCell _ blk4];simp
   .intro b hb e
    simp only [List.mem_cons,List.not_mem_nil,or_false] at e
    rcases e with rfl|rfl
    .exact hnew b a6 l1 hb
    .exact hnew b g1 l6 hb
   .simp only [List.mem_cons,not_or];exact ⟨a1.symm,b4,b5⟩
   .simp only [List.mem_cons,not_or];exact ⟨a2.symm,c3,c4⟩
   .simp only [List.mem_cons,not_or];exact ⟨a3.symm,e2,e3⟩
   .simp only [List.mem_cons,not_or];exact ⟨a4.symm,f1,f2⟩
  refine ⟨frozen_of_blk blk4,by rw [cell_of_blk blk4];rfl,_,rfl,⟨pc,pr,gn,gp,gt,g',c',Fc',wl,U,kid,deg,mk,top,rfl,q5,o⟩,kall.mono ?_,?_,q5.lt⟩
  .intro b hb
   simp only [List.mem_cons] at hb ⊢
   rcases hb with c|c|c<;>simp [c]
  .intro b hb
   simp only [List.mem_cons] at hb ⊢
   rcases hb with rfl|rfl|rfl|rfl|rfl|rfl|hb
   .simp
   .simp
   .simp
   .simp
   .simp
   .rcases hg4 with e|e
    .simp [e]
    .exact .inr (by omega)
   .rcases hm1.from' b hb with c|c
    .simp [c]
    .exact .inr c
 have hstep:∀(w1:World) (Fc':List Nat),Moved Fc w Fc' w1->w1.cell? ⟨p,3,none⟩=some (.slice (some ⟨gT,0,none⟩) (hs+1) cT)∧w1.ownsRow 0 3 1 (.slice (some ⟨gT,0,none⟩) (hs+1) cT) (hs+1) (topsV top (hs+1)):=fun w1 Fc' h1 =>
  ⟨by rw [cell_of_blk (h1.keeps.blk q.blk a6)];rfl,h1.keeps.row q.tr.row g1⟩
 have hh3:(0:Int)<((hs+1:Nat):Int):=by omega
 have HF:=Lib.hid hfin
 have HS:=Lib.hid hstep
 clear hfin hstep q o hlt ht
 go_enter Tryz.func385,Tryz.ntmps385
 go_upto_region 3 with (go_at_call 318;refine hmk.mono ?_;rintro e w1 ⟨Fc',rfl,hc1,hm1⟩)
 obtain ⟨q1,q2⟩:=HS.out w1 Fc' hm1
 go_wp2_with (first
  | (at_builtin;refine wpList_push _ 3 (.int .i64 (-1)) (0,0) rfl (.tmp 15) (.tmp 16) 28 rfl (.int .i64 0) 8 Tryz.underlying28 Rg.Tryz.infoInt rfl rfl _ (hs+1) (topsV top (hs+1)) (by simp [Act.eval]) q2 (by simp [Act.eval]) (by unfold maxLen;omega) (by omega) ?_;intro g' cap' w4 hr4 hk4 hf4;obtain ⟨f5,c5,hD5⟩:=HF.out w1 w4 Fc' g' cap' hc1 hm1 hr4 (by simpa [Value.ownBlock] using hk4) (by simpa [Value.ownBlock,eq_comm] using hf4);clear hr4 hk4 hf4))
 go_ret
 exact hD5
end
theorem Tryz.infoPlace:(Tryz.prog.info? 226).map (fun i=>(i.zero,i.size,i.bytes))=some (some (.agg #[.int .i64 0,.int .i64 0,.int .i64 0,.bool false]),4,32):=by kernel_rfl
def laidP (i j:Nat):List Value:=if j<i then [.int .i64 (-1),.int .i64 (-1),.int .i64 0,.bool false] else [.int .i64 0,.int .i64 0,.int .i64 0,.bool false]
def FibNew (w:World) (n:Nat) (e:Ending) (w':World):Prop :=
 ∃(F:List Nat) (p:Nat),e=.returned (.tuple #[.pointer (some ⟨p,0,none⟩),.int .i64 0])∧FibAt w' F p n 0 (fun _=>none)∧Keeps [] w w'∧∀b∈F,w.heap.size<=b
theorem laidP_upd (i:Nat):upd (laidP i) i [.int .i64 (-1),.int .i64 (-1),.int .i64 0,.bool false]=laidP (i+1):=by
 funext j
 by_cases e:j=i
 .subst e;rw [upd_same];simp [laidP]
 .rw [upd_other _ _ e]
  unfold laidP
  by_cases c:j<i
  .rw [if_pos c,if_pos (by omega)]
  .rw [if_neg c,if_neg (by omega)]
theorem Arr.set4 {w:World} {T n g i:Nat} {F:Nat->List Value} (h:Arr w T 4 n g F) (hi:i<n) (a b c d:Value) :
  Arr ((((w.setCell ⟨g,i*4,none⟩ a).setCell ⟨g,i*4+1,none⟩ b).setCell ⟨g,i*4+2,none⟩ c).setCell ⟨g,i*4+3,none⟩ d) T 4 n g (upd F i [a,b,c,d]):=by
 have h1:=(((h.set hi (j:=0) (by omega) a).set hi (j:=1) (by omega) b).set hi (j:=2) (by omega) c).set hi (j:=3) (by omega) d
 refine h1.congr fun k _=>?_
 by_cases e:k=i
 .subst e
  simp only [upd_same]
  have hl:=h.size k hi
  match hF:F k,hl with
  | [x,y,z,t],_=>rfl
 .simp only [upd_other _ _ e]
theorem fib_new (w:World) (n:Nat) (hn:n<=65536):Calls Tryz.prog 64 #[.int .i64 n] w (FibNew w n):=by
 obtain ⟨i0,hi,hz0,hz1,hzb⟩:=info_parts Tryz.infoPlace
 go_enter Tryz.func64,Tryz.ntmps64
 go_upto_region 6 with (first
  | (go_at_call 87;refine (cells_new w n hn).mono ?_;rintro e w1 ⟨Fc,pc,rfl,hc1,hk1,hF1⟩)
  | (go_at_call 90;refine (Rg.new_yes w1 n hn).mono ?_;rintro e w2 ⟨pr,gn,gp,rfl,hr2,hb2,hp2,hn2,hg2⟩)
  | (at_make;refine wpList_make_full _ rfl _ _ 222 rfl 0 226 i0 (.agg #[.int .i64 0,.int .i64 0,.int .i64 0,.bool false]) 4 Tryz.underlying222 hi hz0 hz1 .i64 .i64 n n n rfl rfl rfl rfl (by rw [hzb];omega) (by unfold maxLen;omega) (Nat.zero_le _) ?_;intro w3 hr3 hg3))
 have hk2:Keeps [] w1 w2:=Below.keeps hb2 (Nat.le_refl _) []
 have hk3:Keeps [] w2 w3:=(Keeps.refl _ _).grown hg3 (fun k h=>by cases h)
 have hg1:w2.heap.size<w3.heap.size:=row_lt hr3
 have ha:Arr w3 226 4 n w2.heap.size (laidP 0):=(Arr.made rfl (by decide) hr3).congr (fun i _=>by simp [laidP];rfl)
 have hl1:=hc1.lt
 have s1:=hk1.size
 have s2:=hk2.size
 obtain ⟨lr1,lr2,lr3⟩:=hr2.lt
 obtain ⟨w5,hw5⟩:∃w5,w5=(w3.alloc (.cells #[.int .i64 (-1)] 3)).alloc (.cells #[.pointer (some ⟨pc,0,none⟩),.pointer (some ⟨pr,0,none⟩),.slice (some ⟨w2.heap.size,0,none⟩) n n,.slice (some ⟨w3.heap.size,0,none⟩) 1 1] 224):=⟨_,rfl⟩
 have hb5:w5.heap[w3.heap.size+1]?=some (.cells #[.pointer (some ⟨pc,0,none⟩),.pointer (some ⟨pr,0,none⟩),.slice (some ⟨w2.heap.size,0,none⟩) n n,.slice (some ⟨w3.heap.size,0,none⟩) 1 1] 224 (0,0)):=by
  rw [hw5]
  have:=blk_alloc_new (w:=w3.alloc (.cells #[.int .i64 (-1)] 3 (0,0))) (.cells #[.pointer (some ⟨pc,0,none⟩),.pointer (some ⟨pr,0,none⟩),.slice (some ⟨w2.heap.size,0,none⟩) n n,.slice (some ⟨w3.heap.size,0,none⟩) 1 1] 224 (0,0))
  simpa using this
 have ht5:w5.heap[w3.heap.size]?=some (.cells #[.int .i64 (-1)] 3 (0,0)):=by
  rw [hw5,blk_alloc_old _ (by simp),blk_alloc_new]
 have hk5:Keeps [] w3 w5:=by rw [hw5];exact ((Keeps.refl _ _).alloc _).alloc _
 have ha5:=ha.keep hk5 (by simp)
 have hk35:Keeps [] w2 w5:=hk3.trans hk5 (by simp)
 have hc5:=(hc1.keep hk2 (by simp)).keep hk35 (by simp)
 have hr5:=hr2.keep hk35 (by simp) (by simp) (by simp)
 have hkw:Keeps [] w w5:=(hk1.trans hk2 (by simp)).trans hk35 (by simp)
 rw [<-hw5]
 obtain ⟨gt,hgd⟩:∃g,w2.heap.size=g:=⟨_,rfl⟩
 obtain ⟨gT,hTd⟩:∃g,w3.heap.size=g:=⟨_,rfl⟩
 have hF2:∀b∈Fc,b<w1.heap.size:=hl1
 rw [hgd,hTd] at hb5
 rw [hTd] at ht5
 rw [hgd] at ha5 lr1 lr2 lr3
 rw [hgd,hTd]
 have hgg:gt<gT:=by omega
 have hgw:w.heap.size<=gt:=by omega
 have hg1t:w1.heap.size<=gt:=by omega
 have hfin:∀wr,Arr wr 226 4 n gt (laidP n)->Keeps [gt] w5 wr->FibNew w n (.returned (.tuple #[.pointer (some ⟨gT+1,0,none⟩),.int .i64 0])) wr:=by
  intro wr ha kp
  have hb:=kp.blk hb5 (by simp;omega)
  have ht:=kp.blk ht5 (by simp;omega)
  have hc6:=hc5.keep kp (fun b hb=>by have:=hF2 b hb;simp;omega)
  have hr6:=hr5.keep kp (by simp;omega) (by simp;omega) (by simp;omega)
  obtain ⟨n1,n2,n3⟩:=hr5.ne
  refine ⟨_,gT+1,rfl,⟨pc,pr,gn,gp,gt,gT,1,Fc,_,fun _=>none,fun _=>none,fun _=>0,fun _=>false,fun _=>none,rfl,⟨?_,hb,hc6,⟨_,_,hr6,Rg.Rings.new n⟩,ha.congr (fun j hj=>by simp [laidP,placeV,oZ,hj]),⟨?_,rfl⟩,hn⟩,FibO.init n _ (fun x y hx=>rl_new hx)⟩,hkw.trans kp (by simp;omega),?_⟩
  .simp only [List.nodup_cons,List.mem_cons,not_or]
   exact ⟨⟨by omega,by omega,by omega,by omega,by omega,fun e=>by have:=hF2 _ e;omega⟩,⟨fun e=>n1 e.symm,fun e=>n2 e.symm,by omega,by omega,fun e=>by have:=hF2 _ e;omega⟩,⟨n3,by omega,by omega,fun e=>by have:=hF2 _ e;omega⟩,⟨by omega,by omega,fun e=>by have:=hF2 _ e;omega⟩,⟨by omega,fun e=>by have:=hF2 _ e;omega⟩,fun e=>by have:=hF2 _ e;omega,hc6.nodup⟩
  .exact ⟨by simp [topsV],.inr ⟨gT,1,#[.int .i64 (-1)],rfl,Nat.zero_le _,ht,by simp,by decide,by simp,by simp [topsV,oZ]⟩⟩
  .intro b hb
   simp only [List.mem_cons] at hb
   rcases hb with rfl|rfl|rfl|rfl|rfl|rfl|hb
   .omega
   .omega
   .omega
   .omega
   .omega
   .omega
   .exact hF1 b hb
 have HF:=Lib.hid hfin
 have e1:w5.cell? ⟨gT+1,2,none⟩=some (.slice (some ⟨gt,0,none⟩) n n):=by rw [cell_of_blk hb5];rfl
 clear hfin hr3 hg3 ha hk2 hk3 hk5 hc1 hk1 hg1 hw5 hgd hTd hr2 hb2 hk35 hc5 hr5 hkw hl1 s1 s2 lr1 lr2 lr3 hp2 hn2 hg2 hF2 hF1 ht5
 go_wp2_with fail
 go_loopg [34] (n+1) (fun m s wr=>∃i:Nat,m+i=n+1∧i<=n∧s=.int .i64 i∧Arr wr 226 4 n gt (laidP i)∧Keeps [gt] w5 wr)
 case atStart=>exact ⟨0,by omega,by omega,rfl,ha5,Keeps.refl _ _⟩
 case round =>
  clear ha5 e1
  obtain ⟨i,hk,hin,rfl,ha,kp⟩:=hrel
  have HK:=Lib.hid hk
  clear hk
  by_cases hlt:i<n
  .have hlt3:(i:Int)<(n:Int):=by omega
   have hstep:∀w6,Keeps [] wr w6->w6.cell? ⟨gT+1,2,none⟩=some (.slice (some ⟨gt,0,none⟩) n n)∧(∃v0 v1 v2 v3,w6.cell? ⟨gt,i*4,none⟩=some v0∧w6.cell? ⟨gt,i*4+1,none⟩=some v1∧w6.cell? ⟨gt,i*4+2,none⟩=some v2∧w6.cell? ⟨gt,i*4+3,none⟩=some v3) ∧
     (w6.frozen? ⟨gt,i*4,none⟩=false∧w6.frozen? ⟨gt,i*4+1,none⟩=false∧w6.frozen? ⟨gt,i*4+2,none⟩=false∧w6.frozen? ⟨gt,i*4+3,none⟩=false) ∧
     Hid (Arr ((((w6.setCell ⟨gt,i*4,none⟩ (.int .i64 (-1))).setCell ⟨gt,i*4+1,none⟩ (.int .i64 (-1))).setCell ⟨gt,i*4+2,none⟩ (.int .i64 0)).setCell ⟨gt,i*4+3,none⟩ (.bool false)) 226 4 n gt (laidP (i+1)) ∧
      Keeps [gt] w5 ((((w6.setCell ⟨gt,i*4,none⟩ (.int .i64 (-1))).setCell ⟨gt,i*4+1,none⟩ (.int .i64 (-1))).setCell ⟨gt,i*4+2,none⟩ (.int .i64 0)).setCell ⟨gt,i*4+3,none⟩ (.bool false))):=fun w6 k6=>by
    have ha6:=ha.keep k6 (by simp)
    have kp6:=kp.trans k6 (by simp)
    have hb:=kp6.blk hb5 (by simp;omega)
    have hat:∀j,j<4->∃v,w6.cell? ⟨gt,i*4+j,none⟩=some v:=fun j hj=>by
     rw [ha6.cell hlt hj]
     have:=ha6.size i hlt
     exact ⟨_,List.getElem?_eq_getElem (by omega)⟩
    obtain ⟨v0,h0⟩:=hat 0 (by decide)
    obtain ⟨v1,h1⟩:=hat 1 (by decide)
    obtain ⟨v2,h2⟩:=hat 2 (by decide)
    obtain ⟨v3,h3⟩:=hat 3 (by decide)
    have h4:=ha6.set4 hlt (.int .i64 (-1)) (.int .i64 (-1)) (.int .i64 0) (.bool false)
    rw [laidP_upd] at h4
    exact ⟨by rw [cell_of_blk hb];rfl,⟨v0,v1,v2,v3,h0,h1,h2,h3⟩,⟨ha6.frozen _,ha6.frozen _,ha6.frozen _,ha6.frozen _⟩,h4,(((kp6.setCell (.inl (by simp)) _).setCell (.inl (by simp)) _).setCell (.inl (by simp)) _).setCell (.inl (by simp)) _⟩
   obtain ⟨z0,_,_,_⟩:=hstep wr (Keeps.refl _ _)
   have hfr:=fresh_calls wr.drew
   have HS:=Lib.hid hstep
   clear hstep ha kp
   go_upto_region 9 with fail
   go_region_law (first
    | (go_simp;go_at_call 91;refine hfr.mono ?_;rintro e w6 ⟨rfl,k6⟩;obtain ⟨y0,⟨v0,v1,v2,v3,y1,y2,y3,y4⟩,⟨g0,g1,g2,g3⟩,y5⟩:=HS.out w6 (Keeps.trans (a:=wr) (b:=wr.drew) ⟨rfl,rfl,rfl,Nat.le_refl _,fun _ _ _=>rfl⟩ k6 (by simp));clear k6))
   all_goals
    clear z0 y0 y1 y2 y3 y4 g0 g1 g2 g3 hfr HS
    go_wp2_with fail
    go_roundg (gk - 1)
    case measure=>have:=HK.out;omega
    case rel=>exact ⟨i+1,by have:=HK.out;omega,by omega,by go_num,y5.out.1,y5.out.2⟩
  .obtain rfl:i=n:=by omega
   have HA:=Lib.hid ha
   have HP:=Lib.hid kp
   clear ha kp
   go_wp2_with fail
   go_ret2
   exact HF.out _ HA.out HP.out
theorem place_at {a b:List Nat} {x:Nat} (h:x∉a):Rg.placeZ (a++x::b) x=(a.length:Int):=by
 have:(a++x::b).findIdx? (Rg.isI (x:Int))=some a.length:=by
  rw [List.findIdx?_append]
  have h1:a.findIdx? (Rg.isI (x:Int))=none:=by
   rw [List.findIdx?_eq_none_iff]
   intro y hy
   simp only [Rg.isI,beq_eq_false_iff_ne]
   intro e
   have:y=x:=by omega
   exact h (this ▸ hy)
  rw [h1,List.findIdx?_cons]
  simp [Rg.isI]
 unfold Rg.placeZ
 rw [this]
section
variable {w w':World} {B gy N ca x y:Nat} {L a b:List Nat}
theorem ir_swap (h:Rg.IR B w (.slice (some ⟨gy,0,none⟩) N ca) (a++x::b)) (y:Nat) :
  a.length<N∧w.cell? ⟨gy,a.length,none⟩=some (.int .i64 (x:Nat))∧w.frozen? ⟨gy,a.length,none⟩=false∧Rg.IR B (w.setCell ⟨gy,a.length,none⟩ (.int .i64 (y:Nat))) (.slice (some ⟨gy,0,none⟩) N ca) (a++y::b):=by
 obtain ⟨ao,cap,e⟩:=h.form
 cases e
 obtain ⟨g',e',_,_,d⟩:=h.at a.length (by simp)
 cases e'
 have e:Rg.fn (a++x::b) a.length=x:=by simp [Rg.fn,List.getD]
 rw [e] at d
 refine ⟨by simp,d,h.frozenAt _,?_⟩
 have:=Rg.row_set h a.length (by simp) (.int .i64 (y:Int))
 rw [<-Rg.nCells_set] at this
 have e2:(a++x::b).set a.length y=a++y::b:=by simp
 rw [e2] at this
 have hl:(a++y::b).length=(a++x::b).length:=by simp
 unfold Rg.IR
 rw [hl]
 exact this
end
section
variable (w:World) (p g n:Nat) (T:Nat->TwigR) (U:Nat->Option Nat)
def Lifted (x y:Nat) (w':World):Prop:=ForestAt w' p g n (swT x y T) (swU x y U)∧Keeps (treeF p g n T) w w'
theorem fo_lift (h:ForestAt w p g n T U) (hc:Cubes (fun z=>(T z).kids) U) (x y:Nat) (hx:x<n) (hu:U x=some y) :
  Calls Tryz.prog 356 #[.pointer (some ⟨p,0,none⟩),.int .i64 x] w fun e w'=>e=.returned (.bool true)∧Hid (Lifted w p g n T U x y w'):=by
 have hup:=fo_up_some w p g n T U h x hx y hu
 have hy:y<n:=(h.num x hx).2.2 y hu
 have hxy:x∈(T y).kids:=(hc.mem y x).2 hu
 have hne:x≠y:=fun e=>by subst e;have:=hc.lt hxy;omega
 have nx:x∉(T x).kids:=fun e=>by have:=hc.lt e;omega
 have ny:y∉(T y).kids:=fun e=>by have:=hc.lt e;omega
 have nyx:y∉(T x).kids:=fun e=>by have:=hc.lt e;have:=hc.lt hxy;omega
 obtain ⟨a,b,hab⟩:=List.append_of_mem hxy
 have hnd:=hc.nodup y
 have hnd2:(T y).kids.Nodup:=hnd
 rw [hab,List.nodup_append] at hnd2
 have hxa:x∉a:=fun e=>hnd2.2.2 x e x (by simp) rfl
 have hxb:x∉b:=(List.nodup_cons.1 hnd2.2.1).1
 have hya:y∉a:=fun e=>ny (by rw [hab];simp [e])
 have hyb:y∉b:=fun e=>ny (by rw [hab];simp [e])
 have hmap:(T y).kids.map (swp x y)=a++y::b:=by rw [hab];exact map_swp_at hxa hxb hya hyb
 have hrY:=h.rows y hy
 obtain ⟨gy,eao,_,_,_⟩:=hrY.at 0 (by rw [hab];simp;omega)
 have hgy:=h.own y hy _ eao
 have hlen:=(h.num y hy).1
 have hlenx:=(h.num x hx).1
 have hnumY:=(h.num y hy).2.1
 have hnumX:=(h.num x hx).2.1
 obtain ⟨N,hN⟩:∃N,(T y).kids.length=N:=⟨_,rfl⟩
 obtain ⟨cy,hcy⟩:∃cy,(T y).ca=cy:=⟨_,rfl⟩
 obtain ⟨ax,hax⟩:∃ax,(T x).ao=ax:=⟨_,rfl⟩
 obtain ⟨M,hM⟩:∃M,(T x).kids.length=M:=⟨_,rfl⟩
 obtain ⟨cx,hcx⟩:∃cx,(T x).ca=cx:=⟨_,rfl⟩
 obtain ⟨Z,hZ⟩:∃Z,oZ (U y)=Z:=⟨_,rfl⟩
 have hNab:(a++y::b).length=N:=by rw [<-hN,hab];simp
 have hxrow:∀b',(Value.slice (T x).ao (T x).kids.length (T x).ca).ownBlock=some b'->b'≠g∧b'≠gy∧b'∈treeF p g n T:=fun b' e=>by
  cases c:(T x).ao with
  | none=>rw [c] at e;simp [Value.ownBlock] at e
  | some q =>
   have h1:=h.own x hx q c
   have h2:=h.dis x y hx hy hne q _ c eao
   rw [c] at e
   obtain ⟨qb,qo,qi⟩:=q
   simp [Value.ownBlock] at e
   subst e
   exact ⟨h1.2,h2,treeF_mem.2 (.inr (.inr ⟨x,hx,_,c,rfl⟩))⟩
 have hplain:∀z,z<n->z≠y->U y≠some z->(T z).kids.map (swp x y)=(T z).kids:=fun z hz h1 h2=>by
  refine map_swp_id (fun e=>h1 ?_) (fun e=>h2 ((hc.mem z y).1 e))
  have:=(hc.mem z x).1 e
  rw [hu] at this;cases this;rfl
 have hmain:∀w0,Keeps [] w w0 ->
   w0.cell? ⟨gy,a.length,none⟩=some (.int .i64 (x:Nat))∧w0.frozen? ⟨gy,a.length,none⟩=false∧(a.length:Int)<(N:Int) ∧
   Calls Tryz.prog 355 #[.slice (some ⟨gy,0,none⟩) N cy,.int .i64 x] w0 (fun e w'=>e=.returned (.int .i64 a.length)∧w0=w') ∧
   Hid (Calls Tryz.prog 362 #[.pointer (some ⟨p,0,none⟩),.int .i64 x,.slice (some ⟨gy,0,none⟩) N cy] (w0.setCell ⟨gy,a.length,none⟩ (.int .i64 (y:Nat))) fun e w2=>e=.returned (.tuple #[]) ∧
    Hid (Calls Tryz.prog 362 #[.pointer (some ⟨p,0,none⟩),.int .i64 y,.slice ax M cx] w2 fun e w3=>e=.returned (.tuple #[]) ∧
     w3.cell? ⟨p,0,none⟩=some (.slice (some ⟨g,0,none⟩) n n)∧(∃v,w3.cell? ⟨g,x*2+1,none⟩=some v)∧w3.frozen? ⟨g,x*2+1,none⟩=false ∧
     Hid (∀w4,w4=w3.setCell ⟨g,x*2+1,none⟩ (.int .i64 Z)->(Z=-1∧Lifted w p g n T U x y w4) ∨
      (∃(q gq Nq cq i:Nat),Z=(q:Int)∧(q:Int)<(n:Int)∧w4.cell? ⟨p,0,none⟩=some (.slice (some ⟨g,0,none⟩) n n)∧w4.cell? ⟨g,q*2,none⟩=some (.slice (some ⟨gq,0,none⟩) Nq cq) ∧
       Calls Tryz.prog 355 #[.slice (some ⟨gq,0,none⟩) Nq cq,.int .i64 y] w4 (fun e w'=>e=.returned (.int .i64 i)∧w4=w')∧(i:Int)<(Nq:Int) ∧
       w4.cell? ⟨gq,i,none⟩=some (.int .i64 (y:Nat))∧w4.frozen? ⟨gq,i,none⟩=false∧Hid (Lifted w p g n T U x y (w4.setCell ⟨gq,i,none⟩ (.int .i64 (x:Nat)))))))):=by
  intro w0 k0
  have h0:=h.keep k0 (by simp)
  have hr0:=h0.rows y hy
  rw [eao,hcy,hN,hab] at hr0
  obtain ⟨s1,s2,s3,s4⟩:=ir_swap hr0 y
  have hix:=Rg.index_calls w0 0 _ _ hr0 (by rw [<-hab];omega) (x:Int)
  rw [place_at hxa] at hix
  refine ⟨s2,s3,by omega,hix,?_⟩
  obtain ⟨w1,hw1⟩:∃w1,w1=w0.setCell ⟨gy,a.length,none⟩ (.int .i64 (y:Nat)):=⟨_,rfl⟩
  have k01:Keeps [gy] w0 w1:=by rw [hw1];exact (Keeps.refl _ _).setCell (.inl (by simp)) _
  rw [<-hw1] at s4 ⊢
  refine (fo_adopt w1 p g n T U (k01.blk h0.blk (by simpa using hgy.1.symm)) (h0.arr.keep k01 (by simpa using hgy.2.symm)) h.ne x hx (some ⟨gy,0,none⟩) N cy (a++y::b) hNab s4 (fun b' e=>by rw [ownBlock_some] at e;cases e;exact hgy.2) (by omega) (fun z hz=>?_)).mono ?_
  .simp only [List.mem_append,List.mem_cons] at hz
   rcases hz with e|rfl|e
   .exact hnumY z (by rw [hab];simp [e])
   .exact hy
   .exact hnumY z (by rw [hab];simp [e])
  rintro e w2 ⟨rfl,hA2,k12⟩
  have hA2:Arr w2 265 2 n g (twigV (upd T x ⟨some ⟨gy,0,none⟩,cy,a++y::b⟩) (updM U (a++y::b) (some x))):=hA2
  have k12:Keeps [g] w1 w2:=k12
  have k02:Keeps [gy,g] w0 w2:=(k01.mono (T:=[gy,g]) (by simp)).trans k12 (by simp)
  have hrX:Rg.IR 0 w2 (.slice ax M cx) (T x).kids:=by
   have:=ir_keep' (h0.rows x hx) k02 (fun b' e f=>by
    obtain ⟨q1,q2,_⟩:=hxrow b' e
    simp only [List.mem_cons,List.not_mem_nil,or_false] at f
    rcases f with f|f
    .exact q2 f
    .exact q1 f)
   rw [hax,hM,hcx] at this;exact this
  refine ⟨rfl,(fo_adopt w2 p g n _ _ (k02.blk h0.blk (by simp;exact ⟨hgy.1.symm,h.ne⟩)) hA2 h.ne y hy ax M cx (T x).kids hM hrX (fun b' e=>by
   rw [<-hax,<-hM,<-hcx] at e;exact (hxrow b' e).1) (by omega) hnumX).mono ?_⟩
  rintro e w3 ⟨rfl,hA3,k23⟩
  have hA3:Arr w3 265 2 n g (twigV (upd (upd T x ⟨some ⟨gy,0,none⟩,cy,a++y::b⟩) y ⟨ax,cx,(T x).kids⟩) (updM (updM U (a++y::b) (some x)) (T x).kids (some y))):=hA3
  have k23:Keeps [g] w2 w3:=k23
  have k03:Keeps [gy,g] w0 w3:=k02.trans k23 (by simp)
  have hb3:=k03.blk h0.blk (by simp;exact ⟨hgy.1.symm,h.ne⟩)
  have k13:Keeps [g] w1 w3:=k12.trans k23 (by simp)
  refine ⟨rfl,by rw [cell_of_blk hb3];rfl,⟨_,hA3.cell (j:=1) hx (by decide)⟩,hA3.frozen _,fun w4 hw4=>?_⟩
  have hA4:=hA3.set hx (j:=1) (by decide) (.int .i64 (oZ (U y)))
  have k34:Keeps [g] w3 w4:=by rw [hw4];exact (Keeps.refl _ _).setCell (.inl (by simp)) _
  rw [hZ,<-hw4,<-hZ,twigV_up,<-hcy,<-eao,<-hmap,<-hax,<-hcx,twig_lifted hc hu] at hA4
  have k04:Keeps [gy,g] w0 w4:=k03.trans k34 (by simp)
  have k14:Keeps [g] w1 w4:=k13.trans k34 (by simp)
  have hb4:=k34.blk hb3 (by simpa using h.ne)
  have hrY4:Rg.IR 0 w4 (.slice (T y).ao (T y).kids.length (T y).ca) ((T y).kids.map (swp x y)):=by
   rw [hmap,eao,hN,hcy]
   exact ir_keep' s4 k14 (fun b' e f=>by rw [ownBlock_some] at e;cases e;simp only [List.mem_singleton] at f;exact hgy.2 f)
  have hrZ4:∀z,z<n->z≠y->Rg.IR 0 w4 (.slice (T z).ao (T z).kids.length (T z).ca) (T z).kids:=fun z hz hzy=>by
   refine ir_keep (h0.rows z hz) k04 (fun q e f=>?_)
   simp only [List.mem_cons,List.not_mem_nil,or_false] at f
   rcases f with f|f
   .exact h.dis z y hz hy hzy q _ e eao f
   .exact (h.own z hz q e).2 f
  have kall:Keeps (treeF p g n T) w w4:=(k0.mono (T:=treeF p g n T) (by simp)).trans k04 (fun b' hb'=>.inl (by
   simp only [List.mem_cons,List.not_mem_nil,or_false] at hb'
   rcases hb' with rfl|rfl
   .exact treeF_mem.2 (.inr (.inr ⟨y,hy,_,eao,rfl⟩))
   .exact treeF_mem.2 (.inr (.inl rfl))))
  cases hq:U y with
  | none =>
   refine .inl ⟨by rw [<-hZ,hq];rfl,h.lifted hx hy hb4 hA4 (fun z hz=>?_),kall⟩
   by_cases c:z=y
   .subst c;exact hrY4
   .rw [hplain z hz c (by rw [hq];simp)];exact hrZ4 z hz c
  | some q =>
   have hqn:q<n:=(h.num y hy).2.2 q hq
   have hyq:y∈(T q).kids:=(hc.mem q y).2 hq
   have hqy:q≠y:=fun e=>by rw [e] at hyq;exact ny hyq
   have hqx:q≠x:=fun e=>by rw [e] at hyq;exact nyx hyq
   obtain ⟨c,d,hcd⟩:=List.append_of_mem hyq
   have hndq:(T q).kids.Nodup:=hc.nodup q
   rw [hcd,List.nodup_append] at hndq
   have hyc:y∉c:=fun e=>hndq.2.2 y e y (by simp) rfl
   have hyd:y∉d:=(List.nodup_cons.1 hndq.2.1).1
   have hxq:x∉(T q).kids:=fun e=>hqy (by have:=(hc.mem q x).1 e;rw [hu] at this;cases this;rfl)
   have hxc:x∉c:=fun e=>hxq (by rw [hcd];simp [e])
   have hxd:x∉d:=fun e=>hxq (by rw [hcd];simp [e])
   have hmq:(T q).kids.map (swp x y)=c++x::d:=by rw [hcd];exact map_swp_at' hxc hxd hyc hyd
   have hr4:=hrZ4 q hqn hqy
   obtain ⟨gq,eq,_,_,_⟩:=hr4.at 0 (by rw [hcd];simp;omega)
   have hlq:=(h.num q hqn).1
   have hgq:=h.own q hqn _ eq
   have e4:w4.cell? ⟨g,q*2,none⟩=some (.slice (T q).ao (T q).kids.length (T q).ca):=by
    have:=hA4.cell (j:=0) hqn (by decide)
    simp only [Nat.add_zero] at this
    rw [this]
    simp [twigV,swT,swp_o hqx hqy]
   obtain ⟨Nq,hNq⟩:∃Nq,(T q).kids.length=Nq:=⟨_,rfl⟩
   have hr5:=hr4
   rw [eq,hNq,hcd] at hr5
   obtain ⟨t1,t2,t3,t4⟩:=ir_swap hr5 x
   have hix4:=Rg.index_calls w4 0 _ _ hr5 (by rw [<-hcd];omega) (y:Int)
   rw [place_at hyc] at hix4
   have k45:Keeps [gq] w4 (w4.setCell ⟨gq,c.length,none⟩ (.int .i64 (x:Nat))):=(Keeps.refl _ _).setCell (.inl (by simp)) _
   refine .inr ⟨q,gq,Nq,(T q).ca,c.length,by rw [<-hZ,hq];rfl,by omega,by rw [cell_of_blk hb4];rfl,by rw [e4,eq,hNq],hix4,by omega,t2,t3,h.lifted hx hy (k45.blk hb4 (by simpa using hgq.1.symm)) (hA4.keep k45 (by simpa using hgq.2.symm)) (fun z hz=>?_),?_⟩
   .by_cases e1:z=q
    .subst e1
     rw [hmq,eq,hNq];exact t4
    .have hz4:Rg.IR 0 w4 (.slice (T z).ao (T z).kids.length (T z).ca) ((T z).kids.map (swp x y)):=by
      by_cases e2:z=y
      .subst e2;exact hrY4
      .rw [hplain z hz e2 (by rw [hq];simpa using fun e=>e1 e.symm)];exact hrZ4 z hz e2
     exact ir_keep hz4 k45 (fun a' e' f=>by
      simp only [List.mem_singleton] at f
      exact h.dis z q hz hqn e1 a' _ e' eq f)
   .exact kall.trans k45 (fun b' hb'=>.inl (by
     simp only [List.mem_singleton] at hb';subst hb'
     exact treeF_mem.2 (.inr (.inr ⟨q,hqn,_,eq,rfl⟩))))
 have c0:=h.c0
 have c1:=h.k0 hx
 have c2:=h.k0 hy
 have c3:=h.k1 hy
 rw [eao,hN,hcy] at c2
 rw [hax,hM,hcx] at c1
 rw [hZ] at c3
 have hx3:(x:Int)<(n:Int):=by omega
 have hy3:(y:Int)<(n:Int):=by omega
 have HM:=Lib.hid hmain
 clear hmain hplain hxrow hNab hZ hcx hM hax hcy hN hnumX hnumY hlen hlenx hgy eao hrY hmap hyb hya hxb hxa hnd2 hnd hab nyx ny nx hxy hc h hu
 go_enter Tryz.func356,Tryz.ntmps356
 go_upto_region 4 with (go_at_call 354;refine hup.mono ?_;rintro e w' ⟨rfl,rfl⟩)
 go_region
 all_goals
  go_upto_region 5 with fail
  obtain ⟨s1,s2,s3,s4,s5⟩:=HM.out w.drew ⟨rfl,rfl,rfl,Nat.le_refl _,fun _ _ _=>rfl⟩
  clear HM c0 c1 c2 c3 hup
  go_upto_region 6 with (go_at_call 355;refine s4.mono ?_;rintro e w' ⟨rfl,rfl⟩)
  clear s1 s2 s3 s4
  go_upto_region 7 with (go_at_call 362;refine s5.out.mono ?_;rintro e w2 ⟨rfl,s6⟩)
  go_upto_region 8 with (go_at_call 362;refine s6.out.mono ?_;rintro e w3 ⟨rfl,u1,⟨v,u2⟩,u3,u4⟩)
  go_upto_region 9 with fail
  generalize hw4:w3.setCell ⟨g,x*2+1,none⟩ (.int .i64 Z)=w4
  have hend:=u4.out w4 hw4.symm
  clear hw4 u1 u2 u3 u4 s5 s6
  rcases hend with ⟨rfl,hfin⟩|⟨q,gq,Nq,cq,i,rfl,z1,z2,z3,z4,z5,z6,z7,z8⟩
  .have HF:=Lib.hid hfin
   clear hfin
   go_wp2_with fail
   go_ret
   exact ⟨rfl,HF.out⟩
  .have b2:((q:Int)==-1)=false:=by rw [beq_eq_false_iff_ne];omega
   go_wp2_with (go_at_call 355;refine z4.mono ?_;rintro e w' ⟨rfl,rfl⟩)
   go_ret
   exact ⟨rfl,z8⟩
end
section
variable (w:World) (F:List Nat) (p pc gT cT cap hs h x:Nat) (E:Ent)
def Step1 (w3:World):Prop :=
 w3.cell? ⟨p,0,none⟩=some (.pointer (some ⟨pc,0,none⟩))∧w3.cell? ⟨p,3,none⟩=some (.slice (some ⟨gT,0,none⟩) (hs+1) cT)∧w3.cell? ⟨gT,h,none⟩=some (.int .i64 (x:Nat))∧Hid (∀n,FibSt w F p cap hs E (.returned (.bool true)) (w3.drewN n))
def Step2 (w3:World):Prop :=
 w3.cell? ⟨p,0,none⟩=some (.pointer (some ⟨pc,0,none⟩))∧w3.cell? ⟨p,3,none⟩=some (.slice (some ⟨gT,0,none⟩) (hs+1) cT)∧∃t:Nat,t≠x∧w3.cell? ⟨gT,h,none⟩=some (.int .i64 (t:Nat)) ∧
  Hid (Calls Tryz.prog 339 #[.pointer (some ⟨pc,0,none⟩),.int .i64 x,.int .i64 t] w3.drew fun e w4=>e=.returned (.bool true)∧w4.cell? ⟨p,3,none⟩=some (.slice (some ⟨gT,0,none⟩) (hs+1) cT)∧w4.cell? ⟨gT,h,none⟩=some (.int .i64 (t:Nat))∧w4.frozen? ⟨gT,h,none⟩=false ∧
   Hid (FibSt w F p cap hs E (.returned (.bool true)) (w4.setCell ⟨gT,h,none⟩ (.int .i64 (x:Nat)))))
def Step3 (w3:World):Prop :=
 w3.cell? ⟨p,0,none⟩=some (.pointer (some ⟨pc,0,none⟩))∧w3.cell? ⟨p,3,none⟩=some (.slice (some ⟨gT,0,none⟩) (hs+1) cT)∧∃t:Nat,t≠x∧w3.cell? ⟨gT,h,none⟩=some (.int .i64 (t:Nat)) ∧
  Hid (Calls Tryz.prog 339 #[.pointer (some ⟨pc,0,none⟩),.int .i64 x,.int .i64 t] w3.drew fun e w4=>e=.returned (.bool false)∧Hid (FibSt w F p cap hs E (.returned (.bool true)) w4))
end
section
variable {w w3:World} {p pc pr gn gp gt gT cT:Nat} {Fc:List Nat} {cap hs:Nat} {E:Ent} {wl:List (List Nat)} {U kid:Nat->Option Nat} {deg:Nat->Nat} {mk:Nat->Bool} {top:Nat->Option Nat} {h x q:Nat} {k k':Int}
theorem Keeps.drewS {S:List Nat} {w w':World} (h:Keeps S w w'):Keeps S w w'.drew:=⟨h.os,h.tape,h.output,h.size,h.block⟩
theorem FibQ.lowTop (z:FibQ w3 p pc pr gn gp gt gT cT Fc cap hs (put E x (some (h,k',q))) wl U kid deg mk top) (h1:1<=h) (h2:h<=hs) (m:FibM E cap (Rl wl) U kid deg top h (fun _=>True)) (he:E x=some (h,k,q)) (hk:k'<=k) (hu:U x=none)
  (kk:Keeps (p::pr::gn::gp::gt::gT::Fc) w w3):∃t,top h=some t∧((t=x∧Step1 w (p::pr::gn::gp::gt::gT::Fc) p pc gT cT cap hs h x (put E x (some (h,k',q))) w3) ∨
   (t≠x∧Step2 w (p::pr::gn::gp::gt::gT::Fc) p pc gT cT cap hs h x (put E x (some (h,k',q))) w3)∨(t≠x∧Step3 w (p::pr::gn::gp::gt::gT::Fc) p pc gT cT cap hs h x (put E x (some (h,k',q))) w3)):=by
 have hxi:isIn E h x:=⟨_,he⟩
 have hrx:rootOf E U h x:=⟨hxi,hu⟩
 obtain ⟨t,ht⟩:∃t,top h=some t:=by
  cases e:top h with
  | none=>exact absurd hxi (m.none_of e x)
  | some t=>exact ⟨t,rfl⟩
 have hti:=(m.topS h t ht).1.1
 have d0:=z.tr.at (i:=h) (by omega)
 rw [ht,oZ_some] at d0
 have z0:=z.same ((Keeps.refl [] w3).drewS)
 have hall:∀(w':World) (t':Nat),FibQ w' p pc pr gn gp gt gT cT Fc cap hs (put E x (some (h,k',q))) wl U kid deg mk (upd top h (some t'))->Keeps (p::pr::gn::gp::gt::gT::Fc) w w' ->
   ((t'=x∧(x=t∨ahead (put E x (some (h,k',q))) x t=true))∨(t'=t∧x≠t∧ahead (put E x (some (h,k',q))) x t=false))->FibSt w (p::pr::gn::gp::gt::gT::Fc) p cap hs (put E x (some (h,k',q))) (.returned (.bool true)) w':=fun w' t' z' k' hc =>
  ⟨rfl,⟨pc,pr,gn,gp,gt,gT,cT,Fc,wl,U,kid,deg,mk,_,rfl,z',FibM.any (g:=h) (m.lowRoot hrx he hk ht hc) 0⟩,k'⟩
 have hself:upd top h (some t)=top:=by rw [<-ht,upd_self]
 refine ⟨t,ht,?_⟩
 by_cases c:t=x
 .refine .inl ⟨c,z.c0,z.c3,by rw [<-c];exact d0,fun n=>hall _ x ?_ (kk.drewN n) (.inl ⟨rfl,.inl c.symm⟩)⟩
  rw [<-c,hself,c];exact z.same ((Keeps.refl _ _).drewN n)
 .have hsome:∀y,(E y).isSome->(put E x (some (h,k',q)) y).isSome:=fun y hy=>by rw [some_low he];exact hy
  have hah:=cells_ahead w3.drew Fc pc cap hs _ z0.ce x t (hsome x hxi.some) (hsome t hti.some)
  have hz4:∀w4,CellsAt w4 Fc pc cap hs (put E x (some (h,k',q)))->Keeps Fc w3.drew w4->FibQ w4 p pc pr gn gp gt gT cT Fc cap hs (put E x (some (h,k',q))) wl U kid deg mk top∧Keeps (p::pr::gn::gp::gt::gT::Fc) w w4:=fun w4 hc hk4 =>
   ⟨z0.cells hc hk4,kk.drewS.trans hk4 (fun b hb=>.inl (by simp [hb]))⟩
  rcases Bool.eq_false_or_eq_true (ahead (put E x (some (h,k',q))) x t) with ha|ha
  .rw [ha] at hah
   refine .inr (.inl ⟨c,z.c0,z.c3,t,c,d0,hah.mono ?_⟩)
   rintro e w4 ⟨rfl,hc4,k4⟩
   obtain ⟨z4,kk4⟩:=hz4 w4 hc4 k4
   have d4:=z4.tr.at (i:=h) (by omega)
   rw [ht,oZ_some] at d4
   exact ⟨rfl,z4.c3,d4,z4.tr.frozen _,hall _ x (z4.setTop h1 h2 (some x)) (kk4.setCell (.inl (by simp)) _) (.inl ⟨rfl,.inr ha⟩)⟩
  .rw [ha] at hah
   refine .inr (.inr ⟨c,z.c0,z.c3,t,c,d0,hah.mono ?_⟩)
   rintro e w4 ⟨rfl,hc4,k4⟩
   obtain ⟨z4,kk4⟩:=hz4 w4 hc4 k4
   exact ⟨rfl,hall _ t (by rw [hself];exact z4) kk4 (.inr ⟨rfl,fun e=>c e.symm,ha⟩)⟩
theorem FibQ.lowStay (z:FibQ w3 p pc pr gn gp gt gT cT Fc cap hs (put E x (some (h,k',q))) wl U kid deg mk top) (h2:h<=hs) {r:Nat} (m:FibM (put E x (some (h,k',q))) cap (Rl wl) U kid deg top h (fun _=>True)) (hu:U x=some r)
  (kk:Keeps (p::pr::gn::gp::gt::gT::Fc) w w3):Step3 w (p::pr::gn::gp::gt::gT::Fc) p pc gT cT cap hs h x (put E x (some (h,k',q))) w3:=by
 have hxi:isIn (put E x (some (h,k',q))) h x:=⟨_,put_same _ _ _⟩
 obtain ⟨t,ht⟩:∃t,top h=some t:=by
  cases e:top h with
  | none=>exact absurd hxi (m.none_of e x)
  | some t=>exact ⟨t,rfl⟩
 have htr:=(m.topS h t ht).1
 have htx:t≠x:=by rintro rfl;rw [htr.2] at hu;cases hu
 have hl:=(m.first ht).2 x hxi htx.symm
 have d0:=z.tr.at (i:=h) (by omega)
 rw [ht,oZ_some] at d0
 have z0:=z.same ((Keeps.refl [] w3).drewS)
 have hah:=cells_ahead w3.drew Fc pc cap hs _ z0.ce x t hxi.some htr.1.some
 rw [ahead_asym hl] at hah
 refine ⟨z.c0,z.c3,t,htx,d0,hah.mono ?_⟩
 rintro e w4 ⟨rfl,hc4,k4⟩
 exact ⟨rfl,rfl,⟨pc,pr,gn,gp,gt,gT,cT,Fc,wl,U,kid,deg,mk,top,rfl,z0.cells hc4 k4,FibM.any (g:=h) m 0⟩,kk.drewS.trans k4 (fun b hb=>.inl (by simp [hb]))⟩
end
section
variable (w:World) (F:List Nat) (p cap hs:Nat) (E:Ent)
theorem fib_decrease (c:FibAt w F p cap hs E) (x h q:Nat) (k k':Int) (he:E x=some (h,k,q)) (hk:k'<=k) (hw:(Lit.int .i64 k').wf=true) :
  Calls Tryz.prog 381 #[.pointer (some ⟨p,0,none⟩),.int .i64 x,.agg #[.int .i64 k',.int .u64 (q:Int)]] w (FibSt w F p cap hs (put E x (some (h,k',q)))):=by
 obtain ⟨pc,pr,gn,gp,gt,gT,cT,Fc,wl,U,kid,deg,mk,top,rfl,m,o⟩:=c
 have hx:=m.ce.ok.lt x (by rw [he];rfl)
 obtain ⟨h1,h2⟩:=m.ce.ok.heap x h _ he
 have hxi:isIn E h x:=⟨_,he⟩
 have hm:=FibM.any o h
 obtain ⟨w0,hw0⟩:∃w0,w0=w.alloc (.cells #[.int .i64 k',.int .u64 (q:Int)] 104 (0,0)):=⟨_,rfl⟩
 obtain ⟨eb,heb⟩:∃eb,eb=w.heap.size:=⟨_,rfl⟩
 have k0:Keeps [] w w0:=by rw [hw0];exact (Keeps.refl _ _).alloc _
 have b0:w0.heap[eb]?=some (.cells #[.int .i64 k',.int .u64 (q:Int)] 104 (0,0)):=by rw [hw0,heb];exact blk_alloc_new _
 have e0:w0.cell? ⟨eb,0,none⟩=some (.int .i64 k'):=by rw [cell_of_blk b0];rfl
 have e1:w0.cell? ⟨eb,1,none⟩=some (.int .u64 (q:Int)):=by rw [cell_of_blk b0];rfl
 have m0:=m.same k0
 have d0:=m0.c0
 have hlow:=cells_lower w0.drew Fc pc cap hs E (m0.same ((Keeps.refl [] w0).drewS)).ce x h q k k' he hk hw
 have hmid:∀w1 a,CellsAt w1 Fc pc cap hs (put E x (some (h,k',q)))->Keeps Fc w0.drew w1->FibQ (w1.drewN a) p pc pr gn gp gt gT cT Fc cap hs (put E x (some (h,k',q))) wl U kid deg mk top∧Keeps (p::pr::gn::gp::gt::gT::Fc) w (w1.drewN a):=fun w1 a hc1 k1=>by
  have q1:=(m0.same ((Keeps.refl [] w0).drewS)).cells hc1 k1
  have kd:Keeps [] w1 (w1.drewN a):=(Keeps.refl _ _).drewN a
  exact ⟨q1.same kd,(((k0.drewS).mono (T:=p::pr::gn::gp::gt::gT::Fc) (by simp)).trans k1 (fun b hb=>.inl (by simp [hb]))).trans kd (by simp)⟩
 have hhome:∀w1,CellsAt w1 Fc pc cap hs (put E x (some (h,k',q)))->Keeps Fc w0.drew w1->w1.cell? ⟨p,0,none⟩=some (.pointer (some ⟨pc,0,none⟩))∧Hid (Calls Tryz.prog 302 #[.pointer (some ⟨pc,0,none⟩),.int .i64 x] w1 fun e w'=>e=.returned (.tuple #[.int .i64 h,.bool true])∧∃n,w'=w1.drewN n):=fun w1 hc1 k1 =>
  ⟨((m0.same ((Keeps.refl [] w0).drewS)).cells hc1 k1).c0,cells_home w1 Fc pc cap hs _ hc1 x h ((isIn_low he k' h x).2 hxi)⟩
 have HM:=Lib.hid hmid
 have HH:=Lib.hid hhome
 have HE:=Lib.hid he
 have HT:=Lib.hid hm
 have HX:=Lib.hid hxi
 have HK:=Lib.hid hk
 clear hmid hhome m m0 o hm b0 k0 he hxi
 go_enter Tryz.func381,Tryz.ntmps381
 go_upto_region 1 with fail
 rw [<-hw0,<-heb]
 clear hw0 heb
 go_region_law (first
  | (go_simp;go_at_call 309;refine hlow.mono ?_;rintro e w1 ⟨rfl,hc1,k1⟩;obtain ⟨d0,hho⟩:=HH.out w1 hc1 k1;have M1:=Lib.hid (fun a=>HM.out w1 a hc1 k1);clear hc1 k1))
 all_goals
  clear hlow e0 e1 HM HH
  go_upto_region 4 with (go_at_call 302;refine hho.out.mono ?_;rintro e w2 ⟨rfl,a,rfl⟩)
  obtain ⟨q2,k2⟩:=M1.out a
  generalize w1.drewN a=w2 at *
  clear M1 hho d0
  have d0:=q2.c0
  have d2:=q2.c2
  have u0:=q2.k0 hx
  have hx3:(x:Int)<(cap:Int):=by omega
  have hhs3:(h:Int)<((hs+1:Nat):Int):=by omega
  have hhs4:(h:Int)<(hs:Int)+1:=by omega
  cases hu:U x with
  | none =>
   rw [hu,oZ_none] at u0
   obtain ⟨t,ht,hst⟩:=q2.lowTop h1 h2 HT.out HE.out HK.out hu k2
   clear q2 k2 hu ht
   go_upto_region 7 with fail
   clear d0 d2 u0
   rcases hst with ⟨_,s⟩|⟨_,s⟩|⟨_,s⟩
   .obtain ⟨c0,c3,d3,hfin⟩:=s
    go_wp2_with fail
    go_quiet (fail)
    go_wp2_with fail
    go_ret
    exact hfin.out nq
   .obtain ⟨c0,c3,t,htx,d3,hah⟩:=s
    have hb:((t:Int)==(x:Int))=false:=by rw [beq_eq_false_iff_ne];omega
    have hb2:((t:Int) != (x:Int))=true:=by rw [bne_iff_ne];omega
    go_still_tail 22,(by kernel_rfl)
    change wpList _ _ _ _ _ w2.drew
    have c0':w2.drew.cell? ⟨p,0,none⟩=some (.pointer (some ⟨pc,0,none⟩)):=c0
    have c3':w2.drew.cell? ⟨p,3,none⟩=some (.slice (some ⟨gT,0,none⟩) (hs+1) cT):=c3
    have d3':w2.drew.cell? ⟨gT,h,none⟩=some (.int .i64 (t:Nat)):=d3
    generalize w2.drew=wE at *
    clear c0 c3 d3
    go_wp2_with (go_at_call 339;refine hah.out.mono ?_;rintro e w9 ⟨rfl,c9,d9,f9,hfin⟩)
    go_ret
    exact hfin.out
   .obtain ⟨c0,c3,t,htx,d3,hah⟩:=s
    have hb:((t:Int)==(x:Int))=false:=by rw [beq_eq_false_iff_ne];omega
    have hb2:((t:Int) != (x:Int))=true:=by rw [bne_iff_ne];omega
    go_still_tail 22,(by kernel_rfl)
    change wpList _ _ _ _ _ w2.drew
    have c0':w2.drew.cell? ⟨p,0,none⟩=some (.pointer (some ⟨pc,0,none⟩)):=c0
    have c3':w2.drew.cell? ⟨p,3,none⟩=some (.slice (some ⟨gT,0,none⟩) (hs+1) cT):=c3
    have d3':w2.drew.cell? ⟨gT,h,none⟩=some (.int .i64 (t:Nat)):=d3
    generalize w2.drew=wE at *
    clear c0 c3 d3
    go_wp2_with (go_at_call 339;refine hah.out.mono ?_;rintro e w9 ⟨rfl,hfin⟩)
    go_ret
    exact hfin.out
  | some r =>
   rw [hu,oZ_some] at u0
   have hrb:((r:Int)==-1)=false:=by rw [beq_eq_false_iff_ne];omega
   have hrb2:((r:Int) != -1)=true:=by rw [bne_iff_ne];omega
   have hrs:(put E x (some (h,k',q)) r).isSome:=by rw [some_low HE.out];exact (ahead_some (HT.out.par x r hu).2).1
   have hxs:(put E x (some (h,k',q)) x).isSome:=by rw [put_same];rfl
   have hah:=cells_ahead w2 Fc pc cap hs _ q2.ce x r hxs hrs
   have hrx:r≠x:=fun e=>by
    have:=(HT.out.par x r hu).2
    rw [e,ahead_irr] at this;cases this
   rcases Bool.eq_false_or_eq_true (ahead (put E x (some (h,k',q))) x r) with ha|ha
   .rw [ha] at hah
    have hloo:∀w3,CellsAt w3 Fc pc cap hs (put E x (some (h,k',q)))->Keeps Fc w2 w3->Calls Tryz.prog 388 #[.pointer (some ⟨p,0,none⟩),.int .i64 h,.int .i64 x] w3 fun e w4=>e=.returned (.tuple #[]) ∧
      Hid (Step2 w (p::pr::gn::gp::gt::gT::Fc) p pc gT cT cap hs h x (put E x (some (h,k',q))) w4∨Step3 w (p::pr::gn::gp::gt::gT::Fc) p pc gT cT cap hs h x (put E x (some (h,k',q))) w4):=fun w3 hc3 k3=>by
     refine (fib_loosen w3 p pc pr gn gp gt gT cT Fc cap hs _ E U top wl kid deg mk (q2.cells hc3 k3) h x h2 HT.out HX.out).mono ?_
     rintro e w4 ⟨rfl,wl4,U4,kid4,deg4,mk4,q4,m4,k4,hu4⟩
     obtain ⟨t,ht,hst⟩:=q4.lowTop (w:=w) h1 h2 m4 HE.out HK.out hu4 ((k2.trans k3 (fun b hb=>.inl (by simp [hb]))).trans k4 (fun b hb=>.inl hb))
     rcases hst with ⟨e,_⟩|⟨_,s⟩|⟨_,s⟩
     .rw [e] at ht
      have:=(HT.out.topS h x ht).1.2
      rw [hu] at this;cases this
     .exact ⟨rfl,.inl s⟩
     .exact ⟨rfl,.inr s⟩
    have HLO:=Lib.hid hloo
    clear hloo q2 k2 hu ha hrs hxs
    go_upto_region 6 with (go_at_call 339;refine hah.mono ?_;rintro e w3 ⟨rfl,hc3,k3⟩;have hlo:=HLO.out w3 hc3 k3;clear hc3 k3)
    clear hah HLO d0 d2 u0
    go_upto_region 7 with (go_at_call 388;refine hlo.mono ?_;rintro e w4 ⟨rfl,hst⟩)
    clear hlo
    rcases hst.out with s|s
    .obtain ⟨c0,c3,t,htx,d3,hah⟩:=s
     have hb:((t:Int)==(x:Int))=false:=by rw [beq_eq_false_iff_ne];omega
     have hb2:((t:Int) != (x:Int))=true:=by rw [bne_iff_ne];omega
     go_still_tail 22,(by kernel_rfl)
     change wpList _ _ _ _ _ w4.drew
     have c0':w4.drew.cell? ⟨p,0,none⟩=some (.pointer (some ⟨pc,0,none⟩)):=c0
     have c3':w4.drew.cell? ⟨p,3,none⟩=some (.slice (some ⟨gT,0,none⟩) (hs+1) cT):=c3
     have d3':w4.drew.cell? ⟨gT,h,none⟩=some (.int .i64 (t:Nat)):=d3
     generalize w4.drew=wE at *
     clear c0 c3 d3
     go_wp2_with (go_at_call 339;refine hah.out.mono ?_;rintro e w9 ⟨rfl,c9,d9,f9,hfin⟩)
     go_ret
     exact hfin.out
    .obtain ⟨c0,c3,t,htx,d3,hah⟩:=s
     have hb:((t:Int)==(x:Int))=false:=by rw [beq_eq_false_iff_ne];omega
     have hb2:((t:Int) != (x:Int))=true:=by rw [bne_iff_ne];omega
     go_still_tail 22,(by kernel_rfl)
     change wpList _ _ _ _ _ w4.drew
     have c0':w4.drew.cell? ⟨p,0,none⟩=some (.pointer (some ⟨pc,0,none⟩)):=c0
     have c3':w4.drew.cell? ⟨p,3,none⟩=some (.slice (some ⟨gT,0,none⟩) (hs+1) cT):=c3
     have d3':w4.drew.cell? ⟨gT,h,none⟩=some (.int .i64 (t:Nat)):=d3
     generalize w4.drew=wE at *
     clear c0 c3 d3
     go_wp2_with (go_at_call 339;refine hah.out.mono ?_;rintro e w9 ⟨rfl,hfin⟩)
     go_ret
     exact hfin.out
   .rw [ha] at hah
    have hap:ahead (put E x (some (h,k',q))) r x=true:=by
     rcases ahead_tot hrs hxs hrx with e|e
     .exact e
     .rw [ha] at e;cases e
    have hst:∀w3,CellsAt w3 Fc pc cap hs (put E x (some (h,k',q)))->Keeps Fc w2 w3->Step3 w (p::pr::gn::gp::gt::gT::Fc) p pc gT cT cap hs h x (put E x (some (h,k',q))) w3:=fun w3 hc3 k3 =>
     (q2.cells hc3 k3).lowStay h2 (HT.out.lowKid hu HE.out HK.out hap) hu (k2.trans k3 (fun b hb=>.inl (by simp [hb])))
    have HS:=Lib.hid hst
    clear hst q2 k2 hu ha hrs hxs hap
    go_upto_region 7 with (go_at_call 339;refine hah.mono ?_;rintro e w3 ⟨rfl,hc3,k3⟩;have s:=HS.out w3 hc3 k3;clear hc3 k3)
    clear hah HS d0 d2 u0
    obtain ⟨c0,c3,t,htx,d3,hah⟩:=s
    have hb:((t:Int)==(x:Int))=false:=by rw [beq_eq_false_iff_ne];omega
    have hb2:((t:Int) != (x:Int))=true:=by rw [bne_iff_ne];omega
    go_still_tail 22,(by kernel_rfl)
    change wpList _ _ _ _ _ w3.drew
    have c0':w3.drew.cell? ⟨p,0,none⟩=some (.pointer (some ⟨pc,0,none⟩)):=c0
    have c3':w3.drew.cell? ⟨p,3,none⟩=some (.slice (some ⟨gT,0,none⟩) (hs+1) cT):=c3
    have d3':w3.drew.cell? ⟨gT,h,none⟩=some (.int .i64 (t:Nat)):=d3
    generalize w3.drew=wE at *
    clear c0 c3 d3
    go_wp2_with (go_at_call 339;refine hah.out.mono ?_;rintro e w9 ⟨rfl,hfin⟩)
    go_ret
    exact hfin.out
theorem fib_delete (c:FibAt w F p cap hs E) (x h:Nat) (hxi:isIn E h x) :
  Calls Tryz.prog 382 #[.pointer (some ⟨p,0,none⟩),.int .i64 x] w (FibSt w F p cap hs (put E x none)):=by
 have hx:=c.ok.lt x hxi.some
 obtain ⟨⟨k,q⟩,he⟩:=id hxi
 obtain ⟨h1,h2⟩:=c.ok.heap x h _ he
 have hext:∀a,Calls Tryz.prog 383 #[.pointer (some ⟨p,0,none⟩),.int .i64 h] (w.drewN a) (FibExt (w.drewN a) F p cap hs E h):=fun a =>
  fib_extract (w.drewN a) F p cap hs E (c.keep (S:=[]) ((Keeps.refl _ _).drewN a) (by simp)) h h1 h2 ⟨x,hxi⟩
 obtain ⟨pc,pr,gn,gp,gt,gT,cT,Fc,wl,U,kid,deg,mk,top,rfl,m,o⟩:=c
 have hm:=FibM.any o h
 have hhome:=cells_home w Fc pc cap hs E m.ce x h hxi
 have hcp:=m.cp
 have d0:=m.c0
 have c3:=m.c3
 obtain ⟨t,ht⟩:∃t,top h=some t:=by
  cases e:top h with
  | none=>exact absurd hxi (hm.none_of e x)
  | some t=>exact ⟨t,rfl⟩
 have t0:=m.tr.at (i:=h) (by omega)
 rw [ht,oZ_some] at t0
 have hh3:(h:Int)<((hs+1:Nat):Int):=by omega
 have hh4:(h:Int)<(hs:Int)+1:=by omega
 by_cases htx:t=x
 .have hfin:∀a e w',FibExt (w.drewN a) (p::pr::gn::gp::gt::gT::Fc) p cap hs E h e w'->∃x':Nat,e=.returned (.tuple #[.int .i64 x',.bool true])∧Hid (FibSt w (p::pr::gn::gp::gt::gT::Fc) p cap hs (put E x none) (.returned (.bool true)) w'):=by
   rintro a e w' ⟨x',rfl,hl,hb,hk⟩
   have:x'=x:=hl.one (by rw [<-htx];exact hm.first ht)
   subst this
   exact ⟨_,rfl,rfl,hb,hk.ofDrewN⟩
  have HF:=Lib.hid hfin
  have HX:=Lib.hid hext
  subst htx
  clear hfin hext m o hm he hxi ht
  go_enter Tryz.func382,Tryz.ntmps382
  go_upto_region 4 with (go_at_call 302;refine hhome.mono ?_;rintro e w1 ⟨rfl,a,rfl⟩)
  have hx5:=HX.out a
  go_wp2_with (go_at_call 383;refine hx5.mono ?_;intro e w2 hb;obtain ⟨x',rfl,hd⟩:=HF.out a e w2 hb;clear hb)
  go_ret
  exact hd.out
 .have htb:((t:Int)==(x:Int))=false:=by rw [beq_eq_false_iff_ne];omega
  have hloo:∀a,Calls Tryz.prog 388 #[.pointer (some ⟨p,0,none⟩),.int .i64 h,.int .i64 x] (w.drewN a) fun e w2=>e=.returned (.tuple #[]) ∧
    Hid (Calls Tryz.prog 389 #[.pointer (some ⟨p,0,none⟩),.int .i64 x] w2 fun e w3=>e=.returned (.tuple #[])∧w3.cell? ⟨p,1,none⟩=some (.pointer (some ⟨pr,0,none⟩)) ∧
     Hid (Calls Tryz.prog 390 #[.pointer (some ⟨pr,0,none⟩),.int .i64 x] w3 fun e w4=>e=.returned (.bool true)∧w4.cell? ⟨p,0,none⟩=some (.pointer (some ⟨pc,0,none⟩)) ∧
      Hid (Calls Tryz.prog 312 #[.pointer (some ⟨pc,0,none⟩),.int .i64 x] w4 fun e w5=>e=.returned (.bool true)∧Hid (FibSt w (p::pr::gn::gp::gt::gT::Fc) p cap hs (put E x none) (.returned (.bool true)) w5)))):=fun a=>by
   have kd:Keeps [] w (w.drewN a):=(Keeps.refl _ _).drewN a
   refine (fib_loosen (w.drewN a) p pc pr gn gp gt gT cT Fc cap hs E E U top wl kid deg mk (m.same kd) h x h2 hm hxi).mono ?_
   rintro e w2 ⟨rfl,wl2,U2,kid2,deg2,mk2,q2,m2,k2,hu2⟩
   refine ⟨rfl,(fib_raise_any w2 p pc pr gn gp gt gT cT Fc cap hs E wl2 U2 kid2 deg2 mk2 top q2 h x E m2 ⟨hxi,hu2⟩).mono ?_⟩
   rintro e w3 ⟨rfl,wl3,U3,kid3,deg3,mk3,q3,m3,hu3,hk3,k3⟩
   refine ⟨rfl,q3.c1,(rg_part q3.rg q3.cp hx).mono ?_⟩
   rintro e w4 ⟨rfl,hr4,k4⟩
   have q4:=q3.ring hr4 k4
   obtain ⟨N,P,hr⟩:=q3.rg.rings
   have hrx:rootOf E U3 h x:=⟨hxi,hu3⟩
   have m4:=m3.partOne hrx (by rw [ht];simpa using htx) (fun u v hu=>rl_part hr hx hu)
   refine ⟨rfl,q4.c0,(cells_drop w4 Fc pc cap hs E q4.ce x h hxi).mono ?_⟩
   rintro e w5 ⟨rfl,hc5,k5⟩
   have m5:=m4.drop hrx hk3 (fun e=>e rfl) (fun y _ e=>e)
   exact ⟨rfl,rfl,⟨pc,pr,gn,gp,gt,gT,cT,Fc,_,U3,kid3,deg3,mk3,top,rfl,q4.cells hc5 k5,FibM.any (g:=h) m5 0⟩,
    ((((kd.mono (T:=p::pr::gn::gp::gt::gT::Fc) (by simp)).trans k2 (fun b hb=>.inl hb)).trans k3 (fun b hb=>.inl hb)).trans k4 (fun b hb=>.inl (by simp only [List.mem_cons,List.not_mem_nil,or_false] at hb ⊢;rcases hb with c|c<;>simp [c]))).trans k5 (fun b hb=>.inl (by simp [hb]))⟩
  have HL:=Lib.hid hloo
  clear hloo hext m o hm he hxi ht
  go_enter Tryz.func382,Tryz.ntmps382
  go_upto_region 4 with (go_at_call 302;refine hhome.mono ?_;rintro e w1 ⟨rfl,a,rfl⟩)
  have hl:=HL.out a
  clear HL hhome
  go_upto_region 8 with (go_at_call 388;refine hl.mono ?_;rintro e w2 ⟨rfl,hr⟩)
  clear hl d0 c3 t0
  go_wp2_with (first
   | (go_at_call 389;refine hr.out.mono ?_;rintro e w3 ⟨rfl,c1,hp⟩)
   | (go_at_call 390;refine hp.out.mono ?_;rintro e w4 ⟨rfl,c0,hd⟩)
   | (go_at_call 312;refine hd.out.mono ?_;rintro e w5 ⟨rfl,hfin⟩))
  go_ret
  exact hfin.out
end
section
variable (w:World) (p g n:Nat) (L R U:Nat->Option Nat) (h:SpineAt w p g n L R U)
include h
theorem sp_cut_top (x:Nat) (hx:x<n) (hu:U x=none):Calls Tryz.prog 407 #[.pointer (some ⟨p,0,none⟩),.int .i64 x] w fun e w'=>e=.returned (.tuple #[.int .i64 0,.bool false])∧w=w':=by
 have ha:=sp_above w p g n L R U h x hx
 rw [hu] at ha
 simp only [oZ] at ha
 clear h
 go_enter Tryz.func407,Tryz.ntmps407
 go_wp2_with (go_at_call 415;refine ha.mono ?_;rintro e w' ⟨rfl,rfl⟩)
 go_ret2
 exact ⟨rfl,rfl⟩
theorem sp_hangL (q x:Nat) (hq:q<n) (hx:x<n) (hne':q≠x) (hu:U x=none) (hl:L q=none) :
  Calls Tryz.prog 414 #[.pointer (some ⟨p,0,none⟩),.int .i64 q,.int .i64 x,.bool false] w fun e w'=>e=.returned (.bool true)∧SpineLeft w p g n (upd L q (some x)) R (upd U x (some q)) w':=by
 have ha:=sp_above w p g n L R U h x hx
 have hk:=fun u (hu:SpineAt u p g n L R U)=>sp_kidL u p g n L R U hu q hq
 rw [hu] at ha
 rw [hl] at hk
 simp only [oZ] at ha hk
 have h1:=h.setL hq (o:=some x) (by rintro y e;cases e;exact hx)
 have h2:=h1.setU hx (o:=some q) (by rintro y e;cases e;exact hq)
 have k2:Keeps [g] w ((w.setCell ⟨g,q*3,none⟩ (.int .i64 (oZ (some x)))).setCell ⟨g,x*3+2,none⟩ (.int .i64 (oZ (some q)))):=((Keeps.refl _ _).setCell (.inl (by simp)) _).setCell (.inl (by simp)) _
 simp only [oZ] at h2 k2
 have c0:=h.head
 have c1:=h.left hq
 have c2:=h.up hx
 have f1:=h.frozen (q*3)
 have f2:=h.frozen (x*3+2)
 have hne:=h.ne
 have hq3:(q:Int)<(n:Int):=by omega
 have hx3:(x:Int)<(n:Int):=by omega
 have hqx:((q:Int)==(x:Int))=false:=by rw [beq_eq_false_iff_ne];omega
 have H2:=Lib.hid h2
 have K2:=Lib.hid k2
 clear h1 h2 k2 hu hl
 go_enter Tryz.func414,Tryz.ntmps414
 go_upto_region 3 with (first
  | (go_at_call 420;refine (sp_has w p g n L R U h _ (by first|exact hq|exact hx)).mono ?_;rintro e w' ⟨rfl,rfl⟩)
  | (go_at_call 415;refine ha.mono ?_;rintro e w' ⟨rfl,rfl⟩)
  | (go_at_call 417;refine (hk _ (by exact h.like rfl)).mono ?_;rintro e w' ⟨rfl,m,rfl⟩))
 go_region_held3 (fun w'=>w'.cell? ⟨p,0,none⟩=some (.slice (some ⟨g,0,none⟩) n n)) (first|exact c0|exact cell_set_ne hne.symm c0)
  (first
   | (go_at_call 416;refine (side_false _).mono ?_;rintro e w' ⟨rfl,rfl⟩))
 all_goals
  go_wp2
  go_ret
  exact ⟨rfl,H2.out.keep (S:=[]) ⟨rfl,rfl,rfl,Nat.le_refl _,fun _ _ _=>rfl⟩ (by simp) (by simp),K2.out.trans (T:=[]) ⟨rfl,rfl,rfl,Nat.le_refl _,fun _ _ _=>rfl⟩ (by simp)⟩
end
section
variable (w:World) (F:List Nat) (p cap hs:Nat) (E:Ent)
theorem skew_decrease (c:SkewAt w F p cap hs E) (x h q:Nat) (k k':Int) (he:E x=some (h,k,q)) (hk:k'<=k) (hw:(Lit.int .i64 k').wf=true) :
  Calls Tryz.prog 423 #[.pointer (some ⟨p,0,none⟩),.int .i64 x,.agg #[.int .i64 k',.int .u64 (q:Int)]] w (SkewIn w F p cap hs (put E x (some (h,k',q)))):=by
 obtain ⟨pc,pt,gt,mb,Fc,L,R,U,top,rfl,m,im,t⟩:=c
 obtain ⟨l1,l2,l3,l4⟩:=m.lt
 have hbh:=m.ce.ok.bh
 have hx:=m.ce.ok.lt x (by rw [he];rfl)
 obtain ⟨h1,h2⟩:=m.ce.ok.heap x h _ he
 have hxi:isIn E h x:=⟨_,he⟩
 obtain ⟨w0,hw0⟩:∃w0,w0=w.alloc (.cells #[.int .i64 k',.int .u64 (q:Int)] 104 (0,0)):=⟨_,rfl⟩
 obtain ⟨eb,heb⟩:∃eb,eb=w.heap.size:=⟨_,rfl⟩
 have k0:Keeps [] w w0:=by rw [hw0];exact (Keeps.refl _ _).alloc _
 have b0:w0.heap[eb]?=some (.cells #[.int .i64 k',.int .u64 (q:Int)] 104 (0,0)):=by rw [hw0,heb];exact blk_alloc_new _
 have e0:w0.cell? ⟨eb,0,none⟩=some (.int .i64 k'):=by rw [cell_of_blk b0];rfl
 have e1:w0.cell? ⟨eb,1,none⟩=some (.int .u64 (q:Int)):=by rw [cell_of_blk b0];rfl
 have m0:=m.keep k0 (by simp)
 have d0:=m0.c0
 have hlow:=cells_lower w0.drew Fc pc cap hs E (m0.ce.keep ((Keeps.refl [] w0).drew) (by simp)) x h q k k' he hk hw
 have hne:=m.ne
 have hmid:∀w1,CellsAt w1 Fc pc cap hs (put E x (some (h,k',q)))->Keeps Fc w0.drew w1->SkewMid w1 p pc pt gt mb Fc cap hs (put E x (some (h,k',q))) L R U∧IMap Tryz.prog 3 w1 mb (topN top hs) (topF top)∧Keeps Fc w w1:=fun w1 hc1 k1=>by
  have kk:Keeps Fc w w1:=((k0.trans ((Keeps.refl [] w0).drew) (by simp)).mono (by simp)).trans k1 (fun b hb=>.inl hb)
  exact ⟨m.cells hc1 kk,im.keep kk hne.2.2.2,kk⟩
 have hhome:=fun u (hu:CellsAt u Fc pc cap hs (put E x (some (h,k',q))))=>cells_home u Fc pc cap hs _ hu x h ((isIn_low he k' h x).2 hxi)
 have HM:=Lib.hid hmid
 have HH:=Lib.hid hhome
 have HE:=Lib.hid he
 have HT:=Lib.hid t
 have HN:=Lib.hid hne
 have HX:=Lib.hid hxi
 clear hmid hhome m m0 im t hne b0 k0 he hxi
 go_enter Tryz.func423,Tryz.ntmps423
 go_upto_region 1 with fail
 rw [<-hw0,<-heb]
 clear hw0 heb
 go_region_law (first
  | (go_simp;go_at_call 309;refine hlow.mono ?_;rintro e w1 ⟨rfl,hc1,k1⟩;obtain ⟨m1,im1,kk1⟩:=HM.out w1 hc1 k1;have M1:=Lib.hid m1;have IM1:=Lib.hid im1;have K1:=Lib.hid kk1;clear hc1 k1 m1 im1 kk1))
 all_goals
  clear hlow e0 e1 d0
  have d0:=M1.out.c0
  go_upto_region 4 with (go_at_call 302;refine (HH.out w1 M1.out.ce).mono ?_;rintro e w2 ⟨rfl,a,rfl⟩;clear d0)
  have m2:=M1.out.drewN a
  have im2:IMap Tryz.prog 3 (w1.drewN a) mb (topN top hs) (topF top):=IM1.out.keep ((Keeps.refl [] w1).drewN a) (by simp)
  have k2:Keeps Fc w (w1.drewN a):=K1.out.drewN a
  generalize w1.drewN a=w2 at *
  clear M1 IM1 K1
  have d1:=m2.c1
  cases hu:U x with
  | none =>
   have hcut:=sp_cut_top w2 pt gt cap L R U m2.sp x hx hu
   have hz:SkewIn w (p::pt::gt::mb::Fc) p cap hs (put E x (some (h,k',q))) (.returned (.bool true)) w2:=⟨rfl,⟨pc,pt,gt,mb,Fc,L,R,U,top,rfl,m2,im2,HT.out.low hu HE.out hk⟩,k2.mono (fun b hb=>.inl (by simp [hb]))⟩
   have HZ:=Lib.hid hz
   clear hz m2 im2 k2 hu
   go_wp2_with (go_at_call 407;refine hcut.mono ?_;rintro e w3 ⟨rfl,rfl⟩)
   go_ret
   exact HZ.out
  | some q0 =>
   have hch:=HT.out.child (by rw [HE.out];rfl) hu
   have hcut:Calls Tryz.prog 407 #[.pointer (some ⟨pt,0,none⟩),.int .i64 x] w2 fun e w'=>e=.returned (.tuple #[.int .i64 (q0:Int),.bool true])∧∃L1 R1,SpineLeft w2 pt gt cap L1 R1 (upd U x none) w' ∧
     Bin (put E x (some (h,k',q))) L1 R1 (upd U x none) (fun y=>(∃g,top g=some y)∨y=x):=by
    rcases hch with ⟨a1,a2⟩|⟨a1,a2⟩
    .refine (sp_cut_L w2 pt gt cap L R U m2.sp x q0 hx hu a1 a2).mono ?_
     rintro e w' ⟨rfl,hs⟩
     exact ⟨rfl,_,_,hs,HT.out.lowCut hu HE.out hk (.inl ⟨a1,rfl,rfl⟩)⟩
    .refine (sp_cut_R w2 pt gt cap L R U m2.sp x q0 hx hu a1).mono ?_
     rintro e w' ⟨rfl,hs⟩
     exact ⟨rfl,_,_,hs,HT.out.lowCut hu HE.out hk (.inr ⟨a1,rfl,rfl⟩)⟩
   have HU:=Lib.hid hu
   have M2:=Lib.hid m2
   have IM2:=Lib.hid im2
   have K2:=Lib.hid k2
   clear hch m2 im2 k2 hu
   go_upto_region 6 with (go_at_call 407;refine hcut.mono ?_;rintro e w3 ⟨rfl,L1,R1,hs3,hb3⟩;have HS3:=Lib.hid hs3;have HB3:=Lib.hid hb3;clear hs3 hb3)
   clear hcut d1
   obtain ⟨⟨a1,a2,a3,a4⟩,⟨b1,b2,b3⟩,⟨c1,c2⟩,cd⟩:=HN.out
   have m3:=M2.out.spine HS3.out
   have im3:=IM2.out.keep HS3.out.2 (by simpa using fun e=>c1 e.symm)
   have hzip:=HB3.out.lowZip (h:=h) (fun g t' e=>(isIn_low HE.out k' g t').2 (HT.out.mine g t' e)) ((isIn_low HE.out k' h x).2 HX.out) (HT.out.noTop HU.out) (fun y e=>by
    by_cases c:y=x
    .subst c;exact upd_same _ _ _
    .rw [upd_other _ _ c];exact HT.out.free y (none_low HE.out k' e))
   have hf:=skew_first w3 p pc pt gt mb Fc cap hs _ L1 R1 (upd U x none) top m3 im3 h (by omega)
   have hmg:=skew_merge w3 p pc pt gt mb Fc cap hs _ L1 R1 (upd U x none) _ L1 R1 h (top h) (some x) m3 hzip
   rw [oZ_some] at hmg
   have IM3:=Lib.hid im3
   have KW:Hid (Keeps (gt::Fc) w w3):=Lib.hid ((K2.out.mono (fun b hb=>.inl (by simp [hb]))).trans HS3.out.2 (by simp))
   clear m3 im3 hzip M2 IM2 K2 HS3 HB3
   go_wp2_with (first
    | (go_at_call 431;refine hf.mono ?_;rintro e w' ⟨rfl,rfl⟩)
    | (go_at_call 430;refine hmg.mono ?_;rintro e w4 ⟨C,L',R',U',rfl,m4,z4,k4⟩;have im4:=IM3.out.keep k4 (by simp;exact ⟨fun e=>c1 e.symm,cd⟩);have hcr:=skew_crown w4 p pc pt gt mb Fc cap hs _ L' R' U' top m4 im4 h h2 C (fun y e=>m4.ce.ok.lt y (z4.na y e).2.2.some);have M4:=Lib.hid m4;have Z4:=Lib.hid z4;have K4:=Lib.hid k4;clear m4 z4 k4 im4)
    | (go_at_call 429;refine hcr.mono ?_;rintro e w5 ⟨rfl,im5,k5⟩))
   go_ret
   have ht:Tops (put E x (some (h,k',q))) L' R' U' (upd top h C):=Tops.merged Z4.out (fun y=>Iff.rfl) (fun g t' hg e=>(isIn_low HE.out k' g t').2 (HT.out.mine g t' e))
   exact ⟨rfl,⟨pc,pt,gt,mb,Fc,L',R',U',upd top h C,rfl,M4.out.keep k5 (by simp;exact ⟨a3,b2,c1,fun b hb e=>cd (e ▸ hb)⟩),im5,ht⟩,(KW.out.mono (fun b hb=>.inl (by simp only [List.mem_cons] at hb ⊢;rcases hb with c|c<;>simp [c]))).trans ((K4.out.mono (T:=p::pt::gt::mb::Fc) (fun b hb=>.inl (by simp only [List.mem_cons] at hb ⊢;rcases hb with c|c<;>simp [c]))).trans k5 (by simp)) (fun b hb=>.inl hb)⟩
end
def dig (i:Nat):ByteArray:=⟨#[(48+i).toUInt8]⟩
theorem small_calls (w:World) (i:Nat) (hi:i<3):Calls Tryz.prog 147 #[.int .i64 (i:Int)] w fun e w'=>e=.returned (.string (dig i))∧w=w':=by
 have h:i=0∨i=1∨i=2:=by omega
 rcases h with rfl|rfl|rfl
 all_goals
  go_enter Tryz.func147,Tryz.ntmps147
  go_wp2_with fail
  go_ret
  exact ⟨rfl,rfl⟩
theorem formatInt0_calls (w:World) (i:Nat) (hi:i<3):Calls Tryz.prog 120 #[.int .i64 (i:Int),.int .i64 10] w fun e w'=>e=.returned (.string (dig i))∧w=w':=by
 have hs:=small_calls w i hi
 have h1:(i:Int)<100:=by omega
 go_enter Tryz.func120,Tryz.ntmps120
 go_wp2_with (go_at_call 147;refine hs.mono ?_;rintro e w' ⟨rfl,rfl⟩)
 go_ret
 exact ⟨rfl,rfl⟩
theorem formatInt_calls (w:World) (i:Nat) (hi:i<3):Calls Tryz.prog 96 #[.int .i64 (i:Int),.int .i64 10] w fun e w'=>e=.returned (.string (dig i))∧w=w':=by
 have hs:=formatInt0_calls w i hi
 go_enter Tryz.func96,Tryz.ntmps96
 go_wp2_with (go_at_call 120;refine hs.mono ?_;rintro e w' ⟨rfl,rfl⟩)
 go_ret
 exact ⟨rfl,rfl⟩
theorem digits_calls (w:World) (i:Nat) (hi:i<3):Calls Tryz.prog 74 #[.int .i64 (i:Int)] w fun e w'=>e=.returned (.string (dig i))∧w=w':=by
 have hs:=formatInt_calls w i hi
 go_enter Tryz.func74,Tryz.ntmps74
 go_wp2_with (go_at_call 96;refine hs.mono ?_;rintro e w' ⟨rfl,rfl⟩)
 go_ret
 exact ⟨rfl,rfl⟩
theorem bytesRow_one (b:UInt8) (n:Nat):bytesRow ⟨#[b]⟩ n=#[Value.int .u8 (b.toNat:Int)]++Array.replicate (n - 1) (Value.int .u8 0):=by
 have h:ByteArray.size ⟨#[b]⟩=1:=rfl
 unfold bytesRow
 rw [h]
 simp
theorem bytes_one (w:World) (b:UInt8):∃cap w2,(convert 9 120 (.string ⟨#[b]⟩)).run Tryz.prog w=.ok (.slice (some ⟨w.heap.size,0,none⟩) 1 cap) w2∧Keeps [] w w2∧w2.cell? ⟨w.heap.size,0,none⟩=some (.int .u8 (b.toNat:Int)):=by
 refine ⟨_,_,run_bytes_of_string w 9 120 5 ⟨#[b]⟩ Tryz.underlying9 Tryz.underlying120 Tryz.underlying5,((Keeps.refl _ _).drew).alloc _,?_⟩
 have h:=blk_alloc_new (w:=w.drew) (.cells (bytesRow ⟨#[b]⟩ (grownCap w (ByteArray.size ⟨#[b]⟩) 0 5)) 5 ((bytesRow ⟨#[b]⟩ (grownCap w (ByteArray.size ⟨#[b]⟩) 0 5)).size,(bytesRow ⟨#[b]⟩ (grownCap w (ByteArray.size ⟨#[b]⟩) 0 5)).size+1))
 refine (cell_of_blk (w:=w.drew.alloc _) (b:=w.heap.size) h).trans ?_
 rw [bytesRow_one,Array.getElem?_append_left (show 0<1 from by decide)]
 rfl
theorem parseUint_0 (w:World):Calls Tryz.prog 239 #[.string ⟨#[48]⟩,.int .i64 10,.int .i64 64] w fun e w'=>e=.returned (.tuple #[.int .u64 0,.nilIface])∧Keeps [] w w':=by
 obtain ⟨cap,w2,hr,hk,hc⟩:=bytes_one w 48
 have hww:IntKind.u64.wrap (IntKind.u64.wrap 18446744073709551616 - 1)=18446744073709551615:=by decide
 have hc2:w2.cell? ⟨w.heap.size,0,none⟩=some (.int .u8 48):=hc
 have HK:=Lib.hid hk
 clear hk hc
 go_enter Tryz.func239,Tryz.ntmps239
 go_wp2_with fail
 go_loopg [12,13,101] 2 (fun k z a t wr=>(k=2∧z=.bool false∧a=.int .u64 0∧t=.int .i64 0∧wr=w2)∨(k=1∧z=.bool false∧a=.int .u64 0∧t=.int .i64 1∧wr=w2))
 case atStart=>exact .inl ⟨rfl,rfl,rfl,rfl,rfl⟩
 case round =>
  rcases hrel with ⟨hk,rfl,rfl,rfl,rfl⟩|⟨hk,rfl,rfl,rfl,rfl⟩
  .go_wp2_with fail
   go_roundg 1
   case measure=>omega
   case rel=>exact .inr ⟨rfl,rfl,by first|rfl|go_num,by first|rfl|go_num,rfl⟩
  .go_wp2_with fail
   go_ret2
   exact ⟨rfl,HK.out⟩
theorem parseUint_1 (w:World):Calls Tryz.prog 239 #[.string ⟨#[49]⟩,.int .i64 10,.int .i64 64] w fun e w'=>e=.returned (.tuple #[.int .u64 1,.nilIface])∧Keeps [] w w':=by
 obtain ⟨cap,w2,hr,hk,hc⟩:=bytes_one w 49
 have hww:IntKind.u64.wrap (IntKind.u64.wrap 18446744073709551616 - 1)=18446744073709551615:=by decide
 have hc2:w2.cell? ⟨w.heap.size,0,none⟩=some (.int .u8 49):=hc
 have HK:=Lib.hid hk
 clear hk hc
 go_enter Tryz.func239,Tryz.ntmps239
 go_wp2_with fail
 go_loopg [12,13,101] 2 (fun k z a t wr=>(k=2∧z=.bool false∧a=.int .u64 0∧t=.int .i64 0∧wr=w2)∨(k=1∧z=.bool false∧a=.int .u64 1∧t=.int .i64 1∧wr=w2))
 case atStart=>exact .inl ⟨rfl,rfl,rfl,rfl,rfl⟩
 case round =>
  rcases hrel with ⟨hk,rfl,rfl,rfl,rfl⟩|⟨hk,rfl,rfl,rfl,rfl⟩
  .go_wp2_with fail
   go_roundg 1
   case measure=>omega
   case rel=>exact .inr ⟨rfl,rfl,by first|rfl|go_num,by first|rfl|go_num,rfl⟩
  .go_wp2_with fail
   go_ret2
   exact ⟨rfl,HK.out⟩
theorem parseUint_2 (w:World):Calls Tryz.prog 239 #[.string ⟨#[50]⟩,.int .i64 10,.int .i64 64] w fun e w'=>e=.returned (.tuple #[.int .u64 2,.nilIface])∧Keeps [] w w':=by
 obtain ⟨cap,w2,hr,hk,hc⟩:=bytes_one w 50
 have hww:IntKind.u64.wrap (IntKind.u64.wrap 18446744073709551616 - 1)=18446744073709551615:=by decide
 have hc2:w2.cell? ⟨w.heap.size,0,none⟩=some (.int .u8 50):=hc
 have HK:=Lib.hid hk
 clear hk hc
 go_enter Tryz.func239,Tryz.ntmps239
 go_wp2_with fail
 go_loopg [12,13,101] 2 (fun k z a t wr=>(k=2∧z=.bool false∧a=.int .u64 0∧t=.int .i64 0∧wr=w2)∨(k=1∧z=.bool false∧a=.int .u64 2∧t=.int .i64 1∧wr=w2))
 case atStart=>exact .inl ⟨rfl,rfl,rfl,rfl,rfl⟩
 case round =>
  rcases hrel with ⟨hk,rfl,rfl,rfl,rfl⟩|⟨hk,rfl,rfl,rfl,rfl⟩
  .go_wp2_with fail
   go_roundg 1
   case measure=>omega
   case rel=>exact .inr ⟨rfl,rfl,by first|rfl|go_num,by first|rfl|go_num,rfl⟩
  .go_wp2_with fail
   go_ret2
   exact ⟨rfl,HK.out⟩
theorem parseInt0_0 (w:World):Calls Tryz.prog 210 #[.string ⟨#[48]⟩,.int .i64 10,.int .i64 64] w fun e w'=>e=.returned (.tuple #[.int .i64 0,.nilIface])∧Keeps [] w w':=by
 have hp:=parseUint_0 w
 go_enter Tryz.func210,Tryz.ntmps210
 go_wp2_with (go_at_call 239;refine hp.mono ?_;rintro e w2 ⟨rfl,hk⟩;have HK:=Lib.hid hk;clear hk)
 go_ret2
 exact ⟨rfl,HK.out⟩
theorem parseInt_0 (w:World):Calls Tryz.prog 183 #[.string ⟨#[48]⟩,.int .i64 10,.int .i64 64] w fun e w'=>e=.returned (.tuple #[.int .i64 0,.nilIface])∧Keeps [] w w':=by
 have hp:=parseInt0_0 w
 go_enter Tryz.func183,Tryz.ntmps183
 go_wp2_with (go_at_call 210;refine hp.mono ?_;rintro e w2 ⟨rfl,hk⟩;have HK:=Lib.hid hk;clear hk)
 go_ret2
 exact ⟨rfl,HK.out⟩
theorem number_0 (w:World):Calls Tryz.prog 155 #[.string ⟨#[48]⟩] w fun e w'=>e=.returned (.tuple #[.int .i64 0,.bool true])∧Keeps [] w w':=by
 have hp:=parseInt_0 w
 have hd:∀u,Calls Tryz.prog 74 #[.int .i64 0] u fun e w'=>e=.returned (.string ⟨#[48]⟩)∧u=w':=fun u=>digits_calls u 0 (by omega)
 go_enter Tryz.func155,Tryz.ntmps155
 go_wp2_with (first
  | (go_at_call 183;refine hp.mono ?_;rintro e w2 ⟨rfl,hk⟩;have HK:=Lib.hid hk;clear hk)
  | (go_at_call 74;refine (hd _).mono ?_;rintro e w3 ⟨rfl,rfl⟩))
 go_ret2
 exact ⟨rfl,HK.out⟩
theorem parseInt0_1 (w:World):Calls Tryz.prog 210 #[.string ⟨#[49]⟩,.int .i64 10,.int .i64 64] w fun e w'=>e=.returned (.tuple #[.int .i64 1,.nilIface])∧Keeps [] w w':=by
 have hp:=parseUint_1 w
 go_enter Tryz.func210,Tryz.ntmps210
 go_wp2_with (go_at_call 239;refine hp.mono ?_;rintro e w2 ⟨rfl,hk⟩;have HK:=Lib.hid hk;clear hk)
 go_ret2
 exact ⟨rfl,HK.out⟩
theorem parseInt_1 (w:World):Calls Tryz.prog 183 #[.string ⟨#[49]⟩,.int .i64 10,.int .i64 64] w fun e w'=>e=.returned (.tuple #[.int .i64 1,.nilIface])∧Keeps [] w w':=by
 have hp:=parseInt0_1 w
 go_enter Tryz.func183,Tryz.ntmps183
 go_wp2_with (go_at_call 210;refine hp.mono ?_;rintro e w2 ⟨rfl,hk⟩;have HK:=Lib.hid hk;clear hk)
 go_ret2
 exact ⟨rfl,HK.out⟩
theorem number_1 (w:World):Calls Tryz.prog 155 #[.string ⟨#[49]⟩] w fun e w'=>e=.returned (.tuple #[.int .i64 1,.bool true])∧Keeps [] w w':=by
 have hp:=parseInt_1 w
 have hd:∀u,Calls Tryz.prog 74 #[.int .i64 1] u fun e w'=>e=.returned (.string ⟨#[49]⟩)∧u=w':=fun u=>digits_calls u 1 (by omega)
 go_enter Tryz.func155,Tryz.ntmps155
 go_wp2_with (first
  | (go_at_call 183;refine hp.mono ?_;rintro e w2 ⟨rfl,hk⟩;have HK:=Lib.hid hk;clear hk)
  | (go_at_call 74;refine (hd _).mono ?_;rintro e w3 ⟨rfl,rfl⟩))
 go_ret2
 exact ⟨rfl,HK.out⟩
theorem parseInt0_2 (w:World):Calls Tryz.prog 210 #[.string ⟨#[50]⟩,.int .i64 10,.int .i64 64] w fun e w'=>e=.returned (.tuple #[.int .i64 2,.nilIface])∧Keeps [] w w':=by
 have hp:=parseUint_2 w
 go_enter Tryz.func210,Tryz.ntmps210
 go_wp2_with (go_at_call 239;refine hp.mono ?_;rintro e w2 ⟨rfl,hk⟩;have HK:=Lib.hid hk;clear hk)
 go_ret2
 exact ⟨rfl,HK.out⟩
theorem parseInt_2 (w:World):Calls Tryz.prog 183 #[.string ⟨#[50]⟩,.int .i64 10,.int .i64 64] w fun e w'=>e=.returned (.tuple #[.int .i64 2,.nilIface])∧Keeps [] w w':=by
 have hp:=parseInt0_2 w
 go_enter Tryz.func183,Tryz.ntmps183
 go_wp2_with (go_at_call 210;refine hp.mono ?_;rintro e w2 ⟨rfl,hk⟩;have HK:=Lib.hid hk;clear hk)
 go_ret2
 exact ⟨rfl,HK.out⟩
theorem number_2 (w:World):Calls Tryz.prog 155 #[.string ⟨#[50]⟩] w fun e w'=>e=.returned (.tuple #[.int .i64 2,.bool true])∧Keeps [] w w':=by
 have hp:=parseInt_2 w
 have hd:∀u,Calls Tryz.prog 74 #[.int .i64 2] u fun e w'=>e=.returned (.string ⟨#[50]⟩)∧u=w':=fun u=>digits_calls u 2 (by omega)
 go_enter Tryz.func155,Tryz.ntmps155
 go_wp2_with (first
  | (go_at_call 183;refine hp.mono ?_;rintro e w2 ⟨rfl,hk⟩;have HK:=Lib.hid hk;clear hk)
  | (go_at_call 74;refine (hd _).mono ?_;rintro e w3 ⟨rfl,rfl⟩))
 go_ret2
 exact ⟨rfl,HK.out⟩
theorem number_dig (w:World) (i:Nat) (hi:i<3):Calls Tryz.prog 155 #[.string (dig i)] w fun e w'=>e=.returned (.tuple #[.int .i64 (i:Int),.bool true])∧Keeps [] w w':=by
 have h:i=0∨i=1∨i=2:=by omega
 rcases h with rfl|rfl|rfl
 .exact number_0 w
 .exact number_1 w
 .exact number_2 w
end Go.Proofs.YtkdbjelhkfdfjaaGreatDoor

