/-
  Contracts that the law rests on. Conditions: none.
-/
import Derived.Test.YtkdbjelhkfdfjaaGreatDoorLo14
import Derived.Test.YtkdbjelhkfdfjaaGreatDoorLo16
set_option linter.unusedVariables false
set_option maxRecDepth 100000
set_option maxHeartbeats 32000000
namespace Go.Proofs.YtkdbjelhkfdfjaaGreatDoor
open Go.RowKit
section
variable (w:World) (p g n:Nat) (T:Nat->TwigR) (U:Nat->Option Nat) (pn pc:Nat) (Fc:List Nat) (cap hs:Nat) (E:Ent) (l m:List Nat)
theorem fo_carry (h:ForestAt w p g n T U) (ho:OrdAt w pn pc Fc cap hs E) (hap:∀b∈treeF p g n T,b∉pn::Fc) (hcb:Cubes (fun x=>(T x).kids) U)
  (ao:Option Addr) (ca:Nat) (hl:Rg.IR 0 w (.slice ao l.length ca) l) (bo:Option Addr) (cb:Nat) (hm:Rg.IR 0 w (.slice bo m.length cb) m)
  (hla:∀b,(Value.slice ao l.length ca).ownBlock=some b->b∉treeF p g n T++Fc) (hlb:∀b,(Value.slice bo m.length cb).ownBlock=some b->b∉treeF p g n T++Fc)
  (hcl:CRow (fun x=>(T x).kids) U l) (hcm:CRow (fun x=>(T x).kids) U m) (hd:∀x∈l,x∉m) (hn:∀x,x∈l∨x∈m->x<n∧(E x).isSome) :
  Calls Tryz.prog 360 #[.pointer (some ⟨p,0,none⟩),.iface 152 (.pointer (some ⟨pn,0,none⟩)),.slice ao l.length ca,.slice bo m.length cb] w (CarryDone w p g n T U pn pc Fc cap hs E l m):=by
 have hbn:=h.cap
 have hlen:l.length<=65536:=Nat.le_trans (nodup_len hcl.nodup fun x hx=>(hn x (.inl hx)).1) hbn
 have hlen2:m.length<=65536:=Nat.le_trans (nodup_len hcm.nodup fun x hx=>(hn x (.inr hx)).1) hbn
 obtain ⟨w1,hw1⟩:∃w1,w1=w.alloc (.cells #[.slice bo m.length cb] 28 (0,0)):=⟨_,rfl⟩
 have kb:Keeps [] w w1:=by rw [hw1];exact (Keeps.refl _ _).alloc _
 have hb1:w1.heap[w.heap.size]?=some (.cells #[.slice bo m.length cb] 28 (0,0)):=by rw [hw1];exact blk_alloc_new _
 have hB:w1.cell? ⟨w.heap.size,0,none⟩=some (.slice bo m.length cb):=by rw [cell_of_blk hb1];rfl
 have h1:=h.keep kb (by simp)
 have hl1:Rg.IR 0 w1 (.slice ao l.length ca) l:=ir_keep hl kb (by simp)
 have hm1:Rg.IR 0 w1 (.slice bo m.length cb) m:=ir_keep hm kb (by simp)
 have hr1:=fo_row w1 p g n T U h1 ao ca l hl1 (fun x hx=>(hn x (.inl hx)).1) hcl hlen
 have hr2:=fo_row w1 p g n T U h1 bo cb m hm1 (fun x hx=>(hn x (.inr hx)).1) hcm hlen2
 have hno:=none_common w1 w.heap.size ao bo ca cb l m hB hm1 hlen2 hl1 hlen hd
 have hlt:=h.lt
 have hst:CarS w p g n T U pn pc Fc cap hs E l m w.heap.size 0 0 0 0 (.slice ao l.length ca) (.slice bo m.length cb) (.slice none 0 0) (.slice none 0 0) T U l m [] [] w1 :=
  ⟨Win.of hl1,Win.of hm1,Rg.IR.nil _ _,.inl ⟨rfl,rfl⟩,h1,ho.keep kb (by simp),CarI.start hcb hcl hcm hd,kb.mono (by simp),fun b hb=>.inl hb,
   fun b hb=>by
    rcases List.mem_cons.1 hb with rfl|hb
    .exact ho.lt
    .exact ho.ce.lt b hb,
   fun b e=>⟨(hl.own b e).2,hla b e⟩,fun b e=>⟨(hm.own b e).2,hlb b e⟩,fun b e=>by simp [Value.ownBlock] at e,fun b e=>by simp [Value.ownBlock] at e,fun b e=>by simp [Value.ownBlock] at e,
   ⟨Nat.le_refl _,fun e=>Nat.lt_irrefl _ (hlt _ e)⟩,hb1⟩
 have hnx:∀x,x∈l∨x∈m->x<n:=fun x q=>(hn x q).1
 have HS:=Lib.hid hst
 have HN:=Lib.hid hn
 have HX:=Lib.hid hnx
 have HAP:=Lib.hid hap
 have HCB:=Lib.hid hcb
 clear hst hn hnx hap hcb h ho hl hm hla hlb hcl hcm hd h1 hl1 hm1 hlt
 go_enter Tryz.func360,Tryz.ntmps360
 go_upto_region 1 with fail
 rw [<-hw1]
 clear hw1 kb hb1
 go_wp2_with (first
  | (go_at_call 364;with_reducible refine Calls.mono hr1 ?_;rintro e w' ⟨rfl,rfl⟩)
  | (go_at_call 364;with_reducible refine Calls.mono hr2 ?_;rintro e w' ⟨rfl,rfl⟩)
  | (go_at_call 229;refine hno.mono ?_;rintro e w' ⟨rfl,rfl⟩))
 go_loopg [2,10,11,12] 65539 (fun k va vo vh s wr=>CarL w p g n T U pn pc Fc cap hs E l m k va vo vh s wr)
 case atStart=>exact ⟨0,T,U,l,m,[],[],_,by omega,rfl,by simp,HS.out⟩
 case round =>
  clear hr1 hr2 hno hB HS
  obtain ⟨d,T',U',a,b,held,out,vb,hk,rfl,hhl,cs⟩:=hrel
  have HK:=Lib.hid hk
  clear hk
  obtain ⟨la,lb,lh,lo⟩:=cs.lens HX.out hbn
  obtain ⟨aa,aca,rfl,-⟩:=cs.wa.form
  obtain ⟨ba,bca,rfl,-⟩:=cs.wb.form
  obtain ⟨ha,hca,rfl,-⟩:=cs.wh.form
  obtain ⟨oa,oca,rfl⟩:=cs.wo.form
  have cB:wr.cell? ⟨w.heap.size,0,none⟩=some (.slice ba b.length bca):=by rw [cell_of_blk cs.bc];rfl
  by_cases hz:a.length+b.length+held.length=0
  .obtain rfl:a=[]:=List.length_eq_zero_iff.1 (by omega)
   obtain rfl:b=[]:=List.length_eq_zero_iff.1 (by omega)
   obtain rfl:held=[]:=List.length_eq_zero_iff.1 (by omega)
   simp only [List.length_nil] at cB ⊢
   have hfin:CarryDone w p g n T U pn pc Fc cap hs E l m (.returned (.tuple #[.slice oa out.length oca,.bool true])) wr :=
    ⟨oa,oca,out,T',U',rfl,cs.wo,cs.fo,cs.ord,cs.kp,cs.tf,fun b e=>(cs.apo b e).1,cs.cari.fin⟩
   have HF:=Lib.hid hfin
   clear cs hfin
   go_wp2_with fail
   go_ret2
   exact HF.out
  .have hz1:(0:Int)<(a.length:Int)+(b.length:Int)+(held.length:Int):=by omega
   have hdl:d<=65536:=by
    by_cases c:d<=65536
    .exact c
    .obtain ⟨e1,e2,e3⟩:=cs.stop HX.out (by omega)
     subst e1 e2 e3
     exact absurd rfl hz
   have CS:=Lib.hid cs
   have HH:=Lib.hid hhl
   clear cs hhl
   go_upto_region 7 with fail
   go_cut [50] (fun c wx=>(∃tk:Bool,c=.bool tk∧(tk=true->∃x t,a=x::t∧(T' x).kids.length=d)∧(tk=false->∀x,a.head?=some x->(T' x).kids.length≠d))∧wx=wr)
   case first =>
    cases a with
    | nil =>
     simp only [List.length_nil]
     go_wp2_with fail
     go_meet
     case rel=>exact ⟨⟨false,rfl,by simp,by simp⟩,rfl⟩
    | cons x t =>
     obtain ⟨g',off,c',e,_,h3,h4,_⟩:=CS.out.wa.head
     simp only [List.length_cons] at e la ⊢
     cases e
     have hxn:x<n:=HX.out x (CS.out.inL (by simp))
     have hdg:=fo_degree wr p g n T' U' CS.out.fo x hxn
     obtain ⟨dx,hdx⟩:∃dx,(T' x).kids.length=dx:=⟨_,rfl⟩
     rw [hdx] at hdg
     have HD:=Lib.hid hdx
     clear hdx hz hz1
     have ht3:(0:Int)<((t.length+1:Nat):Int):=by omega
     by_cases c:dx=d
     .have c3:((dx:Int)==(d:Int))=true:=by rw [beq_iff_eq];omega
      have C:=Lib.hid c
      clear c
      go_wp2_with (go_at_call 367;refine hdg.mono ?_;rintro e w' ⟨rfl,rfl⟩)
      go_meet
      case rel=>exact ⟨⟨true,by simp,fun _=>⟨x,t,rfl,HD.out.trans C.out⟩,by simp⟩,rfl⟩
     .have c3:((dx:Int)==(d:Int))=false:=by rw [beq_eq_false_iff_ne];omega
      have C:=Lib.hid c
      clear c
      go_wp2_with (go_at_call 367;refine hdg.mono ?_;rintro e w' ⟨rfl,rfl⟩)
      go_meet
      case rel=>exact ⟨⟨false,by simp,by simp,fun _ z hz=>by simp at hz;subst hz;rw [HD.out];exact C.out⟩,rfl⟩
   case rest =>
    obtain ⟨⟨tk,rfl,t1,t2⟩,rfl⟩:=hcut
    clear hz hz1
    go_upto_if 50 with fail
    go_cut [2,10,11] (fun va vo vh wx=>CarL1 w p g n T U pn pc Fc cap hs E l m d va vo vh wx)
    case first =>
     cases tk with
     | false =>
      go_wp2_with fail
      go_meet
      case rel=>exact ⟨T',U',a,b,held,out,_,Nat.le_trans HH.out (by omega),CS.out.skipA (t2 (by simp))⟩
     | true =>
      obtain ⟨x,t,rfl,hxd⟩:=t1 (by simp)
      obtain ⟨g',off,c',e,_,h3,h4,_⟩:=CS.out.wa.head
      simp only [List.length_cons] at e la ⊢
      cases e
      have hsz:=CS.out.kp.size
      have hge:(1:Int)<=(t.length:Int)+1:=by omega
      have HXD:=Lib.hid hxd
      clear t1 t2 hxd
      go_upto_region 8 with fail
      go_region_law (refine step_win rfl (.tmp 51) (.tmp 55) 28 rfl Tryz.underlying28 Rg.Tryz.infoInt wc _ w.heap.size x hsz rfl rfl rfl rfl (.slice ha held.length hca) held rfl CS.out.wh rfl (by have:=HH.out;omega) ?_;intro vh' w5 hw5 hk5 ho5)
      all_goals go_wp2_with fail
      all_goals
       go_meet
       case rel =>
        refine ⟨T',U',t,b,held++[x],out,_,by have:=HH.out;simp;omega,CS.out.takeA HXD.out hw5 hk5 ho5 ?_ ?_⟩
        .first
          | exact fun u q=>win_tail2 u q
          | exact fun u q=>win_tail1 (by assumption) u q
        .rw [ownBlock_some,ownBlock_some]
    case rest =>
     clear CS HH cB la lb lh lo t1 t2 T' U' a b held out aa aca ba bca ha hca
     obtain ⟨T',U',a,b,held,out,vb,hhl,cs⟩:=hcut
     obtain ⟨la,lb,lh,lo⟩:=cs.lens HX.out hbn
     obtain ⟨aa,aca,rfl,-⟩:=cs.wa.form
     obtain ⟨ba,bca,rfl,-⟩:=cs.wb.form
     obtain ⟨ha,hca,rfl,-⟩:=cs.wh.form
     obtain ⟨oa,oca,rfl⟩:=cs.wo.form
     have cB:wc.cell? ⟨w.heap.size,0,none⟩=some (.slice ba b.length bca):=by rw [cell_of_blk cs.bc];rfl
     have CS:=Lib.hid cs
     have HH:=Lib.hid hhl
     clear cs hhl
     go_upto_region 9 with fail
     go_cut [70] (fun c wx=>(∃tk:Bool,c=.bool tk∧(tk=true->∃x t,b=x::t∧(T' x).kids.length=d)∧(tk=false->∀x,b.head?=some x->(T' x).kids.length≠d))∧wx=wc)
     case first =>
      cases b with
      | nil =>
       simp only [List.length_nil] at cB
       go_wp2_with fail
       go_meet
       case rel=>exact ⟨⟨false,rfl,by simp,by simp⟩,rfl⟩
      | cons x t =>
       obtain ⟨g',off,c',e,_,h3,h4,_⟩:=CS.out.wb.head
       simp only [List.length_cons] at e lb cB
       cases e
       have hxn:x<n:=HX.out x (CS.out.inL (by simp))
       have hdg:=fo_degree wc p g n T' U' CS.out.fo x hxn
       obtain ⟨dx,hdx⟩:∃dx,(T' x).kids.length=dx:=⟨_,rfl⟩
       rw [hdx] at hdg
       have HD:=Lib.hid hdx
       clear hdx
       have ht3:(0:Int)<((t.length+1:Nat):Int):=by omega
       by_cases c:dx=d
       .have c3:((dx:Int)==(d:Int))=true:=by rw [beq_iff_eq];omega
        have C:=Lib.hid c
        clear c
        go_wp2_with (go_at_call 367;refine hdg.mono ?_;rintro e w' ⟨rfl,rfl⟩)
        go_meet
        case rel=>exact ⟨⟨true,by simp,fun _=>⟨x,t,rfl,HD.out.trans C.out⟩,by simp⟩,rfl⟩
       .have c3:((dx:Int)==(d:Int))=false:=by rw [beq_eq_false_iff_ne];omega
        have C:=Lib.hid c
        clear c
        go_wp2_with (go_at_call 367;refine hdg.mono ?_;rintro e w' ⟨rfl,rfl⟩)
        go_meet
        case rel=>exact ⟨⟨false,by simp,by simp,fun _ z hz=>by simp at hz;subst hz;rw [HD.out];exact C.out⟩,rfl⟩
     case rest =>
      obtain ⟨⟨tk,rfl,t1,t2⟩,rfl⟩:=hcut
      go_upto_if 70 with fail
      go_cut [2,10,11] (fun va vo vh wx=>CarL2 w p g n T U pn pc Fc cap hs E l m d va vo vh wx)
      case first =>
       cases tk with
       | false =>
        go_wp2_with fail
        go_meet
        case rel=>exact ⟨T',U',a,b,held,out,_,Nat.le_trans HH.out (by omega),CS.out.skipB (t2 (by simp))⟩
       | true =>
        obtain ⟨x,t,rfl,hxd⟩:=t1 (by simp)
        obtain ⟨g',off,c',e,_,h3,h4,_⟩:=CS.out.wb.head
        simp only [List.length_cons] at e lb cB
        cases e
        have hsz:=CS.out.kp.size
        have hge:(1:Int)<=(t.length:Int)+1:=by omega
        have HXD:=Lib.hid hxd
        have cA:(wc.alloc (.cells #[.int .i64 (x:Int)] 3 (0,0))).cell? ⟨w.heap.size,0,none⟩=some (.slice (some ⟨g',off,none⟩) (t.length+1) bca):=by
         rw [cell_of_blk (((Keeps.refl [] wc).alloc _).blk CS.out.bc (by simp))];rfl
        clear t1 t2 hxd
        go_upto_region 10 with fail
        go_region_law (refine step_win rfl (.tmp 71) (.tmp 75) 28 rfl Tryz.underlying28 Rg.Tryz.infoInt wc _ w.heap.size x hsz rfl rfl rfl rfl (.slice ha held.length hca) held rfl CS.out.wh rfl (by have:=HH.out;omega) ?_;intro vh' w5 hw5 hk5 ho5;obtain ⟨z1,z2⟩:=CS.out.boxAfter hk5;simp only [List.length_cons] at z1)
        all_goals go_wp2_with fail
        all_goals
         go_meet
         case rel =>
          refine ⟨T',U',a,t,held++[x],out,_,by have:=HH.out;simp;omega,(CS.out.takeB HXD.out hw5 hk5 ho5 ?_ ?_).2⟩
          .first
            | exact fun u q=>win_tail2 u q
            | exact fun u q=>win_tail1 (by assumption) u q
          .rw [ownBlock_some,ownBlock_some]
      case rest =>
       clear CS HH cB la lb lh lo t1 t2 T' U' a b held out aa aca ba bca ha hca
       obtain ⟨T',U',a,b,held,out,vb,hhl,cs⟩:=hcut
       obtain ⟨la,lb,lh,lo⟩:=cs.lens HX.out hbn
       obtain ⟨aa,aca,rfl,-⟩:=cs.wa.form
       obtain ⟨ba,bca,rfl,-⟩:=cs.wb.form
       obtain ⟨ha,hca,rfl,-⟩:=cs.wh.form
       obtain ⟨oa,oca,rfl⟩:=cs.wo.form
       have CS:=Lib.hid cs
       clear cs
       go_upto_region 11 with fail
       go_cut [82] (fun c wx=>c=.bool (held.length % 2==1)∧wx=wc)
       case first =>
        rcases held with _|⟨x,_|⟨y,_|⟨z,_|⟨z',t⟩⟩⟩⟩
        .simp only [List.length_nil]
         go_wp2_with fail
         go_meet
         case rel=>exact ⟨rfl,rfl⟩
        .simp only [List.length_cons,List.length_nil]
         go_wp2_with fail
         go_meet
         case rel=>exact ⟨by simp,rfl⟩
        .simp only [List.length_cons,List.length_nil]
         go_wp2_with fail
         go_meet
         case rel=>exact ⟨by simp,rfl⟩
        .simp only [List.length_cons,List.length_nil]
         go_wp2_with fail
         go_meet
         case rel=>exact ⟨by simp,rfl⟩
        .simp only [List.length_cons] at hhl;omega
       case rest =>
        obtain ⟨rfl,rfl⟩:=hcut
        go_upto_if 82 with fail
        go_cut [2,10,11] (fun va vo vh wx=>CarL3 w p g n T U pn pc Fc cap hs E l m d va vo vh wx)
        case first =>
         cases hq:(held.length % 2==1) with
         | false =>
          have HQ:=Lib.hid hq
          have HH:=Lib.hid hhl
          clear hq hhl
          go_wp2_with fail
          go_meet
          case rel=>exact ⟨T',U',a,b,held,out,_,by have h1:=HQ.out;have h2:=HH.out;simp only [beq_eq_false_iff_ne,ne_eq] at h1;omega,CS.out.notDone⟩
         | true =>
          cases held with
          | nil=>simp at hq
          | cons x t =>
           obtain ⟨g',off,c',e,_,h3,h4,_⟩:=CS.out.wh.head
           simp only [List.length_cons] at e lh lo
           cases e
           have hsz:=CS.out.kp.size
           have hge:(1:Int)<=(t.length:Int)+1:=by omega
           have hte:t.length=0∨t.length=2:=by simp only [List.length_cons] at hhl hq;simp at hq;omega
           have HTE:=Lib.hid hte
           clear hq hhl hte
           go_wp2_with (at_builtin;refine wpList_push1 rfl (.tmp 83) (.tmp 87) 28 rfl Tryz.underlying28 Rg.Tryz.infoInt wc w.heap.size x hsz (.slice oa out.length oca) out (by simp [Act.eval]) CS.out.wo (by simp [Act.eval]) (by omega) ?_)
           intro vo' w5 hw5 hk5 ho5
           go_wp2_with fail
           all_goals
            go_meet
            case rel =>
             refine ⟨T',U',a,b,t,out++[x],_,HTE.out,CS.out.done hw5 hk5 ho5 ?_ ?_⟩
             .first
               | exact fun u q=>win_tail2 u q
               | exact fun u q=>win_tail1 (by assumption) u q
             .rw [ownBlock_some,ownBlock_some]
        case rest =>
         clear CS la lb lh lo T' U' a b held out aa aca ba bca ha hca hhl
         obtain ⟨T',U',a,b,held,out,vb,hhl,cs⟩:=hcut
         obtain ⟨la,lb,lh,lo⟩:=cs.lens HX.out hbn
         obtain ⟨aa,aca,rfl,-⟩:=cs.wa.form
         obtain ⟨ba,bca,rfl,-⟩:=cs.wb.form
         obtain ⟨ha,hca,rfl,-⟩:=cs.wh.form
         obtain ⟨oa,oca,rfl⟩:=cs.wo.form
         have CS:=Lib.hid cs
         clear cs
         rcases held with _|⟨x,_|⟨y,_|⟨z,t⟩⟩⟩
         .simp only [List.length_nil]
          clear hhl
          go_wp2_with fail
          go_roundg (gk - 1)
          case measure=>have:=HK.out;omega
          case rel=>exact ⟨d+1,T',U',a,b,[],out,_,by have:=HK.out;omega,by go_num,by simp,(CS.out.next (d+1))⟩
         .simp at hhl
         .obtain ⟨g',off,c',e,_,h3,h4,h5⟩:=CS.out.wh.head
          simp only [List.length_cons,List.length_nil] at e
          cases e
          obtain ⟨g2,off2,c2,e2,_,_,h6,_⟩:=h5.head
          cases e2
          have k0:Keeps [] wc wc.drew:=⟨rfl,rfl,rfl,Nat.le_refl _,fun _ _ _=>rfl⟩
          have cs':=CS.out.same k0
          obtain ⟨hne,hux,huy,hdg,hx0,hy0⟩:=CS.out.cari.pair
          have hj:=fo_join wc.drew p g n T' U' pn pc Fc cap hs E cs'.fo cs'.ord (cs'.apart HAP.out) x y (HX.out x hx0) (HX.out y hy0) hne hux huy hdg (cs'.room (HX.out x hx0) hbn) (HN.out x hx0).2 (HN.out y hy0).2
          have hfin:=fun e w5 (hjd:JoinDone wc.drew p g n T' U' pn pc Fc cap hs E x y e w5)=>cs'.join hjd
          have HF:=Lib.hid hfin
          clear hfin cs' CS hne hux huy hdg hx0 hy0 h5 k0 hhl
          go_upto_region 15 with fail
          go_region_law (first
           | (go_simp;go_at_call 368;refine hj.mono ?_;intro e w5 hjd;obtain ⟨c,T3,U3,rfl,cs5⟩:=HF.out _ _ hjd;have C5:=Lib.hid cs5;clear hjd cs5))
          all_goals
           go_wp2_with fail
           go_roundg (gk - 1)
           case measure=>have:=HK.out;omega
           case rel=>exact ⟨d+1,T3,U3,a,b,[c],out,_,by have:=HK.out;omega,by go_num,by simp,C5.out⟩
         .simp at hhl
end
end Go.Proofs.YtkdbjelhkfdfjaaGreatDoor

