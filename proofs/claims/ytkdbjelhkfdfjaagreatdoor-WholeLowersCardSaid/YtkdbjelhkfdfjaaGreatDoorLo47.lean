/-
  Contracts that the law rests on. Conditions: none.
-/
import Derived.Test.YtkdbjelhkfdfjaaGreatDoorLo46
set_option linter.unusedVariables false
set_option maxRecDepth 100000
set_option maxHeartbeats 32000000
namespace Go.Proofs.YtkdbjelhkfdfjaaGreatDoor
open Go.RowKit
theorem Tryz.infoHandleL:(Tryz.prog.info? 45).map (fun i=>(i.zero,i.size,i.bytes))=some (some (.agg #[.int .i64 0,.int .u32 0]),2,16):=by kernel_rfl
def newH (n:Nat):Obj:=.cells (madeCells #[.int .i64 0,.int .u32 0] (n*2)) 45 (0,0)
theorem make_handles (n:Nat) (hn:n<=60) (u:World):(Instr.makeSlice 67 (.int .i64 (n:Int)) (.int .i64 (n:Int))).run Tryz.prog u=.ok (.slice (some ⟨u.heap.size,0,none⟩) n n) (u.alloc (newH n)):=by
 obtain ⟨i,hi,hz,hsize,hby⟩:=info_parts Tryz.infoHandleL
 have:=run_make (P:=Tryz.prog) u 67 45 i _ Tryz.underlying67 hi hz .i64 .i64 n n (by omega) (Int.le_refl _) (by rw [hby];omega) (by omega)
 simp only [Int.toNat_natCast,hsize] at this
 exact this
theorem arr_new (n:Nat) (hn:n<=60) (u:World):Arr (u.alloc (newH n)) 45 2 n u.heap.size (hdV fun _=>(0,0)) :=
 (Arr.made (zs:=#[.int .i64 0,.int .u32 0]) rfl (by decide) (World.ownsRow_lit u _ n (Nat.zero_le _) (by unfold maxLen;omega) (size_madeCells _ _))).congr fun i _=>by simp [hdV]
theorem come_start {w0 w6 u:World} {sa sb kd n:Nat} {keys:List Int} {FA FB:List Nat} (t:Two2 w0 sa sb kd n 1 1 (fun _=>none) (fun _=>none) 0 0 (fun _=>0) (fun _=>0) FA FB w6) (hn:n<=60)
  (e0:u.heap=((w6.alloc (newH n)).alloc (newH n)).heap) (e1:u.os=w6.os) (e2:u.tape=w6.tape) (e3:u.output=w6.output):Come2 w0 sa sb kd n w6.heap.size (w6.heap.size+1) keys 0 u∧Come2 w0 sa sb kd n (w6.heap.size+1) w6.heap.size keys 0 u:=by
 have kA:Keeps [] w6 (w6.alloc (newH n)):=(Keeps.refl _ _).alloc _
 have kB:Keeps [] (w6.alloc (newH n)) ((w6.alloc (newH n)).alloc (newH n)):=(Keeps.refl _ _).alloc _
 have kU:Keeps [] ((w6.alloc (newH n)).alloc (newH n)) u:=⟨e1,e2,e3,by rw [e0];exact Nat.le_refl _,fun _ _ _=>by rw [e0]⟩
 have s1:(w6.alloc (newH n)).heap.size=w6.heap.size+1:=Array.size_push _
 have r1:=((arr_new n hn w6).keep kB (by simp)).keep kU (by simp)
 have r2:=(arr_new n hn (w6.alloc (newH n))).keep kU (by simp)
 rw [s1] at r2
 have t2:=t.same ((kA.trans kB (by simp)).trans kU (by simp))
 have hz:=t.kp.size
 have la:=t.a.lt
 have lb:=t.b.lt
 have fp:=FillP.empty n 1
 refine ⟨⟨_,_,_,_,FA,FB,_,_,⟨t2,r1,r2,⟨by omega,by omega,by omega⟩,fun x hx=>?_,fun x hx=>?_⟩,by simpa using fp,by simpa using fp,fun j k hj=>by omega,fun j k hj=>by omega⟩,
  ⟨_,_,_,_,FA,FB,_,_,⟨t2,r2,r1,⟨by omega,by omega,by omega⟩,fun x hx=>?_,fun x hx=>?_⟩,by simpa using fp,by simpa using fp,fun j k hj=>by omega,fun j k hj=>by omega⟩⟩
 .have:=la x hx;omega
 .have:=lb x hx;omega
 .have:=la x hx;omega
 .have:=lb x hx;omega
theorem wholeLowers_calls (w:World) (a b:Int) (ao bo:Option Addr) (ca cb:Nat) (keys lower:List Int) (hkv:KIn w (.slice ao keys.length ca) keys) (hlv:KIn w (.slice bo lower.length cb) lower) :
  Calls Tryz.prog 6 #[.agg #[.int .i64 a,.int .i64 b],.slice ao keys.length ca,.slice bo lower.length cb] w fun e w'=>e=.returned (.bool true)∧Keeps [] w w':=by
 obtain ⟨w0,hw0⟩:∃w0,w0=w.alloc (.cells #[.int .i64 a,.int .i64 b] 23 (0,0)):=⟨_,rfl⟩
 obtain ⟨c,hc⟩:∃c,c=w.heap.size:=⟨_,rfl⟩
 have k0:Keeps [] w w0:=by rw [hw0];exact (Keeps.refl _ _).alloc _
 have hb0:w0.heap[c]?=some (.cells #[.int .i64 a,.int .i64 b] 23 (0,0)):=by rw [hw0,hc];exact blk_alloc_new _
 have hcell:∀u,Keeps [] w0 u->u.cell? ⟨c,0,none⟩=some (.int .i64 a)∧u.cell? ⟨c,1,none⟩=some (.int .i64 b):=fun u k=>by
  have:=k.blk hb0 (by simp)
  exact ⟨by rw [cell_of_blk this];rfl,by rw [cell_of_blk this];rfl⟩
 have hkeys:∀(i:Nat) x,keys[i]?=some x->(Lit.int .i64 x).wf=true∧∃g off,ao=some ⟨g,off,none⟩∧w.cell? ⟨g,off+i,none⟩=some (.int .i64 x):=fun i x hx=>by
  obtain ⟨h1,g,off,ca',h2,h3⟩:=hkv.2 i x hx
  cases h2
  exact ⟨h1,g,off,rfl,h3⟩
 have hlow:∀(i:Nat) x,lower[i]?=some x->(Lit.int .i64 x).wf=true∧∃g off,bo=some ⟨g,off,none⟩∧w.cell? ⟨g,off+i,none⟩=some (.int .i64 x):=fun i x hx=>by
  obtain ⟨h1,g,off,ca',h2,h3⟩:=hlv.2 i x hx
  cases h2
  exact ⟨h1,g,off,rfl,h3⟩
 have HC:=Lib.hid hcell
 have HK:=Lib.hid hkeys
 have HLO:=Lib.hid hlow
 have K0:=Lib.hid k0
 have hal:=alive_calls w0
 have hck:=fun u a b=>ref_check_calls u a b
 clear hcell hkeys hlow hkv hlv k0 hb0
 generalize hn:keys.length=n at *
 generalize hm:lower.length=m at *
 have HN:=Lib.hid hn
 have HM:=Lib.hid hm
 clear hn hm
 go_enter Tryz.func6,Tryz.ntmps6
 go_upto_region 1 with fail
 rw [<-hw0,<-hc]
 clear hw0 hc
 go_upto_region 3 with (go_at_call 7;refine hal.mono ?_;rintro e w1 ⟨rfl,k1⟩;have K1:=Lib.hid (K0.out.trans k1 (by simp));obtain ⟨x0,x1⟩:=HC.out w1 k1;have C1:=Lib.hid k1;clear k1)
 clear hal
 by_cases hlen:n<=60
 case neg =>
  have hl:(60:Int)<(n:Int):=by omega
  go_wp2_with fail
  go_ret
  exact ⟨rfl,K1.out⟩
 have hl:¬(60:Int)<(n:Int):=by omega
 by_cases hlen2:m<=60
 case neg =>
  have hl2:(60:Int)<(m:Int):=by omega
  go_wp2_with fail
  go_ret
  exact ⟨rfl,K1.out⟩
 have hl2:¬(60:Int)<(m:Int):=by omega
 by_cases h0:okC a b
 case neg =>
  go_wp2_with (go_at_call 8;refine (hck _ a b).mono ?_;rintro e w2 ⟨⟨r,rfl,hr⟩,k2⟩;have hr0:¬r=0:=fun c=>h0 (hr.1 c);have K2:=Lib.hid (K1.out.trans k2 (by simp));clear k2 hr)
  go_ret
  exact ⟨rfl,K2.out⟩
 go_upto_region 5 with (go_at_call 8;refine (hck _ a b).mono ?_;rintro e w2 ⟨⟨r,rfl,hr⟩,k2⟩;obtain rfl:r=0:=hr.2 h0;have K2:=Lib.hid (K1.out.trans k2 (by simp));have C2:=Lib.hid (C1.out.trans k2 (by simp));obtain ⟨y0,y1⟩:=HC.out w2 (C1.out.trans k2 (by simp));clear k2 hr)
 clear x0 x1 K0 K1 C1 hck
 have hop1:=pq_open w2 a b n 1 h0 (by omega) (by omega) (by omega)
 go_upto_region 6 with (go_at_call 12;refine hop1.mono ?_;rintro e w3 ⟨FA,sa,rfl,st,k3,hF⟩;obtain ⟨z0,z1⟩:=HC.out w3 (C2.out.trans k3 (by simp));have HSA:=Lib.hid (And.intro st (And.intro k3 hF));clear st k3 hF)
 clear hop1 y0 y1
 have hop2:=pq_open w3 a b n 2 h0 (by omega) (by omega) (by omega)
 have htwo:∀w4 FB sb,StoreAt w4 FB sb a.toNat n 0 (fun _=>none) 0 2 (fun _=>0)->Keeps [] w3 w4->(∀b∈FB,w3.heap.size<=b)->Two2 w2 sa sb a.toNat n 0 0 (fun _=>none) (fun _=>none) 0 0 (fun _=>0) (fun _=>0) FA FB w4:=fun w4 FB sb st k4 hF=>by
  obtain ⟨sA,k3,hFA⟩:=HSA.out
  have hl:=sA.lt
  have hz:=k3.size
  exact ⟨sA.keep k4 (by simp),st,fun x hx e=>by have:=hl x hx;have:=hF x e;omega,hFA,fun x hx=>by have:=hF x hx;omega,k3.trans k4 (by simp)⟩
 have HT:=Lib.hid htwo
 clear htwo
 go_upto_region 7 with (go_at_call 12;refine hop2.mono ?_;rintro e w4 ⟨FB,sb,rfl,st,k4,hF⟩;have T4:=Lib.hid (HT.out w4 FB sb st k4 hF);clear st k4 hF)
 clear hop2 HT HSA z0 z1
 have hnh:=pq_newheap w4 FA sa a.toNat n 0 _ 0 1 _ T4.out.a (by omega)
 go_upto_region 10 with (go_at_call 13;refine hnh.mono ?_;rintro e w5 ⟨rfl,FA5,st,mv⟩;have T5:=Lib.hid (T4.out.toA st mv);clear st mv)
 clear hnh T4
 have hnh:=pq_newheap w5 FB sb a.toNat n 0 _ 0 2 _ T5.out.b (by omega)
 go_upto_region 11 with (go_at_call 13;refine hnh.mono ?_;rintro e w6 ⟨rfl,FB6,st,mv⟩;have T6:=Lib.hid (T5.out.toB st mv);clear st mv)
 clear hnh T5 HC C2
 have KW:=K2
 clear K2
 go_cut [11,12] (fun vl vm wx=>∃gl gm,vl=.slice (some ⟨gl,0,none⟩) n n∧vm=.slice (some ⟨gm,0,none⟩) n n∧Come2 w2 sa sb a.toNat n gl gm keys 0 wx)
 case first =>
  have hmk:=make_handles n hlen
  have HS:=Lib.hid (fun u e0 e1 e2 e3=>come_start (u:=u) (keys:=keys) T6.out hlen e0 e1 e2 e3)
  go_region
  all_goals
   go_wp2_with fail
   go_meet
   case rel =>
    obtain ⟨s1,s2⟩:=HS.out ((w6.alloc (newH n)).alloc (newH n)).drew rfl rfl rfl rfl
    first
     | exact ⟨_,_,rfl,rfl,s1⟩
     | exact ⟨_,_,rfl,rfl,s2⟩
 case rest =>
  obtain ⟨gl,gm,rfl,rfl,hcm⟩:=hcut
  have HCM:=Lib.hid hcm
  clear hcm T6
  go_wp2_with fail
  go_loopg [82] (n+1) (fun j t wr=>∃i:Nat,j+i=n+1∧i<=n∧t=.int .i64 i∧Come2 w2 sa sb a.toNat n gl gm keys i wr)
  case atStart=>exact ⟨0,by omega,by omega,rfl,HCM.out⟩
  case round =>
   clear HCM
   obtain ⟨i,hj,hin,rfl,hcm⟩:=hrel
   have HJ:=Lib.hid hj
   clear hj
   by_cases hi:i<n
   .have hi3:(i:Int)<(n:Int):=by omega
    obtain ⟨key,hkey⟩:∃key,keys[i]?=some key:=⟨_,List.getElem?_eq_getElem (by have:=HN.out;omega)⟩
    obtain ⟨hwf,gx,ok,hao,hcell⟩:=HK.out i key hkey
    have d0:=(KW.out.trans hcm.kp (by simp)).cell' hcell
    have hst:=hcm.step HN.out hlen hkey hwf
    subst hao
    clear hcell hcm hkey hwf
    go_upto_region 16 with (go_at_call 14;refine hst.mono ?_;rintro e w7 ⟨x,rfl,⟨v1,y1⟩,⟨v2,y2⟩,y3,y4,y5⟩)
    clear hst d0 y1 y2 y3 y4
    go_wp2_with (go_at_call 14;refine y5.out.mono ?_;rintro e w8 ⟨y,rfl,⟨v3,z1⟩,⟨v4,z2⟩,z3,z4,z5⟩)
    go_roundg (gk - 1)
    case measure=>have:=HJ.out;omega
    case rel=>exact ⟨i+1,by have:=HJ.out;omega,by omega,by go_num,z5.out⟩
   .have hine:n=i:=by omega
    subst hine
    have hlo:=hcm.all HN.out
    have HLW:=Lib.hid hlo
    clear hcm hlo HJ
    go_upto_block 2 with fail
    go_cut [108] (fun _ wx=>∃j,Lows w2 sa sb a.toNat n gl gm keys j wx)
    case first =>
     go_wp2_with fail
     go_loopg [108] (m+1) (fun jj t wr=>∃i:Nat,jj+i=m+1∧i<=m∧t=.int .i64 i∧Lows w2 sa sb a.toNat n gl gm keys i wr)
     case atStart=>exact ⟨0,by omega,by omega,rfl,HLW.out⟩
     case round =>
      clear HLW
      obtain ⟨i,hj,him,rfl,hlw⟩:=hrel
      have HJ:=Lib.hid hj
      clear hj
      by_cases hi:i<m
      .have hi3:(i:Int)<(m:Int):=by omega
       obtain ⟨k,hk⟩:∃k,lower[i]?=some k:=⟨_,List.getElem?_eq_getElem (by have:=HM.out;omega)⟩
       obtain ⟨hwf,gx,ok,hbo,hcell⟩:=HLO.out i k hk
       have d0:=(KW.out.trans hlw.kp (by simp)).cell' hcell
       subst hbo
       clear hk hcell
       by_cases hin:i<n
       .have hin3:(i:Int)<(n:Int):=by omega
        have hin4:¬n<=i:=by omega
        obtain ⟨key,hkey⟩:∃key,keys[i]?=some key:=⟨_,List.getElem?_eq_getElem (by have:=HN.out;omega)⟩
        obtain ⟨_,gy,oy,hao,hkc⟩:=HK.out i key hkey
        have KC:Hid (∀u,Keeps [] w2 u->u.cell? ⟨gy,oy+i,none⟩=some (.int .i64 key)):=Lib.hid fun u ku=>(KW.out.trans ku (by simp)).cell' hkc
        subst hao
        clear hkc
        by_cases hle:k<=key
        .obtain ⟨x,y,c1,c2,hdec⟩:=hlw.yes HN.out hlen hkey hle hwf
         clear hlw hkey hwf
         go_upto_region 23 with (go_at_call 19;refine hdec.mono ?_;rintro e w7 ⟨rfl,k7,y1,y2,y3⟩;have e0:=KC.out w7 k7;clear k7)
         clear hdec c1 c2 d0
         go_upto_region 27 with (go_at_call 20;refine y3.out.mono ?_;rintro e w8 ⟨rfl,y4⟩)
         clear y1 y2 y3 e0
         go_upto_region 28 with (go_at_call 14;refine y4.out.mono ?_;rintro e w9 ⟨u,g,rfl,y5⟩)
         clear y4
         obtain ⟨k9,hnext⟩:=y5.out
         obtain ⟨wA,hwA⟩:∃wA,wA=w9.alloc (.cells #[.int .i64 (u:Int),.int .u32 g] 45 (0,0)):=⟨_,rfl⟩
         have kA:Keeps [] w9 wA:=by rw [hwA];exact (Keeps.refl _ _).alloc _
         have e1:=KC.out wA (k9.trans kA (by simp))
         have HZ:=Lib.hid (hnext wA kA)
         rw [<-hwA]
         clear y5 k9 hnext hwA kA KC
         go_wp2_with fail
         go_roundg (gk - 1)
         case measure=>have:=HJ.out;omega
         case rel=>exact ⟨i+1,by have:=HJ.out;omega,by omega,by go_num,HZ.out⟩
        .have hlt:key<k:=by omega
         obtain ⟨x,c1,c2,hdec⟩:=hlw.no HN.out hkey hlt
         clear hlw hkey hwf
         go_upto_region 23 with (go_at_call 19;refine hdec.mono ?_;rintro e w7 ⟨rfl,y3⟩;obtain ⟨k7,hz⟩:=y3.out;have e0:=KC.out w7 k7;have HZ:=Lib.hid hz;clear k7 hz)
         clear hdec c1 c2 d0 KC
         go_wp2_with fail
         go_roundg (gk - 1)
         case measure=>have:=HJ.out;omega
         case rel=>exact ⟨i+1,by have:=HJ.out;omega,by omega,by go_num,HZ.out⟩
       .have hin4:n<=i:=by omega
        have hin3:(n:Int)<=(i:Int):=by omega
        have HZ:=Lib.hid hlw
        clear hlw hwf
        go_wp2_with fail
        go_meet
        case rel=>exact ⟨i,HZ.out⟩
      .have hime:m=i:=by omega
       subst hime
       have HZ:=Lib.hid hlw
       clear hlw
       go_wp2_with fail
       go_meet
       case rel=>exact ⟨m,HZ.out⟩
    case rest =>
     clear HLW
     obtain ⟨j,hlw⟩:=hcut
     have hdr:=hlw.drain hlen
     clear hlw
     go_upto_region 32 with (go_at_call 15;refine hdr.mono ?_;rintro e w7 ⟨l,v,rfl,hln,hd2⟩)
     have hlb:l.length<=60:=by omega
     clear hdr
     go_upto_region 33 with (go_at_call 15;refine hd2.out.mono ?_;rintro e w8 ⟨v',rfl,hr1,hr2,k8⟩;obtain ⟨ax,cx,rfl⟩:=hr1.form;obtain ⟨ay,cy,rfl⟩:=hr2.form;have R1:=Lib.hid hr1;have R2:=Lib.hid hr2;have K8:=Lib.hid (KW.out.trans k8 (by simp));clear hr1 hr2 k8)
     clear hd2
     go_wp2_with fail
     go_loopg [198] (l.length+1) (fun jj t wx=>∃i:Nat,jj+i=l.length+1∧i<=l.length∧t=.int .i64 i∧Keeps [] w8 wx)
     case atStart=>exact ⟨0,by omega,by omega,rfl,Keeps.refl _ _⟩
     case round =>
      obtain ⟨i,hj,hin,rfl,kp⟩:=hrel
      have HJ:=Lib.hid hj
      clear hj
      by_cases hi:i<l.length
      .have hi3:(i:Int)<(l.length:Int):=by omega
       obtain ⟨z,hz⟩:∃z,l[i]?=some z:=⟨_,List.getElem?_eq_getElem hi⟩
       obtain ⟨g1,e1,_,c1⟩:=(R1.out.keep kp (by simp)).at hz
       obtain ⟨g2,e2,_,c2⟩:=(R2.out.keep kp (by simp)).at hz
       subst e1 e2
       have KX:=Lib.hid kp
       clear kp hz
       go_upto_region 38 with fail
       go_quiet (fail)
       all_goals
        go_wp2_with fail
        go_roundg (gk - 1)
        case measure=>have:=HJ.out;omega
        case rel=>exact ⟨i+1,by have:=HJ.out;omega,by omega,by go_num,KX.out.drewN _⟩
      .have hie:l.length=i:=by omega
       have KX:=Lib.hid (K8.out.trans kp (by simp))
       clear kp
       have hi3:¬(i:Int)<(l.length:Int):=by omega
       go_wp2_with fail
       go_ret
       exact ⟨rfl,KX.out⟩
end Go.Proofs.YtkdbjelhkfdfjaaGreatDoor

