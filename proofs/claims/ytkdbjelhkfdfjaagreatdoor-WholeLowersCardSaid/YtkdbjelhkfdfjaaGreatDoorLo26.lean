/-
  Contracts that the law rests on. Conditions: none.
-/
import Derived.Test.YtkdbjelhkfdfjaaGreatDoorLo23
import Derived.Test.YtkdbjelhkfdfjaaGreatDoorLo25
set_option linter.unusedVariables false
set_option maxRecDepth 100000
set_option maxHeartbeats 32000000
namespace Go.Proofs.YtkdbjelhkfdfjaaGreatDoor
open Go.RowKit
section
variable {w w':World} {p pc pf gf gr rc cap hs:Nat} {F Fc S:List Nat} {E E':Ent} {T T':Nat->TwigR} {U U':Nat->Option Nat} {R R':Nat->BRow}
theorem BinQ.cells (q:BinQ w p pc pf gf gr rc Fc cap hs E T U R) (hc:CellsAt w' Fc pc cap hs E') (k:Keeps Fc w w'):BinQ w' p pc pf gf gr rc Fc cap hs E' T U R :=
 ⟨k.blk q.blk q.ne.2.1,hc,q.fo.keep k (fun b hb e=>q.ne.2.2.2.2.2 b e hb),k.row q.rows q.ne.2.2.1,fun g hg=>ir_keep' (q.mem g hg) k (fun b e=>(q.own g b hg e).2.2.1),q.ne,q.own,q.dis⟩
def BestOf (E:Ent) (l:List Nat) (i b:Nat):Prop:=b∈l.take i∧∀y∈l.take i,y≠b->ahead E b y=true
theorem BestOf.one (E:Ent) (x:Nat) (t:List Nat):BestOf E (x::t) 1 x:=by
 refine ⟨by simp,fun y hy hne=>?_⟩
 simp at hy;exact absurd hy hne
theorem BestOf.more {l:List Nat} {i b y:Nat} (h:BestOf E l i b) (hy:l[i]?=some y) (ha:ahead E y b=true):BestOf E l (i+1) y:=by
 unfold BestOf
 rw [List.take_add_one,hy]
 refine ⟨by simp,fun z hz hne=>?_⟩
 simp only [Option.toList_some,List.mem_append,List.mem_singleton] at hz
 rcases hz with hz|hz
 .by_cases c:z=b
  .subst c;exact ha
  .exact ahead_tr ha (h.2 z hz c)
 .exact absurd hz hne
theorem BestOf.less {l:List Nat} {i b y:Nat} (h:BestOf E l i b) (hy:l[i]?=some y) (ha:ahead E y b=false) (hb:(E b).isSome) (hys:(E y).isSome):BestOf E l (i+1) b:=by
 unfold BestOf
 rw [List.take_add_one,hy]
 refine ⟨by simp [h.1],fun z hz hne=>?_⟩
 simp only [Option.toList_some,List.mem_append,List.mem_singleton] at hz
 rcases hz with hz|rfl
 .exact h.2 z hz hne
 .rcases ahead_tot hys hb hne with c|c
  .rw [ha] at c;cases c
  .exact c
end
section
variable (w:World) (p pc pf gf gr rc cap hs:Nat) (Fc:List Nat) (E:Ent) (T:Nat->TwigR) (U:Nat->Option Nat) (R:Nat->BRow)
theorem bin_row (q:BinQ w p pc pf gf gr rc Fc cap hs E T U R) (h:Nat) (h1:1<=h) (h2:h<=hs) :
  Calls Tryz.prog 353 #[.pointer (some ⟨p,0,none⟩),.int .i64 h] w fun e w'=>e=.returned (.slice (R h).ao (R h).l.length (R h).ca)∧w=w':=by
 have hbh:=q.ce.ok.bh
 have hhas:=cells_has w Fc pc cap hs E q.ce h
 rw [decide_eq_true (by omega)] at hhas
 have c0:=q.c0
 have c2:=q.c2
 have d1:=q.at h2
 have hh3:(h:Int)<((hs+1:Nat):Int):=by omega
 have hh4:(h:Int)<(hs:Int)+1:=by omega
 clear q
 go_enter Tryz.func353,Tryz.ntmps353
 go_wp2_with (go_at_call 301;refine hhas.mono ?_;rintro e w' ⟨rfl,rfl⟩)
 go_ret
 exact ⟨rfl,rfl⟩
theorem bin_row_no (q:BinQ w p pc pf gf gr rc Fc cap hs E T U R) (h:Nat) (h1:¬(1<=h∧h<=hs)) :
  Calls Tryz.prog 353 #[.pointer (some ⟨p,0,none⟩),.int .i64 h] w fun e w'=>e=.returned (.slice none 0 0)∧w=w':=by
 have hhas:=cells_has w Fc pc cap hs E q.ce h
 rw [decide_eq_false (by omega)] at hhas
 have c0:=q.c0
 clear q
 go_enter Tryz.func353,Tryz.ntmps353
 go_wp2_with (go_at_call 301;refine hhas.mono ?_;rintro e w' ⟨rfl,rfl⟩)
 go_ret
 exact ⟨rfl,rfl⟩
theorem bin_min_no (q:BinQ w p pc pf gf gr rc Fc cap hs E T U R) (o:BinO E (fun x=>(T x).kids) U (fun g=>(R g).l)) (h:Nat) (hi:∀y,¬isIn E h y) :
  Calls Tryz.prog 346 #[.pointer (some ⟨p,0,none⟩),.int .i64 h] w fun e w'=>e=.returned (.tuple #[.int .i64 0,.bool false])∧w=w':=by
 have hr:∃ao ca,Calls Tryz.prog 353 #[.pointer (some ⟨p,0,none⟩),.int .i64 h] w fun e w'=>e=.returned (.slice ao 0 ca)∧w=w':=by
  by_cases c:1<=h∧h<=hs
  .have:=bin_row w p pc pf gf gr rc cap hs Fc E T U R q h c.1 c.2
   have e:(R h).l=[]:=by
    cases e:(R h).l with
    | nil=>rfl
    | cons x t=>exact absurd ((o.mem h x).1 (by simp [e])).1 (hi x)
   rw [e] at this
   exact ⟨_,_,this⟩
  .exact ⟨_,_,bin_row_no w p pc pf gf gr rc cap hs Fc E T U R q h c⟩
 obtain ⟨ao,ca,hr⟩:=hr
 clear q o hi
 go_enter Tryz.func346,Tryz.ntmps346
 go_wp2_with (go_at_call 353;refine hr.mono ?_;rintro e w' ⟨rfl,rfl⟩)
 go_ret2
 exact ⟨rfl,rfl⟩
def BinMin (h:Nat) (e:Ending) (w':World):Prop:=∃x:Nat,e=.returned (.tuple #[.int .i64 x,.bool true])∧least E h x∧x∈(R h).l∧BinQ w' p pc pf gf gr rc Fc cap hs E T U R∧Keeps Fc w w'
theorem bin_min_yes (q:BinQ w p pc pf gf gr rc Fc cap hs E T U R) (o:BinO E (fun x=>(T x).kids) U (fun g=>(R g).l)) (h:Nat) (h1:1<=h) (h2:h<=hs) (hi:∃y,isIn E h y) :
  Calls Tryz.prog 346 #[.pointer (some ⟨p,0,none⟩),.int .i64 h] w (BinMin w p pc pf gf gr rc cap hs Fc E T U R h):=by
 have hr:=bin_row w p pc pf gf gr rc cap hs Fc E T U R q h h1 h2
 have hn:=fun y (hy:(E y).isSome)=>q.ce.ok.lt y hy
 have hbn:=q.fo.cap
 obtain ⟨x,t,el⟩:∃x t,(R h).l=x::t:=by
  cases e:(R h).l with
  | nil=>obtain ⟨y,hy⟩:=hi;exact absurd hy (o.none_of hn e y)
  | cons x t=>exact ⟨x,t,rfl⟩
 have hmem:∀y,y∈x::t->(E y).isSome:=fun y hy=>((o.mem h y).1 (by rw [el];exact hy)).1.some
 have hlen:(x::t).length<=65536:=by
  rw [<-el]
  exact Nat.le_trans (nodup_len (o.row h).nodup fun y hy=>hn y (hmem y (by rw [<-el];exact hy))) hbn
 have hfin:∀y w',BestOf E (x::t) (t.length+1) y->BinQ w' p pc pf gf gr rc Fc cap hs E T U R->Keeps Fc w w'->BinMin w p pc pf gf gr rc cap hs Fc E T U R h (.returned (.tuple #[.int .i64 y,.bool true])) w':=fun y w' hb hq hk=>by
  have e:(x::t).take (t.length+1)=x::t:=by simp
  unfold BestOf at hb
  rw [e] at hb
  exact ⟨y,rfl,o.first hn (by show y∈(R h).l;rw [el];exact hb.1) (fun z hz hne=>hb.2 z (by rw [<-el];exact hz) hne),by rw [el];exact hb.1,hq,hk⟩
 have hir:=q.mem h h2
 unfold BRow.v at hir
 rw [el] at hir hr
 simp only [List.length_cons] at hir hr hlen
 obtain ⟨g,e,hg1,_,d0⟩:=hir.at 0 (by simp)
 rw [e] at hir hr
 have hat:∀u i y,Keeps Fc w u->(x::t)[i]?=some y->u.cell? ⟨g,i,none⟩=some (.int .i64 (y:Nat)):=fun u i y k hy=>by
  have hb:∀b,(Value.slice (some ⟨g,0,none⟩) (t.length+1) (R h).ca).ownBlock=some b->b∉Fc:=fun b eb=>(q.own h b h2 (by unfold BRow.v;rw [el,e];exact eb)).2.2.1
  obtain ⟨g',e',_,_,c⟩:=(ir_keep' hir k hb).at i (List.getElem?_eq_some_iff.1 hy).1
  cases e'
  rw [c,Rg.fn,List.getD,hy];rfl
 have hca:t.length+1<=(R h).ca:=by
  rcases hir.2 with ⟨e,_⟩|⟨g',cap,cur,e,_,_,h1,_⟩
  .cases e
  .cases e;simpa using h1
 generalize (R h).ca=ca at *
 have d1:=hat w 0 x (Keeps.refl _ _) rfl
 have hge:(1:Int)<=(t.length:Int)+1:=by omega
 have HF:=Lib.hid hfin
 have HA:=Lib.hid hat
 have HM:=Lib.hid hmem
 have hn0:((t.length:Int)+1==0)=false:=by rw [beq_eq_false_iff_ne];omega
 have Q:=Lib.hid q
 clear hfin hat hmem hir d0 el e o hi hn q
 go_enter Tryz.func346,Tryz.ntmps346
 by_cases hq:ca=1
 .obtain rfl:t=[]:=List.length_eq_zero_iff.1 (by omega)
  subst hq
  go_wp2_with (go_at_call 353;refine hr.mono ?_;rintro e w' ⟨rfl,rfl⟩)
  go_loopg [7,22] 1 (fun m s u wr=>m=1∧s=.int .i64 x∧u=.int .i64 0∧wr=w)
  case atStart=>exact ⟨rfl,rfl,rfl,rfl⟩
  case round =>
   obtain ⟨_,rfl,rfl,rfl⟩:=hrel
   go_wp2_with fail
   go_ret2
   exact HF.out _ _ (BestOf.one E x []) Q.out (Keeps.refl _ _)
 .go_wp2_with (go_at_call 353;refine hr.mono ?_;rintro e w' ⟨rfl,rfl⟩)
  go_loopg [7,22] (t.length+1) (fun m s u wr=>∃i b:Nat,m+i=t.length+1∧i<=t.length∧s=.int .i64 b∧u=.int .i64 i∧BestOf E (x::t) (i+1) b∧BinQ wr p pc pf gf gr rc Fc cap hs E T U R∧Keeps Fc w wr)
  case atStart=>exact ⟨0,x,by omega,by omega,rfl,rfl,BestOf.one E x t,Q.out,Keeps.refl _ _⟩
  case round =>
   clear Q d1 hr
   obtain ⟨i,b,hk,hin,rfl,rfl,hb,q,kp⟩:=hrel
   have HK:=Lib.hid hk
   clear hk
   by_cases hi:i<t.length
   .obtain ⟨y,hy⟩:∃y,(x::t)[i+1]?=some y:=⟨_,List.getElem?_eq_getElem (by simp;omega)⟩
    have d1:=HA.out wr (i+1) y kp hy
    rw [Nat.add_comm] at d1
    have hys:=HM.out y (List.mem_of_getElem? hy)
    have hbs:=HM.out b (List.mem_of_mem_take hb.1)
    have hal:=cells_ahead wr Fc pc cap hs E q.ce y b hys hbs
    have c0:=q.c0
    have hi3:(i:Int)<(t.length:Int):=by omega
    have HB:=Lib.hid hb
    have HY:=Lib.hid hy
    have Q:=Lib.hid q
    have KP:=Lib.hid kp
    clear hb hy q kp
    cases ha:ahead E y b with
    | true =>
     rw [ha] at hal
     have HH:=Lib.hid ha
     clear ha
     go_wp2_with (go_at_call 339;refine hal.mono ?_;rintro e w1 ⟨rfl,hc1,hk1⟩)
     go_roundg (gk - 1)
     case measure=>have:=HK.out;omega
     case rel=>exact ⟨i+1,y,by have:=HK.out;omega,by omega,rfl,by go_num,HB.out.more HY.out HH.out,Q.out.cells hc1 hk1,KP.out.trans hk1 (fun x hx=>.inl hx)⟩
    | false =>
     rw [ha] at hal
     have HH:=Lib.hid ha
     clear ha
     go_wp2_with (go_at_call 339;refine hal.mono ?_;rintro e w1 ⟨rfl,hc1,hk1⟩)
     go_roundg (gk - 1)
     case measure=>have:=HK.out;omega
     case rel=>exact ⟨i+1,b,by have:=HK.out;omega,by omega,rfl,by go_num,HB.out.less HY.out HH.out hbs hys,Q.out.cells hc1 hk1,KP.out.trans hk1 (fun x hx=>.inl hx)⟩
   .obtain rfl:i=t.length:=by omega
    go_wp2_with fail
    go_ret2
    exact HF.out _ _ hb q kp
end
section
variable (w:World) (F:List Nat) (p cap hs:Nat) (E:Ent)
theorem left_delete (c:LeftAt w F p cap hs E) (h x:Nat) (hl:least E h x) :
  Calls Tryz.prog 401 #[.pointer (some ⟨p,0,none⟩),.int .i64 x] w (LeftSt w F p cap hs (put E x none)):=by
 obtain ⟨pc,pt,gt,gr,gT,cT,Fc,L,R,U,top,rfl,m,tr,ng,t⟩:=c
 have hn:=fun y (hy:(E y).isSome)=>m.ce.ok.lt y hy
 have hx:=hn x hl.1.some
 have htop:top h=some x:=by
  cases e:top h with
  | none=>exact absurd hl.1 (t.none_of hn e x)
  | some y=>rw [(t.first hn e).one hl]
 have hhome:=cells_home w Fc pc cap hs E m.ce x h hl.1
 have hcut:=t.cut htop
 obtain ⟨hk0,hk1⟩:=hl.1
 obtain ⟨h1,h2⟩:=m.ce.ok.heap x h _ hk1
 have hne:=m.ne
 have hlt3:=m.lt
 have hdrop:=fun u (hu:CellsAt u Fc pc cap hs E)=>cells_drop u Fc pc cap hs E hu x h hl.1
 have hbL:=fun z (e:L x=some z)=>And.intro (t.bin.left x z e).1 (t.bin.lr x z e)
 have hbR:=fun z (e:R x=some z)=>(by rw [offU_other (fun c=>t.bin.lr x z c e)];exact (t.bin.right x z e).1:offU U (L x) z=some x)
 have hgn:=ng
 simp only [List.mem_cons,not_or] at hgn
 obtain ⟨g1,g2,g3,g4,g5⟩:=hgn
 have hfin:∀(w3 w5:World) (C:Option Nat) (L' R' U':Nat->Option Nat),LeftMid w3 p pc pt gt gr (.slice (some ⟨gT,0,none⟩) (hs+1) cT) Fc cap hs E L' R' U'->Zip E L' R' U' (fun y=>∃g,top g=some y) (upd L x none) (upd R x none) h [] C none->Keeps (gt::gr::Fc) w w3 ->
   CellsAt w5 Fc pc cap hs (put E x none)->Keeps Fc (w3.setCell ⟨gT,h,none⟩ (.int .i64 (oZ C))) w5->LeftSt w (p::pt::gt::gr::gT::Fc) p cap hs (put E x none) (.returned (.bool true)) w5:=by
  intro w3 w5 C L' R' U' m3 z3 k3 c5 k5
  have tr3:=tr.keep k3 (by simp;exact ⟨g3,g4,g5⟩)
  have k4:Keeps [gT] w3 (w3.setCell ⟨gT,h,none⟩ (.int .i64 (oZ C))):=(Keeps.refl _ _).setCell (.inl (by simp)) _
  have m4:=m3.keep k4 (fun b hb e=>by
   simp only [List.mem_cons,List.not_mem_nil,or_false] at e
   subst e
   exact ng hb)
  refine ⟨rfl,⟨pc,pt,gt,gr,gT,cT,Fc,L',R',U',upd top h C,rfl,m4.cells c5 k5,(tr3.set (by omega) (by omega) C).keep k5 g5,ng,Tops.dropped z3 htop t.mine (upd_same _ _ _) (upd_same _ _ _)⟩,?_⟩
  exact ((k3.mono (T:=p::pt::gt::gr::gT::Fc) (fun b hb=>.inl (by simp only [List.mem_cons] at hb ⊢;rcases hb with c|c|c<;>simp [c]))).trans k4 (by simp)).trans k5 (fun b hb=>.inl (by simp [hb]))
 have hmid:∀(w3:World) (C:Option Nat) (L' R' U':Nat->Option Nat),LeftMid w3 p pc pt gt gr (.slice (some ⟨gT,0,none⟩) (hs+1) cT) Fc cap hs E L' R' U'->Zip E L' R' U' (fun y=>∃g,top g=some y) (upd L x none) (upd R x none) h [] C none->Keeps (gt::gr::Fc) w w3 ->
   U' x=none∧w3.cell? ⟨p,1,none⟩=some (.pointer (some ⟨pt,0,none⟩))∧w3.cell? ⟨p,3,none⟩=some (.slice (some ⟨gT,0,none⟩) (hs+1) cT)∧w3.cell? ⟨gT,h,none⟩=some (.int .i64 (oZ (top h)))∧w3.frozen? ⟨gT,h,none⟩=false ∧
   (w3.setCell ⟨gT,h,none⟩ (.int .i64 (oZ C))).cell? ⟨p,0,none⟩=some (.pointer (some ⟨pc,0,none⟩))∧CellsAt (w3.setCell ⟨gT,h,none⟩ (.int .i64 (oZ C))) Fc pc cap hs E:=fun w3 C L' R' U' m3 z3 k3 =>
  have tr3:=tr.keep k3 (by simp;exact ⟨g3,g4,g5⟩)
  have k4:Keeps [gT] w3 (w3.setCell ⟨gT,h,none⟩ (.int .i64 (oZ C))):=(Keeps.refl _ _).setCell (.inl (by simp)) _
  have m4:=m3.keep k4 (fun b hb e=>by
   simp only [List.mem_cons,List.not_mem_nil,or_false] at e
   subst e
   exact ng hb)
  ⟨(z3.bin.top x (.inl ⟨h,htop⟩)).2,m3.c1,m3.c3,tr3.at (by omega),tr3.frozen _,m4.c0,m4.ce⟩
 have d0:=m.c0
 have d1:=m.c1
 have hhs3:(h:Int)<((hs+1:Nat):Int):=by omega
 have hhs4:(h:Int)<(hs:Int)+1:=by omega
 have HCUT:=Lib.hid hcut
 have HF:=Lib.hid hfin
 have HMID:=Lib.hid hmid
 have HDROP:=Lib.hid hdrop
 have HBL:=Lib.hid hbL
 have HBR:=Lib.hid hbR
 clear hfin hmid hcut hdrop hbL hbR t tr ng htop hn hk1
 go_enter Tryz.func401,Tryz.ntmps401
 go_upto_region 4 with (go_at_call 302;refine hhome.mono ?_;rintro e w1 ⟨rfl,n1,rfl⟩)
 have m0:=m.drewN n1
 have k0:Keeps [] w (w.drewN n1):=(Keeps.refl [] w).drewN _
 generalize hw0:w.drewN n1=w0 at *
 clear hw0
 have e1:=m0.c1
 go_quiet ((first
  | (go_at_call 411;exact Calls.quiet_of (sp_Left _ pt gt cap L R U (by exact m0.sp.like rfl) x hx))
  | (go_at_call 412;exact Calls.quiet_of (sp_Right _ pt gt cap L R U (by exact m0.sp.like rfl) x hx))
  | (go_at_call 410;exact Calls.quiet_of_same (kid_calls _ (L x)))
  | (go_at_call 410;exact Calls.quiet_of_same (kid_calls _ (R x)))))
 have m1:=m0.drewN nq
 have k1:Keeps [] w (w0.drewN nq):=k0.drewN _
 clear m0 k0 e1 m
 generalize w0.drewN nq=w1 at *
 have e1:=m1.c1
 have hcl:=cut_left w1 p pc pt gt gr _ Fc cap hs E L R U m1 x HBL.out
 go_upto_region 6 with (go_at_call 407;refine hcl.mono ?_;rintro e w2 ⟨⟨v2,rfl⟩,s2⟩)
 have m2:=m1.spine s2
 have k2:Keeps (gt::gr::Fc) w w2:=(k1.mono (T:=gt::gr::Fc) (by simp)).trans s2.2 (by simp)
 have hcr:=cut_right w2 p pc pt gt gr _ Fc cap hs E (upd L x none) R (offU U (L x)) m2 x HBR.out
 clear hcl e1 m1 s2
 have e1:=m2.c1
 go_upto_region 7 with (go_at_call 407;refine hcr.mono ?_;rintro e w3 ⟨⟨v3,rfl⟩,s3⟩)
 have m3:=m2.spine s3
 have k3:Keeps (gt::gr::Fc) w w3:=k2.trans s3.2 (by simp)
 clear hcr e1 m2 s3 k2
 have e1:=m3.c1
 have hmg:=left_merge w3 p pc pt gt gr _ Fc cap hs E _ _ _ _ _ _ h (L x) (R x) m3 HCUT.out
 go_upto_region 8 with (go_at_call 409;refine hmg.mono ?_;rintro e w4 ⟨C,L',R',U',rfl,m4,z4,k4⟩)
 have k5:=k3.trans k4 (fun b hb=>.inl hb)
 obtain ⟨hu,f1,f3,f4,f5,f6,f7⟩:=HMID.out w4 C L' R' U' m4 z4 k5
 have hup:=sp_Up w4 pt gt cap L' R' U' m4.sp x hx
 rw [hu] at hup
 simp only [Option.getD_none,Option.isSome_none] at hup
 have M4:=Lib.hid m4
 have Z4:=Lib.hid z4
 clear m4 z4 hmg e1 m3 hu d0 d1
 go_wp2_with (first
  | (go_at_call 413;refine hup.mono ?_;rintro e w' ⟨rfl,rfl⟩)
  | (go_at_call 312;refine (HDROP.out _ f7).mono ?_;rintro e w5 ⟨rfl,c5,k6⟩))
 go_ret
 exact HF.out w4 w5 C L' R' U' M4.out Z4.out k5 c5 k6
def LeftExt (w:World) (F:List Nat) (p cap hs:Nat) (E:Ent) (h:Nat) (e:Ending) (w':World):Prop :=
 ∃x:Nat,e=.returned (.tuple #[.int .i64 x,.bool true])∧least E h x∧LeftAt w' F p cap hs (put E x none)∧Keeps F w w'
theorem left_extract (c:LeftAt w F p cap hs E) (h:Nat) (h1:1<=h) (h2:h<=hs) (hi:∃y,isIn E h y) :
  Calls Tryz.prog 402 #[.pointer (some ⟨p,0,none⟩),.int .i64 h] w (LeftExt w F p cap hs E h):=by
 have hm:=left_min_yes w F p cap hs E c h h1 h2 hi
 have hd:=fun x hl=>left_delete w F p cap hs E c h x hl
 clear c hi
 go_enter Tryz.func402,Tryz.ntmps402
 go_wp2_with (first
  | (go_at_call 406;refine hm.mono ?_;rintro e w1 ⟨⟨x,rfl,hl⟩,rfl⟩)
  | (go_at_call 401;refine (hd _ hl).mono ?_;rintro e w2 ⟨rfl,c2,k2⟩))
 go_ret2
 exact ⟨x,rfl,hl,c2,k2⟩
end
theorem TopRow.more {w1 w4:World} {g n c g' c':Nat} {top:Nat->Option Nat} (h:TopRow w1 g n c top) (hn:top n=none) (h0:0<n)
  (hr:w4.ownsRow 0 3 1 (.slice (some ⟨g',0,none⟩) (n+1) c') (n+1) (topsV top n++[.int .i64 (-1)])):TopRow w4 g' (n+1) c' top :=
 ⟨by rw [topsV_snoc top n hn];exact hr,h.zero⟩
section
variable (w:World) (F:List Nat) (p cap hs:Nat) (E:Ent)
def LeftMade (w:World) (F:List Nat) (p cap hs:Nat) (E:Ent) (e:Ending) (w':World):Prop:=∃F',e=.returned (.int .i64 ((hs+1:Nat):Int))∧LeftAt w' F' p cap (hs+1) E∧Moved F w F' w'
theorem left_make (c:LeftAt w F p cap hs E) (hh:hs<65536):Calls Tryz.prog 404 #[.pointer (some ⟨p,0,none⟩)] w (LeftMade w F p cap hs E):=by
 have hlt:=c.lt
 obtain ⟨pc,pt,gt,gr,gT,cT,Fc,L,R,U,top,rfl,m,tr,ng,t⟩:=c
 have hmk:=cells_make w Fc pc cap hs E m.ce hh
 have d0:=m.c0
 obtain ⟨⟨a1,a2,a3,a4⟩,⟨b1,b2,b3⟩,⟨c1,c2⟩,cd⟩:=m.ne
 obtain ⟨l1,l2,l3,l5,l4⟩:=m.lt
 have l6:=tr.lt
 have hgn:=ng
 simp only [List.mem_cons,not_or] at hgn
 obtain ⟨g1,g2,g3,g4,g5⟩:=hgn
 have ht:top (hs+1)=none:=by
  cases e:top (hs+1) with
  | none=>rfl
  | some x =>
   obtain ⟨k,hk⟩:=t.mine _ _ e
   have:=m.ce.ok.heap x _ _ hk
   omega
 have hfin:∀(w1 w4:World) (Fc':List Nat) (g' c':Nat),CellsAt w1 Fc' pc cap (hs+1) E->Moved Fc w Fc' w1->w4.ownsRow 0 3 1 (.slice (some ⟨g',0,none⟩) (hs+1+1) c') (hs+1+1) (topsV top (hs+1)++[.int .i64 (-1)])->Keeps [gT] w1 w4->(g'=gT∨w1.heap.size<=g') ->
   w4.frozen? ⟨p,3,none⟩=false∧w4.cell? ⟨p,3,none⟩=some (.slice (some ⟨gT,0,none⟩) (hs+1) cT)∧LeftMade w (p::pt::gt::gr::gT::Fc) p cap hs E (.returned (.int .i64 ((hs+1:Nat):Int))) (w4.setCell ⟨p,3,none⟩ (.slice (some ⟨g',0,none⟩) (hs+1+1) c')):=by
  intro w1 w4 Fc' g' c' hc1 hm1 hr4 k4 hg4
  have s1:=hm1.keeps.size
  have s4:=k4.size
  have hcl:=hc1.lt
  have hnew:∀b,b∉Fc->b<w.heap.size->b∉Fc':=fun b a c e=>by
   rcases hm1.from' b e with f|f
   .exact a f
   .omega
  have b4:=k4.blk (hm1.keeps.blk m.blk a4) (by simpa using fun e=>g1 e.symm)
  have hgF:g'∉Fc':=by rcases hg4 with e|e;rw [e];exact hnew gT g5 l6;exact fun f=>by have:=hcl _ f;omega
  have hgs:g'≠p∧g'≠pt∧g'≠gt∧g'≠gr:=by rcases hg4 with e|e;rw [e];exact ⟨g1,g2,g3,g4⟩;refine ⟨?_,?_,?_,?_⟩<;>omega
  have k5:Keeps [p] w4 (w4.setCell ⟨p,3,none⟩ (.slice (some ⟨g',0,none⟩) (hs+1+1) c')):=(Keeps.refl _ _).setCell (.inl (by simp)) _
  have k15:Keeps [p,gT] w1 (w4.setCell ⟨p,3,none⟩ (.slice (some ⟨g',0,none⟩) (hs+1+1) c')):=(k4.mono (T:=[p,gT]) (by simp)).trans k5 (by simp)
  have kall:Keeps (p::gT::Fc) w (w4.setCell ⟨p,3,none⟩ (.slice (some ⟨g',0,none⟩) (hs+1+1) c')):=(hm1.keeps.mono (T:=p::gT::Fc) fun b hb=>.inl (by simp [hb])).trans k15 fun b hb=>.inl (by simp at hb;rcases hb with c|c<;>simp [c])
  have m5:LeftMid (w4.setCell ⟨p,3,none⟩ (.slice (some ⟨g',0,none⟩) (hs+1+1) c')) p pc pt gt gr (.slice (some ⟨g',0,none⟩) (hs+1+1) c') Fc' cap (hs+1) E L R U:=by
   refine ⟨?_,?_,hc1.keep k15 ?_,m.sp.keep kall ?_ ?_,m.rkeep kall ?_⟩
   .simp only [List.nodup_cons,List.mem_cons,not_or]
    exact ⟨⟨a1,a2,a3,hnew p a4 l1⟩,⟨b1,b2,hnew pt b3 l2⟩,⟨c1,hnew gt c2 l3⟩,hnew gr cd l5,hc1.nodup⟩
   .rw [blk_setCell _ b4];simp
   .intro b hb e
    simp only [List.mem_cons,List.not_mem_nil,or_false] at e
    rcases e with rfl|rfl
    .exact hnew b a4 l1 hb
    .exact hnew b g5 l6 hb
   .simp only [List.mem_cons,not_or];exact ⟨fun e=>a1 e.symm,fun e=>g2 e.symm,b3⟩
   .simp only [List.mem_cons,not_or];exact ⟨fun e=>a2 e.symm,fun e=>g3 e.symm,c2⟩
   .simp only [List.mem_cons,not_or];exact ⟨fun e=>a3 e.symm,fun e=>g4 e.symm,cd⟩
  have tr5:TopRow (w4.setCell ⟨p,3,none⟩ (.slice (some ⟨g',0,none⟩) (hs+1+1) c')) g' (hs+1+1) c' top:=(tr.more ht (by omega) hr4).keep k5 (by simpa using hgs.1)
  refine ⟨frozen_of_blk b4,by rw [cell_of_blk b4];rfl,p::pt::gt::gr::g'::Fc',rfl,⟨pc,pt,gt,gr,g',c',Fc',L,R,U,top,rfl,m5,tr5,?_,t⟩,kall.mono ?_,?_,?_⟩
  .simp only [List.mem_cons,not_or];exact ⟨hgs.1,hgs.2.1,hgs.2.2.1,hgs.2.2.2,hgF⟩
  .intro b hb
   simp only [List.mem_cons] at hb ⊢
   rcases hb with c|c|c<;>simp [c]
  .intro b hb
   simp only [List.mem_cons] at hb ⊢
   rcases hb with rfl|rfl|rfl|rfl|rfl|hb
   .simp
   .simp
   .simp
   .simp
   .rcases hg4 with e|e
    .simp [e]
    .exact .inr (by omega)
   .rcases hm1.from' b hb with c|c
    .simp [c]
    .exact .inr c
  .intro b hb
   obtain ⟨q1,q2,q3,q5,q4⟩:=m5.lt
   simp only [List.mem_cons] at hb
   rcases hb with rfl|rfl|rfl|rfl|rfl|hb
   .exact q1
   .exact q2
   .exact q3
   .exact q5
   .exact tr5.lt
   .exact q4 b hb
 have hstep:∀(w1:World) (Fc':List Nat),Moved Fc w Fc' w1->w1.cell? ⟨p,3,none⟩=some (.slice (some ⟨gT,0,none⟩) (hs+1) cT)∧w1.ownsRow 0 3 1 (.slice (some ⟨gT,0,none⟩) (hs+1) cT) (hs+1) (topsV top (hs+1)):=fun w1 Fc' h1 =>
  ⟨by rw [cell_of_blk (h1.keeps.blk m.blk a4)];rfl,h1.keeps.row tr.row g5⟩
 have hh3:(0:Int)<((hs+1:Nat):Int):=by omega
 have HF:=Lib.hid hfin
 have HS:=Lib.hid hstep
 clear hfin hstep m tr t hlt ht
 go_enter Tryz.func404,Tryz.ntmps404
 go_upto_region 3 with (go_at_call 318;refine hmk.mono ?_;rintro e w1 ⟨Fc',rfl,hc1,hm1⟩)
 obtain ⟨q1,q2⟩:=HS.out w1 Fc' hm1
 go_wp2_with (first
  | (at_builtin;refine wpList_push _ 3 (.int .i64 (-1)) (0,0) rfl (.tmp 15) (.tmp 16) 28 rfl (.int .i64 0) 8 Tryz.underlying28 Rg.Tryz.infoInt rfl rfl _ (hs+1) (topsV top (hs+1)) (by simp [Act.eval]) q2 (by simp [Act.eval]) (by unfold maxLen;omega) (by omega) ?_;intro g' cap' w4 hr4 hk4 hf4;obtain ⟨f5,c5,hD5⟩:=HF.out w1 w4 Fc' g' cap' hc1 hm1 hr4 (by simpa [Value.ownBlock] using hk4) (by simpa [Value.ownBlock,eq_comm] using hf4);clear hr4 hk4 hf4))
 go_ret
 exact hD5
def LeftNew (w:World) (n:Nat) (e:Ending) (w':World):Prop :=
 ∃(F:List Nat) (p:Nat),e=.returned (.tuple #[.pointer (some ⟨p,0,none⟩),.int .i64 0])∧LeftAt w' F p n 0 (fun _=>none)∧Keeps [] w w'∧∀b∈F,w.heap.size<=b
theorem left_new (w:World) (n:Nat) (hn:n<=65536):Calls Tryz.prog 66 #[.int .i64 n] w (LeftNew w n):=by
 have hs:=fun u=>sp_new u n hn
 obtain ⟨i0,hi,hz0,hz1,hzb⟩:=info_parts Rg.Tryz.infoInt
 go_enter Tryz.func66,Tryz.ntmps66
 go_wp2_with (first
  | (go_at_call 87;refine (cells_new w n hn).mono ?_;rintro e w1 ⟨Fc,pc,rfl,hc1,hk1,hF1⟩)
  | (go_at_call 92;refine (hs w1).mono ?_;rintro e w2 ⟨pt,gt,rfl,hs2,hk2,hp2,hg2⟩)
  | (at_make;refine wpList_make_full _ rfl _ _ 28 rfl 0 3 i0 (.int .i64 0) 1 Tryz.underlying28 hi hz0 hz1 .i64 .i64 n n n rfl rfl rfl rfl (by rw [hzb];omega) (by unfold maxLen;omega) (Nat.zero_le _) ?_;intro w3 hr3 hg3))
 go_ret2
 have hl1:=hc1.lt
 have hl2:=hs2.lt
 have hne2:=hs2.ne
 have k1:=hk1.size
 have k2:=hk2.size
 have hk3:Keeps [] w2 w3:=(Keeps.refl _ _).grown hg3 (fun k h=>by cases h)
 have k3:=hk3.size
 have hr0:=row_lt hr3
 have ha:Arr w3 3 1 n w2.heap.size (numV fun _=>0):=Arr.made rfl (by decide) hr3
 obtain ⟨w5,hw5⟩:∃w5,w5=(w3.alloc (.cells #[.int .i64 (-1)] 3)).alloc (.cells #[.pointer (some ⟨pc,0,none⟩),.pointer (some ⟨pt,0,none⟩),.slice (some ⟨w2.heap.size,0,none⟩) n n,.slice (some ⟨w3.heap.size,0,none⟩) 1 1] 232):=⟨_,rfl⟩
 rw [<-hw5]
 have hk5:Keeps [] w3 w5:=by rw [hw5];exact ((Keeps.refl _ _).alloc _).alloc _
 have hk25:Keeps [] w2 w5:=hk3.trans hk5 (by simp)
 have hz5:w5.heap.size=w3.heap.size+2:=by rw [hw5];simp
 have hb5:w5.heap[w3.heap.size+1]?=some (.cells #[.pointer (some ⟨pc,0,none⟩),.pointer (some ⟨pt,0,none⟩),.slice (some ⟨w2.heap.size,0,none⟩) n n,.slice (some ⟨w3.heap.size,0,none⟩) 1 1] 232 (0,0)):=by
  rw [hw5]
  have:=blk_alloc_new (w:=w3.alloc (.cells #[.int .i64 (-1)] 3 (0,0))) (.cells #[.pointer (some ⟨pc,0,none⟩),.pointer (some ⟨pt,0,none⟩),.slice (some ⟨w2.heap.size,0,none⟩) n n,.slice (some ⟨w3.heap.size,0,none⟩) 1 1] 232 (0,0))
  simpa using this
 have ht5:w5.heap[w3.heap.size]?=some (.cells #[.int .i64 (-1)] 3 (0,0)):=by
  rw [hw5,blk_alloc_old _ (by simp),blk_alloc_new]
 have hF2:∀b∈Fc,b<w2.heap.size:=fun b hb=>by have:=hl1 b hb;omega
 refine ⟨(w3.heap.size+1)::pt::gt::w2.heap.size::w3.heap.size::Fc,w3.heap.size+1,rfl,⟨pc,pt,gt,w2.heap.size,w3.heap.size,1,Fc,fun _=>none,fun _=>none,fun _=>none,fun _=>none,rfl,⟨?_,hb5,(hc1.keep hk2 (by simp)).keep hk25 (by simp),hs2.keep hk25 (by simp) (by simp),_,ha.keep hk5 (by simp)⟩,⟨?_,rfl⟩,?_,Tops.init⟩,(hk1.trans hk2 (by simp)).trans hk25 (by simp),?_⟩
 .simp only [List.nodup_cons,List.mem_cons,not_or]
  exact ⟨⟨by omega,by omega,by omega,fun e=>by have:=hF2 _ e;omega⟩,⟨fun e=>hne2 e.symm,by omega,fun e=>by have:=hl1 _ e;omega⟩,⟨by omega,fun e=>by have:=hl1 _ e;omega⟩,fun e=>by have:=hF2 _ e;omega,hc1.nodup⟩
 .exact ⟨by simp [topsV],.inr ⟨w3.heap.size,1,#[.int .i64 (-1)],rfl,Nat.zero_le _,ht5,by simp,by decide,by simp,by simp [topsV,oZ]⟩⟩
 .simp only [List.mem_cons,not_or]
  exact ⟨by omega,by omega,by omega,by omega,fun e=>by have:=hF2 _ e;omega⟩
 .intro b hb
  simp only [List.mem_cons] at hb
  rcases hb with rfl|rfl|rfl|rfl|rfl|hb
  .omega
  .omega
  .omega
  .omega
  .omega
  .exact hF1 b hb
end
section
variable (w:World) (p g n:Nat) (T:Nat->TwigR) (U:Nat->Option Nat)
theorem fo_up_none (h:ForestAt w p g n T U) (x:Nat) (hx:x<n) (hu:U x=none):Calls Tryz.prog 354 #[.pointer (some ⟨p,0,none⟩),.int .i64 x] w fun e w'=>e=.returned (.tuple #[.int .i64 0,.bool false])∧w=w':=by
 have c0:=h.c0
 have c1:=h.k1 hx
 have hh:=fo_has w p g n T U h x hx
 have b1:(x:Int)<(n:Int):=by omega
 clear h
 rw [hu] at c1
 simp only [oZ_none] at c1
 clear hu
 go_enter Tryz.func354,Tryz.ntmps354
 go_wp2_with (go_at_call 361;refine hh.mono ?_;rintro e w' ⟨rfl,rfl⟩)
 go_ret2
 exact ⟨rfl,rfl⟩
theorem fo_up_some (h:ForestAt w p g n T U) (x:Nat) (hx:x<n) (y:Nat) (hu:U x=some y):Calls Tryz.prog 354 #[.pointer (some ⟨p,0,none⟩),.int .i64 x] w fun e w'=>e=.returned (.tuple #[.int .i64 y,.bool true])∧w=w':=by
 have c0:=h.c0
 have c1:=h.k1 hx
 have hh:=fo_has w p g n T U h x hx
 have b1:(x:Int)<(n:Int):=by omega
 clear h
 rw [hu] at c1
 simp only [oZ_some] at c1
 have b2:((y:Int)==-1)=false:=by rw [beq_eq_false_iff_ne];omega
 clear hu
 go_enter Tryz.func354,Tryz.ntmps354
 go_wp2_with (go_at_call 361;refine hh.mono ?_;rintro e w' ⟨rfl,rfl⟩)
 go_ret2
 exact ⟨rfl,rfl⟩
theorem fo_adopt (hb:w.heap[p]?=some (.cells #[.slice (some ⟨g,0,none⟩) n n] 263 (0,0))) (ha:Arr w 265 2 n g (twigV T U)) (hpg:p≠g) (x:Nat) (hx:x<n)
  (ao:Option Addr) (N ca:Nat) (L:List Nat) (hN:L.length=N) (hr:Rg.IR 0 w (.slice ao N ca) L) (hbk:∀b,(Value.slice ao N ca).ownBlock=some b->b≠g) (hl:N<=65536) (hm:∀y∈L,y<n) :
  Calls Tryz.prog 362 #[.pointer (some ⟨p,0,none⟩),.int .i64 x,.slice ao N ca] w fun e w'=>e=.returned (.tuple #[]) ∧
   Hid (Arr w' 265 2 n g (twigV (upd T x ⟨ao,ca,L⟩) (updM U L (some x))))∧Hid (Keeps [g] w w'):=by
 subst hN
 have c0:w.cell? ⟨p,0,none⟩=some (.slice (some ⟨g,0,none⟩) n n):=by rw [cell_of_blk hb];rfl
 have c1:w.cell? ⟨g,x*2,none⟩=some (.slice (T x).ao (T x).kids.length (T x).ca):=ha.cell (j:=0) hx (by decide)
 have f1:=ha.frozen (x*2)
 have k0:Keeps [g] w (w.setCell ⟨g,x*2,none⟩ (.slice ao L.length ca)):=(Keeps.refl _ _).setCell (.inl (by simp)) _
 have hrow1:∀w',Keeps [g] w w'->Rg.IR 0 w' (.slice ao L.length ca) L∧w'.cell? ⟨p,0,none⟩=some (.slice (some ⟨g,0,none⟩) n n):=fun w' k =>
  ⟨ir_keep' hr k (fun b e f=>hbk b e (by simpa using f)),by rw [cell_of_blk (k.blk hb (by simpa using hpg))];rfl⟩
 have hA0:Arr (w.setCell ⟨g,x*2,none⟩ (.slice ao L.length ca)) 265 2 n g (twigV (upd T x ⟨ao,ca,L⟩) U):=by
  have:=ha.set hx (j:=0) (by decide) (.slice ao L.length ca)
  have e:=twigV_kids (T:=T) (U:=U) (x:=x) (t:=⟨ao,ca,L⟩)
  simp only at e
  rw [e] at this
  exact this
 have hx3:(x:Int)<(n:Int):=by omega
 have HROW:=Lib.hid hrow1
 have HKM:=Lib.hid hm
 clear hrow1 hm hr hbk hb ha
 go_enter Tryz.func362,Tryz.ntmps362
 go_upto_region 1 with fail
 generalize hw1:w.setCell ⟨g,x*2,none⟩ (.slice ao L.length ca)=w1 at *
 clear hw1 c0 c1 f1
 go_wp2_with fail
 go_loopg [18] (L.length+1) (fun m s wr=>∃i:Nat,m+i=L.length+1∧i<=L.length∧s=.int .i64 i∧Arr wr 265 2 n g (twigV (upd T x ⟨ao,ca,L⟩) (updM U (L.take i) (some x)))∧Keeps [g] w wr)
 case atStart=>exact ⟨0,by omega,by omega,rfl,by rw [List.take_zero,updM_nil];exact hA0,k0⟩
 case round =>
  clear hA0 k0
  obtain ⟨i,hk,hin,rfl,hA,kp⟩:=hrel
  have HK:=Lib.hid hk
  clear hk
  obtain ⟨hr,e0⟩:=HROW.out wr kp
  by_cases hi:i<L.length
  .obtain ⟨gg,hao,_,_,d1⟩:=hr.at i hi
   subst hao
   obtain ⟨y,hy⟩:∃y,Rg.fn L i=y:=⟨_,rfl⟩
   have hyL:L[i]?=some y:=by rw [<-hy];simp [Rg.fn,List.getD,hi]
   have hyn:y<n:=HKM.out y (List.mem_of_getElem? hyL)
   have hyn3:(y:Int)<(n:Int):=by omega
   rw [hy] at d1
   have e1:wr.cell? ⟨g,y*2+1,none⟩=some (.int .i64 (oZ (updM U (L.take i) (some x) y))):=hA.cell (j:=1) hyn (by decide)
   have e2:=hA.frozen (y*2+1)
   have h7:=hA.set hyn (j:=1) (by decide) (.int .i64 (oZ (some x)))
   have htk:L.take (i+1)=L.take i++[y]:=by rw [List.take_add_one,hyL];rfl
   rw [twigV_up,<-updM_snoc,<-htk,oZ_some] at h7
   have k7:Keeps [g] w (wr.setCell ⟨g,y*2+1,none⟩ (.int .i64 (x:Int))):=kp.setCell (.inl (by simp)) _
   have hi3:(i:Int)<(L.length:Int):=by omega
   clear hr hy hyL htk hA kp
   go_wp2_with fail
   go_roundg (gk - 1)
   case measure=>have:=HK.out;omega
   case rel=>exact ⟨i+1,by have:=HK.out;omega,by omega,by go_num,h7,k7⟩
  .obtain rfl:i=L.length:=by omega
   rw [List.take_length] at hA
   clear hr
   go_wp2_with fail
   first|go_end0|refine bodyPost_ret (results_none rfl _ _ _) rfl ?_
   exact ⟨rfl,hA,kp⟩
end
def swT (x p:Nat) (T:Nat->TwigR):Nat->TwigR:=fun z=>⟨(T (swp x p z)).ao,(T (swp x p z)).ca,(T (swp x p z)).kids.map (swp x p)⟩
section
variable {w w':World} {p g n x y:Nat} {T:Nat->TwigR} {U:Nat->Option Nat}
theorem treeF_swap (hx:x<n) (hy:y<n) {b:Nat}:b∈treeF p g n (swT x y T)↔b∈treeF p g n T:=by
 have hlt:∀z,z<n->swp x y z<n:=fun z hz=>by
  by_cases c:z=x
  .subst c;rw [swp_l];exact hy
  .by_cases d:z=y
   .subst d;rw [swp_r];exact hx
   .rw [swp_o c d];exact hz
 rw [treeF_mem,treeF_mem]
 constructor
 .rintro (c|c|⟨z,hz,a,e,rfl⟩)
  .exact .inl c
  .exact .inr (.inl c)
  .exact .inr (.inr ⟨swp x y z,hlt z hz,a,e,rfl⟩)
 .rintro (c|c|⟨z,hz,a,e,rfl⟩)
  .exact .inl c
  .exact .inr (.inl c)
  .exact .inr (.inr ⟨swp x y z,hlt z hz,a,by simp only [swT,swp_swp];exact e,rfl⟩)
theorem twig_lifted (hc:Cubes (fun z=>(T z).kids) U) (hu:U x=some y) :
  twigV (upd (upd T x ⟨(T y).ao,(T y).ca,(T y).kids.map (swp x y)⟩) y ⟨(T x).ao,(T x).ca,(T x).kids⟩) (upd (updM (updM U ((T y).kids.map (swp x y)) (some x)) (T x).kids (some y)) x (U y))=twigV (swT x y T) (swU x y U):=by
 have hxy:x∈(T y).kids:=(hc.mem y x).2 hu
 have hne:x≠y:=fun e=>by subst e;have:=hc.lt hxy;omega
 have nx:x∉(T x).kids:=fun e=>by have:=hc.lt e;omega
 have ny:y∉(T y).kids:=fun e=>by have:=hc.lt e;omega
 have nyx:y∉(T x).kids:=fun e=>by have:=hc.lt e;have:=hc.lt hxy;omega
 funext z
 have h1:upd (upd T x ⟨(T y).ao,(T y).ca,(T y).kids.map (swp x y)⟩) y ⟨(T x).ao,(T x).ca,(T x).kids⟩ z=⟨(swT x y T z).ao,(swT x y T z).ca,if z=x then (T y).kids.map (swp x y) else (T (swp x y z)).kids⟩:=by
  by_cases c:z=x
  .subst c;rw [upd_other _ _ hne,upd_same];simp [swT,swp_l]
  .by_cases d:z=y
   .subst d;rw [upd_same];simp [swT,swp_r,c]
   .rw [upd_other _ _ d,upd_other _ _ c];simp [swT,swp_o c d,c]
 have h2:upd (updM (updM U ((T y).kids.map (swp x y)) (some x)) (T x).kids (some y)) x (U y) z=swU x y U z:=by
  by_cases c:z=x
  .subst c
   rw [upd_same]
   show U y=(U (swp z y z)).map (swp z y)
   rw [swp_l]
   cases e:U y with
   | none=>rfl
   | some q =>
    have h:=(hc.mem q y).2 e
    have q1:q≠y:=fun e=>ny (by rw [e] at h;exact h)
    have q2:q≠z:=fun e=>nyx (by rw [e] at h;exact h)
    simp only [Option.map_some];rw [swp_o q2 q1]
  .rw [upd_other _ _ c]
   show _=(U (swp x y z)).map (swp x y)
   by_cases d:z=y
   .subst d
    rw [updM_out _ _ nyx,updM_in _ _ (by rw [mem_swp,swp_r];exact hxy),swp_r,hu]
    simp [swp_r]
   .rw [swp_o c d]
    by_cases e:z∈(T x).kids
    .rw [updM_in _ _ e,(hc.mem x z).1 e];simp [swp_l]
    .rw [updM_out _ _ e]
     by_cases f:z∈(T y).kids
     .rw [updM_in _ _ (by rw [mem_swp,swp_o c d];exact f),(hc.mem y z).1 f];simp [swp_r]
     .rw [updM_out _ _ (by rw [mem_swp,swp_o c d];exact f)]
      cases r:U z with
      | none=>rfl
      | some q =>
       have h:=(hc.mem q z).2 r
       have q1:q≠y:=fun e=>f (by rw [e] at h;exact h)
       have q2:q≠x:=fun e'=>e (by rw [e'] at h;exact h)
       simp only [Option.map_some];rw [swp_o q2 q1]
 unfold twigV
 rw [h1,h2]
 by_cases c:z=x
 .simp [swT,c,swp_l]
 .simp [swT,c]
theorem ForestAt.lifted (h:ForestAt w p g n T U) (hx:x<n) (hy:y<n) (hb:w'.heap[p]?=some (.cells #[.slice (some ⟨g,0,none⟩) n n] 263 (0,0)))
  (ha:Arr w' 265 2 n g (twigV (swT x y T) (swU x y U))) (hr:∀z,z<n->Rg.IR 0 w' (.slice (T z).ao (T z).kids.length (T z).ca) ((T z).kids.map (swp x y))):ForestAt w' p g n (swT x y T) (swU x y U):=by
 have hlt:∀z,z<n->swp x y z<n:=fun z hz=>by
  by_cases c:z=x
  .subst c;rw [swp_l];exact hy
  .by_cases d:z=y
   .subst d;rw [swp_r];exact hx
   .rw [swp_o c d];exact hz
 refine ⟨hb,ha,fun z hz=>?_,h.ne,fun z hz a e=>h.own _ (hlt z hz) a e,fun z z' hz hz' hne a b e e'=>h.dis _ _ (hlt z hz) (hlt z' hz') (fun q=>hne (swp_inj q)) a b e e',h.cap,fun z hz=>⟨?_,fun y' hy'=>?_,fun q e=>?_⟩⟩
 .have:=hr _ (hlt z hz)
  simp only [swT,List.length_map];exact this
 .simp only [swT,List.length_map];exact (h.num _ (hlt z hz)).1
 .have hy':y'∈((T (swp x y z)).kids).map (swp x y):=hy'
  rw [mem_swp] at hy'
  have:=hlt _ ((h.num _ (hlt z hz)).2.1 _ hy')
  rwa [swp_swp] at this
 .rw [swU_eq] at e
  have:=hlt _ ((h.num _ (hlt z hz)).2.2 _ e)
  rwa [swp_swp] at this
end
end Go.Proofs.YtkdbjelhkfdfjaaGreatDoor
namespace Go.Proofs.YtkdbjelhkfdfjaaGreatDoor
def nonN (U:Nat->Option Nat) (n:Nat):Nat:=((List.range n).filter fun y=>(U y).isSome).length
section
variable {E:Ent} {n:Nat} {R R' Rp:Nat->Nat->Prop} {U kid:Nat->Option Nat} {deg:Nat->Nat} {top:Nat->Option Nat} {h g x y t p q:Nat} {k k':Int} {o:Option Nat}
theorem nonN_off (hx:x<n) (hu:U x=some p):nonN U n=nonN (upd U x none) n+1 :=
 filter_range_one n x hx _ _ (by rw [upd_same];rfl) (by rw [hu];rfl) fun z hz=>by rw [upd_other _ _ hz]
theorem FibM.off (m:FibM E n R U kid deg top h (fun _=>True)) (hu:U x=some p) (ht:top h=some t) (hi:isIn E h x)
  (hP:∀u v,u<n->(Rp u v↔(u=x∧v=x)∨(u≠x∧v≠x∧R u v))) (hR:∀u v,u<n->(R' u v↔Rp u v∨((Rp t u∨Rp x u)∧(Rp t v∨Rp x v))))
  (hk:(o=none∧∀y,U y=some p->y=x)∨∃y,o=some y∧y≠x∧U y=some p) :
  FibM E n R' (upd U x none) (upd kid p o) (upd deg p (deg p - 1)) top h (fun _=>True)∧1<=deg p:=by
 obtain ⟨hrt,_,hta⟩:=m.topS h t ht
 have hxt:x≠t:=by rintro rfl;rw [hrt.2] at hu;cases hu
 have hxn:=m.lt x hi.some
 have hRt:∀z,Rp t z↔rootOf E U h z:=fun z=>by
  rw [hP t z (hrt.lt m),m.ringRoot hrt]
  constructor
  .rintro (⟨q,_⟩|⟨_,_,q⟩)
   .exact absurd q.symm hxt
   .exact q
  .intro q
   exact .inr ⟨hxt.symm,(by rintro rfl;rw [q.2] at hu;cases hu),q⟩
 have hRx:∀z,Rp x z↔z=x:=fun z=>by
  rw [hP x z hxn]
  constructor
  .rintro (⟨_,q⟩|⟨q,_⟩)
   .exact q
   .exact absurd rfl q
  .intro q;exact .inl ⟨rfl,q⟩
 have hroot:∀g z,rootOf E (upd U x none) g z↔rootOf E U g z∨(g=h∧z=x):=fun g z=>by
  unfold rootOf
  by_cases c:z=x
  .subst c
   rw [upd_same]
   constructor
   .rintro ⟨q,_⟩;exact .inr ⟨isIn_one q hi,rfl⟩
   .rintro (⟨q,_⟩|⟨rfl,_⟩)
    .exact ⟨q,rfl⟩
    .exact ⟨hi,rfl⟩
  .rw [upd_other _ _ c];simp [c]
 have hU:∀z q,upd U x none z=some q↔U z=some q∧z≠x:=fun z q=>by
  by_cases c:z=x
  .subst c;rw [upd_same];simp
  .rw [upd_other _ _ c];simp [c]
 have hdeg:kidsN U n p=kidsN (upd U x none) n p+1 :=
  filter_range_one n x hxn _ _ (by rw [upd_same];rfl) (by rw [hu];simp) fun z hz=>by rw [upd_other _ _ hz]
 refine ⟨⟨m.par.detach x,m.lt,?_,?_,?_,?_,?_,?_⟩,by rw [m.dg,hdeg];omega⟩
 .intro a b ha
  rw [hR a b ha,hP a b ha,hRt,hRt,hRx,hRx]
  constructor
  .rintro ((⟨q1,q2⟩|⟨q1,q2,q3⟩)|⟨q1,q2⟩)
   .exact .inl (q1.trans q2.symm)
   .rcases (m.rel a b ha).1 q3 with r|⟨r,r1,r2⟩|⟨g,r1,r2,_⟩
    .exact .inl r
    .exact .inr (.inl ⟨r,(hU a r).2 ⟨r1,q1⟩,(hU b r).2 ⟨r2,q2⟩⟩)
    .exact .inr (.inr ⟨g,(hroot g a).2 (.inl r1),(hroot g b).2 (.inl r2),fun _=>⟨trivial,trivial⟩⟩)
   .exact .inr (.inr ⟨h,(hroot h a).2 (q1.imp id fun q=>⟨rfl,q⟩),(hroot h b).2 (q2.imp id fun q=>⟨rfl,q⟩),fun _=>⟨trivial,trivial⟩⟩)
  .rintro (q|⟨r,q1,q2⟩|⟨g,q1,q2,_⟩)
   .subst q
    by_cases c:a=x
    .exact .inl (.inl ⟨c,c⟩)
    .exact .inl (.inr ⟨c,c,(m.rel a a ha).2 (.inl rfl)⟩)
   .obtain ⟨r1,c1⟩:=(hU a r).1 q1
    obtain ⟨r2,c2⟩:=(hU b r).1 q2
    exact .inl (.inr ⟨c1,c2,(m.rel a b ha).2 (.inr (.inl ⟨r,r1,r2⟩))⟩)
   .by_cases c:g=h
    .subst c
     exact .inr ⟨((hroot g a).1 q1).imp id fun q=>q.2,((hroot g b).1 q2).imp id fun q=>q.2⟩
    .rcases (hroot g a).1 q1 with r1|⟨r1,_⟩
     .rcases (hroot g b).1 q2 with r2|⟨r2,_⟩
      .exact .inl (.inr ⟨(by rintro rfl;rw [r1.2] at hu;cases hu),(by rintro rfl;rw [r2.2] at hu;cases hu),(m.rel a b ha).2 (.inr (.inr ⟨g,r1,r2,fun _=>⟨trivial,trivial⟩⟩))⟩)
      .exact absurd r2 c
     .exact absurd r1 c
 .intro r y q
  by_cases c:r=p
  .subst c
   rw [upd_same] at q
   rcases hk with ⟨q1,_⟩|⟨z,q1,q2,q3⟩
   .rw [q1] at q;cases q
   .rw [q1] at q;cases q
    exact (hU _ _).2 ⟨q3,q2⟩
  .rw [upd_other _ _ c] at q
   have:=m.kidS r y q
   refine (hU _ _).2 ⟨this,?_⟩
   rintro rfl
   rw [hu] at this;cases this;exact c rfl
 .intro r y q
  obtain ⟨q1,q2⟩:=(hU y r).1 q
  by_cases c:r=p
  .subst c
   rw [upd_same]
   rcases hk with ⟨_,q3⟩|⟨z,q3,_⟩
   .exact absurd (q3 y q1) q2
   .rw [q3];rfl
  .rw [upd_other _ _ c];exact m.kidN r y q1
 .intro r
  by_cases c:r=p
  .subst c
   rw [upd_same,m.dg,hdeg];omega
  .rw [upd_other _ _ c,m.dg]
   unfold kidsN
   refine filter_range_congr n _ _ fun z _=>?_
   rw [Bool.eq_iff_iff]
   simp only [beq_iff_eq,hU]
   constructor
   .intro q;exact ⟨q,by rintro rfl;rw [hu] at q;cases q;exact c rfl⟩
   .exact fun q=>q.1
 .intro g s e
  obtain ⟨h1,_,h3⟩:=m.topS g s e
  refine ⟨(hroot g s).2 (.inl h1),fun _=>trivial,fun y hy _ hne=>?_⟩
  rcases (hroot g y).1 hy with r|⟨rfl,rfl⟩
  .exact h3 y r (fun _=>trivial) hne
  .exact (m.first e).2 y hi hne
 .intro g e y hy
  rcases (hroot g y).1 hy with r|⟨rfl,rfl⟩
  .exact m.topN g e y r
  .rw [ht] at e;cases e
theorem FibM.partOne (m:FibM E n R U kid deg top h (fun _=>True)) (hx:rootOf E U h x) (ht:top h≠some x) (hP:∀u v,u<n->(Rp u v↔(u=x∧v=x)∨(u≠x∧v≠x∧R u v))) :
  FibM E n Rp U kid deg top h (fun y=>y≠x):=by
 refine ⟨m.par,m.lt,?_,m.kidS,m.kidN,m.dg,?_,?_⟩
 .intro a b ha
  rw [hP a b ha,m.rel a b ha]
  constructor
  .rintro (⟨q1,q2⟩|⟨q1,q2,q|q|⟨g,r1,r2,_⟩⟩)
   .exact .inl (q1.trans q2.symm)
   .exact .inl q
   .exact .inr (.inl q)
   .exact .inr (.inr ⟨g,r1,r2,fun _=>⟨q1,q2⟩⟩)
  .rintro (q|⟨r,q1,q2⟩|⟨g,r1,r2,q⟩)
   .subst q
    by_cases c:a=x
    .exact .inl ⟨c,c⟩
    .exact .inr ⟨c,c,.inl rfl⟩
   .exact .inr ⟨(by rintro rfl;rw [hx.2] at q1;cases q1),(by rintro rfl;rw [hx.2] at q2;cases q2),.inr (.inl ⟨r,q1,q2⟩)⟩
   .refine .inr ⟨?_,?_,.inr (.inr ⟨g,r1,r2,fun _=>⟨trivial,trivial⟩⟩)⟩
    .rintro rfl;exact (q (root_one r1 hx)).1 rfl
    .rintro rfl;exact (q (root_one r2 hx)).2 rfl
 .intro g s e
  obtain ⟨h1,_,h3⟩:=m.topS g s e
  exact ⟨h1,fun c=>by subst c;rintro rfl;exact ht e,fun y hy _ hne=>h3 y hy (fun _=>trivial) hne⟩
 .intro g e y hy
  exact absurd trivial (m.topN g e y hy).2
theorem FibM.lowRoot (m:FibM E n R U kid deg top h (fun _=>True)) (hx:rootOf E U h x) (he:E x=some (h,k,q)) (hk:k'<=k) (ht:top h=some t) {t':Nat}
  (hc:(t'=x∧(x=t∨ahead (put E x (some (h,k',q))) x t=true))∨(t'=t∧x≠t∧ahead (put E x (some (h,k',q))) x t=false)) :
  FibM (put E x (some (h,k',q))) n R U kid deg (upd top h (some t')) h (fun _=>True):=by
 have hr:∀g y,rootOf (put E x (some (h,k',q))) U g y↔rootOf E U g y:=fun g y=>by unfold rootOf;rw [isIn_low he]
 obtain ⟨hrt,_,hta⟩:=m.topS h t ht
 refine ⟨m.par.low hx.2 he hk,fun y hy=>m.lt y (by rw [some_low he] at hy;exact hy),fun a b ha=>by rw [m.rel a b ha];simp only [hr],m.kidS,m.kidN,m.dg,?_,?_⟩
 .intro g s e
  by_cases c:g=h
  .subst c
   rw [upd_same] at e;cases e
   rcases hc with ⟨rfl,c⟩|⟨rfl,c1,c2⟩
   .refine ⟨(hr g _).2 hx,fun _=>trivial,fun y hy _ hne=>?_⟩
    replace hy:=(hr g y).1 hy
    rcases c with rfl|c
    .exact ahead_low he hk hne (hta y hy (fun _=>trivial) hne)
    .by_cases d:y=t
     .subst d;exact c
     .exact ahead_tr c (ahead_low he hk hne (hta y hy (fun _=>trivial) d))
   .refine ⟨(hr g _).2 hrt,fun _=>trivial,fun y hy _ hne=>?_⟩
    replace hy:=(hr g y).1 hy
    by_cases d:y=x
    .subst d
     rcases ahead_tot (E:=put E y (some (g,k',q))) (by rw [some_low he];exact hy.1.some) (by rw [some_low he];exact hrt.1.some) c1 with r|r
     .rw [c2] at r;cases r
     .exact r
    .exact ahead_low he hk d (hta y hy (fun _=>trivial) hne)
  .rw [upd_other _ _ c] at e
   obtain ⟨h1,_,h3⟩:=m.topS g s e
   refine ⟨(hr g s).2 h1,fun _=>trivial,fun y hy _ hne=>?_⟩
   replace hy:=(hr g y).1 hy
   exact ahead_low he hk (by rintro rfl;exact c (root_one hy hx)) (h3 y hy (fun _=>trivial) hne)
 .intro g e y hy
  by_cases c:g=h
  .subst c;rw [upd_same] at e;cases e
  .rw [upd_other _ _ c] at e
   exact m.topN g e y ((hr g y).1 hy)
theorem FibM.lowKid (m:FibM E n R U kid deg top h (fun _=>True)) (hu:U x=some p) (he:E x=some (h,k,q)) (hk:k'<=k) (hap:ahead (put E x (some (h,k',q))) p x=true) :
  FibM (put E x (some (h,k',q))) n R U kid deg top h (fun _=>True):=by
 have hr:∀g y,rootOf (put E x (some (h,k',q))) U g y↔rootOf E U g y:=fun g y=>by unfold rootOf;rw [isIn_low he]
 refine ⟨m.par.low2 he hk (fun r e=>by rw [hu] at e;cases e;exact hap),fun y hy=>m.lt y (by rw [some_low he] at hy;exact hy),fun a b ha=>by rw [m.rel a b ha];simp only [hr],m.kidS,m.kidN,m.dg,?_,?_⟩
 .intro g s e
  obtain ⟨h1,_,h3⟩:=m.topS g s e
  refine ⟨(hr g s).2 h1,fun _=>trivial,fun y hy _ hne=>?_⟩
  replace hy:=(hr g y).1 hy
  exact ahead_low he hk (by rintro rfl;rw [hy.2] at hu;cases hu) (h3 y hy (fun _=>trivial) hne)
 .intro g e y hy
  exact m.topN g e y ((hr g y).1 hy)
end
end Go.Proofs.YtkdbjelhkfdfjaaGreatDoor
namespace Go.Proofs.YtkdbjelhkfdfjaaGreatDoor
open Go.RowKit
def nextZ (wl:List (List Nat)) (x:Nat):Nat:=(Rg.allZ wl x).tail.headD x
section
variable {w:World} {p gn gp n x:Nat} {wl:List (List Nat)}
theorem rg_next (h:RgAt w p gn gp n wl) (hx:x<n) :
  Calls Tryz.prog 399 #[.pointer (some ⟨p,0,none⟩),.int .i64 x] w fun e w'=>e=.returned (.tuple #[.int .i64 (nextZ wl x:Nat),.bool true])∧w=w':=by
 obtain ⟨N,P,a,b⟩:=h
 have hl:=b.ln
 obtain ⟨lx,rx,hlx,hxl,hax,hpx,hndx,hmx,hbx⟩:=b.home hx
 have:=Rg.next_yes w p gn gp N P a x (by omega)
 have e:nextZ wl x=Rg.fn N x:=by
  unfold nextZ
  rw [hax]
  cases rx with
  | nil=>exact hpx.symm
  | cons y t=>exact hpx.1.symm
 rw [e];exact this
theorem nextZ_in (h:RgAt w p gn gp n wl) (hx:x<n):nextZ wl x<n∧Rl wl x (nextZ wl x)∧(nextZ wl x=x->∀y,Rl wl x y->y=x):=by
 obtain ⟨N,P,a,b⟩:=h
 obtain ⟨lx,rx,hlx,hxl,hax,hpx,hndx,hmx,hbx⟩:=b.home hx
 unfold nextZ Rl
 rw [hax]
 cases rx with
 | nil=>exact ⟨hx,by simp,fun _ y hy=>by simpa using hy⟩
 | cons y t =>
  refine ⟨hbx y (by simp),by simp,fun e=>?_⟩
  have e:y=x:=e
  subst e
  simp at hndx
end
section
variable (w:World) (p pc pr gn gp gt gT cT:Nat) (Fc:List Nat) (cap hs:Nat) (E Eo:Ent) (wl:List (List Nat)) (U kid:Nat->Option Nat) (deg:Nat->Nat) (mk:Nat->Bool) (top:Nat->Option Nat)
def OffDone (h x r:Nat) (w':World):Prop :=
 ∃(wl':List (List Nat)) (kid':Nat->Option Nat) (deg':Nat->Nat) (mk':Nat->Bool),FibQ w' p pc pr gn gp gt gT cT Fc cap hs E wl' (upd U x none) kid' deg' mk' top∧FibM Eo cap (Rl wl') (upd U x none) kid' deg' top h (fun _=>True)∧Keeps (p::pr::gn::gp::gt::gT::Fc) w w'
theorem fib_off (q:FibQ w p pc pr gn gp gt gT cT Fc cap hs E wl U kid deg mk top) (h x r:Nat) (h2:h<=hs) (m:FibM Eo cap (Rl wl) U kid deg top h (fun _=>True)) (hi:isIn Eo h x) (hu:U x=some r) :
  Calls Tryz.prog 394 #[.pointer (some ⟨p,0,none⟩),.int .i64 h,.int .i64 x] w fun e w'=>e=.returned (.tuple #[])∧Hid (OffDone w p pc pr gn gp gt gT cT Fc cap hs E Eo U top h x r w'):=by
 have hxc:=m.lt x hi.some
 have hrc:=m.lt r (ahead_some (m.par x r hu).2).1
 obtain ⟨t,ht⟩:∃t,top h=some t:=by
  cases e:top h with
  | none=>exact absurd hi (m.none_of e x)
  | some t=>exact ⟨t,rfl⟩
 have htc:=(m.topS h t ht).1.lt m
 have hxt:x≠t:=by rintro rfl;have:=(m.topS h x ht).1.2;rw [this] at hu;cases hu
 obtain ⟨N,P,hrg⟩:=q.rg.rings
 obtain ⟨hz1,hz2,hz3⟩:=nextZ_in q.rg hxc
 have hkid:∀y,U y=some r->Rl wl x y:=fun y hy=>(m.rel x y hxc).2 (.inr (.inl ⟨r,hu,hy⟩))
 obtain ⟨z,hz⟩:∃z,nextZ wl x=z:=⟨_,rfl⟩
 obtain ⟨dr,hdr⟩:∃d,deg r=d:=⟨_,rfl⟩
 rw [hz] at hz1 hz2 hz3
 have hzr:U z=some r∨z=x:=by
  rcases (m.rel x z hxc).1 hz2 with e|⟨s,e1,e2⟩|⟨g,e1,_⟩
  .exact .inr e.symm
  .rw [hu] at e1;cases e1;exact .inl e2
  .rw [e1.2] at hu;cases hu
 have hRp:∀u v,u<cap->(Rl (Rg.partZ wl x).1 u v↔(u=x∧v=x)∨(u≠x∧v≠x∧Rl wl u v)):=fun u v hu=>rl_part hrg hxc hu
 have hnx:¬Rl (Rg.partZ wl x).1 t x:=fun e=>by
  rcases (hRp t x htc).1 e with ⟨e,_⟩|⟨_,e,_⟩
  .exact hxt e.symm
  .exact e rfl
 have hdr1:1<=dr∧dr<=65536:=by
  rw [<-hdr]
  refine ⟨?_,Nat.le_trans (m.degLe r) q.cp⟩
  rw [m.dg]
  unfold kidsN
  exact List.length_pos_of_mem (List.mem_filter.2 ⟨List.mem_range.2 hxc,by rw [hu];simp⟩)
 have hG:∀w3 o,FibQ w3 p pc pr gn gp gt gT cT Fc cap hs E wl U (upd kid r o) (upd deg r (dr - 1)) mk top->Keeps (p::pr::gn::gp::gt::gT::Fc) w w3->((o=none∧∀y,U y=some r->y=x)∨∃y,o=some y∧y≠x∧U y=some r) ->
   w3.cell? ⟨p,1,none⟩=some (.pointer (some ⟨pr,0,none⟩))∧Hid (Calls Tryz.prog 390 #[.pointer (some ⟨pr,0,none⟩),.int .i64 x] w3 fun e w4=>e=.returned (.bool true) ∧
    w4.cell? ⟨p,2,none⟩=some (.slice (some ⟨gt,0,none⟩) cap cap)∧(∃v,w4.cell? ⟨gt,x*4,none⟩=some v)∧(∃v,w4.cell? ⟨gt,x*4+3,none⟩=some v)∧w4.frozen? ⟨gt,x*4,none⟩=false∧w4.frozen? ⟨gt,x*4+3,none⟩=false ∧
    Hid (∀w5,Keeps [] ((w4.setCell ⟨gt,x*4,none⟩ (.int .i64 (-1))).setCell ⟨gt,x*4+3,none⟩ (.bool false)) w5->w5.cell? ⟨p,1,none⟩=some (.pointer (some ⟨pr,0,none⟩))∧w5.cell? ⟨p,3,none⟩=some (.slice (some ⟨gT,0,none⟩) (hs+1) cT)∧w5.cell? ⟨gT,h,none⟩=some (.int .i64 (t:Nat)) ∧
     Hid (Calls Tryz.prog 396 #[.pointer (some ⟨pr,0,none⟩),.int .i64 t,.int .i64 x] w5.drew fun e w6=>e=.returned (.bool true)∧Hid (OffDone w p pc pr gn gp gt gT cT Fc cap hs E Eo U top h x r w6)))):=by
  intro w3 o q3 k3 ho
  refine ⟨q3.c1,(rg_part q3.rg q.cp hxc).mono ?_⟩
  rintro e w4 ⟨rfl,hr4,k34⟩
  have q4:=q3.ring hr4 k34
  have k4:Keeps (p::pr::gn::gp::gt::gT::Fc) w w4:=k3.trans k34 (fun b hb=>.inl (by simp only [List.mem_cons,List.not_mem_nil,or_false] at hb ⊢;rcases hb with c|c<;>simp [c]))
  refine ⟨rfl,q4.c2,⟨_,q4.k0 hxc⟩,⟨_,q4.k3 hxc⟩,q4.ar.frozen _,q4.ar.frozen _,fun w5 k45=>?_⟩
  have q4a:=q4.setPlace hxc (j:=0) (by decide) _ (place_up x none)
  have q4b:=q4a.setPlace hxc (j:=3) (by decide) _ (place_mark x false)
  have q5:=q4b.same k45
  have k5:Keeps (p::pr::gn::gp::gt::gT::Fc) w w5:=((k4.setCell (.inl (by simp)) _).setCell (.inl (by simp)) _).trans k45 (by simp)
  have d5:=q5.tr.at (i:=h) (by omega)
  rw [ht,oZ_some] at d5
  have kd:Keeps [] w5 w5.drew:=⟨rfl,rfl,rfl,Nat.le_refl _,fun _ _ _=>rfl⟩
  have q5d:=q5.same kd
  refine ⟨q5.c1,q5.c3,d5,(rg_splice q5d.rg q.cp htc hxc).mono ?_⟩
  rintro e w6 ⟨rfl,hr6,k56⟩
  have q6:=q5d.ring hr6 k56
  have hR:∀u v,u<cap->(Rl (Rg.spliceZ (Rg.partZ wl x).1 t x).1 u v↔Rl (Rg.partZ wl x).1 u v∨((Rl (Rg.partZ wl x).1 t u∨Rl (Rg.partZ wl x).1 x u)∧(Rl (Rg.partZ wl x).1 t v∨Rl (Rg.partZ wl x).1 x v))):=fun u v hu=>by
   obtain ⟨N',P',hr'⟩:=q4.rg.rings
   exact rl_splice hr' htc hxc hnx hu
  have hm:=(m.off hu ht hi hRp hR ho).1
  rw [hdr] at hm
  exact ⟨rfl,_,_,_,_,q6,hm,(k5.trans kd (by simp)).trans k56 (fun b hb=>.inl (by simp only [List.mem_cons,List.not_mem_nil,or_false] at hb ⊢;rcases hb with c|c<;>simp [c]))⟩
 have hA:∀w0,Keeps [] w w0->w0.cell? ⟨gt,r*4+2,none⟩=some (.int .i64 (dr:Nat))∧w0.frozen? ⟨gt,r*4+2,none⟩=false ∧
   Hid (∀w1,w1=w0.setCell ⟨gt,r*4+2,none⟩ (.int .i64 ((dr:Int) - 1))->(∃v,w1.cell? ⟨gt,r*4+1,none⟩=some v)∧w1.frozen? ⟨gt,r*4+1,none⟩=false ∧
    Hid (∀w2,w2=w1.setCell ⟨gt,r*4+1,none⟩ (.int .i64 (-1))->w2.cell? ⟨p,1,none⟩=some (.pointer (some ⟨pr,0,none⟩))∧(∃v,w2.cell? ⟨gt,r*4+1,none⟩=some v)∧w2.frozen? ⟨gt,r*4+1,none⟩=false ∧
     Hid (Calls Tryz.prog 399 #[.pointer (some ⟨pr,0,none⟩),.int .i64 x] w2 fun e w'=>e=.returned (.tuple #[.int .i64 (z:Nat),.bool true])∧w2=w') ∧
     Hid (∀w3 o,((z=x∧w3=w2∧o=none)∨(z≠x∧w3=w2.setCell ⟨gt,r*4+1,none⟩ (.int .i64 (z:Nat))∧o=some z)) ->
      FibQ w3 p pc pr gn gp gt gT cT Fc cap hs E wl U (upd kid r o) (upd deg r (dr - 1)) mk top∧Keeps (p::pr::gn::gp::gt::gT::Fc) w w3∧((o=none∧∀y,U y=some r->y=x)∨∃y,o=some y∧y≠x∧U y=some r)))):=by
  intro w0 k0
  have q0:=q.same k0
  have d0:=q0.k2 hrc
  rw [hdr] at d0
  refine ⟨d0,q0.ar.frozen _,fun w1 hw1=>?_⟩
  have q1:=q0.setPlace hrc (j:=2) (by decide) _ (place_deg r (dr - 1))
  rw [show (((dr - 1:Nat):Int))=(dr:Int) - 1 by omega,<-hw1] at q1
  have k1:Keeps (p::pr::gn::gp::gt::gT::Fc) w w1:=by rw [hw1];exact (k0.mono (by simp)).setCell (.inl (by simp)) _
  refine ⟨⟨_,q1.k1 hrc⟩,q1.ar.frozen _,fun w2 hw2=>?_⟩
  have q2:=q1.setPlace hrc (j:=1) (by decide) _ (place_kid r none)
  rw [oZ_none,<-hw2] at q2
  have k2:Keeps (p::pr::gn::gp::gt::gT::Fc) w w2:=by rw [hw2];exact k1.setCell (.inl (by simp)) _
  have hnx2:=rg_next q2.rg hxc
  rw [hz] at hnx2
  refine ⟨q2.c1,⟨_,q2.k1 hrc⟩,q2.ar.frozen _,hnx2,fun w3 o hc=>?_⟩
  rcases hc with ⟨c1,rfl,rfl⟩|⟨c1,rfl,rfl⟩
  .exact ⟨q2,k2,.inl ⟨rfl,fun y hy=>hz3 c1 y (hkid y hy)⟩⟩
  .have q3:=q2.setPlace hrc (j:=1) (by decide) _ (place_kid r (some z))
   rw [upd_two,oZ_some] at q3
   exact ⟨q3,k2.setCell (.inl (by simp)) _,.inr ⟨z,rfl,c1,hzr.resolve_right c1⟩⟩
 have c2:=q.c2
 have d0:=q.k0 hxc
 rw [hu,oZ_some] at d0
 have hx3:(x:Int)<(cap:Int):=by omega
 have hr3:(r:Int)<(cap:Int):=by omega
 have hh3:(h:Int)<((hs+1:Nat):Int):=by omega
 have hh4:(h:Int)<(hs:Int)+1:=by omega
 obtain ⟨hd1,hd2⟩:=hdr1
 have hgp:p≠gt:=q.apart.1.2.2.2.1
 have HG:=Lib.hid hG
 have HA:=Lib.hid hA
 clear hG hA hnx hRp hzr hkid hz hdr hz1 hz2 hz3 hrg m q hi hu ht hxt
 go_enter Tryz.func394,Tryz.ntmps394
 go_wp2_with fail
 go_quiet (fail)
 obtain ⟨y0,y1,y2⟩:=HA.out (w.drewN nq) ((Keeps.refl _ _).drewN nq)
 generalize w.drewN nq=w0 at *
 clear HA c2 d0
 go_upto_region 2 with fail
 obtain ⟨w1,hw1⟩:∃w1,w1=w0.setCell ⟨gt,r*4+2,none⟩ (.int .i64 ((dr:Int) - 1)):=⟨_,rfl⟩
 rw [<-hw1]
 obtain ⟨⟨v1,z1⟩,z2,z3⟩:=y2.out w1 hw1
 clear hw1 y0 y1 y2
 go_upto_region 3 with fail
 obtain ⟨w2,hw2⟩:∃w2,w2=w1.setCell ⟨gt,r*4+1,none⟩ (.int .i64 (-1)):=⟨_,rfl⟩
 rw [<-hw2]
 obtain ⟨x1,⟨v2,x2⟩,x3,x4,x5⟩:=z3.out w2 hw2
 clear hw2 z1 z2 z3
 by_cases hzx:z=x
 .obtain ⟨q3,k3,o3⟩:=x5.out w2 none (.inl ⟨hzx,rfl,rfl⟩)
  obtain ⟨u1,u2⟩:=HG.out w2 none q3 k3 o3
  clear q3 k3 o3 x5 HG
  have hxz:=hzx.symm
  subst hxz
  go_upto_region 6 with (go_at_call 399;refine x4.out.mono ?_;rintro e w' ⟨rfl,rfl⟩)
  go_upto_region 7 with (go_at_call 390;refine u2.out.mono ?_;rintro e w4 ⟨rfl,c2,⟨v4,e0⟩,⟨v5,e3⟩,f0,f3,s1⟩)
  clear u1 u2 x1 x2 x3 x4
  go_region_held3 (fun u=>u.cell? ⟨p,2,none⟩=some (.slice (some ⟨gt,0,none⟩) cap cap)) (first|exact c2|exact cell_set_ne hgp c2|exact cell_set_ne hgp (cell_set_ne hgp c2)) (fail)
  all_goals
   clear c2 e0 e3 f0 f3
   go_upto_region 8 with fail
   obtain ⟨w5,hw5⟩:∃w5,w5=((w4.setCell ⟨gt,x*4,none⟩ (.int .i64 (-1))).setCell ⟨gt,x*4+3,none⟩ (.bool false)).drew:=⟨_,rfl⟩
   rw [<-hw5]
   obtain ⟨t1,t2,t3,t4⟩:=s1.out w5 (by subst hw5;exact ⟨rfl,rfl,rfl,Nat.le_refl _,fun _ _ _=>rfl⟩)
   clear hw5 s1
   go_region_law (first
    | (go_simp;go_at_call 396;refine t4.out.mono ?_;rintro e w6 ⟨rfl,hfin⟩))
   all_goals
    clear t1 t2 t3 t4
    go_wp2_with fail
    first|go_end0|refine bodyPost_ret (results_none rfl _ _ _) rfl ?_
    exact ⟨rfl,hfin⟩
 .obtain ⟨q3,k3,o3⟩:=x5.out _ (some z) (.inr ⟨hzx,rfl,rfl⟩)
  obtain ⟨u1,u2⟩:=HG.out _ (some z) q3 k3 o3
  clear q3 k3 o3 x5 HG
  have hzb:((z:Int)==(x:Int))=false:=by rw [beq_eq_false_iff_ne];omega
  have hzc:((z:Int) != (x:Int))=true:=by rw [bne_iff_ne];omega
  go_upto_region 5 with (go_at_call 399;refine x4.out.mono ?_;rintro e w' ⟨rfl,rfl⟩)
  go_upto_region 6 with fail
  go_upto_region 7 with (go_at_call 390;refine u2.out.mono ?_;rintro e w4 ⟨rfl,c2,⟨v4,e0⟩,⟨v5,e3⟩,f0,f3,s1⟩)
  clear u1 u2 x1 x2 x3 x4
  go_region_held3 (fun u=>u.cell? ⟨p,2,none⟩=some (.slice (some ⟨gt,0,none⟩) cap cap)) (first|exact c2|exact cell_set_ne hgp c2|exact cell_set_ne hgp (cell_set_ne hgp c2)) (fail)
  all_goals
   clear c2 e0 e3 f0 f3
   go_upto_region 8 with fail
   obtain ⟨w5,hw5⟩:∃w5,w5=((w4.setCell ⟨gt,x*4,none⟩ (.int .i64 (-1))).setCell ⟨gt,x*4+3,none⟩ (.bool false)).drew:=⟨_,rfl⟩
   rw [<-hw5]
   obtain ⟨t1,t2,t3,t4⟩:=s1.out w5 (by subst hw5;exact ⟨rfl,rfl,rfl,Nat.le_refl _,fun _ _ _=>rfl⟩)
   clear hw5 s1
   go_region_law (first
    | (go_simp;go_at_call 396;refine t4.out.mono ?_;rintro e w6 ⟨rfl,hfin⟩))
   all_goals
    clear t1 t2 t3 t4
    go_wp2_with fail
    first|go_end0|refine bodyPost_ret (results_none rfl _ _ _) rfl ?_
    exact ⟨rfl,hfin⟩
end
end Go.Proofs.YtkdbjelhkfdfjaaGreatDoor

