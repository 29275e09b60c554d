/-
  Contracts that the law rests on. Conditions: none.
-/
import Derived.Test.YtkdbjelhkfdfjaaGreatDoorLo27
import Derived.Test.YtkdbjelhkfdfjaaGreatDoorLo35
set_option linter.unusedVariables false
set_option maxRecDepth 100000
set_option maxHeartbeats 32000000
namespace Go.Proofs.YtkdbjelhkfdfjaaGreatDoor
open Go.RowKit
def swR (x p:Nat) (R:Nat->BRow):Nat->BRow:=fun g=>⟨(R g).ao,(R g).ca,(R g).l.map (swp x p)⟩
section
variable {w w' w1:World} {p pc pf gf gr rc cap hs h x y:Nat} {Fc S F0:List Nat} {E Eo:Ent} {T T':Nat->TwigR} {U U':Nat->Option Nat} {R R':Nat->BRow}
theorem swR_v (x y:Nat) (R:Nat->BRow) (g:Nat):(swR x y R g).v=(R g).v:=by simp [swR,BRow.v]
theorem binF_v {Ft:List Nat} (hv:∀g,(R' g).v=(R g).v):binF p gr Fc Ft hs R'=binF p gr Fc Ft hs R:=by
 have:(fun i=>(R' i).v.ownBlock.toList)=fun i=>(R i).v.ownBlock.toList:=funext fun i=>by rw [hv]
 unfold binF
 rw [this]
theorem BinQ.rowsIn (q:BinQ w p pc pf gf gr rc Fc cap hs E T U R) (hv:∀g,(R' g).v=(R g).v) (k:Keeps S w w') (hS:∀b,b=p∨b=gr∨b∈Fc∨b∈treeF pf gf cap T->b∉S) (hm:∀g,g<=hs->Rg.IR 0 w' (R g).v (R' g).l) :
  BinQ w' p pc pf gf gr rc Fc cap hs E T U R':=by
 have hb:bRows R' (hs+1)=bRows R (hs+1):=by simp [bRows,hv]
 refine ⟨k.blk q.blk (hS p (.inl rfl)),q.ce.keep k (fun b hb=>hS b (.inr (.inr (.inl hb)))),q.fo.keep k (fun b hb=>hS b (.inr (.inr (.inr hb)))),?_,fun g hg=>by rw [hv];exact hm g hg,q.ne,fun g b hg e=>q.own g b hg (by rw [<-hv];exact e),
  fun g g' b hg hg' hne e e'=>q.dis g g' b hg hg' hne (by rw [<-hv];exact e) (by rw [<-hv];exact e')⟩
 rw [hb];exact k.row q.rows (hS gr (.inr (.inl rfl)))
def NextLift (w1:World) (p pc pf gf gr rc:Nat) (Fc:List Nat) (cap hs:Nat) (E Eo:Ent) (T:Nat->TwigR) (R:Nat->BRow) (x:Nat) (w3:World):Prop :=
 ∃(T':Nat->TwigR) (U':Nat->Option Nat) (R':Nat->BRow),BinQ w3 p pc pf gf gr rc Fc cap hs E T' U' R'∧BinX Eo (fun z=>(T' z).kids) U' (fun g=>(R' g).l) x∧Keeps (binF p gr Fc (treeF pf gf cap T) hs R) w1 w3 ∧
  (∀b,b∈binF p gr Fc (treeF pf gf cap T') hs R'->b∈binF p gr Fc (treeF pf gf cap T) hs R)∧(T x).kids.length<(T' x).kids.length
theorem binF_sub {T T':Nat->TwigR} {R R':Nat->BRow} (h1:∀b,b∈treeF pf gf cap T'->b∈treeF pf gf cap T) (hv:∀g,(R' g).v=(R g).v):∀b,b∈binF p gr Fc (treeF pf gf cap T') hs R'->b∈binF p gr Fc (treeF pf gf cap T) hs R:=by
 intro b hb
 rw [binF_v hv] at hb
 rcases binF_mem.1 hb with c|c|c|c|c
 .exact binF_mem.2 (.inl c)
 .exact binF_mem.2 (.inr (.inl c))
 .exact binF_mem.2 (.inr (.inr (.inl c)))
 .exact binF_mem.2 (.inr (.inr (.inr (.inl (h1 b c)))))
 .exact binF_mem.2 (.inr (.inr (.inr (.inr c))))
theorem BinQ.lift (q:BinQ w1 p pc pf gf gr rc Fc cap hs E T U (swR x y R)) (z:BinX Eo (fun z=>(T z).kids) U (fun g=>(R g).l) x) (hx:x<cap) (hu:U x=some y) (ha:ahead Eo x y=true) (hk:Keeps (binF p gr Fc (treeF pf gf cap T) hs R) w w1) :
  Calls Tryz.prog 356 #[.pointer (some ⟨pf,0,none⟩),.int .i64 x] w1 fun e w3=>e=.returned (.bool true)∧Hid (NextLift w p pc pf gf gr rc Fc cap hs E Eo T R x w3):=by
 refine (fo_lift w1 pf gf cap T U q.fo z.cubes x y hx hu).mono ?_
 rintro e w3 ⟨rfl,hf,k3⟩
 have hy:y<cap:=(q.fo.num x hx).2.2 y hu
 have hT:∀b,b∈treeF pf gf cap (swT x y T)↔b∈treeF pf gf cap T:=fun b=>treeF_swap hx hy
 have hm:Moved (treeF pf gf cap T) w1 (treeF pf gf cap (swT x y T)) w3:=⟨k3,fun b hb=>.inl ((hT b).1 hb),hf.lt⟩
 obtain ⟨q3,m3⟩:=q.forest hf hm
 refine ⟨rfl,swT x y T,swU x y U,swR x y R,q3,?_,hk.trans m3.keeps (fun b hb=>.inl (by rw [binF_v (swR_v x y R)] at hb;exact hb)),binF_sub (fun b hb=>(hT b).1 hb) (swR_v x y R),z.more hu⟩
 exact z.swap hu ha
end
section
variable (w:World) (p pc pf gf gr rc cap hs:Nat) (Fc:List Nat) (E Eo:Ent) (T:Nat->TwigR) (U:Nat->Option Nat) (R:Nat->BRow) (x:Nat)
def Rises (h:Nat) (w1:World):Prop :=
 ∃y:Nat,U x=some y ∧
  ((Calls Tryz.prog 354 #[.pointer (some ⟨pf,0,none⟩),.int .i64 y] w1 (fun e w'=>e=.returned (.tuple #[.int .i64 0,.bool false])∧w1=w') ∧
   ∃gh Nh ch i:Nat,w1.cell? ⟨gr,h,none⟩=some (.slice (some ⟨gh,0,none⟩) Nh ch)∧(i:Int)<(Nh:Int)∧w1.cell? ⟨gh,i,none⟩=some (.int .i64 (y:Nat))∧w1.frozen? ⟨gh,i,none⟩=false ∧
    Hid (∀u,u.heap=w1.heap->Calls Tryz.prog 355 #[.slice (some ⟨gh,0,none⟩) Nh ch,.int .i64 y] u (fun e w'=>e=.returned (.int .i64 i)∧u=w')) ∧
    Hid (∀u,u.heap=(w1.setCell ⟨gh,i,none⟩ (.int .i64 (x:Nat))).heap->u.os=w1.os->u.tape=w1.tape->u.output=w1.output->u.cell? ⟨p,1,none⟩=some (.pointer (some ⟨pf,0,none⟩)) ∧
     Hid (Calls Tryz.prog 356 #[.pointer (some ⟨pf,0,none⟩),.int .i64 x] u fun e w3=>e=.returned (.bool true)∧Hid (NextLift w1 p pc pf gf gr rc Fc cap hs E Eo T R x w3)))) ∨
   ((∃r:Nat,Calls Tryz.prog 354 #[.pointer (some ⟨pf,0,none⟩),.int .i64 y] w1 (fun e w'=>e=.returned (.tuple #[.int .i64 r,.bool true])∧w1=w')) ∧
   Hid (Calls Tryz.prog 356 #[.pointer (some ⟨pf,0,none⟩),.int .i64 x] w1 fun e w3=>e=.returned (.bool true)∧Hid (NextLift w1 p pc pf gf gr rc Fc cap hs E Eo T R x w3))))
theorem bin_rises (q:BinQ w p pc pf gf gr rc Fc cap hs E T U R) (z:BinX Eo (fun z=>(T z).kids) U (fun g=>(R g).l) x) (h:Nat) (hh:h<=hs) (hx:x<cap) (hxi:isIn Eo h x) (hio:∀g v,isIn Eo g v->isIn E g v) (y:Nat) (hu:U x=some y) (ha:ahead Eo x y=true) :
  Rises p pc pf gf gr rc cap hs Fc E Eo T U R x h w:=by
 have hy:y<cap:=(q.fo.num x hx).2.2 y hu
 have hyi:isIn Eo h y:=by rw [<-hp_some,z.par.same x y hu,hp_some];exact hxi
 have hxg:∀g,x∉(R g).l:=fun g e=>by have:=((z.mem g x).1 e).2;rw [hu] at this;cases this
 cases hq:U y with
 | some r =>
  have hid:swR x y R=R:=funext fun g=>by
   have:(R g).l.map (swp x y)=(R g).l:=map_swp_id (hxg g) (fun e=>by have:=((z.mem g y).1 e).2;rw [hq] at this;cases this)
   show (⟨(R g).ao,(R g).ca,(R g).l.map (swp x y)⟩:BRow)=R g
   rw [this]
  refine ⟨y,hu,.inr ⟨⟨r,fo_up_some w pf gf cap T U q.fo y hy r hq⟩,?_⟩⟩
  exact BinQ.lift (hid.symm ▸ q) z hx hu ha (Keeps.refl _ _)
 | none =>
  have hyr:y∈(R h).l:=(z.mem h y).2 ⟨hyi,hq⟩
  obtain ⟨a,b,hab⟩:=List.append_of_mem hyr
  have hnd:(R h).l.Nodup:=(z.row h).nodup
  have hlen:(R h).l.length<=65536:=Nat.le_trans (nodup_len hnd fun v hv=>q.ce.ok.lt v (hio h v ((z.mem h v).1 hv).1).some) q.fo.cap
  have hnd2:(R h).l.Nodup:=hnd
  rw [hab,List.nodup_append] at hnd2
  have hya:y∉a:=fun e=>hnd2.2.2 y e y (by simp) rfl
  have hyb:y∉b:=(List.nodup_cons.1 hnd2.2.1).1
  have hxa:x∉a:=fun e=>hxg h (by rw [hab];simp [e])
  have hxb:x∉b:=fun e=>hxg h (by rw [hab];simp [e])
  have hmap:(R h).l.map (swp x y)=a++x::b:=by rw [hab];exact map_swp_at' hxa hxb hya hyb
  have hr:=q.mem h hh
  have hd:=q.at hh
  unfold BRow.v at hr
  obtain ⟨gh,eao,_,_,_⟩:=hr.at 0 (by rw [hab];simp;omega)
  have hv:(R h).v.ownBlock=some gh:=by unfold BRow.v;rw [eao];exact ownBlock_some _ _ _ _
  obtain ⟨a1,a2,a3,a4⟩:=q.own h gh hh hv
  obtain ⟨Nh,hNh⟩:∃Nh,(R h).l.length=Nh:=⟨_,rfl⟩
  rw [eao,hNh] at hd
  rw [eao,hNh,hab] at hr
  obtain ⟨s1,s2,s3,s4⟩:=ir_swap hr x
  refine ⟨y,hu,.inl ⟨fo_up_none w pf gf cap T U q.fo y hy hq,gh,Nh,(R h).ca,a.length,hd,by omega,s2,s3,fun u e=>?_,fun u e e1 e2 e3=>?_⟩⟩
  .have hr':Rg.IR 0 u (.slice (some ⟨gh,0,none⟩) Nh (R h).ca) (a++y::b):=by
    refine ⟨hr.1,?_⟩
    rw [e];exact hr.2
   have hix:=Rg.index_calls u 0 _ _ hr' (by rw [<-hab];omega) (y:Int)
   rw [place_at hya] at hix
   exact hix
  .have k1:Keeps [gh] w (w.setCell ⟨gh,a.length,none⟩ (.int .i64 (x:Nat))):=(Keeps.refl _ _).setCell (.inl (by simp)) _
   have k2:Keeps [] (w.setCell ⟨gh,a.length,none⟩ (.int .i64 (x:Nat))) u:=⟨e1,e2,e3,by rw [e];exact Nat.le_refl _,fun _ _ _=>by rw [e]⟩
   have kk:Keeps [gh] w u:=k1.trans k2 (by simp)
   have qu:BinQ u p pc pf gf gr rc Fc cap hs E T U (swR x y R):=q.rowsIn (swR_v x y R) kk (fun b' hb' e'=>by
    simp only [List.mem_singleton] at e';subst e'
    rcases hb' with c|c|c|c
    .exact a1 c
    .exact a2 c
    .exact a3 c
    .exact a4 c) (fun g hg=>by
    by_cases c:g=h
    .subst c
     show Rg.IR 0 u (R g).v ((R g).l.map (swp x y))
     rw [hmap]
     unfold BRow.v
     rw [eao,hNh]
     exact ir_keep' s4 k2 (by simp)
    .show Rg.IR 0 u (R g).v ((R g).l.map (swp x y))
     rw [map_swp_id (hxg g) (fun e'=>c (isIn_one ((z.mem g y).1 e').1 hyi))]
     exact ir_keep' (q.mem g hg) kk (fun b' e' f=>by
      simp only [List.mem_singleton] at f;subst f
      exact q.dis g h _ hg hh c e' hv))
   exact ⟨qu.c1,BinQ.lift qu z hx hu ha (kk.mono fun b' hb'=>.inl (by
    simp only [List.mem_singleton] at hb';subst hb'
    exact binF_mem.2 (.inr (.inr (.inr (.inr ⟨h,hh,hv⟩))))))⟩
end
theorem dec_holds (w:World) (Fc:List Nat) (p pc cap hs:Nat) (E:Ent) (bn bx x y:Nat) (m:CellsAt w Fc pc cap hs E) (h0:w.cell? ⟨bn,0,none⟩=some (.pointer (some ⟨p,0,none⟩))) (h1:w.cell? ⟨bx,0,none⟩=some (.int .i64 (x:Nat)))
  (h2:w.cell? ⟨p,0,none⟩=some (.pointer (some ⟨pc,0,none⟩))) (hx:(E x).isSome) (hy:(E y).isSome) :
  Calls Tryz.prog 349 #[.int .i64 y,.pointer (some ⟨bn,0,none⟩),.pointer (some ⟨bx,0,none⟩)] w fun e w'=>e=.returned (.bool (ahead E x y))∧Hid (CellsAt w' Fc pc cap hs E)∧Hid (Keeps Fc w w'):=by
 have hah:=cells_ahead w.drew Fc pc cap hs E m.drew x y hx hy
 have hkd:∀w',Keeps Fc w.drew w'->Keeps Fc w w':=fun w' k=>k.ofDrew
 have HK:=Lib.hid hkd
 clear m hkd
 go_enter Tryz.func349,Tryz.ntmps349
 go_upto_region 1 with fail
 go_region_law (first
  | (go_simp;go_at_call 339;refine hah.mono ?_;rintro e w1 ⟨rfl,hc1,hk1⟩;have HC:=Lib.hid hc1;have HK1:=Lib.hid (HK.out w1 hk1);clear hc1 hk1))
 all_goals
  go_wp2_with fail
  go_ret
  exact ⟨rfl,HC,HK1⟩
theorem del_holds (w:World) (y:Nat):Calls Tryz.prog 350 #[.int .i64 y] w fun e w'=>e=.returned (.bool true)∧w=w':=by
 go_enter Tryz.func350,Tryz.ntmps350
 go_wp2_with fail
 go_ret
 exact ⟨rfl,rfl⟩
section
variable (w:World) (p pc pf gf gr rc cap hs:Nat) (Fc:List Nat) (E Eo:Ent) (T:Nat->TwigR) (U:Nat->Option Nat) (R:Nat->BRow) (x:Nat)
def LiftAt (m:Nat) (wr:World):Prop :=
 ∃(T':Nat->TwigR) (U':Nat->Option Nat) (R':Nat->BRow),m+(T' x).kids.length=65537∧BinQ wr p pc pf gf gr rc Fc cap hs E T' U' R'∧BinX Eo (fun z=>(T' z).kids) U' (fun g=>(R' g).l) x∧Keeps (binF p gr Fc (treeF pf gf cap T) hs R) w wr ∧
  (∀b,b∈binF p gr Fc (treeF pf gf cap T') hs R'->b∈binF p gr Fc (treeF pf gf cap T) hs R)
def LiftDone (w':World):Prop :=
 ∃(T':Nat->TwigR) (U':Nat->Option Nat) (R':Nat->BRow),BinQ w' p pc pf gf gr rc Fc cap hs E T' U' R'∧BinX Eo (fun z=>(T' z).kids) U' (fun g=>(R' g).l) x∧Keeps (binF p gr Fc (treeF pf gf cap T) hs R) w w' ∧
  (∀b,b∈binF p gr Fc (treeF pf gf cap T') hs R'->b∈binF p gr Fc (treeF pf gf cap T) hs R)∧∀y,U' x=some y->ahead Eo x y=false
variable {w p pc pf gf gr rc cap hs Fc E Eo T R x}
theorem LiftAt.next {T':Nat->TwigR} {R':Nat->BRow} {wr w1 w3:World} (hx:x<cap) (k:Keeps (binF p gr Fc (treeF pf gf cap T) hs R) w wr) (hs':∀b,b∈binF p gr Fc (treeF pf gf cap T') hs R'->b∈binF p gr Fc (treeF pf gf cap T) hs R)
  (k1:Keeps Fc wr w1) (n:NextLift w1 p pc pf gf gr rc Fc cap hs E Eo T' R' x w3):∃m',m'+(T' x).kids.length<65537∧LiftAt w p pc pf gf gr rc cap hs Fc E Eo T R x m' w3:=by
 obtain ⟨T2,U2,R2,q2,z2,k2,s2,hl⟩:=n
 have hle:=(q2.fo.num x hx).1
 refine ⟨65537 - (T2 x).kids.length,by omega,T2,U2,R2,by omega,q2,z2,(k.trans k1 (fun b hb=>.inl (binF_mem.2 (.inr (.inr (.inl hb)))))).trans k2 (fun b hb=>.inl (hs' b hb)),fun b hb=>hs' b (s2 b hb)⟩
end
section
variable (w:World) (p pc pf gf gr rc cap hs:Nat) (Fc:List Nat) (E Eo:Ent) (T:Nat->TwigR) (U:Nat->Option Nat) (R:Nat->BRow)
theorem bin_lift_del (q:BinQ w p pc pf gf gr rc Fc cap hs E T U R) (h x:Nat) (z:BinX Eo (fun z=>(T z).kids) U (fun g=>(R g).l) x) (hh:h<=hs) (hx:x<cap) (hxi:isIn Eo h x) (hio:∀g v,isIn Eo g v->isIn E g v)
  (hall:∀y,y≠x->isIn Eo h y->ahead Eo x y=true) :
  Calls Tryz.prog 348 #[.pointer (some ⟨p,0,none⟩),.int .i64 h,.int .i64 x,.func (.func 350) #[] #[]] w fun e w'=>e=.returned (.tuple #[])∧Hid (LiftDone w p pc pf gf gr rc cap hs Fc E Eo T R x w'):=by
 have hlen:=(q.fo.num x hx).1
 have hstart:LiftAt w p pc pf gf gr rc cap hs Fc E Eo T R x (65537 - (T x).kids.length) w:=⟨T,U,R,by omega,q,z,Keeps.refl _ _,fun b hb=>hb⟩
 have hhol:=del_holds
 have hh3:(h:Int)<((hs+1:Nat):Int):=by omega
 have hh4:(h:Int)<(hs:Int)+1:=by omega
 have HS:=Lib.hid hstart
 have HX:=Lib.hid hxi
 have HO:=Lib.hid hio
 have HA:=Lib.hid hall
 have HL:=Lib.hid hlen
 clear hstart hxi hio hall q z hlen
 go_enter Tryz.func348,Tryz.ntmps348
 go_wp2_with fail
 go_loopg [] (65537 - (T x).kids.length) (fun m wr=>LiftAt w p pc pf gf gr rc cap hs Fc E Eo T R x m wr)
 case atStart=>exact HS.out
 case round =>
  clear HS HL
  obtain ⟨go,rfl⟩:∃u,u=gk:=⟨gk,rfl⟩
  obtain ⟨T',U',R',hm,q,z,k,hsub⟩:=hrel
  have c1:=q.c1
  have c2:=q.c2
  cases hu:U' x with
  | none =>
   have hup:=fo_up_none wr pf gf cap T' U' q.fo x hx hu
   have hfin:LiftDone w p pc pf gf gr rc cap hs Fc E Eo T R x wr:=⟨T',U',R',q,z,k,hsub,fun y e=>by rw [hu] at e;cases e⟩
   have HF:=Lib.hid hfin
   clear hfin q z k hsub hu hm
   go_wp2_with (go_at_call 354;refine hup.mono ?_;rintro e w' ⟨rfl,rfl⟩)
   first|go_end0|refine bodyPost_ret (results_none rfl _ _ _) rfl ?_
   exact ⟨rfl,HF.out⟩
  | some y =>
   have hup:=fo_up_some wr pf gf cap T' U' q.fo x hx y hu
   have hne:y≠x:=fun e=>by
    subst e
    have:=z.cubes.lt ((z.cubes.mem y y).2 hu);omega
   have hyi:isIn Eo h y:=by rw [<-hp_some,z.par.same x y hu,hp_some];exact HX.out
   have hri:=bin_rises wr p pc pf gf gr rc cap hs Fc E Eo T' U' R' x q z h hh hx HX.out HO.out y hu (HA.out y hne hyi)
   have hnx:∀w3,NextLift wr p pc pf gf gr rc Fc cap hs E Eo T' R' x w3->∃m',m'+(T' x).kids.length<65537∧LiftAt w p pc pf gf gr rc cap hs Fc E Eo T R x m' w3:=fun w3 n=>LiftAt.next hx k hsub (Keeps.refl _ _) n
   obtain ⟨y',hy',hri⟩:=hri
   rw [hu] at hy';cases hy'
   have HN:=Lib.hid hnx
   have HM:=Lib.hid hm
   clear hnx hm q z k hsub hu hyi hne
   rcases hri with ⟨hu2,gh,Nh,ch,i,d1,d2,d3,d4,d5,d6⟩|⟨⟨r,hu2⟩,d6⟩
   .go_upto_region 1 with (go_at_call 354;refine hup.mono ?_;rintro e w' ⟨rfl,rfl⟩)
    go_upto_region 2 with (go_at_call 350;refine (hhol wr y).mono ?_;rintro e w' ⟨rfl,rfl⟩)
    clear hup
    go_upto_region 4 with (go_at_call 354;refine hu2.mono ?_;rintro e w' ⟨rfl,rfl⟩)
    clear hu2
    go_region_law (first|(go_simp;go_at_call 355;refine (d5.out wr.drew rfl).mono ?_;rintro e w' ⟨rfl,rfl⟩))
    all_goals
     obtain ⟨w5,hw5⟩:∃w5,w5=(wr.setCell ⟨gh,i,none⟩ (.int .i64 (x:Nat))).drew:=⟨_,rfl⟩
     rw [<-hw5]
     obtain ⟨e1,e2⟩:=d6.out w5 (by subst hw5;rfl) (by subst hw5;rfl) (by subst hw5;rfl) (by subst hw5;rfl)
     clear hw5 d1 d2 d3 d4 d5 d6
     go_wp2_with (go_at_call 356;refine e2.out.mono ?_;rintro e w3 ⟨rfl,hn⟩)
     obtain ⟨m',h1,h2⟩:=HN.out _ hn.out
     go_roundg m'
     case measure=>have:=HM.out;omega
     case rel=>exact h2
   .go_upto_region 1 with (go_at_call 354;refine hup.mono ?_;rintro e w' ⟨rfl,rfl⟩)
    go_upto_region 2 with (go_at_call 350;refine (hhol wr y).mono ?_;rintro e w' ⟨rfl,rfl⟩)
    clear hup
    go_upto_region 5 with (go_at_call 354;refine hu2.mono ?_;rintro e w' ⟨rfl,rfl⟩)
    clear hu2
    go_wp2_with (go_at_call 356;refine d6.out.mono ?_;rintro e w3 ⟨rfl,hn⟩)
    obtain ⟨m',h1,h2⟩:=HN.out _ hn.out
    go_roundg m'
    case measure=>have:=HM.out;omega
    case rel=>exact h2
theorem bin_lift_dec (q:BinQ w p pc pf gf gr rc Fc cap hs E T U R) (h x:Nat) (z:BinX E (fun z=>(T z).kids) U (fun g=>(R g).l) x) (hh:h<=hs) (hx:x<cap) (hxi:isIn E h x) (bn bx:Nat) {tn tx:TypeId} {cn cx:Nat×Nat}
  (hbn:w.heap[bn]?=some (.cells #[.pointer (some ⟨p,0,none⟩)] tn cn)) (hbx:w.heap[bx]?=some (.cells #[.int .i64 (x:Nat)] tx cx)) (hn:bn∉binF p gr Fc (treeF pf gf cap T) hs R) (hb:bx∉binF p gr Fc (treeF pf gf cap T) hs R) :
  Calls Tryz.prog 348 #[.pointer (some ⟨p,0,none⟩),.int .i64 h,.int .i64 x,.func (.func 349) #[] #[.pointer (some ⟨bn,0,none⟩),.pointer (some ⟨bx,0,none⟩)]] w fun e w'=>e=.returned (.tuple #[])∧Hid (LiftDone w p pc pf gf gr rc cap hs Fc E E T R x w'):=by
 have hlen:=(q.fo.num x hx).1
 have hstart:LiftAt w p pc pf gf gr rc cap hs Fc E E T R x (65537 - (T x).kids.length) w:=⟨T,U,R,by omega,q,z,Keeps.refl _ _,fun b hb=>hb⟩
 have hbox:∀u,Keeps (binF p gr Fc (treeF pf gf cap T) hs R) w u->u.cell? ⟨bn,0,none⟩=some (.pointer (some ⟨p,0,none⟩))∧u.cell? ⟨bx,0,none⟩=some (.int .i64 (x:Nat)):=fun u k =>
  ⟨by rw [cell_of_blk (k.blk hbn hn)];rfl,by rw [cell_of_blk (k.blk hbx hb)];rfl⟩
 have hh3:(h:Int)<((hs+1:Nat):Int):=by omega
 have hh4:(h:Int)<(hs:Int)+1:=by omega
 have HS:=Lib.hid hstart
 have HX:=Lib.hid hxi
 have HL:=Lib.hid hlen
 have HB:=Lib.hid hbox
 clear hstart hxi q z hlen hbox hbn hbx hn hb
 go_enter Tryz.func348,Tryz.ntmps348
 go_wp2_with fail
 go_loopg [] (65537 - (T x).kids.length) (fun m wr=>LiftAt w p pc pf gf gr rc cap hs Fc E E T R x m wr)
 case atStart=>exact HS.out
 case round =>
  clear HS HL
  obtain ⟨go,rfl⟩:∃u,u=gk:=⟨gk,rfl⟩
  obtain ⟨T',U',R',hm,q,z,k,hsub⟩:=hrel
  have c1:=q.c1
  cases hu:U' x with
  | none =>
   have hup:=fo_up_none wr pf gf cap T' U' q.fo x hx hu
   have hfin:LiftDone w p pc pf gf gr rc cap hs Fc E E T R x wr:=⟨T',U',R',q,z,k,hsub,fun y e=>by rw [hu] at e;cases e⟩
   have HF:=Lib.hid hfin
   clear hfin q z k hsub hu hm
   go_wp2_with (go_at_call 354;refine hup.mono ?_;rintro e w' ⟨rfl,rfl⟩)
   first|go_end0|refine bodyPost_ret (results_none rfl _ _ _) rfl ?_
   exact ⟨rfl,HF.out⟩
  | some y =>
   have hup:=fo_up_some wr pf gf cap T' U' q.fo x hx y hu
   have hyi:isIn E h y:=by rw [<-hp_some,z.par.same x y hu,hp_some];exact HX.out
   obtain ⟨b1,b2⟩:=HB.out wr k
   have hhol:=dec_holds wr Fc p pc cap hs E bn bx x y q.ce b1 b2 q.c0 HX.out.some hyi.some
   clear b1 b2
   rcases Bool.eq_false_or_eq_true (ahead E x y) with ha|ha
   .rw [ha] at hhol
    have hri:∀w1,CellsAt w1 Fc pc cap hs E->Keeps Fc wr w1->w1.cell? ⟨p,1,none⟩=some (.pointer (some ⟨pf,0,none⟩))∧w1.cell? ⟨p,2,none⟩=some (.slice (some ⟨gr,0,none⟩) (hs+1) rc)∧Rises p pc pf gf gr rc cap hs Fc E E T' U' R' x h w1:=fun w1 hc hk =>
     ⟨(q.cells hc hk).c1,(q.cells hc hk).c2,bin_rises w1 p pc pf gf gr rc cap hs Fc E E T' U' R' x (q.cells hc hk) z h hh hx HX.out (fun _ _ e=>e) y hu ha⟩
    have hnx:∀w1 w3,Keeps Fc wr w1->NextLift w1 p pc pf gf gr rc Fc cap hs E E T' R' x w3->∃m',m'+(T' x).kids.length<65537∧LiftAt w p pc pf gf gr rc cap hs Fc E E T R x m' w3:=fun w1 w3 k1 n=>LiftAt.next hx k hsub k1 n
    have HN:=Lib.hid hnx
    have HM:=Lib.hid hm
    have HR:=Lib.hid hri
    have HU:=Lib.hid hu
    clear hri hnx hm q z k hsub hu hyi ha
    go_upto_region 1 with (go_at_call 354;refine hup.mono ?_;rintro e w' ⟨rfl,rfl⟩)
    go_upto_region 2 with (go_at_call 349;refine hhol.mono ?_;rintro e w1 ⟨rfl,hc1,hk1⟩)
    clear hup hhol c1
    obtain ⟨c1,c2,y',hy',hri⟩:=HR.out w1 hc1.out hk1.out
    rw [HU.out] at hy';cases hy'
    have HN1:=Lib.hid (fun w3 n=>HN.out w1 w3 hk1.out n)
    clear HR HN hc1 hk1 HU
    rcases hri with ⟨hu2,gh,Nh,ch,i,d1,d2,d3,d4,d5,d6⟩|⟨⟨r,hu2⟩,d6⟩
    .go_upto_region 4 with (go_at_call 354;refine hu2.mono ?_;rintro e w' ⟨rfl,rfl⟩)
     clear hu2
     go_region_law (first|(go_simp;go_at_call 355;refine (d5.out w1.drew rfl).mono ?_;rintro e w' ⟨rfl,rfl⟩))
     all_goals
      obtain ⟨w5,hw5⟩:∃w5,w5=(w1.setCell ⟨gh,i,none⟩ (.int .i64 (x:Nat))).drew:=⟨_,rfl⟩
      rw [<-hw5]
      obtain ⟨e1,e2⟩:=d6.out w5 (by subst hw5;rfl) (by subst hw5;rfl) (by subst hw5;rfl) (by subst hw5;rfl)
      clear hw5 d1 d2 d3 d4 d5 d6
      go_wp2_with (go_at_call 356;refine e2.out.mono ?_;rintro e w3 ⟨rfl,hn⟩)
      obtain ⟨m',h1,h2⟩:=HN1.out _ hn.out
      go_roundg m'
      case measure=>have:=HM.out;omega
      case rel=>exact h2
    .go_upto_region 5 with (go_at_call 354;refine hu2.mono ?_;rintro e w' ⟨rfl,rfl⟩)
     clear hu2
     go_wp2_with (go_at_call 356;refine d6.out.mono ?_;rintro e w3 ⟨rfl,hn⟩)
     obtain ⟨m',h1,h2⟩:=HN1.out _ hn.out
     go_roundg m'
     case measure=>have:=HM.out;omega
     case rel=>exact h2
   .rw [ha] at hhol
    have hfin:∀w1,CellsAt w1 Fc pc cap hs E->Keeps Fc wr w1->LiftDone w p pc pf gf gr rc cap hs Fc E E T R x w1:=fun w1 hc hk =>
     ⟨T',U',R',q.cells hc hk,z,k.trans hk (fun b hb=>.inl (hsub b (binF_mem.2 (.inr (.inr (.inl hb)))))),hsub,fun y' e=>by rw [hu] at e;cases e;exact ha⟩
    have HF:=Lib.hid hfin
    clear hfin q z k hsub hu hm hyi ha
    go_wp2_with (first
     | (go_at_call 354;refine hup.mono ?_;rintro e w' ⟨rfl,rfl⟩)
     | (go_at_call 349;refine hhol.mono ?_;rintro e w1 ⟨rfl,hc1,hk1⟩))
    first|go_end0|refine bodyPost_ret (results_none rfl _ _ _) rfl ?_
    exact ⟨rfl,HF.out _ hc1.out hk1.out⟩
end
end Go.Proofs.YtkdbjelhkfdfjaaGreatDoor

