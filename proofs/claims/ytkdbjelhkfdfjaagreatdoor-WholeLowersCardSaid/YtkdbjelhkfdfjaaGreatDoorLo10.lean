/-
  Contracts that the law rests on. Conditions: none.
-/
import Derived.Test.YtkdbjelhkfdfjaaGreatDoorLo09
set_option linter.unusedVariables false
set_option maxRecDepth 100000
set_option maxHeartbeats 32000000
namespace Go.Proofs.YtkdbjelhkfdfjaaGreatDoor
open Go.RowKit
theorem dary_ahead (fuel p pc:Nat) (w:World) (hc:w.cell? ⟨p,0,none⟩=some (.pointer (some ⟨pc,0,none⟩))) :
  (method (fuel+1) 148 (.pointer (some ⟨p,0,none⟩)) "Ahead").run Tryz.prog w=.ok (339,.pointer (some ⟨pc,0,none⟩)) w :=
 run_method_embedded w fuel 148 208 258 200 "Ahead" p _ _ (by kernel_rfl) (by kernel_rfl) Tryz.underlying200 (by kernel_rfl) hc
theorem nil_ahead (fuel:Nat) (a:Addr) (w:World):(nilAhead (fuel+1) 148 (.pointer (some a)) "Ahead").run Tryz.prog w=.ok (some false) w:=by kernel_rfl
section
variable (w:World) (pn pc:Nat) (Fc:List Nat) (cap hs:Nat) (E:Ent) (p d:Nat) (ao:Option Addr) (ca mb n:Nat)
def UpDone (v:Nat->Nat) (i:Nat) (e:Ending) (w':World):Prop :=
 ∃(i':Nat) (v':Nat->Nat),e=.returned (.int .i64 i')∧i'<n∧RowFull w' p d ao ca mb n v'∧OrdAt w' pn pc Fc cap hs E∧Inj v' n∧Same v v' n∧Keeps (rfp p mb ao++Fc) w w' ∧
  ((i'=i∧v'=v∧(i=0∨ahead E (v i) (v (par d i))=false))∨(i'≠i∧Heap' d (ahead E) v' n))
theorem row_up (v:Nat->Nat) (i:Nat) (o:Option Int) (hr:RowHole w p d ao ca mb n v i o) (ho:OrdAt w pn pc Fc cap hs E) (hv:Inj v n) (hE:∀j,j<n->(E (v j)).isSome) (hi:i<n) (hn:n<=65536) (hd1:2<=d) (hd2:d<=16)
  (hat:HeapAt d (ahead E) v n i) (hap:∀b∈rfp p mb ao,b∉pn::Fc) :
  Calls Tryz.prog 324 #[.pointer (some ⟨p,0,none⟩),.iface 148 (.pointer (some ⟨pn,0,none⟩)),.int .i64 i,.int .i64 (v i:Nat)] w (UpDone w pn pc Fc cap hs E p d ao ca mb n v i):=by
 have hbc:=ho.ce.ok.bc
 have hx:∀v':Nat->Nat,Same v v' n->∀j,j<n->v' j<cap:=fun v' s j hj=>by
  obtain ⟨k,hk,e⟩:=(s (v' j)).1 ⟨j,hj,rfl⟩
  rw [<-e];exact ho.ce.ok.lt _ (hE k hk)
 have hEs:∀v':Nat->Nat,Same v v' n->∀j,j<n->(E (v' j)).isSome:=fun v' s j hj=>by
  obtain ⟨k,hk,e⟩:=(s (v' j)).1 ⟨j,hj,rfl⟩
  rw [<-e];exact hE k hk
 obtain ⟨x,hvx⟩:∃x,v i=x:=⟨_,rfl⟩
 rw [hvx]
 have HX:=Lib.hid hx
 have HES:=Lib.hid hEs
 have HAP:=Lib.hid hap
 have HVX:=Lib.hid hvx
 clear hx hEs hvx
 go_enter Tryz.func324,Tryz.ntmps324
 go_wp2_with fail
 go_loopg [2] (i+1) (fun k s wr=>∃(i':Nat) (v':Nat->Nat),k=i'+1∧s=.int .i64 i'∧i'<n∧v' i'=x∧RowHole wr p d ao ca mb n v' i' o∧OrdAt wr pn pc Fc cap hs E∧Inj v' n∧Same v v' n∧Keeps (rfp p mb ao++Fc) w wr ∧
  ((i'=i∧v'=v∧HeapAt d (ahead E) v n i)∨(i'<i∧HeapUp d (ahead E) v' n i')))
 case atStart=>exact ⟨i,v,rfl,rfl,hi,HVX.out,hr,ho,hv,Same.refl _ _,Keeps.refl _ _,.inl ⟨rfl,rfl,hat⟩⟩
 case round =>
  clear hr ho hv hat hi hE
  obtain ⟨i',v',hk,rfl,hi',hvx',hr,ho,hv,hsame,kp,hst⟩:=hrel
  have HK:=Lib.hid hk
  clear hk
  have hD:=hr.c0
  have hxc:=HX.out v' hsame
  have hEv:=HES.out v' hsame
  have hord:Ord (ahead E) v' n:=ordOf hv hEv
  have hxle:v' i'<=65536:=by have:=hxc i' hi';omega
  by_cases h0:i'=0
  .subst h0
   have hcl:=fun u (hu:RowHole u p d ao ca mb n v' 0 o)=>rh_close hu hv hi' hn hxle
   rw [hvx'] at hcl
   go_upto_region 2 with (go_at_call 331;refine (parent_no _ d hd1 hd2).mono ?_;rintro e w' ⟨rfl,rfl⟩)
   go_quiet (fail)
   go_wp2_with (go_at_call 332;refine (hcl _ (by exact hr.keep (S:=[]) ⟨rfl,rfl,rfl,Nat.le_refl _,fun _ _ _=>rfl⟩ (by simp))).mono ?_;rintro e w1 ⟨rfl,hf1,hk1⟩)
   go_ret
   have kp2:Keeps (rfp p mb ao++Fc) w w1:=kp.trans hk1.ofDrewN (fun b hb=>.inl (by simp [hb]))
   have ho2:OrdAt w1 pn pc Fc cap hs E:=ho.keep hk1.ofDrewN (fun b hb e=>HAP.out b e hb)
   refine ⟨0,v',rfl,hi',hf1,ho2,hv,hsame,kp2,?_⟩
   rcases hst with ⟨rfl,rfl,_⟩|⟨hlt,hup⟩
   .exact .inl ⟨rfl,rfl,.inl rfl⟩
   .exact .inr ⟨by omega,hup.stop hd1 hord (.inl rfl)⟩
  .obtain ⟨q,hq⟩:∃q,par d i'=q:=⟨_,rfl⟩
   have hqlt:q<i':=by rw [<-hq];exact par_lt hd1 (by omega)
   have hpar:=parent_yes wr d i' hd1 hd2 (by omega) (by omega)
   rw [hq] at hpar
   obtain ⟨g,hao,hgm,c1,c2⟩:=hr.at (q:=q) (by omega) (by omega)
   subst hao
   have hgn:g∉pn::Fc:=HAP.out g hgm
   have hpn:p∉pn::Fc:=HAP.out p (by simp [rfp])
   have hpl:p<wr.heap.size:=hr.lt p (by simp [rfp])
   have hgl:g<wr.heap.size:=hr.lt g hgm
   have hal:=fun u (hu:CellsAt u Fc pc cap hs E)=>cells_ahead u Fc pc cap hs E hu x (v' q) (by rw [<-hvx'];exact hEv i' hi') (hEv q (by omega))
   have hS:∀u,Keeps Fc wr u->u.cell? ⟨p,1,none⟩=some (.slice (some ⟨g,0,none⟩) n ca)∧u.cell? ⟨g,q,none⟩=some (.int .i64 (v' q:Nat))∧u.cell? ⟨pn,0,none⟩=some (.pointer (some ⟨pc,0,none⟩)):=fun u k =>
    ⟨(World.cell?_of_block (a:=⟨p,1,none⟩) (k.block p hpl (fun e=>hpn (by simp [e])))).trans c1,(World.cell?_of_block (a:=⟨g,q,none⟩) (k.block g hgl (fun e=>hgn (by simp [e])))).trans c2,
     (World.cell?_of_block (a:=⟨pn,0,none⟩) (k.block pn ho.lt ho.nf)).trans ho.c0⟩
   have kdr:Keeps Fc wr wr.drew:=⟨rfl,rfl,rfl,Nat.le_refl _,fun _ _ _=>rfl⟩
   have hqn3:(q:Int)<(n:Int):=by omega
   have hna:=fun (u:World)=>nil_ahead 587 ⟨pn,0,none⟩ u
   have hme:=fun (u:World) (hu:u.cell? ⟨pn,0,none⟩=some (.pointer (some ⟨pc,0,none⟩)))=>dary_ahead 587 pn pc u hu
   cases hb:ahead E x (v' q) with
   | false =>
    rw [hb] at hal
    go_upto_region 2 with (go_at_call 331;refine hpar.mono ?_;rintro e w' ⟨rfl,rfl⟩)
    go_region_held3 (fun u=>u.cell? ⟨p,1,none⟩=some (.slice (some ⟨g,0,none⟩) n ca)∧u.cell? ⟨g,q,none⟩=some (.int .i64 (v' q:Nat))∧u.cell? ⟨pn,0,none⟩=some (.pointer (some ⟨pc,0,none⟩)))
     (first|exact hS _ kdr|exact hS _ (kdr.trans (by assumption) (fun _ h=>.inl h)))
     (first
      | (go_at_call 339;refine (hal _ (by exact ho.ce.drew)).mono ?_;rintro e w1 ⟨rfl,hc1,hk1⟩))
    all_goals
     have k1:Keeps Fc wr w1:=hk1.ofDrew
     have ho1:=ho.cells hc1 k1
     have hr1:=hr.keep k1 (fun b hb e=>HAP.out b hb (by simp [e]))
     have hcl:=rh_close hr1 hv hi' hn hxle
     rw [hvx'] at hcl
     go_wp2_with (go_at_call 332;refine hcl.mono ?_;rintro e w2 ⟨rfl,hf2,hk2⟩)
     go_ret
     have kp2:Keeps (rfp p mb (some ⟨g,0,none⟩)++Fc) w w2:=(kp.trans k1 (fun b hb=>.inl (by simp [hb]))).trans hk2 (fun b hb=>.inl (by simp [hb]))
     refine ⟨i',v',rfl,hi',hf2,ho1.keep hk2 (fun b hb e=>HAP.out b e hb),hv,hsame,kp2,?_⟩
     rcases hst with ⟨rfl,rfl,_⟩|⟨hlt,hup⟩
     .exact .inl ⟨rfl,rfl,.inr (by rw [hvx',hq];exact hb)⟩
     .exact .inr ⟨by omega,hup.stop hd1 hord (.inr (by rw [hvx',hq];exact hb))⟩
   | true =>
    rw [hb] at hal
    go_upto_region 2 with (go_at_call 331;refine hpar.mono ?_;rintro e w' ⟨rfl,rfl⟩)
    go_region_held3 (fun u=>u.cell? ⟨p,1,none⟩=some (.slice (some ⟨g,0,none⟩) n ca)∧u.cell? ⟨g,q,none⟩=some (.int .i64 (v' q:Nat))∧u.cell? ⟨pn,0,none⟩=some (.pointer (some ⟨pc,0,none⟩)))
     (first|exact hS _ kdr|exact hS _ (kdr.trans (by assumption) (fun _ h=>.inl h)))
     (first
      | (go_at_call 339;refine (hal _ (by exact ho.ce.drew)).mono ?_;rintro e w1 ⟨rfl,hc1,hk1⟩))
    all_goals
     have k1:Keeps Fc wr w1:=hk1.ofDrew
     have ho1:=ho.cells hc1 k1
     have hr1:=hr.keep k1 (fun b hb e=>HAP.out b hb (by simp [e]))
     have hmv:=rh_move hr1 hv hi' (q:=q) (by omega) (by omega) hn (by have:=hxc q (by omega);omega)
     obtain ⟨d1,d2,d3⟩:=hS w1 k1
     have hup:HeapUp d (ahead E) v' n i':=by
      rcases hst with ⟨rfl,rfl,hat⟩|⟨hlt,hup⟩
      .exact hat.up hd1 hord hi' (by omega) (by rw [hvx',hq];exact hb)
      .exact hup
     have hst2:=hup.step hd1 hord (by omega) hi' (by rw [hvx',hq];exact hb)
     rw [hq] at hst2
     have hile:i'<=i:=by rcases hst with ⟨rfl,_⟩|⟨hlt,_⟩<;>omega
     clear hal hS c1 c2 hk1 hc1 hst hup
     have HB:=Lib.hid hb
     clear hb
     go_wp2_with (go_at_call 332;refine hmv.mono ?_;rintro e w2 ⟨rfl,hf2,hk2⟩)
     have kp2:Keeps (rfp p mb (some ⟨g,0,none⟩)++Fc) w w2:=(kp.trans k1 (fun b hb=>.inl (by simp [hb]))).trans hk2 (fun b hb=>.inl (by simp [hb]))
     go_roundg (q+1)
     case measure=>have:=HK.out;omega
     case rel=>exact ⟨q,sw v' i' q,rfl,rfl,by omega,by rw [sw_right];exact hvx',hf2,ho1.keep hk2 (fun b hb e=>HAP.out b e hb),hv.sw hi' (by omega),hsame.trans (Same.sw hi' (by omega)),kp2,.inr ⟨by omega,hst2⟩⟩
end
end Go.Proofs.YtkdbjelhkfdfjaaGreatDoor
namespace Go.Proofs.YtkdbjelhkfdfjaaGreatDoor
open Go.RowKit Go.Maps
theorem Tryz.rowHandle:(45:TypeId)<Tryz.prog.types.size:=of_decide_eq_true (by kernel_rfl)
theorem Tryz.laidOut:laidOutB Tryz.prog=true:=by kernel_rfl
theorem Tryz.deepHandle:Tryz.prog.keyTypeAt 3 45=true:=by kernel_rfl
theorem Tryz.lawHandle:WideMaps.KeyLaw Tryz.prog 45:=deep_law_laid Tryz.laidOut (m:=3) (by omega) Tryz.rowHandle Tryz.deepHandle (by rw [Tryz.underlying45])
theorem Tryz.keyedHandle:Keyed Tryz.prog 45:=Keyed.of_law Tryz.lawHandle
def hV (x g:Nat):Value:=.agg #[.int .i64 (x:Int),.int .u32 (g:Int)]
def hK (x g:Nat):Lit:=.string (keyBytes [.int .i64 (x:Int),.int .u32 (g:Int)])
def okH (x g:Nat):Prop:=x<=65536∧g<=4294967295
theorem i64_wf (n:Nat) (h:n<=65536):(Lit.int .i64 (n:Int)).wf=true:=by
 have e1:IntKind.i64.min=-9223372036854775808:=rfl
 have e2:IntKind.i64.max=9223372036854775807:=rfl
 simp only [Lit.wf,e1,e2,Bool.and_eq_true,decide_eq_true_eq]
 omega
theorem u32_wf (n:Nat) (h:n<=4294967295):(Lit.int .u32 (n:Int)).wf=true:=by
 have e1:IntKind.u32.min=0:=rfl
 have e2:IntKind.u32.max=4294967295:=rfl
 simp only [Lit.wf,e1,e2,Bool.and_eq_true,decide_eq_true_eq]
 omega
theorem hkey (x g:Nat) (h:okH x g):keyOf Tryz.prog 45 (hV x g)=some (hK x g):=by
 have h1:=i64_wf x h.1
 have h2:=u32_wf g h.2
 obtain ⟨d,hd⟩:∃d,Tryz.prog.types.size=d+1:=⟨_,(by kernel_rfl:Tryz.prog.types.size=487+1)⟩
 have hk:Tryz.prog.keyType 45=true:=by kernel_rfl
 have hc:Tryz.prog.cellsOf 45=2:=by kernel_rfl
 have hc1:Tryz.prog.cellsOf 3=1:=by kernel_rfl
 have hc2:Tryz.prog.cellsOf 41=1:=by kernel_rfl
 unfold keyOf hV hK
 rw [Tryz.underlying45,hd]
 simp [hk,Value.formed,Tryz.underlying45,hc,Value.cells,Program.keyLits,hc1,hc2,Tryz.underlying3,Tryz.underlying41,h1,h2]
theorem hK_lit (x g:Nat):WideAt.IsKeyLit (hK x g):=by simp [WideAt.IsKeyLit,hK]
theorem hK_inj {x g x' g':Nat} (h:okH x g) (h':okH x' g') (e:hK x g=hK x' g'):x=x'∧g=g':=by
 have h1:=hkey x g h
 have h2:=hkey x' g' h'
 rw [<-e] at h2
 have h3:=Tryz.keyedHandle.inj h1 h2
 simp only [hV,Value.agg.injEq] at h3
 injection h3 with h3
 simp only [List.cons.injEq,Value.int.injEq] at h3
 omega
structure Elm (α:Type) (e:TypeId) where
 val:α->Value
 dat:α->DataW Unit
 R:Value->Option (DataW Unit×List MemPlace)
 ok:α->Prop
 zero:α
 hR:∀a,ok a->R (val a)=some (dat a,[])
 inv:∀v a ps,R v=some (dat a,ps)->v=val a
 hz:∀w,(zeroValue e).run Tryz.prog w=.ok (val zero) w
 zok:ok zero
def HMap {α:Type} {e:TypeId} (E:Elm α e) (w:World) (b c:Nat) (f:Nat->Nat->Option α):Prop :=
 ∃D:DataW Unit,w.ownsMap Tryz.prog 45 E.R b c D∧Maps.size D=c ∧
  ∀x g:Nat,okH x g->Maps.has D (hK x g)=(f x g).isSome∧∀z,D.atKey (hK x g) z=match f x g with|some a=>E.dat a|none=>z
section
variable {α:Type} {e t:TypeId} {E:Elm α e} {w w':World} {b c:Nat} {f:Nat->Nat->Option α}
theorem HMap.made (E:Elm α e) (w:World):HMap E (w.alloc (.map #[] 0)) w.heap.size 0 (fun _ _=>none) :=
 ⟨.map [],World.ownsMap_made w Tryz.prog _ _,rfl,fun x g _=>⟨rfl,fun _=>rfl⟩⟩
theorem HMap.lt (h:HMap E w b c f):b<w.heap.size:=by obtain ⟨D,h1,_⟩:=h;exact h1.lt
theorem HMap.blk (h:HMap E w b c f) (e:w'.heap[b]?=w.heap[b]?):HMap E w' b c f:=by
 obtain ⟨D,⟨es,clock,hb,r⟩,h2⟩:=h
 exact ⟨D,⟨es,clock,e.trans hb,r⟩,h2⟩
theorem HMap.keep {S:List Nat} (h:HMap E w b c f) (hk:Keeps S w w') (hb:b∉S):HMap E w' b c f:=h.blk (hk.block b h.lt hb)
theorem HMap.put (hok:∀x g,f x g≠none->okH x g) {x g:Nat} (hx:okH x g) {y:α} (D:DataW Unit)
  (hD:Maps.size D=c∧∀x g:Nat,okH x g->Maps.has D (hK x g)=(f x g).isSome∧∀z,D.atKey (hK x g) z=match f x g with|some a=>E.dat a|none=>z)
  (h0:w.ownsMap Tryz.prog 45 E.R b c D) (h1:w'.ownsMap Tryz.prog 45 E.R b (c+1) (D.put (hK x g) (E.dat y))) :
  HMap E w' b (if (f x g).isSome then c else c+1) (fun u v=>if u=x∧v=g then some y else f u v):=by
 have ht:=h0.tidy Tryz.keyedHandle
 have hs:=size_put (k:=hK x g) ht (E.dat y)
 rw [(hD.2 x g hx).1,hD.1] at hs
 have h2:=ownsMap_tight h1
 rw [hs] at h2
 refine ⟨_,h2,hs,fun u v huv=>?_⟩
 by_cases e:u=x∧v=g
 .obtain ⟨rfl,rfl⟩:=e
  simp only [and_self,if_true]
  exact ⟨has_put_same h0.isMap (hK_lit u v) _,fun z=>atKey_put_same h0.isMap (hK_lit u v) _ _⟩
 .have e':hK u v≠hK x g:=fun c=>e (hK_inj huv hx c)
  simp only [e,if_false]
  rw [has_put_other e']
  refine ⟨(hD.2 u v huv).1,fun z=>?_⟩
  rw [atKey_put_other e']
  exact (hD.2 u v huv).2 z
theorem wpList_hmap_put {ops:Array Oper} {rest:List Oper} {o:Oper} {a:Act} {Q:Exit->Act->World->Prop}
  (hg:o.guard=none) (mo xo vo:Operand) (hop:o.op=Op.mapUpdate t mo xo vo) (ht:Tryz.prog.underlying t=some (.map 45 e)) (b c:Nat) (f:Nat->Nat->Option α)
  (hm:a.eval mo=.map (some b)) (h:HMap E w b c f) (hok:∀x g,f x g≠none->okH x g) (hc:c<maxLen) (x g:Nat) (hx:a.eval xo=hV x g) (hxg:okH x g) (y:α) (hv:a.eval vo=E.val y) (hy:E.ok y)
  (hK:∀w',HMap E w' b (if (f x g).isSome then c else c+1) (fun u v=>if u=x∧v=g then some y else f u v)->w.grownBy w' (some b)->wpList Tryz.prog ops Q rest (a.put o.dst undef) w') :
  wpList Tryz.prog ops Q (o::rest) a w:=by
 have h':=h
 obtain ⟨D,h1,h2⟩:=h'
 refine wpList_mapUpdate_own w hg mo xo vo t hop _ e Tryz.keyedHandle ht E.R b c D hm h1 hc _ _ _ hx hv (hkey x g hxg) _ [] (E.hR y hy) ?_
 intro w' hown hgrow
 exact hK w' (HMap.put hok hxg D h2 h1 hown) hgrow
theorem wpList_hmap_look {ops:Array Oper} {rest:List Oper} {o:Oper} {a:Act} {Q:Exit->Act->World->Prop}
  (hg:o.guard=none) (mo xo:Operand) (hop:o.op=Op.lookup t mo xo false) (ht:Tryz.prog.underlying t=some (.map 45 e)) (b c:Nat) (f:Nat->Nat->Option α)
  (hm:a.eval mo=.map (some b)) (h:HMap E w b c f) (x g:Nat) (hx:a.eval xo=hV x g) (hxg:okH x g)
  (hK:wpList Tryz.prog ops Q rest (a.put o.dst (E.val ((f x g).getD E.zero))) w) :
  wpList Tryz.prog ops Q (o::rest) a w:=by
 obtain ⟨D,h1,h2,h3⟩:=h
 refine wpList_plain hg fun K' hK'=>?_
 obtain ⟨v,ps,hrun,hv⟩:=h1.lookup Tryz.keyedHandle ht (E.hz w) (E.hR E.zero E.zok) (hkey x g hxg)
 have hv':v=E.val ((f x g).getD E.zero):=by
  rw [(h3 x g hxg).2] at hv
  cases hf:f x g with
  | none=>rw [hf] at hv;exact E.inv _ _ _ hv
  | some y=>rw [hf] at hv;exact E.inv _ _ _ hv
 subst hv'
 unfold Oper.wp
 simp [execOp,hop,hm,hx,hrun,Result.andThen]
 exact hK' _ _ hK
end
noncomputable def elmInt:Elm Nat 3 where
 val n:=.int .i64 (n:Int)
 dat n:=.lit (.int .i64 (n:Int))
 R:=plainElem Tryz.prog 3
 ok n:=n<=65536
 zero:=0
 hR a h:=plainElem_int Tryz.underlying3 (i64_wf a h)
 inv v a ps h:=by
  obtain ⟨c,rfl,hc,_⟩:=plainElem_int_inv Tryz.underlying3 h
  simp only [Prod.mk.injEq,DataW.lit.injEq,Lit.int.injEq,true_and] at hc
  rw [hc.1]
 hz w:=by kernel_rfl
 zok:=Nat.zero_le _
section
variable {t:TypeId} {w:World} {b c:Nat}
theorem wpList_hmap_look_int {f:Nat->Nat->Option Nat} {ops:Array Oper} {rest:List Oper} {o:Oper} {a:Act} {Q:Exit->Act->World->Prop}
  (hg:o.guard=none) (mo xo:Operand) (hop:o.op=Op.lookup t mo xo false) (ht:Tryz.prog.underlying t=some (.map 45 3))
  (hm:a.eval mo=.map (some b)) (h:HMap elmInt w b c f) (x g:Nat) (hx:a.eval xo=hV x g) (hxg:okH x g) (n:Nat) (hf:f x g=some n)
  (hK:wpList Tryz.prog ops Q rest (a.put o.dst (.int .i64 (n:Int))) w) :
  wpList Tryz.prog ops Q (o::rest) a w :=
 wpList_hmap_look hg mo xo hop ht b c f hm h x g hx hxg (by rw [hf];exact hK)
end
end Go.Proofs.YtkdbjelhkfdfjaaGreatDoor

