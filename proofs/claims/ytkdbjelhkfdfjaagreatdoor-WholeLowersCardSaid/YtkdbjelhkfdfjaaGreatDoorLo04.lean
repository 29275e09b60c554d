/-
  Contracts that the law rests on. Conditions: none.
-/
import Derived.Test.YtkdbjelhkfdfjaaGreatDoorLo01
import Derived.Maps.OwnSet
import Derived.Maps.Views
import Derived.RangeFuncBound
import Derived.RangeFuncCalls
import Derived.RangeFuncLeaves
import Derived.RangeFuncNested
set_option linter.unusedVariables false
set_option maxRecDepth 100000
set_option maxHeartbeats 32000000
namespace Go.Proofs.YtkdbjelhkfdfjaaGreatDoor
open Go.RowKit Go.Maps
structure MapTy (P:Program) (t k:TypeId):Prop where
 ht:P.underlying t=some (.map k k)
 hk:P.underlying k=some (.int .i64)
 hz:∀w,(zeroValue k).run P w=.ok (.int .i64 0) w
theorem MapTy.key {P:Program} {t k:TypeId} (m:MapTy P t k):Keyed P k:=int_keyed m.hk
theorem ownsMap_tight {P:Program} {k:TypeId} {R:Value->Option (DataW Unit×List MemPlace)} {w:World} {b n:Nat} {D:DataW Unit} (h:w.ownsMap P k R b n D):w.ownsMap P k R b (Maps.size D) D:=by
 obtain ⟨es,clock,hb,F,hs,rfl⟩:=h
 refine ⟨es,clock,hb,F,?_,rfl⟩
 rw [Maps.size_eq,length_read]
 exact Nat.le_refl _
def IMap (P:Program) (k:TypeId) (w:World) (b c:Nat) (f:Int->Option Int):Prop :=
 ∃D:DataW Unit,w.ownsMap P k (plainElem P k) b c D∧Maps.size D=c ∧
  ∀x:Int,Maps.has D (.int .i64 x)=(f x).isSome∧D.atKey (.int .i64 x) (.lit (.int .i64 0))=.lit (.int .i64 ((f x).getD 0))
theorem i64key (x:Int):WideAt.IsKeyLit (.int .i64 x):=by simp [WideAt.IsKeyLit]
section
variable {P:Program} {t k:TypeId} {w w':World} {b c:Nat} {f:Int->Option Int}
theorem IMap.made (P:Program) (k:TypeId) (w:World):IMap P k (w.alloc (.map #[] 0)) w.heap.size 0 (fun _=>none) :=
 ⟨.map [],World.ownsMap_made w P k _,rfl,fun x=>⟨rfl,rfl⟩⟩
theorem IMap.lt (h:IMap P k w b c f):b<w.heap.size:=by obtain ⟨D,h1,_⟩:=h;exact h1.lt
theorem IMap.blk (h:IMap P k w b c f) (e:w'.heap[b]?=w.heap[b]?):IMap P k w' b c f:=by
 obtain ⟨D,⟨es,clock,hb,r⟩,h2⟩:=h
 exact ⟨D,⟨es,clock,e.trans hb,r⟩,h2⟩
theorem IMap.keep {S:List Nat} (h:IMap P k w b c f) (hk:Keeps S w w') (hb:b∉S):IMap P k w' b c f:=h.blk (hk.block b h.lt hb)
theorem IMap.put (m:MapTy P t k) (h:IMap P k w b c f) {x y:Int} (D:DataW Unit)
  (hD:Maps.size D=c∧∀x:Int,Maps.has D (.int .i64 x)=(f x).isSome∧D.atKey (.int .i64 x) (.lit (.int .i64 0))=.lit (.int .i64 ((f x).getD 0)))
  (h0:w.ownsMap P k (plainElem P k) b c D) (h1:w'.ownsMap P k (plainElem P k) b (c+1) (D.put (.int .i64 x) (.lit (.int .i64 y)))) :
  IMap P k w' b (if (f x).isSome then c else c+1) (fun z=>if z=x then some y else f z):=by
 have ht:=h0.tidy m.key
 have hs:=size_put (k:=.int .i64 x) ht (.lit (.int .i64 y))
 rw [(hD.2 x).1,hD.1] at hs
 have h2:=ownsMap_tight h1
 rw [hs] at h2
 refine ⟨_,h2,hs,fun z=>?_⟩
 by_cases e:z=x
 .subst e
  simp only [if_true]
  exact ⟨has_put_same h0.isMap (i64key z) _,atKey_put_same h0.isMap (i64key z) _ _⟩
 .have e':(Lit.int .i64 z)≠.int .i64 x:=fun c=>e (by cases c;rfl)
  simp only [e,if_false]
  rw [has_put_other e',atKey_put_other e']
  exact hD.2 z
theorem IMap.del (m:MapTy P t k) {x:Int} (D:DataW Unit)
  (hD:Maps.size D=c∧∀x:Int,Maps.has D (.int .i64 x)=(f x).isSome∧D.atKey (.int .i64 x) (.lit (.int .i64 0))=.lit (.int .i64 ((f x).getD 0)))
  (h0:w.ownsMap P k (plainElem P k) b c D) {n:Nat} (h1:w'.ownsMap P k (plainElem P k) b n (D.del (.int .i64 x))) :
  IMap P k w' b (if (f x).isSome then c - 1 else c) (fun z=>if z=x then none else f z):=by
 have ht:=h0.tidy m.key
 have hs:=size_del (k:=.int .i64 x) ht
 rw [(hD.2 x).1,hD.1] at hs
 have h2:=ownsMap_tight h1
 have hs':Maps.size (D.del (.int .i64 x))=if (f x).isSome then c - 1 else c:=by
  split at hs<;>simp_all<;>omega
 rw [hs'] at h2
 refine ⟨_,h2,hs',fun z=>?_⟩
 by_cases e:z=x
 .subst e
  simp only [if_true]
  exact ⟨has_del_same,atKey_del_same _⟩
 .have e':(Lit.int .i64 z)≠.int .i64 x:=fun c=>e (by cases c;rfl)
  simp only [e,if_false]
  rw [has_del_other e',atKey_del_other e']
  exact hD.2 z
theorem wpList_imap_put {ops:Array Oper} {rest:List Oper} {o:Oper} {a:Act} {Q:Exit->Act->World->Prop}
  (hg:o.guard=none) (mo xo vo:Operand) (hop:o.op=Op.mapUpdate t mo xo vo) (m:MapTy P t k) (b c:Nat) (f:Int->Option Int)
  (hm:a.eval mo=.map (some b)) (h:IMap P k w b c f) (hc:c<maxLen) (x y:Int) (hx:a.eval xo=.int .i64 x) (hv:a.eval vo=.int .i64 y) (hxw:(Lit.int .i64 x).wf=true) (hyw:(Lit.int .i64 y).wf=true)
  (hK:∀w',IMap P k w' b (if (f x).isSome then c else c+1) (fun z=>if z=x then some y else f z)->w.grownBy w' (some b)->wpList P ops Q rest (a.put o.dst undef) w') :
  wpList P ops Q (o::rest) a w:=by
 have h':=h
 obtain ⟨D,h1,h2⟩:=h'
 refine wpList_mapUpdate_own w hg mo xo vo t hop k k m.key m.ht _ b c D hm h1 hc _ _ _ hx hv (keyOf_int_mk m.hk hxw) _ [] (plainElem_int m.hk hyw) ?_
 intro w' hown hgrow
 exact hK w' (h.put m D h2 h1 hown) hgrow
theorem wpList_imap_look {ops:Array Oper} {rest:List Oper} {o:Oper} {a:Act} {Q:Exit->Act->World->Prop}
  (hg:o.guard=none) (mo xo:Operand) (hop:o.op=Op.lookup t mo xo false) (m:MapTy P t k) (b c:Nat) (f:Int->Option Int)
  (hm:a.eval mo=.map (some b)) (h:IMap P k w b c f) (x:Int) (hx:a.eval xo=.int .i64 x) (hxw:(Lit.int .i64 x).wf=true)
  (hK:wpList P ops Q rest (a.put o.dst (.int .i64 ((f x).getD 0))) w) :
  wpList P ops Q (o::rest) a w:=by
 obtain ⟨D,h1,h2,h3⟩:=h
 refine wpList_lookup_own_int w hg mo xo t hop k k .i64 m.key m.ht m.hk (m.hz w) b c D hm h1 _ _ hx (keyOf_int_mk m.hk hxw) ?_
 intro y hy _
 rw [(h3 x).2] at hy
 cases hy
 exact hK
theorem wpList_imap_look_ok {ops:Array Oper} {rest:List Oper} {o:Oper} {a:Act} {Q:Exit->Act->World->Prop}
  (hg:o.guard=none) (mo xo:Operand) (hop:o.op=Op.lookup t mo xo true) (m:MapTy P t k) (b c:Nat) (f:Int->Option Int)
  (hm:a.eval mo=.map (some b)) (h:IMap P k w b c f) (x:Int) (hx:a.eval xo=.int .i64 x) (hxw:(Lit.int .i64 x).wf=true)
  (hK:wpList P ops Q rest (a.put o.dst (.tuple #[.int .i64 ((f x).getD 0),.bool (f x).isSome])) w) :
  wpList P ops Q (o::rest) a w:=by
 obtain ⟨D,h1,h2,h3⟩:=h
 refine wpList_lookup_own_ok_int w hg mo xo t hop k k .i64 m.key m.ht m.hk (m.hz w) b c D hm h1 _ _ hx (keyOf_int_mk m.hk hxw) ?_
 intro y hy _
 rw [(h3 x).2] at hy
 cases hy
 rw [(h3 x).1]
 exact hK
theorem wpList_imap_del {ops:Array Oper} {rest:List Oper} {o:Oper} {a:Act} {Q:Exit->Act->World->Prop}
  (hg:o.guard=none) (mo xo:Operand) (hop:o.op=Op.call { callee:=Callee.builtin Builtin.delete,args:=#[mo,xo],argTypes:=#[t,k] }) (m:MapTy P t k) (b c:Nat) (f:Int->Option Int)
  (hm:a.eval mo=.map (some b)) (h:IMap P k w b c f) (x:Int) (hx:a.eval xo=.int .i64 x) (hxw:(Lit.int .i64 x).wf=true)
  (hK:∀w',IMap P k w' b (if (f x).isSome then c - 1 else c) (fun z=>if z=x then none else f z)->w.grownBy w' (some b)->wpList P ops Q rest (a.put o.dst (.tuple #[])) w') :
  wpList P ops Q (o::rest) a w:=by
 obtain ⟨D,h1,h2⟩:=h
 refine wpList_delete_own w hg mo xo t k hop k m.key m.ht _ b c D hm h1 _ _ hx (keyOf_int_mk m.hk hxw) ?_
 intro w' hown hturn
 exact hK w' (IMap.del m D h2 h1 hown) hturn.grown
end
end Go.Proofs.YtkdbjelhkfdfjaaGreatDoor
namespace Go.Proofs.YtkdbjelhkfdfjaaGreatDoor
def manyF (E:Ent) (cap:Nat) (h:Int):Option Int:=if 0<=h∧0<count E cap h.toNat then some (count E cap h.toNat) else none
def full (E:Ent) (cap hs:Nat):Nat:=((List.range (hs+1)).filter fun h=>decide (0<count E cap h)).length
theorem full_le (E:Ent) (cap hs:Nat):full E cap hs<=hs+1:=by
 have:=List.length_filter_le (fun h=>decide (0<count E cap h)) (List.range (hs+1))
 simpa [full] using this
theorem manyF_getD (E:Ent) (cap h:Nat):(manyF E cap (h:Int)).getD 0=count E cap h:=by
 unfold manyF
 by_cases c:0<count E cap h
 .rw [if_pos ⟨by omega,by simpa using c⟩];simp
 .rw [if_neg (by simp;omega)];simp;omega
theorem manyF_some (E:Ent) (cap h:Nat):(manyF E cap (h:Int)).isSome=decide (0<count E cap h):=by
 unfold manyF
 by_cases c:0<count E cap h
 .rw [if_pos ⟨by omega,by simpa using c⟩];simp [c]
 .rw [if_neg (by simp;omega)];simp;omega
theorem manyF_at (E:Ent) (cap h:Nat):manyF E cap (h:Int)=if 0<count E cap h then some (count E cap h:Int) else none:=by
 unfold manyF
 by_cases c:0<count E cap h
 .rw [if_pos ⟨by omega,by simpa using c⟩,if_pos c];simp
 .rw [if_neg (by simp;omega),if_neg c]
theorem manyF_congr {E E':Ent} {cap:Nat} {z:Int} (h:0<=z->count E' cap z.toNat=count E cap z.toNat):manyF E' cap z=manyF E cap z:=by
 unfold manyF
 by_cases c:0<=z
 .rw [h c]
 .rw [if_neg (fun e=>c e.1),if_neg (fun e=>c e.1)]
theorem manyF_put {E:Ent} {cap x h:Nat} {k:Int×Nat} (hx:x<cap) (he:E x=none) :
  manyF (put E x (some (h,k))) cap=fun z=>if z=(h:Int) then some ((count E cap h:Int)+1) else manyF E cap z:=by
 funext z
 by_cases e:z=(h:Int)
 .subst e
  rw [manyF_at,count_in hx he];simp
 .rw [if_neg e]
  exact manyF_congr fun hz=>count_in_other he (by omega)
theorem full_put {E:Ent} {cap hs x h:Nat} {k:Int×Nat} (hx:x<cap) (he:E x=none) (hh:h<=hs) :
  full (put E x (some (h,k))) cap hs=if (manyF E cap (h:Int)).isSome then full E cap hs else full E cap hs+1:=by
 rw [manyF_some]
 by_cases c:0<count E cap h
 .simp only [c,decide_true,if_true]
  refine filter_range_congr _ _ _ fun g _=>?_
  by_cases e:g=h
  .subst e;rw [count_in hx he];simp [c]
  .rw [count_in_other he e]
 .simp only [c,decide_false,Bool.false_eq_true,if_false]
  refine filter_range_one _ h (by omega) _ _ (by simp;omega) (by rw [count_in hx he];simp) fun g hg=>?_
  rw [count_in_other he hg]
theorem count_drop {E:Ent} {cap x h:Nat} {k:Int×Nat} (hx:x<cap) (he:E x=some (h,k)):count E cap h=count (put E x none) cap h+1:=count_out hx ⟨k,he⟩
theorem count_drop_other {E:Ent} {cap x h g:Nat} {k:Int×Nat} (he:E x=some (h,k)) (hg:g≠h):count (put E x none) cap g=count E cap g:=count_out_other ⟨k,he⟩ hg
theorem manyF_drop_more {E:Ent} {cap x h:Nat} {k:Int×Nat} (hx:x<cap) (he:E x=some (h,k)) (hc:1<count E cap h) :
  manyF (put E x none) cap=fun z=>if z=(h:Int) then some ((count E cap h:Int) - 1) else manyF E cap z:=by
 have h1:=count_drop hx he
 funext z
 by_cases e:z=(h:Int)
 .subst e
  rw [manyF_at,if_pos (by omega)];simp;omega
 .rw [if_neg e]
  exact manyF_congr fun hz=>count_drop_other he (by omega)
theorem manyF_drop_last {E:Ent} {cap x h:Nat} {k:Int×Nat} (hx:x<cap) (he:E x=some (h,k)) (hc:count E cap h=1) (v:Int) :
  manyF (put E x none) cap=fun z=>if z=(h:Int) then none else (if z=(h:Int) then some v else manyF E cap z):=by
 have h1:=count_drop hx he
 funext z
 by_cases e:z=(h:Int)
 .subst e
  rw [manyF_at,if_neg (by omega)];simp
 .rw [if_neg e,if_neg e]
  exact manyF_congr fun hz=>count_drop_other he (by omega)
theorem full_drop_more {E:Ent} {cap hs x h:Nat} {k:Int×Nat} (hx:x<cap) (he:E x=some (h,k)) (hc:1<count E cap h) :
  full (put E x none) cap hs=full E cap hs:=by
 have h1:=count_drop hx he
 refine filter_range_congr _ _ _ fun g _=>?_
 by_cases e:g=h
 .subst e;rw [decide_eq_decide];omega
 .rw [count_drop_other he e]
theorem full_drop_last {E:Ent} {cap hs x h:Nat} {k:Int×Nat} (hx:x<cap) (he:E x=some (h,k)) (hh:h<=hs) (hc:count E cap h=1) :
  full (put E x none) cap hs=full E cap hs - 1:=by
 have h1:=count_drop hx he
 have:full E cap hs=full (put E x none) cap hs+1:=by
  refine filter_range_one _ h (by omega) _ _ (by simp;omega) (by simp;omega) fun g hg=>?_
  rw [count_drop_other he hg]
 omega
theorem count_pos {E:Ent} {cap x h:Nat} {k:Int×Nat} (hx:x<cap) (he:E x=some (h,k)):0<count E cap h:=by
 have:=count_drop hx he;omega
theorem manyF_make {E:Ent} {cap hs:Nat}:full E cap (hs+1)=full E cap hs+if 0<count E cap (hs+1) then 1 else 0:=by
 unfold full
 rw [List.range_succ (n:=hs+1),List.filter_append,List.length_append]
 congr 1
 by_cases c:0<count E cap (hs+1)<;>simp [c]
theorem full_none (cap hs:Nat):full (fun _=>none) cap hs=0:=by
 unfold full
 rw [List.length_eq_zero_iff,List.filter_eq_nil_iff]
 intro h _
 have:count (fun _=>none) cap h=0:=count_zero.2 fun x _ hx=>by obtain ⟨k,e⟩:=hx;cases e
 simp [this]
theorem manyF_none (cap:Nat):manyF (fun _=>none) cap=fun _=>none:=by
 funext z
 unfold manyF
 have:count (fun _=>none) cap z.toNat=0:=count_zero.2 fun x _ hx=>by obtain ⟨k,e⟩:=hx;cases e
 rw [if_neg (by omega)]
structure Ties (K:Nat->List Nat) (kid next back U:Nat->Option Nat):Prop where
 kid:∀p,kid p=(K p)[0]?
 mem:∀p x,x∈K p↔U x=some p
 nd:∀p,(K p).Nodup
 nx:∀p i x,(K p)[i]?=some x->next x=(K p)[i+1]?
 bk0:∀p x,(K p)[0]?=some x->back x=some p
 bkS:∀p i x,(K p)[i+1]?=some x->back x=(K p)[i]?
 root:∀x,U x=none->next x=none∧back x=none
section
variable {K:Nat->List Nat} {kid next back U:Nat->Option Nat} {a b x p:Nat}
theorem Ties.above (h:Ties K kid next back U) {i:Nat} (e:(K p)[i]?=some x):U x=some p:=(h.mem p x).1 (List.mem_of_getElem? e)
theorem Ties.init:Ties (fun _=>[]) (fun _=>none) (fun _=>none) (fun _=>none) (fun _=>none) :=
 ⟨by simp,by simp,by simp,by simp,by simp,by simp,by simp⟩
def backOf (kid back:Nat->Option Nat) (a b:Nat):Nat->Option Nat :=
 fun k=>if kid a=some k then some b else if k=b then some a else back k
theorem backOf_none {kid back:Nat->Option Nat} {a b:Nat} (e:kid a=none):backOf kid back a b=upd back b (some a):=by
 funext k;simp [backOf,upd,e]
theorem backOf_some {kid back:Nat->Option Nat} {a b o:Nat} (e:kid a=some o):backOf kid back a b=upd (upd back b (some a)) o (some b):=by
 funext k
 simp only [backOf,upd,e,Option.some.injEq]
 by_cases c:k=o
 .subst c;simp
 .simp [c];intro d;exact absurd d.symm c
theorem Ties.link (h:Ties K kid next back U) (hne:a≠b) (hb:U b=none) (hba:U a≠some b) :
  Ties (upd K a (b::K a)) (upd kid a (some b)) (upd next b (kid a)) (backOf kid back a b) (upd U b (some a)):=by
 have hbK:∀p,b∉K p:=by intro p c;rw [h.mem,hb] at c;cases c
 have ho:∀o,kid a=some o->o≠b∧U o=some a:=by
  intro o e
  rw [h.kid] at e
  have:=h.above e
  refine ⟨?_,this⟩
  rintro rfl
  rw [hb] at this
  cases this
 have back_b:backOf kid back a b b=some a:=by
  have:kid a≠some b:=fun e=>(ho b e).1 rfl
  simp [backOf,this]
 have back_o:∀o,kid a=some o->backOf kid back a b o=some b:=by
  intro o e
  simp [backOf,e]
 have back_x:∀y,y≠b->kid a≠some y->backOf kid back a b y=back y:=by
  intro y c d
  simp [backOf,d,c]
 refine ⟨?_,?_,?_,?_,?_,?_,?_⟩
 .intro p
  by_cases c:p=a
  .subst c;rw [upd_same,upd_same];rfl
  .rw [upd_other _ _ c,upd_other _ _ c];exact h.kid p
 .intro p y
  by_cases c:p=a
  .subst c
   rw [upd_same,List.mem_cons]
   by_cases d:y=b
   .subst d;rw [upd_same];simp
   .rw [upd_other _ _ d];simp only [d,false_or];exact h.mem p y
  .rw [upd_other _ _ c]
   by_cases d:y=b
   .subst d;rw [upd_same]
    constructor
    .intro e;exact absurd e (hbK p)
    .intro e;cases e;exact absurd rfl c
   .rw [upd_other _ _ d];exact h.mem p y
 .intro p
  by_cases c:p=a
  .subst c;rw [upd_same,List.nodup_cons];exact ⟨hbK p,h.nd p⟩
  .rw [upd_other _ _ c];exact h.nd p
 .intro p i y
  by_cases c:p=a
  .subst c
   rw [upd_same]
   cases i with
   | zero =>
    intro e
    have e:b=y:=by simpa using e
    subst e
    rw [upd_same,h.kid];simp
   | succ i =>
    intro e
    have e:(K p)[i]?=some y:=by simpa using e
    have d:y≠b:=fun d=>hbK p (d ▸ List.mem_of_getElem? e)
    rw [upd_other _ _ d,h.nx p i y e];simp
  .rw [upd_other _ _ c]
   intro e
   have d:y≠b:=fun d=>hbK p (d ▸ List.mem_of_getElem? e)
   rw [upd_other _ _ d];exact h.nx p i y e
 .intro p y
  by_cases c:p=a
  .subst c
   rw [upd_same]
   intro e
   have e:b=y:=by simpa using e
   subst e;exact back_b
  .rw [upd_other _ _ c]
   intro e
   have hy:=h.above e
   have d:y≠b:=by rintro rfl;rw [hb] at hy;cases hy
   rw [back_x y d (fun k=>by have:=(ho y k).2;rw [hy] at this;cases this;exact c rfl)]
   exact h.bk0 p y e
 .intro p i y
  by_cases c:p=a
  .subst c
   rw [upd_same]
   intro e
   have e:(K p)[i]?=some y:=by simpa using e
   have d:y≠b:=fun d=>hbK p (d ▸ List.mem_of_getElem? e)
   cases i with
   | zero =>
    rw [back_o y (by rw [h.kid];exact e)];simp
   | succ i =>
    have k:kid p≠some y:=by
     rw [h.kid]
     intro k
     have:=(List.getElem?_inj (by simpa using (List.getElem?_eq_some_iff.1 k).1) (h.nd p)).1 (k.trans e.symm)
     omega
    rw [back_x y d k,h.bkS p i y e];simp
  .rw [upd_other _ _ c]
   intro e
   have hy:=h.above e
   have d:y≠b:=by rintro rfl;rw [hb] at hy;cases hy
   rw [back_x y d (fun k=>by have:=(ho y k).2;rw [hy] at this;cases this;exact c rfl)]
   exact h.bkS p i y e
 .intro y hy
  by_cases d:y=b
  .subst d;rw [upd_same] at hy;cases hy
  .rw [upd_other _ _ d] at hy
   rw [upd_other _ _ d,back_x y d (fun k=>by have:=(ho y k).2;rw [hy] at this;cases this)]
   exact h.root y hy
def updL {α:Type} (f:Nat->α) (l:List Nat) (v:α):Nat->α:=fun k=>if k∈l then v else f k
theorem updL_nil {α:Type} (f:Nat->α) (v:α):updL f [] v=f:=by funext k;simp [updL]
theorem updL_snoc {α:Type} (f:Nat->α) (l:List Nat) (x:Nat) (v:α):updL f (l++[x]) v=upd (updL f l v) x v:=by
 funext k
 simp only [updL,upd,List.mem_append,List.mem_singleton]
 by_cases c:k=x<;>by_cases d:k∈l<;>simp [c,d]
theorem updL_in {α:Type} (f:Nat->α) {l:List Nat} {x:Nat} (v:α) (h:x∈l):updL f l v x=v:=by simp [updL,h]
theorem updL_out {α:Type} (f:Nat->α) {l:List Nat} {x:Nat} (v:α) (h:x∉l):updL f l v x=f x:=by simp [updL,h]
theorem Ties.clear (h:Ties K kid next back U) (x:Nat) :
  Ties (upd K x []) (upd kid x none) (updL next (K x) none) (updL back (K x) none) (updL U (K x) none):=by
 have key:∀p,p≠x->∀y,U y=some p->y∉K x:=by
  intro p c y hy d
  rw [h.mem,hy] at d;cases d;exact c rfl
 refine ⟨?_,?_,?_,?_,?_,?_,?_⟩
 .intro p
  by_cases c:p=x
  .subst c;simp [upd_same]
  .rw [upd_other _ _ c,upd_other _ _ c];exact h.kid p
 .intro p y
  by_cases c:p=x
  .subst c
   rw [upd_same]
   by_cases d:y∈K p
   .rw [updL_in _ _ d];simp
   .rw [updL_out _ _ d]
    simp only [List.not_mem_nil,false_iff]
    intro e;exact d ((h.mem p y).2 e)
  .rw [upd_other _ _ c]
   by_cases d:y∈K x
   .rw [updL_in _ _ d]
    constructor
    .intro e;rw [h.mem] at d e;rw [d] at e;cases e;exact absurd rfl c
    .intro e;cases e
   .rw [updL_out _ _ d];exact h.mem p y
 .intro p
  by_cases c:p=x
  .subst c;rw [upd_same];simp
  .rw [upd_other _ _ c];exact h.nd p
 .intro p i y
  by_cases c:p=x
  .subst c;rw [upd_same];simp
  .rw [upd_other _ _ c]
   intro e
   rw [updL_out _ _ (key p c y (h.above e))];exact h.nx p i y e
 .intro p y
  by_cases c:p=x
  .subst c;rw [upd_same];simp
  .rw [upd_other _ _ c]
   intro e
   rw [updL_out _ _ (key p c y (h.above e))];exact h.bk0 p y e
 .intro p i y
  by_cases c:p=x
  .subst c;rw [upd_same];simp
  .rw [upd_other _ _ c]
   intro e
   rw [updL_out _ _ (key p c y (h.above e))];exact h.bkS p i y e
 .intro y hy
  by_cases d:y∈K x
  .rw [updL_in _ _ d,updL_in _ _ d];exact ⟨rfl,rfl⟩
  .rw [updL_out _ _ d] at hy
   rw [updL_out _ _ d,updL_out _ _ d];exact h.root y hy
end
end Go.Proofs.YtkdbjelhkfdfjaaGreatDoor
namespace Go.Proofs.YtkdbjelhkfdfjaaGreatDoor.Rg
section
variable {n:Nat} {N P:List Nat} {w:List (List Nat)}
theorem Rings.told_len (h:Rings n N P w) {x:Nat} (hx:x<n) {l:List Nat} (hl:l∈w) (hxl:x∈l):(allZ w x).length=l.length:=by
 obtain ⟨l',r,h1,h2,h3,h4,h5,h6,h7⟩:=h.home hx
 have e:=uniq h.nd h1 hl h2 hxl
 subst e
 rw [h3]
 exact ((List.perm_ext_iff_of_nodup h5 (nodup_of h.nd h1)).2 h6).length_eq
theorem alone_all (n x:Nat) (hx:x<n):allZ ((List.range n).map fun i=>[i]) x=[x]:=by
 have h:=Rings.new n
 obtain ⟨lx,rx,hlx,hxl,hax,hpx,hndx,hmx,hbx⟩:=h.home hx
 have ht:=h.told_len hx (l:=[x]) (by simp [hx]) (by simp)
 rw [hax] at ht ⊢
 simp at ht
 rw [ht]
end
end Go.Proofs.YtkdbjelhkfdfjaaGreatDoor.Rg
namespace Go.Proofs.YtkdbjelhkfdfjaaGreatDoor
open Rg
def Rl (w:List (List Nat)) (x y:Nat):Prop:=y∈allZ w x
section
variable {n:Nat} {N P:List Nat} {w:List (List Nat)} {x y u v:Nat}
theorem rl_iff (h:Rings n N P w) (hx:x<n):Rl w x y↔∃l∈w,x∈l∧y∈l:=by
 obtain ⟨lx,rx,hlx,hxl,hax,hpx,hndx,hmx,hbx⟩:=h.home hx
 unfold Rl
 rw [hax,hmx]
 constructor
 .intro e;exact ⟨lx,hlx,hxl,e⟩
 .rintro ⟨l,h1,h2,h3⟩
  rw [uniq h.nd hlx h1 hxl h2];exact h3
theorem rl_self (h:Rings n N P w) (hx:x<n):Rl w x x:=by
 obtain ⟨lx,rx,hlx,hxl,_⟩:=h.home hx
 exact (rl_iff h hx).2 ⟨lx,hlx,hxl,hxl⟩
theorem rl_splice (h:Rings n N P w) (hx:x<n) (hy:y<n) (hn:¬Rl w x y) (hu:u<n) :
  Rl (spliceZ w x y).1 u v↔Rl w u v∨((Rl w x u∨Rl w y u)∧(Rl w x v∨Rl w y v)):=by
 have hs:=(h.splice hx hy).2
 obtain ⟨lx,rx,hlx,hxl,hax,hpx,hndx,hmx,hbx⟩:=h.home hx
 obtain ⟨ly,ry,hly,hyl,hay,hpy,hndy,hmy,hby⟩:=h.home hy
 have hxy:x≠y:=by rintro rfl;exact hn (rl_self h hx)
 have e':¬((x:Int)=(y:Int)):=by omega
 have hn2:y∉x::rx:=by rw [<-hax];exact hn
 have hfi:(x::rx).findIdx? (isI y)=none:=findIdx_none hn2
 have hsp:(spliceZ w x y).1=withoutZ w x y++[x::ry++y::rx]:=by
  simp only [spliceZ,hax,hay,hfi,e',Int.toNat_natCast]
  simp
 have hwo:∀l,l∈withoutZ w x y↔l∈w∧x∉l∧y∉l:=by
  intro l
  simp only [withoutZ,List.mem_filter,any_isI,Bool.and_eq_true,Bool.not_eq_true',decide_eq_false_iff_not]
 have hrx:∀z,Rl w x z↔z∈lx:=fun z=>by unfold Rl;rw [hax,hmx]
 have hry:∀z,Rl w y z↔z∈ly:=fun z=>by unfold Rl;rw [hay,hmy]
 have hj:∀z,z∈x::ry++y::rx↔z∈lx∨z∈ly:=fun z=>by
  rw [<-hmx,<-hmy]
  simp only [List.cons_append,List.mem_cons,List.mem_append]
  constructor
  .rintro (q|q|q|q)
   .exact .inl (.inl q)
   .exact .inr (.inr q)
   .exact .inr (.inl q)
   .exact .inl (.inr q)
  .rintro ((q|q)|(q|q))
   .exact .inl q
   .exact .inr (.inr (.inr q))
   .exact .inr (.inr (.inl q))
   .exact .inr (.inl q)
 rw [rl_iff hs hu,hsp,rl_iff h hu,hrx,hrx,hry,hry]
 constructor
 .rintro ⟨l,h1,h2,h3⟩
  rcases List.mem_append.1 h1 with q|q
  .exact .inl ⟨l,((hwo l).1 q).1,h2,h3⟩
  .simp only [List.mem_singleton] at q
   rw [q,hj] at h2 h3
   exact .inr ⟨h2,h3⟩
 .rintro (⟨l,h1,h2,h3⟩|⟨h2,h3⟩)
  .by_cases c:x∈l
   .have:=uniq h.nd h1 hlx c hxl
    subst this
    exact ⟨_,List.mem_append.2 (.inr (List.mem_singleton.2 rfl)),(hj u).2 (.inl h2),(hj v).2 (.inl h3)⟩
   .by_cases d:y∈l
    .have:=uniq h.nd h1 hly d hyl
     subst this
     exact ⟨_,List.mem_append.2 (.inr (List.mem_singleton.2 rfl)),(hj u).2 (.inr h2),(hj v).2 (.inr h3)⟩
    .exact ⟨l,List.mem_append.2 (.inl ((hwo l).2 ⟨h1,c,d⟩)),h2,h3⟩
  .exact ⟨_,List.mem_append.2 (.inr (List.mem_singleton.2 rfl)),(hj u).2 h2,(hj v).2 h3⟩
theorem rl_part (h:Rings n N P w) (hx:x<n) (hu:u<n):Rl (partZ w x).1 u v↔(u=x∧v=x)∨(u≠x∧v≠x∧Rl w u v):=by
 have hs:=(h.part hx).2
 obtain ⟨lx,rx,hlx,hxl,hax,hpx,hndx,hmx,hbx⟩:=h.home hx
 have hwo:∀l,l∈withoutZ w x x↔l∈w∧x∉l:=by
  intro l
  simp only [withoutZ,List.mem_filter,any_isI,Bool.and_eq_true,Bool.not_eq_true',decide_eq_false_iff_not,and_self]
 have hxr:x∉rx:=(List.nodup_cons.1 hndx).1
 by_cases h1:rx=[]
 .subst h1
  have hp:(partZ w x).1=w:=by simp [partZ,hax]
  rw [hp]
  have hone:∀z,z∈lx↔z=x:=fun z=>by rw [<-hmx];simp
  by_cases c:u=x
  .subst c
   unfold Rl
   rw [hax];simp
  .simp only [c,false_and,false_or,ne_eq,not_false_iff,true_and]
   constructor
   .intro e
    refine ⟨?_,e⟩
    rintro rfl
    obtain ⟨l,h1,h2,h3⟩:=(rl_iff h hu).1 e
    have:=uniq h.nd h1 hlx h3 hxl
    subst this
    exact c ((hone u).1 h2)
   .exact fun e=>e.2
 .have hne:¬(x::rx).length=1:=by simp [h1]
  have hsp:(partZ w x).1=withoutZ w x x++[[x],rx]:=by
   simp only [partZ,hax,if_neg hne,Int.toNat_natCast]
   simp
  rw [rl_iff hs hu,hsp,rl_iff h hu]
  constructor
  .rintro ⟨l,h1,h2,h3⟩
   rcases List.mem_append.1 h1 with q|q
   .obtain ⟨q1,q2⟩:=(hwo l).1 q
    exact .inr ⟨by rintro rfl;exact q2 h2,by rintro rfl;exact q2 h3,l,q1,h2,h3⟩
   .simp only [List.mem_cons,List.not_mem_nil,or_false] at q
    rcases q with rfl|rfl
    .simp only [List.mem_singleton] at h2 h3
     exact .inl ⟨h2,h3⟩
    .exact .inr ⟨by rintro rfl;exact hxr h2,by rintro rfl;exact hxr h3,lx,hlx,(hmx u).1 (by simp [h2]),(hmx v).1 (by simp [h3])⟩
  .rintro (⟨rfl,rfl⟩|⟨c,d,l,h1,h2,h3⟩)
   .exact ⟨[_],by simp,List.mem_singleton.2 rfl,List.mem_singleton.2 rfl⟩
   .by_cases e:x∈l
    .have:=uniq h.nd h1 hlx e hxl
     subst this
     have q2:=(hmx u).2 h2
     have q3:=(hmx v).2 h3
     simp only [List.mem_cons,c,d,false_or] at q2 q3
     exact ⟨rx,by simp,q2,q3⟩
    .exact ⟨l,List.mem_append.2 (.inl ((hwo l).2 ⟨h1,e⟩)),h2,h3⟩
theorem rl_new (hx:x<n):Rl ((List.range n).map fun i=>[i]) x y↔x=y:=by
 unfold Rl
 rw [alone_all n x hx]
 simp [eq_comm]
end
end Go.Proofs.YtkdbjelhkfdfjaaGreatDoor
namespace Go.Proofs.YtkdbjelhkfdfjaaGreatDoor
open Go.RowKit
section
variable {α:Type} {F:Fence} {n:Nat} {P:Program}
def SeqC (F:Fence) (n:Nat) (P:Program) (gf:Nat) (lb:Array Value) (encs:α->Array Value) (c:Nat) (L:List α) (w:World):Prop :=
 ∀(l:Nat) (J:List α->World->Prop) (W:World),W.heap[c]?=w.heap[c]?->w.heap.size<=W.heap.size->AbidesFrom W.heap.size J->(∀s X v,J s X->J s (X.setCell ⟨c,0,none⟩ v)) ->
  (∀pre x X,J pre X->pre++[x] <+: L->YieldAt F (n - 1) P l (encs x) X fun e X'=>e=.returned (.bool true)∧J (pre++[x]) X'∧X'.heap[c]?=X.heap[c]?) ->
  J [] W->CallsIn F n P gf (#[.func (.yield l) #[] #[]]++lb) W fun e X=>(∃v,e=.returned v)∧J L X
def goesOn (B c:Nat) (I:List α->World->Prop) (xs:List α) (W:World):Exit->Act->World->Prop
 | .normal,_,X=>KeepsFrom B W X∧X.heap[c]?=W.heap[c]?∧I xs X
 | _,_,_=>False
theorem range_cell {g:Operand} {ps:Array Tmp} {assign body:Code} {Q:Exit->Act->World->Prop} {a:Act} {w:World}
  (hro:F.round=none) (h1:1<=n) {gf:Nat} {lb:Array Value} (hg:a.eval g=.func (.func gf) #[] lb) (hFg:F.fn gf) (eg:∀args w,(callFunc gf args).run P w=.ok (.enter gf args) w)
  {encs:α->Array Value} {c:Nat} {L:List α} (hc:c<w.heap.size) (hseq:SeqC F (n - 1) P gf lb encs c L w) (hps:∀x,(encs x).size=ps.size)
  (I:List α->World->Prop) (hI:OwnFrom w.heap.size I) (hIc:∀s X v,I s X->I s (X.setCell ⟨c,0,none⟩ v)) (h0:I [] w) (a₁:α->Act)
  (hassign:∀(l:Nat) (x:α) (W:World) (K:Act->World->Prop),K (a₁ x) W ->
   assign.wpIn (F.inRound l) (n - 1 - 1) P (Exit.then K (fun _ _ _=>False)) { tmps:=(ps.zip (encs x)).foldl (fun t (p,v)=>t.setIfInBounds p v) a.tmps,defers:=[] } W)
  (hbody:∀(l:Nat) (pre:List α) (x:α) (W:World),I pre W->pre++[x] <+: L->body.wpIn (F.inRound l) (n - 1 - 1) P (goesOn w.heap.size c I (pre++[x]) W) (a₁ x) W)
  (hdone:∀(D:Nat) (W:World),w.heap.size<=D->I L W->W.heap[D]?=some (.deferred (some []))->Q .normal { a with defers:={ target:=.collected D,args:=#[] }::a.defers } W) :
  (Code.rangeFunc g ps assign body).wpIn F n P Q a w:=by
 refine wpIn_rangeFunc fun fn hfn=>?_
 rw [hro]
 obtain ⟨s0,hs0⟩:∃s0,w.heap.size=s0:=⟨_,rfl⟩
 rw [hs0] at hc hI hbody hdone
 obtain ⟨rc,hrc⟩:∃rc:LoopState->Loop,rc=fun st=>{ state:=st,pending:=none,fn,tmps:=a.tmps,params:=ps,assign,body,defers:=s0 }:=⟨_,rfl⟩
 obtain ⟨W1,hW1⟩:∃W1,(w.alloc (.deferred (some []))).alloc (.loop (rc .ready))=W1:=⟨_,rfl⟩
 have hsz:W1.heap.size=s0+2:=by rw [<-hW1,<-hs0];simp
 have hL1:W1.heap[s0+1]?=some (.loop (rc .ready)):=by
  rw [<-hW1,<-hs0]
  have:=blk_alloc_new (w:=w.alloc (.deferred (some []))) (.loop (rc .ready))
  rwa [World.size_alloc] at this
 have hK1:W1.heap[s0]?=some (.deferred (some [])):=by
  rw [<-hW1,<-hs0]
  exact (blk_alloc_old _ (by simp)).trans (blk_alloc_new _)
 have hc1:W1.heap[c]?=w.heap[c]?:=by
  rw [<-hW1]
  exact (blk_alloc_old _ (by simp;omega)).trans (blk_alloc_old _ (by omega))
 have hI1:I [] W1:=by rw [<-hW1];exact hI.alloc _ (hI.alloc _ h0)
 refine ⟨s0+1,[{ target:=.collected s0,args:=#[] }],W1,{ target:=.fn (.func gf) lb,args:=#[.func (.yield (s0+1)) #[] #[]] },W1,gf,
  #[.func (.yield (s0+1)) #[] #[]]++lb,W1,?_,?_,fun f e=>?_,?_,fun _=>h1,?_⟩
 .have:=run_enterLoop_outer (P:=P) (w:=w) fn a.tmps ps assign body
  rw [hs0] at this
  rw [<-hW1,hrc]
  exact this
 .simp only [resolve,hg]
  simp [go_sem]
 .simp [Target.leads] at e
  exact e ▸ hFg
 .simp [invoke,go_sem,eg]
 .have hwalk:∀{A:World} {row:Option Nat},(∀r,row=some r->W1.heap.size<=r∧∃o:Obj,A.heap[r]?=some o∧o.isWalk=true)->∀r,row=some r->s0<=r∧∃o:Obj,A.heap[r]?=some o∧o.isCells=false:=by
   intro A row h r e
   obtain ⟨x,o,y,z⟩:=h r e
   exact ⟨by omega,o,y,Obj.not_cells_of_walk z⟩
  refine (hseq (s0+1) (fun pre W=>I pre W∧W.heap[s0+1]?=some (.loop (rc .ready))∧W.heap[s0]?=some (.deferred (some []))) W1 hc1 (by omega) ?_ ?_ ?_ ⟨hI1,hL1,hK1⟩).mono ?_
  .rintro s A B row ⟨b1,b2,b3⟩ hgr hr
   exact ⟨hI s A B row b1 hgr (hwalk hr),(grownBy_keeps hgr (fun r e=>(hr r e).2) b2 rfl).trans b2,(grownBy_keeps hgr (fun r e=>(hr r e).2) b3 rfl).trans b3⟩
  .rintro s X v ⟨b1,b2,b3⟩
   exact ⟨hIc s X v b1,(blk_setCell_ne (a:=⟨c,0,none⟩) v (by show s0+1≠c;omega)).trans b2,(blk_setCell_ne (a:=⟨c,0,none⟩) v (by show s0≠c;omega)).trans b3⟩
  .rintro pre x W ⟨b1,b2,b3⟩ hpre
   have hlt:s0+1<W.heap.size:=lt_of_block b2
   have hy:=run_yield (P:=P) (args:=encs x) b2 (by rw [hrc];exact hps x)
   rw [hrc] at hy
   refine ⟨fn,_,assign,body,hy,roundIn_of_wpIn hfn (hassign _ x W _ ⟨_,run_beginRound b2 (by rw [hrc]),?_⟩)⟩
   have c2:(W.putObj (s0+1) (.loop { rc .ready with state:=.busy })).heap[s0+1]?=some (.loop { rc .ready with state:=.busy }):=World.putObj_heap_same hlt
   have c3:(W.putObj (s0+1) (.loop { rc .ready with state:=.busy })).heap[s0]?=some (.deferred (some [])):=(World.putObj_heap_other (by omega)).trans b3
   have c4:(W.putObj (s0+1) (.loop { rc .ready with state:=.busy })).heap[c]?=W.heap[c]?:=World.putObj_heap_other (by omega)
   refine wpIn_mono (hbody _ pre x _ (hI.putObj _ b1 (by omega) b2 rfl) hpre) ?_
   rintro e a3 W3 hp
   cases e with
   | normal =>
    obtain ⟨d1,d2,d3⟩:=hp
    have e2:=d1.same _ _ (by omega) c2 rfl
    have e3:=d1.same _ _ (Nat.le_refl _) c3 rfl
    have hlt3:=lt_of_block e2
    have hend:=run_endRound (P:=P) (r:={ rc .ready with state:=.busy }) none e2
    refine ⟨_,_,hend,rfl,⟨hI.putObj _ d3 (by omega) e2 rfl,?_,(World.putObj_heap_other (by omega)).trans e3⟩,(World.putObj_heap_other (by omega)).trans (d2.trans c4)⟩
    rw [World.putObj_heap_same hlt3,hrc]
    rfl
   | ret=>exact hp.elim
   | exit id=>exact hp.elim
   | goto t=>exact hp.elim
   | panic ch=>exact hp.elim
   | outgrown=>exact hp.elim
  .rintro e W2 ⟨⟨v,rfl⟩,b1,b2,b3⟩
   have hend:=run_endLoop (P:=P) b2 (by rw [hrc];simp)
   rw [hrc] at hend
   exact ⟨none,_,hend,hdone _ _ (Nat.le_refl _) (hI.putObj _ b1 (by omega) b2 rfl) ((World.putObj_heap_other (by omega)).trans b3)⟩
end
end Go.Proofs.YtkdbjelhkfdfjaaGreatDoor

