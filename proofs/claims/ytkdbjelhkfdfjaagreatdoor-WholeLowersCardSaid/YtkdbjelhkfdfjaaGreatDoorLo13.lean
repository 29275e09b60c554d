/-
  Contracts that the law rests on. Conditions: none.
-/
import Derived.Test.YtkdbjelhkfdfjaaGreatDoorLo08
import Derived.Test.YtkdbjelhkfdfjaaGreatDoorLo12
set_option linter.unusedVariables false
set_option maxRecDepth 100000
set_option maxHeartbeats 32000000
namespace Go.Proofs.YtkdbjelhkfdfjaaGreatDoor
structure Tops (E:Ent) (L R U top:Nat->Option Nat):Prop where
 bin:Bin E L R U (fun y=>∃g,top g=some y)
 mine:∀g t,top g=some t->isIn E g t
 free:∀y,E y=none->U y=none
theorem isIn_one {E:Ent} {g h x:Nat} (a:isIn E g x) (b:isIn E h x):g=h:=by
 obtain ⟨k,e⟩:=a
 obtain ⟨l,f⟩:=b
 rw [e] at f;cases f;rfl
section
variable {E:Ent} {L R U top L0 R0:Nat->Option Nat} {To:Nat->Prop} {n h g t x:Nat} {rest:Option Nat}
theorem Tops.first (z:Tops E L R U top) (hn:∀y,(E y).isSome->y<n) (e:top g=some t):least E g t :=
 z.bin.least hn (z.mine g t e) fun x ⟨g',e'⟩ hx=>by
  have:=isIn_one (z.mine g' x e') hx
  subst this
  rw [e] at e';cases e';rfl
theorem Tops.none_of (z:Tops E L R U top) (hn:∀y,(E y).isSome->y<n) (e:top g=none):∀x,¬isIn E g x:=by
 intro x hx
 obtain ⟨t,⟨g',e'⟩,h2⟩:=z.bin.top_of hn hx
 have:=isIn_one (z.mine g' t e') h2
 subst this
 rw [e] at e';cases e'
theorem Tops.init:Tops (fun _=>none) (fun _=>none) (fun _=>none) (fun _=>none) (fun _=>none) :=
 ⟨⟨by simp,by simp,by simp,by simp,by simp⟩,by simp,by simp⟩
theorem Tops.insert (z:Tops E L R U top) (he:E x=none) (k:Int×Nat) :
  Zip (put E x (some (h,k))) L R U (fun y=>∃g,g≠h∧top g=some y) L R h [] (top h) (some x):=by
 have hnx:∀g y,top g=some y->y≠x:=by
  rintro g y e rfl
  have:=(z.mine g y e).some
  rw [he] at this;cases this
 have hb:=z.bin.come he (z.free x he) (h,k) (T':=fun y=>(∃g,top g=some y)∨y=x) (fun y=>Iff.rfl)
 refine Zip.start hb (fun y=>?_) ?_ ?_ ?_ ?_
 .constructor
  .rintro (⟨g,e⟩|rfl)
   .by_cases c:g=h
    .subst c;exact .inr (.inl e)
    .exact .inl ⟨g,c,e⟩
   .exact .inr (.inr rfl)
  .rintro (⟨g,_,e⟩|e|e)
   .exact .inl ⟨g,e⟩
   .exact .inl ⟨h,e⟩
   .cases e;exact .inr rfl
 .intro y e
  refine ⟨?_,?_⟩
  .rintro ⟨g,c,e'⟩
   exact c (isIn_one (z.mine g y e') (z.mine h y e))
  .rw [isIn_put_other (hnx h y e)];exact z.mine h y e
 .intro y e
  cases e
  exact ⟨fun ⟨g,_,e'⟩=>hnx g x e' rfl,⟨k,put_same _ _ _⟩⟩
 .intro y e c
  cases c
  exact hnx h x e rfl
 .intro y e
  by_cases c:y=x
  .subst c;rw [put_same] at e;cases e
  .rw [put_other E x _ c] at e;exact z.free y e
theorem Tops.merged (z:Zip E L R U To L0 R0 h [] rest none) (hT:∀y,To y↔∃g,g≠h∧top g=some y) (hm:∀g t,g≠h->top g=some t->isIn E g t):Tops E L R U (upd top h rest):=by
 refine ⟨z.bin.cong fun y=>?_,?_,z.free⟩
 .constructor
  .rintro ⟨g,e⟩
   by_cases c:g=h
   .subst c;rw [upd_same] at e;exact .inr (.inr (.inl e))
   .rw [upd_other _ _ c] at e;exact .inl ((hT y).2 ⟨g,c,e⟩)
  .rintro (c|c|c|c)
   .obtain ⟨g,d,e⟩:=(hT y).1 c
    exact ⟨g,by rw [upd_other _ _ d];exact e⟩
   .cases c
   .exact ⟨h,by rw [upd_same];exact c⟩
   .cases c
 .intro g t e
  by_cases c:g=h
  .subst c;rw [upd_same] at e;exact (z.na t e).2.2
  .rw [upd_other _ _ c] at e;exact hm g t c e
theorem Tops.cut (z:Tops E L R U top) (e:top h=some x) :
  Zip E (upd L x none) (upd R x none) (offU (offU U (L x)) (R x)) (fun y=>∃g,top g=some y) (upd L x none) (upd R x none) h [] (L x) (R x):=by
 have hx:=z.mine h x e
 have hxU:=(z.bin.top x ⟨h,e⟩).2
 have hnoT:∀y,U y=some x->¬∃g,top g=some y:=by
  intro y h1 h2
  rw [(z.bin.top y h2).2] at h1;cases h1
 have b1:Bin E (upd L x none) R (offU U (L x)) (fun y=>(∃g,top g=some y)∨L x=some y):=by
  cases c:L x with
  | none =>
   rw [show upd L x none=L by rw [<-c];exact upd_self L x]
   exact z.bin.cong fun y=>by simp
  | some l=>exact z.bin.cutL c fun y=>by simp [eq_comm]
 have b2:Bin E (upd L x none) (upd R x none) (offU (offU U (L x)) (R x)) (fun y=>((∃g,top g=some y)∨L x=some y)∨R x=some y):=by
  cases c:R x with
  | none =>
   rw [show upd R x none=R by rw [<-c];exact upd_self R x]
   exact b1.cong fun y=>by simp
  | some r=>exact b1.cutR c fun y=>by simp [eq_comm]
 refine Zip.start b2 (fun y=>?_) ?_ ?_ ?_ ?_
 .exact or_assoc
 .intro y c
  obtain ⟨u1,u2,u3⟩:=z.bin.left x y c
  exact ⟨hnoT y u1,by rw [<-hp_some,<-u2];exact isIn_hp hx⟩
 .intro y c
  obtain ⟨u1,u2,u3⟩:=z.bin.right x y c
  exact ⟨hnoT y u1,by rw [<-hp_some,<-u2];exact isIn_hp hx⟩
 .intro y c d
  exact z.bin.lr x y c d
 .intro y c
  exact offU_none (offU_none (z.free y c))
theorem Tops.dropped (z:Zip E L R U (fun y=>∃g,top g=some y) L0 R0 h [] rest none) (e:top h=some x) (hm:∀g t,top g=some t->isIn E g t) (hl:L0 x=none) (hr:R0 x=none) :
  Tops (put E x none) L R U (upd top h rest):=by
 obtain ⟨f1,f2⟩:=z.fix x ⟨h,e⟩
 have hx:=hm h x e
 have hu:=(z.bin.top x (.inl ⟨h,e⟩)).2
 refine ⟨z.bin.drop (.inl ⟨h,e⟩) (f1.trans hl) (f2.trans hr) fun y=>?_,?_,?_⟩
 .constructor
  .rintro ⟨g,c⟩
   by_cases d:g=h
   .subst d
    rw [upd_same] at c
    refine ⟨.inr (.inr (.inl c)),?_⟩
    rintro rfl
    exact (z.na y c).2.1 ⟨g,e⟩
   .rw [upd_other _ _ d] at c
    refine ⟨.inl ⟨g,c⟩,?_⟩
    rintro rfl
    exact d (isIn_one (hm g y c) hx)
  .rintro ⟨⟨g,c⟩|c|c|c,d⟩
   .refine ⟨g,?_⟩
    have:g≠h:=by
     rintro rfl
     rw [e] at c;cases c;exact d rfl
    rw [upd_other _ _ this];exact c
   .cases c
   .exact ⟨h,by rw [upd_same];exact c⟩
   .cases c
 .intro g t c
  by_cases d:g=h
  .subst d
   rw [upd_same] at c
   have:t≠x:=by
    rintro rfl
    exact (z.na t c).2.1 ⟨g,e⟩
   rw [isIn_put_other this];exact (z.na t c).2.2
  .rw [upd_other _ _ d] at c
   have:t≠x:=by
    rintro rfl
    exact d (isIn_one (hm g t c) hx)
   rw [isIn_put_other this];exact hm g t c
 .intro y c
  by_cases d:y=x
  .subst d;exact hu
  .rw [put_other E x _ d] at c;exact z.free y c
end
end Go.Proofs.YtkdbjelhkfdfjaaGreatDoor
namespace Go.Proofs.YtkdbjelhkfdfjaaGreatDoor
open Go.RowKit
structure RowR where
 p:Nat
 mb:Nat
 ao:Option Addr
 ca:Nat
 n:Nat
 v:Nat->Nat
def RowR.fp (r:RowR):List Nat:=rfp r.p r.mb r.ao
def nestF (p g:Nat) (Fc:List Nat) (hs:Nat) (foot:Nat->List Nat):List Nat:=p::g::(Fc++(List.range hs).flatMap fun i=>foot (i+1))
theorem nestF_mem {p g:Nat} {Fc:List Nat} {hs:Nat} {foot:Nat->List Nat} {b:Nat}:b∈nestF p g Fc hs foot↔b=p∨b=g∨b∈Fc∨∃i,1<=i∧i<=hs∧b∈foot i:=by
 simp only [nestF,List.mem_cons,List.mem_append,List.mem_flatMap,List.mem_range]
 constructor
 .rintro (c|c|c|⟨i,hi,c⟩)
  .exact .inl c
  .exact .inr (.inl c)
  .exact .inr (.inr (.inl c))
  .exact .inr (.inr (.inr ⟨i+1,by omega,by omega,c⟩))
 .rintro (c|c|c|⟨i,h1,h2,c⟩)
  .exact .inl c
  .exact .inr (.inl c)
  .exact .inr (.inr (.inl c))
  .exact .inr (.inr (.inr ⟨i - 1,by omega,by rw [show i - 1+1=i by omega];exact c⟩))
def rowsV (r:Nat->Nat) (n:Nat):List Value:=(List.range n).map fun i=>if i=0 then .pointer none else .pointer (some ⟨r i,0,none⟩)
theorem rowsV_at (r:Nat->Nat) (n i:Nat) (h0:1<=i) (h1:i<n):(rowsV r n)[i]?=some (.pointer (some ⟨r i,0,none⟩)):=by
 simp [rowsV,h1,show i≠0 by omega]
theorem rowsV_snoc (r:Nat->Nat) (n:Nat) (h0:1<=n):rowsV r (n+1)=rowsV r n++[.pointer (some ⟨r n,0,none⟩)]:=by
 simp [rowsV,List.range_succ,show n≠0 by omega]
theorem rowsV_congr {r r':Nat->Nat} {n:Nat} (h:∀i,1<=i->i<n->r' i=r i):rowsV r' n=rowsV r n:=by
 apply List.ext_getElem (by simp [rowsV])
 intro i h1 h2
 simp only [rowsV,List.length_map,List.length_range] at h1
 simp only [rowsV,List.getElem_map,List.getElem_range]
 by_cases c:i=0
 .simp [c]
 .simp only [if_neg c];rw [h i (by omega) h1]
structure RowOk (E:Ent) (d g:Nat) (r:RowR):Prop where
 inj:Inj r.v r.n
 mem:∀x,isIn E g x↔∃j,j<r.n∧r.v j=x
 heap:Heap' d (ahead E) r.v r.n
structure DaryP (w:World) (p pc gr rc d:Nat) (Fc:List Nat) (cap hs:Nat) (E:Ent) (R:Nat->RowR):Prop where
 blk:w.heap[p]?=some (.cells #[.pointer (some ⟨pc,0,none⟩),.int .i64 (d:Int),.slice (some ⟨gr,0,none⟩) (hs+1) rc] 208 (0,0))
 ce:CellsAt w Fc pc cap hs E
 rows:w.ownsRow 0 203 1 (.slice (some ⟨gr,0,none⟩) (hs+1) rc) (hs+1) (rowsV (fun i=>(R i).p) (hs+1))
 ne:p≠gr∧p∉Fc∧gr∉Fc
 own:∀g,1<=g->g<=hs->∀b∈(R g).fp,b≠p∧b≠gr∧b∉Fc
 dis:∀g g',1<=g->g<=hs->1<=g'->g'<=hs->g≠g'->∀b∈(R g).fp,b∉(R g').fp
 mem:∀g,1<=g->g<=hs->RowFull w (R g).p d (R g).ao (R g).ca (R g).mb (R g).n (R g).v
 ok:∀g,1<=g->g<=hs->RowOk E d g (R g)
 d1:2<=d
 d2:d<=16
def DaryAt (w:World) (F:List Nat) (p cap hs:Nat) (E:Ent):Prop :=
 ∃(pc gr rc d:Nat) (Fc:List Nat) (R:Nat->RowR),F=nestF p gr Fc hs (fun g=>(R g).fp)∧DaryP w p pc gr rc d Fc cap hs E R
section
variable {w w':World} {p pc gr rc d cap hs:Nat} {F Fc S:List Nat} {E E':Ent} {R:Nat->RowR}
theorem DaryP.lt (h:DaryP w p pc gr rc d Fc cap hs E R):∀b∈nestF p gr Fc hs (fun g=>(R g).fp),b<w.heap.size:=by
 intro b hb
 rcases nestF_mem.1 hb with rfl|rfl|c|⟨i,h1,h2,c⟩
 .exact lt_of_block h.blk
 .exact row_lt h.rows
 .exact h.ce.lt b c
 .exact (h.mem i h1 h2).lt b c
theorem DaryP.keep (h:DaryP w p pc gr rc d Fc cap hs E R) (k:Keeps S w w') (hS:∀b∈nestF p gr Fc hs (fun g=>(R g).fp),b∉S):DaryP w' p pc gr rc d Fc cap hs E R :=
 ⟨k.blk h.blk (hS p (nestF_mem.2 (.inl rfl))),h.ce.keep k (fun b hb=>hS b (nestF_mem.2 (.inr (.inr (.inl hb))))),k.row h.rows (hS gr (nestF_mem.2 (.inr (.inl rfl)))),h.ne,h.own,h.dis,
  fun g h1 h2=>(h.mem g h1 h2).keep k (fun b hb=>hS b (nestF_mem.2 (.inr (.inr (.inr ⟨g,h1,h2,hb⟩))))),h.ok,h.d1,h.d2⟩
theorem DaryAt.lt (h:DaryAt w F p cap hs E):∀b∈F,b<w.heap.size:=by obtain ⟨pc,gr,rc,d,Fc,R,rfl,h⟩:=h;exact h.lt
theorem DaryAt.mem (h:DaryAt w F p cap hs E):p∈F:=by obtain ⟨pc,gr,rc,d,Fc,R,rfl,h⟩:=h;exact nestF_mem.2 (.inl rfl)
theorem DaryAt.keep (h:DaryAt w F p cap hs E) (k:Keeps S w w') (hS:∀b∈F,b∉S):DaryAt w' F p cap hs E:=by
 obtain ⟨pc,gr,rc,d,Fc,R,rfl,h⟩:=h
 exact ⟨pc,gr,rc,d,Fc,R,rfl,h.keep k hS⟩
theorem DaryAt.ok (h:DaryAt w F p cap hs E):EntOk E cap hs:=by obtain ⟨pc,gr,rc,d,Fc,R,rfl,h⟩:=h;exact h.ce.ok
theorem DaryP.c0 (h:DaryP w p pc gr rc d Fc cap hs E R):w.cell? ⟨p,0,none⟩=some (.pointer (some ⟨pc,0,none⟩)):=by rw [cell_of_blk h.blk];rfl
theorem DaryP.c2 (h:DaryP w p pc gr rc d Fc cap hs E R):w.cell? ⟨p,2,none⟩=some (.slice (some ⟨gr,0,none⟩) (hs+1) rc):=by rw [cell_of_blk h.blk];rfl
theorem DaryP.row (h:DaryP w p pc gr rc d Fc cap hs E R) {g:Nat} (h1:1<=g) (h2:g<=hs):w.cell? ⟨gr,g,none⟩=some (.pointer (some ⟨(R g).p,0,none⟩)):=by
 rw [h.rows.cellAt g (by omega)]
 exact rowsV_at _ _ _ h1 (by omega)
theorem DaryP.ord (h:DaryP w p pc gr rc d Fc cap hs E R):OrdAt w p pc Fc cap hs E:=⟨h.c0,lt_of_block h.blk,h.ne.2.1,h.ce⟩
theorem DaryP.apart (h:DaryP w p pc gr rc d Fc cap hs E R) {g:Nat} (h1:1<=g) (h2:g<=hs):∀b∈rfp (R g).p (R g).mb (R g).ao,b∉p::Fc:=fun b hb e=>by
 obtain ⟨a1,a2,a3⟩:=h.own g h1 h2 b hb
 simp only [List.mem_cons] at e
 rcases e with e|e
 .exact a1 e
 .exact a3 e
theorem DaryP.isSome (h:DaryP w p pc gr rc d Fc cap hs E R) {g:Nat} (h1:1<=g) (h2:g<=hs):∀j,j<(R g).n->(E ((R g).v j)).isSome:=fun j hj=>(((h.ok g h1 h2).mem _).2 ⟨j,hj,rfl⟩).some
theorem DaryP.change (h:DaryP w p pc gr rc d Fc cap hs E R) {g:Nat} (h1:1<=g) (h2:g<=hs) {r:RowR} (k:Keeps ((R g).fp++Fc) w w') (hp:r.p=(R g).p) (hf:∀b∈r.fp,b∈(R g).fp∨w.heap.size<=b)
  (hc:CellsAt w' Fc pc cap hs E') (hr:RowFull w' r.p d r.ao r.ca r.mb r.n r.v) (ho:RowOk E' d g r) (hoth:∀g',1<=g'->g'<=hs->g'≠g->RowOk E' d g' (R g')) :
  DaryP w' p pc gr rc d Fc cap hs E' (upd R g r)∧Moved (nestF p gr Fc hs (fun g=>(R g).fp)) w (nestF p gr Fc hs (fun g'=>(upd R g r g').fp)) w':=by
 have hlt:=h.lt
 have hnot:∀b,b∉(R g).fp->b∉Fc->b∉(R g).fp++Fc:=fun b a c e=>by rcases List.mem_append.1 e with e|e;exact a e;exact c e
 have hpg:p∉(R g).fp:=fun e=>(h.own g h1 h2 p e).1 rfl
 have hgg:gr∉(R g).fp:=fun e=>(h.own g h1 h2 gr e).2.1 rfl
 have hD:DaryP w' p pc gr rc d Fc cap hs E' (upd R g r):=by
  refine ⟨k.blk h.blk (hnot p hpg h.ne.2.1),hc,?_,h.ne,?_,?_,?_,?_,h.d1,h.d2⟩
  .have:=k.row h.rows (hnot gr hgg h.ne.2.2)
   rw [rowsV_congr (r:=fun i=>(R i).p) (r':=fun i=>(upd R g r i).p)]
   .exact this
   .intro i a b
    by_cases c:i=g
    .subst c;simp only [upd_same];exact hp
    .simp only [upd_other R r c]
  .intro g' a b x hx
   by_cases c:g'=g
   .subst c
    rw [upd_same] at hx
    rcases hf x hx with e|e
    .exact h.own g' a b x e
    .have l1:=hlt p (nestF_mem.2 (.inl rfl))
     have l2:=hlt gr (nestF_mem.2 (.inr (.inl rfl)))
     exact ⟨by omega,by omega,fun e2=>by have:=h.ce.lt x e2;omega⟩
   .rw [upd_other R r c] at hx;exact h.own g' a b x hx
  .intro g1 g2 a1 a2 b1 b2 hne x hx hx2
   by_cases c1:g1=g
   .subst c1
    rw [upd_same] at hx
    rw [upd_other R r (fun e=>hne e.symm)] at hx2
    rcases hf x hx with e|e
    .exact h.dis g1 g2 a1 a2 b1 b2 hne x e hx2
    .have:=hlt x (nestF_mem.2 (.inr (.inr (.inr ⟨g2,b1,b2,hx2⟩))));omega
   .rw [upd_other R r c1] at hx
    by_cases c2:g2=g
    .subst c2
     rw [upd_same] at hx2
     rcases hf x hx2 with e|e
     .exact h.dis g1 g2 a1 a2 b1 b2 hne x hx e
     .have:=hlt x (nestF_mem.2 (.inr (.inr (.inr ⟨g1,a1,a2,hx⟩))));omega
    .rw [upd_other R r c2] at hx2
     exact h.dis g1 g2 a1 a2 b1 b2 hne x hx hx2
  .intro g' a b
   by_cases c:g'=g
   .subst c;rw [upd_same];exact hr
   .rw [upd_other R r c]
    exact (h.mem g' a b).keep k fun x hx=>hnot x (fun e=>h.dis g' g a b h1 h2 c x hx e) (fun e=>(h.own g' a b x hx).2.2 e)
  .intro g' a b
   by_cases c:g'=g
   .subst c;rw [upd_same];exact ho
   .rw [upd_other R r c];exact hoth g' a b c
 refine ⟨hD,k.mono (fun b hb=>.inl (nestF_mem.2 ?_)),fun b hb=>?_,hD.lt⟩
 .rcases List.mem_append.1 hb with e|e
  .exact .inr (.inr (.inr ⟨g,h1,h2,e⟩))
  .exact .inr (.inr (.inl e))
 .rcases nestF_mem.1 hb with e|e|e|⟨g',a1,a2,e⟩
  .exact .inl (nestF_mem.2 (.inl e))
  .exact .inl (nestF_mem.2 (.inr (.inl e)))
  .exact .inl (nestF_mem.2 (.inr (.inr (.inl e))))
  .by_cases c:g'=g
   .subst c
    rw [upd_same] at e
    rcases hf b e with f|f
    .exact .inl (nestF_mem.2 (.inr (.inr (.inr ⟨g',a1,a2,f⟩))))
    .exact .inr f
   .rw [upd_other R r c] at e
    exact .inl (nestF_mem.2 (.inr (.inr (.inr ⟨g',a1,a2,e⟩))))
end
theorem isIn_put {E:Ent} {x y g h:Nat} {k:Int×Nat}:isIn (put E x (some (h,k))) g y↔(y=x∧g=h)∨(y≠x∧isIn E g y):=by
 by_cases c:y=x
 .subst c
  simp only [isIn,put_same,Option.some.injEq,Prod.mk.injEq]
  constructor
  .rintro ⟨k',e,_⟩;exact .inl ⟨trivial,e.symm⟩
  .rintro (⟨_,e⟩|⟨e,_⟩)
   .exact ⟨k,e.symm,rfl⟩
   .exact absurd rfl e
 .rw [isIn_put_other c]
  constructor
  .intro h;exact .inr ⟨c,h⟩
  .rintro (⟨e,_⟩|⟨_,h⟩)
   .exact absurd e c
   .exact h
theorem isIn_drop {E:Ent} {x y g:Nat}:isIn (put E x none) g y↔y≠x∧isIn E g y:=by
 by_cases c:y=x
 .subst c
  simp [isIn,put_same]
 .rw [isIn_put_other c];simp [c]
theorem RowOk.other {E:Ent} {d g x:Nat} {r:RowR} {o:Option (Nat×Int×Nat)} (h:RowOk E d g r) (hd:2<=d) (hx:∀j,j<r.n->r.v j≠x) (hm:∀y,isIn (put E x o) g y↔isIn E g y):RowOk (put E x o) d g r :=
 ⟨h.inj,fun y=>(hm y).trans (h.mem y),h.heap.cong hd (fun _ _=>rfl) fun i j hi hj=>ahead_put_other (hx i hi) (hx j hj)⟩
end Go.Proofs.YtkdbjelhkfdfjaaGreatDoor
namespace Go.Proofs.YtkdbjelhkfdfjaaGreatDoor
theorem Par.top_of {E:Ent} {U:Nat->Option Nat} {n g x:Nat} (hb:Par E U) (hn:∀y,(E y).isSome->y<n) (hx:isIn E g x):∃t,U t=none∧isIn E g t:=by
 have key:∀m x,before E n x<=m->isIn E g x->∃t,U t=none∧isIn E g t:=by
  intro m
  induction m with
  | zero =>
   intro x hm hx
   cases c:U x with
   | none=>exact ⟨x,c,hx⟩
   | some p =>
    have h3:=hb x p c
    have:=before_lt (hn p (ahead_some h3.2).1) h3.2
    omega
  | succ m ih =>
   intro x hm hx
   cases c:U x with
   | none=>exact ⟨x,c,hx⟩
   | some p =>
    have h3:=hb x p c
    have:=before_lt (hn p (ahead_some h3.2).1) h3.2
    exact ih p (by omega) (by rw [<-hp_some,h3.1];exact isIn_hp hx)
 exact key _ x (Nat.le_refl _) hx
structure Pairs (E:Ent) (K:Nat->List Nat) (kid next back U top:Nat->Option Nat):Prop where
 ties:Ties K kid next back U
 par:Par E U
 all:∀g y,top g=some y↔(isIn E g y∧U y=none)
structure Pair (E:Ent) (K:Nat->List Nat) (kid next back U:Nat->Option Nat) (h:Nat) (l:List Nat) (top:Nat->Option Nat):Prop where
 ties:Ties K kid next back U
 par:Par E U
 here:∀y,y∈l↔(isIn E h y∧U y=none)
 nd:l.Nodup
 apart:∀g,g≠h->∀y,top g=some y↔(isIn E g y∧U y=none)
section
variable {E:Ent} {K:Nat->List Nat} {kid next back U top:Nat->Option Nat} {n g h t x a b:Nat} {l l':List Nat} {o:Option Nat}
theorem Pairs.init:Pairs (fun _=>none) (fun _=>[]) (fun _=>none) (fun _=>none) (fun _=>none) (fun _=>none) (fun _=>none) :=
 ⟨Ties.init,(by intro x p e;cases e),(by intro g y;simp [isIn])⟩
theorem Pairs.first (z:Pairs E K kid next back U top) (hn:∀y,(E y).isSome->y<n) (e:top g=some t):least E g t :=
 z.par.least hn ((z.all g t).1 e).1 fun x hx hu hne=>by
  have:=(z.all g x).2 ⟨hx,hu⟩
  rw [e] at this;cases this;exact absurd rfl hne
theorem Pairs.none_of (z:Pairs E K kid next back U top) (hn:∀y,(E y).isSome->y<n) (e:top g=none):∀x,¬isIn E g x:=by
 intro x hx
 obtain ⟨t,h1,h2⟩:=z.par.top_of hn hx
 rw [(z.all g t).2 ⟨h2,h1⟩] at e;cases e
theorem Pairs.opened (z:Pairs E K kid next back U top) (h:Nat):Pair E K kid next back U h (top h).toList top :=
 ⟨z.ties,z.par,fun y=>by rw [<-z.all];cases top h<;>simp [eq_comm],by cases top h<;>simp,fun g _ y=>z.all g y⟩
theorem Pair.shut (z:Pair E K kid next back U h l top) (hl:∀y,y∈l↔o=some y):Pairs E K kid next back U (upd top h o) :=
 ⟨z.ties,z.par,fun g y=>by
  by_cases c:g=h
  .subst c;rw [upd_same,<-hl];exact z.here y
  .rw [upd_other _ _ c];exact z.apart g c y⟩
theorem Pair.link (z:Pair E K kid next back U h l top) (ha:a∈l) (hb:b∈l) (hab:ahead E a b=true) (hl:∀y,y∈l'↔y∈l∧y≠b) (hn:l'.Nodup) :
  Pair E (upd K a (b::K a)) (upd kid a (some b)) (upd next b (kid a)) (backOf kid back a b) (upd U b (some a)) h l' top:=by
 obtain ⟨a1,a2⟩:=(z.here a).1 ha
 obtain ⟨b1,b2⟩:=(z.here b).1 hb
 refine ⟨z.ties.link (ahead_ne hab) b2 (by rw [a2];simp),z.par.attach (by rw [isIn_hp a1,isIn_hp b1]) hab,fun y=>?_,hn,fun g c y=>?_⟩
 .rw [hl,z.here]
  by_cases d:y=b
  .subst d;rw [upd_same];simp
  .rw [upd_other _ _ d];simp [d]
 .rw [z.apart g c]
  by_cases d:y=b
  .subst d
   rw [upd_same]
   constructor
   .intro e;exact absurd (isIn_one e.1 b1) c
   .intro e;cases e.2
  .rw [upd_other _ _ d]
theorem Pairs.insert (z:Pairs E K kid next back U top) (he:E x=none) (k:Int×Nat):Pair (put E x (some (h,k))) K kid next back U h ((top h).toList++[x]) top:=by
 have hu:=z.par.off he
 have key:∀g y,top g=some y->y≠x:=by
  rintro g y e rfl
  have:=((z.all g y).1 e).1.some
  rw [he] at this;cases this
 refine ⟨z.ties,z.par.come he _,fun y=>?_,?_,fun g c y=>?_⟩
 .simp only [List.mem_append,List.mem_singleton]
  by_cases d:y=x
  .subst d;simp only [or_true,true_iff];exact ⟨⟨k,put_same _ _ _⟩,hu⟩
  .rw [isIn_put_other d,<-z.all]
   cases top h with
   | none=>simp [d]
   | some t=>simp [d,eq_comm]
 .cases e:top h with
  | none=>simp
  | some y=>simpa using key h y e
 .rw [z.all]
  by_cases d:y=x
  .subst d
   constructor
   .rintro ⟨⟨k',e⟩,_⟩;rw [he] at e;cases e
   .rintro ⟨⟨k',e⟩,_⟩;rw [put_same] at e;cases e;exact absurd rfl c
  .rw [isIn_put_other d]
theorem Pair.cut {X:List Nat} (z:Pair E K kid next back U h (x::X) top) :
  Pair E (upd K x []) (upd kid x none) (updL next (K x) none) (updL back (K x) none) (updL U (K x) none) h (x::K x++X) top:=by
 obtain ⟨x1,x2⟩:=(z.here x).1 (by simp)
 have hk:∀y,y∈K x->isIn E h y:=by
  intro y hy
  have:=z.par y x ((z.ties.mem x y).1 hy)
  rw [<-hp_some,<-this.1];exact isIn_hp x1
 have hx:x∉K x:=by
  intro c
  rw [z.ties.mem,x2] at c;cases c
 have hX:∀y∈X,y∉K x:=by
  intro y hy c
  rw [z.ties.mem,((z.here y).1 (by simp [hy])).2] at c;cases c
 have hnd:=List.nodup_cons.1 z.nd
 refine ⟨z.ties.clear x,?_,fun y=>?_,?_,fun g c y=>?_⟩
 .exact z.par.scatter (fun y=>y∈K x)
 .rw [List.cons_append]
  simp only [List.mem_cons,List.mem_append]
  by_cases d:y∈K x
  .rw [updL_in _ _ d];simp [d,hk y d]
  .rw [updL_out _ _ d]
   simp only [d,false_or]
   rw [<-z.here y];simp
 .rw [List.cons_append]
  refine List.nodup_cons.2 ⟨fun c=>?_,List.nodup_append.2 ⟨z.ties.nd x,hnd.2,fun y hy y' hy' e=>hX y' hy' (e ▸ hy)⟩⟩
  rcases List.mem_append.1 c with c|c
  .exact hx c
  .exact hnd.1 c
 .rw [z.apart g c]
  by_cases d:y∈K x
  .rw [updL_in _ _ d,(z.ties.mem x y).1 d]
   constructor
   .intro e;cases e.2
   .intro e;exact absurd (isIn_one e.1 (hk y d)) c
  .rw [updL_out _ _ d]
theorem Pair.drop (z:Pair E K kid next back U h l top) (hx:x∈l) (hk:K x=[]) (hl:∀y,y∈l∧y≠x↔o=some y):Pairs (put E x none) K kid next back U (upd top h o):=by
 obtain ⟨x1,x2⟩:=(z.here x).1 hx
 refine ⟨z.ties,z.par.drop x2 fun y c=>?_,fun g y=>?_⟩
 .have:=(z.ties.mem x y).2 c
  rw [hk] at this;cases this
 .by_cases d:y=x
  .subst d
   have h1:¬isIn (put E y none) g y:=by rintro ⟨k,e⟩;rw [put_same] at e;cases e
   constructor
   .intro e
    by_cases c:g=h
    .subst c;rw [upd_same,<-hl] at e;exact absurd rfl e.2
    .rw [upd_other _ _ c,z.apart g c] at e;exact absurd (isIn_one e.1 x1) c
   .intro e;exact absurd e.1 h1
  .rw [isIn_put_other d]
   by_cases c:g=h
   .subst c;rw [upd_same,<-hl,z.here];simp [d]
   .rw [upd_other _ _ c];exact z.apart g c y
end
end Go.Proofs.YtkdbjelhkfdfjaaGreatDoor
namespace Go.Proofs.YtkdbjelhkfdfjaaGreatDoor
open Go.RowKit
def topsV (top:Nat->Option Nat) (n:Nat):List Value:=(List.range n).map fun i=>.int .i64 (oZ (top i))
theorem topsV_set (top:Nat->Option Nat) (n h:Nat) (o:Option Nat):(topsV top n).set h (.int .i64 (oZ o))=topsV (upd top h o) n:=by
 apply List.ext_getElem (by simp [topsV])
 intro i h1 h2
 simp only [topsV,List.getElem_set,List.getElem_map,List.getElem_range]
 by_cases c:h=i
 .subst c;simp [upd_same]
 .simp [c,upd_other top o (fun e=>c e.symm)]
theorem topsV_snoc (top:Nat->Option Nat) (n:Nat) (e:top n=none):topsV top (n+1)=topsV top n++[.int .i64 (-1)]:=by
 simp [topsV,List.range_succ,e,oZ]
structure TopRow (w:World) (g n c:Nat) (top:Nat->Option Nat):Prop where
 row:w.ownsRow 0 3 1 (.slice (some ⟨g,0,none⟩) n c) n (topsV top n)
 zero:top 0=none
section
variable {w w':World} {g n c:Nat} {top:Nat->Option Nat} {S:List Nat}
theorem TopRow.keep (h:TopRow w g n c top) (k:Keeps S w w') (hg:g∉S):TopRow w' g n c top:=⟨k.row h.row hg,h.zero⟩
theorem TopRow.lt (h:TopRow w g n c top):g<w.heap.size:=row_lt h.row
theorem TopRow.at (h:TopRow w g n c top) {i:Nat} (hi:i<n):w.cell? ⟨g,i,none⟩=some (.int .i64 (oZ (top i))):=by
 rw [h.row.cellAt i (by omega)]
 simp [topsV,hi]
theorem TopRow.frozen (h:TopRow w g n c top) (i:Nat):w.frozen? ⟨g,i,none⟩=false:=h.row.frozenAt i
theorem TopRow.set (h:TopRow w g n c top) {i:Nat} (hi:i<n) (h0:i≠0) (o:Option Nat):TopRow (w.setCell ⟨g,i,none⟩ (.int .i64 (oZ o))) g n c (upd top i o):=by
 refine ⟨?_,by rw [upd_other top o (fun e=>h0 e.symm)];exact h.zero⟩
 have:=Rg.row_set h.row i hi (.int .i64 (oZ o))
 rwa [topsV_set] at this
theorem TopRow.like (h:TopRow w g n c top) (e:w'.heap=w.heap):TopRow w' g n c top:=⟨by
  refine ⟨h.row.1,?_⟩
  rw [e];exact h.row.2,h.zero⟩
end
section
variable {P:Program}
theorem step_push2 {ops:Array Oper} {o:Oper} {a:Act} {K:Act->World->Prop} {Q:Exit->Act->World->Prop} {E:Prop} (hgd:o.guard=none) (s x:Operand) (t e:TypeId)
  (ho:o.op=.call { callee:=.builtin .append,args:=#[s,x],argTypes:=#[t,t] })
  (z:Value) (ht:P.underlying t=some (.slice e)) (hi:(P.info? e).map (fun i=>(i.zero,i.size,i.bytes))=some (some z,1,8)) (hzs:z.cells.size=1)
  (w W:World) (y:Value) (hy:y.oneCell'=true) (c:Nat×Nat) (hW:W.heap=(w.alloc (.cells #[y] e c)).heap) (hW1:W.os=w.os) (hW2:W.tape=w.tape) (hW3:W.output=w.output)
  (v:Value) (n:Nat) (xs:List Value) (hs:a.eval s=v) (hown:w.ownsRow 0 e 1 v n xs) (hx:a.eval x=.slice (some ⟨w.heap.size,0,none⟩) 1 1)
  (h63:n+1<=maxLen) (hbytes:(n+1)*8<=140737488355328)
  (h:∀g' cap' w',w'.ownsRow 0 e 1 (.slice (some ⟨g',0,none⟩) (n+1) cap') (n+1) (xs++[y])->Keeps v.ownBlock.toList w w'->(v.ownBlock=some g'∨w.heap.size<=g')->K (a.put o.dst (.slice (some ⟨g',0,none⟩) (n+1) cap')) w') :
  if Region.wanted o (yielded ops a.tmps)=true then Oper.wp P o a W K Q else E:=by
 obtain ⟨i,hi,hz,hsize,hby⟩:=info_parts hi
 have hw:Region.wanted o (yielded ops a.tmps)=true:=by simp [Region.wanted,hgd]
 rw [if_pos hw]
 have hownW:W.ownsRow 0 e 1 v n xs:=by
  have:=hown.alloc (.cells #[y] e c)
  refine ⟨this.1,?_⟩
  rw [hW];exact this.2
 have hcell:∀j u,([y]:List Value)[j]?=some u->W.cell? ((⟨w.heap.size,0,none⟩:Addr).add j)=some u:=by
  intro j u hj
  match j,hj with
  | 0,hj =>
   simp at hj;subst hj
   have:W.heap[w.heap.size]?=some (.cells #[y] e c):=by rw [hW];exact blk_alloc_new _
   show W.cell? ⟨w.heap.size,0,none⟩=_
   rw [cell_of_blk this];rfl
 obtain ⟨v',w',hr,h2,h3,_,h5⟩:=run_append_own_at (P:=P) W 0 t o.type e i z 1 8 ht hi hz hsize hby hzs (by decide) v n xs hownW ⟨w.heap.size,0,none⟩ 1 1 [y] rfl hcell (by intro u hu;simp at hu;subst hu;exact hy) h63 hbytes (Nat.zero_le _)
 have k1:Keeps [] w W:=by
  have k:Keeps [] w (w.alloc (.cells #[y] e c)):=(Keeps.refl _ _).alloc _
  exact ⟨hW1.trans k.os,hW2.trans k.tape,hW3.trans k.output,by rw [hW];exact k.size,by rw [hW];exact k.block⟩
 have k2:Keeps v.ownBlock.toList W w':=(Keeps.refl _ _).grown h3 (fun k e=>.inl (by simp [e]))
 have hz':w.heap.size<=W.heap.size:=k1.size
 obtain ⟨g',cap',rfl,hg⟩:∃g' cap',v'=.slice (some ⟨g',0,none⟩) (n+1) cap'∧(v.ownBlock=some g'∨w.heap.size<=g'):=by
  rcases h2.2 with ⟨_,h0⟩|⟨g',cap',cur,e1,_⟩
  .omega
  .refine ⟨g',cap',e1,?_⟩
   rw [e1] at h5
   rcases h5 with q|q
   .exact .inl q.symm
   .simp [Value.ownBlock] at q;exact .inr (by omega)
 have hfin:=h g' cap' w' h2 ((k1.mono (T:=v.ownBlock.toList) (by simp)).trans k2 fun _ hb=>.inl hb) hg
 unfold Oper.wp execOp
 simp only [ho,resolve,invoke,builtin,Sem.run_bind,Sem.run_pure,Result.andThen_ok,List.map_toArray,List.map_cons,List.map_nil,hs,hx,hr]
 exact hfin
end
section
variable {w w5:World} {p g n x a b g' cap':Nat} {T:Nat->TwigR} {U:Nat->Option Nat} {o:Option Nat}
theorem twigV_up:upd (twigV T U) x ((twigV T U x).set 1 (.int .i64 (oZ o)))=twigV T (upd U x o):=by
 funext j
 by_cases e:j=x
 .subst e;rw [upd_same];simp [twigV,upd_same]
 .rw [upd_other _ _ e];simp only [twigV,upd_other U _ e]
theorem twigV_kids {t:TwigR}:upd (twigV T U) x ((twigV T U x).set 0 (.slice t.ao t.kids.length t.ca))=twigV (upd T x t) U:=by
 funext j
 by_cases e:j=x
 .subst e;rw [upd_same];simp [twigV,upd_same]
 .rw [upd_other _ _ e];simp only [twigV,upd_other T _ e]
theorem ForestAt.setUp (h:ForestAt w p g n T U) (hx:x<n) (ho:∀y,o=some y->y<n) :
  ForestAt (w.setCell ⟨g,x*2+1,none⟩ (.int .i64 (oZ o))) p g n T (upd U x o):=by
 have k:Keeps [g] w (w.setCell ⟨g,x*2+1,none⟩ (.int .i64 (oZ o))):=(Keeps.refl _ _).setCell (.inl (by simp)) _
 refine ⟨k.blk h.blk (by simpa using h.ne),?_,fun y hy=>ir_keep (h.rows y hy) k (fun q e=>by simpa using (h.own y hy q e).2),h.ne,h.own,h.dis,h.cap,fun y hy=>⟨(h.num y hy).1,(h.num y hy).2.1,fun z e=>?_⟩⟩
 .have:=h.arr.set hx (j:=1) (by decide) (.int .i64 (oZ o))
  rwa [twigV_up] at this
 .by_cases c:y=x
  .subst c;rw [upd_same] at e;exact ho z e
  .rw [upd_other _ _ c] at e;exact (h.num y hy).2.2 z e
theorem ForestAt.setKids (h:ForestAt w p g n T U) (ha:a<n) {t:TwigR} (k:Keeps ((T a).ao.toList.map (·.block)) w w5) (hr:Rg.IR 0 w5 (.slice t.ao t.kids.length t.ca) t.kids)
  (hf:∀q,t.ao=some q->(∃q',(T a).ao=some q'∧q'.block=q.block)∨w.heap.size<=q.block) (hl:t.kids.length<=65536) (hm:∀y∈t.kids,y<n) :
  ForestAt (w5.setCell ⟨g,a*2,none⟩ (.slice t.ao t.kids.length t.ca)) p g n (upd T a t) U∧Moved (treeF p g n T) w (treeF p g n (upd T a t)) (w5.setCell ⟨g,a*2,none⟩ (.slice t.ao t.kids.length t.ca)):=by
 have hlt:=h.lt
 have hno:∀y,(y=p∨y=g)->y∉(T a).ao.toList.map (·.block):=by
  intro y hy e
  simp only [List.mem_map,Option.mem_toList] at e
  obtain ⟨q,e1,e2⟩:=e
  obtain ⟨q1,q2⟩:=h.own a ha q e1
  rcases hy with rfl|rfl
  .exact q1 e2
  .exact q2 e2
 have hpl:=hlt p (treeF_mem.2 (.inl rfl))
 have hgl:=hlt g (treeF_mem.2 (.inr (.inl rfl)))
 have k5:Keeps [g] w5 (w5.setCell ⟨g,a*2,none⟩ (.slice t.ao t.kids.length t.ca)):=(Keeps.refl _ _).setCell (.inl (by simp)) _
 have hnew:∀q,t.ao=some q->q.block≠p∧q.block≠g:=by
  intro q e
  rcases hf q e with ⟨q',e1,e2⟩|e1
  .rw [<-e2];exact h.own a ha q' e1
  .exact ⟨by omega,by omega⟩
 have hdis:∀y,y<n->y≠a->∀q r,t.ao=some q->(T y).ao=some r->q.block≠r.block:=by
  intro y hy hne q r e1 e2 e3
  rcases hf q e1 with ⟨q',f1,f2⟩|f1
  .exact h.dis a y ha hy (fun e=>hne e.symm) q' r f1 e2 (f2.trans e3)
  .have:=hlt r.block (treeF_mem.2 (.inr (.inr ⟨y,hy,r,e2,rfl⟩)));omega
 have hF:ForestAt (w5.setCell ⟨g,a*2,none⟩ (.slice t.ao t.kids.length t.ca)) p g n (upd T a t) U:=by
  refine ⟨k5.blk (k.blk h.blk (hno p (.inl rfl))) (by simpa using h.ne),?_,fun y hy=>?_,h.ne,fun y hy q e=>?_,fun y z hy hz hne q r e1 e2=>?_,h.cap,fun y hy=>?_⟩
  .have:=(h.arr.keep k (hno g (.inr rfl))).set ha (j:=0) (by decide) (.slice t.ao t.kids.length t.ca)
   rwa [twigV_kids] at this
  .by_cases c:y=a
   .subst c;rw [upd_same];exact ir_keep hr k5 (fun q e=>by simpa using (hnew q e).2)
   .rw [upd_other _ _ c]
    refine ir_keep (ir_keep (h.rows y hy) k (fun q e f=>?_)) k5 (fun q e=>by simpa using (h.own y hy q e).2)
    simp only [List.mem_map,Option.mem_toList] at f
    obtain ⟨r,f1,f2⟩:=f
    exact h.dis a y ha hy (fun e=>c e.symm) r q f1 e f2
  .by_cases c:y=a
   .subst c;rw [upd_same] at e;exact hnew q e
   .rw [upd_other _ _ c] at e;exact h.own y hy q e
  .by_cases c:y=a
   .subst c
    rw [upd_same] at e1
    rw [upd_other _ _ (fun e=>hne e.symm)] at e2
    exact hdis z hz (fun e=>hne e.symm) q r e1 e2
   .rw [upd_other _ _ c] at e1
    by_cases d:z=a
    .subst d
     rw [upd_same] at e2
     exact fun e=>hdis y hy c r q e2 e1 e.symm
    .rw [upd_other _ _ d] at e2
     exact h.dis y z hy hz hne q r e1 e2
  .by_cases c:y=a
   .subst c;rw [upd_same];exact ⟨hl,hm,(h.num y hy).2.2⟩
   .rw [upd_other _ _ c];exact h.num y hy
 refine ⟨hF,(k.mono (T:=treeF p g n T) fun b hb=>.inl (treeF_mem.2 ?_)).trans k5 (fun b hb=>.inl (treeF_mem.2 (.inr (.inl (by simpa using hb))))),fun b hb=>?_,hF.lt⟩
 .simp only [List.mem_map,Option.mem_toList] at hb
  obtain ⟨q,e1,e2⟩:=hb
  exact .inr (.inr ⟨a,ha,q,e1,e2⟩)
 .rcases treeF_mem.1 hb with e|e|⟨y,hy,q,e,rfl⟩
  .exact .inl (treeF_mem.2 (.inl e))
  .exact .inl (treeF_mem.2 (.inr (.inl e)))
  .by_cases c:y=a
   .subst c
    rw [upd_same] at e
    rcases hf q e with ⟨q',e1,e2⟩|e1
    .exact .inl (treeF_mem.2 (.inr (.inr ⟨y,hy,q',e1,e2⟩)))
    .exact .inr e1
   .rw [upd_other _ _ c] at e
    exact .inl (treeF_mem.2 (.inr (.inr ⟨y,hy,q,e,rfl⟩)))
end
end Go.Proofs.YtkdbjelhkfdfjaaGreatDoor
namespace Go.Proofs.YtkdbjelhkfdfjaaGreatDoor
structure BinO (E:Ent) (K:Nat->List Nat) (U:Nat->Option Nat) (rw:Nat->List Nat):Prop where
 cubes:Cubes K U
 par:Par E U
 row:∀h,CRow K U (rw h)
 mem:∀h x,x∈rw h↔isIn E h x∧U x=none
structure BinH (E:Ent) (K:Nat->List Nat) (U:Nat->Option Nat) (rw:Nat->List Nat) (h:Nat) (a b:List Nat):Prop where
 cubes:Cubes K U
 par:Par E U
 row:∀g,g≠h->CRow K U (rw g)∧∀x,x∈rw g↔isIn E g x∧U x=none
 ra:CRow K U a
 rb:CRow K U b
 dis:∀x∈a,x∉b
 mem:∀x,(x∈a∨x∈b)↔isIn E h x∧U x=none
theorem CRow.other {K K':Nat->List Nat} {U U':Nat->Option Nat} {l:List Nat} (h:CRow K U l) (e:∀x∈l,K' x=K x∧U' x=none):CRow K' U' l:=by
 refine ⟨fun x hx=>(e x hx).2,List.Pairwise.imp_of_mem ?_ h.2⟩
 intro x y hx hy q
 rw [(e x hx).1,(e y hy).1];exact q
section
variable {E:Ent} {K K':Nat->List Nat} {U U':Nat->Option Nat} {rw':Nat->List Nat} {a b out:List Nat} {h x n:Nat}
theorem BinO.init:BinO (fun _=>none) (fun _=>[]) (fun _=>none) (fun _=>[]):=by
 refine ⟨Cubes.init,?_,fun _=>CRow.nil,?_⟩
 .intro x p e;cases e
 .intro h x
  simp [isIn]
theorem BinO.first (z:BinO E K U rw') (hn:∀y,(E y).isSome->y<n) (hx:x∈rw' h) (hl:∀y∈rw' h,y≠x->ahead E x y=true):least E h x :=
 z.par.least hn ((z.mem h x).1 hx).1 fun y hy hu hne=>hl y ((z.mem h y).2 ⟨hy,hu⟩) hne
theorem BinO.none_of (z:BinO E K U rw') (hn:∀y,(E y).isSome->y<n) (e:rw' h=[]):∀x,¬isIn E h x:=by
 intro x hx
 obtain ⟨t,h1,h2⟩:=z.par.top_of hn hx
 have:=(z.mem h t).2 ⟨h2,h1⟩
 rw [e] at this;cases this
theorem BinO.insert (z:BinO E K U rw') (he:E x=none) (k:Int×Nat):BinH (put E x (some (h,k))) K U rw' h (rw' h) [x]:=by
 have hu:=z.par.off he
 have hx:∀g,x∉rw' g:=fun g e=>by
  have:=((z.mem g x).1 e).1.some
  rw [he] at this;cases this
 refine ⟨z.cubes,z.par.come he _,fun g hg=>⟨z.row g,fun y=>?_⟩,z.row h,CRow.one hu,?_,fun y=>?_⟩
 .by_cases c:y=x
  .subst c
   constructor
   .intro e;exact absurd e (hx g)
   .rintro ⟨⟨q,e⟩,_⟩
    rw [put_same] at e;cases e;exact absurd rfl hg
  .rw [isIn_put_other c];exact z.mem g y
 .intro y hy e
  simp only [List.mem_singleton] at e;subst e
  exact hx h hy
 .simp only [List.mem_singleton]
  by_cases c:y=x
  .subst c
   constructor
   .intro _;exact ⟨⟨k,put_same _ _ _⟩,hu⟩
   .intro _;exact .inr rfl
  .rw [isIn_put_other c];simp only [c,or_false];exact z.mem h y
theorem BinO.cut (z:BinO E K U rw') (hx:x∈rw' h):BinH (put E x none) (upd K x []) (updM U (K x) none) rw' h ((rw' h).filter fun y=>!decide (x=y)) (K x):=by
 obtain ⟨hin,hu⟩:=(z.mem h x).1 hx
 have hxk:x∉K x:=fun e=>by have:=z.cubes.lt e;omega
 have hk:∀y,y∈K x->isIn E h y∧y≠x:=fun y hy=>by
  have:=z.par y x ((z.cubes.mem x y).1 hy)
  refine ⟨?_,by rintro rfl;exact hxk hy⟩
  rw [<-hp_some,<-this.1,hp_some];exact hin
 have hiu:∀y,updM U (K x) none y=none↔y∈K x∨U y=none:=fun y=>by
  by_cases c:y∈K x
  .rw [updM_in _ _ c];simp [c]
  .rw [updM_out _ _ c];simp [c]
 have hpar:Par (put E x none) (updM U (K x) none):=by
  refine Par.drop (fun y q e=>?_) ((hiu x).2 (.inr hu)) ?_
  .by_cases c:y∈K x
   .rw [updM_in _ _ c] at e;cases e
   .rw [updM_out _ _ c] at e;exact z.par y q e
  .intro y e
   by_cases c:y∈K x
   .rw [updM_in _ _ c] at e;cases e
   .rw [updM_out _ _ c] at e;exact c ((z.cubes.mem x y).2 e)
 have hii:∀g y,isIn (put E x none) g y↔isIn E g y∧y≠x:=fun g y=>by
  by_cases c:y=x
  .subst c
   constructor
   .rintro ⟨q,e⟩;rw [put_same] at e;cases e
   .rintro ⟨_,e⟩;exact absurd rfl e
  .rw [isIn_put_other c];simp [c]
 refine ⟨z.cubes.split hu,hpar,fun g hg=>⟨?_,fun y=>?_⟩,?_,?_,?_,fun y=>?_⟩
 .refine (z.row g).other fun y hy=>?_
  have h1:=(z.mem g y).1 hy
  have:y≠x:=by rintro rfl;exact hg (isIn_one h1.1 hin)
  rw [upd_other _ _ this];exact ⟨rfl,(hiu y).2 (.inr h1.2)⟩
 .rw [z.mem,hii,hiu]
  constructor
  .rintro ⟨h1,h2⟩
   exact ⟨⟨h1,by rintro rfl;exact hg (isIn_one h1 hin)⟩,.inr h2⟩
  .rintro ⟨⟨h1,h2⟩,h3|h3⟩
   .exact absurd (isIn_one h1 (hk y h3).1) hg
   .exact ⟨h1,h3⟩
 .refine CRow.other (K:=K) (U:=U) ⟨fun y hy=>(z.row h).1 y (List.mem_filter.1 hy).1,(z.row h).2.filter _⟩ fun y hy=>?_
  obtain ⟨h1,h2⟩:=List.mem_filter.1 hy
  have:y≠x:=by rintro rfl;simp at h2
  rw [upd_other _ _ this];exact ⟨rfl,(hiu y).2 (.inr ((z.row h).1 y h1))⟩
 .refine ⟨fun y hy=>updM_in _ _ hy,List.Pairwise.imp_of_mem ?_ (z.cubes.rise x)⟩
  intro u v hu hv e
  rw [upd_other _ _ (hk u hu).2,upd_other _ _ (hk v hv).2];exact e
 .intro y hy e
  obtain ⟨h1,_⟩:=List.mem_filter.1 hy
  have h2:=(z.cubes.mem x y).1 e
  rw [(z.row h).1 y h1] at h2;cases h2
 .rw [hii,hiu,List.mem_filter]
  constructor
  .rintro (⟨h1,h2⟩|h1)
   .have:=(z.mem h y).1 h1
    exact ⟨⟨this.1,by rintro rfl;simp at h2⟩,.inr this.2⟩
   .exact ⟨hk y h1,.inl h1⟩
  .rintro ⟨⟨h1,h2⟩,h3|h3⟩
   .exact .inr h3
   .exact .inl ⟨(z.mem h y).2 ⟨h1,h3⟩,by simpa using fun e=>h2 e.symm⟩
theorem CarDone.without {K0:Nat->List Nat} {U0:Nat->Option Nat} (d:CarDone E K0 U0 a b K' U' out) (ha:x∉a) (hb:x∉b) (o:Option (Nat×Int×Nat)):CarDone (put E x o) K0 U0 a b K' U' out:=by
 refine ⟨d.cubes,fun u v e=>?_,d.fr,d.row,d.mem⟩
 rcases d.up u v e with q|⟨q1,q2,q3⟩
 .exact .inl q
 .have:∀u,u∈a∨u∈b->u≠x:=by
   rintro u (q|q) rfl
   .exact ha q
   .exact hb q
  exact .inr ⟨q1,q2,by rw [ahead_put_other (this v q2) (this u q1)];exact q3⟩
theorem BinH.shut (z:BinH E K U rw' h a b) (d:CarDone E K U a b K' U' out):BinO E K' U' (upd rw' h out):=by
 have hf:∀y,¬(y∈a∨y∈b)->K' y=K y∧U' y=U y:=fun y hy=>d.fr y (fun q=>hy (.inl q)) (fun q=>hy (.inr q))
 refine ⟨d.cubes,?_,fun g=>?_,fun g y=>?_⟩
 .intro y q e
  rcases d.up y q e with c|⟨c1,c2,c3⟩
  .exact z.par y q c
  .have h1:=((z.mem y).1 c1).1
   have h2:=((z.mem q).1 c2).1
   exact ⟨by rw [hp_some.2 h1,hp_some.2 h2],c3⟩
 .by_cases c:g=h
  .subst c;rw [upd_same];exact d.row
  .rw [upd_other _ _ c]
   obtain ⟨h1,h2⟩:=z.row g c
   refine h1.other fun y hy=>?_
   obtain ⟨q1,q2⟩:=(h2 y).1 hy
   have:=hf y fun q=>c (isIn_one q1 ((z.mem y).1 q).1)
   exact ⟨this.1,this.2.trans q2⟩
 .by_cases c:g=h
  .subst c;rw [upd_same,d.mem,z.mem]
   constructor
   .rintro ⟨⟨q1,_⟩,q2⟩;exact ⟨q1,q2⟩
   .rintro ⟨q1,q2⟩
    refine ⟨⟨q1,?_⟩,q2⟩
    by_cases e:y∈a∨y∈b
    .exact ((z.mem y).1 e).2
    .rw [<-(hf y e).2];exact q2
  .rw [upd_other _ _ c,(z.row g c).2]
   constructor
   .rintro ⟨q1,q2⟩
    have:=hf y fun q=>c (isIn_one q1 ((z.mem y).1 q).1)
    exact ⟨q1,this.2.trans q2⟩
   .rintro ⟨q1,q2⟩
    have:=hf y fun q=>c (isIn_one q1 ((z.mem y).1 q).1)
    exact ⟨q1,this.2.symm.trans q2⟩
end
def kidsN (U:Nat->Option Nat) (n p:Nat):Nat:=((List.range n).filter fun y=>U y==some p).length
theorem kidsN_le (U:Nat->Option Nat) (n p:Nat):kidsN U n p<=n:=by
 unfold kidsN
 exact Nat.le_trans (List.length_filter_le _ _) (by simp)
theorem kidsN_zero {U:Nat->Option Nat} {n p:Nat} (h:∀y,U y≠some p):kidsN U n p=0:=by
 unfold kidsN
 rw [List.length_eq_zero_iff,List.filter_eq_nil_iff]
 intro y _ e
 exact h y (by simpa using e)
def rootOf (E:Ent) (U:Nat->Option Nat) (g x:Nat):Prop:=isIn E g x∧U x=none
structure FibM (E:Ent) (n:Nat) (R:Nat->Nat->Prop) (U kid:Nat->Option Nat) (deg:Nat->Nat) (top:Nat->Option Nat) (h:Nat) (D:Nat->Prop):Prop where
 par:Par E U
 lt:∀y,(E y).isSome->y<n
 rel:∀x y,x<n->(R x y↔x=y∨(∃p,U x=some p∧U y=some p)∨∃g,rootOf E U g x∧rootOf E U g y∧(g=h->D x∧D y))
 kidS:∀p x,kid p=some x->U x=some p
 kidN:∀p x,U x=some p->(kid p).isSome
 dg:∀p,deg p=kidsN U n p
 topS:∀g t,top g=some t->rootOf E U g t∧(g=h->D t)∧∀y,rootOf E U g y->(g=h->D y)->y≠t->ahead E t y=true
 topN:∀g,top g=none->∀y,rootOf E U g y->g=h∧¬D y
def FibO (E:Ent) (n:Nat) (R:Nat->Nat->Prop) (U kid:Nat->Option Nat) (deg:Nat->Nat) (top:Nat->Option Nat):Prop:=FibM E n R U kid deg top 0 (fun _=>True)
section
variable {E:Ent} {n:Nat} {R R':Nat->Nat->Prop} {U kid:Nat->Option Nat} {deg:Nat->Nat} {top:Nat->Option Nat} {h g x y t:Nat} {D D':Nat->Prop}
theorem FibM.any (m:FibM E n R U kid deg top g (fun _=>True)) (h:Nat):FibM E n R U kid deg top h (fun _=>True):=by
 refine ⟨m.par,m.lt,?_,m.kidS,m.kidN,m.dg,?_,?_⟩
 .intro x y hx
  rw [m.rel x y hx]
  simp
 .intro k t e
  obtain ⟨h1,_,h3⟩:=m.topS k t e
  exact ⟨h1,fun _=>trivial,fun y a _ b=>h3 y a (fun _=>trivial) b⟩
 .intro k e y hy
  exact absurd trivial (m.topN k e y hy).2
theorem FibO.init (n:Nat) (R:Nat->Nat->Prop) (hR:∀x y,x<n->(R x y↔x=y)):FibO (fun _=>none) n R (fun _=>none) (fun _=>none) (fun _=>0) (fun _=>none):=by
 refine ⟨?_,?_,?_,?_,?_,?_,?_,?_⟩
 .intro x p e;cases e
 .intro y e;cases e
 .intro x y hx;rw [hR x y hx];simp [rootOf,isIn]
 .intro p x e;cases e
 .intro p x e;cases e
 .intro p;rw [kidsN_zero];intro y e;cases e
 .intro g t e;cases e
 .intro g _ y hy
  obtain ⟨⟨k,e⟩,_⟩:=hy;cases e
theorem FibM.first (m:FibM E n R U kid deg top h (fun _=>True)) (e:top g=some t):least E g t:=by
 obtain ⟨h1,_,h3⟩:=m.topS g t e
 exact m.par.least m.lt h1.1 fun y hy hu hne=>h3 y ⟨hy,hu⟩ (fun _=>trivial) hne
theorem FibM.none_of (m:FibM E n R U kid deg top h (fun _=>True)) (e:top g=none):∀x,¬isIn E g x:=by
 intro x hx
 obtain ⟨t,h1,h2⟩:=m.par.top_of m.lt hx
 exact (m.topN g e t ⟨h2,h1⟩).2 trivial
theorem root_one {k:Nat} (a:rootOf E U g x) (b:rootOf E U k x):g=k:=isIn_one a.1 b.1
theorem rootOf.lt (m:FibM E n R U kid deg top h D) (a:rootOf E U g x):x<n:=m.lt x a.1.some
theorem FibM.insert (m:FibM E n R U kid deg top g (fun _=>True)) (he:E x=none) (k:Int×Nat):FibM (put E x (some (h,k))) n R U kid deg top h (fun y=>y≠x)∨n<=x:=by
 by_cases hxn:n<=x
 .exact .inr hxn
 refine .inl ?_
 have hu:=m.par.off he
 have hk:=m.par.offKid he
 have hro:∀k y,y≠x->(rootOf (put E x (some (h,k))) U g y↔rootOf E U g y):=fun k y hy=>by
  unfold rootOf;rw [isIn_put_other hy]
 have hr:∀g y,y≠x->(rootOf (put E x (some (h,k))) U g y↔rootOf E U g y):=fun g y hy=>by
  unfold rootOf;rw [isIn_put_other hy]
 have hx:∀g,rootOf (put E x (some (h,k))) U g x->g=h:=fun g e=>by
  obtain ⟨⟨q,e⟩,_⟩:=e;rw [put_same] at e;cases e;rfl
 have hno:∀g,¬rootOf E U g x:=fun g e=>by
  have:=e.1.some;rw [he] at this;cases this
 refine ⟨m.par.come he _,?_,?_,m.kidS,m.kidN,m.dg,?_,?_⟩
 .intro y hy
  by_cases c:y=x
  .subst c;omega
  .rw [put_other _ _ _ c] at hy;exact m.lt y hy
 .intro a b ha
  rw [m.rel a b ha]
  have key:(∃g,rootOf E U g a∧rootOf E U g b∧(g=h->True∧True))↔∃g,rootOf (put E x (some (h,k))) U g a∧rootOf (put E x (some (h,k))) U g b∧(g=h->a≠x∧b≠x):=by
   constructor
   .rintro ⟨g,h1,h2,_⟩
    have c:a≠x:=by rintro rfl;exact hno g h1
    have d:b≠x:=by rintro rfl;exact hno g h2
    exact ⟨g,(hr g a c).2 h1,(hr g b d).2 h2,fun _=>⟨c,d⟩⟩
   .rintro ⟨g,h1,h2,h3⟩
    have c:a≠x:=by rintro rfl;exact (h3 (hx g h1)).1 rfl
    have d:b≠x:=by rintro rfl;exact (h3 (hx g h2)).2 rfl
    exact ⟨g,(hr g a c).1 h1,(hr g b d).1 h2,fun _=>⟨trivial,trivial⟩⟩
  rw [<-key]
  simp
 .intro k' t e
  obtain ⟨h1,_,h3⟩:=m.topS k' t e
  have c:t≠x:=by rintro rfl;exact hno _ h1
  refine ⟨(hr k' t c).2 h1,fun _=>c,fun y hy hd hne=>?_⟩
  have d:y≠x:=by
   rintro rfl
   exact hd (hx k' hy) rfl
  rw [ahead_put_other c d]
  exact h3 y ((hr k' y d).1 hy) (fun _=>trivial) hne
 .intro k' e y hy
  by_cases d:y=x
  .subst d;exact ⟨hx k' hy,fun q=>q rfl⟩
  .exact absurd trivial (m.topN k' e y ((hr k' y d).1 hy)).2
theorem FibM.rootNone (m:FibM E n R U kid deg top h D) (e:top h=none) (hx:rootOf E U h x):FibM E n R U kid deg (upd top h (some x)) h (fun y=>D y∨y=x):=by
 have hno:∀y,rootOf E U h y->¬D y:=fun y hy=>(m.topN h e y hy).2
 refine ⟨m.par,m.lt,?_,m.kidS,m.kidN,m.dg,?_,?_⟩
 .intro a b ha
  rw [m.rel a b ha]
  constructor
  .rintro (h1|h1|⟨g,h1,h2,h3⟩)
   .exact .inl h1
   .exact .inr (.inl h1)
   .exact .inr (.inr ⟨g,h1,h2,fun q=>⟨.inl (h3 q).1,.inl (h3 q).2⟩⟩)
  .rintro (h1|h1|⟨g,h1,h2,h3⟩)
   .exact .inl h1
   .exact .inr (.inl h1)
   .by_cases c:g=h
    .subst c
     obtain ⟨q1,q2⟩:=h3 rfl
     rcases q1 with q1|q1
     .exact absurd q1 (hno _ h1)
     .rcases q2 with q2|q2
      .exact absurd q2 (hno _ h2)
      .exact .inl (q1.trans q2.symm)
    .exact .inr (.inr ⟨g,h1,h2,fun q=>absurd q c⟩)
 .intro g t e1
  by_cases c:g=h
  .subst c
   rw [upd_same] at e1;cases e1
   refine ⟨hx,fun _=>.inr rfl,fun y hy hd hne=>?_⟩
   rcases hd rfl with q|q
   .exact absurd q (hno y hy)
   .exact absurd q hne
  .rw [upd_other _ _ c] at e1
   obtain ⟨h1,h2,h3⟩:=m.topS g t e1
   exact ⟨h1,fun q=>absurd q c,fun y hy _ hne=>h3 y hy (fun q=>absurd q c) hne⟩
 .intro g e1 y hy
  by_cases c:g=h
  .subst c;rw [upd_same] at e1;cases e1
  .rw [upd_other _ _ c] at e1
   exact absurd (m.topN g e1 y hy).1 c
theorem FibM.ringTop (m:FibM E n R U kid deg top h D) (e:top h=some t) (z:Nat):R t z↔rootOf E U h z∧D z:=by
 obtain ⟨h1,h2,h3⟩:=m.topS h t e
 rw [m.rel t z (h1.lt m)]
 constructor
 .rintro (q|⟨p,q,_⟩|⟨g,q1,q2,q3⟩)
  .subst q;exact ⟨h1,h2 rfl⟩
  .rw [h1.2] at q;cases q
  .have:=root_one q1 h1
   subst this
   exact ⟨q2,(q3 rfl).2⟩
 .rintro ⟨q1,q2⟩
  exact .inr (.inr ⟨h,h1,q1,fun _=>⟨h2 rfl,q2⟩⟩)
theorem FibM.ringLoose (m:FibM E n R U kid deg top h D) (hx:rootOf E U h x) (hd:¬D x) (z:Nat):R x z↔x=z:=by
 rw [m.rel x z (hx.lt m)]
 constructor
 .rintro (q|⟨p,q,_⟩|⟨g,q1,q2,q3⟩)
  .exact q
  .rw [hx.2] at q;cases q
  .have:=root_one q1 hx
   exact absurd (q3 this).1 hd
 .exact fun q=>.inl q
theorem FibM.rootSome (m:FibM E n R U kid deg top h D) (e:top h=some t) (hx:rootOf E U h x) (hd:¬D x) (hR:∀u v,u<n->(R' u v↔R u v∨((R t u∨R x u)∧(R t v∨R x v)))) (t':Nat)
  (ht:(t'=x∧ahead E x t=true)∨(t'=t∧ahead E x t=false)):FibM E n R' U kid deg (upd top h (some t')) h (fun y=>D y∨y=x):=by
 obtain ⟨h1,h2,h3⟩:=m.topS h t e
 have hne:x≠t:=by rintro rfl;exact hd (h2 rfl)
 refine ⟨m.par,m.lt,?_,m.kidS,m.kidN,m.dg,?_,?_⟩
 .intro a b ha
  rw [hR a b ha,m.rel a b ha,m.ringTop e,m.ringTop e,m.ringLoose hx hd,m.ringLoose hx hd]
  have hin:∀z,(rootOf E U h z∧D z∨x=z)↔rootOf E U h z∧(D z∨z=x):=fun z=>by
   constructor
   .rintro (⟨q1,q2⟩|rfl)
    .exact ⟨q1,.inl q2⟩
    .exact ⟨hx,.inr rfl⟩
   .rintro ⟨q1,q2|q2⟩
    .exact .inl ⟨q1,q2⟩
    .exact .inr q2.symm
  rw [hin,hin]
  constructor
  .rintro ((q|q|⟨g,q1,q2,q3⟩)|⟨⟨q1,q2⟩,q3,q4⟩)
   .exact .inl q
   .exact .inr (.inl q)
   .exact .inr (.inr ⟨g,q1,q2,fun c=>⟨.inl (q3 c).1,.inl (q3 c).2⟩⟩)
   .exact .inr (.inr ⟨h,q1,q3,fun _=>⟨q2,q4⟩⟩)
  .rintro (q|q|⟨g,q1,q2,q3⟩)
   .exact .inl (.inl q)
   .exact .inl (.inr (.inl q))
   .by_cases c:g=h
    .subst c;exact .inr ⟨⟨q1,(q3 rfl).1⟩,q2,(q3 rfl).2⟩
    .exact .inl (.inr (.inr ⟨g,q1,q2,fun d=>absurd d c⟩))
 .intro g s e1
  by_cases c:g=h
  .subst c
   rw [upd_same] at e1;cases e1
   rcases ht with ⟨rfl,ha⟩|⟨rfl,ha⟩
   .refine ⟨hx,fun _=>.inr rfl,fun y hy hd' hney=>?_⟩
    rcases hd' rfl with q|q
    .by_cases d:y=t
     .subst d;exact ha
     .exact ahead_tr ha (h3 y hy (fun _=>q) d)
    .exact absurd q hney
   .refine ⟨h1,fun _=>.inl (h2 rfl),fun y hy hd' hney=>?_⟩
    rcases hd' rfl with q|q
    .exact h3 y hy (fun _=>q) hney
    .subst q
     rcases ahead_tot hx.1.some h1.1.some hne with q|q
     .rw [ha] at q;cases q
     .exact q
  .rw [upd_other _ _ c] at e1
   obtain ⟨h1,h2,h3⟩:=m.topS g s e1
   exact ⟨h1,fun q=>absurd q c,fun y hy _ hne=>h3 y hy (fun q=>absurd q c) hne⟩
 .intro g e1 y hy
  by_cases c:g=h
  .subst c;rw [upd_same] at e1;cases e1
  .rw [upd_other _ _ c] at e1
   exact absurd (m.topN g e1 y hy).1 c
theorem FibM.full (m:FibM E n R U kid deg top h D) (hd:∀y,rootOf E U h y->D y):FibM E n R U kid deg top h (fun _=>True):=by
 refine ⟨m.par,m.lt,?_,m.kidS,m.kidN,m.dg,?_,?_⟩
 .intro a b ha
  rw [m.rel a b ha]
  constructor
  .rintro (q|q|⟨g,q1,q2,q3⟩)
   .exact .inl q
   .exact .inr (.inl q)
   .exact .inr (.inr ⟨g,q1,q2,fun _=>⟨trivial,trivial⟩⟩)
  .rintro (q|q|⟨g,q1,q2,q3⟩)
   .exact .inl q
   .exact .inr (.inl q)
   .exact .inr (.inr ⟨g,q1,q2,fun c=>by subst c;exact ⟨hd a q1,hd b q2⟩⟩)
 .intro g t e
  obtain ⟨h1,h2,h3⟩:=m.topS g t e
  exact ⟨h1,fun _=>trivial,fun y hy _ hne=>h3 y hy (fun c=>by subst c;exact hd y hy) hne⟩
 .intro g e y hy
  obtain ⟨c,q⟩:=m.topN g e y hy
  subst c
  exact absurd (hd y hy) q
theorem FibM.drop (m:FibM E n R U kid deg top h D) (hx:rootOf E U h x) (hk:kid x=none) (hdx:¬D x) (hd:∀y,rootOf E U h y->y≠x->D y):FibM (put E x none) n R U kid deg top h (fun _=>True):=by
 have hku:∀y,U y≠some x:=fun y e=>by
  have:=m.kidN x y e;rw [hk] at this;cases this
 have hr:∀g y,rootOf (put E x none) U g y↔rootOf E U g y∧y≠x:=fun g y=>by
  unfold rootOf
  by_cases c:y=x
  .subst c
   constructor
   .rintro ⟨⟨q,e⟩,_⟩;rw [put_same] at e;cases e
   .rintro ⟨_,e⟩;exact absurd rfl e
  .rw [isIn_put_other c];simp [c]
 refine ⟨m.par.drop hx.2 hku,?_,?_,m.kidS,m.kidN,m.dg,?_,?_⟩
 .intro y hy
  by_cases c:y=x
  .subst c;exact hx.lt m
  .rw [put_other _ _ _ c] at hy;exact m.lt y hy
 .intro a b ha
  rw [m.rel a b ha]
  constructor
  .rintro (q|q|⟨g,q1,q2,q3⟩)
   .exact .inl q
   .exact .inr (.inl q)
   .have c:a≠x:=by rintro rfl;exact hdx (q3 (root_one q1 hx)).1
    have d:b≠x:=by rintro rfl;exact hdx (q3 (root_one q2 hx)).2
    exact .inr (.inr ⟨g,(hr g a).2 ⟨q1,c⟩,(hr g b).2 ⟨q2,d⟩,fun _=>⟨trivial,trivial⟩⟩)
  .rintro (q|q|⟨g,q1,q2,q3⟩)
   .exact .inl q
   .exact .inr (.inl q)
   .obtain ⟨q1,c⟩:=(hr g a).1 q1
    obtain ⟨q2,d⟩:=(hr g b).1 q2
    exact .inr (.inr ⟨g,q1,q2,fun e=>by subst e;exact ⟨hd a q1 c,hd b q2 d⟩⟩)
 .intro g t e
  obtain ⟨h1,h2,h3⟩:=m.topS g t e
  have c:t≠x:=by
   rintro rfl
   exact hdx (h2 (root_one h1 hx))
  refine ⟨(hr g t).2 ⟨h1,c⟩,fun _=>trivial,fun y hy _ hne=>?_⟩
  obtain ⟨q1,q2⟩:=(hr g y).1 hy
  rw [ahead_put_other c q2]
  exact h3 y q1 (fun e=>by subst e;exact hd y q1 q2) hne
 .intro g e y hy
  obtain ⟨q1,q2⟩:=(hr g y).1 hy
  obtain ⟨c,q⟩:=m.topN g e y q1
  subst c
  exact absurd (hd y q1 q2) q
end
section
variable {E:Ent} {n:Nat} {R R':Nat->Nat->Prop} {U kid:Nat->Option Nat} {deg:Nat->Nat} {top:Nat->Option Nat} {h g x y t k c d:Nat} {D D':Nat->Prop} {l:List Nat}
theorem FibM.ringKid (m:FibM E n R U kid deg top h D) (e:kid c=some k) (hk:k<n) (z:Nat):R k z↔U z=some c:=by
 have hu:=m.kidS c k e
 rw [m.rel k z hk]
 constructor
 .rintro (q|⟨p,q1,q2⟩|⟨g,q1,_⟩)
  .subst q;exact hu
  .rw [hu] at q1;cases q1;exact q2
  .rw [q1.2] at hu;cases hu
 .intro q;exact .inr (.inl ⟨c,hu,q⟩)
theorem FibM.kidLt (m:FibM E n R U kid deg top h D) (e:U y=some c):y<n:=m.lt y (ahead_some (m.par y c e).2).2
theorem FibM.ringRoot (m:FibM E n R U kid deg top h (fun _=>True)) (hx:rootOf E U h x) (z:Nat):R x z↔rootOf E U h z:=by
 rw [m.rel x z (hx.lt m)]
 constructor
 .rintro (q|⟨p,q,_⟩|⟨g,q1,q2,_⟩)
  .subst q;exact hx
  .rw [hx.2] at q;cases q
  .rw [root_one hx q1];exact q2
 .intro q;exact .inr (.inr ⟨h,hx,q,fun _=>⟨trivial,trivial⟩⟩)
theorem FibM.raise (m:FibM E n R U kid deg top h (fun _=>True)) (hx:rootOf E U h x) (ek:kid x=some k) (hl:∀z,z∈l↔U z=some x)
  (hR:∀u v,u<n->(R' u v↔R u v∨((R x u∨R k u)∧(R x v∨R k v)))):FibM E n R' (updM U l none) (upd kid x none) (upd deg x 0) top h (fun _=>True):=by
 have hk:=m.kidLt (m.kidS x k ek)
 have hin:∀z,updM U l none z=if U z=some x then none else U z:=fun z=>by
  by_cases c:z∈l
  .rw [updM_in _ _ c,if_pos ((hl z).1 c)]
  .rw [updM_out _ _ c,if_neg (fun q=>c ((hl z).2 q))]
 have hsome:∀z p,updM U l none z=some p↔U z=some p∧p≠x:=fun z p=>by
  rw [hin]
  by_cases c:U z=some x
  .rw [if_pos c,c]
   constructor
   .intro q;cases q
   .rintro ⟨q,r⟩;cases q;exact absurd rfl r
  .rw [if_neg c]
   constructor
   .intro q;exact ⟨q,by rintro rfl;exact c q⟩
   .exact fun q=>q.1
 have hnone:∀z,updM U l none z=none↔U z=none∨U z=some x:=fun z=>by
  rw [hin]
  by_cases c:U z=some x
  .rw [if_pos c];simp [c]
  .rw [if_neg c];simp [c]
 have hroot:∀g z,rootOf E (updM U l none) g z↔rootOf E U g z∨(g=h∧U z=some x):=fun g z=>by
  unfold rootOf
  rw [hnone]
  constructor
  .rintro ⟨q1,q2|q2⟩
   .exact .inl ⟨q1,q2⟩
   .refine .inr ⟨?_,q2⟩
    have:=(m.par z x q2).1
    rw [hp_some.2 q1,hp_some.2 hx.1] at this
    cases this;rfl
  .rintro (⟨q1,q2⟩|⟨q1,q2⟩)
   .exact ⟨q1,.inl q2⟩
   .subst q1
    refine ⟨?_,.inr q2⟩
    have:=(m.par z x q2).1
    rw [<-hp_some,<-this,hp_some];exact hx.1
 have hrx:∀z,R x z↔rootOf E U h z:=m.ringRoot hx
 have hrk:∀z,R k z↔U z=some x:=m.ringKid ek hk
 refine ⟨?_,m.lt,?_,?_,?_,?_,?_,?_⟩
 .intro y p q;exact m.par y p ((hsome y p).1 q).1
 .intro a b ha
  rw [hR a b ha,m.rel a b ha,hrx,hrx,hrk,hrk]
  constructor
  .rintro ((q|⟨p,q1,q2⟩|⟨g,q1,q2,_⟩)|⟨q1,q2⟩)
   .exact .inl q
   .by_cases c:p=x
    .subst c;exact .inr (.inr ⟨h,(hroot h a).2 (.inr ⟨rfl,q1⟩),(hroot h b).2 (.inr ⟨rfl,q2⟩),fun _=>⟨trivial,trivial⟩⟩)
    .exact .inr (.inl ⟨p,(hsome a p).2 ⟨q1,c⟩,(hsome b p).2 ⟨q2,c⟩⟩)
   .exact .inr (.inr ⟨g,(hroot g a).2 (.inl q1),(hroot g b).2 (.inl q2),fun _=>⟨trivial,trivial⟩⟩)
   .exact .inr (.inr ⟨h,(hroot h a).2 (q1.imp id fun q=>⟨rfl,q⟩),(hroot h b).2 (q2.imp id fun q=>⟨rfl,q⟩),fun _=>⟨trivial,trivial⟩⟩)
  .rintro (q|⟨p,q1,q2⟩|⟨g,q1,q2,_⟩)
   .exact .inl (.inl q)
   .exact .inl (.inr (.inl ⟨p,((hsome a p).1 q1).1,((hsome b p).1 q2).1⟩))
   .rcases (hroot g a).1 q1 with r1|⟨rfl,r1⟩
    .rcases (hroot g b).1 q2 with r2|⟨rfl,r2⟩
     .exact .inl (.inr (.inr ⟨g,r1,r2,fun _=>⟨trivial,trivial⟩⟩))
     .exact .inr ⟨.inl r1,.inr r2⟩
    .rcases (hroot g b).1 q2 with r2|⟨_,r2⟩
     .exact .inr ⟨.inr r1,.inl r2⟩
     .exact .inr ⟨.inr r1,.inr r2⟩
 .intro p y q
  by_cases c:p=x
  .subst c;rw [upd_same] at q;cases q
  .rw [upd_other _ _ c] at q
   exact (hsome y p).2 ⟨m.kidS p y q,c⟩
 .intro p y q
  obtain ⟨q1,q2⟩:=(hsome y p).1 q
  rw [upd_other _ _ q2];exact m.kidN p y q1
 .intro p
  by_cases c:p=x
  .subst c
   rw [upd_same,kidsN_zero]
   intro y q;exact ((hsome y p).1 q).2 rfl
  .rw [upd_other _ _ c,m.dg p]
   unfold kidsN
   refine filter_range_congr n _ _ fun z _=>?_
   rw [Bool.eq_iff_iff]
   simp only [beq_iff_eq,hsome]
   constructor
   .exact fun q=>⟨q,c⟩
   .exact fun q=>q.1
 .intro g t q
  obtain ⟨h1,h2,h3⟩:=m.topS g t q
  refine ⟨(hroot g t).2 (.inl h1),fun _=>trivial,fun y hy _ hne=>?_⟩
  rcases (hroot g y).1 hy with r|⟨rfl,r⟩
  .exact h3 y r (fun _=>trivial) hne
  .have hxy:=(m.par y x r).2
   by_cases c:x=t
   .subst c;exact hxy
   .exact ahead_tr (h3 x hx (fun _=>trivial) c) hxy
 .intro g q y hy
  rcases (hroot g y).1 hy with r|⟨rfl,r⟩
  .exact m.topN g q y r
  .exact absurd trivial (m.topN g q x hx).2
def Parted (n:Nat) (R R':Nat->Nat->Prop) (S:List Nat):Prop:=∀a b,a<n->(R' a b↔(a∈S∧a=b)∨(a∉S∧b∉S∧R a b))
theorem Parted.nil (n:Nat) (R:Nat->Nat->Prop):Parted n R R []:=by intro a b _;simp
theorem Parted.more {R'':Nat->Nat->Prop} {S:List Nat} {r:Nat} (p:Parted n R R' S) (h:∀a b,a<n->(R'' a b↔(a=r∧b=r)∨(a≠r∧b≠r∧R' a b))):Parted n R R'' (S++[r]):=by
 intro a b ha
 rw [h a b ha,p a b ha]
 simp only [List.mem_append,List.mem_singleton]
 by_cases c:a=r
 .subst c
  simp only [true_and,ne_eq,not_true,false_and,or_false,or_true,true_and,eq_comm]
 .by_cases d:b=r
  .subst d
   simp only [c,false_and,ne_eq,not_true,and_false,or_self,or_true,or_false,and_false,false_or]
  .simp only [c,d,false_and,ne_eq,not_false_iff,true_and,or_false,false_or]
theorem FibM.parted {S:List Nat} (m:FibM E n R U kid deg top h (fun _=>True)) (hS:∀z,z∈S↔rootOf E U h z) (p:Parted n R R' S):FibM E n R' U kid deg (upd top h none) h (fun _=>False):=by
 refine ⟨m.par,m.lt,?_,m.kidS,m.kidN,m.dg,?_,?_⟩
 .intro a b ha
  rw [p a b ha,m.rel a b ha,hS,hS]
  constructor
  .rintro (⟨_,q⟩|⟨q1,q2,q|q|⟨g,r1,r2,_⟩⟩)
   .exact .inl q
   .exact .inl q
   .exact .inr (.inl q)
   .exact .inr (.inr ⟨g,r1,r2,fun c=>by subst c;exact absurd r1 q1⟩)
  .rintro (q|⟨v,q1,q2⟩|⟨g,r1,r2,r3⟩)
   .subst q
    by_cases c:rootOf E U h a
    .exact .inl ⟨c,rfl⟩
    .exact .inr ⟨c,c,.inl rfl⟩
   .refine .inr ⟨?_,?_,.inr (.inl ⟨v,q1,q2⟩)⟩
    .intro c;rw [c.2] at q1;cases q1
    .intro c;rw [c.2] at q2;cases q2
   .have c:g≠h:=fun c=>(r3 c).1
    exact .inr ⟨fun q=>c (root_one r1 q),fun q=>c (root_one r2 q),.inr (.inr ⟨g,r1,r2,fun _=>⟨trivial,trivial⟩⟩)⟩
 .intro g t q
  by_cases c:g=h
  .subst c;rw [upd_same] at q;cases q
  .rw [upd_other _ _ c] at q
   obtain ⟨h1,h2,h3⟩:=m.topS g t q
   exact ⟨h1,fun d=>c d,fun y hy _ hne=>h3 y hy (fun _=>trivial) hne⟩
 .intro g q y hy
  by_cases c:g=h
  .exact ⟨c,fun q=>q⟩
  .rw [upd_other _ _ c] at q
   exact absurd trivial (m.topN g q y hy).2
theorem FibM.under (m:FibM E n R U kid deg top h (fun _=>False)) (hc:rootOf E U h c) (hd:rootOf E U h d) (ha:ahead E c d=true)
  (hR:∀u v,u<n->(R' u v↔R u v∨((U u=some c∨u=d)∧(U v=some c∨v=d)))):FibM E n R' (upd U d (some c)) (upd kid c (some d)) (upd deg c (deg c+1)) top h (fun _=>False):=by
 have hne:c≠d:=ahead_ne ha
 have hroot:∀g z,rootOf E (upd U d (some c)) g z↔rootOf E U g z∧z≠d:=fun g z=>by
  unfold rootOf
  by_cases e:z=d
  .subst e;rw [upd_same]
   constructor
   .rintro ⟨_,q⟩;cases q
   .rintro ⟨_,q⟩;exact absurd rfl q
  .rw [upd_other _ _ e];simp [e]
 have hud:∀z p,U z=some p->z≠d:=fun z p q=>by rintro rfl;rw [hd.2] at q;cases q
 refine ⟨m.par.attach (by rw [hp_some.2 hc.1,hp_some.2 hd.1]) ha,m.lt,?_,?_,?_,?_,?_,?_⟩
 .intro a b han
  rw [hR a b han,m.rel a b han]
  constructor
  .rintro ((q|⟨p,q1,q2⟩|⟨g,q1,q2,q3⟩)|⟨q1,q2⟩)
   .exact .inl q
   .exact .inr (.inl ⟨p,by rw [upd_other _ _ (hud a p q1)];exact q1,by rw [upd_other _ _ (hud b p q2)];exact q2⟩)
   .have e:g≠h:=fun e=>(q3 e).1
    exact .inr (.inr ⟨g,(hroot g a).2 ⟨q1,by rintro rfl;exact e (root_one q1 hd)⟩,(hroot g b).2 ⟨q2,by rintro rfl;exact e (root_one q2 hd)⟩,q3⟩)
   .have key:∀z,(U z=some c∨z=d)->upd U d (some c) z=some c:=fun z q=>by
     by_cases e:z=d
     .subst e;exact upd_same _ _ _
     .rw [upd_other _ _ e];exact q.resolve_right e
    exact .inr (.inl ⟨c,key a q1,key b q2⟩)
  .rintro (q|⟨p,q1,q2⟩|⟨g,q1,q2,q3⟩)
   .exact .inl (.inl q)
   .by_cases e:a=d
    .subst e;rw [upd_same] at q1;cases q1
     refine .inr ⟨.inr rfl,?_⟩
     by_cases f:b=a
     .exact .inr f
     .rw [upd_other _ _ f] at q2;exact .inl q2
    .rw [upd_other _ _ e] at q1
     by_cases f:b=d
     .subst f;rw [upd_same] at q2;cases q2
      exact .inr ⟨.inl q1,.inr rfl⟩
     .rw [upd_other _ _ f] at q2
      exact .inl (.inr (.inl ⟨p,q1,q2⟩))
   .exact .inl (.inr (.inr ⟨g,((hroot g a).1 q1).1,((hroot g b).1 q2).1,q3⟩))
 .intro p y q
  by_cases e:p=c
  .subst e;rw [upd_same] at q;cases q;exact upd_same _ _ _
  .rw [upd_other _ _ e] at q
   have:=m.kidS p y q
   rw [upd_other _ _ (hud y p this)];exact this
 .intro p y q
  by_cases e:p=c
  .subst e;rw [upd_same];rfl
  .rw [upd_other _ _ e]
   by_cases f:y=d
   .subst f;rw [upd_same] at q;cases q;exact absurd rfl e
   .rw [upd_other _ _ f] at q;exact m.kidN p y q
 .intro p
  by_cases e:p=c
  .subst e
   rw [upd_same,m.dg]
   unfold kidsN
   refine (filter_range_one n d (hd.lt m) _ _ ?_ ?_ ?_).symm
   .rw [hd.2];rfl
   .rw [upd_same];simp
   .intro z hz;rw [upd_other _ _ hz]
  .rw [upd_other _ _ e,m.dg]
   unfold kidsN
   refine filter_range_congr n _ _ fun z _=>?_
   by_cases f:z=d
   .subst f;rw [upd_same,hd.2]
    symm
    simpa using fun q=>e q.symm
   .rw [upd_other _ _ f]
 .intro g t q
  obtain ⟨h1,h2,h3⟩:=m.topS g t q
  refine ⟨(hroot g t).2 ⟨h1,?_⟩,h2,fun y hy hf hne=>h3 y ((hroot g y).1 hy).1 hf hne⟩
  rintro rfl
  exact h2 (root_one h1 hd)
 .intro g q y hy
  exact m.topN g q y ((hroot g y).1 hy).1
end
def InT (tab:List (Option Nat)) (y:Nat):Prop:=∃d:Nat,tab[d]?=some (some y)
structure Tidy (E:Ent) (n:Nat) (R:Nat->Nat->Prop) (U kid:Nat->Option Nat) (deg:Nat->Nat) (top:Nat->Option Nat) (h x:Nat) (tab:List (Option Nat)) (cur:Option Nat) (rest:List Nat):Prop where
 m:FibM E n R U kid deg top h (fun _=>False)
 play:∀y,(rootOf E U h y∧y≠x)↔InT tab y∨cur=some y∨y∈rest
 pos:∀d y,tab[d]?=some (some y)->deg y=d
 c1:∀y,cur=some y->¬InT tab y∧y∉rest
 r1:∀y,y∈rest->¬InT tab y
 rn:rest.Nodup
 rx:rootOf E U h x
 kx:kid x=none
section
variable {E:Ent} {n:Nat} {R R':Nat->Nat->Prop} {U kid:Nat->Option Nat} {deg:Nat->Nat} {top:Nat->Option Nat} {h x y c w l r:Nat} {tab:List (Option Nat)} {cur:Option Nat} {rest:List Nat}
theorem Tidy.start (m:FibM E n R U kid deg top h (fun _=>False)) (hr:∀z,z∈x::rest↔rootOf E U h z) (hn:(x::rest).Nodup) (hk:kid x=none):Tidy E n R U kid deg top h x [] none rest:=by
 obtain ⟨n1,n2⟩:=List.nodup_cons.1 hn
 refine ⟨m,fun y=>?_,?_,?_,?_,n2,(hr x).1 (by simp),hk⟩
 .rw [<-hr]
  simp only [List.mem_cons,InT,List.getElem?_nil]
  constructor
  .rintro ⟨q|q,q2⟩
   .exact absurd q q2
   .exact .inr (.inr q)
  .rintro (⟨d,q⟩|q|q)
   .cases q
   .cases q
   .exact ⟨.inr q,by rintro rfl;exact n1 q⟩
 .intro d y q;cases q
 .intro y q;cases q
 .rintro y _ ⟨d,q⟩;cases q
theorem Tidy.take (t:Tidy E n R U kid deg top h x tab none (r::rest)):Tidy E n R U kid deg top h x tab (some r) rest:=by
 obtain ⟨n1,n2⟩:=List.nodup_cons.1 t.rn
 refine ⟨t.m,fun y=>?_,t.pos,?_,fun y q=>t.r1 y (by simp [q]),n2,t.rx,t.kx⟩
 .rw [t.play]
  simp only [List.mem_cons,Option.some.injEq]
  constructor
  .rintro (q|q|q|q)
   .exact .inl q
   .cases q
   .exact .inr (.inl q.symm)
   .exact .inr (.inr q)
  .rintro (q|q|q)
   .exact .inl q
   .exact .inr (.inr (.inl q.symm))
   .exact .inr (.inr (.inr q))
 .intro y q
  cases q
  exact ⟨t.r1 _ (by simp),n1⟩
theorem inT_pad:InT (tab++[none]) y↔InT tab y:=by
 unfold InT
 constructor
 .rintro ⟨d,q⟩
  by_cases c:d<tab.length
  .rw [List.getElem?_append_left c] at q;exact ⟨d,q⟩
  .rw [List.getElem?_append_right (by omega)] at q
   have:=(List.getElem?_eq_some_iff.1 q).1
   have e:d - tab.length=0:=by simpa using this
   rw [e] at q;cases q
 .rintro ⟨d,q⟩
  have:=(List.getElem?_eq_some_iff.1 q).1
  exact ⟨d,by rw [List.getElem?_append_left this];exact q⟩
theorem Tidy.pad (t:Tidy E n R U kid deg top h x tab cur rest):Tidy E n R U kid deg top h x (tab++[none]) cur rest:=by
 refine ⟨t.m,fun y=>by rw [inT_pad];exact t.play y,?_,fun y q=>by rw [inT_pad];exact t.c1 y q,fun y q=>by rw [inT_pad];exact t.r1 y q,t.rn,t.rx,t.kx⟩
 intro d y q
 by_cases c:d<tab.length
 .rw [List.getElem?_append_left c] at q;exact t.pos d y q
 .rw [List.getElem?_append_right (by omega)] at q
  have:=(List.getElem?_eq_some_iff.1 q).1
  have e:d - tab.length=0:=by simpa using this
  rw [e] at q;cases q
theorem set_at {o v:Option Nat} {d e:Nat} (h:tab[d]?=some o):(tab.set d v)[e]?=if e=d then some v else tab[e]?:=by
 have:=(List.getElem?_eq_some_iff.1 h).1
 rw [List.getElem?_set]
 by_cases c:e=d
 .subst c;simp [this]
 .rw [if_neg (fun q=>c q.symm),if_neg c]
theorem Tidy.put (t:Tidy E n R U kid deg top h x tab (some c) rest) (e:tab[deg c]?=some none):Tidy E n R U kid deg top h x (tab.set (deg c) (some c)) none rest:=by
 have hin:∀y,InT (tab.set (deg c) (some c)) y↔InT tab y∨y=c:=fun y=>by
  unfold InT
  constructor
  .rintro ⟨d,q⟩
   rw [set_at e] at q
   split at q
   .cases q;exact .inr rfl
   .exact .inl ⟨d,q⟩
  .rintro (⟨d,q⟩|rfl)
   .refine ⟨d,?_⟩
    rw [set_at e,if_neg]
    .exact q
    .rintro rfl;rw [e] at q;cases q
   .exact ⟨deg y,by rw [set_at e,if_pos rfl]⟩
 refine ⟨t.m,fun y=>?_,?_,?_,?_,t.rn,t.rx,t.kx⟩
 .rw [t.play,hin]
  simp only [Option.some.injEq]
  constructor
  .rintro (q|q|q)
   .exact .inl (.inl q)
   .exact .inl (.inr q.symm)
   .exact .inr (.inr q)
  .rintro ((q|q)|q|q)
   .exact .inl q
   .exact .inr (.inl q.symm)
   .cases q
   .exact .inr (.inr q)
 .intro d y q
  rw [set_at e] at q
  split at q
  .rename_i f;cases q;exact f.symm
  .exact t.pos d y q
 .intro y q;cases q
 .intro y q
  rw [hin]
  rintro (f|rfl)
  .exact t.r1 y q f
  .exact (t.c1 y rfl).2 q
theorem Tidy.curRoot (t:Tidy E n R U kid deg top h x tab (some c) rest):rootOf E U h c∧c≠x:=(t.play c).2 (.inr (.inl rfl))
theorem Tidy.tabRoot (t:Tidy E n R U kid deg top h x tab cur rest) (e:InT tab y):rootOf E U h y∧y≠x:=(t.play y).2 (.inl e)
theorem Tidy.join (t:Tidy E n R U kid deg top h x tab (some c) rest) (e:tab[deg c]?=some (some y)) (hw:(w=c∧l=y)∨(w=y∧l=c)) (ha:ahead E w l=true)
  (hR:∀u v,u<n->(R' u v↔R u v∨((U u=some w∨u=l)∧(U v=some w∨v=l)))) :
  Tidy E n R' (upd U l (some w)) (upd kid w (some l)) (upd deg w (deg w+1)) top h x (tab.set (deg c) none) (some w) rest∧deg w=deg c:=by
 have hyT:InT tab y:=⟨_,e⟩
 have hdy:=t.pos _ _ e
 have hcR:=t.curRoot
 have hyR:=t.tabRoot hyT
 have hcn:=t.c1 c rfl
 have hyr:y∉rest:=fun q=>t.r1 y q hyT
 have hcy:c≠y:=by rintro rfl;exact hcn.1 hyT
 have hwR:rootOf E U h w∧w≠x:=by rcases hw with ⟨rfl,rfl⟩|⟨rfl,rfl⟩<;>assumption
 have hlR:rootOf E U h l∧l≠x:=by rcases hw with ⟨rfl,rfl⟩|⟨rfl,rfl⟩<;>assumption
 have hwl:w≠l:=ahead_ne ha
 have hroot:∀z,rootOf E (upd U l (some w)) h z↔rootOf E U h z∧z≠l:=fun z=>by
  unfold rootOf
  by_cases f:z=l
  .subst f;rw [upd_same]
   constructor
   .rintro ⟨_,q⟩;cases q
   .rintro ⟨_,q⟩;exact absurd rfl q
  .rw [upd_other _ _ f];simp [f]
 have hin:∀z,InT (tab.set (deg c) none) z↔InT tab z∧z≠y:=fun z=>by
  unfold InT
  constructor
  .rintro ⟨d,q⟩
   rw [set_at e] at q
   split at q
   .cases q
   .rename_i f
    exact ⟨⟨d,q⟩,by rintro rfl;rw [t.pos d z q] at hdy;exact f hdy⟩
  .rintro ⟨⟨d,q⟩,f⟩
   refine ⟨d,?_⟩
   rw [set_at e,if_neg]
   .exact q
   .rintro rfl;rw [e] at q;cases q;exact f rfl
 refine ⟨⟨t.m.under hwR.1 hlR.1 ha hR,fun z=>?_,?_,?_,?_,t.rn,(hroot x).2 ⟨t.rx,fun q=>hlR.2 q.symm⟩,?_⟩,?_⟩
 .rw [hroot,hin]
  have h1:=t.play z
  simp only [Option.some.injEq] at h1 ⊢
  constructor
  .rintro ⟨⟨q1,q2⟩,q3⟩
   rcases h1.1 ⟨q1,q3⟩ with f|f|f
   .by_cases g:z=y
    .subst g
     rcases hw with ⟨_,rfl⟩|⟨rfl,_⟩
     .exact absurd rfl q2
     .exact .inr (.inl rfl)
    .exact .inl ⟨f,g⟩
   .subst f
    rcases hw with ⟨rfl,_⟩|⟨_,rfl⟩
    .exact .inr (.inl rfl)
    .exact absurd rfl q2
   .exact .inr (.inr f)
  .rintro (⟨f1,f2⟩|f|f)
   .obtain ⟨q1,q2⟩:=h1.2 (.inl f1)
    refine ⟨⟨q1,?_⟩,q2⟩
    rintro rfl
    rcases hw with ⟨_,rfl⟩|⟨_,rfl⟩
    .exact f2 rfl
    .exact hcn.1 f1
   .subst f;exact ⟨⟨hwR.1,hwl⟩,hwR.2⟩
   .obtain ⟨q1,q2⟩:=h1.2 (.inr (.inr f))
    refine ⟨⟨q1,?_⟩,q2⟩
    rintro rfl
    rcases hw with ⟨_,rfl⟩|⟨_,rfl⟩
    .exact hyr f
    .exact hcn.2 f
 .intro d z q
  rw [set_at e] at q
  split at q
  .cases q
  .rename_i f
   have hz:=t.pos d z q
   have:z≠w:=by
    rintro rfl
    rcases hw with ⟨rfl,_⟩|⟨rfl,_⟩
    .exact hcn.1 ⟨d,q⟩
    .omega
   rw [upd_other _ _ this];exact hz
 .intro z q
  cases q
  rcases hw with ⟨rfl,_⟩|⟨rfl,_⟩
  .exact ⟨fun q=>hcn.1 ((hin _).1 q).1,hcn.2⟩
  .exact ⟨fun q=>((hin _).1 q).2 rfl,hyr⟩
 .intro z q f
  exact t.r1 z q ((hin z).1 f).1
 .rw [upd_other _ _ (fun q=>hwR.2 q.symm)];exact t.kx
 .rcases hw with ⟨rfl,_⟩|⟨rfl,_⟩
  .rfl
  .exact hdy
structure Back (E:Ent) (n:Nat) (R:Nat->Nat->Prop) (U kid:Nat->Option Nat) (deg:Nat->Nat) (top:Nat->Option Nat) (h x:Nat) (tab:List (Option Nat)) (i:Nat):Prop where
 m:FibM E n R U kid deg top h (fun y=>∃d,d<i∧tab[d]?=some (some y))
 play:∀y,(rootOf E U h y∧y≠x)↔InT tab y
 pos:∀d y,tab[d]?=some (some y)->deg y=d
 rx:rootOf E U h x
 kx:kid x=none
theorem FibM.cong {D D':Nat->Prop} (m:FibM E n R U kid deg top h D) (e:∀y,D' y↔D y):FibM E n R U kid deg top h D':=by
 have:D'=D:=funext fun y=>propext (e y)
 rw [this];exact m
theorem Tidy.back (t:Tidy E n R U kid deg top h x tab none []):Back E n R U kid deg top h x tab 0:=by
 refine ⟨t.m.cong fun y=>?_,fun y=>?_,t.pos,t.rx,t.kx⟩
 .constructor
  .rintro ⟨d,q,_⟩;omega
  .exact False.elim
 .rw [t.play];simp
theorem Back.skip {i:Nat} (b:Back E n R U kid deg top h x tab i) (e:tab[i]?=some none):Back E n R U kid deg top h x tab (i+1):=by
 refine ⟨b.m.cong fun y=>?_,b.play,b.pos,b.rx,b.kx⟩
 constructor
 .rintro ⟨d,q1,q2⟩
  refine ⟨d,?_,q2⟩
  by_cases f:d=i
  .subst f;rw [e] at q2;cases q2
  .omega
 .rintro ⟨d,q1,q2⟩;exact ⟨d,by omega,q2⟩
theorem Back.more {i:Nat} {top':Nat->Option Nat} (b:Back E n R U kid deg top h x tab i) (e:tab[i]?=some (some y)) (m:FibM E n R' U kid deg top' h (fun z=>(∃d,d<i∧tab[d]?=some (some z))∨z=y)):Back E n R' U kid deg top' h x tab (i+1):=by
 refine ⟨m.cong fun z=>?_,b.play,b.pos,b.rx,b.kx⟩
 constructor
 .rintro ⟨d,q1,q2⟩
  by_cases f:d=i
  .subst f;rw [e] at q2;cases q2;exact .inr rfl
  .exact .inl ⟨d,by omega,q2⟩
 .rintro (⟨d,q1,q2⟩|rfl)
  .exact ⟨d,by omega,q2⟩
  .exact ⟨i,by omega,e⟩
theorem Back.loose {i:Nat} (b:Back E n R U kid deg top h x tab i) (e:tab[i]?=some (some y)):rootOf E U h y∧¬∃d,d<i∧tab[d]?=some (some y):=by
 refine ⟨((b.play y).2 ⟨i,e⟩).1,?_⟩
 rintro ⟨d,q1,q2⟩
 have h1:=b.pos d y q2
 have h2:=b.pos i y e
 omega
theorem Back.drop (b:Back E n R U kid deg top h x tab tab.length):FibO (put E x none) n R U kid deg top:=by
 refine FibM.any (g:=h) ?_ 0
 refine b.m.drop b.rx b.kx ?_ ?_
 .rintro ⟨d,_,q⟩
  exact ((b.play x).2 ⟨d,q⟩).2 rfl
 .intro y hy hne
  obtain ⟨d,q⟩:=(b.play y).1 ⟨hy,hne⟩
  exact ⟨d,(List.getElem?_eq_some_iff.1 q).1,q⟩
theorem FibM.degLe {D:Nat->Prop} (m:FibM E n R U kid deg top h D) (p:Nat):deg p<=n:=by rw [m.dg];exact kidsN_le _ _ _
end
theorem upd_two {α:Type} (f:Nat->α) (i:Nat) (v w:α):upd (upd f i v) i w=upd f i w:=by
 funext y
 by_cases c:y=i
 .subst c;rw [upd_same,upd_same]
 .rw [upd_other _ _ c,upd_other _ _ c,upd_other _ _ c]
section
variable {E:Ent} {L R U top L1 R1:Nat->Option Nat} {T:Nat->Prop} {x h q p:Nat} {k k':Int} {rest:Option Nat}
theorem hp_low (he:E x=some (h,k,q)) (k':Int) (y:Nat):hp (put E x (some (h,k',q))) y=hp E y:=by
 by_cases c:y=x
 .subst c;simp [hp,put_same,he]
 .exact hp_put_other c
theorem some_low (he:E x=some (h,k,q)) (k':Int) (y:Nat):(put E x (some (h,k',q)) y).isSome=(E y).isSome:=by
 by_cases c:y=x
 .subst c;simp [put_same,he]
 .rw [put_other _ _ _ c]
theorem isIn_low (he:E x=some (h,k,q)) (k':Int) (g y:Nat):isIn (put E x (some (h,k',q))) g y↔isIn E g y:=by rw [<-hp_some,<-hp_some,hp_low he]
theorem none_low (he:E x=some (h,k,q)) (k':Int) {y:Nat} (e:put E x (some (h,k',q)) y=none):E y=none:=by
 have:=some_low he k' y
 rw [e] at this
 cases c:E y with
 | none=>rfl
 | some _=>rw [c] at this;cases this
theorem ahead_low (he:E x=some (h,k,q)) (hk:k'<=k) {a b:Nat} (hb:b≠x) (ha:ahead E a b=true):ahead (put E x (some (h,k',q))) a b=true:=by
 by_cases c:a=x
 .subst c
  obtain ⟨g,l,g',l',e1,e2,d⟩:=ahead_iff.1 ha
  rw [he] at e1;cases e1
  refine ahead_iff.2 ⟨h,(k',q),g',l',put_same _ _ _,by rw [put_other _ _ _ hb];exact e2,?_⟩
  simp only at d ⊢
  omega
 .rw [ahead_put_other c hb];exact ha
theorem Bin.low (z:Bin E L R U T) (hx:T x) (he:E x=some (h,k,q)) (hk:k'<=k):Bin (put E x (some (h,k',q))) L R U T:=by
 have hu:=(z.top x hx).2
 refine ⟨fun y hy=>⟨by rw [some_low he];exact (z.top y hy).1,(z.top y hy).2⟩,fun p y e=>?_,fun p y e=>?_,z.lr,fun y hy hn=>z.up y (by rw [some_low he] at hy;exact hy) hn⟩
 .obtain ⟨a1,a2,a3⟩:=z.left p y e
  have hy:y≠x:=by rintro rfl;rw [hu] at a1;cases a1
  exact ⟨a1,by rw [hp_low he,hp_low he];exact a2,ahead_low he hk hy a3⟩
 .obtain ⟨a1,a2,a3⟩:=z.right p y e
  have hy:y≠x:=by rintro rfl;rw [hu] at a1;cases a1
  exact ⟨a1,by rw [hp_low he,hp_low he];exact a2,ahead_low he hk hy a3⟩
theorem Tops.isTop (z:Tops E L R U top) (hx:(E x).isSome) (hu:U x=none):∃g,top g=some x:=by
 refine Classical.byContradiction fun hn=>?_
 obtain ⟨p,e,_⟩:=z.bin.up x hx hn
 rw [hu] at e;cases e
theorem Tops.noTop (z:Tops E L R U top) (hu:U x=some p):∀g,top g≠some x:=fun g e=>by
 rw [(z.bin.top x ⟨g,e⟩).2] at hu;cases hu
theorem Tops.child (z:Tops E L R U top) (hx:(E x).isSome) (hu:U x=some p):(L p=some x∧R p≠some x)∨(R p=some x∧L p≠some x):=by
 obtain ⟨p',e,c⟩:=z.bin.up x hx (fun ⟨g,e⟩=>z.noTop hu g e)
 rw [hu] at e;cases e
 rcases c with c|c
 .exact .inl ⟨c,z.bin.lr p x c⟩
 .exact .inr ⟨c,fun d=>z.bin.lr p x d c⟩
theorem Tops.over (z:Tops E L R U top) (hx:(E x).isSome) (hu:U x=some p):hp E p=hp E x∧ahead E p x=true:=by
 rcases z.child hx hu with ⟨c,_⟩|⟨c,_⟩
 .exact (z.bin.left p x c).2
 .exact (z.bin.right p x c).2
theorem Tops.low (z:Tops E L R U top) (hu:U x=none) (he:E x=some (h,k,q)) (hk:k'<=k):Tops (put E x (some (h,k',q))) L R U top :=
 ⟨z.bin.low (z.isTop (by rw [he];rfl) hu) he hk,fun g t e=>(isIn_low he k' g t).2 (z.mine g t e),fun y e=>z.free y (none_low he k' e)⟩
theorem Tops.lowCut (z:Tops E L R U top) (hu:U x=some p) (he:E x=some (h,k,q)) (hk:k'<=k)
  (hc:(L p=some x∧L1=upd L p none∧R1=R)∨(R p=some x∧L1=L∧R1=upd R p none)) :
  Bin (put E x (some (h,k',q))) L1 R1 (upd U x none) (fun y=>(∃g,top g=some y)∨y=x):=by
 rcases hc with ⟨c,rfl,rfl⟩|⟨c,rfl,rfl⟩
 .exact (z.bin.cutL c (T':=fun y=>(∃g,top g=some y)∨y=x) (fun y=>Iff.rfl)).low (.inr rfl) he hk
 .exact (z.bin.cutR c (T':=fun y=>(∃g,top g=some y)∨y=x) (fun y=>Iff.rfl)).low (.inr rfl) he hk
theorem Bin.lowZip (hb:Bin E L R U (fun y=>(∃g,top g=some y)∨y=x)) (hm:∀g t,top g=some t->isIn E g t) (hx:isIn E h x) (hn:∀g,top g≠some x) (hf:∀y,E y=none->U y=none) :
  Zip E L R U (fun y=>∃g,g≠h∧top g=some y) L R h [] (top h) (some x):=by
 refine Zip.start hb (fun y=>?_) ?_ ?_ ?_ hf
 .constructor
  .rintro (⟨g,e⟩|rfl)
   .by_cases c:g=h
    .subst c;exact .inr (.inl e)
    .exact .inl ⟨g,c,e⟩
   .exact .inr (.inr rfl)
  .rintro (⟨g,_,e⟩|e|e)
   .exact .inl ⟨g,e⟩
   .exact .inl ⟨h,e⟩
   .cases e;exact .inr rfl
 .intro y e
  exact ⟨fun ⟨g,c,e'⟩=>c (isIn_one (hm g y e') (hm h y e)),hm h y e⟩
 .intro y e
  cases e
  exact ⟨fun ⟨g,_,e'⟩=>hn g e',hx⟩
 .intro y e c
  cases c
  exact hn h e
def hdOf (E:Ent) (h x p:Nat):Hd:=⟨h,fun y=>y=x∨ahead E y x=true,fun y=>y=p⟩
theorem Tops.cut2 (z:Tops E L R U top) (hx:isIn E h x) (hu:U x=some p) :
  Zip E (upd L x none) (upd R x none) (offU (offU U (L x)) (R x)) (fun y=>∃g,top g=some y) (upd L x none) (upd R x none) (hdOf E h x p) [] (L x) (R x):=by
 have hnoT:∀y,U y=some x->¬∃g,top g=some y:=by
  intro y h1 h2
  rw [(z.bin.top y h2).2] at h1;cases h1
 have b1:Bin E (upd L x none) R (offU U (L x)) (fun y=>(∃g,top g=some y)∨L x=some y):=by
  cases c:L x with
  | none =>
   rw [show upd L x none=L by rw [<-c];exact upd_self L x]
   exact z.bin.cong fun y=>by simp
  | some l=>exact z.bin.cutL c fun y=>by simp [eq_comm]
 have b2:Bin E (upd L x none) (upd R x none) (offU (offU U (L x)) (R x)) (fun y=>((∃g,top g=some y)∨L x=some y)∨R x=some y):=by
  cases c:R x with
  | none =>
   rw [show upd R x none=R by rw [<-c];exact upd_self R x]
   exact b1.cong fun y=>by simp
  | some r=>exact b1.cutR c fun y=>by simp [eq_comm]
 have hover:=(z.over hx.some hu).2
 have hbel:∀y,L x=some y∨R x=some y->ahead E x y=true:=fun y c=>by
  rcases c with c|c
  .exact (z.bin.left x y c).2.2
  .exact (z.bin.right x y c).2.2
 have hoff:∀(V:Nat->Option Nat) o y q,offU V o y=some q->V y=some q:=fun V o y q e=>by
  cases o with
  | none=>exact e
  | some r =>
   by_cases d:y=r
   .subst d;rw [show offU V (some y)=upd V y none from rfl,upd_same] at e;cases e
   .rw [show offU V (some r)=upd V r none from rfl,upd_other V _ d] at e;exact e
 refine Zip.start2 (hdOf E h x p) b2 (fun y=>or_assoc) ?_ ?_ ?_ ?_ ?_ ?_ ?_
 .intro y c
  obtain ⟨u1,u2,u3⟩:=z.bin.left x y c
  exact ⟨hnoT y u1,show isIn E h y by rw [<-hp_some,<-u2];exact isIn_hp hx⟩
 .intro y c
  obtain ⟨u1,u2,u3⟩:=z.bin.right x y c
  exact ⟨hnoT y u1,show isIn E h y by rw [<-hp_some,<-u2];exact isIn_hp hx⟩
 .intro y c d
  exact z.bin.lr x y c d
 .intro y c
  exact offU_none (offU_none (z.free y c))
 .intro y c d
  have h1:=hbel y c
  rcases d with rfl|d
  .rw [ahead_irr] at h1;cases h1
  .rw [ahead_asym h1] at d;cases d
 .intro y q c e
  have e2:=hoff _ _ _ _ (hoff _ _ _ _ e)
  have hy:(E y).isSome:=by
   rcases c with rfl|c
   .exact hx.some
   .exact (ahead_some c).1
  have:=(z.over hy e2).2
  rcases c with rfl|c
  .exact .inr this
  .exact .inr (ahead_tr this c)
 .intro u hu' y c
  obtain rfl:u=p:=hu'
  exact ahead_tr hover (hbel y c)
theorem Zip.hung (z:Zip E L R U (fun y=>∃g,top g=some y) L1 R1 (hdOf E h x p) [] rest none) (hx:isIn E h x) (hpx:hp E p=hp E x) (hap:ahead E p x=true) (hl1:L1 x=none) (hr1:R1 x=none) (hn:∀g,top g≠some x) :
  (L1 p=some x->Bin E (upd L p rest) R (onU (upd U x none) rest p) (fun y=>(∃g,top g=some y)∨y=x)∧upd L p rest x=none∧R x=none) ∧
  (R1 p=some x->Bin E L (upd R p rest) (onU (upd U x none) rest p) (fun y=>(∃g,top g=some y)∨y=x)∧L x=none∧upd R p rest x=none):=by
 have hxp:x≠p:=(ahead_ne hap).symm
 obtain ⟨a1,a2⟩:=z.fxd x (.inl rfl)
 obtain ⟨c1,c2⟩:=z.fxd p (.inr hap)
 have hrr:∀r,rest=some r->r≠x∧r≠p∧hp E p=hp E r∧ahead E p r=true:=fun r e=>by
  have h1:=z.nf r (.inr (.inl e))
  have h2:=z.low p rfl r (.inr (.inl e))
  have h3:isIn E h r:=(z.na r e).2.2
  refine ⟨fun d=>h1 (.inl d),fun d=>h1 (.inr (by rw [d];exact hap)),?_,h2⟩
  rw [hpx,isIn_hp hx,isIn_hp h3]
 have hT:∀y,((∃g,top g=some y)∨y=x)↔((((∃g,top g=some y)∨y∈([]:List Nat)∨rest=some y∨none=some y)∨y=x)∧rest≠some y):=fun y=>by
  constructor
  .rintro (c|rfl)
   .refine ⟨.inl (.inl c),fun e=>?_⟩
    exact (z.na y e).2.1 c
   .exact ⟨.inr rfl,fun e=>(hrr y e).1 rfl⟩
  .rintro ⟨(c|c|c|c)|c,d⟩
   .exact .inl c
   .cases c
   .exact absurd c d
   .cases c
   .exact .inr c
 refine ⟨fun e=>?_,fun e=>?_⟩
 .have e':L p=some x:=c1.trans e
  have b1:=z.bin.cutL e' (T':=fun y=>((∃g,top g=some y)∨y∈([]:List Nat)∨rest=some y∨none=some y)∨y=x) (fun y=>Iff.rfl)
  refine ⟨?_,by rw [upd_other _ _ hxp];exact a1.trans hl1,a2.trans hr1⟩
  cases hre:rest with
  | none =>
   subst hre
   exact b1.cong fun y=>by rw [hT y];simp
  | some r =>
   obtain ⟨r1,r2,r3,r4⟩:=hrr r hre
   have b2:=b1.hangL (x:=r) (upd_same _ _ _) (.inl (.inr (.inr (.inl hre)))) r3 r4 (T':=fun y=>(∃g,top g=some y)∨y=x) (fun y=>by rw [hT y,hre];simp [eq_comm])
   rw [upd_two] at b2
   exact b2
 .have e':R p=some x:=c2.trans e
  have b1:=z.bin.cutR e' (T':=fun y=>((∃g,top g=some y)∨y∈([]:List Nat)∨rest=some y∨none=some y)∨y=x) (fun y=>Iff.rfl)
  refine ⟨?_,a1.trans hl1,by rw [upd_other _ _ hxp];exact a2.trans hr1⟩
  cases hre:rest with
  | none =>
   subst hre
   exact b1.cong fun y=>by rw [hT y];simp
  | some r =>
   obtain ⟨r1,r2,r3,r4⟩:=hrr r hre
   have b2:=b1.hangR (x:=r) (upd_same _ _ _) (.inl (.inr (.inr (.inl hre)))) r3 r4 (T':=fun y=>(∃g,top g=some y)∨y=x) (fun y=>by rw [hT y,hre];simp [eq_comm])
   rw [upd_two] at b2
   exact b2
theorem Bin.gone (hb:Bin E L R U (fun y=>(∃g,top g=some y)∨y=x)) (hl:L x=none) (hr:R x=none) (hm:∀g t,top g=some t->isIn E g t) (hn:∀g,top g≠some x) (hf:∀y,E y=none->U y=none) :
  Tops (put E x none) L R U top:=by
 have hu:=(hb.top x (.inr rfl)).2
 refine ⟨hb.drop (.inr rfl) hl hr fun y=>⟨fun c=>⟨.inl c,fun d=>by obtain ⟨g,c⟩:=c;exact hn g (by rw [<-d];exact c)⟩,fun ⟨c,d⟩=>c.resolve_right d⟩,fun g t e=>?_,fun y e=>?_⟩
 .have:t≠x:=fun d=>hn g (by rw [<-d];exact e)
  rw [isIn_put_other this];exact hm g t e
 .by_cases c:y=x
  .subst c;exact hu
  .rw [put_other _ _ _ c] at e;exact hf y e
def Turned (L R L1 R1:Nat->Option Nat):Prop:=∀y,(L1 y=L y∧R1 y=R y)∨(L1 y=R y∧R1 y=L y)
theorem Turned.refl (L R:Nat->Option Nat):Turned L R L R:=fun y=>.inl ⟨rfl,rfl⟩
theorem Turned.turn (h:Turned L R L1 R1) (x:Nat):Turned L R (upd L1 x (R1 x)) (upd R1 x (L1 x)):=fun y=>by
 by_cases c:y=x
 .subst c
  rw [upd_same,upd_same]
  rcases h y with ⟨a,b⟩|⟨a,b⟩
  .exact .inr ⟨b,a⟩
  .exact .inl ⟨b,a⟩
 .rw [upd_other _ _ c,upd_other _ _ c];exact h y
theorem Turned.none (h:Turned L R L1 R1) (hl:L x=none) (hr:R x=none):L1 x=none∧R1 x=none:=by
 rcases h x with ⟨a,b⟩|⟨a,b⟩
 .exact ⟨a.trans hl,b.trans hr⟩
 .exact ⟨a.trans hr,b.trans hl⟩
end
def swp (x p z:Nat):Nat:=if z=x then p else if z=p then x else z
section
variable {x p z a b:Nat} {l:List Nat}
theorem swp_l:swp x p x=p:=by simp [swp]
theorem swp_r:swp x p p=x:=by
 unfold swp
 split
 .assumption
 .simp
theorem swp_o (hx:z≠x) (hp:z≠p):swp x p z=z:=by simp [swp,hx,hp]
theorem swp_swp:swp x p (swp x p z)=z:=by
 by_cases c:z=x
 .subst c;rw [swp_l,swp_r]
 .by_cases d:z=p
  .subst d;rw [swp_r,swp_l]
  .rw [swp_o c d,swp_o c d]
theorem swp_eq:swp x p a=b↔a=swp x p b:=by
 constructor
 .intro e;rw [<-e,swp_swp]
 .intro e;rw [e,swp_swp]
theorem swp_inj (e:swp x p a=swp x p b):a=b:=by rw [swp_eq,swp_swp] at e;exact e
theorem mem_swp:z∈l.map (swp x p)↔swp x p z∈l:=by
 rw [List.mem_map]
 constructor
 .rintro ⟨y,h,rfl⟩;rw [swp_swp];exact h
 .intro h;exact ⟨_,h,swp_swp⟩
theorem map_swp_id (hx:x∉l) (hp:p∉l):l.map (swp x p)=l:=by
 rw [List.map_eq_iff]
 intro i
 cases e:l[i]? with
 | none=>rfl
 | some y =>
  have:=List.mem_of_getElem? e
  simp only [Option.map_some]
  rw [swp_o (by rintro rfl;exact hx this) (by rintro rfl;exact hp this)]
theorem map_swp_at {b:List Nat} (ha:x∉l) (hb:x∉b) (hpa:p∉l) (hpb:p∉b):(l++x::b).map (swp x p)=l++p::b:=by
 rw [List.map_append,List.map_cons,map_swp_id ha hpa,map_swp_id hb hpb,swp_l]
theorem map_swp_at' {b:List Nat} (ha:x∉l) (hb:x∉b) (hpa:p∉l) (hpb:p∉b):(l++p::b).map (swp x p)=l++x::b:=by
 rw [List.map_append,List.map_cons,map_swp_id ha hpa,map_swp_id hb hpb,swp_r]
theorem opt_swp {o:Option Nat} {q:Nat}:o.map (swp x p)=some q↔o=some (swp x p q):=by
 cases o with
 | none=>simp
 | some y=>simp only [Option.map_some,Option.some.injEq];exact swp_eq
theorem opt_swp_none {o:Option Nat}:o.map (swp x p)=none↔o=none:=by simp
end
def swK (x p:Nat) (K:Nat->List Nat):Nat->List Nat:=fun z=>(K (swp x p z)).map (swp x p)
def swU (x p:Nat) (U:Nat->Option Nat):Nat->Option Nat:=fun z=>(U (swp x p z)).map (swp x p)
section
variable {E:Ent} {K:Nat->List Nat} {U:Nat->Option Nat} {rw':Nat->List Nat} {x p y q h n:Nat}
theorem swU_eq:swU x p U y=some q↔U (swp x p y)=some (swp x p q):=opt_swp
theorem swU_none:swU x p U y=none↔U (swp x p y)=none:=opt_swp_none
theorem swK_len:(swK x p K y).length=(K (swp x p y)).length:=by simp [swK]
theorem Cubes.swap (h:Cubes K U) (x p:Nat):Cubes (swK x p K) (swU x p U):=by
 refine ⟨fun q z=>?_,fun q i z e=>?_⟩
 .rw [swU_eq]
  show z∈(K (swp x p q)).map (swp x p)↔_
  rw [mem_swp];exact h.mem _ _
 .rw [swK_len]
  refine h.deg (swp x p q) i _ ?_
  have e:((K (swp x p q)).map (swp x p))[i]?=some z:=e
  rw [List.getElem?_map] at e
  exact opt_swp.1 e
structure ParX (E:Ent) (U:Nat->Option Nat) (x:Nat):Prop where
 same:∀y p,U y=some p->hp E p=hp E y
 ah:∀y p,U y=some p->y≠x->ahead E p y=true
 sk:∀y p,U y=some x->U x=some p->ahead E p y=true
theorem ParX.fin (z:ParX E U x) (hs:(E x).isSome) (hf:∀p,U x=some p->ahead E x p=false∧(E p).isSome∧p≠x):Par E U:=by
 intro y p e
 refine ⟨z.same y p e,?_⟩
 by_cases c:y=x
 .subst c
  obtain ⟨h1,h2,h3⟩:=hf p e
  rcases ahead_tot h2 hs h3 with r|r
  .exact r
  .rw [h1] at r;cases r
 .exact z.ah y p e c
theorem ParX.swap (z:ParX E U x) (hu:U x=some p) (ha:ahead E x p=true):ParX E (swU x p U) x:=by
 have hne:x≠p:=ahead_ne ha
 have hpx:=z.same x p hu
 have hhp:∀y,hp E (swp x p y)=hp E y:=fun y=>by
  by_cases c:y=x
  .subst c;rw [swp_l];exact hpx
  .by_cases d:y=p
   .subst d;rw [swp_r];exact hpx.symm
   .rw [swp_o c d]
 have no:U p≠some x:=fun e=>by have:=z.sk p p e hu;rw [ahead_irr] at this;cases this
 have np:U p≠some p:=fun e=>by have:=z.ah p p e hne.symm;rw [ahead_irr] at this;cases this
 refine ⟨fun y q e=>?_,fun y q e hy=>?_,fun y q e f=>?_⟩
 .rw [swU_eq] at e
  rw [<-hhp q,<-hhp y];exact z.same _ _ e
 .rw [swU_eq] at e
  by_cases c:y=p
  .subst c
   rw [swp_r,hu] at e
   have:swp x y q=y:=by injection e with e;exact e.symm
   rw [swp_eq,swp_r] at this
   subst this;exact ha
  .rw [swp_o hy c] at e
   by_cases d:q=x
   .subst d;rw [swp_l] at e;exact ahead_tr ha (z.ah y p e hy)
   .by_cases d':q=p
    .subst d';rw [swp_r] at e;exact z.sk y q e hu
    .rw [swp_o d d'] at e;exact z.ah y q e hy
 .rw [swU_eq] at e f
  rw [swp_l] at e f
  have q1:swp x p q≠p:=fun c=>np (f.trans (by rw [c]))
  have q2:swp x p q≠x:=fun c=>no (f.trans (by rw [c]))
  have qq:swp x p q=q:=by
   have:q=swp x p (swp x p q):=swp_swp.symm
   rw [swp_o q2 q1] at this
   exact this.symm
  rw [qq] at f
  have hqp:=z.ah p q f hne.symm
  by_cases c:y=p
  .subst c;exact hqp
  .by_cases d:y=x
   .subst d;rw [swp_l] at e;exact absurd e np
   .rw [swp_o d c] at e;exact ahead_tr hqp (z.ah y p e d)
structure BinX (E:Ent) (K:Nat->List Nat) (U:Nat->Option Nat) (rw:Nat->List Nat) (x:Nat):Prop where
 cubes:Cubes K U
 par:ParX E U x
 row:∀h,CRow K U (rw h)
 mem:∀h x,x∈rw h↔isIn E h x∧U x=none
theorem BinX.fin (z:BinX E K U rw' x) (hs:(E x).isSome) (hf:∀p,U x=some p->ahead E x p=false) (hn:∀p,U x=some p->(E p).isSome):BinO E K U rw':=by
 refine ⟨z.cubes,z.par.fin hs fun p e=>⟨hf p e,hn p e,?_⟩,z.row,z.mem⟩
 rintro rfl
 have:=z.cubes.lt ((z.cubes.mem p p).2 e)
 omega
theorem BinX.swap (z:BinX E K U rw' x) (hu:U x=some p) (ha:ahead E x p=true):BinX E (swK x p K) (swU x p U) (fun g=>(rw' g).map (swp x p)) x:=by
 have hpx:=z.par.same x p hu
 have hhp:∀y,hp E (swp x p y)=hp E y:=fun y=>by
  by_cases c:y=x
  .subst c;rw [swp_l];exact hpx
  .by_cases d:y=p
   .subst d;rw [swp_r];exact hpx.symm
   .rw [swp_o c d]
 refine ⟨z.cubes.swap x p,z.par.swap hu ha,fun g=>⟨fun y hy=>?_,?_⟩,fun g y=>?_⟩
 .rw [mem_swp] at hy
  rw [swU_none];exact (z.row g).1 _ hy
 .rw [List.pairwise_map]
  refine (z.row g).2.imp fun {a b} e=>?_
  rw [swK_len,swK_len,swp_swp,swp_swp];exact e
 .rw [mem_swp,z.mem,swU_none,<-hp_some,<-hp_some,hhp]
theorem BinX.more (z:BinX E K U rw' x) (hu:U x=some p):(K x).length<(swK x p K x).length:=by
 rw [swK_len,swp_l];exact z.cubes.lt ((z.cubes.mem p x).2 hu)
theorem BinO.low {k k':Int} {s:Nat} (z:BinO E K U rw') (he:E x=some (h,k,s)) (hk:k'<=k):BinX (put E x (some (h,k',s))) K U rw' x:=by
 refine ⟨z.cubes,⟨fun y p e=>by rw [hp_low he,hp_low he];exact (z.par y p e).1,fun y p e c=>ahead_low he hk c (z.par y p e).2,fun y p e f=>?_⟩,z.row,fun g y=>by rw [z.mem,isIn_low he]⟩
 refine ahead_low he hk ?_ (ahead_tr (z.par x p f).2 (z.par y x e).2)
 rintro rfl
 have:=(z.par y y e).2
 rw [ahead_irr] at this;cases this
theorem key_below (E:Ent) (n:Nat):∃k:Int,∀y,y<n->∀g l s,E y=some (g,l,s)->k<l:=by
 induction n with
 | zero=>exact ⟨0,fun y hy=>by omega⟩
 | succ n ih =>
  obtain ⟨k,hk⟩:=ih
  cases c:E n with
  | none=>exact ⟨k,fun y hy g l s e=>hk y (by
    rcases Nat.lt_succ_iff_lt_or_eq.1 hy with q|q
    .exact q
    .subst q;rw [c] at e;cases e) g l s e⟩
  | some v =>
   obtain ⟨g0,l0,s0⟩:=v
   refine ⟨min k (l0 - 1),fun y hy g l s e=>?_⟩
   rcases Nat.lt_succ_iff_lt_or_eq.1 hy with q|q
   .have:=hk y q g l s e;omega
   .subst q;rw [c] at e;cases e;omega
theorem ahead_below {k:Int} {s:Nat} (hk:∀y,y<n->∀g l s,E y=some (g,l,s)->k<l) (hy:(E y).isSome) (hn:y<n) (hne:y≠x):ahead (put E x (some (h,k,s))) x y=true:=by
 obtain ⟨⟨g,l,r⟩,e⟩:=Option.isSome_iff_exists.1 hy
 refine ahead_iff.2 ⟨h,(k,s),g,(l,r),put_same _ _ _,by rw [put_other _ _ _ hne];exact e,.inl (hk y hn g l r e)⟩
end
end Go.Proofs.YtkdbjelhkfdfjaaGreatDoor
namespace Go.Proofs.YtkdbjelhkfdfjaaGreatDoor
open Go.RowKit Go.Shelf
attribute [local go_sem] Oper.semAt_some
abbrev outA:List UInt8:=[115,111,114,116,32,49,32,48]
abbrev outK:List UInt8:=[111,107]
def DoGives (a:Int) (d:ByteArray) (o:List UInt8) (a':Int):Prop:=∀(db:Nat) (u:World),u.heap[db]?=some (deskO a 0 (.pointer none)) ->
 Calls Tryz.prog 46 #[.pointer (some ⟨db,0,none⟩),.string d] u fun e w'=>e=.returned (.string ⟨o.toArray⟩)∧w'.heap[db]?=some (deskO a' 0 (.pointer none))∧Keeps [db] u w'
def RunT (pre:List ByteArray) (a:Int) (t:List UInt8):Prop :=
 (pre=[]∧a=1∧t=[])∨(pre=[lineA]∧a=1∧t=outA++[10])∨(pre=[lineA,lineK]∧a=7∧t=outA++[10]++(outK++[10]))∨(pre=[lineA,lineK,lineA]∧a=7∧t=outA++[10]++(outK++[10])++(outA++[10]))
theorem RunT.len {pre:List ByteArray} {a:Int} {t:List UInt8} (h:RunT pre a t):t.length<=30:=by
 rcases h with ⟨_,_,rfl⟩|⟨_,_,rfl⟩|⟨_,_,rfl⟩|⟨_,_,rfl⟩<;>decide
theorem RunT.next {pre:List ByteArray} {a:Int} {t:List UInt8} {x:ByteArray} (h:RunT pre a t) (hx:pre++[x] <+: [lineA,lineK,lineA])
  (d1:DoGives 1 ⟨#[115,111,114,116,32,50,32,49]⟩ outA 1) (d7:DoGives 7 ⟨#[115,111,114,116,32,50,32,49]⟩ outA 7) (dk:DoGives 1 ⟨#[107,105,110,100,32,115,107,101,119]⟩ outK 7) :
  ∃d o a',(∀u,Calls Tryz.prog 47 #[.string x,.string ⟨#[10]⟩] u fun e w'=>e=.returned (.string d)∧u=w')∧DoGives a d o a'∧RunT (pre++[x]) a' (t++(o++[10]))∧o.length<=8:=by
 obtain ⟨s,hs⟩:=hx
 rcases h with ⟨rfl,rfl,rfl⟩|⟨rfl,rfl,rfl⟩|⟨rfl,rfl,rfl⟩|⟨rfl,rfl,rfl⟩
 .simp only [List.nil_append,List.singleton_append,List.cons.injEq] at hs
  obtain rfl:=hs.1
  exact ⟨_,_,_,trim_A,d1,.inr (.inl ⟨rfl,rfl,rfl⟩),by decide⟩
 .simp only [List.nil_append,List.cons_append,List.cons.injEq] at hs
  obtain rfl:=hs.2.1
  exact ⟨_,_,_,trim_K,dk,.inr (.inr (.inl ⟨rfl,rfl,rfl⟩)),by decide⟩
 .simp only [List.nil_append,List.cons_append,List.cons.injEq] at hs
  obtain rfl:=hs.2.2.1
  exact ⟨_,_,_,trim_A,d7,.inr (.inr (.inr ⟨rfl,rfl,rfl⟩)),by decide⟩
 .have:=congrArg List.length hs
  simp at this
def RunI (w:World) (B db dp bp:Nat) (pre:List ByteArray) (W:World):Prop :=
 ∃(a:Int) (t:List UInt8) (v:Value),RunT pre a t∧W.heap[db]?=some (deskO a 0 (.pointer none))∧W.heap[dp]?=some (.cells #[.pointer (some ⟨db,0,none⟩)] 117 (0,0)) ∧
  BldAt W bp t v∧(∀b,v.ownBlock=some b->B<=b)∧Keeps [] w W∧B<=W.heap.size
section
variable (w:World)
theorem new_calls:Calls Tryz.prog 43 #[] w fun e w'=>e=.returned (.pointer (some ⟨w.heap.size,0,none⟩))∧w'=w.alloc (deskO 1 0 (.pointer none)):=by
 go_enter Tryz.func43,Tryz.ntmps43
 go_wp2_with fail
 go_ret
 exact ⟨rfl,rfl⟩
theorem seqlines_calls:Calls Tryz.prog 44 #[.string textA] w fun e w'=>e=.returned (.func (.func 75) #[] #[.pointer (some ⟨w.heap.size,0,none⟩)])∧w'=w.alloc (.cells #[.string textA] 9 (0,0)):=by
 have hmf:∀(fn:Fn) (first cap:Array Value) (w:World),(Instr.makeFunc fn first cap).run Tryz.prog w=.ok (.func fn first cap) w:=fun _ _ _ _=>rfl
 go_enter Tryz.func44,Tryz.ntmps44
 go_wp2_with fail
 go_ret
 exact ⟨rfl,rfl⟩
end
theorem RunI.own {w:World} {B db dp bp:Nat} (hB:w.heap.size<=B):OwnFrom B (RunI w B db dp bp):=by
 rintro pre W W' row ⟨a,t,v,h1,h2,h3,h4,h5,h6,h7⟩ hg hr
 have hr':∀r,row=some r->∃o:Obj,W.heap[r]?=some o∧o.isCells=false:=fun r e=>(hr r e).2
 refine ⟨a,t,v,h1,(grownBy_keeps_cells hg hr' h2 rfl).trans h2,(grownBy_keeps_cells hg hr' h3 rfl).trans h3,?_,h5,h6.grown hg (fun k e=>.inr (Nat.le_trans hB (hr k e).1)),Nat.le_trans h7 hg.size⟩
 obtain ⟨p,g1,g2,g3,g4⟩:=h4
 refine ⟨p,(grownBy_keeps_cells hg hr' g1 rfl).trans g1,g2,⟨g3.1,?_⟩,g4⟩
 rcases g3.2 with c|⟨g,cap,cur,e,hb,hgg,r⟩
 .exact .inl c
 .exact .inr ⟨g,cap,cur,e,hb,(grownBy_keeps_cells hg hr' hgg rfl).trans hgg,r⟩
theorem RunI.cell {w:World} {B db dp bp c:Nat} (hc:c<B) (hcw:w.heap.size<=c) (h1:c≠db) (h2:c≠dp) (h3:c≠bp):∀s X v,RunI w B db dp bp s X->RunI w B db dp bp s (X.setCell ⟨c,0,none⟩ v):=by
 rintro pre W u ⟨a,t,v,g1,g2,g3,g4,g5,g6,g7⟩
 have k:Keeps [c] W (W.setCell ⟨c,0,none⟩ u):=(Keeps.refl _ _).setCell (p:=⟨c,0,none⟩) (.inl (by simp)) _
 exact ⟨a,t,v,g1,k.blk g2 (by simpa using h1.symm),k.blk g3 (by simpa using h2.symm),g4.keep k (by simpa using h3.symm) (fun b e=>by have:=g5 b e;simp;omega),g5,g6.setCell (p:=⟨c,0,none⟩) (.inr hcw) u,Nat.le_trans g7 k.size⟩
theorem keeps_from {S:List Nat} {B:Nat} {W X:World} (k:Keeps S W X) (h:∀b∈S,b<B∨∃o:Obj,W.heap[b]?=some o∧o.isCells=true):KeepsFrom B W X :=
 ⟨k.size,fun i o hi ho hc=>k.blk ho (fun hm=>by
  rcases h i hm with e|⟨o',e1,e2⟩
  .omega
  .rw [ho] at e1;cases e1;rw [hc] at e2;cases e2)⟩
theorem run_calls (w:World) (d1:DoGives 1 ⟨#[115,111,114,116,32,50,32,49]⟩ outA 1) (d7:DoGives 7 ⟨#[115,111,114,116,32,50,32,49]⟩ outA 7) (dk:DoGives 1 ⟨#[107,105,110,100,32,115,107,101,119]⟩ outK 7) :
  Calls Tryz.prog 18 #[.string textA] w fun e w'=>e=.returned (.string ⟨(outA++[10]++(outK++[10])++(outA++[10])).toArray⟩)∧Keeps [] w w':=by
 refine (callsIn_wide (n:=9)).1 ?_
 refine callsIn_of_wp_marks Tryz.func18 rfl trivial ?_ rfl
 simp only [Tryz.ntmps18,List.size_toArray,List.length_cons,List.length_nil,Nat.reduceAdd,Nat.reduceSub,Array.replicate_succ,Array.replicate_zero,List.push_toArray,List.append_toArray,List.nil_append,List.cons_append]
 have hsz:¬(65536:Int)<(textA.size:Int):=by decide
 gi_wp2_with (first
  | (refine ⟨trivial,?_⟩;gi_at_call 43;refine (callsIn_wide.2 (new_calls _)).mono ?_;rintro e w' ⟨rfl,rfl⟩)
  | (refine ⟨trivial,?_⟩;gi_at_call 44;refine (callsIn_wide.2 (seqlines_calls _)).mono ?_;rintro e w' ⟨rfl,rfl⟩))
 obtain ⟨W0,hW0⟩:∃W0,W0=(((w.alloc (deskO 1 0 (.pointer none))).alloc (.cells #[.pointer (some ⟨w.heap.size,0,none⟩)] 117 (0,0))).alloc (.cells #[.pointer none,.slice none 0 0] 122 (0,0))).alloc (.cells #[.string textA] 9 (0,0)):=⟨_,rfl⟩
 have hs0:W0.heap.size=w.heap.size+4:=by rw [hW0];simp
 have b0:W0.heap[w.heap.size]?=some (deskO 1 0 (.pointer none)):=by
  rw [hW0];exact (blk_alloc_old _ (by simp<;>omega)).trans ((blk_alloc_old _ (by simp<;>omega)).trans ((blk_alloc_old _ (by simp)).trans (blk_alloc_new _)))
 have b1:W0.heap[w.heap.size+1]?=some (.cells #[.pointer (some ⟨w.heap.size,0,none⟩)] 117 (0,0)):=by
  rw [hW0]
  have:=blk_alloc_new (w:=w.alloc (deskO 1 0 (.pointer none))) (.cells #[.pointer (some ⟨w.heap.size,0,none⟩)] 117 (0,0))
  rw [World.size_alloc] at this
  exact (blk_alloc_old _ (by simp<;>omega)).trans ((blk_alloc_old _ (by simp)).trans this)
 have b2:BldAt W0 (w.heap.size+1+1) [] (.slice none 0 0):=by
  have:=BldAt.new ((w.alloc (deskO 1 0 (.pointer none))).alloc (.cells #[.pointer (some ⟨w.heap.size,0,none⟩)] 117 (0,0)))
  rw [World.size_alloc,World.size_alloc] at this
  rw [hW0]
  exact this.keep ((Keeps.refl [] _).alloc _) (by simp) (by simp [Value.ownBlock])
 have b3:W0.heap[w.heap.size+1+1+1]?=some (.cells #[.string textA] 9 (0,0)):=by
  rw [hW0]
  have:=blk_alloc_new (w:=((w.alloc (deskO 1 0 (.pointer none))).alloc (.cells #[.pointer (some ⟨w.heap.size,0,none⟩)] 117 (0,0))).alloc (.cells #[.pointer none,.slice none 0 0] 122 (0,0))) (.cells #[.string textA] 9 (0,0))
  rw [World.size_alloc,World.size_alloc,World.size_alloc] at this
  exact this
 have kk:Keeps [] w W0:=by rw [hW0];exact ((((Keeps.refl _ _).alloc _).alloc _).alloc _).alloc _
 rw [<-hW0]
 clear hW0
 obtain ⟨N,hN⟩:∃N,N=w.heap.size:=⟨_,rfl⟩
 rw [<-hN] at hs0 b0 b1 b2 b3 ⊢
 have HN:=Lib.hid hN
 have HK:=Lib.hid kk
 clear hN kk
 have hseq:=lines_seq 8 (by omega) W0 (N+1+1+1) b3
 have h0:RunI w W0.heap.size N (N+1) (N+1+1) [] W0:=⟨1,[],.slice none 0 0,.inl ⟨rfl,rfl,rfl⟩,b0,b1,b2,by simp [Value.ownBlock],HK.out,Nat.le_refl _⟩
 refine range_cell (F:=Fence.wide) (n:=9) rfl (by omega) (gf:=75) (lb:=#[.pointer (some ⟨N+1+1+1,0,none⟩)]) rfl trivial (enters_of Tryz.func75 (by kernel_rfl) rfl) (c:=N+1+1+1) (L:=[lineA,lineK,lineA]) (by omega) hseq (fun _=>rfl)
  (RunI w W0.heap.size N (N+1) (N+1+1)) (RunI.own (by have:=HK.out.size;omega)) (RunI.cell (by omega) (by have:=HN.out;omega) (by omega) (by omega) (by omega)) h0
  (fun x=>{ tmps:=#[.string textA,undef,.string ⟨#[]⟩,.pointer (some ⟨N+1,0,none⟩),.pointer (some ⟨N+1+1,0,none⟩),.string x,.string textA,.int .i64 28,.bool false,undef,undef,.pointer (some ⟨N,0,none⟩),.string textA,.func (.func 75) #[] #[.pointer (some ⟨N+1+1+1,0,none⟩)],.string x,undef,undef,undef,undef,undef,undef,undef],defers:=[] }) ?assign ?body ?done
 case assign =>
  intro l x W K hK
  gi_wp2
  exact hK
 case body =>
  rintro l pre x W ⟨a,t,v,h1,h2,h3,h4,h5,h6,hsW⟩ hpre
  rw [hs0] at h5 hsW
  have hl:=h1.len
  obtain ⟨d,o,a',ht,hd,hn,ho⟩:=h1.next hpre d1 d7 dk
  have hmx:Tryz.prog.follows .mixedOrders=true:=by kernel_rfl
  have hq:¬9223372036854775807<o.length+1:=by omega
  have e3:W.cell? ⟨N+1,0,none⟩=some (.pointer (some ⟨N,0,none⟩)):=by rw [cell_of_blk h3];rfl
  have hsl:((⟨o.toArray⟩:ByteArray)++⟨#[10]⟩).data.toList=o++[10]:=by
   rw [show ((⟨o.toArray⟩:ByteArray)++⟨#[10]⟩)=ByteArray.mk (o++[10]).toArray from ByteArray.mk_append_mk o [10]]
  have hss:((⟨o.toArray⟩:ByteArray)++⟨#[10]⟩).size=o.length+1:=by
   rw [show ((⟨o.toArray⟩:ByteArray)++⟨#[10]⟩)=ByteArray.mk (o++[10]).toArray from ByteArray.mk_append_mk o [10]]
   simp [ByteArray.size]
  have hdo:=hd N W.drew h2
  have hfin:∀w1,w1.heap[N]?=some (deskO a' 0 (.pointer none))->Keeps [N] W.drew w1 ->
    Calls Tryz.prog 45 #[.pointer (some ⟨N+1+1,0,none⟩),.string (⟨o.toArray⟩++⟨#[10]⟩)] w1 fun e w2=>(∃r,e=.returned r)∧Hid (KeepsFrom (N+4) W w2∧w2.heap[N+1+1+1]?=W.heap[N+1+1+1]?∧RunI w (N+4) N (N+1) (N+1+1) (pre++[x]) w2):=by
   intro w1 g1 k1
   have k1':Keeps [N] W w1:=⟨k1.os,k1.tape,k1.output,k1.size,k1.block⟩
   have hb1:BldAt w1 (N+1+1) t v:=h4.keep k1' (by simp<;>omega) (fun b e=>by have:=h5 b e;simp;omega)
   have hsz0:N+4<=W.heap.size:=hsW
   refine (bld_write w1 (N+1+1) t v hb1 _ (by rw [hss];omega) (N+4) (Nat.le_trans hsz0 k1'.size) h5).mono ?_
   rintro e w2 ⟨v',rfl,hb2,k2,hv2⟩
   rw [hsl] at hb2
   have hcell:∀b,v.ownBlock=some b->b<W.heap.size∧∃o:Obj,W.heap[b]?=some o∧o.isCells=true:=fun b e=>by
    obtain ⟨cur,hc⟩:=h4.rowBlk e
    exact ⟨lt_of_block hc,_,hc,rfl⟩
   have kAll:Keeps (N::(N+1+1)::v.ownBlock.toList) W w2:=(k1'.mono (T:=N::(N+1+1)::v.ownBlock.toList) (fun x hx=>.inl (by simp at hx;simp [hx]))).trans k2 (fun x hx=>.inl (by simp at hx ⊢;exact .inr hx))
   have hmem:∀x,x∈v.ownBlock.toList->N+4<=x:=fun x hx=>h5 x (by simpa [Option.mem_toList] using hx)
   have hnot:∀x,N<=x->x<N+4->x≠N->x≠N+1+1->x∉N::(N+1+1)::v.ownBlock.toList:=fun x h1 h2 h3 h4 hm=>by
    rcases List.mem_cons.1 hm with e|hm
    .exact h3 e
    .rcases List.mem_cons.1 hm with e|hm
     .exact h4 e
     .have:=hmem x hm;omega
   refine ⟨⟨_,rfl⟩,keeps_from kAll ?_,kAll.block _ (by omega) (hnot _ (by omega) (by omega) (by omega) (by omega)),a',_,v',hn,?_,?_,hb2,hv2,?_⟩
   .intro b hb
    rcases List.mem_cons.1 hb with rfl|hb
    .exact .inl (by omega)
    .rcases List.mem_cons.1 hb with rfl|hb
     .exact .inl (by omega)
     .exact .inr (hcell b (by simpa [Option.mem_toList] using hb)).2
   .refine k2.blk g1 (fun hm=>?_)
    rcases List.mem_cons.1 hm with e|hm
    .omega
    .have:=hmem _ hm;omega
   .exact kAll.blk h3 (hnot _ (by omega) (by omega) (by omega) (by omega))
   .refine ⟨h6.trans kAll (fun x hx=>.inr ?_),Nat.le_trans hsz0 kAll.size⟩
    rcases List.mem_cons.1 hx with rfl|hx
    .rw [<-HN.out];omega
    .rcases List.mem_cons.1 hx with rfl|hx
     .have:=HN.out;omega
     .have:=HN.out;have:=hmem x hx;omega
  have HF:=Lib.hid hfin
  clear hfin hd hn h1 h2 h3 h4 h5 h6 hseq h0 b0 b1 b2 b3 hsl hss d1 d7 dk hpre hsz
  gi_wp2
  gi_region_with_o (first
   | (refine ⟨trivial,?_⟩;gi_at_call 47;refine (CallsIn.inRound l (callsIn_wide.2 (ht _))).mono ?_;rintro e w' ⟨rfl,rfl⟩)
   | (refine ⟨trivial,?_⟩;gi_at_call 46;refine (CallsIn.inRound l (callsIn_wide.2 hdo)).mono ?_;rintro e w1 ⟨rfl,y1,y2⟩;have z1:=HF.out w1 y1 y2)
   | (refine ⟨trivial,?_⟩;gi_at_call 45;refine (CallsIn.inRound l (callsIn_wide.2 z1)).mono ?_;rintro e w2 ⟨⟨r,rfl⟩,z2⟩))
  all_goals
   rw [hs0]
   exact z2.out
 case done =>
  rintro D W hD ⟨a,t,v,h1,h2,h3,h4,h5,h6,hsW⟩ hK
  have ht:t=outA++[10]++(outK++[10])++(outA++[10]):=by
   rcases h1 with ⟨e,_⟩|⟨e,_⟩|⟨e,_⟩|⟨_,_,e⟩
   .cases e
   .cases e
   .cases e
   .exact e
  subst ht
  have hst:=bld_string W (N+1+1) _ v h4 (by simp) (by decide)
  have hfin:∀w2,Keeps v.ownBlock.toList W w2->w2.heap[D]?=some (.deferred (some []))∧Hid (Keeps [] w (w2.putObj D (.deferred none))):=by
   intro w2 k2
   have hmem:∀x,x∈v.ownBlock.toList->N+4<=x:=fun x hx=>by rw [<-hs0];exact h5 x (by simpa [Option.mem_toList] using hx)
   refine ⟨k2.blk hK (fun hm=>?_),?_⟩
   .obtain ⟨cur,hc⟩:=h4.rowBlk (b:=D) (by simpa [Option.mem_toList] using hm)
    rw [hK] at hc;cases hc
   .refine (h6.trans k2 (fun x hx=>.inr ?_)).grown (grownBy_putObj' w2 D (.deferred none)) (fun k e=>.inr ?_)
    .have:=hmem x hx;have:=HN.out;omega
    .cases e;have:=HN.out;omega
  have HF:=Lib.hid hfin
  clear hfin h1 h2 h3 h4 h5 h6 hsW hK hseq h0 b0 b1 b2 b3 d1 d7 dk
  gi_wp2_with (refine ⟨trivial,?_⟩;gi_at_call 48;refine (callsIn_wide.2 hst).mono ?_;rintro e w2 ⟨rfl,k2⟩;obtain ⟨z1,z2⟩:=HF.out w2 k2;clear k2)
  refine ⟨by simp,.inl ⟨_,_,rfl,run_takeDeferred z1,?_⟩⟩
  exact ⟨_,results_tmp rfl _ _ _,rfl,z2.out⟩
end Go.Proofs.YtkdbjelhkfdfjaaGreatDoor
namespace Go.Proofs.YtkdbjelhkfdfjaaGreatDoor
open Go.RowKit
theorem alive_of (w:World) (d1:DoGives 1 ⟨#[115,111,114,116,32,50,32,49]⟩ outA 1) (d7:DoGives 7 ⟨#[115,111,114,116,32,50,32,49]⟩ outA 7) (dk:DoGives 1 ⟨#[107,105,110,100,32,115,107,101,119]⟩ outK 7) :
  Calls Tryz.prog 7 #[] w fun e w'=>e=.returned (.bool true)∧Keeps [] w w':=by
 have hrun:=run_calls w d1 d7 dk
 have hk:=kinds_calls
 clear d1 d7 dk
 go_enter Tryz.func7,Tryz.ntmps7
 go_wp2_with (first
  | (go_at_call 18;refine hrun.mono ?_;rintro e w1 ⟨rfl,k1⟩;have K1:=Lib.hid k1;clear k1)
  | (go_at_call 21;refine (hk _).mono ?_;rintro e w2 ⟨ao,ca,rfl,k2⟩;have K2:=Lib.hid k2;clear k2))
 go_ret
 exact ⟨rfl,K1.out.trans K2.out (by simp)⟩
end Go.Proofs.YtkdbjelhkfdfjaaGreatDoor

