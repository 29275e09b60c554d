/-
  Contracts that the law rests on. Conditions: none.
-/
import Derived.Test.YtkdbjelhkfdfjaaGreatDoorLo24
import Derived.Test.YtkdbjelhkfdfjaaGreatDoorLo26
set_option linter.unusedVariables false
set_option maxRecDepth 100000
set_option maxHeartbeats 32000000
namespace Go.Proofs.YtkdbjelhkfdfjaaGreatDoor
open Go.RowKit
section
variable {w w' w5:World} {p pc pf gf gr rc cap hs h:Nat} {F F' Fc S a b:List Nat} {E E':Ent} {T T':Nat->TwigR} {U U':Nat->Option Nat} {R R':Nat->BRow}
theorem Moved.pre {w1:World} (k:Keeps F w w1) (m:Moved F w1 F' w'):Moved F w F' w' :=
 ⟨k.trans m.keeps (fun b hb=>.inl hb),fun b hb=>by
  rcases m.from' b hb with c|c
  .exact .inl c
  .exact .inr (Nat.le_trans k.size c),m.lt⟩
theorem bRow_l (R:Nat->BRow) (h:Nat) (r:BRow):(fun g=>(upd R h r g).l)=upd (fun g=>(R g).l) h r.l:=by
 funext g
 by_cases c:g=h
 .subst c;rw [upd_same,upd_same]
 .rw [upd_other _ _ c,upd_other _ _ c]
theorem BinAdd.shut (d:BinAdd w p pc pf gf gr rc Fc cap hs E T U R h b w') (z:BinH E (fun x=>(T x).kids) U (fun g=>(R g).l) h (R h).l b) :
  ∃F',BinAt w' F' p cap hs E∧Moved (binF p gr Fc (treeF pf gf cap T) hs R) w F' w':=by
 obtain ⟨T',U',r,hq,hc,hm⟩:=d
 refine ⟨_,⟨pc,pf,gf,gr,rc,Fc,T',U',upd R h r,rfl,hq,?_⟩,hm⟩
 rw [bRow_l]
 exact z.shut hc
theorem BinQ.cutRow {g ca n:Nat} (q:BinQ w p pc pf gf gr rc Fc cap hs E T U R) (hh:h<=hs) (hv:(R h).v.ownBlock=some g) (k:Keeps [g] w w5) (hir:Rg.IR 0 w5 (.slice (some ⟨g,0,none⟩) n ca) a) (hn:n=a.length) :
  w5.cell? ⟨p,2,none⟩=some (.slice (some ⟨gr,0,none⟩) (hs+1) rc)∧w5.cell? ⟨gr,h,none⟩=some (.slice (R h).ao (R h).l.length (R h).ca)∧w5.frozen? ⟨gr,h,none⟩=false ∧
   BinQ (w5.setCell ⟨gr,h,none⟩ (.slice (some ⟨g,0,none⟩) n ca)) p pc pf gf gr rc Fc cap hs E T U (upd R h ⟨some ⟨g,0,none⟩,ca,a⟩)∧Keeps (binF p gr Fc (treeF pf gf cap T) hs R) w (w5.setCell ⟨gr,h,none⟩ (.slice (some ⟨g,0,none⟩) n ca)) ∧
   ∀y∈binF p gr Fc (treeF pf gf cap T) hs (upd R h ⟨some ⟨g,0,none⟩,ca,a⟩),y∈binF p gr Fc (treeF pf gf cap T) hs R:=by
 subst hn
 obtain ⟨n1,n2,n3,n4,n5,n6⟩:=q.ne
 obtain ⟨a1,a2,a3,a4⟩:=q.own h g hh hv
 have hvb:((⟨some ⟨g,0,none⟩,ca,a⟩:BRow)).v=.slice (some ⟨g,0,none⟩) a.length ca:=rfl
 have hrow:=k.row q.rows (by simpa using a2.symm)
 have kS:Keeps [gr] w5 (w5.setCell ⟨gr,h,none⟩ (.slice (some ⟨g,0,none⟩) a.length ca)):=(Keeps.refl _ _).setCell (.inl (by simp)) _
 have kk:Keeps [g,gr] w (w5.setCell ⟨gr,h,none⟩ (.slice (some ⟨g,0,none⟩) a.length ca)):=(k.mono (T:=[g,gr]) (by simp)).trans kS (by simp)
 have hown:∀g' x,g'<=hs->(upd R h ⟨some ⟨g,0,none⟩,ca,a⟩ g').v.ownBlock=some x->(R g').v.ownBlock=some x:=fun g' x hg e=>by
  by_cases c:g'=h
  .subst c;rw [upd_same,hvb,ownBlock_some] at e;rw [<-e];exact hv
  .rw [upd_other _ _ c] at e;exact e
 refine ⟨by rw [cell_of_blk (k.blk q.blk (by simpa using a1.symm))];rfl,?_,hrow.frozenAt _,⟨kk.blk q.blk (by simp;exact ⟨a1.symm,n1⟩),q.ce.keep kk (fun x hx e=>?_),q.fo.keep kk (fun x hx e=>?_),?_,fun g' hg=>?_,q.ne,fun g' x hg e=>q.own g' x hg (hown g' x hg e),fun g1 g2 x h1 h2 hne e1 e2=>q.dis g1 g2 x h1 h2 hne (hown g1 x h1 e1) (hown g2 x h2 e2)⟩,?_,fun y hy=>?_⟩
 .rw [hrow.cellAt h (by omega)];exact bRows_at R (by omega)
 .simp only [List.mem_cons,List.not_mem_nil,or_false] at e
  rcases e with rfl|rfl
  .exact a3 hx
  .exact n3 hx
 .simp only [List.mem_cons,List.not_mem_nil,or_false] at e
  rcases e with rfl|rfl
  .exact a4 hx
  .exact n5 hx
 .have:=Rg.row_set hrow h (by omega) (.slice (some ⟨g,0,none⟩) a.length ca)
  rw [<-hvb,bRows_set] at this
  exact this
 .by_cases c:g'=h
  .subst c
   rw [upd_same]
   exact ir_keep' hir kS (fun x e f=>by
    rw [hvb,ownBlock_some] at e;cases e
    simp only [List.mem_singleton] at f;exact a2 f)
  .rw [upd_other _ _ c]
   refine ir_keep' (q.mem g' hg) kk (fun x e f=>?_)
   simp only [List.mem_cons,List.not_mem_nil,or_false] at f
   rcases f with rfl|rfl
   .exact q.dis g' h _ hg hh c e hv
   .exact (q.own g' _ hg e).2.1 rfl
 .refine kk.mono fun x hx=>.inl (binF_mem.2 ?_)
  simp only [List.mem_cons,List.not_mem_nil,or_false] at hx
  rcases hx with rfl|rfl
  .exact .inr (.inr (.inr (.inr ⟨h,hh,hv⟩)))
  .exact .inr (.inl rfl)
 .rcases binF_mem.1 hy with c|c|c|c|⟨g',hg,c⟩
  .exact binF_mem.2 (.inl c)
  .exact binF_mem.2 (.inr (.inl c))
  .exact binF_mem.2 (.inr (.inr (.inl c)))
  .exact binF_mem.2 (.inr (.inr (.inr (.inl c))))
  .exact binF_mem.2 (.inr (.inr (.inr (.inr ⟨g',hg,hown g' y hg c⟩))))
theorem treeF_off {p g n x y:Nat} {T:Nat->TwigR} (h:y∈treeF p g n (upd T x ⟨none,0,[]⟩)):y∈treeF p g n T:=by
 rcases treeF_mem.1 h with c|c|⟨z,hz,q,e,c⟩
 .exact treeF_mem.2 (.inl c)
 .exact treeF_mem.2 (.inr (.inl c))
 .by_cases d:z=x
  .subst d;rw [upd_same] at e;cases e
  .rw [upd_other _ _ d] at e;exact treeF_mem.2 (.inr (.inr ⟨z,hz,q,e,c⟩))
theorem upd_upd {α:Type} (f:Nat->α) (i:Nat) (u v:α):upd (upd f i u) i v=upd f i v:=by
 funext k
 by_cases c:k=i
 .subst c;rw [upd_same,upd_same]
 .rw [upd_other _ _ c,upd_other _ _ c,upd_other _ _ c]
theorem upd_kids (T:Nat->TwigR) (x:Nat) (t:TwigR):(fun z=>(upd T x t z).kids)=upd (fun z=>(T z).kids) x t.kids:=by
 funext k
 by_cases c:k=x
 .subst c;rw [upd_same,upd_same]
 .rw [upd_other _ _ c,upd_other _ _ c]
theorem BinQ.forest (q:BinQ w p pc pf gf gr rc Fc cap hs E T U R) (f:ForestAt w' pf gf cap T' U') (m:Moved (treeF pf gf cap T) w (treeF pf gf cap T') w') :
  BinQ w' p pc pf gf gr rc Fc cap hs E T' U' R∧Moved (binF p gr Fc (treeF pf gf cap T) hs R) w (binF p gr Fc (treeF pf gf cap T') hs R) w':=by
 obtain ⟨n1,n2,n3,n4,n5,n6⟩:=q.ne
 have hlt:=q.lt
 have hold:∀x,x<w.heap.size->x∉treeF pf gf cap T->x∉treeF pf gf cap T':=fun x h1 h2 h3=>by
  rcases m.from' x h3 with c|c
  .exact h2 c
  .omega
 have k:=m.keeps
 have hQ:BinQ w' p pc pf gf gr rc Fc cap hs E T' U' R :=
  ⟨k.blk q.blk n4,q.ce.keep k (fun x hx=>n6 x hx),f,k.row q.rows n5,fun g hg=>ir_keep' (q.mem g hg) k (fun x e=>(q.own g x hg e).2.2.2),
   ⟨n1,n2,n3,hold p (hlt p (binF_mem.2 (.inl rfl))) n4,hold gr (hlt gr (binF_mem.2 (.inr (.inl rfl)))) n5,fun x hx=>hold x (hlt x (binF_mem.2 (.inr (.inr (.inl hx))))) (n6 x hx)⟩,
   fun g x hg e=>⟨(q.own g x hg e).1,(q.own g x hg e).2.1,(q.own g x hg e).2.2.1,hold x (hlt x (binF_mem.2 (.inr (.inr (.inr (.inr ⟨g,hg,e⟩)))))) (q.own g x hg e).2.2.2⟩,q.dis⟩
 refine ⟨hQ,k.mono (fun x hx=>.inl (binF_mem.2 (.inr (.inr (.inr (.inl hx)))))),fun x hx=>?_,hQ.lt⟩
 rcases binF_mem.1 hx with c|c|c|c|c
 .exact .inl (binF_mem.2 (.inl c))
 .exact .inl (binF_mem.2 (.inr (.inl c)))
 .exact .inl (binF_mem.2 (.inr (.inr (.inl c))))
 .rcases m.from' x c with d|d
  .exact .inl (binF_mem.2 (.inr (.inr (.inr (.inl d)))))
  .exact .inr d
 .exact .inl (binF_mem.2 (.inr (.inr (.inr (.inr c)))))
end
def BinIn (w:World) (F:List Nat) (p cap hs:Nat) (E':Ent) (e:Ending) (w':World):Prop:=e=.returned (.bool true)∧∃F',BinAt w' F' p cap hs E'∧Moved F w F' w'
section
variable (w:World) (F:List Nat) (p cap hs:Nat) (E:Ent)
theorem bin_insert (c:BinAt w F p cap hs E) (h x q:Nat) (k:Int) (h1:1<=h) (h2:h<=hs) (hx:x<cap) (he:E x=none) (hk:(Lit.int .i64 k).wf=true) (hq:(Lit.int .u64 (q:Int)).wf=true) :
  Calls Tryz.prog 343 #[.pointer (some ⟨p,0,none⟩),.int .i64 h,.int .i64 x,.agg #[.int .i64 k,.int .u64 (q:Int)]] w (BinIn w F p cap hs (put E x (some (h,k,q)))):=by
 obtain ⟨pc,pf,gf,gr,rc,Fc,T,U,R,rfl,m,o⟩:=c
 have hlt:=m.lt
 obtain ⟨w0,hw0⟩:∃w0,w0=w.alloc (.cells #[.int .i64 k,.int .u64 (q:Int)] 104 (0,0)):=⟨_,rfl⟩
 have kw:Keeps [] w w0.drew:=by rw [hw0];exact ((Keeps.refl _ _).alloc _).drew
 have e0:w0.cell? ⟨w.heap.size,0,none⟩=some (.int .i64 k):=by rw [hw0,cell_of_blk (blk_alloc_new _)];rfl
 have e1:w0.cell? ⟨w.heap.size,1,none⟩=some (.int .u64 (q:Int)):=by rw [hw0,cell_of_blk (blk_alloc_new _)];rfl
 have m0:=m.keep kw (by simp)
 have d0:w0.cell? ⟨p,0,none⟩=some (.pointer (some ⟨pc,0,none⟩)):=m0.c0
 have hput:=cells_put w0.drew Fc pc cap hs E m0.ce h x q k h1 h2 hx he hk hq
 have hz:=o.insert he (k,q) (h:=h)
 have hadd:∀w1,CellsAt w1 Fc pc cap hs (put E x (some (h,k,q)))->Keeps Fc w0.drew w1 ->
   Calls Tryz.prog 352 #[.pointer (some ⟨p,0,none⟩),.int .i64 h,.slice (some ⟨w1.heap.size,0,none⟩) 1 1] (w1.alloc (.cells #[.int .i64 (x:Int)] 3 (0,0))) fun e w'=>e=.returned (.tuple #[])∧Hid (BinIn w (binF p gr Fc (treeF pf gf cap T) hs R) p cap hs (put E x (some (h,k,q))) (.returned (.bool true)) w'):=by
  intro w1 hc1 hk1
  have m1:=m0.cells hc1 hk1
  have kA:Keeps [] w1 (w1.alloc (.cells #[.int .i64 (x:Int)] 3 (0,0))):=(Keeps.refl _ _).alloc _
  have m2:=m1.keep kA (by simp)
  have hk2:Keeps (binF p gr Fc (treeF pf gf cap T) hs R) w (w1.alloc (.cells #[.int .i64 (x:Int)] 3 (0,0))) :=
   ((kw.mono (T:=binF p gr Fc (treeF pf gf cap T) hs R) (by simp)).trans hk1 (fun y hy=>.inl (binF_mem.2 (.inr (.inr (.inl hy)))))).trans kA (by simp)
  have hir:Rg.IR 0 (w1.alloc (.cells #[.int .i64 (x:Int)] 3 (0,0))) (.slice (some ⟨w1.heap.size,0,none⟩) [x].length 1) [x]:=(Rg.row_one w1 x).lo (Nat.zero_le _)
  refine (bin_add _ p pc pf gf gr rc cap hs Fc _ T U R m2 h h2 (some ⟨w1.heap.size,0,none⟩) 1 [x] hir (fun y e f=>?_) hz.cubes hz.ra hz.rb hz.dis (fun y hy=>?_)).mono ?_
  .rw [ownBlock_some] at e;cases e
   have:=m1.lt _ f;omega
  .have:=((hz.mem y).1 hy).1.some
   exact ⟨m2.ce.ok.lt y this,this⟩
  .rintro e w' ⟨rfl,hd⟩
   obtain ⟨F',hb,hm⟩:=hd.shut hz
   exact ⟨rfl,rfl,F',hb,Moved.pre hk2 hm⟩
 have HA:=Lib.hid hadd
 clear hadd m o m0 hz hlt
 go_enter Tryz.func343,Tryz.ntmps343
 go_upto_region 1 with fail
 rw [<-hw0]
 clear hw0
 go_region_law (first
  | (go_simp;go_at_call 316;refine hput.mono ?_;rintro e w1 ⟨rfl,hc1,hk1⟩))
 all_goals
  have hadd:=HA.out w1 hc1 hk1
  clear hc1 hk1 hput
  go_wp2_with (go_at_call 352;refine hadd.mono ?_;rintro e w2 ⟨rfl,hfin⟩)
  go_ret
  exact hfin.out
theorem bin_take_as (pc pf gf gr rc:Nat) (Fc:List Nat) (T:Nat->TwigR) (U:Nat->Option Nat) (R:Nat->BRow) (m:BinQ w p pc pf gf gr rc Fc cap hs E T U R) (Eo:Ent) (o:BinO Eo (fun x=>(T x).kids) U (fun g=>(R g).l))
  (h x:Nat) (h1:1<=h) (h2:h<=hs) (hx:x∈(R h).l) (hin:isIn E h x) (hEo:put Eo x none=put E x none) :
  Calls Tryz.prog 351 #[.pointer (some ⟨p,0,none⟩),.int .i64 h,.int .i64 x] w (BinIn w (binF p gr Fc (treeF pf gf cap T) hs R) p cap hs (put E x none)):=by
 have hlt:=m.lt
 have hbh:=m.ce.ok.bh
 have hsome:∀y,(Eo y).isSome->(E y).isSome:=fun y hy=>by
  by_cases c:y=x
  .subst c;exact hin.some
  .have:=congrFun hEo y
   rw [put_other _ _ _ c,put_other _ _ _ c] at this
   rw [<-this];exact hy
 have hux:=((o.mem h x).1 hx).2
 have hxc:x<cap:=m.ce.ok.lt x hin.some
 obtain ⟨a,b,hab⟩:=List.append_of_mem hx
 have hnd:=(o.row h).nodup
 have hlen:(R h).l.length<=65536:=Nat.le_trans (nodup_len hnd fun y hy=>m.ce.ok.lt y (hsome y ((o.mem h y).1 hy).1.some)) m.fo.cap
 have hnd2:=hnd
 rw [hab,List.nodup_append] at hnd2
 have hxa:x∉a:=fun e=>hnd2.2.2 x e x (by simp) rfl
 have hxb:x∉b:=(List.nodup_cons.1 hnd2.2.1).1
 have hfil:((R h).l).filter (fun y=>!decide (x=y))=a++b:=by
  rw [hab,List.filter_append,List.filter_cons]
  simp only [decide_true,Bool.not_true,Bool.false_eq_true,if_false]
  rw [List.filter_eq_self.2 (fun y hy=>by simpa using fun e=>hxa (by rw [e];exact hy)),List.filter_eq_self.2 (fun y hy=>by simpa using fun e=>hxb (by rw [e];exact hy))]
 have hz:=o.cut hx
 rw [hEo] at hz
 rw [hfil] at hz
 obtain ⟨w0,hw0⟩:∃w0,w0=w.alloc (.cells #[.int .i64 (x:Int)] 3 (0,0)):=⟨_,rfl⟩
 have kw:Keeps [] w w0.drew:=by rw [hw0];exact ((Keeps.refl _ _).alloc _).drew
 have hB0:w0.drew.heap[w.heap.size]?=some (.cells #[.int .i64 (x:Int)] 3 (0,0)):=by rw [hw0];exact blk_alloc_new _
 have hBs:w.heap.size<w0.drew.heap.size:=lt_of_block hB0
 have m0:=m.keep kw (by simp)
 have c2:w0.cell? ⟨p,2,none⟩=some (.slice (some ⟨gr,0,none⟩) (hs+1) rc):=m0.c2
 have d1:w0.cell? ⟨gr,h,none⟩=some (.slice (R h).ao (R h).l.length (R h).ca):=m0.at h2
 have hir:=m0.mem h h2
 obtain ⟨g,eao,_,_,_⟩:=(show Rg.IR 0 w0.drew (.slice (R h).ao (R h).l.length (R h).ca) (R h).l from hir).at 0 (by rw [hab];simp;omega)
 have hv:(R h).v.ownBlock=some g:=by unfold BRow.v;rw [eao];exact ownBlock_some _ _ _ _
 have hgB:g≠w.heap.size:=by
  have:=hlt g (binF_mem.2 (.inr (.inr (.inr (.inr ⟨h,h2,hv⟩)))));omega
 have hdel:=delete_one w0.drew w.heap.size x hB0 g (R h).ca (R h).l.length a b (by rw [hab]) (by have:=hir;unfold BRow.v at this;rw [eao] at this;rw [hab] at this ⊢;exact this) hlen hxa hxb hgB
 have hn1:(R h).l.length - 1=(a++b).length:=by rw [hab];simp
 have hcut:=fun w5 (hi:Rg.IR 0 w5 (.slice (some ⟨g,0,none⟩) ((R h).l.length - 1) (R h).ca) (a++b)) (k:Keeps [g] w0.drew w5)=>m0.cutRow h2 hv k hi hn1
 have hBn:∀y∈binF p gr Fc (treeF pf gf cap T) hs R,y≠w.heap.size:=fun y hy=>by have:=hlt y hy;omega
 have hstep2:∀w6:World,BinQ w6 p pc pf gf gr rc Fc cap hs E T U (upd R h ⟨some ⟨g,0,none⟩,(R h).ca,a++b⟩)->Keeps (binF p gr Fc (treeF pf gf cap T) hs R) w0.drew w6 ->
   (∀y∈binF p gr Fc (treeF pf gf cap T) hs (upd R h ⟨some ⟨g,0,none⟩,(R h).ca,a++b⟩),y∈binF p gr Fc (treeF pf gf cap T) hs R) ->
   w6.cell? ⟨p,1,none⟩=some (.pointer (some ⟨pf,0,none⟩))∧w6.cell? ⟨w.heap.size,0,none⟩=some (.int .i64 (x:Int))∧Hid (Calls Tryz.prog 359 #[.pointer (some ⟨pf,0,none⟩),.int .i64 x] w6.drew fun e w7 =>
    ∃v,e=.returned v∧Hid (Calls Tryz.prog 352 #[.pointer (some ⟨p,0,none⟩),.int .i64 h,v] w7 fun e w8=>e=.returned (.tuple #[])∧w8.cell? ⟨p,0,none⟩=some (.pointer (some ⟨pc,0,none⟩))∧w8.cell? ⟨w.heap.size,0,none⟩=some (.int .i64 (x:Int)) ∧
     Hid (∀w8',w8'.heap=w8.heap->w8'.os=w8.os->w8'.tape=w8.tape->w8'.output=w8.output->Calls Tryz.prog 312 #[.pointer (some ⟨pc,0,none⟩),.int .i64 x] w8' fun e w9=>e=.returned (.bool true)∧Hid (BinIn w (binF p gr Fc (treeF pf gf cap T) hs R) p cap hs (put E x none) (.returned (.bool true)) w9)))):=by
  intro w6 q6 k6 hF6
  have kd:Keeps [] w6 w6.drew:=⟨rfl,rfl,rfl,Nat.le_refl _,fun _ _ _=>rfl⟩
  have q6d:=q6.keep kd (by simp)
  have hB6:w6.heap[w.heap.size]?=some (.cells #[.int .i64 (x:Int)] 3 (0,0)):=k6.blk hB0 (fun e=>hBn _ e rfl)
  refine ⟨q6.c1,by rw [cell_of_blk hB6];rfl,(fo_split w6.drew pf gf cap T U q6d.fo x hxc hux).mono ?_⟩
  rintro e w7 ⟨v,rfl,hirk,hf7,hm7⟩
  obtain ⟨bo,cb,rfl⟩:=hirk.form
  obtain ⟨q7,hmm⟩:=q6d.forest hf7 hm7
  have hB7:w7.heap[w.heap.size]?=some (.cells #[.int .i64 (x:Int)] 3 (0,0)):=hmm.keeps.blk (k:=w.heap.size) hB6 (fun e=>hBn _ (hF6 _ e) rfl)
  have hl6:(upd R h ⟨some ⟨g,0,none⟩,(R h).ca,a++b⟩ h).l=a++b:=by rw [upd_same]
  have hK:(fun z=>(upd T x ⟨none,0,[]⟩ z).kids)=upd (fun z=>(T z).kids) x []:=upd_kids T x ⟨none,0,[]⟩
  have hlt6:=q6d.lt
  have hB7n:w.heap.size∉binF p gr Fc (treeF pf gf cap (upd T x ⟨none,0,[]⟩)) hs (upd R h ⟨some ⟨g,0,none⟩,(R h).ca,a++b⟩):=fun e=>by
   rcases hmm.from' _ e with c|c
   .exact hBn _ (hF6 _ c) rfl
   .have:w.heap.size<w6.drew.heap.size:=lt_of_block (w:=w6.drew) hB6
    omega
  refine ⟨_,rfl,(bin_add w7 p pc pf gf gr rc cap hs Fc E _ _ _ q7 h h2 bo cb (T x).kids (hirk.lo (Nat.zero_le _)) (fun y e f=>?_) (by rw [hK];exact hz.cubes) (by rw [hK,hl6];exact hz.ra) (by rw [hK];exact hz.rb) (by rw [hl6];exact hz.dis) (fun y hy=>?_)).mono ?_⟩
  .have h3:=(hirk.own y e).1
   have:y∈binF p gr Fc (treeF pf gf cap T) hs (upd R h ⟨some ⟨g,0,none⟩,(R h).ca,a++b⟩):=by
    rcases binF_mem.1 f with c|c|c|c|c
    .exact binF_mem.2 (.inl c)
    .exact binF_mem.2 (.inr (.inl c))
    .exact binF_mem.2 (.inr (.inr (.inl c)))
    .exact binF_mem.2 (.inr (.inr (.inr (.inl (treeF_off c)))))
    .exact binF_mem.2 (.inr (.inr (.inr (.inr c))))
   have:=hlt6 y this;omega
  .rw [hl6] at hy
   have:=((hz.mem y).1 hy).1
   have hs':(E y).isSome:=by
    obtain ⟨kk,hk⟩:=this
    by_cases c:y=x
    .subst c;rw [put_same] at hk;cases hk
    .rw [put_other _ _ _ c] at hk;rw [hk];rfl
   exact ⟨m.ce.ok.lt y hs',hs'⟩
  .rintro e w8 ⟨rfl,T',U',r,q8,hcd,hm8⟩
   have hB8:=hm8.keeps.blk hB7 hB7n
   refine ⟨rfl,q8.c0,by rw [cell_of_blk hB8];rfl,fun w8' e1 e2 e3 e4=>?_⟩
   have k8:Keeps [] w8 w8':=⟨e2,e3,e4,by rw [e1];exact Nat.le_refl _,fun _ _ _=>by rw [e1]⟩
   have q9:=q8.keep k8 (by simp)
   refine (cells_drop w8' Fc pc cap hs E q9.ce x h hin).mono ?_
   rintro e w9 ⟨rfl,hc9,hk9⟩
   have q10:=q9.cells hc9 hk9
   rw [upd_upd] at q10 q9 q8 hm8
   have hcd':CarDone (put E x none) (upd (fun z=>(T z).kids) x []) (updM U (T x).kids none) (a++b) (T x).kids (fun z=>(T' z).kids) U' r.l:=by
    rw [hK,hl6] at hcd
    refine hcd.without ?_ ?_ none
    .simp only [List.mem_append,not_or];exact ⟨hxa,hxb⟩
    .intro e;have:=o.cubes.lt (K:=fun z=>(T z).kids) e;omega
   refine ⟨rfl,rfl,_,⟨pc,pf,gf,gr,rc,Fc,T',U',upd R h r,rfl,q10,?_⟩,?_⟩
   .rw [bRow_l]
    exact hz.shut hcd'
   .have kall:Keeps (binF p gr Fc (treeF pf gf cap T) hs R) w w6.drew:=((kw.mono (T:=binF p gr Fc (treeF pf gf cap T) hs R) (by simp)).trans k6 (fun y hy=>.inl hy)).trans kd (by simp)
    have m7:Moved (binF p gr Fc (treeF pf gf cap T) hs R) w6.drew (binF p gr Fc (treeF pf gf cap (upd T x ⟨none,0,[]⟩)) hs (upd R h ⟨some ⟨g,0,none⟩,(R h).ca,a++b⟩)) w7 :=
     ⟨hmm.keeps.mono fun y hy=>.inl (hF6 y hy),fun y hy=>(hmm.from' y hy).imp (hF6 y) id,hmm.lt⟩
    have m8:=(Moved.pre kall m7).trans hm8
    refine ⟨(m8.keeps.trans k8 (by simp)).trans hk9 (fun y hy=>?_),m8.from',q10.lt⟩
    have hyF:y∈binF p gr Fc (treeF pf gf cap T') hs (upd R h r):=binF_mem.2 (.inr (.inr (.inl hy)))
    exact m8.from' y hyF
 rw [eao] at d1
 have hh3:(h:Int)<((hs+1:Nat):Int):=by omega
 have hh4:(h:Int)<(hs:Int)+1:=by omega
 have HC:=Lib.hid hcut
 have HS2:=Lib.hid hstep2
 clear hcut hstep2 hz hsome hEo hab hnd hnd2 hxa hxb hfil hn1 hBn hir hv eao hB0 hBs kw m0 m o hin hux hlt hx
 generalize hln:(R h).l.length=n at *
 generalize (R h).ca=ca at *
 go_enter Tryz.func351,Tryz.ntmps351
 go_upto_region 1 with fail
 rw [<-hw0]
 clear hw0
 go_region_law (first
  | (go_simp;go_at_call 357;refine hdel.mono ?_;rintro e w5 ⟨rfl,hi5,hk5⟩;obtain ⟨z1,z2,z3,z4,z5,z6⟩:=HC.out w5 hi5 hk5;have Z4:=Lib.hid z4;have Z5:=Lib.hid z5;have Z6:=Lib.hid z6;clear z4 z5 z6 hi5 hk5))
 all_goals
  obtain ⟨w6,hw6⟩:∃w6,w6=w5.setCell ⟨gr,h,none⟩ (.slice (some ⟨g,0,none⟩) (n - 1) ca):=⟨_,rfl⟩
  rw [<-hw6]
  obtain ⟨y1,y2,y3⟩:=HS2.out w6 (by rw [hw6];exact Z4.out) (by rw [hw6];exact Z5.out) Z6.out
  clear Z4 Z5 Z6 HS2 HC hw6 z1 z2 z3 c2 d1 hdel
  go_upto_region 2 with fail
  go_region_law (first
   | (go_simp;go_at_call 359;refine y3.out.mono ?_;rintro e w7 ⟨v,rfl,hadd⟩)
   | (go_simp;go_at_call 352;refine hadd.out.mono ?_;rintro e w8 ⟨rfl,u1,u2,u3⟩))
  all_goals
   clear y1 y2 y3
   go_upto_region 3 with fail
   go_region_law (first
    | (go_simp;go_at_call 312;refine (u3.out w8.drew rfl rfl rfl rfl).mono ?_;rintro e w9 ⟨rfl,hfin⟩))
   all_goals
    go_wp2_with fail
    go_ret
    exact hfin.out
theorem bin_take (pc pf gf gr rc:Nat) (Fc:List Nat) (T:Nat->TwigR) (U:Nat->Option Nat) (R:Nat->BRow) (m:BinQ w p pc pf gf gr rc Fc cap hs E T U R) (o:BinO E (fun x=>(T x).kids) U (fun g=>(R g).l))
  (h x:Nat) (h1:1<=h) (h2:h<=hs) (hx:x∈(R h).l) :
  Calls Tryz.prog 351 #[.pointer (some ⟨p,0,none⟩),.int .i64 h,.int .i64 x] w (BinIn w (binF p gr Fc (treeF pf gf cap T) hs R) p cap hs (put E x none)) :=
 bin_take_as w p cap hs E pc pf gf gr rc Fc T U R m E o h x h1 h2 hx ((o.mem h x).1 hx).1 rfl
def BinExt (h:Nat) (e:Ending) (w':World):Prop :=
 ∃x:Nat,e=.returned (.tuple #[.int .i64 x,.bool true])∧least E h x∧∃F',BinAt w' F' p cap hs (put E x none)∧Moved F w F' w'
theorem bin_extract (c:BinAt w F p cap hs E) (h:Nat) (h1:1<=h) (h2:h<=hs) (hi:∃y,isIn E h y) :
  Calls Tryz.prog 342 #[.pointer (some ⟨p,0,none⟩),.int .i64 h] w (BinExt w F p cap hs E h):=by
 obtain ⟨pc,pf,gf,gr,rc,Fc,T,U,R,rfl,m,o⟩:=c
 have hmin:=bin_min_yes w p pc pf gf gr rc cap hs Fc E T U R m o h h1 h2 hi
 have htake:∀u x,x∈(R h).l->BinQ u p pc pf gf gr rc Fc cap hs E T U R->Calls Tryz.prog 351 #[.pointer (some ⟨p,0,none⟩),.int .i64 h,.int .i64 x] u (BinIn u (binF p gr Fc (treeF pf gf cap T) hs R) p cap hs (put E x none)) :=
  fun u x hx q=>bin_take u p cap hs E pc pf gf gr rc Fc T U R q o h x h1 h2 hx
 have hfin:∀w1 w2 x,least E h x->Keeps Fc w w1->BinIn w1 (binF p gr Fc (treeF pf gf cap T) hs R) p cap hs (put E x none) (.returned (.bool true)) w2->BinExt w (binF p gr Fc (treeF pf gf cap T) hs R) p cap hs E h (.returned (.tuple #[.int .i64 x,.bool true])) w2:=by
  rintro w1 w2 x hl k ⟨_,F',hb,hm⟩
  exact ⟨x,rfl,hl,F',hb,Moved.pre (k.mono fun y hy=>.inl (binF_mem.2 (.inr (.inr (.inl hy))))) hm⟩
 have HT:=Lib.hid htake
 have HF:=Lib.hid hfin
 clear htake hfin m o hi
 go_enter Tryz.func342,Tryz.ntmps342
 go_wp2_with (first
  | (go_at_call 346;refine hmin.mono ?_;rintro e w1 ⟨x,rfl,hl,hx,q,k⟩;have HL:=Lib.hid hl;have K:=Lib.hid k;have ht:=HT.out w1 x hx q;clear hl hx q k)
  | (go_at_call 351;refine ht.mono ?_;intro e w2 hb;have HB:=Lib.hid hb;obtain ⟨rfl,_⟩:=hb))
 go_ret2
 exact HF.out _ _ _ HL.out K.out HB.out
end
end Go.Proofs.YtkdbjelhkfdfjaaGreatDoor

