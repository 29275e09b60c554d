/-
  Contracts that the law rests on. Conditions: none.
-/
import Derived.Test.YtkdbjelhkfdfjaaGreatDoorLo43
import Derived.Test.YtkdbjelhkfdfjaaGreatDoorLo45
import Derived.ChangeSame
set_option linter.unusedVariables false
set_option maxRecDepth 100000
set_option maxHeartbeats 32000000
namespace Go.Proofs.YtkdbjelhkfdfjaaGreatDoor
open Go.Deep Go.RowKit
def IsRows (w:World) (k:Nat) (a:Option Addr) (len:Nat) (C:Nat->List Value):Prop :=
 len=0∨∃b off,a=some ⟨b,off,none⟩∧b<w.heap.size∧∀i,i<len->∀j,j<k->w.cell? ⟨b,off+(i*k+j),none⟩=(C i)[j]?
section
variable {H:Type} {enc:TypeId×Value->H} {P:Program} {w:World} {base:Nat} {spare:Nat->Bool} {held:Bool}
theorem open_rows {t e fuel k:Nat} {v:Value} {x:DataW H×List MemPlace} (E:List Value->Prop) (ht:P.underlying t=some (.slice e)) (hk:P.cellsOf e=k) (hk0:0<k)
  (hE:∀n cs y,DataW.trod enc P w base spare held n e cs=some y->E cs) (h:DataW.trod enc P w base spare held fuel t [v]=some x) :
  ∃a len cap C,v=.slice a len cap∧len<=cap∧cap<=maxLen∧(∀i,i<len->E (C i))∧IsRows w k a len C:=by
 rcases open_slice ht h with ⟨h0,_⟩|⟨a,len,cap,m,n,D,Pl,h0,_,hl,hm,hmm,_,hx⟩
 .simp only [List.cons.injEq,and_true] at h0
  subst h0
  exact ⟨none,0,0,fun _=>[],rfl,Nat.le_refl _,Nat.zero_le _,fun i hi=>by omega,.inl rfl⟩
 .simp only [List.cons.injEq,and_true] at h0
  subst h0
  have hlm:len<=m:=by rw [hmm];split<;>omega
  obtain ⟨C,hC⟩:=choose_lt (α:=List Value) (n:=len) (p:=fun i cs'=>w.cells? base (a.add (i*P.cellsOf e)) (P.cellsOf e)=some cs'∧DataW.trod enc P w base spare held n e cs'=some (D i,Pl i)) (fun i hi=>hx i (by omega))
  refine ⟨some a,len,cap,C,rfl,hl,hm,fun i hi=>hE _ _ _ (hC i hi).2,?_⟩
  by_cases h0:len=0
  .exact .inl h0
  .right
   have hcell:∀i,i<len->∀j,j<k->w.cell? (a.add (i*k+j))=(C i)[j]?∧((C i)[j]?).isSome=true:=by
    intro i hi j hj
    obtain ⟨h1,_⟩:=hC i hi
    obtain ⟨_,hlen,hget⟩:=World.cells?_some h1
    rw [hk] at hlen
    have:=hget j (by omega)
    rw [hk,add_add] at this
    exact ⟨this,by simp;omega⟩
   have h00:=hcell 0 (by omega) 0 hk0
   obtain ⟨u,hu⟩:=Option.isSome_iff_exists.1 h00.2
   have hspot:=World.cell?_spot (h00.1.trans hu)
   obtain ⟨b,off,spot⟩:=a
   simp [Addr.add] at hspot
   subst hspot
   have hb:=World.block_lt_of_cell? w _ (h00.1.trans hu)
   refine ⟨b,off,rfl,?_,fun i hi j hj=>?_⟩
   .simpa [Addr.add] using hb
   .have:=(hcell i hi j hj).1
    rwa [Addr.add_lit] at this
end
end Go.Proofs.YtkdbjelhkfdfjaaGreatDoor
namespace Go.Proofs.YtkdbjelhkfdfjaaGreatDoor
open Go.RowKit
structure LowP (E:Ent) (n:Nat) (sl:Nat->Nat) (ks:Nat->Int):Prop where
 has:∀j,j<n->∃s,E (sl j)=some (1,ks j,s)
 inj:∀i j,i<n->j<n->sl i=sl j->i=j
 only:∀x g k s,E x=some (g,k,s)->g=1∧∃j,j<n∧x=sl j
section
variable {E:Ent} {n i s y q:Nat} {sl:Nat->Nat} {ks:Nat->Int} {k:Int} {o:List Nat}
theorem LowP.dec (p:LowP E n sl ks) (hi:i<n):LowP (put E (sl i) (some (1,k,s))) n sl (upd ks i k):=by
 refine ⟨fun j hj=>?_,p.inj,fun x g l t e=>?_⟩
 .by_cases c:j=i
  .subst c;exact ⟨s,by rw [put_same,upd_same]⟩
  .rw [put_other _ _ _ (fun e=>c (p.inj j i hj hi e)),upd_other _ _ c];exact p.has j hj
 .by_cases c:x=sl i
  .subst c;rw [put_same] at e;cases e;exact ⟨rfl,i,hi,rfl⟩
  .rw [put_other _ _ _ c] at e;exact p.only x g l t e
theorem LowP.renew (p:LowP E n sl ks) (hi:i<n) (hy:put E (sl i) none y=none):LowP (put (put E (sl i) none) y (some (1,k,q))) n (upd sl i y) (upd ks i k):=by
 have hyn:∀j,j<n->j≠i->sl j≠y:=fun j hj hne e=>by
  obtain ⟨t,ht⟩:=p.has j hj
  rw [<-e,put_other _ _ _ (fun c=>hne (p.inj j i hj hi c)),ht] at hy;cases hy
 refine ⟨fun j hj=>?_,fun a b ha hb e=>?_,fun x g l t e=>?_⟩
 .by_cases c:j=i
  .subst c;exact ⟨q,by rw [upd_same,upd_same,put_same]⟩
  .rw [upd_other _ _ c,upd_other _ _ c,put_other _ _ _ (hyn j hj c),put_other _ _ _ (fun e=>c (p.inj j i hj hi e))];exact p.has j hj
 .by_cases c:a=i
  .by_cases d:b=i
   .rw [c,d]
   .rw [c,upd_same,upd_other _ _ d] at e;exact absurd e.symm (hyn b hb d)
  .by_cases d:b=i
   .rw [d,upd_same,upd_other _ _ c] at e;exact absurd e (hyn a ha c)
   .rw [upd_other _ _ c,upd_other _ _ d] at e;exact p.inj a b ha hb e
 .by_cases c:x=y
  .subst c;rw [put_same] at e;cases e
   exact ⟨rfl,i,hi,by rw [upd_same]⟩
  .rw [put_other _ _ _ c] at e
   by_cases d:x=sl i
   .subst d;rw [put_same] at e;cases e
   .rw [put_other _ _ _ d] at e
    obtain ⟨h1,j,hj,h2⟩:=p.only x g l t e
    have:j≠i:=by rintro rfl;exact d h2
    exact ⟨h1,j,hj,by rw [upd_other _ _ this];exact h2⟩
theorem LowP.drained (p:LowP E n sl ks) (d:Drn E 1 o) (ha:∀y,y∈o↔isIn E 1 y):(o.map (keyE E)).Perm ((List.range n).map ks)∧(o.map (keyE E)).Pairwise (·<=·):=by
 have hnd:((List.range n).map sl).Nodup:=by
  rw [List.Nodup,List.pairwise_map]
  refine List.Pairwise.imp_of_mem ?_ (List.nodup_range (n:=n))
  intro a b h1 h2 hne e
  exact hne (p.inj a b (List.mem_range.1 h1) (List.mem_range.1 h2) e)
 have hp:o.Perm ((List.range n).map sl):=by
  refine (List.perm_ext_iff_of_nodup d.nd hnd).2 fun y=>?_
  rw [ha,List.mem_map]
  constructor
  .rintro ⟨⟨l,t⟩,e⟩
   obtain ⟨_,j,hj,rfl⟩:=p.only y _ _ _ e
   exact ⟨j,List.mem_range.2 hj,rfl⟩
  .rintro ⟨j,hj,rfl⟩
   obtain ⟨t,e⟩:=p.has j (List.mem_range.1 hj)
   exact ⟨_,e⟩
 refine ⟨?_,?_⟩
 .have:=hp.map (keyE E)
  rw [List.map_map] at this
  have e:(List.range n).map (keyE E ∘ sl)=(List.range n).map ks:=List.map_congr_left fun j hj=>by
   obtain ⟨t,e⟩:=p.has j (List.mem_range.1 hj)
   simp only [Function.comp,keyE_some e]
  rw [e] at this;exact this
 .rw [List.pairwise_map]
  refine d.srt.imp fun {a b} h=>?_
  obtain ⟨g,x,g',y,e1,e2,h⟩:=ahead_iff.1 h
  rw [keyE_some e1,keyE_some e2]
  omega
theorem LowP.same {E':Ent} {sl':Nat->Nat} {o':List Nat} (p:LowP E n sl ks) (p':LowP E' n sl' ks) (d:Drn E 1 o) (ha:∀y,y∈o↔isIn E 1 y) (d':Drn E' 1 o') (ha':∀y,y∈o'↔isIn E' 1 y):o'.map (keyE E')=o.map (keyE E):=by
 obtain ⟨h1,h2⟩:=p.drained d ha
 obtain ⟨h3,h4⟩:=p'.drained d' ha'
 exact List.Perm.eq_of_pairwise (le:=(·<=·)) (fun a b _ _ x y=>by omega) h4 h2 (h3.trans h1.symm)
end
structure Two2 (w0:World) (sa sb kd n ha hb:Nat) (EA EB:Ent) (qa qb:Nat) (GA GB:Nat->Nat) (FA FB:List Nat) (wr:World):Prop where
 a:StoreAt wr FA sa kd n ha EA qa 1 GA
 b:StoreAt wr FB sb kd n hb EB qb 2 GB
 ap:∀x∈FA,x∉FB
 fa:∀x∈FA,w0.heap.size<=x
 fb:∀x∈FB,w0.heap.size<=x
 kp:Keeps [] w0 wr
section
variable {w0 wr w':World} {sa sb kd n ha hb ha' hb' qa qb qa' qb':Nat} {EA EB EA' EB':Ent} {GA GB GA' GB':Nat->Nat} {FA FB FA' FB':List Nat}
theorem Two2.toA (t:Two2 w0 sa sb kd n ha hb EA EB qa qb GA GB FA FB wr) (s:StoreAt w' FA' sa kd n ha' EA' qa' 1 GA') (m:Moved FA wr FA' w'):Two2 w0 sa sb kd n ha' hb EA' EB qa' qb GA' GB FA' FB w':=by
 have hz:=t.kp.size
 have hl:=t.b.lt
 refine ⟨s,t.b.keep m.keeps (fun x hx e=>t.ap x e hx),fun x hx e=>?_,fun x hx=>?_,t.fb,t.kp.trans m.keeps (fun x hx=>.inr (t.fa x hx))⟩
 .rcases m.from' x hx with c|c
  .exact t.ap x c e
  .have:=hl x e;omega
 .rcases m.from' x hx with c|c
  .exact t.fa x c
  .omega
theorem Two2.toB (t:Two2 w0 sa sb kd n ha hb EA EB qa qb GA GB FA FB wr) (s:StoreAt w' FB' sb kd n hb' EB' qb' 2 GB') (m:Moved FB wr FB' w'):Two2 w0 sa sb kd n ha hb' EA EB' qa qb' GA GB' FA FB' w':=by
 have hz:=t.kp.size
 have hl:=t.a.lt
 refine ⟨t.a.keep m.keeps (fun x hx e=>t.ap x hx e),s,fun x hx e=>?_,t.fa,fun x hx=>?_,t.kp.trans m.keeps (fun x hx=>.inr (t.fb x hx))⟩
 .rcases m.from' x e with c|c
  .exact t.ap x hx c
  .have:=hl x hx;omega
 .rcases m.from' x hx with c|c
  .exact t.fb x c
  .omega
theorem Two2.same (t:Two2 w0 sa sb kd n ha hb EA EB qa qb GA GB FA FB wr) (k:Keeps [] wr w'):Two2 w0 sa sb kd n ha hb EA EB qa qb GA GB FA FB w' :=
 ⟨t.a.keep k (by simp),t.b.keep k (by simp),t.ap,t.fa,t.fb,t.kp.trans k (by simp)⟩
end
def hdV (H:Nat->Nat×Nat) (i:Nat):List Value:=[.int .i64 ((H i).1:Int),.int .u32 ((H i).2:Int)]
theorem hdV_set (H:Nat->Nat×Nat) (i x g:Nat):upd (upd (hdV H) i ((hdV H i).set 0 (.int .i64 (x:Int)))) i (((hdV H i).set 0 (.int .i64 (x:Int))).set 1 (.int .u32 (g:Int)))=hdV (upd H i (x,g)):=by
 funext j
 by_cases c:j=i
 .subst c;rw [upd_same];simp [hdV,upd_same]
 .rw [upd_other _ _ c,upd_other _ _ c];simp [hdV,upd_other _ _ c]
structure Two3 (w0:World) (sa sb kd n gl gm:Nat) (EA EB:Ent) (qa qb:Nat) (GA GB:Nat->Nat) (FA FB:List Nat) (H M:Nat->Nat×Nat) (wr:World):Prop where
 t:Two2 w0 sa sb kd n 1 1 EA EB qa qb GA GB FA FB wr
 ra:Arr wr 45 2 n gl (hdV H)
 rb:Arr wr 45 2 n gm (hdV M)
 ne:gl≠gm∧w0.heap.size<=gl∧w0.heap.size<=gm
 na:∀x∈FA,x≠gl∧x≠gm
 nb:∀x∈FB,x≠gl∧x≠gm
section
variable {w0 wr w':World} {sa sb kd n gl gm qa qb qa' qb' i x g:Nat} {EA EB EA' EB':Ent} {GA GB GA' GB':Nat->Nat} {FA FB FA' FB':List Nat} {H M:Nat->Nat×Nat}
theorem Two3.toA (t:Two3 w0 sa sb kd n gl gm EA EB qa qb GA GB FA FB H M wr) (s:StoreAt w' FA' sa kd n 1 EA' qa' 1 GA') (m:Moved FA wr FA' w'):Two3 w0 sa sb kd n gl gm EA' EB qa' qb GA' GB FA' FB H M w':=by
 have h1:=t.ra.lt
 have h2:=t.rb.lt
 refine ⟨t.t.toA s m,t.ra.keep m.keeps (fun e=>(t.na gl e).1 rfl),t.rb.keep m.keeps (fun e=>(t.na gm e).2 rfl),t.ne,fun x hx=>?_,t.nb⟩
 rcases m.from' x hx with c|c
 .exact t.na x c
 .omega
theorem Two3.toB (t:Two3 w0 sa sb kd n gl gm EA EB qa qb GA GB FA FB H M wr) (s:StoreAt w' FB' sb kd n 1 EB' qb' 2 GB') (m:Moved FB wr FB' w'):Two3 w0 sa sb kd n gl gm EA EB' qa qb' GA GB' FA FB' H M w':=by
 have h1:=t.ra.lt
 have h2:=t.rb.lt
 refine ⟨t.t.toB s m,t.ra.keep m.keeps (fun e=>(t.nb gl e).1 rfl),t.rb.keep m.keeps (fun e=>(t.nb gm e).2 rfl),t.ne,t.na,fun x hx=>?_⟩
 rcases m.from' x hx with c|c
 .exact t.nb x c
 .omega
theorem Two3.same (t:Two3 w0 sa sb kd n gl gm EA EB qa qb GA GB FA FB H M wr) (k:Keeps [] wr w'):Two3 w0 sa sb kd n gl gm EA EB qa qb GA GB FA FB H M w' :=
 ⟨t.t.same k,t.ra.keep k (by simp),t.rb.keep k (by simp),t.ne,t.na,t.nb⟩
theorem Two3.cA (t:Two3 w0 sa sb kd n gl gm EA EB qa qb GA GB FA FB H M wr) (hi:i<n):wr.cell? ⟨gl,i*2,none⟩=some (.int .i64 ((H i).1:Int))∧wr.cell? ⟨gl,i*2+1,none⟩=some (.int .u32 ((H i).2:Int))∧wr.frozen? ⟨gl,i*2,none⟩=false∧wr.frozen? ⟨gl,i*2+1,none⟩=false :=
 ⟨t.ra.cell (j:=0) hi (by decide),t.ra.cell (j:=1) hi (by decide),t.ra.frozen _,t.ra.frozen _⟩
theorem Two3.cB (t:Two3 w0 sa sb kd n gl gm EA EB qa qb GA GB FA FB H M wr) (hi:i<n):wr.cell? ⟨gm,i*2,none⟩=some (.int .i64 ((M i).1:Int))∧wr.cell? ⟨gm,i*2+1,none⟩=some (.int .u32 ((M i).2:Int))∧wr.frozen? ⟨gm,i*2,none⟩=false∧wr.frozen? ⟨gm,i*2+1,none⟩=false :=
 ⟨t.rb.cell (j:=0) hi (by decide),t.rb.cell (j:=1) hi (by decide),t.rb.frozen _,t.rb.frozen _⟩
theorem arr_handle {w:World} {gl n i:Nat} {H:Nat->Nat×Nat} (h:Arr w 45 2 n gl (hdV H)) (hi:i<n) (x g:Nat):Arr ((w.setCell ⟨gl,i*2,none⟩ (.int .i64 (x:Int))).setCell ⟨gl,i*2+1,none⟩ (.int .u32 (g:Int))) 45 2 n gl (hdV (upd H i (x,g))):=by
 have h1:=h.set hi (j:=0) (by decide) (.int .i64 (x:Int))
 have h2:=h1.set hi (j:=1) (by decide) (.int .u32 (g:Int))
 rw [upd_same,hdV_set] at h2
 exact h2
theorem Two3.setA (t:Two3 w0 sa sb kd n gl gm EA EB qa qb GA GB FA FB H M wr) (hi:i<n) (x g:Nat):Two3 w0 sa sb kd n gl gm EA EB qa qb GA GB FA FB (upd H i (x,g)) M ((wr.setCell ⟨gl,i*2,none⟩ (.int .i64 (x:Int))).setCell ⟨gl,i*2+1,none⟩ (.int .u32 (g:Int))):=by
 have k:Keeps [gl] wr ((wr.setCell ⟨gl,i*2,none⟩ (.int .i64 (x:Int))).setCell ⟨gl,i*2+1,none⟩ (.int .u32 (g:Int))):=((Keeps.refl _ _).setCell (.inl (by simp)) _).setCell (.inl (by simp)) _
 refine ⟨⟨t.t.a.keep k (fun y hy e=>(t.na y hy).1 (by simpa using e)),t.t.b.keep k (fun y hy e=>(t.nb y hy).1 (by simpa using e)),t.t.ap,t.t.fa,t.t.fb,t.t.kp.trans k (fun y hy=>.inr (by simp only [List.mem_singleton] at hy;rw [hy];exact t.ne.2.1))⟩,arr_handle t.ra hi x g,t.rb.keep k (by simpa using t.ne.1.symm),t.ne,t.na,t.nb⟩
theorem Two3.setB (t:Two3 w0 sa sb kd n gl gm EA EB qa qb GA GB FA FB H M wr) (hi:i<n) (x g:Nat):Two3 w0 sa sb kd n gl gm EA EB qa qb GA GB FA FB H (upd M i (x,g)) ((wr.setCell ⟨gm,i*2,none⟩ (.int .i64 (x:Int))).setCell ⟨gm,i*2+1,none⟩ (.int .u32 (g:Int))):=by
 have k:Keeps [gm] wr ((wr.setCell ⟨gm,i*2,none⟩ (.int .i64 (x:Int))).setCell ⟨gm,i*2+1,none⟩ (.int .u32 (g:Int))):=((Keeps.refl _ _).setCell (.inl (by simp)) _).setCell (.inl (by simp)) _
 refine ⟨⟨t.t.a.keep k (fun y hy e=>(t.na y hy).2 (by simpa using e)),t.t.b.keep k (fun y hy e=>(t.nb y hy).2 (by simpa using e)),t.t.ap,t.t.fa,t.t.fb,t.t.kp.trans k (fun y hy=>.inr (by simp only [List.mem_singleton] at hy;rw [hy];exact t.ne.2.2))⟩,t.ra.keep k (by simpa using t.ne.1),arr_handle t.rb hi x g,t.ne,t.na,t.nb⟩
end
section
variable (w0:World) (sa sb kd n gl gm:Nat) (keys:List Int)
def Come2 (i:Nat) (wr:World):Prop :=
 ∃(EA EB:Ent) (GA GB:Nat->Nat) (FA FB:List Nat) (H M:Nat->Nat×Nat),Two3 w0 sa sb kd n gl gm EA EB i i GA GB FA FB H M wr∧FillP EA GA n 1 (keys.take i)∧FillP EB GB n 1 (keys.take i) ∧
  (∀(j:Nat) k,j<i->keys[j]?=some k->EA (H j).1=some (1,k,j+1)∧(H j).2=1)∧(∀(j:Nat) k,j<i->keys[j]?=some k->EB (M j).1=some (1,k,j+1)∧(M j).2=1)
def Lows (i:Nat) (wr:World):Prop :=
 ∃(EA EB:Ent) (GA GB:Nat->Nat) (FA FB:List Nat) (H M:Nat->Nat×Nat) (qb:Nat) (ks:Nat->Int) (zl:Nat->Nat),Two3 w0 sa sb kd n gl gm EA EB n qb GA GB FA FB H M wr∧LowP EA n (fun j=>(H j).1) ks∧LowP EB n zl ks ∧
  (∀(j:Nat) k,i<=j->keys[j]?=some k->ks j=k)∧(∀j,j<n->(H j).2=1∧GA (H j).1=1)∧(∀j,i<=j->j<n->zl j=(M j).1∧(M j).2=1∧GB (M j).1=1)∧qb<=n+i
variable {w0 sa sb kd n gl gm keys}
variable {wr:World} {i:Nat} {key k:Int}
theorem Come2.kp (h:Come2 w0 sa sb kd n gl gm keys i wr):Keeps [] w0 wr:=by obtain ⟨_,_,_,_,_,_,_,_,t,_⟩:=h;exact t.t.kp
theorem Lows.kp (h:Lows w0 sa sb kd n gl gm keys i wr):Keeps [] w0 wr:=by obtain ⟨_,_,_,_,_,_,_,_,_,_,_,t,_⟩:=h;exact t.t.kp
theorem fill_at {E:Ent} {G:Nat->Nat} {H:Nat->Nat×Nat} {x s:Nat} (hE:E x=none) (ha:∀(j:Nat) k,j<i->keys[j]?=some k->E (H j).1=some (1,k,j+1)∧(H j).2=1) (hi:keys[i]?=some key) :
  ∀(j:Nat) k,j<i+1->keys[j]?=some k->put E x (some (1,key,i+1)) (upd H i (x,1) j).1=some (1,k,j+1)∧(upd H i (x,1) j).2=1:=by
 intro j k hj hk
 by_cases c:j=i
 .subst c
  rw [hi] at hk;cases hk
  rw [upd_same];exact ⟨put_same _ _ _,rfl⟩
 .obtain ⟨h1,h2⟩:=ha j k (by omega) hk
  rw [upd_other _ _ c]
  refine ⟨?_,h2⟩
  rw [put_other _ _ _ (fun e=>by rw [e,hE] at h1;cases h1)];exact h1
theorem Come2.step (h:Come2 w0 sa sb kd n gl gm keys i wr) (hn:keys.length=n) (hcap:n<=60) (hi:keys[i]?=some key) (hwf:(Lit.int .i64 key).wf=true) :
  Calls Tryz.prog 14 #[.pointer (some ⟨sa,0,none⟩),.int .i64 1,.int .i64 key] wr fun e w2=>∃x:Nat,e=.returned (.tuple #[.agg #[.int .i64 x,.int .u32 1],.int .i64 0]) ∧
   (∃v,w2.cell? ⟨gl,i*2,none⟩=some v)∧(∃v,w2.cell? ⟨gl,i*2+1,none⟩=some v)∧w2.frozen? ⟨gl,i*2,none⟩=false∧w2.frozen? ⟨gl,i*2+1,none⟩=false ∧
   Hid (Calls Tryz.prog 14 #[.pointer (some ⟨sb,0,none⟩),.int .i64 1,.int .i64 key] ((w2.setCell ⟨gl,i*2,none⟩ (.int .i64 x)).setCell ⟨gl,i*2+1,none⟩ (.int .u32 1)) fun e w4=>∃y:Nat,e=.returned (.tuple #[.agg #[.int .i64 y,.int .u32 1],.int .i64 0]) ∧
    (∃v,w4.cell? ⟨gm,i*2,none⟩=some v)∧(∃v,w4.cell? ⟨gm,i*2+1,none⟩=some v)∧w4.frozen? ⟨gm,i*2,none⟩=false∧w4.frozen? ⟨gm,i*2+1,none⟩=false ∧
    Hid (Come2 w0 sa sb kd n gl gm keys (i+1) ((w4.setCell ⟨gm,i*2,none⟩ (.int .i64 y)).setCell ⟨gm,i*2+1,none⟩ (.int .u32 1)))):=by
 obtain ⟨EA,EB,GA,GB,FA,FB,H,M,t,fa,fb,ha,hb⟩:=h
 have hil:=(List.getElem?_eq_some_iff.1 hi).1
 have htl:(keys.take i).length=i:=by rw [List.length_take];omega
 have htk:keys.take (i+1)=keys.take i++[key]:=by rw [List.take_add_one,hi];rfl
 obtain ⟨x0,x1,x2,x3⟩:=fa.room (by omega)
 refine (pq_insert wr FA sa kd n 1 EA i 1 GA t.t.a 1 key (by omega) (by omega) hwf (by omega) ⟨x0,x1,x2,by omega⟩).mono ?_
 rintro e w2 ⟨x,hx,hEx,rfl,FA',st,mv⟩
 have hgx:=fa.g0 x hEx
 have t2:=t.toA st mv
 obtain ⟨c1,c2,c3,c4⟩:=t2.cA (i:=i) (by omega)
 refine ⟨x,by rw [hgx];rfl,⟨_,c1⟩,⟨_,c2⟩,c3,c4,?_⟩
 have t3:=t2.setA (i:=i) (by omega) x 1
 have fa2:=fa.step hx hEx key
 rw [htl,<-htk] at fa2
 obtain ⟨y0,y1,y2,y3⟩:=fb.room (by omega)
 refine (pq_insert _ FB sb kd n 1 EB i 2 GB t3.t.b 1 key (by omega) (by omega) hwf (by omega) ⟨y0,y1,y2,by omega⟩).mono ?_
 rintro e w4 ⟨y,hy,hEy,rfl,FB',st',mv'⟩
 have hgy:=fb.g0 y hEy
 have t4:=t3.toB st' mv'
 obtain ⟨d1,d2,d3,d4⟩:=t4.cB (i:=i) (by omega)
 refine ⟨y,by rw [hgy];rfl,⟨_,d1⟩,⟨_,d2⟩,d3,d4,?_⟩
 have t5:=t4.setB (i:=i) (by omega) y 1
 have fb2:=fb.step hy hEy key
 rw [htl,<-htk] at fb2
 exact ⟨_,_,_,_,_,_,_,_,t5,fa2,fb2,fill_at (G:=GA) (s:=0) hEx ha hi,fill_at (G:=GB) (s:=0) hEy hb hi⟩
theorem fill_low {w:World} {F:List Nat} {s q:Nat} {most:Int} {E:Ent} {G:Nat->Nat} {H:Nat->Nat×Nat} (st:StoreAt w F s kd n 1 E q most G) (f:FillP E G n 1 keys) (hn:keys.length=n) (ha:∀(j:Nat) k,j<n->keys[j]?=some k->E (H j).1=some (1,k,j+1)∧(H j).2=1) :
  LowP E n (fun j=>(H j).1) (fun j=>keys.getD j 0)∧∀j,j<n->(H j).2=1∧G (H j).1=1:=by
 have hk:∀j,j<n->keys[j]?=some (keys.getD j 0):=fun j hj=>by
  rw [List.getElem?_eq_getElem (by omega)];simp [List.getD,hn,hj]
 refine ⟨⟨fun j hj=>⟨j+1,(ha j _ hj (hk j hj)).1⟩,fun a b h1 h2 e=>?_,fun x g k m e=>?_⟩,fun j hj=>⟨(ha j _ hj (hk j hj)).2,f.g1 _ (by rw [(ha j _ hj (hk j hj)).1];simp)⟩⟩
 .have e1:=(ha a _ h1 (hk a h1)).1
  have e2:=(ha b _ h2 (hk b h2)).1
  have e:(H a).1=(H b).1:=e
  rw [e,e2] at e1
  simp only [Option.some.injEq,Prod.mk.injEq] at e1
  omega
 .obtain ⟨rfl,j,rfl,hj⟩:=f.fl.only x g k m e
  have hjn:j<n:=by rw [<-hn];exact (List.getElem?_eq_some_iff.1 hj).1
  exact ⟨rfl,j,hjn,st.uq x (H j).1 _ _ _ _ _ e (ha j k hjn hj).1⟩
theorem Come2.all (h:Come2 w0 sa sb kd n gl gm keys n wr) (hn:keys.length=n):Lows w0 sa sb kd n gl gm keys 0 wr:=by
 obtain ⟨EA,EB,GA,GB,FA,FB,H,M,t,fa,fb,ha,hb⟩:=h
 have e:keys.take n=keys:=by rw [<-hn];exact List.take_length
 rw [e] at fa fb
 obtain ⟨p1,p2⟩:=fill_low t.t.a fa hn ha
 obtain ⟨p3,p4⟩:=fill_low t.t.b fb hn hb
 exact ⟨EA,EB,GA,GB,FA,FB,H,M,n,fun j=>keys.getD j 0,fun j=>(M j).1,t,p1,p3,fun j k _ e=>by simp [List.getD,e],p2,fun j _ hj=>⟨rfl,p4 j hj⟩,by omega⟩
theorem Lows.yes (h:Lows w0 sa sb kd n gl gm keys i wr) (hn:keys.length=n) (hcap:n<=60) (hi:keys[i]?=some key) (hk:k<=key) (hw:(Lit.int .i64 k).wf=true) :
  ∃x y:Nat,wr.cell? ⟨gl,i*2,none⟩=some (.int .i64 x)∧wr.cell? ⟨gl,i*2+1,none⟩=some (.int .u32 1) ∧
   Calls Tryz.prog 19 #[.pointer (some ⟨sa,0,none⟩),.agg #[.int .i64 x,.int .u32 1],.int .i64 k] wr fun e w2=>e=.returned (.int .i64 0)∧Keeps [] w0 w2∧w2.cell? ⟨gm,i*2,none⟩=some (.int .i64 y)∧w2.cell? ⟨gm,i*2+1,none⟩=some (.int .u32 1) ∧
    Hid (Calls Tryz.prog 20 #[.pointer (some ⟨sb,0,none⟩),.agg #[.int .i64 y,.int .u32 1]] w2 fun e w3=>e=.returned (.tuple #[.int .i64 key,.int .i64 0]) ∧
     Hid (Calls Tryz.prog 14 #[.pointer (some ⟨sb,0,none⟩),.int .i64 1,.int .i64 k] w3 fun e w4=>∃(u:Nat) (g:Int),e=.returned (.tuple #[.agg #[.int .i64 u,.int .u32 g],.int .i64 0])∧Hid (Keeps [] w0 w4∧∀w5,Keeps [] w4 w5->Lows w0 sa sb kd n gl gm keys (i+1) w5))):=by
 obtain ⟨EA,EB,GA,GB,FA,FB,H,M,qb,ks,zl,t,pa,pb,hks,hH,hM,hq⟩:=h
 have hin:i<n:=by rw [<-hn];exact (List.getElem?_eq_some_iff.1 hi).1
 have hki:=hks i key (Nat.le_refl _) hi
 obtain ⟨s,hs⟩:=pa.has i hin
 obtain ⟨s',hs'⟩:=pb.has i hin
 rw [hki] at hs hs'
 obtain ⟨h1,h2⟩:=hH i hin
 obtain ⟨m0,m1,m2⟩:=hM i (Nat.le_refl _) hin
 obtain ⟨c1,c2,_,_⟩:=t.cA hin
 rw [h1] at c2
 rw [m0] at hs'
 have e1:((GA (H i).1:Nat):Int)=1:=by rw [h2];rfl
 have e2:((GB (M i).1:Nat):Int)=1:=by rw [m2];rfl
 have hdec:=pq_decrease_yes wr FA sa kd n 1 EA n 1 GA t.t.a (H i).1 1 s key k hs hk hw
 rw [e1] at hdec
 refine ⟨(H i).1,(M i).1,c1,c2,hdec.mono ?_⟩
 rintro e w2 ⟨rfl,FA',st,mv⟩
 have t2:=t.toA st mv
 obtain ⟨d1,d2,_,_⟩:=t2.cB hin
 rw [m1] at d2
 have hdel:=pq_delete w2 FB sb kd n 1 EB qb 2 GB t2.t.b (M i).1 1 s' key hs'
 rw [e2] at hdel
 refine ⟨rfl,t2.t.kp,d1,d2,hdel.mono ?_⟩
 rintro e w3 ⟨rfl,FB',st3,mv3⟩
 have t3:=t2.toB st3 mv3
 have hxc:(M i).1<n:=t.t.b.ok.lt _ (by rw [hs'];rfl)
 refine ⟨rfl,(pq_insert w3 FB' sb kd n 1 _ qb 2 GB t3.t.b 1 k (by omega) (by omega) hw (by omega) ⟨(M i).1,hxc,put_same _ _ _,by rw [e2];omega⟩).mono ?_⟩
 rintro e w4 ⟨y,hy,hEy,rfl,FB4,st4,mv4⟩
 have t4:=t3.toB st4 mv4
 refine ⟨y,_,rfl,t4.t.kp,fun w5 k5=>⟨_,_,_,_,_,_,H,M,qb+1,upd ks i k,upd zl i y,t4.same k5,pa.dec hin,?_,fun j l hj e=>?_,hH,fun j hj hjn=>?_,by omega⟩⟩
 .have:=pb.renew (k:=k) (q:=qb+1) hin (y:=y) (by rw [m0];exact hEy)
  rw [m0] at this;exact this
 .rw [upd_other _ _ (by omega)];exact hks j l (by omega) e
 .obtain ⟨z0,z1,z2⟩:=hM j (by omega) hjn
  have hne:j≠i:=by omega
  refine ⟨by rw [upd_other _ _ hne];exact z0,z1,?_⟩
  rw [upd_other _ _ ?_]
  .exact z2
  .intro e
   obtain ⟨r,hr⟩:=pb.has j hjn
   rw [z0] at hr
   rw [<-e,put_other _ _ _ (fun c=>hne (pb.inj j i hjn hin (by rw [z0,m0];exact c))),hr] at hEy
   cases hEy
theorem Lows.no (h:Lows w0 sa sb kd n gl gm keys i wr) (hn:keys.length=n) (hi:keys[i]?=some key) (hk:key<k) :
  ∃x:Nat,wr.cell? ⟨gl,i*2,none⟩=some (.int .i64 x)∧wr.cell? ⟨gl,i*2+1,none⟩=some (.int .u32 1) ∧
   Calls Tryz.prog 19 #[.pointer (some ⟨sa,0,none⟩),.agg #[.int .i64 x,.int .u32 1],.int .i64 k] wr fun e w2=>e=.returned (.int .i64 173)∧Hid (Keeps [] w0 w2∧Lows w0 sa sb kd n gl gm keys (i+1) w2):=by
 obtain ⟨EA,EB,GA,GB,FA,FB,H,M,qb,ks,zl,t,pa,pb,hks,hH,hM,hq⟩:=h
 have hin:i<n:=by rw [<-hn];exact (List.getElem?_eq_some_iff.1 hi).1
 have hki:=hks i key (Nat.le_refl _) hi
 obtain ⟨s,hs⟩:=pa.has i hin
 rw [hki] at hs
 obtain ⟨h1,h2⟩:=hH i hin
 obtain ⟨c1,c2,_,_⟩:=t.cA hin
 rw [h1] at c2
 have e1:((GA (H i).1:Nat):Int)=1:=by rw [h2];rfl
 have hdec:=pq_decrease_no wr FA sa kd n 1 EA n 1 GA t.t.a (H i).1 1 s key k hs hk
 rw [e1] at hdec
 refine ⟨(H i).1,c1,c2,hdec.mono ?_⟩
 rintro e w2 ⟨rfl,k2⟩
 exact ⟨rfl,t.t.kp.trans k2 (by simp),EA,EB,GA,GB,FA,FB,H,M,qb,ks,zl,t.same k2,pa,pb,fun j l hj e=>hks j l (by omega) e,hH,fun j hj hjn=>hM j (by omega) hjn,by omega⟩
theorem Lows.drain (h:Lows w0 sa sb kd n gl gm keys i wr) (hcap:n<=60) :
  Calls Tryz.prog 15 #[.pointer (some ⟨sa,0,none⟩),.int .i64 1] wr fun e w2=>∃(l:List Int) (v:Value),e=.returned (.tuple #[v,.bool true])∧l.length=n ∧
   Hid (Calls Tryz.prog 15 #[.pointer (some ⟨sb,0,none⟩),.int .i64 1] w2 fun e w3=>∃v':Value,e=.returned (.tuple #[v',.bool true])∧KRow 0 w3 v l∧KRow 0 w3 v' l∧Keeps [] w0 w3):=by
 obtain ⟨EA,EB,GA,GB,FA,FB,H,M,qb,ks,zl,t,pa,pb,hks,hH,hM,hq⟩:=h
 refine (drain_calls wr FA sa kd n 1 EA n 1 GA t.t.a 1 (by omega) (by omega) (by omega)).mono ?_
 rintro e w2 ⟨o,v,rfl,hd,ha,hr,kk⟩
 have hb2:=t.t.b.keep kk (fun x hx e=>t.t.ap x e hx)
 have hln:(o.map (keyE EA)).length=n:=by
  have:=(pa.drained hd ha).1.length_eq
  simpa using this
 refine ⟨o.map (keyE EA),v,rfl,hln,(drain_calls w2 FB sb kd n 1 EB qb 2 GB hb2 1 (by omega) (by omega) (by omega)).mono ?_⟩
 rintro e w3 ⟨o',v',rfl,hd',ha',hr',kk'⟩
 have hl:=t.t.b.lt
 have ho:=hr.own
 have e:=pa.same pb hd ha hd' ha'
 rw [e] at hr'
 exact ⟨v',rfl,(hr.keep kk' (fun b eb f=>by have:=(ho b eb).1;have:=hl b f;omega)).lo (Nat.zero_le _),hr'.lo (Nat.zero_le _),(t.t.kp.trans kk (fun x hx=>.inr (t.t.fa x hx))).trans kk' (fun x hx=>.inr (t.t.fb x hx))⟩
end
theorem KRow.toIn {B:Nat} {w:World} {v:Value} {ns:List Int} (h:KRow B w v ns) (hw:∀n∈ns,(Lit.int .i64 n).wf=true):KIn w v ns:=by
 obtain ⟨ao,ca,rfl⟩:=h.form
 refine ⟨⟨ao,ca,rfl⟩,fun i x hx=>?_⟩
 obtain ⟨g,rfl,_,hc⟩:=h.at hx
 exact ⟨hw x (List.mem_of_getElem? hx),g,0,ca,rfl,by rw [Nat.zero_add];exact hc⟩
section
variable (w:World)
theorem rep_sort (db:Nat) (a b:Int) (st:Value) (hb:w.heap[db]?=some (deskO a b st)) (hc:okC a b) (g off cap:Nat) (l:List ByteArray) (ns:List Int) (h:SAt w g off l) (hn:NumW l ns) (hl:ns.length<=3) :
  Calls Tryz.prog 104 #[.pointer (some ⟨db,0,none⟩),.slice (some ⟨g,off,none⟩) l.length cap] w fun e w'=>∃lst:List Nat,e=.returned (.string ⟨(sayW [115,111,114,116] lst).toArray⟩)∧Sorted ns lst∧Keeps [] w w':=by
 have e0:w.cell? ⟨db,0,none⟩=some (.int .i64 a):=by rw [cell_of_blk hb];rfl
 have e1:w.cell? ⟨db,1,none⟩=some (.int .i64 b):=by rw [cell_of_blk hb];rfl
 have hS:∀u,Keeps [] w u->u.cell? ⟨db,0,none⟩=some (.int .i64 a)∧u.cell? ⟨db,1,none⟩=some (.int .i64 b):=fun u k=>⟨k.cell' e0,k.cell' e1⟩
 have hll:=hn.1
 have hwf:∀n∈ns,(Lit.int .i64 n).wf=true:=fun n hm=>by
  obtain ⟨i,hi⟩:=List.getElem?_of_mem hm
  obtain ⟨s,hs⟩:∃s,l[i]?=some s:=⟨_,List.getElem?_eq_getElem (by have:=(List.getElem?_eq_some_iff.1 hi).1;omega)⟩
  exact (hn.2 i s n hs hi).1
 have hl65:l.length<=65536:=by omega
 have hnum:=fun u (hu:SAt u g off l)=>numbers_calls u g off cap l ns hu hn hl65
 have hsort:=fun u v (hv:KIn u v ns)=>sort_calls u ns a b hc v hv (by omega)
 have H:=Lib.hid h
 have HW:=Lib.hid hwf
 clear h hn hwf hb hll
 go_enter Tryz.func104,Tryz.ntmps104
 go_upto_region 1 with fail
 go_region_held3 (fun u=>u.cell? ⟨db,0,none⟩=some (.int .i64 a)∧u.cell? ⟨db,1,none⟩=some (.int .i64 b)) (first|exact ⟨e0,e1⟩|exact q1|exact q2)
  (first
   | (go_at_call 129;refine (hnum _ (by exact H.out)).mono ?_;rintro e w1 ⟨ao1,ca1,rfl,hr,hk1⟩;have q1:=hS w1 hk1.ofDrew)
   | (go_at_call 9;refine (hsort w1 _ (hr.toIn HW.out)).mono ?_;rintro e w2 ⟨lst,v2,rfl,hso,hrow,hk2⟩;have q2:=hS w2 (hk1.ofDrew.trans hk2 (by simp))))
 all_goals
  have hsm:∀i∈lst,i<3:=fun i hi=>by have:=(hso.2 i).1 hi;omega
  have hlen:=hso.length
  have HF:=Lib.hid (show Sorted ns lst∧Keeps [] w w2 from ⟨hso,hk1.ofDrew.trans hk2 (by simp)⟩)
  have hsaid:=fun u (hu:Keeps [] w2 u)=>said_calls u ⟨#[115,111,114,116]⟩ _ lst v2 (hrow.keep hu (by simp)) hsm (by omega) (by decide)
  clear hso hk1 hk2 q1 q2 e0 e1 hS hr hnum hsort hsm
  go_wp2_with (first
   | (go_at_call 128;refine (rep_check _).mono ?_;rintro e w3 ⟨rfl,rfl⟩)
   | (go_at_call 134;refine (hsaid _ (Keeps.refl _ _)).mono ?_;rintro e w3 ⟨rfl,rfl⟩))
  go_ret
  exact ⟨lst,rfl,HF.out⟩
end
theorem sorted_21 {l:List Nat} (h:Sorted [2,1] l):l=[1,0] :=
 h.one ⟨by simp [kLess],fun x=>by simp;omega⟩
theorem numW_21:NumW [⟨#[50]⟩,⟨#[49]⟩] [2,1]:=⟨rfl,fun i s n e1 e2=>by
 match i,e1,e2 with
 | 0,e1,e2=>cases e1;cases e2;exact ⟨by decide,fun u=>number_dig u 2 (by omega)⟩
 | 1,e1,e2=>cases e1;cases e2;exact ⟨by decide,fun u=>number_dig u 1 (by omega)⟩⟩
theorem gives_sort (a:Int) (h:okC a 0):DoGives a ⟨#[115,111,114,116,32,50,32,49]⟩ outA a :=
 do_sort a a outA fun db g u hb hs=>(rep_sort u db a 0 (.pointer none) hb h g 1 2 [⟨#[50]⟩,⟨#[49]⟩] [2,1] hs numW_21 (by decide)).mono fun e w' ⟨lst,he,hso,k⟩=>by
  obtain rfl:=sorted_21 hso
  exact ⟨he,k.blk hb (by simp),k.mono (by simp)⟩
theorem gives_kind:DoGives 1 ⟨#[107,105,110,100,32,115,107,101,119]⟩ outK 7 :=
 do_kind 1 7 outK fun db g u hb hs=>rep_kind u db 1 0 (.pointer none) hb g 1 1 hs
theorem alive_calls (w:World):Calls Tryz.prog 7 #[] w fun e w'=>e=.returned (.bool true)∧Keeps [] w w' :=
 alive_of w (gives_sort 1 (by decide)) (gives_sort 7 (by decide)) gives_kind
end Go.Proofs.YtkdbjelhkfdfjaaGreatDoor
namespace Go.Proofs.YtkdbjelhkfdfjaaGreatDoor
open Go.RowKit Go.WideShapes Go.ChangeShapes Go.Deep
section
variable {H:Type} {enc:TypeId×Value->H} {w:World} {base:Nat} {spare:Nat->Bool} {held:Bool}
def KeyCells (cs:List Value):Prop:=∃x:Int,cs=[.int .i64 x]∧(Lit.int .i64 x).wf=true
theorem key_cells {n:Nat} {cs:List Value} {y:DataW H×List MemPlace} (h:DataW.trod enc Tryz.prog w base spare held n 2 cs=some y):KeyCells cs:=by
 obtain ⟨x,e,_,wf⟩:=Go.DataW.trod_int Tryz.underlying2 h
 exact ⟨x,e,wf⟩
theorem keys_in {a:Option Addr} {len cap:Nat} {C:Nat->List Value} (hE:∀i,i<len->KeyCells (C i)) (hr:IsRows w 1 a len C):∃keys:List Int,keys.length=len∧KIn w (.slice a len cap) keys:=by
 obtain ⟨f,hf⟩:=choose_lt (α:=Int) (n:=len) (p:=fun i x=>C i=[.int .i64 x]∧(Lit.int .i64 x).wf=true) (fun i hi=>hE i hi)
 refine ⟨(List.range len).map f,by simp,⟨a,cap,by simp⟩,fun i x hx=>?_⟩
 have hi:i<len:=by have:=(List.getElem?_eq_some_iff.1 hx).1;simpa using this
 have hxf:x=f i:=by simp [hi] at hx;exact hx.symm
 subst hxf
 refine ⟨(hf i hi).2,?_⟩
 rcases hr with e|⟨b,off,rfl,hb,hc⟩
 .omega
 .refine ⟨b,off,cap,by simp,?_⟩
  have:=hc i hi 0 (by omega)
  rw [(hf i hi).1] at this
  simpa using this
theorem config_cells {n:Nat} {cs:List Value} {y:DataW H×List MemPlace} (h:DataW.trod enc Tryz.prog w base spare held n 23 cs=some y) :
  ∃a b:Int,cs=[.int .i64 a,.int .i64 b]∧(Lit.int .i64 a).wf=true∧(Lit.int .i64 b).wf=true:=by
 obtain ⟨y0,y1,m,_,hl,h0,h1⟩:=trod_struct2 Tryz.underlying23 h
 have hc:Tryz.prog.cellsOf 23=2:=by kernel_rfl
 have hc1:Tryz.prog.cellsOf 3=1:=by kernel_rfl
 rw [hc] at hl
 match cs,hl with
 | [c0,c1],_ =>
  simp only [hc1,List.drop_zero,List.take_succ_cons,List.take_zero,List.drop_succ_cons] at h0 h1
  obtain ⟨x0,e0,_,w0⟩:=Go.DataW.trod_int Tryz.underlying3 h0
  obtain ⟨x1,e1,_,w1⟩:=Go.DataW.trod_int Tryz.underlying3 h1
  simp only [List.cons.injEq,and_true] at e0 e1
  subst e0 e1
  exact ⟨x0,x1,rfl,w0,w1⟩
theorem open_config {r:Reach} {b0:Nat} {v:Value} {d:DataW H} {p:List MemPlace} (hv:Value.okWide Tryz.prog w r b0 23 v) (h:DataW.Trod enc Tryz.prog w base spare held 23 v d p) :
  ∃a b:Int,v=.agg #[.int .i64 a,.int .i64 b]∧(Lit.int .i64 a).wf=true∧(Lit.int .i64 b).wf=true:=by
 simp only [Value.okWide,Tryz.underlying23] at hv
 obtain ⟨cs,rfl,hsz,_⟩:=hv
 obtain ⟨l⟩:=cs
 obtain ⟨fuel,hf⟩:=h
 have hf':DataW.trod enc Tryz.prog w base spare held fuel 23 l=some (d,p):=by simpa [Value.cells] using hf
 obtain ⟨a,b,rfl,wa,wb⟩:=config_cells hf'
 exact ⟨a,b,rfl,wa,wb⟩
end
end Go.Proofs.YtkdbjelhkfdfjaaGreatDoor

