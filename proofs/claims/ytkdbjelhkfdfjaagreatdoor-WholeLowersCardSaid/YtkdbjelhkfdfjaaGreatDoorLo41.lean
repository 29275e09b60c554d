/-
  Contracts that the law rests on. Conditions: none.
-/
import Derived.Test.YtkdbjelhkfdfjaaGreatDoorLo27
import Derived.Test.YtkdbjelhkfdfjaaGreatDoorLo33
import Derived.Test.YtkdbjelhkfdfjaaGreatDoorLo35
set_option linter.unusedVariables false
set_option maxRecDepth 100000
set_option maxHeartbeats 32000000
namespace Go.Proofs.YtkdbjelhkfdfjaaGreatDoor
open Go.RowKit
theorem run_enter {P:Program} {f:FuncId} (h:(P.funcs[f]?).map (fun fn=>(fn.name == "runtime.NumGoroutine",fn.body.isNone))=some (false,false)) (args:Array Value) (w:World):(callFunc f args).run P w=.ok (.enter f args) w:=by
 obtain ⟨fn,hf,e⟩:=Option.map_eq_some_iff.1 h
 simp only [Prod.mk.injEq] at e
 have h1:¬fn.name = "runtime.NumGoroutine" := by simpa using e.1
 have h2:¬fn.body=none:=by
  intro c
  rw [c] at e
  exact absurd e.2 (by simp)
 simp [callFunc,hf,h1,h2]
def nTy:Nat->TypeId
 | 3=>152
 | 4=>156
 | 5=>160
 | 6=>164
 | 7=>168
 | 8=>172
 | _=>148
def nAt (k:Nat) (w:World) (F:List Nat) (p cap hs:Nat) (E:Ent):Prop :=
 match k with
 | 3=>BinAt w F p cap hs E
 | 4=>PairAt w F p cap hs E
 | 5=>FibAt w F p cap hs E
 | 6=>LeftAt w F p cap hs E
 | 7=>SkewAt w F p cap hs E
 | 8=>ShedAt w F p cap hs E
 | _=>DaryAt w F p cap hs E
section
variable {k:Nat} {w w':World} {F S:List Nat} {p cap hs:Nat} {E E':Ent}
theorem nAt.lt (c:nAt k w F p cap hs E):∀b∈F,b<w.heap.size:=by
 unfold nAt at c
 split at c
 .exact BinAt.lt c
 .exact PairAt.lt c
 .exact FibAt.lt c
 .exact LeftAt.lt c
 .exact SkewAt.lt c
 .exact ShedAt.lt c
 .exact DaryAt.lt c
theorem nAt.mem (c:nAt k w F p cap hs E):p∈F:=by
 unfold nAt at c
 split at c
 .exact BinAt.mem c
 .exact PairAt.mem c
 .exact FibAt.mem c
 .exact LeftAt.mem c
 .exact SkewAt.mem c
 .exact ShedAt.mem c
 .exact DaryAt.mem c
theorem nAt.ok (c:nAt k w F p cap hs E):EntOk E cap hs:=by
 unfold nAt at c
 split at c
 .exact BinAt.ok c
 .exact PairAt.ok c
 .exact FibAt.ok c
 .exact LeftAt.ok c
 .exact SkewAt.ok c
 .exact ShedAt.ok c
 .exact DaryAt.ok c
theorem nAt.keep (c:nAt k w F p cap hs E) (h:Keeps S w w') (hS:∀b∈F,b∉S):nAt k w' F p cap hs E:=by
 unfold nAt at c ⊢
 split at c
 .exact BinAt.keep c h hS
 .exact PairAt.keep c h hS
 .exact FibAt.keep c h hS
 .exact LeftAt.keep c h hS
 .exact SkewAt.keep c h hS
 .exact ShedAt.keep c h hS
 .exact DaryAt.keep c h hS
theorem nAt.cells (c:nAt k w F p cap hs E):∃pc Fc,w.cell? ⟨p,0,none⟩=some (.pointer (some ⟨pc,0,none⟩))∧CellsAt w Fc pc cap hs E∧∀b∈Fc,b∈F:=by
 unfold nAt at c
 split at c
 .obtain ⟨pc,pf,gf,gr,rc,Fc,T,U,R,rfl,m,o⟩:=c
  exact ⟨pc,Fc,m.c0,m.ce,fun b hb=>binF_mem.2 (.inr (.inr (.inl hb)))⟩
 .obtain ⟨pc,gt,gT,cT,Fc,K,kid,next,back,U,top,rfl,m,tr,ng,t⟩:=c
  exact ⟨pc,Fc,m.c0,m.ce,fun b hb=>by simp [hb]⟩
 .obtain ⟨pc,pr,gn,gp,gt,gT,cT,Fc,wl,U,kid,deg,mk,top,rfl,q,o⟩:=c
  exact ⟨pc,Fc,q.c0,q.ce,fun b hb=>by simp [hb]⟩
 .obtain ⟨pc,pt,gt,gr,gT,cT,Fc,L,R,U,top,rfl,m,tr,ng,t⟩:=c
  exact ⟨pc,Fc,m.c0,m.ce,fun b hb=>by simp [hb]⟩
 .obtain ⟨pc,pt,gt,mb,Fc,L,R,U,top,rfl,m,im,t⟩:=c
  exact ⟨pc,Fc,m.c0,m.ce,fun b hb=>by simp [hb]⟩
 .obtain ⟨pc,gr,rc,ga,Fc,R,f,rfl,m⟩:=c
  exact ⟨pc,Fc,m.c0,m.ce,fun b hb=>nestF_mem.2 (.inr (.inr (.inl (by simp [hb]))))⟩
 .obtain ⟨pc,gr,rc,d,Fc,R,rfl,m⟩:=c
  exact ⟨pc,Fc,m.c0,m.ce,fun b hb=>nestF_mem.2 (.inr (.inr (.inl hb)))⟩
end
theorem n_has_m (k:Nat) (w:World) (p pc:Nat) (hc:w.cell? ⟨p,0,none⟩=some (.pointer (some ⟨pc,0,none⟩))) :
  (method 588 (nTy k) (.pointer (some ⟨p,0,none⟩)) "Has").run Tryz.prog w=.ok (301,.pointer (some ⟨pc,0,none⟩)) w:=by
 unfold nTy
 split
 .exact run_method_embedded w 587 152 213 258 200 "Has" p _ _ (by kernel_rfl) (by kernel_rfl) Tryz.underlying200 (by kernel_rfl) hc
 .exact run_method_embedded w 587 156 216 258 200 "Has" p _ _ (by kernel_rfl) (by kernel_rfl) Tryz.underlying200 (by kernel_rfl) hc
 .exact run_method_embedded w 587 160 224 258 200 "Has" p _ _ (by kernel_rfl) (by kernel_rfl) Tryz.underlying200 (by kernel_rfl) hc
 .exact run_method_embedded w 587 164 232 258 200 "Has" p _ _ (by kernel_rfl) (by kernel_rfl) Tryz.underlying200 (by kernel_rfl) hc
 .exact run_method_embedded w 587 168 235 258 200 "Has" p _ _ (by kernel_rfl) (by kernel_rfl) Tryz.underlying200 (by kernel_rfl) hc
 .exact run_method_embedded w 587 172 238 258 200 "Has" p _ _ (by kernel_rfl) (by kernel_rfl) Tryz.underlying200 (by kernel_rfl) hc
 .exact run_method_embedded w 587 148 208 258 200 "Has" p _ _ (by kernel_rfl) (by kernel_rfl) Tryz.underlying200 (by kernel_rfl) hc
theorem n_len_m (k:Nat) (w:World) (p pc:Nat) (hc:w.cell? ⟨p,0,none⟩=some (.pointer (some ⟨pc,0,none⟩))) :
  (method 588 (nTy k) (.pointer (some ⟨p,0,none⟩)) "Len").run Tryz.prog w=.ok (304,.pointer (some ⟨pc,0,none⟩)) w:=by
 unfold nTy
 split
 .exact run_method_embedded w 587 152 213 258 200 "Len" p _ _ (by kernel_rfl) (by kernel_rfl) Tryz.underlying200 (by kernel_rfl) hc
 .exact run_method_embedded w 587 156 216 258 200 "Len" p _ _ (by kernel_rfl) (by kernel_rfl) Tryz.underlying200 (by kernel_rfl) hc
 .exact run_method_embedded w 587 160 224 258 200 "Len" p _ _ (by kernel_rfl) (by kernel_rfl) Tryz.underlying200 (by kernel_rfl) hc
 .exact run_method_embedded w 587 164 232 258 200 "Len" p _ _ (by kernel_rfl) (by kernel_rfl) Tryz.underlying200 (by kernel_rfl) hc
 .exact run_method_embedded w 587 168 235 258 200 "Len" p _ _ (by kernel_rfl) (by kernel_rfl) Tryz.underlying200 (by kernel_rfl) hc
 .exact run_method_embedded w 587 172 238 258 200 "Len" p _ _ (by kernel_rfl) (by kernel_rfl) Tryz.underlying200 (by kernel_rfl) hc
 .exact run_method_embedded w 587 148 208 258 200 "Len" p _ _ (by kernel_rfl) (by kernel_rfl) Tryz.underlying200 (by kernel_rfl) hc
theorem n_entry_m (k:Nat) (w:World) (p pc:Nat) (hc:w.cell? ⟨p,0,none⟩=some (.pointer (some ⟨pc,0,none⟩))) :
  (method 588 (nTy k) (.pointer (some ⟨p,0,none⟩)) "Entry").run Tryz.prog w=.ok (299,.pointer (some ⟨pc,0,none⟩)) w:=by
 unfold nTy
 split
 .exact run_method_embedded w 587 152 213 258 200 "Entry" p _ _ (by kernel_rfl) (by kernel_rfl) Tryz.underlying200 (by kernel_rfl) hc
 .exact run_method_embedded w 587 156 216 258 200 "Entry" p _ _ (by kernel_rfl) (by kernel_rfl) Tryz.underlying200 (by kernel_rfl) hc
 .exact run_method_embedded w 587 160 224 258 200 "Entry" p _ _ (by kernel_rfl) (by kernel_rfl) Tryz.underlying200 (by kernel_rfl) hc
 .exact run_method_embedded w 587 164 232 258 200 "Entry" p _ _ (by kernel_rfl) (by kernel_rfl) Tryz.underlying200 (by kernel_rfl) hc
 .exact run_method_embedded w 587 168 235 258 200 "Entry" p _ _ (by kernel_rfl) (by kernel_rfl) Tryz.underlying200 (by kernel_rfl) hc
 .exact run_method_embedded w 587 172 238 258 200 "Entry" p _ _ (by kernel_rfl) (by kernel_rfl) Tryz.underlying200 (by kernel_rfl) hc
 .exact run_method_embedded w 587 148 208 258 200 "Entry" p _ _ (by kernel_rfl) (by kernel_rfl) Tryz.underlying200 (by kernel_rfl) hc
section
variable (k:Nat) (w:World) (F:List Nat) (p cap hs:Nat) (E:Ent)
def nAft (hs':Nat) (E':Ent) (w':World):Prop:=∃F',nAt k w' F' p cap hs' E'∧Moved F w F' w'
theorem n_insert (c:nAt k w F p cap hs E) (h x q:Nat) (key:Int) (h1:1<=h) (h2:h<=hs) (hx:x<cap) (he:E x=none) (hk:(Lit.int .i64 key).wf=true) (hq:(Lit.int .u64 (q:Int)).wf=true) :
  ∃fn,(∀u,(method 588 (nTy k) (.pointer (some ⟨p,0,none⟩)) "Insert").run Tryz.prog u=.ok (fn,.pointer (some ⟨p,0,none⟩)) u)∧(∀args u,(callFunc fn args).run Tryz.prog u=.ok (.enter fn args) u) ∧
   Calls Tryz.prog fn #[.pointer (some ⟨p,0,none⟩),.int .i64 h,.int .i64 x,.agg #[.int .i64 key,.int .u64 (q:Int)]] w fun e w'=>e=.returned (.bool true)∧nAft k w F p cap hs (put E x (some (h,key,q))) w':=by
 have hlt:=c.lt
 unfold nAft nAt at *
 unfold nTy
 split at c
 .refine ⟨343,fun u=>by kernel_rfl,fun args u=>run_enter (by kernel_rfl) args u,(bin_insert w F p cap hs E c h x q key h1 h2 hx he hk hq).mono ?_⟩
  rintro e w' ⟨rfl,F',a,b⟩
  exact ⟨rfl,F',a,b⟩
 .refine ⟨373,fun u=>by kernel_rfl,fun args u=>run_enter (by kernel_rfl) args u,(pair_insert w F p cap hs E c h x q key h1 h2 hx he hk hq).mono ?_⟩
  rintro e w' ⟨rfl,a,b⟩
  exact ⟨rfl,F,a,b,fun b' hb=>.inl hb,a.lt⟩
 .refine ⟨384,fun u=>by kernel_rfl,fun args u=>run_enter (by kernel_rfl) args u,(fib_insert w F p cap hs E c h x q key h1 h2 hx he hk hq).mono ?_⟩
  rintro e w' ⟨rfl,a,b⟩
  exact ⟨rfl,F,a,b,fun b' hb=>.inl hb,a.lt⟩
 .refine ⟨403,fun u=>by kernel_rfl,fun args u=>run_enter (by kernel_rfl) args u,(left_insert w F p cap hs E c h x q key h1 h2 hx he hk hq).mono ?_⟩
  rintro e w' ⟨rfl,a,b⟩
  exact ⟨rfl,F,a,b,fun b' hb=>.inl hb,a.lt⟩
 .refine ⟨426,fun u=>by kernel_rfl,fun args u=>run_enter (by kernel_rfl) args u,(skew_insert w F p cap hs E c h x q key h1 h2 hx he hk hq).mono ?_⟩
  rintro e w' ⟨rfl,a,b⟩
  exact ⟨rfl,F,a,b,fun b' hb=>.inl hb,a.lt⟩
 .refine ⟨436,fun u=>by kernel_rfl,fun args u=>run_enter (by kernel_rfl) args u,(shed_insert w F p cap hs E c h x q key h1 h2 hx he hk hq).mono ?_⟩
  rintro e w' ⟨rfl,F',a,b⟩
  exact ⟨rfl,F',a,b⟩
 .refine ⟨303,fun u=>by kernel_rfl,fun args u=>run_enter (by kernel_rfl) args u,(dary_insert w F p cap hs E c h x q key h1 h2 hx he hk hq).mono ?_⟩
  rintro e w' ⟨rfl,F',a,b⟩
  exact ⟨rfl,F',a,b⟩
theorem n_extract (c:nAt k w F p cap hs E) (h:Nat) (h1:1<=h) (h2:h<=hs) (hi:∃y,isIn E h y) :
  ∃fn,(∀u,(method 588 (nTy k) (.pointer (some ⟨p,0,none⟩)) "Extract").run Tryz.prog u=.ok (fn,.pointer (some ⟨p,0,none⟩)) u)∧(∀args u,(callFunc fn args).run Tryz.prog u=.ok (.enter fn args) u) ∧
   Calls Tryz.prog fn #[.pointer (some ⟨p,0,none⟩),.int .i64 h] w fun e w'=>∃x:Nat,e=.returned (.tuple #[.int .i64 x,.bool true])∧least E h x∧nAft k w F p cap hs (put E x none) w':=by
 have hbh:=c.ok.bh
 unfold nAft nAt at *
 unfold nTy
 split at c
 .refine ⟨342,fun u=>by kernel_rfl,fun args u=>run_enter (by kernel_rfl) args u,(bin_extract w F p cap hs E c h h1 h2 hi).mono ?_⟩
  rintro e w' ⟨x,rfl,hl,F',a,b⟩
  exact ⟨x,rfl,hl,F',a,b⟩
 .refine ⟨372,fun u=>by kernel_rfl,fun args u=>run_enter (by kernel_rfl) args u,(pair_extract w F p cap hs E c h h1 h2 hi).mono ?_⟩
  rintro e w' ⟨x,rfl,hl,a,b⟩
  exact ⟨x,rfl,hl,F,a,b,fun b' hb=>.inl hb,a.lt⟩
 .refine ⟨383,fun u=>by kernel_rfl,fun args u=>run_enter (by kernel_rfl) args u,(fib_extract w F p cap hs E c h h1 h2 hi).mono ?_⟩
  rintro e w' ⟨x,rfl,hl,a,b⟩
  exact ⟨x,rfl,hl,F,a,b,fun b' hb=>.inl hb,a.lt⟩
 .refine ⟨402,fun u=>by kernel_rfl,fun args u=>run_enter (by kernel_rfl) args u,(left_extract w F p cap hs E c h h1 h2 hi).mono ?_⟩
  rintro e w' ⟨x,rfl,hl,a,b⟩
  exact ⟨x,rfl,hl,F,a,b,fun b' hb=>.inl hb,a.lt⟩
 .refine ⟨425,fun u=>by kernel_rfl,fun args u=>run_enter (by kernel_rfl) args u,(skew_extract w F p cap hs E c h (by omega) hi).mono ?_⟩
  rintro e w' ⟨x,rfl,hl,a,b⟩
  exact ⟨x,rfl,hl,F,a,b,fun b' hb=>.inl hb,a.lt⟩
 .refine ⟨435,fun u=>by kernel_rfl,fun args u=>run_enter (by kernel_rfl) args u,(shed_extract w F p cap hs E c h h1 h2 hi).mono ?_⟩
  rintro e w' ⟨x,rfl,hl,F',a,b⟩
  exact ⟨x,rfl,hl,F',a,b⟩
 .refine ⟨300,fun u=>by kernel_rfl,fun args u=>run_enter (by kernel_rfl) args u,(dary_extract w F p cap hs E c h h1 h2 hi).mono ?_⟩
  rintro e w' ⟨x,rfl,hl,F',a,b⟩
  exact ⟨x,rfl,hl,F',a,b⟩
theorem n_min_yes (c:nAt k w F p cap hs E) (h:Nat) (h1:1<=h) (h2:h<=hs) (hi:∃y,isIn E h y) :
  ∃fn,(∀u,(method 588 (nTy k) (.pointer (some ⟨p,0,none⟩)) "Min").run Tryz.prog u=.ok (fn,.pointer (some ⟨p,0,none⟩)) u)∧(∀args u,(callFunc fn args).run Tryz.prog u=.ok (.enter fn args) u) ∧
   Calls Tryz.prog fn #[.pointer (some ⟨p,0,none⟩),.int .i64 h] w fun e w'=>∃x:Nat,e=.returned (.tuple #[.int .i64 x,.bool true])∧least E h x∧nAt k w' F p cap hs E∧Keeps F w w':=by
 have hbh:=c.ok.bh
 unfold nAt at *
 unfold nTy
 split at c
 .refine ⟨346,fun u=>by kernel_rfl,fun args u=>run_enter (by kernel_rfl) args u,?_⟩
  obtain ⟨pc,pf,gf,gr,rc,Fc,T,U,R,rfl,m,o⟩:=c
  refine (bin_min_yes w p pc pf gf gr rc cap hs Fc E T U R m o h h1 h2 hi).mono ?_
  rintro e w' ⟨x,rfl,hl,_,q,kk⟩
  exact ⟨x,rfl,hl,⟨pc,pf,gf,gr,rc,Fc,T,U,R,rfl,q,o⟩,kk.mono fun b hb=>.inl (binF_mem.2 (.inr (.inr (.inl hb))))⟩
 .refine ⟨376,fun u=>by kernel_rfl,fun args u=>run_enter (by kernel_rfl) args u,(pair_min_yes w F p cap hs E c h h1 h2 hi).mono ?_⟩
  rintro e w' ⟨⟨x,rfl,hl⟩,rfl⟩
  exact ⟨x,rfl,hl,c,Keeps.refl _ _⟩
 .refine ⟨387,fun u=>by kernel_rfl,fun args u=>run_enter (by kernel_rfl) args u,(fib_min_yes w F p cap hs E c h h1 h2 hi).mono ?_⟩
  rintro e w' ⟨⟨x,rfl,hl⟩,rfl⟩
  exact ⟨x,rfl,hl,c,Keeps.refl _ _⟩
 .refine ⟨406,fun u=>by kernel_rfl,fun args u=>run_enter (by kernel_rfl) args u,(left_min_yes w F p cap hs E c h h1 h2 hi).mono ?_⟩
  rintro e w' ⟨⟨x,rfl,hl⟩,rfl⟩
  exact ⟨x,rfl,hl,c,Keeps.refl _ _⟩
 .refine ⟨428,fun u=>by kernel_rfl,fun args u=>run_enter (by kernel_rfl) args u,(skew_min_yes w F p cap hs E c h (by omega) hi).mono ?_⟩
  rintro e w' ⟨⟨x,rfl,hl⟩,rfl⟩
  exact ⟨x,rfl,hl,c,Keeps.refl _ _⟩
 .refine ⟨439,fun u=>by kernel_rfl,fun args u=>run_enter (by kernel_rfl) args u,(shed_min_yes w F p cap hs E c h h1 h2 hi).mono ?_⟩
  rintro e w' ⟨⟨x,rfl,hl⟩,rfl⟩
  exact ⟨x,rfl,hl,c,Keeps.refl _ _⟩
 .refine ⟨307,fun u=>by kernel_rfl,fun args u=>run_enter (by kernel_rfl) args u,(dary_min_yes w F p cap hs E c h h1 h2 hi).mono ?_⟩
  rintro e w' ⟨⟨x,rfl,hl⟩,rfl⟩
  exact ⟨x,rfl,hl,c,Keeps.refl _ _⟩
theorem n_min_no (c:nAt k w F p cap hs E) (h:Nat) (h1:1<=h) (h2:h<=hs) (hi:∀y,¬isIn E h y) :
  ∃fn,(∀u,(method 588 (nTy k) (.pointer (some ⟨p,0,none⟩)) "Min").run Tryz.prog u=.ok (fn,.pointer (some ⟨p,0,none⟩)) u)∧(∀args u,(callFunc fn args).run Tryz.prog u=.ok (.enter fn args) u) ∧
   Calls Tryz.prog fn #[.pointer (some ⟨p,0,none⟩),.int .i64 h] w fun e w'=>e=.returned (.tuple #[.int .i64 0,.bool false])∧w=w':=by
 have hbh:=c.ok.bh
 unfold nAt at *
 unfold nTy
 split at c
 .refine ⟨346,fun u=>by kernel_rfl,fun args u=>run_enter (by kernel_rfl) args u,?_⟩
  obtain ⟨pc,pf,gf,gr,rc,Fc,T,U,R,rfl,m,o⟩:=c
  exact bin_min_no w p pc pf gf gr rc cap hs Fc E T U R m o h hi
 .exact ⟨376,fun u=>by kernel_rfl,fun args u=>run_enter (by kernel_rfl) args u,pair_min_no w F p cap hs E c h (by omega) hi⟩
 .exact ⟨387,fun u=>by kernel_rfl,fun args u=>run_enter (by kernel_rfl) args u,fib_min_no w F p cap hs E c h (by omega) hi⟩
 .exact ⟨406,fun u=>by kernel_rfl,fun args u=>run_enter (by kernel_rfl) args u,left_min_no w F p cap hs E c h (by omega) hi⟩
 .exact ⟨428,fun u=>by kernel_rfl,fun args u=>run_enter (by kernel_rfl) args u,skew_min_no w F p cap hs E c h (by omega) hi⟩
 .exact ⟨439,fun u=>by kernel_rfl,fun args u=>run_enter (by kernel_rfl) args u,shed_min_no w F p cap hs E c h h1 h2 hi⟩
 .exact ⟨307,fun u=>by kernel_rfl,fun args u=>run_enter (by kernel_rfl) args u,dary_min_no w F p cap hs E c h h1 h2 hi⟩
theorem n_make (c:nAt k w F p cap hs E) (hh:hs<65536) :
  ∃fn r,(∀u,u.cell? ⟨p,0,none⟩=w.cell? ⟨p,0,none⟩->(method 588 (nTy k) (.pointer (some ⟨p,0,none⟩)) "Make").run Tryz.prog u=.ok (fn,r) u)∧(∀args u,(callFunc fn args).run Tryz.prog u=.ok (.enter fn args) u) ∧
   Calls Tryz.prog fn #[r] w fun e w'=>e=.returned (.int .i64 ((hs+1:Nat):Int))∧nAft k w F p cap (hs+1) E w':=by
 unfold nAft nAt at *
 unfold nTy
 split at c
 .refine ⟨344,.pointer (some ⟨p,0,none⟩),fun u _=>by kernel_rfl,fun args u=>run_enter (by kernel_rfl) args u,(bin_make w F p cap hs E c hh).mono ?_⟩
  rintro e w' ⟨F',rfl,a,b⟩
  exact ⟨rfl,F',a,b⟩
 .refine ⟨374,.pointer (some ⟨p,0,none⟩),fun u _=>by kernel_rfl,fun args u=>run_enter (by kernel_rfl) args u,(pair_make w F p cap hs E c hh).mono ?_⟩
  rintro e w' ⟨F',rfl,a,b⟩
  exact ⟨rfl,F',a,b⟩
 .refine ⟨385,.pointer (some ⟨p,0,none⟩),fun u _=>by kernel_rfl,fun args u=>run_enter (by kernel_rfl) args u,(fib_make w F p cap hs E c hh).mono ?_⟩
  rintro e w' ⟨F',rfl,a,b⟩
  exact ⟨rfl,F',a,b⟩
 .refine ⟨404,.pointer (some ⟨p,0,none⟩),fun u _=>by kernel_rfl,fun args u=>run_enter (by kernel_rfl) args u,(left_make w F p cap hs E c hh).mono ?_⟩
  rintro e w' ⟨F',rfl,a,b⟩
  exact ⟨rfl,F',a,b⟩
 .obtain ⟨pc,h0,hm⟩:=skew_make w F p cap hs E c hh
  refine ⟨_,_,fun u hu=>run_method_embedded u 587 168 235 258 200 "Make" p _ _ (by kernel_rfl) (by kernel_rfl) Tryz.underlying200 (by kernel_rfl) (hu.trans h0),fun args u=>run_enter (by kernel_rfl) args u,hm.mono ?_⟩
  rintro e w' ⟨F',rfl,a,b⟩
  exact ⟨rfl,F',a,b⟩
 .refine ⟨437,.pointer (some ⟨p,0,none⟩),fun u _=>by kernel_rfl,fun args u=>run_enter (by kernel_rfl) args u,(shed_make w F p cap hs E c hh).mono ?_⟩
  rintro e w' ⟨F',rfl,a,b⟩
  exact ⟨rfl,F',a,b⟩
 .refine ⟨305,.pointer (some ⟨p,0,none⟩),fun u _=>by kernel_rfl,fun args u=>run_enter (by kernel_rfl) args u,(dary_make w F p cap hs E c hh).mono ?_⟩
  rintro e w' ⟨F',rfl,a,b⟩
  exact ⟨rfl,F',a,b⟩
end
structure StoreQ (w:World) (s pa pn:Nat) (Fa Fn:List Nat) (c1 c2:Int) (k cap hs:Nat) (E:Ent) (q:Nat) (most:Int) (G:Nat->Nat):Prop where
 blk:w.heap[s]?=some (.cells #[.int .i64 c1,.int .i64 c2,.pointer (some ⟨pa,0,none⟩),.iface (nTy k) (.pointer (some ⟨pn,0,none⟩)),.int .u64 (q:Int)] 98 (0,0))
 ar:AreAt w Fa pa cap most G (fun x=>(E x).isSome)
 ne:nAt k w Fn pn cap hs E
 sa:s∉Fa
 sn:s∉Fn
 an:∀b∈Fa,b∉Fn
 sq:∀x h key n,E x=some (h,key,n)->n<=q
 uq:∀x y h key n h' key',E x=some (h,key,n)->E y=some (h',key',n)->x=y
 gq:∀x,G x<=q
def StoreAt (w:World) (F:List Nat) (s k cap hs:Nat) (E:Ent) (q:Nat) (most:Int) (G:Nat->Nat):Prop :=
 ∃(pa pn:Nat) (Fa Fn:List Nat) (c1 c2:Int),F=s::(Fa++Fn)∧StoreQ w s pa pn Fa Fn c1 c2 k cap hs E q most G
section
variable {w w':World} {F Fa Fn Fa' Fn' T:List Nat} {s pa pn k cap hs hs' q:Nat} {c1 c2 most:Int} {E E':Ent} {G G':Nat->Nat}
theorem StoreQ.lt (h:StoreQ w s pa pn Fa Fn c1 c2 k cap hs E q most G):∀b∈s::(Fa++Fn),b<w.heap.size:=by
 intro b hb
 simp only [List.mem_cons,List.mem_append] at hb
 rcases hb with rfl|hb|hb
 .exact lt_of_block h.blk
 .exact h.ar.lt b hb
 .exact h.ne.lt b hb
theorem StoreAt.lt (h:StoreAt w F s k cap hs E q most G):∀b∈F,b<w.heap.size:=by
 obtain ⟨pa,pn,Fa,Fn,c1,c2,rfl,h⟩:=h;exact h.lt
theorem StoreQ.keep (h:StoreQ w s pa pn Fa Fn c1 c2 k cap hs E q most G) (kk:Keeps T w w') (hT:∀b∈s::(Fa++Fn),b∉T):StoreQ w' s pa pn Fa Fn c1 c2 k cap hs E q most G :=
 ⟨kk.blk h.blk (hT s (by simp)),h.ar.keep kk (fun b hb=>hT b (by simp [hb])),h.ne.keep kk (fun b hb=>hT b (by simp [hb])),h.sa,h.sn,h.an,h.sq,h.uq,h.gq⟩
theorem StoreAt.keep (h:StoreAt w F s k cap hs E q most G) (kk:Keeps T w w') (hT:∀b∈F,b∉T):StoreAt w' F s k cap hs E q most G:=by
 obtain ⟨pa,pn,Fa,Fn,c1,c2,rfl,h⟩:=h
 exact ⟨pa,pn,Fa,Fn,c1,c2,rfl,h.keep kk hT⟩
theorem StoreAt.ok (h:StoreAt w F s k cap hs E q most G):EntOk E cap hs:=by
 obtain ⟨pa,pn,Fa,Fn,c1,c2,rfl,h⟩:=h;exact h.ne.ok
theorem StoreQ.c2' (h:StoreQ w s pa pn Fa Fn c1 c2 k cap hs E q most G):w.cell? ⟨s,2,none⟩=some (.pointer (some ⟨pa,0,none⟩)):=by rw [cell_of_blk h.blk];rfl
theorem StoreQ.c3 (h:StoreQ w s pa pn Fa Fn c1 c2 k cap hs E q most G):w.cell? ⟨s,3,none⟩=some (.iface (nTy k) (.pointer (some ⟨pn,0,none⟩))):=by rw [cell_of_blk h.blk];rfl
theorem StoreQ.nest (h:StoreQ w s pa pn Fa Fn c1 c2 k cap hs E q most G) (a:nAft k w Fn pn cap hs' E' w') (hE:∀x,(E' x).isSome=(E x).isSome) (hsq:∀x h key n,E' x=some (h,key,n)->n<=q) (huq:∀x y h key n h' key',E' x=some (h,key,n)->E' y=some (h',key',n)->x=y) :
  ∃Fn',StoreQ w' s pa pn Fa Fn' c1 c2 k cap hs' E' q most G∧Moved (s::(Fa++Fn)) w (s::(Fa++Fn')) w':=by
 obtain ⟨Fn',hn,hm⟩:=a
 have hl:=h.lt
 have hold:∀b,b<w.heap.size->b∉Fn->b∉Fn':=fun b h1 h2 h3=>by
  rcases hm.from' b h3 with c|c
  .exact h2 c
  .omega
 have hq:StoreQ w' s pa pn Fa Fn' c1 c2 k cap hs' E' q most G:=by
  refine ⟨hm.keeps.blk h.blk h.sn,?_,hn,h.sa,hold s (hl s (by simp)) h.sn,fun b hb=>hold b (hl b (by simp [hb])) (h.an b hb),hsq,huq,h.gq⟩
  have:=h.ar.keep hm.keeps h.an
  have e:(fun x=>(E' x).isSome)=fun x=>(E x).isSome:=funext hE
  rw [e];exact this
 refine ⟨Fn',hq,hm.keeps.mono fun b hb=>.inl (by simp [hb]),fun b hb=>?_,hq.lt⟩
 simp only [List.mem_cons,List.mem_append] at hb ⊢
 rcases hb with c|c|c
 .exact .inl (.inl c)
 .exact .inl (.inr (.inl c))
 .rcases hm.from' b c with d|d
  .exact .inl (.inr (.inr d))
  .exact .inr d
end
section
variable (w:World) (F:List Nat) (s k cap hs:Nat) (E:Ent) (q:Nat) (most:Int) (G:Nat->Nat)
def HeapDone (e:Ending) (w':World):Prop:=e=.returned (.tuple #[.int .i64 ((hs+1:Nat):Int),.int .i64 0])∧∃F',StoreAt w' F' s k cap (hs+1) E q most G∧Moved F w F' w'
theorem pq_newheap (c:StoreAt w F s k cap hs E q most G) (hh:hs<65536):Calls Tryz.prog 13 #[.pointer (some ⟨s,0,none⟩)] w (HeapDone w F s k cap hs E q most G):=by
 obtain ⟨pa,pn,Fa,Fn,c1,c2,rfl,h⟩:=c
 obtain ⟨fn,r,hm,hen,hc⟩:=n_make k w Fn pn cap hs E h.ne hh
 have hm:=hm w rfl
 have c3:=h.c3
 have hfin:∀w',nAft k w Fn pn cap (hs+1) E w'->HeapDone w (s::(Fa++Fn)) s k cap hs E q most G (.returned (.tuple #[.int .i64 ((hs+1:Nat):Int),.int .i64 0])) w':=fun w' a=>by
  obtain ⟨Fn',a1,a2⟩:=h.nest a (fun _=>rfl) h.sq h.uq
  exact ⟨rfl,_,⟨pa,pn,Fa,Fn',c1,c2,rfl,a1⟩,a2⟩
 have HF:=Lib.hid hfin
 have hz:(((hs+1:Nat):Int)==0)=false:=by rw [beq_eq_false_iff_ne];omega
 have hz2:((hs:Int)+1==0)=false:=by rw [beq_eq_false_iff_ne];omega
 clear hfin h
 go_enter Tryz.func13,Tryz.ntmps13
 go_wp2_with (refine hc.mono ?_;rintro e w' ⟨rfl,ha⟩)
 go_ret2
 exact HF.out _ ha
theorem pq_len (c:StoreAt w F s k cap hs E q most G) (h:Nat) (h1:1<=h) (h2:h<=hs):Calls Tryz.prog 37 #[.pointer (some ⟨s,0,none⟩),.int .i64 h] w fun e w'=>e=.returned (.tuple #[.int .i64 (count E cap h:Nat),.int .i64 0])∧w=w':=by
 obtain ⟨pa,pn,Fa,Fn,c1,c2,rfl,st⟩:=c
 obtain ⟨pc,Fc,d0,ce,_⟩:=st.ne.cells
 have hbh:=ce.ok.bh
 have hhas:=cells_has w Fc pc cap hs E ce h
 rw [decide_eq_true (by omega)] at hhas
 have hlen:=cells_len w Fc pc cap hs E ce h (by omega)
 have m1:=n_has_m k w pn pc d0
 have m2:=n_len_m k w pn pc d0
 have c3:=st.c3
 clear st ce d0
 generalize count E cap h=cn at *
 go_enter Tryz.func37,Tryz.ntmps37
 go_wp2_with (first
  | (go_at_call 301;refine hhas.mono ?_;rintro e w' ⟨rfl,rfl⟩)
  | (go_at_call 304;refine hlen.mono ?_;rintro e w' ⟨rfl,rfl⟩))
 go_ret2
 exact ⟨rfl,rfl⟩
end
end Go.Proofs.YtkdbjelhkfdfjaaGreatDoor

