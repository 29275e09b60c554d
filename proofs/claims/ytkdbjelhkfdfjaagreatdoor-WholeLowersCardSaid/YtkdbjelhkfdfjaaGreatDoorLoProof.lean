/-
  The statement: the given card of this law, whatever the input. Conditions: none.
-/
import Derived.Test.YtkdbjelhkfdfjaaGreatDoorLo47
import Derived.Test.YtkdbjelhkfdfjaaGreatDoorLo48
import Derived.Test.YtkdbjelhkfdfjaaGreatDoorLo49
import Derived.Test.YtkdbjelhkfdfjaaGreatDoorCards
import Derived.Test.YtkdbjelhkfdfjaaGreatDoorTie
import Derived.Lay
set_option linter.unusedVariables false
set_option maxRecDepth 100000
set_option maxHeartbeats 32000000
namespace Go.Proofs.YtkdbjelhkfdfjaaGreatDoor.wholeLowers
open Go.ChangeShapes Go.WideShapes Go.ChangeAt Go.RowKit
theorem own:ownKnob Tryz.prog.godebug=none:=by kernel_rfl
theorem laidOut:laidOutB Tryz.prog=true:=by kernel_rfl
theorem lifted (os:Os) (started:os.Started) (H:Type) (enc:TypeId×Value->H) :
  ReturnsInHanded {} Tryz.checked os 6 .any (fun w args=>(Rows.wholeLowersSpec.pre enc Tryz.prog Tryz.f6 [] false w args∧laidMetH Tryz.prog Rows.wholeLowersRow.laid w)∧sizedMet enc Tryz.prog Tryz.f6 (OpenSpec.ofChange Rows.wholeLowersSpec) false w args)
   (Rows.wholeLowersSpec.post enc Tryz.prog Tryz.f6 false true false false):=by
 refine returnsInHanded_of_change_and (C:=Tryz.checked) (X:=fun w _=>laidMetH Tryz.prog Rows.wholeLowersRow.laid w) (fun _ _ _ hh h=>h.of_heap hh) own started (by kernel_rfl) Tryz.func6
  (ChangeSpec.witness_shaped (enc:=enc) (C:=Tryz.checked) (os:=os) (X:=fun w _=>laidMetH Tryz.prog Rows.wholeLowersRow.laid w) false (World.laidAll Tryz.prog os Rows.wholeLowersRow.laid) #[.agg #[.int .i64 0,.int .i64 0],.slice none 0 0,.slice none 0 0] 8 (World.laidAll_os _ _ _)
   (World.shaped_of_ZipB (by kernel_rfl) (by kernel_rfl)) (by kernel_rfl) (by kernel_rfl) (by kernel_rfl)
   (by rw [MakeChecks.laidMetH_plain _ _ _ (by kernel_rfl)];exact laidMet_laidAll _ (by kernel_rfl) (by kernel_rfl))) ?_
 intro W base args ds gs before hval0 hW _ _ hL _
 have hval:∀(j:Nat) t v,Tryz.f6.params[j]?=some t->args[j]?=some v->Value.okWide Tryz.prog W .any base t v:=hval0
 have hW':=hW
 obtain ⟨p,q,hA0,hV,rfl,hfz,hnd⟩:=hW
 have hA:DataW.TrodAll enc Tryz.prog W 0 (fun _=>true) true Tryz.f6.params.toList args.toList ds p:=hA0
 rw [Tryz.params6] at hA hval
 obtain ⟨v0,vs0,d0,ds0,p0,q0,hargs,rfl,rfl,h0,r0⟩:=trodAll_cons hA
 obtain ⟨v1,vs1,d1,ds1,p1,q1,rfl,rfl,rfl,h1,r1⟩:=trodAll_cons r0
 obtain ⟨v2,vs2,d2,ds2,p2,q2,rfl,rfl,rfl,h2,r2⟩:=trodAll_cons r1
 obtain ⟨rfl,rfl,rfl⟩:=trodAll_nil r2
 obtain rfl:args=#[v0,v1,v2]:=by cases args;simp_all
 obtain ⟨rfl,rfl⟩:=trodVars_none hV
 obtain ⟨a0,b0,rfl,_,_⟩:=open_config (hval 0 23 v0 rfl rfl) h0
 have k0:=h0
 have lt0:∀x∈p0,x.block<W.heap.size:=by obtain ⟨m,hm⟩:=k0;exact DataW.trod_lt m _ _ _ hm
 have k1:=h1
 have lt1:∀x∈p1,x.block<W.heap.size:=by obtain ⟨m,hm⟩:=k1;exact DataW.trod_lt m _ _ _ hm
 have k2:=h2
 have lt2:∀x∈p2,x.block<W.heap.size:=by obtain ⟨m,hm⟩:=k2;exact DataW.trod_lt m _ _ _ hm
 obtain ⟨ad1,len1,cap1,C1,rfl,hl1,hm1,hE1,hr1⟩:∃a len cap C,v1=.slice a len cap∧len<=cap∧cap<=maxLen∧(∀i,i<len->KeyCells (C i))∧IsRows W 1 a len C:=by
  obtain ⟨a,len,cap,rfl⟩:=okWide_slice Tryz.underlying25 (hval 1 25 v1 rfl rfl)
  obtain ⟨fuel,hf⟩:=h1
  exact open_rows KeyCells Tryz.underlying25 (by kernel_rfl) (by decide) (fun n cs y h=>key_cells h) (by simpa [Value.cells] using hf)
 obtain ⟨ad2,len2,cap2,C2,rfl,hl2,hm2,hE2,hr2⟩:∃a len cap C,v2=.slice a len cap∧len<=cap∧cap<=maxLen∧(∀i,i<len->KeyCells (C i))∧IsRows W 1 a len C:=by
  obtain ⟨a,len,cap,rfl⟩:=okWide_slice Tryz.underlying25 (hval 2 25 v2 rfl rfl)
  obtain ⟨fuel,hf⟩:=h2
  exact open_rows KeyCells Tryz.underlying25 (by kernel_rfl) (by decide) (fun n cs y h=>key_cells h) (by simpa [Value.cells] using hf)
 obtain ⟨keys,rfl,hk⟩:=keys_in (cap:=cap1) hE1 hr1
 obtain ⟨lower,rfl,hk'⟩:=keys_in (cap:=cap2) hE2 hr2
 clear hA0 hval0
 refine (wholeLowers_calls W a0 b0 ad1 ad2 cap1 cap2 keys lower hk hk').mono fun e W' ⟨he,bel⟩=>?_
 subst he
 have bel:Below W.heap.size W W':=bel.below (Nat.le_refl _) (fun _ h=>by cases h)
 exact ⟨_,rfl,_,_,_,[],_,[],hW',trodAll_mk1 (shut_bool Tryz.underlying4 _),trodAll_cons_mk (Below.trod laidOut (by kernel_rfl) (of_decide_eq_true (by kernel_rfl)) k0 bel lt0) (trodAll_cons_mk (Below.trod laidOut (by kernel_rfl) (of_decide_eq_true (by kernel_rfl)) k1 bel lt1) (trodAll_cons_mk (Below.trod laidOut (by kernel_rfl) (of_decide_eq_true (by kernel_rfl)) k2 bel lt2) (trodAll_mk0))),rfl,bel.frame _,fun h=>by cases h⟩
theorem over:Rows.wholeLowersRow.holds Tryz.pinned (OpenSpec.ofChange Rows.wholeLowersSpec) :=
 OpenClaim.holds_of_wide 6 Tryz.f6 rfl rfl rfl rfl rfl rfl rfl ⟨rfl,rfl,rfl,rfl,rfl⟩ rfl rfl rfl rfl rfl c_named Tryz.func6 facts
  c_inst c_wrap
  (fun os started H enc _=>lifted os started H enc)
theorem proved:Rows.WholeLowersCardSaid :=
 Claim7.holds_tied_plain_at .later [] [.data,.data,.data,.data,.sentinel,.sentinel,.pinned] true (true,"d470e6cf01acc4469e69859f3a47ae2163f2e46302223d341c5752ab236b23b9") true
  over (fun _ h=>by cases h) c_wf (fun _ h=>by cases h) wholeLowers_row_tie rfl ⟨rfl,rfl⟩ c_main rfl
  (fun f fn hf hfn=>by
   obtain rfl:f=6:=Option.some.inj (c_named.symm.trans hf) |>.symm
   obtain rfl:fn=Tryz.f6:=(Option.some.inj (Tryz.func6.symm.trans hfn)).symm
   exact ⟨c_looks,fun j t ht=>by
    rw [Tryz.params6] at ht
    have hm:t∈[23,25,25]:=by simpa using Array.mem_of_getElem? ht
    simpa using List.all_eq_true.1 c_stand t hm⟩)
  c_goes
#print axioms proved
end Go.Proofs.YtkdbjelhkfdfjaaGreatDoor.wholeLowers

