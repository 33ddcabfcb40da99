/-
  The statement ScriptParses: for every input the call returns true. The texts: ScriptParsesRow.
-/
import Derived.Test.YtcoefgkjlgngkaaGreatDoorSPg40
import Derived.Test.YtcoefgkjlgngkaaGreatDoorSPg41
import Derived.ProofKit
import Derived.OpenShut
import Derived.Lib.SmallJoins
import Derived.ChangeMaps5
import Derived.LaidMore
import Derived.Lay
import Derived.Stop.Joined
import Derived.Lib.LaidTab
import Derived.SevenTiedAt
import Derived.Test.YtcoefgkjlgngkaaGreatDoorCards
import Derived.Test.YtcoefgkjlgngkaaGreatDoorSPg22
import Derived.Test.YtcoefgkjlgngkaaGreatDoorTie
namespace Go.Proofs.YtcoefgkjlgngkaaGreatDoor.scriptParsesRow
open Go.Proofs.YtcoefgkjlgngkaaGreatDoor
open Go.ChangeShapes Go.WideShapes Go.ChangeAt Go.RowKit Go.Joins
set_option linter.unusedVariables false
theorem own:ownKnob Tryz.prog.godebug=none:=by kernel_rfl
theorem laidOut:laidOutB Tryz.prog=true:=by kernel_rfl
set_option maxRecDepth 100000 in
theorem lifted (os:Os) (started:os.Started) (H:Type) (enc:TypeId × Value→H) :
  ReturnsInHanded {} Tryz.checked os 3 .any (λw args=>(Rows.scriptParsesSpec.pre enc Tryz.prog Tryz.f3 [] false w args∧laidMetH Tryz.prog L9 w)∧sizedMet enc Tryz.prog Tryz.f3 (OpenSpec.ofChange Rows.scriptParsesSpec) false w args)
   (Rows.scriptParsesSpec.post enc Tryz.prog Tryz.f3 false true false false):=by
 refine handed_shaped (C:=Tryz.checked) (X:=λw _=>laidMetH Tryz.prog L9 w) (λ_ _ _ hh h=>h.of_heap hh) own started (by kernel_rfl) Tryz.func3
  (ChangeSpec.witness_shaped (enc:=enc) (C:=Tryz.checked) (os:=os) (X:=λw _=>laidMetH Tryz.prog L9 w) false (World.laidAll Tryz.prog os L9) #[.string .empty] 8 (World.laidAll_os _ _ _) (World.shaped_of_ZipB (by kernel_rfl) (by kernel_rfl)) (by kernel_rfl) (by kernel_rfl) (by kernel_rfl) (scr_door os _)) ?_
 intro W base args ds gs before hval0 hW hL hsh
 have hval:∀ (j:Nat) t v,Tryz.f3.params[j]? = some t→args[j]? = some v→Value.okWide Tryz.prog W .any base t v:=hval0
 have hW':=hW
 obtain ⟨p,q,hA0,hV,rfl,hfz,hnd⟩:=hW
 have hA:DataW.TrodAll enc Tryz.prog W 0 (λ_=>true) true Tryz.f3.params.toList args.toList ds p:=hA0
 rw [Tryz.params3] at hA hval
 obtain ⟨v0,vs0,d0,ds0,p0,q0,hargs,rfl,rfl,h0,r0⟩:=trodAll_cons hA
 obtain ⟨rfl,rfl,rfl⟩:=trodAll_nil r0
 obtain rfl:args=#[v0]:=by cases args;simp_all
 obtain ⟨rfl,rfl⟩:=trodVars_none hV
 have k0:=h0
 have lt0:∀ x∈p0,x.block < W.heap.size:=by obtain ⟨m,hm⟩:=k0;exact DataW.trod_lt m _ _ _ hm
 obtain ⟨s0,rfl,rfl,rfl,w0⟩:=Go.ChangeMaps.open_string Tryz.underlying9 (hval 0 9 v0 rfl rfl) h0
 obtain ⟨l0,rfl⟩:∃ l,s0=Sy.bs l:=⟨_,(Sy.bs_data _).symm⟩
 have b0:l0.length≤maxLen:=by simpa using w0
 clear hA0 hval0
 refine (ScriptParses_walk l0 W (scrW_of hL hsh) b0).mono λe W' ⟨he,bel⟩=>?_
 subst he
 exact ⟨_,rfl,_,_,_,[],_,[],hW',trodAll_mk1 (shut_bool Tryz.underlying4 _),(trodAll_cons_mk (Below.trod laidOut (by kernel_rfl) (of_decide_eq_true (by kernel_rfl)) k0 bel lt0) trodAll_mk0),rfl,bel.frame _,λh=>by cases h⟩
theorem over:Rows.scriptParsesRow.holds Tryz.pinned (OpenSpec.ofChange Rows.scriptParsesSpec) :=
 OpenClaim.holds_of_wide 3 Tryz.f3 rfl rfl rfl rfl rfl rfl rfl ⟨rfl,rfl,rfl,rfl,rfl⟩ rfl rfl rfl rfl rfl (by kernel_rfl) Tryz.func3 scriptParsesFacts.closed
  (of_decide_eq_true (by kernel_rfl)) (by unfold Func.isWrapper;first|(rw [if_pos (by decide +kernel)];kernel_rfl)|(rw [if_neg (by decide +kernel)];exact ⟨rfl,rfl⟩))
  (λos started H enc _=>lifted os started H enc)
end Go.Proofs.YtcoefgkjlgngkaaGreatDoor.scriptParsesRow
namespace Go.Proofs.YtcoefgkjlgngkaaGreatDoor
theorem scriptParses_said:Rows.ScriptParsesSaid:=scriptParsesRow.over
theorem scriptParses_holds:Rows.ScriptParsesCardSaid :=
 Claim7.holds_tied_plain_at .later [] [.data,.data,.data,.data,.sentinel,.sentinel,.data,.data,.pinned] true _ true
  scriptParses_said (λ_ h=>by cases h) (by kernel_rfl) (λ_ h=>by cases h) scriptParses_row_tie rfl ⟨rfl,rfl⟩ (by kernel_rfl) rfl
  (λf fn hf hfn=>by
   obtain rfl : f = 3 := Option.some.inj ((show Tryz.prog.funcNamed "hachure/hachurelaw37.ScriptParses" = some 3 by kernel_rfl).symm.trans hf) |>.symm
   obtain rfl:fn=Tryz.f3:=(Option.some.inj (Tryz.func3.symm.trans hfn)).symm
   exact ⟨scriptParsesFacts.looks,λj t ht=>by
    rw [Tryz.params3] at ht
    have hm:t∈[9]:=by simpa using Array.mem_of_getElem? ht
    have hall:([9].all λu=>!Tryz.prog.wantsStandIn u)=true:=by kernel_rfl
    exact (show Tryz.prog.wantsStandIn t=false by simpa using List.all_eq_true.1 hall t hm)⟩)
  scriptParsesFacts.goes
#print axioms scriptParses_holds
end Go.Proofs.YtcoefgkjlgngkaaGreatDoor
