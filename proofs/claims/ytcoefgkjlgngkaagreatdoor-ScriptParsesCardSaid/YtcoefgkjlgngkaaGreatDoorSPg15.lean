/-
  Texts of the proofs, one behind the other: TintI.
-/
import Derived.Test.YtcoefgkjlgngkaaGreatDoorSPg14
namespace Go.Proofs.YtcoefgkjlgngkaaGreatDoor
open Go.RowKit
open Sy
set_option linter.unusedVariables false
set_option linter.unusedSimpArgs false
set_option maxRecDepth 100000
set_option maxHeartbeats 4000000
theorem sWriteRune {R:HP} {b:Nat} {l:List UInt8} (x:Nat) (hx:SignN x) (hl:l.length≤1000000) :
  FnR Tryz.prog R 79 [.pointer (some ⟨b,0,none⟩),.int .i32 (x:Int)] [bldH b l] λr hs=>r=.tuple #[.int .i64 ((utfN x).length:Int),.nilIface]∧hs=[bldH b (l++utfN x)]:=by
 refine FnR.unbox λ⟨u,A,c⟩=>?_
 rw [List.append_nil]
 have hcc:∀ R',FnR Tryz.prog R' 64 [.pointer (some ⟨b,0,none⟩)] [bldHd b u (.slice A l.length c)] λr hs=>r=.tuple #[]∧hs=[bldHd b true (.slice A l.length c)]:=λR'=>by
  cases u
  ·exact sCopyCheckF
  ·exact sCopyCheckU
 have hul:=utfN_len x
 refine fn_of_run0 false Tryz.func79 rfl hmix rfl λw0=>?_
 conv=>whnf
 refine ⟨trivial,CallAt.fn (pre:=[bldHd b u (.slice A l.length c)]) _ (λh s=>s) (λR' hR'=>hcc R') ?_⟩
 rintro r hs ⟨rfl,rfl⟩
 conv=>whnf
 refine ⟨trivial,LoadAt.cell (.slice A l.length c) rfl rfl (λw hw=>(blk_sat (show Sat (bldHd b true (.slice A l.length c)) w from hw.in_ 0 rfl)).cell 1) ?_⟩
 conv=>whnf
 refine ⟨trivial,LoadAt.cell (.slice A l.length c) rfl rfl (λw hw=>(blk_sat (show Sat (bldHd b true (.slice A l.length c)) w from hw.in_ 0 rfl)).cell 1) ?_⟩
 conv=>whnf
 refine ⟨trivial,CallAt.fn (pre:=[rowH (.slice A l.length c) l.length 5 1 (byV l)]) _ (λh s=>sepL_pull 1 s) (λR' hR'=>sAppendRune x hx hl) ?_⟩
 rintro r hs ⟨A',c',rfl,rfl⟩
 conv=>whnf
 refine ⟨trivial,OpAt.store b 1 (.slice A' (l.length+(utfN x).length) c') _ rfl (λh s=>sepL_pull 1 s) rfl rfl rfl rfl rfl (by simp [Value.cells,Value.oneCell']) (λh r=>blk_put (by show 1+1≤2;omega) r) ?_⟩
 conv=>whnf
 refine ⟨trivial,LoadAt.cell (.slice A' (l.length+(utfN x).length) c') rfl rfl (λw hw=>(blk_sat (show Sat (bldHd b true (.slice A' (l.length+(utfN x).length) c')) w from hw.in_ 0 rfl)).cell 1) ?_⟩
 conv=>whnf
 have e1:((l.length+(utfN x).length:Nat):Int) - (l.length:Int)=((utfN x).length:Int):=by omega
 rw [e1]
 refine ⟨⟨trivial,by unfold rng;omega⟩,.mk [bldH b (l++utfN x)] (λw ⟨h,hs,s⟩=>⟨h,hs,boxH_shut (parts:=bldP b (l++utfN x)) (true,A',c') ?_⟩) ⟨rfl,rfl⟩⟩
 rw [List.append_nil]
 unfold bldP
 rw [List.length_append]
 have e:byV (l++utfN x)=byV l++byV (utfN x):=List.map_append
 rw [e]
 exact s
end Go.Proofs.YtcoefgkjlgngkaaGreatDoor
