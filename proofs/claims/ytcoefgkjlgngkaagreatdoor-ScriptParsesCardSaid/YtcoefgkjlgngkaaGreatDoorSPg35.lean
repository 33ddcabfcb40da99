/-
  Texts of the proofs, one behind the other: ScQd.
-/
import Derived.Test.YtcoefgkjlgngkaaGreatDoorSPg33
import Derived.Test.YtcoefgkjlgngkaaGreatDoorSPg34
namespace Go.Proofs.YtcoefgkjlgngkaaGreatDoor
open Go.RowKit
open Sy
set_option linter.unusedVariables false
set_option linter.unusedSimpArgs false
set_option maxRecDepth 100000
set_option maxHeartbeats 4000000
theorem sRfPrint24 {R:HP} {q:OpA} {x:OpF} (ok:x.ok) (few:x.few) (hS:OpS R q x) (hk:x.o.kind=24):PureR Tryz.prog R 19 [opV q x] (.tuple #[.string (bs (lineF x)),.bool true]):=by
 have f2:=few.byts
 have l2:=hexW_len x.byts
 obtain ⟨⟨kind,x0,y0,x1,y1,ax,ay,bx,b_y,n,m⟩,vals,byts,bands⟩:=x
 have s2:=hS.byts
 unfold opV opCs opC
 simp only at *
 subst hk
 have a8:=wds_l1 (m:=70000) (z:=hexW byts) (by omega)
 have hv:=(verb_chars _ (verb_mem (k:=24) (by decide) (by decide))).2
 have hl:lineF (⟨⟨24,x0,y0,x1,y1,ax,ay,bx,b_y,n,m⟩,vals,byts,bands⟩:OpF)=verbT 24++wds 32 [hexW byts]:=by
  simp [lineF,opW,rectW,jn_cons,wds,w1]
 rw [hl]
 clear hl
 have hve:=λR'=>sVerb (R:=R') (k:=24) (by decide) (by decide)
 generalize verbT 24=z at *
 refine fn_of_run0 false Tryz.func19 rfl hmix rfl λw0=>?_
 conv=>whnf
 refine ⟨trivial,CallAt.pure (λR' hR'=>hve R') ?_⟩
 conv=>whnf
 repeat (first|(refine ⟨λ_=>?_,λh=>absurd h (by decide)⟩;conv=>whnf)|(refine ⟨λh=>absurd h (by decide),λ_=>?_⟩;conv=>whnf))
 refine ⟨trivial,CallAt.pure (λR' hR'=>sRfBytes byts rfl (by omega) (s2.mono λw s=>sat_base (hR' w s))) ?_⟩
 conv=>whnf
 refine ⟨(by (repeat' apply And.intro)<;>first|exact True.intro|(simp only [bs_append,bs_size,List.length_append];omega)|omega),fin_pure rfl ?_⟩
 simp only [bs_append]
 rfl
theorem sRfPrint27 {R:HP} {q:OpA} {x:OpF} (ok:x.ok) (few:x.few) (hS:OpS R q x) (hk:x.o.kind=27):∃ z,(∀ R1:HP,(∀ w,Sat R1 w→Sat R w)→PureR Tryz.prog R1 19 [opV q x] (.tuple #[.string (bs z),.bool (decide (RightL x.bands))]))∧(RightL x.bands→z=lineF x):=by
 have f3:=few.bands
 obtain ⟨⟨kind,x0,y0,x1,y1,ax,ay,bx,b_y,n,m⟩,vals,byts,bands⟩:=x
 have ko:=ok.o
 have kb:=ok.bands
 have s3:=hS.bands
 unfold opV opCs opC
 simp only at *
 subst hk
 have a6:(wds 32 [Lib.itoa x0,Lib.itoa y0,Lib.itoa x1,Lib.itoa y1]).length≤88:=wds_l4 ko.x0 ko.y0 ko.x1 ko.y1
 have hv:=(verb_chars _ (verb_mem (k:=27) (by decide) (by decide))).2
 have hve:=λR'=>sVerb (R:=R') (k:=27) (by decide) (by decide)
 have hri:=λ(R':HP) (h:∀ w,Sat R' w→Sat R w)=>sRRight (R:=R') (c:=q.c3) (by omega) (s3.mono h)
 obtain ⟨t,ht,hpr,hte⟩:∃ t:List UInt8,t.length≤1100∧(∀ R':HP,(∀ w,Sat R' w→Sat R w)→PureR Tryz.prog R' 39 [.slice q.A3 bands.length q.c3] (.string (bs t)))∧(RightL bands→t=printT bands):=by
  by_cases hR:RightL bands
  ·exact ⟨printT bands,by have:=printT_len hR;omega,λR' h=>sRPrint33 hR.2.1 (s3.mono h) hR.good,λ_=>rfl⟩
  ·exact ⟨printA bands,by have:=printA_le (l:=bands) λb hb=>(kb b hb).1;omega,λR' h=>sRPrint33Any (by omega) (s3.mono h) kb,λh=>absurd h hR⟩
 generalize decide (RightL bands)=rb at *
 refine ⟨verbT 27++wds 32 [Lib.itoa x0,Lib.itoa y0,Lib.itoa x1,Lib.itoa y1]++[32]++t,λR1 hR1=>?_,λh=>?_⟩
 rotate_left
 ·rw [hte h]
  simp [lineF,opW,rectW,jn_cons,wds]
 generalize verbT 27=z at *
 refine fn_of_run0 false Tryz.func19 rfl hmix rfl λw0=>?_
 conv=>whnf
 refine ⟨trivial,CallAt.pure (λR' hR'=>hve R') ?_⟩
 conv=>whnf
 repeat (first|(refine ⟨λ_=>?_,λh=>absurd h (by decide)⟩;conv=>whnf)|(refine ⟨λh=>absurd h (by decide),λ_=>?_⟩;conv=>whnf))
 refine ⟨trivial,RegAt.quiet hmix (by kernel_rfl) ?_⟩
 conv=>whnf
 refine ⟨trivial,CallQ.pure (λR' hR'=>sRfRect x0 y0 x1 y1 ko.x0 ko.y0 ko.x1 ko.y1) ?_⟩
 conv=>whnf
 rw [show (⟨#[32]⟩:ByteArray)=bs [32] from rfl]
 refine ⟨(by (repeat' apply And.intro)<;>first|exact True.intro|(simp only [bs_append,bs_size,List.length_append,List.length_cons,List.length_nil];omega)|omega),CallQ.pure (λR' hR'=>hpr R' λw s=>hR1 w (sat_base (hR' w s))) ?_⟩
 conv=>whnf
 refine ⟨(by (repeat' apply And.intro)<;>first|exact True.intro|(simp only [bs_append,bs_size,List.length_append,List.length_cons,List.length_nil];omega)|omega),CallQ.pure (λR' hR'=>hri R' λw s=>hR1 w (sat_base (hR' w s))) ?_⟩
 conv=>whnf
 refine ⟨(by (repeat' apply And.intro)<;>first|exact True.intro|(simp only [bs_append,bs_size,List.length_append,List.length_cons,List.length_nil];omega)|omega),?_⟩
 conv=>whnf
 refine ⟨(by (repeat' apply And.intro)<;>first|exact True.intro|(simp only [bs_append,bs_size,List.length_append,List.length_cons,List.length_nil];omega)|omega),fin_pure rfl ?_⟩
 simp only [bs_append]
 rfl
theorem sVerbOut {R:HP} {k:Int} (h:k < 1∨27 < k):PureR Tryz.prog R 15 [.int .i64 k] (.string (bs [])):=by
 refine fn_of_run0 false Tryz.func15 rfl hmix rfl λw0=>?_
 conv=>whnf
 refine ⟨trivial,OpAt.lit ((verbsL.drop 1).map λz=>.string (bs z)) 1 rfl rfl rfl rfl rfl (by decide) rfl rfl rfl (by simp [Value.cells,verbsL]) rfl (by decide) λg=>?_⟩
 conv=>whnf
 rcases h with h|h
 ·refine ⟨λg=>absurd h (of_decide_eq_false g),λ_=>?_⟩
  conv=>whnf
  exact ⟨trivial,fin_drop rfl⟩
 ·refine ⟨λ_=>?_,λg=>absurd (show k < 1 by simpa using g) (by omega)⟩
  conv=>whnf
  refine iff_t (decide_eq_true h) ?_
  conv=>whnf
  exact ⟨trivial,fin_drop rfl⟩
theorem sRfPrintOut {R:HP} {q:OpA} {x:OpF} (h:x.o.kind < 1∨27 < x.o.kind):PureR Tryz.prog R 19 [opV q x] (.tuple #[.string (bs []),.bool false]):=by
 obtain ⟨⟨kind,x0,y0,x1,y1,ax,ay,bx,b_y,n,m⟩,vals,byts,bands⟩:=x
 unfold opV opCs opC
 simp only at *
 refine fn_of_run0 false Tryz.func19 rfl hmix rfl λw0=>?_
 conv=>whnf
 refine ⟨trivial,CallAt.pure (λR' hR'=>sVerbOut h) ?_⟩
 conv=>whnf
 repeat (refine iff_f (decide_eq_false (by omega)) ?_;conv=>whnf)
 exact ⟨trivial,fin_pure rfl rfl⟩
theorem sRfPrintAll {R:HP} {q:OpA} {x:OpF} (ok:x.ok) (few:x.few) (hS:OpS R q x):∃ z,(∀ R1:HP,(∀ w,Sat R1 w→Sat R w)→PureR Tryz.prog R1 19 [opV q x] (.tuple #[.string (bs z),.bool (decide (HasLine x))]))∧(HasLine x→z=lineF x):=by
 by_cases h1:x.o.kind < 1∨27 < x.o.kind
 ·refine ⟨[],λR1 hR1=>?_,λh=>absurd h.1 (by have:=h.2.1;omega)⟩
  rw [decide_eq_false (show ¬ HasLine x from λh=>by have:=h.1;have:=h.2.1;omega)]
  exact sRfPrintOut h1
 by_cases h27:x.o.kind=27
 ·obtain ⟨z,hz,he⟩:=sRfPrint27 ok few hS h27
  refine ⟨z,λR1 hR1=>?_,λh=>he (h.2.2 h27)⟩
  rw [show decide (HasLine x)=decide (RightL x.bands) from decide_eq_decide.2 ⟨λh=>h.2.2 h27,λh=>⟨by omega,by omega,λ_=>h⟩⟩]
  exact hz R1 hR1
 refine ⟨lineF x,λR1 hR1=>?_,λ_=>rfl⟩
 have hS:=hS.mono hR1
 rw [decide_eq_true (show HasLine x from ⟨by omega,by omega,λh=>absurd h h27⟩)]
 by_cases h24:x.o.kind=24
 ·exact sRfPrint24 ok few hS h24
 by_cases k0:x.o.kind≤5
 ·exact sRfPrint0 ok few hS (by omega)
 by_cases k1:x.o.kind≤11
 ·exact sRfPrint1 ok few hS (by omega)
 by_cases k2:x.o.kind≤19
 ·exact sRfPrint2 ok few hS (by omega)
 ·exact sRfPrint3 ok few hS (by omega)
end Go.Proofs.YtcoefgkjlgngkaaGreatDoor
