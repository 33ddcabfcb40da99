/-
  Texts of the proofs, one behind the other: ScriptParses.
-/
import Derived.Test.YtcoefgkjlgngkaaGreatDoorSPg37
import Derived.Test.YtcoefgkjlgngkaaGreatDoorSPg39
import Derived.Test.YtcoefgkjlgngkaaGreatDoorSPg36
namespace Go.Proofs.YtcoefgkjlgngkaaGreatDoor
open Go.RowKit
open Sy
set_option linter.unusedVariables false
set_option linter.unusedSimpArgs false
set_option maxRecDepth 100000
set_option maxHeartbeats 4000000
theorem opS_zero {R:HP} {o:OpN}:OpS R qNil ⟨o,[],[],[]⟩:=⟨Sl.nil _ _ _,Sl.nil _ _ _,Sl.nil _ _ _,⟨Nat.le_refl _,Nat.zero_le _⟩,⟨Nat.le_refl _,Nat.zero_le _⟩,⟨Nat.le_refl _,Nat.zero_le _⟩⟩
theorem sScriptParses {R:HP} {s:List UInt8} (hW:∀ w,Sat R w→ScrW w) (hlm:s.length≤maxLen):PureR Tryz.prog R 3 [.string (bs s)] (.bool true):=by
 have hR:∀ w,Sat R w→ReadW w:=λw s=>by
  obtain ⟨h1,⟨m,hm⟩,_⟩:=hW w s
  exact ⟨h1,⟨m,(Blk.cell hm 0).trans rfl⟩⟩
 have hV:∀ w,Sat R w→VerbsW w:=λw s=>(hW w s).verbs
 by_cases hl:3000 < s.length
 ·refine fn_of_run0 false Tryz.func3 rfl hmix rfl λw0=>?_
  conv=>whnf
  refine ⟨trivial,CallAt.pure (λR' hR'=>sAwake37 λw hw=>hW w (sat_base (hR' w hw))) ?_⟩
  conv=>whnf
  repeat (first|(refine ⟨λ_=>?_,λh=>absurd h (by decide)⟩;conv=>whnf)|(refine ⟨λh=>absurd h (by decide),λ_=>?_⟩;conv=>whnf))
  refine iff_t (decide_eq_true (by rw [bs_size];omega)) ?_
  conv=>whnf
  exact ⟨trivial,fin_drop rfl⟩
 have hl:s.length≤3000:=by omega
 have hdoc:=λ(R':HP)=>sRfParse (R:=R') hl
 by_cases hex:∃ y,LineOf y s
 ·obtain ⟨y,hy⟩:=hex
  have hfew:=hy.few hl
  obtain ⟨ok,hL,hn,hline⟩:=hy
  have few:y.few:=⟨hfew.1,hfew.2.1,by omega⟩
  have hpa:=λ(R':HP) (h:∀ w,Sat R' w→Sat R w)=>sParseYes (R:=R') (s:=s) (λw s=>hV w (h w s)) (λw s=>(hR w (h w s)).2) (by omega) (by rw [← hline];exact line_pcs hL) (by rw [kd_verb hL.1 hL.2.1];have:=hL.1;omega) rfl (partsN (λw s=>hR w (h w s)) ok few hL)
  have hpr:=λ(R':HP) (h:∀ w,Sat R' w→Sat R w) q (hS:OpS R' q y)=>sScPrintYes (R:=R') (λw s=>hR w (h w s)) (λw s=>hV w (h w s)) ok few hL hS
  unfold QN at hpa
  rw [hn] at hpa
  have huniq:∀ y',LineOf y' s→y'=y:=λy' hy'=>by
   have p1:=line_pcs hL
   have p2:=line_pcs hy'.2.1
   rw [hline] at p1
   rw [hy'.2.2.2,p1] at p2
   injection p2 with e1 e2
   have k1:=kd_verb hL.1 hL.2.1
   rw [e1,kd_verb hy'.2.1.1 hy'.2.1.2.1] at k1
   have g1:=guess_line hL hn ok []
   have g2:=guess_line hy'.2.1 hy'.2.2.1 hy'.1 []
   rw [← k1,e2,g2] at g1
   exact g1
  refine fn_of_run0 false Tryz.func3 rfl hmix rfl λw0=>?_
  conv=>whnf
  refine ⟨trivial,CallAt.pure (λR' hR'=>sAwake37 λw hw=>hW w (sat_base (hR' w hw))) ?_⟩
  conv=>whnf
  repeat (first|(refine ⟨λ_=>?_,λh=>absurd h (by decide)⟩;conv=>whnf)|(refine ⟨λh=>absurd h (by decide),λ_=>?_⟩;conv=>whnf))
  refine iff_f (decide_eq_false (by rw [bs_size];omega)) ?_
  conv=>whnf
  refine ⟨trivial,CallAt.fn (pre:=[]) _ (λh s=>s) (λR' hR'=>hpa R' λw s=>sat_base (hR' w s)) ?_⟩
  rintro r hs ⟨q,y1,rfl,rfl,H1,rfl,hH1⟩
  have hS1:=λR' (h:∀ w,Sat R' w→Sat H1 w)=>hH1 R' h
  unfold opCs opC
  conv=>whnf
  refine ⟨trivial,CallAt.fn (pre:=[]) _ (λh s=>s) (λR' hR'=>hdoc R') ?_⟩
  rintro r hs ⟨q2,y2,b,rfl,⟨H2,rfl,hH2⟩,hb⟩
  rcases hb with ⟨rfl,hy2⟩|⟨rfl,-,hno⟩
  rotate_left
  ·exact absurd ⟨ok,hL,hn,hline⟩ (hno _)
  obtain rfl:=huniq y2 hy2
  unfold opCs opC
  conv=>whnf
  repeat (first|(refine ⟨λ_=>?_,λh=>absurd h (by decide)⟩;conv=>whnf)|(refine ⟨λh=>absurd h (by decide),λ_=>?_⟩;conv=>whnf))
  refine ⟨trivial,CallAt.fn (pre:=[]) _ (λh s=>s) (λR' hR'=>hpr R' (λw s=>sat_base (hR' w s)) q (hH1 R' λw s=>(hR' w s).in_ 1 rfl)) ?_⟩
  rintro r hs ⟨rfl,rfl⟩
  rw [hline]
  conv=>whnf
  repeat (first|(refine ⟨λ_=>?_,λh=>absurd h (by decide)⟩;conv=>whnf)|(refine ⟨λh=>absurd h (by decide),λ_=>?_⟩;conv=>whnf))
  refine ⟨trivial,CallAt.pure (λR' hR'=>sSameOp (q:=q) (r:=q2) (x:=y2) (hH1 R' λw s=>(hR' w s).in_ 1 rfl) (hH2 R' λw s=>(hR' w s).in_ 0 rfl) (by omega)) ?_⟩
  conv=>whnf
  repeat (first|(refine ⟨λ_=>?_,λh=>absurd h (by decide)⟩;conv=>whnf)|(refine ⟨λh=>absurd h (by decide),λ_=>?_⟩;conv=>whnf))
  refine ⟨trivial,fin_drop ?_⟩
  simp [mkRes]
 ·have hth:=(parse_or hR hV hl).resolve_left hex
  have hpa:=λ(R':HP) (h:∀ w,Sat R' w→Sat R w)=>sParseNo (R:=R') (s:=bs s) λR2 h2=>hth R2 λw s=>h w (h2 w s)
  have hno:∀ y,¬ LineOf y s:=λy hy=>hex ⟨y,hy⟩
  refine fn_of_run0 false Tryz.func3 rfl hmix rfl λw0=>?_
  conv=>whnf
  refine ⟨trivial,CallAt.pure (λR' hR'=>sAwake37 λw hw=>hW w (sat_base (hR' w hw))) ?_⟩
  conv=>whnf
  repeat (first|(refine ⟨λ_=>?_,λh=>absurd h (by decide)⟩;conv=>whnf)|(refine ⟨λh=>absurd h (by decide),λ_=>?_⟩;conv=>whnf))
  refine iff_f (decide_eq_false (by rw [bs_size];omega)) ?_
  conv=>whnf
  refine ⟨trivial,CallAt.fn (pre:=[]) _ (λh s=>s) (λR' hR'=>hpa R' λw s=>sat_base (hR' w s)) ?_⟩
  rintro r hs ⟨rfl,rfl⟩
  unfold opZ opC
  conv=>whnf
  refine ⟨trivial,CallAt.fn (pre:=[]) _ (λh s=>s) (λR' hR'=>hdoc R') ?_⟩
  rintro r hs ⟨q2,y2,b,rfl,⟨H2,rfl,hH2⟩,hb⟩
  rcases hb with ⟨rfl,hy2⟩|⟨rfl,rfl,-⟩
  ·exact absurd hy2 (hno _)
  unfold opCs opC
  conv=>whnf
  repeat (first|(refine ⟨λ_=>?_,λh=>absurd h (by decide)⟩;conv=>whnf)|(refine ⟨λh=>absurd h (by decide),λ_=>?_⟩;conv=>whnf))
  refine ⟨trivial,CallAt.pure (λR' hR'=>sSameOp (q:=qNil) (r:=qNil) (x:=⟨⟨0,0,0,0,0,0,0,0,0,0,0⟩,[],[],[]⟩) opS_zero opS_zero (by simp)) ?_⟩
  conv=>whnf
  exact ⟨trivial,fin_drop rfl⟩
theorem ScriptParses_walk (s:List UInt8) (w:World) (hW:ScrW w) (hl:s.length≤maxLen) :
  Calls Tryz.prog 3 #[.string (bs s)] w λe w'=>e=.returned (.bool true)∧Below w.heap.size w w' :=
 PureR.below (args:=[.string (bs s)]) (sScriptParses (R:=was w) (λw' h=>scrW_was hW h) hl)
end Go.Proofs.YtcoefgkjlgngkaaGreatDoor
