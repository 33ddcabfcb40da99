/-
  Texts of the proofs, one behind the other: ScPb, ScPd, ScPf, SyDefer3, SyDefer4.
-/
import Derived.Test.YtcoefgkjlgngkaaGreatDoorSPg13
import Derived.Test.YtcoefgkjlgngkaaGreatDoorSPg10
import Derived.Test.YtcoefgkjlgngkaaGreatDoorSPg16
import Derived.Test.YtcoefgkjlgngkaaGreatDoorSPg22
import Derived.Test.YtcoefgkjlgngkaaGreatDoorSPg17
import Derived.Test.YtcoefgkjlgngkaaGreatDoorSPg03
namespace Go.Proofs.YtcoefgkjlgngkaaGreatDoor
open Go.RowKit
open Sy
set_option linter.unusedVariables false
set_option linter.unusedSimpArgs false
set_option maxRecDepth 100000
set_option maxHeartbeats 4000000
theorem sPartsNM {R:HP} {lb ob:Nat} {o:OpN} {v1 v2 v3:Value} (hN:∀ w,Sat R w→NumW w) (ws:List (List UInt8)) (hw:ws.length≤1000) (ok:o.ok) (hk:o.kind=1∨o.kind=17) :
  FnR Tryz.prog R 23 [.pointer (some ⟨lb,0,none⟩),.pointer (some ⟨ob,0,none⟩)] [lnH lb ws,blkH ob 31 (opC o v1 v2 v3)] λr hs=>r=.tuple #[]∧hs=[lnH lb (ws++[Lib.itoa o.n,Lib.itoa o.m]),blkH ob 31 (opC o v1 v2 v3)]:=by
 unfold opC
 rcases hk with hk|hk
 all_goals
  rw [hk]
  refine fn_of_run0 false Tryz.func23 rfl hmix rfl λw0=>?_
  conv=>whnf
  refine ⟨trivial,LoadAt.cell _ rfl rfl (λw hw=>blk_cell (hw.in_ 1 rfl) rfl) ?_⟩
  conv=>whnf
  repeat (first|(refine ⟨λ_=>?_,λh=>absurd h (by decide)⟩;conv=>whnf)|(refine ⟨λh=>absurd h (by decide),λ_=>?_⟩;conv=>whnf))
  refine ⟨trivial,RegAt.groups [([.T 0,.T 1,.T 2,.T 3,.T 4,.T 5,.T 6,.H 7],8),([.H 8],9)] hmix (by kernel_rfl) ?_⟩
  conv=>whnf
  refine ⟨trivial,OpAt.lit (ptrV ob [(9,o.n),(10,o.m)]) 1 rfl rfl rfl rfl rfl (by decide) rfl rfl rfl (by simp [Value.cells]) rfl (by decide) λg=>?_⟩
  conv=>whnf
  refine ⟨trivial,⟨⟨rfl,rfl⟩,λh s=>sub_tail s⟩,?_⟩
  conv=>whnf
  refine ⟨trivial,CallAt.fn (pre:=[lnH lb (ws),blkH ob 31 _]) _ (λh s=>sepL_perm (List.Perm.trans (List.Perm.swap _ _ _) ((List.Perm.swap _ _ _).cons _)) s) (λR' hR'=>sNumbers (λw s=>hN w (Sat.rest (hR' w s))) (ws) [(9,o.n),(10,o.m)] rfl (by decide) (by first|omega|(simp;omega)) (Sl.row λw s=>(hR' w s).in_ 0 rfl) (λp hp=>?_)) ?_⟩
  ·simp only [List.mem_cons,List.not_mem_nil,or_false] at hp
   rcases hp with rfl|rfl
   ·exact ⟨rfl,ok.n⟩
   ·exact ⟨rfl,ok.m⟩
  rintro r hs ⟨rfl,rfl⟩
  conv=>whnf
  refine ⟨trivial,?_⟩
  conv=>whnf
  refine ⟨trivial,.mk [lnH lb (ws++[Lib.itoa o.n,Lib.itoa o.m]),blkH ob 31 _] (λw ⟨h,hs,s⟩=>by obtain ⟨h',e,s2⟩:=sub_front (m:=[lnH lb (ws++[Lib.itoa o.n,Lib.itoa o.m]),blkH ob 31 _]) s;exact ⟨h',hs.mono e,s2⟩) ⟨rfl,?_⟩⟩
  simp
theorem sPartsView {R:HP} {lb ob:Nat} {o:OpN} {v1 v2 v3:Value} (hN:∀ w,Sat R w→NumW w) (ws:List (List UInt8)) (hw:ws.length≤1000) (ok:o.ok) (hk:o.kind=13) :
  FnR Tryz.prog R 23 [.pointer (some ⟨lb,0,none⟩),.pointer (some ⟨ob,0,none⟩)] [lnH lb ws,blkH ob 31 (opC o v1 v2 v3)] λr hs=>r=.tuple #[]∧hs=[lnH lb (ws++([Lib.itoa o.ax,Lib.itoa o.ay]++[Lib.itoa o.n,Lib.itoa o.m,Lib.itoa o.bx])),blkH ob 31 (opC o v1 v2 v3)]:=by
 unfold opC
 rcases hk with hk
 all_goals
  rw [hk]
  refine fn_of_run0 false Tryz.func23 rfl hmix rfl λw0=>?_
  conv=>whnf
  refine ⟨trivial,LoadAt.cell _ rfl rfl (λw hw=>blk_cell (hw.in_ 1 rfl) rfl) ?_⟩
  conv=>whnf
  repeat (first|(refine ⟨λ_=>?_,λh=>absurd h (by decide)⟩;conv=>whnf)|(refine ⟨λh=>absurd h (by decide),λ_=>?_⟩;conv=>whnf))
  refine ⟨trivial,CallAt.fn (pre:=[lnH lb ws,blkH ob 31 _]) _ (λh s=>s) (λR' hR'=>sCell (λw s=>hN w (Sat.rest (hR' w s))) ws 5 o.ax o.ay (by first|omega|(simp;omega)) rfl rfl ok.ax ok.ay) ?_⟩
  rintro r hs ⟨rfl,rfl⟩
  conv=>whnf
  refine ⟨trivial,RegAt.groups [([.T 0,.T 1,.T 2,.T 3,.T 4,.T 5,.T 6,.T 7,.T 8,.T 9,.T 10,.H 11],12),([.H 12],13)] hmix (by kernel_rfl) ?_⟩
  conv=>whnf
  refine ⟨trivial,OpAt.lit (ptrV ob [(9,o.n),(10,o.m),(7,o.bx)]) 1 rfl rfl rfl rfl rfl (by decide) rfl rfl rfl (by simp [Value.cells]) rfl (by decide) λg=>?_⟩
  conv=>whnf
  refine ⟨trivial,⟨⟨rfl,rfl⟩,λh s=>sub_tail s⟩,?_⟩
  conv=>whnf
  refine ⟨trivial,CallAt.fn (pre:=[lnH lb (ws++[Lib.itoa o.ax,Lib.itoa o.ay]),blkH ob 31 _]) _ (λh s=>sepL_perm (List.Perm.trans (List.Perm.swap _ _ _) ((List.Perm.swap _ _ _).cons _)) s) (λR' hR'=>sNumbers (λw s=>hN w (Sat.rest (hR' w s))) (ws++[Lib.itoa o.ax,Lib.itoa o.ay]) [(9,o.n),(10,o.m),(7,o.bx)] rfl (by decide) (by first|omega|(simp;omega)) (Sl.row λw s=>(hR' w s).in_ 0 rfl) (λp hp=>?_)) ?_⟩
  ·simp only [List.mem_cons,List.not_mem_nil,or_false] at hp
   rcases hp with rfl|rfl|rfl
   ·exact ⟨rfl,ok.n⟩
   ·exact ⟨rfl,ok.m⟩
   ·exact ⟨rfl,ok.bx⟩
  rintro r hs ⟨rfl,rfl⟩
  conv=>whnf
  refine ⟨trivial,?_⟩
  conv=>whnf
  refine ⟨trivial,.mk [lnH lb (ws++[Lib.itoa o.ax,Lib.itoa o.ay]++[Lib.itoa o.n,Lib.itoa o.m,Lib.itoa o.bx]),blkH ob 31 _] (λw ⟨h,hs,s⟩=>by obtain ⟨h',e,s2⟩:=sub_front (m:=[lnH lb (ws++[Lib.itoa o.ax,Lib.itoa o.ay]++[Lib.itoa o.n,Lib.itoa o.m,Lib.itoa o.bx]),blkH ob 31 _]) s;exact ⟨h',hs.mono e,s2⟩) ⟨rfl,?_⟩⟩
  simp
theorem sPartsSight {R:HP} {lb ob:Nat} {o:OpN} {v1 v2 v3:Value} (hN:∀ w,Sat R w→NumW w) (ws:List (List UInt8)) (hw:ws.length≤1000) (ok:o.ok) (hk:o.kind=12) :
  FnR Tryz.prog R 23 [.pointer (some ⟨lb,0,none⟩),.pointer (some ⟨ob,0,none⟩)] [lnH lb ws,blkH ob 31 (opC o v1 v2 v3)] λr hs=>r=.tuple #[]∧hs=[lnH lb (ws++([Lib.itoa o.ax,Lib.itoa o.ay]++[Lib.itoa o.n]++[Lib.itoa o.bx,Lib.itoa o.b_y]++[Lib.itoa o.m])),blkH ob 31 (opC o v1 v2 v3)]:=by
 unfold opC
 rcases hk with hk
 all_goals
  rw [hk]
  refine fn_of_run0 false Tryz.func23 rfl hmix rfl λw0=>?_
  conv=>whnf
  refine ⟨trivial,LoadAt.cell _ rfl rfl (λw hw=>blk_cell (hw.in_ 1 rfl) rfl) ?_⟩
  conv=>whnf
  repeat (first|(refine ⟨λ_=>?_,λh=>absurd h (by decide)⟩;conv=>whnf)|(refine ⟨λh=>absurd h (by decide),λ_=>?_⟩;conv=>whnf))
  refine ⟨trivial,CallAt.fn (pre:=[lnH lb ws,blkH ob 31 _]) _ (λh s=>s) (λR' hR'=>sCell (λw s=>hN w (Sat.rest (hR' w s))) ws 5 o.ax o.ay (by first|omega|(simp;omega)) rfl rfl ok.ax ok.ay) ?_⟩
  rintro r hs ⟨rfl,rfl⟩
  conv=>whnf
  refine ⟨trivial,OpAt.lit (ptrV ob [(9,o.n)]) 1 rfl rfl rfl rfl rfl (by decide) rfl rfl rfl (by simp [Value.cells]) rfl (by decide) λg=>?_⟩
  conv=>whnf
  refine ⟨trivial,CallAt.fn (pre:=[lnH lb (ws++[Lib.itoa o.ax,Lib.itoa o.ay]),blkH ob 31 _]) _ (λh s=>sepL_perm (List.Perm.trans (List.Perm.swap _ _ _) ((List.Perm.swap _ _ _).cons _)) s) (λR' hR'=>sNumbers (λw s=>hN w (Sat.rest (hR' w s))) (ws++[Lib.itoa o.ax,Lib.itoa o.ay]) [(9,o.n)] rfl (by decide) (by first|omega|(simp;omega)) (Sl.row λw s=>(hR' w s).in_ 0 rfl) (λp hp=>by simp at hp;subst hp;exact ⟨rfl,ok.n⟩)) ?_⟩
  rintro r hs ⟨rfl,rfl⟩
  conv=>whnf
  refine ⟨trivial,CallAt.fn (pre:=[lnH lb (ws++[Lib.itoa o.ax,Lib.itoa o.ay]++[Lib.itoa o.n]),blkH ob 31 _]) _ (λh s=>s) (λR' hR'=>sCell (λw s=>hN w (Sat.rest (hR' w s))) (ws++[Lib.itoa o.ax,Lib.itoa o.ay]++[Lib.itoa o.n]) 7 o.bx o.b_y (by first|omega|(simp;omega)) rfl rfl ok.bx ok.b_y) ?_⟩
  rintro r hs ⟨rfl,rfl⟩
  conv=>whnf
  refine ⟨trivial,OpAt.lit (ptrV ob [(10,o.m)]) 1 rfl rfl rfl rfl rfl (by decide) rfl rfl rfl (by simp [Value.cells]) rfl (by decide) λg=>?_⟩
  conv=>whnf
  refine ⟨trivial,CallAt.fn (pre:=[lnH lb (ws++[Lib.itoa o.ax,Lib.itoa o.ay]++[Lib.itoa o.n]++[Lib.itoa o.bx,Lib.itoa o.b_y]),blkH ob 31 _]) _ (λh s=>sepL_perm (List.Perm.trans (List.Perm.swap _ _ _) ((List.Perm.swap _ _ _).cons _)) s) (λR' hR'=>sNumbers (λw s=>hN w (Sat.rest (hR' w s))) (ws++[Lib.itoa o.ax,Lib.itoa o.ay]++[Lib.itoa o.n]++[Lib.itoa o.bx,Lib.itoa o.b_y]) [(10,o.m)] rfl (by decide) (by first|omega|(simp;omega)) (Sl.row λw s=>(hR' w s).in_ 0 rfl) (λp hp=>by simp at hp;subst hp;exact ⟨rfl,ok.m⟩)) ?_⟩
  rintro r hs ⟨rfl,rfl⟩
  conv=>whnf
  refine ⟨trivial,.mk [lnH lb (ws++[Lib.itoa o.ax,Lib.itoa o.ay]++[Lib.itoa o.n]++[Lib.itoa o.bx,Lib.itoa o.b_y]++[Lib.itoa o.m]),blkH ob 31 _] (λw ⟨h,hs,s⟩=>by obtain ⟨h',e,s2⟩:=sub_front (m:=[lnH lb (ws++[Lib.itoa o.ax,Lib.itoa o.ay]++[Lib.itoa o.n]++[Lib.itoa o.bx,Lib.itoa o.b_y]++[Lib.itoa o.m]),blkH ob 31 _]) s;exact ⟨h',hs.mono e,s2⟩) ⟨rfl,?_⟩⟩
  simp
theorem sPartsNone {R:HP} {lb ob:Nat} {o:OpN} {v1 v2 v3:Value} (hN:∀ w,Sat R w→NumW w) (ws:List (List UInt8)) (hw:ws.length≤1000) (ok:o.ok) (hk:o.kind=18∨o.kind=19∨o.kind=25∨o.kind=26) :
  FnR Tryz.prog R 23 [.pointer (some ⟨lb,0,none⟩),.pointer (some ⟨ob,0,none⟩)] [lnH lb ws,blkH ob 31 (opC o v1 v2 v3)] λr hs=>r=.tuple #[]∧hs=[lnH lb (ws++([]:List (List UInt8))),blkH ob 31 (opC o v1 v2 v3)]:=by
 unfold opC
 rcases hk with hk|hk|hk|hk
 all_goals
  rw [hk]
  refine fn_of_run0 false Tryz.func23 rfl hmix rfl λw0=>?_
  conv=>whnf
  refine ⟨trivial,LoadAt.cell _ rfl rfl (λw hw=>blk_cell (hw.in_ 1 rfl) rfl) ?_⟩
  conv=>whnf
  repeat (first|(refine ⟨λ_=>?_,λh=>absurd h (by decide)⟩;conv=>whnf)|(refine ⟨λh=>absurd h (by decide),λ_=>?_⟩;conv=>whnf))
  exact ⟨trivial,.mk _ (λw s=>s) ⟨rfl,by simp⟩⟩
theorem sPartsPaste {R:HP} {lb ob:Nat} {o:OpN} {v2 v3:Value} {A:Option Addr} {n c:Nat} (hN:∀ w,Sat R w→NumW w) (hM:∀ w,Sat R w→MaxW w) (ws:List (List UInt8)) (hw:ws.length≤1000) (ok:o.ok) (hk:o.kind=4) (l:List Int) (hl:l.length=n) (hn:n≤40000) (hi:∀ x∈l,I64 x) (ha:Sl R A n 1 (l.flatMap numL)) :
  FnR Tryz.prog R 23 [.pointer (some ⟨lb,0,none⟩),.pointer (some ⟨ob,0,none⟩)] [lnH lb ws,blkH ob 31 (opC o (.slice A n c) v2 v3)] λr hs=>r=.tuple #[]∧∃ cs,hs=[lnH lb (ws++([Lib.itoa o.x0,Lib.itoa o.y0,Lib.itoa o.x1,Lib.itoa o.y1]++[listW l])),blkH ob 31 cs]:=by
 unfold opC
 rw [hk]
 refine fn_of_run0 false Tryz.func23 rfl hmix rfl λw0=>?_
 conv=>whnf
 refine ⟨trivial,LoadAt.cell _ rfl rfl (λw hw=>blk_cell (hw.in_ 1 rfl) rfl) ?_⟩
 conv=>whnf
 repeat (first|(refine ⟨λ_=>?_,λh=>absurd h (by decide)⟩;conv=>whnf)|(refine ⟨λh=>absurd h (by decide),λ_=>?_⟩;conv=>whnf))
 refine ⟨trivial,CallAt.fn (pre:=[lnH lb ws,blkH ob 31 _]) _ (λh s=>s) (λR' hR'=>sRect (λw s=>hN w (Sat.rest (hR' w s))) ws 1 o.x0 o.y0 o.x1 o.y1 (by first|omega|(simp;omega)) rfl rfl rfl rfl ok.x0 ok.y0 ok.x1 ok.y1) ?_⟩
 rintro r hs ⟨rfl,rfl⟩
 conv=>whnf
 refine ⟨trivial,CallAt.fn (pre:=[lnH lb (ws++[Lib.itoa o.x0,Lib.itoa o.y0,Lib.itoa o.x1,Lib.itoa o.y1]),blkH ob 31 _]) _ (λh s=>s) (λR' hR'=>sList (λw s=>hN w (Sat.rest (hR' w s))) (λw s=>hM w (Sat.rest (hR' w s))) (ws++[Lib.itoa o.x0,Lib.itoa o.y0,Lib.itoa o.x1,Lib.itoa o.y1]) 11 l (by simp;omega) rfl hl hn hi (ha.mono λw s=>Sat.rest (hR' w s))) ?_⟩
 rintro r hs ⟨rfl,v,rfl⟩
 conv=>whnf
 exact ⟨trivial,.mk _ (λw s=>s) ⟨rfl,_,congrArg (λz=>[lnH lb z,blkH ob 31 _]) (List.append_assoc _ _ _)⟩⟩
theorem sPartsDraw {R:HP} {lb ob:Nat} {o:OpN} {v1 v2:Value} {A:Option Addr} {n c:Nat} (hW:∀ w,Sat R w→ReadW w) (ws:List (List UInt8)) (hw:ws.length≤1000) (ok:o.ok) (hk:o.kind=27) (l:List Bd) (hn:n≤9223372036854775807) (hc:n≤c) (ha:Sl R A n 2 (bcel l)) (hR:RightL l) :
  FnR Tryz.prog R 23 [.pointer (some ⟨lb,0,none⟩),.pointer (some ⟨ob,0,none⟩)] [lnH lb ws,blkH ob 31 (opC o v1 v2 (.slice A n c))] λr hs=>r=.tuple #[]∧∃ cs,hs=[lnH lb (ws++([Lib.itoa o.x0,Lib.itoa o.y0,Lib.itoa o.x1,Lib.itoa o.y1]++[printT l])),blkH ob 31 cs]:=by
 have hN:∀ w,Sat R w→NumW w:=λw s=>(hW w s).1
 unfold opC
 rw [hk]
 refine fn_of_run0 false Tryz.func23 rfl hmix rfl λw0=>?_
 conv=>whnf
 refine ⟨trivial,LoadAt.cell _ rfl rfl (λw hw=>blk_cell (hw.in_ 1 rfl) rfl) ?_⟩
 conv=>whnf
 repeat (first|(refine ⟨λ_=>?_,λh=>absurd h (by decide)⟩;conv=>whnf)|(refine ⟨λh=>absurd h (by decide),λ_=>?_⟩;conv=>whnf))
 refine ⟨trivial,CallAt.fn (pre:=[lnH lb ws,blkH ob 31 _]) _ (λh s=>s) (λR' hR'=>sRect (λw s=>hN w (Sat.rest (hR' w s))) ws 1 o.x0 o.y0 o.x1 o.y1 (by first|omega|(simp;omega)) rfl rfl rfl rfl ok.x0 ok.y0 ok.x1 ok.y1) ?_⟩
 rintro r hs ⟨rfl,rfl⟩
 conv=>whnf
 refine ⟨trivial,CallAt.fn (pre:=[lnH lb (ws++[Lib.itoa o.x0,Lib.itoa o.y0,Lib.itoa o.x1,Lib.itoa o.y1]),blkH ob 31 _]) _ (λh s=>s) (λR' hR'=>sLegend (λw s=>hW w (Sat.rest (hR' w s))) (ws++[Lib.itoa o.x0,Lib.itoa o.y0,Lib.itoa o.x1,Lib.itoa o.y1]) 13 (by simp;omega) rfl hn hc (ha.mono λw s=>Sat.rest (hR' w s)) hR) ?_⟩
 rintro r hs ⟨rfl,v,rfl⟩
 conv=>whnf
 exact ⟨trivial,.mk _ (λw s=>s) ⟨rfl,_,congrArg (λz=>[lnH lb z,blkH ob 31 _]) (List.append_assoc _ _ _)⟩⟩
theorem toldN {R:HP} {q:OpA} {x:OpF} {lb ob:Nat} (hW:∀ w,Sat R w→ReadW w) (ok:x.ok) (few:x.few) (hl:HasLine x) (hS:OpS R q x) (z:List UInt8) :
  FnR Tryz.prog R 23 [.pointer (some ⟨lb,0,none⟩),.pointer (some ⟨ob,0,none⟩)] [lnH lb [z],blkH ob 31 (opCs q x)] λr hs=>r=.tuple #[]∧∃ cs,hs=[lnH lb (z::opW x),blkH ob 31 cs]:=by
 obtain ⟨h1,h2,h3⟩:=hl
 have f1:=few.vals
 have f2:=few.byts
 have f3:=few.bands
 have hN:∀ w,Sat R w→NumW w:=λw s=>(hW w s).1
 have hM:∀ w,Sat R w→MaxW w:=λw s=>(hW w s).2
 obtain ⟨⟨kind,x0,y0,x1,y1,ax,ay,bx,b_y,n,m⟩,vals,byts,bands⟩:=x
 have ko:=ok.o
 have kv:=ok.vals
 have s1:=hS.vals
 have s2:=hS.byts
 have s3:=hS.bands
 have k3:=hS.k3
 simp only [maxLen] at k3
 simp only at *
 rcases kinds27 h1 h2 with rfl|rfl|rfl|rfl|rfl|rfl|rfl|rfl|rfl|rfl|rfl|rfl|rfl|rfl|rfl|rfl|rfl|rfl|rfl|rfl|rfl|rfl|rfl|rfl|rfl|rfl|rfl
 ·exact (sPartsNM (R:=R) (o:=⟨1,x0,y0,x1,y1,ax,ay,bx,b_y,n,m⟩) hN [z] (by simp) ko (by simp)).post λv hs ⟨e1,e2⟩=>⟨hs,⟨e1,_,e2⟩,λh s=>s⟩
 ·exact (sPartsAN (R:=R) (o:=⟨2,x0,y0,x1,y1,ax,ay,bx,b_y,n,m⟩) hN [z] (by simp) ko rfl).post λv hs ⟨e1,e2⟩=>⟨hs,⟨e1,_,e2⟩,λh s=>s⟩
 ·exact (sPartsRN (R:=R) (o:=⟨3,x0,y0,x1,y1,ax,ay,bx,b_y,n,m⟩) hN [z] (by simp) ko (by simp)).post λv hs ⟨e1,e2⟩=>⟨hs,⟨e1,_,e2⟩,λh s=>s⟩
 ·exact (sPartsPaste (R:=R) (o:=⟨4,x0,y0,x1,y1,ax,ay,bx,b_y,n,m⟩) hN hM [z] (by simp) ko rfl vals rfl (by omega) kv s1).post λv hs ⟨e1,cs,e2⟩=>⟨hs,⟨e1,cs,e2⟩,λh s=>s⟩
 ·exact (sPartsRN (R:=R) (o:=⟨5,x0,y0,x1,y1,ax,ay,bx,b_y,n,m⟩) hN [z] (by simp) ko (by simp)).post λv hs ⟨e1,e2⟩=>⟨hs,⟨e1,_,e2⟩,λh s=>s⟩
 ·exact (sPartsA (R:=R) (o:=⟨6,x0,y0,x1,y1,ax,ay,bx,b_y,n,m⟩) hN [z] (by simp) ko (by simp)).post λv hs ⟨e1,e2⟩=>⟨hs,⟨e1,_,e2⟩,λh s=>s⟩
 ·exact (sPartsR (R:=R) (o:=⟨7,x0,y0,x1,y1,ax,ay,bx,b_y,n,m⟩) hN [z] (by simp) ko (by simp)).post λv hs ⟨e1,e2⟩=>⟨hs,⟨e1,_,e2⟩,λh s=>s⟩
 ·exact (sPartsR (R:=R) (o:=⟨8,x0,y0,x1,y1,ax,ay,bx,b_y,n,m⟩) hN [z] (by simp) ko (by simp)).post λv hs ⟨e1,e2⟩=>⟨hs,⟨e1,_,e2⟩,λh s=>s⟩
 ·exact (sPartsR (R:=R) (o:=⟨9,x0,y0,x1,y1,ax,ay,bx,b_y,n,m⟩) hN [z] (by simp) ko (by simp)).post λv hs ⟨e1,e2⟩=>⟨hs,⟨e1,_,e2⟩,λh s=>s⟩
 ·exact (sPartsRN (R:=R) (o:=⟨10,x0,y0,x1,y1,ax,ay,bx,b_y,n,m⟩) hN [z] (by simp) ko (by simp)).post λv hs ⟨e1,e2⟩=>⟨hs,⟨e1,_,e2⟩,λh s=>s⟩
 ·exact (sPartsRN (R:=R) (o:=⟨11,x0,y0,x1,y1,ax,ay,bx,b_y,n,m⟩) hN [z] (by simp) ko (by simp)).post λv hs ⟨e1,e2⟩=>⟨hs,⟨e1,_,e2⟩,λh s=>s⟩
 ·exact (sPartsSight (R:=R) (o:=⟨12,x0,y0,x1,y1,ax,ay,bx,b_y,n,m⟩) hN [z] (by simp) ko rfl).post λv hs ⟨e1,e2⟩=>⟨hs,⟨e1,_,e2⟩,λh s=>s⟩
 ·exact (sPartsView (R:=R) (o:=⟨13,x0,y0,x1,y1,ax,ay,bx,b_y,n,m⟩) hN [z] (by simp) ko rfl).post λv hs ⟨e1,e2⟩=>⟨hs,⟨e1,_,e2⟩,λh s=>s⟩
 ·exact (sPartsN (R:=R) (o:=⟨14,x0,y0,x1,y1,ax,ay,bx,b_y,n,m⟩) hN [z] (by simp) ko (by simp)).post λv hs ⟨e1,e2⟩=>⟨hs,⟨e1,_,e2⟩,λh s=>s⟩
 ·exact (sPartsA (R:=R) (o:=⟨15,x0,y0,x1,y1,ax,ay,bx,b_y,n,m⟩) hN [z] (by simp) ko (by simp)).post λv hs ⟨e1,e2⟩=>⟨hs,⟨e1,_,e2⟩,λh s=>s⟩
 ·exact (sPartsAB (R:=R) (o:=⟨16,x0,y0,x1,y1,ax,ay,bx,b_y,n,m⟩) hN [z] (by simp) ko rfl).post λv hs ⟨e1,e2⟩=>⟨hs,⟨e1,_,e2⟩,λh s=>s⟩
 ·exact (sPartsNM (R:=R) (o:=⟨17,x0,y0,x1,y1,ax,ay,bx,b_y,n,m⟩) hN [z] (by simp) ko (by simp)).post λv hs ⟨e1,e2⟩=>⟨hs,⟨e1,_,e2⟩,λh s=>s⟩
 ·exact (sPartsNone (R:=R) (o:=⟨18,x0,y0,x1,y1,ax,ay,bx,b_y,n,m⟩) hN [z] (by simp) ko (by simp)).post λv hs ⟨e1,e2⟩=>⟨hs,⟨e1,_,e2⟩,λh s=>s⟩
 ·exact (sPartsNone (R:=R) (o:=⟨19,x0,y0,x1,y1,ax,ay,bx,b_y,n,m⟩) hN [z] (by simp) ko (by simp)).post λv hs ⟨e1,e2⟩=>⟨hs,⟨e1,_,e2⟩,λh s=>s⟩
 ·exact (sPartsR (R:=R) (o:=⟨20,x0,y0,x1,y1,ax,ay,bx,b_y,n,m⟩) hN [z] (by simp) ko (by simp)).post λv hs ⟨e1,e2⟩=>⟨hs,⟨e1,_,e2⟩,λh s=>s⟩
 ·exact (sPartsR (R:=R) (o:=⟨21,x0,y0,x1,y1,ax,ay,bx,b_y,n,m⟩) hN [z] (by simp) ko (by simp)).post λv hs ⟨e1,e2⟩=>⟨hs,⟨e1,_,e2⟩,λh s=>s⟩
 ·exact (sPartsR (R:=R) (o:=⟨22,x0,y0,x1,y1,ax,ay,bx,b_y,n,m⟩) hN [z] (by simp) ko (by simp)).post λv hs ⟨e1,e2⟩=>⟨hs,⟨e1,_,e2⟩,λh s=>s⟩
 ·exact (sPartsN (R:=R) (o:=⟨23,x0,y0,x1,y1,ax,ay,bx,b_y,n,m⟩) hN [z] (by simp) ko (by simp)).post λv hs ⟨e1,e2⟩=>⟨hs,⟨e1,_,e2⟩,λh s=>s⟩
 ·exact (sPartsLoad (R:=R) (o:=⟨24,x0,y0,x1,y1,ax,ay,bx,b_y,n,m⟩) [z] (by simp) rfl byts rfl (by omega) s2).post λv hs ⟨e1,cs,e2⟩=>⟨hs,⟨e1,cs,e2⟩,λh s=>s⟩
 ·exact (sPartsNone (R:=R) (o:=⟨25,x0,y0,x1,y1,ax,ay,bx,b_y,n,m⟩) hN [z] (by simp) ko (by simp)).post λv hs ⟨e1,e2⟩=>⟨hs,⟨e1,_,e2⟩,λh s=>s⟩
 ·exact (sPartsNone (R:=R) (o:=⟨26,x0,y0,x1,y1,ax,ay,bx,b_y,n,m⟩) hN [z] (by simp) ko (by simp)).post λv hs ⟨e1,e2⟩=>⟨hs,⟨e1,_,e2⟩,λh s=>s⟩
 ·exact (sPartsDraw (R:=R) (o:=⟨27,x0,y0,x1,y1,ax,ay,bx,b_y,n,m⟩) hW [z] (by simp) ko rfl bands (by omega) k3.1 s3 (h3 rfl)).post λv hs ⟨e1,cs,e2⟩=>⟨hs,⟨e1,cs,e2⟩,λh s=>s⟩
namespace Sy
set_option linter.unusedVariables false
set_option linter.unusedSimpArgs false
set_option maxRecDepth 100000
set_option maxHeartbeats 4000000
theorem fn_of_defer3 {P:Program} {R:HP} {f:FuncId} {fn:Func} {id:Nat} {os:Array Oper} {c0 c1 rest:Code} {args:List Value} {pre:List HP} {post:Value→List HP→Prop} {os1:List Oper} {od:Oper} {x:Operand} (tr:Bool)
  (hf:P.funcs[f]? = some fn) (hb:fn.body=some (.seq c0 (.seq c1 (.seq (.region id os false) rest)))) (hm:P.follows .mixedOrders=true) (hN:Nat.ble args.length fn.ntmps=true)
  (hos:os.toList=os1++[od]) (hod:od.op=.defer { callee:=.value x,args:=#[],argTypes:=#[] }) (hdst:od.dst=none) (hgd:od.guard=none)
  (h:∀ w0,run (gl P R w0 fn.ntmps tr []) c0 ⟨startT 0 (toSVs args),[],0,pre,True⟩ (λst=>run (gl P R w0 fn.ntmps tr []) c1 st (λst=>opsG (op1 (gl P R w0 fn.ntmps tr [])) (gl P R w0 fn.ntmps tr []) (os1++[od]) os1 st λst=>stp st λst=>DefAt P R w0 tr fn x rest st post) (λ_ _=>False) (λ_=>False)) (λ_ _=>False) (λ_=>False)) :
  FnR P R f args pre post:=by
 intro w hs
 have hN:=Nat.le_of_ble_eq_true hN
 refine calls_of_wp_defers hf hb (wp_seq ?_)
 have nox:∀ {Q:Exit→Act→World→Prop} e a w',PXE (gl P R w fn.ntmps tr []) e a w'→Q e a w':=λe a w' hp=>by obtain ⟨_,_,_,_,hf,_⟩:=hp;exact hf.elim
 have good0:Good λst=>stp st λst=>DefAt P R w tr fn x rest st post:=λst h=>(stp_iff.1 h).1
 have ops:∀ {st:St},(opsG (op1 (gl P R w fn.ntmps tr [])) (gl P R w fn.ntmps tr []) (os1++[od]) os1 st λst=>stp st λst=>DefAt P R w tr fn x rest st post)→_:=λ{st} k=>ops_sound (G:=gl P R w fn.ntmps tr []) (step:=op1 (gl P R w fn.ntmps tr [])) (λh hK=>op1_sound h hK) k good0
 have mid1:∀ {st:St},(run (gl P R w fn.ntmps tr []) c1 st (λst=>opsG (op1 (gl P R w fn.ntmps tr [])) (gl P R w fn.ntmps tr []) (os1++[od]) os1 st λst=>stp st λst=>DefAt P R w tr fn x rest st post) (λ_ _=>False) (λ_=>False))→_:=λ{st} k=>run_sound (G:=gl P R w fn.ntmps tr []) hm c1 k (λst h=>(ops h).1) (λ_ _ h=>h.elim) (λ_ h=>h.elim)
 have hr0:=run_sound (G:=gl P R w fn.ntmps tr []) hm c0 (h w) (λst h=>(mid1 h).1) (λ_ _ h=>h.elim) (λ_ h=>h.elim)
 refine hr0.2 [] _ w _ nox (start_tm (N:=fn.ntmps) hN rfl rfl rfl) (start_mem rfl rfl hs) (λst ρ a w1 k m mm=>?_) (λ_ _ _ _ _ h=>h.elim) (λ_ _ _ _ h=>h.elim)
 refine wp_seq ?_
 refine (mid1 k).2 ρ a w1 _ nox m mm (λst ρ a w1 k m mm=>?_) (λ_ _ _ _ _ h=>h.elim) (λ_ _ _ _ h=>h.elim)
 refine wp_seq (wp_region_list ?_)
 rw [hos]
 have hosa:os=(os1++[od]).toArray:=by rw [← hos]
 refine wpList_append ?_
 rw [hosa]
 refine (ops k).2 ρ a w1 _ nox m mm (λst2 ρ2 a2 w2 k2 m2 mm2=>?_)
 obtain ⟨_,⟨g,caps,X,RX,AX,mid,hx,hr,hd,k3⟩⟩:=stp_iff.1 k2
 show wpList P _ _ [od] a2 w2
 unfold wpList
 rw [if_pos (wanted_none hgd _)]
 left
 unfold Oper.wp
 have hev:a2.eval x=.func (.func g) #[] caps.toArray:=by
  rw [isR_sound hr (m2.same (st':={ st2 with c:=True }) rfl),hx]
 have hrun:(execOp a2.eval od).run P w2=.ok (.defer (dfr g caps)) w2:=by
  simp [execOp,hod,resolve,hev,Deferred.ofValue,dfr]
 rw [hrun]
 simp only [Oper.upon,hdst]
 have m3:Tm (glD P R w fn.ntmps tr [] (dfr g caps) X RX AX) { st2 with c:=True } ρ2 { a2 with defers:=dfr g caps::a2.defers }:=by
  refine ⟨m2.size,?_,m2.get⟩
  show dfr g caps::a2.defers=[dfr g caps]
  rw [m2.defs]
  rfl
 have mm3:Mem (glD P R w fn.ntmps tr [] (dfr g caps) X RX AX) { st2 with c:=True } ρ2 w2:=⟨mm2.wd,mm2.len,mm2.nd,mm2.lt,mm2.no,mm2.ob,mm2.kn,mm2.hp⟩
 have hr1:=run_sound (G:=glD P R w fn.ntmps tr [] (dfr g caps) X RX AX) hm rest k3 good_end (λ_ _ h=>h.elim) good_end
 have fin:∀ st ρ a w',endK (glD P R w fn.ntmps tr [] (dfr g caps) X RX AX) mid st→Tm (glD P R w fn.ntmps tr [] (dfr g caps) X RX AX) st ρ a→Mem (glD P R w fn.ntmps tr [] (dfr g caps) X RX AX) st ρ w'→Leaves P fn a.tmps (λe w'=>∃ v hs,e=.returned v∧post v hs∧Sat (sepL hs R) w'∧Wd w w') a.defers .returning w':=by
  intro st ρ a w' k m mm
  obtain ⟨hs,k1,k2,k3⟩:=endK_sound k m mm
  rw [show a.defers=[dfr g caps] from m.defs]
  exact hd.ret hs k1 w' a k2 mm.wd k3
 refine hr1.2 ρ2 _ w2 _ (λe a w' hp=>?_) m3 mm3 fin (λ_ _ _ _ _ h=>h.elim) fin
 obtain ⟨ch,rfl,h1,h2,h3,h4,h5⟩:=hp
 show Leaves P fn a.tmps _ a.defers (.panicking ch) w'
 rw [h1]
 exact hd.pan ch h3 w' a h4 h5 h2
end Sy
namespace Sy
set_option linter.unusedVariables false
set_option linter.unusedSimpArgs false
set_option maxRecDepth 100000
set_option maxHeartbeats 4000000
theorem cls_of_run3 {P:Program} {R:HP} {f:FuncId} {fn:Func} {id d:Nat} {orec o2:Oper} {args:List Value} {pre:List HP} {mid:List HP→Prop} {u u':FrameMode} {r:Value} (tr:Bool)
  (hf:P.funcs[f]? = some fn) (hb:fn.body=some (.region id #[orec,o2] false)) (hm:P.follows .mixedOrders=true) (hN:Nat.ble args.length fn.ntmps=true) (hres:fn.results=#[])
  (ho:orec.op=.call { callee:=.builtin .recover,args:=#[],argTypes:=#[] }) (hg:orec.guard=none) (hdst:orec.dst=some d) (hg2:o2.guard=none) (hu:RecAt u r u')
  (h:∀ w0,putK (gl P R w0 fn.ntmps tr []) ⟨startT 0 (toSVs args),[],0,pre,True⟩ (some d) (.v r) none λst=>op1 (gl P R w0 fn.ntmps tr []) o2 st λst=>endK (gl P R w0 fn.ntmps tr []) mid st) :
  ∀ w,Sat (sepL pre R) w→CallsD P f args.toArray u w λe x w'=>(∃ v,e=.returned v)∧x=u'∧∃ hs,mid hs∧Sat (sepL hs R) w'∧Wd w w':=by
 intro w hs
 have hN:=Nat.le_of_ble_eq_true hN
 refine callsD_of_wpS hf hb λc₀ cs hc=>?_
 refine wpS_region ?_
 have hG1:Good λst=>op1 (gl P R w fn.ntmps tr []) o2 st λst=>endK (gl P R w fn.ntmps tr []) mid st:=λst h=>(op1_sound h good_end).1
 obtain ⟨_,hp⟩:=putK_sound (h w) hG1
 obtain ⟨st',k,m',mm'⟩:=hp [] _ w r rfl (start_tm (N:=fn.ntmps) hN rfl rfl rfl) (start_mem (G:=gl P R w fn.ntmps tr []) rfl rfl hs)
 have hres2:∀ (tmps:Array Value) (w':World),(results fn tmps).run P w'=.ok (.tuple #[]) w':=λtmps w'=>results_run (vs:=[]) (by rw [hres];rfl)
 have fin:∀ cs':List Frame,cs'={ c₀ with mode:=u' }::cs→∀ (e:Exit),(e=.normal∨e=.ret)→∀ st ρ a w',endK (gl P R w fn.ntmps tr []) mid st→Tm (gl P R w fn.ntmps tr []) st ρ a→Mem (gl P R w fn.ntmps tr []) st ρ w' →
   bodyPostS P fn c₀ cs (λe x w'=>(∃ v,e=.returned v)∧x=u'∧∃ hs,mid hs∧Sat (sepL hs R) w'∧Wd w w') e a cs' w':=by
  rintro cs' rfl e he st ρ a w' k m mm
  obtain ⟨hs,k1,k2,_⟩:=endK_sound k m mm
  rcases he with rfl|rfl
  ·exact ⟨m.defs,u',rfl,_,hres2 _ _,⟨_,rfl⟩,rfl,hs,k1,k2,mm.wd⟩
  ·exact ⟨m.defs,u',rfl,_,hres2 _ _,⟨_,rfl⟩,rfl,hs,k1,k2,mm.wd⟩
 have go:∀ cs':List Frame,cs'={ c₀ with mode:=u' }::cs→wpOpsS P #[orec,o2] (bodyPostS P fn c₀ cs λe x w'=>(∃ v,e=.returned v)∧x=u'∧∃ hs,mid hs∧Sat (sepL hs R) w'∧Wd w w') [1] (Act.put { tmps:=args.toArray++Array.replicate (fn.ntmps - args.toArray.size) undef,defers:=[] } (some d) r) cs' w:=by
  intro cs' hcs
  have W:=(op1_sound k good_end).2 [] _ w (λe a' w'=>(bodyPostS P fn c₀ cs λe x w'=>(∃ v,e=.returned v)∧x=u'∧∃ hs,mid hs∧Sat (sepL hs R) w'∧Wd w w') e a' cs' w') (λe a w' hp=>by obtain ⟨_,_,_,_,hf,_⟩:=hp;exact hf.elim) m' mm'
  have W2:=Oper.wp_mono (K':=λa' w'=>wpOpsS P #[orec,o2] (bodyPostS P fn c₀ cs λe x w'=>(∃ v,e=.returned v)∧x=u'∧∃ hs,mid hs∧Sat (sepL hs R) w'∧Wd w w') [] a' cs' w') (λa' w1 ⟨st2,ρ2,k2,m2,mm2⟩=>by
   exact fin cs' hcs .normal (.inl rfl) st2 ρ2 a' w1 k2 m2 mm2) W
  unfold wpOpsS
  have e2:(#[orec,o2]:Array Oper)[1]? = some o2:=rfl
  simp only [e2,wanted_none hg2,if_true]
  have W3:Oper.upon P o2 (Act.put { tmps:=args.toArray++Array.replicate (fn.ntmps - args.toArray.size) undef,defers:=[] } (some d) r) _ _ ((execOp (Act.put { tmps:=args.toArray++Array.replicate (fn.ntmps - args.toArray.size) undef,defers:=[] } (some d) r).eval o2).run P w):=W2
  split
  ·rename_i w1 heq
   rw [heq] at W3
   exact W3.elim
  ·exact W3
 have hrun:∀ ev:Operand→Value,(execOp ev orec).run P w=.ok .recover w:=λev=>by
  simp [execOp,ho,resolve,invoke,builtin]
 have hwt:∀ y,Region.wanted orec y=true:=λy=>wanted_none hg y
 show wpOpsS P #[orec,o2] _ [0,1] _ _ w
 unfold wpOpsS
 have e1:(#[orec,o2]:Array Oper)[0]? = some orec:=rfl
 simp only [e1,hwt,if_true,hrun,hdst]
 rcases hu c₀ cs hc with e|⟨e,rfl,rfl⟩
 ·rw [e]
  exact go _ rfl
 ·rw [e]
  refine go _ ?_
  rw [← hc]
end Sy
end Go.Proofs.YtcoefgkjlgngkaaGreatDoor
