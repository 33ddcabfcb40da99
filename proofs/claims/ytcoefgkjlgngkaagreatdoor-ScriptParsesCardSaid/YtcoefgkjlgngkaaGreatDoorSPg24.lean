/-
  Texts of the proofs, one behind the other: ScFb.
-/
import Derived.Test.YtcoefgkjlgngkaaGreatDoorSPg17
import Derived.Test.YtcoefgkjlgngkaaGreatDoorSPg23
namespace Go.Proofs.YtcoefgkjlgngkaaGreatDoor
open Go.RowKit
open Sy
set_option linter.unusedVariables false
set_option linter.unusedSimpArgs false
set_option maxRecDepth 100000
set_option maxHeartbeats 4000000
theorem NumsNo.good {ws:List (List UInt8)} {k q:Nat} {zs:List Int} (h:NumsNo ws k zs q) (j:Nat) (ys:List Int) (e:(zs.drop j).take ys.length=ys) (hq:j+ys.length≤q):Nums ws (k+j) ys:=by
 intro i hi
 have hlt:=h.lt
 obtain ⟨z,h1,h2,h3⟩:=h.ok (j+i) (by omega) (by omega)
 refine ⟨z,by rw [Nat.add_assoc];exact h1,?_,h3⟩
 rw [h2]
 have:ys[i]=zs[j+i]'(by omega):=by
  have h4:((zs.drop j).take ys.length)[i]? = ys[i]?:=by rw [e]
  rw [List.getElem?_take_of_lt hi,List.getElem?_drop,List.getElem?_eq_getElem (by omega),List.getElem?_eq_getElem hi] at h4
  exact (Option.some.inj h4).symm
 rw [this]
theorem NumsNo.fail {ws:List (List UInt8)} {k q:Nat} {zs:List Int} (h:NumsNo ws k zs q) (j:Nat) (ys:List Int) (e:(zs.drop j).take ys.length=ys) (h1:j≤q) (h2:q < j+ys.length):NumsNo ws (k+j) ys (q - j):=by
 refine ⟨by omega,λi hi hij=>?_,?_⟩
 ·have hlt:=h.lt
  obtain ⟨z,h1,h2,h3⟩:=h.ok (j+i) (by omega) (by omega)
  refine ⟨z,by rw [Nat.add_assoc];exact h1,?_,h3⟩
  rw [h2]
  have:ys[i]=zs[j+i]'(by omega):=by
   have h4:((zs.drop j).take ys.length)[i]? = ys[i]?:=by rw [e]
   rw [List.getElem?_take_of_lt hi,List.getElem?_drop,List.getElem?_eq_getElem (by omega),List.getElem?_eq_getElem hi] at h4
   exact (Option.some.inj h4).symm
  rw [this]
 ·have h3:=h.bad
  rw [show k+j+(q - j)=k+q by omega]
  exact h3
theorem sTakeNNo {R:HP} {lb b0 off m0 c0 k0 ob q:Nat} {ws:List (List UInt8)} {o:OpN} (hN:∀ w,Sat R w→NumW w) (ok:o.ok) (hz:NumsNo ws k0 [o.n] q) (hn0:ws.length=m0) (hm0:m0≤1000000) (hc0:m0≤c0) (ha0:WordsAt R b0 off ws) (hk:o.kind=14∨o.kind=23) :
  PanR Tryz.prog R 23 [.pointer (some ⟨lb,0,none⟩),.pointer (some ⟨ob,0,none⟩)] [tkH lb b0 off m0 c0 k0,blkH ob 31 (opZ o.kind)] isThrown R:=by
 have hlt:q < 1:=hz.lt
 unfold opZ opC
 rcases hk with hk|hk
 all_goals
  rw [hk]
  refine pan_of_run0 _ _ false Tryz.func23 rfl hmix rfl λw0=>?_
  conv=>whnf
  refine ⟨trivial,LoadAt.cell _ rfl rfl (λw hw=>blk_cell (hw.in_ 1 rfl) rfl) ?_⟩
  conv=>whnf
  repeat (first|(refine ⟨λ_=>?_,λh=>absurd h (by decide)⟩;conv=>whnf)|(refine ⟨λh=>absurd h (by decide),λ_=>?_⟩;conv=>whnf))
  refine ⟨trivial,OpAt.lit (ptrV ob [(9,o.n)]) 1 rfl rfl rfl rfl rfl (by decide) rfl rfl rfl (by simp [Value.cells]) rfl (by decide) λg=>?_⟩
  conv=>whnf
  refine ⟨trivial,CallAt.panT (pre:=[tkH lb b0 off m0 c0 (k0),blkH ob 31 _]) _ (λh s=>sepL_perm (List.Perm.trans (List.Perm.swap _ _ _) ((List.Perm.swap _ _ _).cons _)) s) (λR' hR'=>sNumbersNo (λw s=>hN w (Sat.rest (hR' w s))) [(9,o.n)] (q - 0) (hz.fail 0 [o.n] rfl (by omega) (by simp only [List.length_cons,List.length_nil];omega)).lt rfl (by decide) hn0 hm0 hc0 (ha0.mono λw s=>Sat.rest (hR' w s)) (Sl.row λw s=>(hR' w s).in_ 0 rfl) ((hz.fail 0 [o.n] rfl (by omega) (by simp only [List.length_cons,List.length_nil];omega)).ps rfl) (hz.fail 0 [o.n] rfl (by omega) (by simp only [List.length_cons,List.length_nil];omega)).bad (λp hp=>?_)) (λch h=>h) (λw s=>s.rest) trivial⟩
  simp only [List.mem_cons,List.not_mem_nil,or_false] at hp
  rcases hp with rfl
  ·exact ⟨⟨0,rfl,i0⟩,ok.n⟩
theorem sTakeANo {R:HP} {lb b0 off m0 c0 k0 ob q:Nat} {ws:List (List UInt8)} {o:OpN} (hN:∀ w,Sat R w→NumW w) (ok:o.ok) (hz:NumsNo ws k0 [o.ax,o.ay] q) (hn0:ws.length=m0) (hm0:m0≤1000000) (hc0:m0≤c0) (ha0:WordsAt R b0 off ws) (hk:o.kind=6∨o.kind=15) :
  PanR Tryz.prog R 23 [.pointer (some ⟨lb,0,none⟩),.pointer (some ⟨ob,0,none⟩)] [tkH lb b0 off m0 c0 k0,blkH ob 31 (opZ o.kind)] isThrown R:=by
 have hlt:q < 2:=hz.lt
 unfold opZ opC
 rcases hk with hk|hk
 all_goals
  rw [hk]
  refine pan_of_run0 _ _ false Tryz.func23 rfl hmix rfl λw0=>?_
  conv=>whnf
  refine ⟨trivial,LoadAt.cell _ rfl rfl (λw hw=>blk_cell (hw.in_ 1 rfl) rfl) ?_⟩
  conv=>whnf
  repeat (first|(refine ⟨λ_=>?_,λh=>absurd h (by decide)⟩;conv=>whnf)|(refine ⟨λh=>absurd h (by decide),λ_=>?_⟩;conv=>whnf))
  exact ⟨trivial,CallAt.panT (pre:=[tkH lb b0 off m0 c0 (k0),blkH ob 31 _]) _ (λh s=>s) (λR' hR'=>sCellNo (λw s=>hN w (Sat.rest (hR' w s))) 5 o.ax o.ay hn0 hm0 hc0 (ha0.mono λw s=>Sat.rest (hR' w s)) (hz.fail 0 [o.ax,o.ay] rfl (by omega) (by simp only [List.length_cons,List.length_nil];omega)) ok.ax ok.ay ⟨0,rfl,i0⟩ ⟨0,rfl,i0⟩) (λch h=>h) (λw s=>s.rest) trivial⟩
theorem sTakeRNo {R:HP} {lb b0 off m0 c0 k0 ob q:Nat} {ws:List (List UInt8)} {o:OpN} (hN:∀ w,Sat R w→NumW w) (ok:o.ok) (hz:NumsNo ws k0 [o.x0,o.y0,o.x1,o.y1] q) (hn0:ws.length=m0) (hm0:m0≤1000000) (hc0:m0≤c0) (ha0:WordsAt R b0 off ws) (hk:o.kind=7∨o.kind=8∨o.kind=9∨o.kind=20∨o.kind=21∨o.kind=22) :
  PanR Tryz.prog R 23 [.pointer (some ⟨lb,0,none⟩),.pointer (some ⟨ob,0,none⟩)] [tkH lb b0 off m0 c0 k0,blkH ob 31 (opZ o.kind)] isThrown R:=by
 have hlt:q < 4:=hz.lt
 unfold opZ opC
 rcases hk with hk|hk|hk|hk|hk|hk
 all_goals
  rw [hk]
  refine pan_of_run0 _ _ false Tryz.func23 rfl hmix rfl λw0=>?_
  conv=>whnf
  refine ⟨trivial,LoadAt.cell _ rfl rfl (λw hw=>blk_cell (hw.in_ 1 rfl) rfl) ?_⟩
  conv=>whnf
  repeat (first|(refine ⟨λ_=>?_,λh=>absurd h (by decide)⟩;conv=>whnf)|(refine ⟨λh=>absurd h (by decide),λ_=>?_⟩;conv=>whnf))
  exact ⟨trivial,CallAt.panT (pre:=[tkH lb b0 off m0 c0 (k0),blkH ob 31 _]) _ (λh s=>s) (λR' hR'=>sRectNo (λw s=>hN w (Sat.rest (hR' w s))) 1 o.x0 o.y0 o.x1 o.y1 hn0 hm0 hc0 (ha0.mono λw s=>Sat.rest (hR' w s)) (hz.fail 0 [o.x0,o.y0,o.x1,o.y1] rfl (by omega) (by simp only [List.length_cons,List.length_nil];omega)) ok.x0 ok.y0 ok.x1 ok.y1 ⟨0,rfl,i0⟩ ⟨0,rfl,i0⟩ ⟨0,rfl,i0⟩ ⟨0,rfl,i0⟩) (λch h=>h) (λw s=>s.rest) trivial⟩
theorem sTakeANNo {R:HP} {lb b0 off m0 c0 k0 ob q:Nat} {ws:List (List UInt8)} {o:OpN} (hN:∀ w,Sat R w→NumW w) (ok:o.ok) (hz:NumsNo ws k0 [o.ax,o.ay,o.n] q) (hn0:ws.length=m0) (hm0:m0≤1000000) (hc0:m0≤c0) (ha0:WordsAt R b0 off ws) (hk:o.kind=2) :
  PanR Tryz.prog R 23 [.pointer (some ⟨lb,0,none⟩),.pointer (some ⟨ob,0,none⟩)] [tkH lb b0 off m0 c0 k0,blkH ob 31 (opZ o.kind)] isThrown R:=by
 have hlt:q < 3:=hz.lt
 unfold opZ opC
 rcases hk with hk
 all_goals
  rw [hk]
  refine pan_of_run0 _ _ false Tryz.func23 rfl hmix rfl λw0=>?_
  conv=>whnf
  refine ⟨trivial,LoadAt.cell _ rfl rfl (λw hw=>blk_cell (hw.in_ 1 rfl) rfl) ?_⟩
  conv=>whnf
  repeat (first|(refine ⟨λ_=>?_,λh=>absurd h (by decide)⟩;conv=>whnf)|(refine ⟨λh=>absurd h (by decide),λ_=>?_⟩;conv=>whnf))
  by_cases hq2:q < 2
  ·exact ⟨trivial,CallAt.panT (pre:=[tkH lb b0 off m0 c0 (k0),blkH ob 31 _]) _ (λh s=>s) (λR' hR'=>sCellNo (λw s=>hN w (Sat.rest (hR' w s))) 5 o.ax o.ay hn0 hm0 hc0 (ha0.mono λw s=>Sat.rest (hR' w s)) (hz.fail 0 [o.ax,o.ay] rfl (by omega) (by simp only [List.length_cons,List.length_nil];omega)) ok.ax ok.ay ⟨0,rfl,i0⟩ ⟨0,rfl,i0⟩) (λch h=>h) (λw s=>s.rest) trivial⟩
  ·refine ⟨trivial,CallAt.fn (pre:=[tkH lb b0 off m0 c0 (k0),blkH ob 31 _]) _ (λh s=>s) (λR' hR'=>sCellT (λw s=>hN w (Sat.rest (hR' w s))) 5 o.ax o.ay hn0 hm0 hc0 (ha0.mono λw s=>Sat.rest (hR' w s)) (hz.good 0 [o.ax,o.ay] rfl (by simp only [List.length_cons,List.length_nil];omega)) ok.ax ok.ay ⟨0,rfl,i0⟩ ⟨0,rfl,i0⟩) ?_⟩
   rintro r hs ⟨rfl,rfl⟩
   conv=>whnf
   refine ⟨trivial,OpAt.lit (ptrV ob [(9,o.n)]) 1 rfl rfl rfl rfl rfl (by decide) rfl rfl rfl (by simp [Value.cells]) rfl (by decide) λg=>?_⟩
   conv=>whnf
   refine ⟨trivial,CallAt.panT (pre:=[tkH lb b0 off m0 c0 (k0+2),blkH ob 31 _]) _ (λh s=>sepL_perm (List.Perm.trans (List.Perm.swap _ _ _) ((List.Perm.swap _ _ _).cons _)) s) (λR' hR'=>sNumbersNo (λw s=>hN w (Sat.rest (hR' w s))) [(9,o.n)] (q - 2) (hz.fail 2 [o.n] rfl (by omega) (by simp only [List.length_cons,List.length_nil];omega)).lt rfl (by decide) hn0 hm0 hc0 (ha0.mono λw s=>Sat.rest (hR' w s)) (Sl.row λw s=>(hR' w s).in_ 0 rfl) ((hz.fail 2 [o.n] rfl (by omega) (by simp only [List.length_cons,List.length_nil];omega)).ps rfl) (hz.fail 2 [o.n] rfl (by omega) (by simp only [List.length_cons,List.length_nil];omega)).bad (λp hp=>?_)) (λch h=>h) (λw s=>s.rest) trivial⟩
   simp only [List.mem_cons,List.not_mem_nil,or_false] at hp
   rcases hp with rfl
   ·exact ⟨⟨0,rfl,i0⟩,ok.n⟩
theorem sTakeRNNo {R:HP} {lb b0 off m0 c0 k0 ob q:Nat} {ws:List (List UInt8)} {o:OpN} (hN:∀ w,Sat R w→NumW w) (ok:o.ok) (hz:NumsNo ws k0 [o.x0,o.y0,o.x1,o.y1,o.n] q) (hn0:ws.length=m0) (hm0:m0≤1000000) (hc0:m0≤c0) (ha0:WordsAt R b0 off ws) (hk:o.kind=3∨o.kind=5∨o.kind=10∨o.kind=11) :
  PanR Tryz.prog R 23 [.pointer (some ⟨lb,0,none⟩),.pointer (some ⟨ob,0,none⟩)] [tkH lb b0 off m0 c0 k0,blkH ob 31 (opZ o.kind)] isThrown R:=by
 have hlt:q < 5:=hz.lt
 unfold opZ opC
 rcases hk with hk|hk|hk|hk
 all_goals
  rw [hk]
  refine pan_of_run0 _ _ false Tryz.func23 rfl hmix rfl λw0=>?_
  conv=>whnf
  refine ⟨trivial,LoadAt.cell _ rfl rfl (λw hw=>blk_cell (hw.in_ 1 rfl) rfl) ?_⟩
  conv=>whnf
  repeat (first|(refine ⟨λ_=>?_,λh=>absurd h (by decide)⟩;conv=>whnf)|(refine ⟨λh=>absurd h (by decide),λ_=>?_⟩;conv=>whnf))
  by_cases hq4:q < 4
  ·exact ⟨trivial,CallAt.panT (pre:=[tkH lb b0 off m0 c0 (k0),blkH ob 31 _]) _ (λh s=>s) (λR' hR'=>sRectNo (λw s=>hN w (Sat.rest (hR' w s))) 1 o.x0 o.y0 o.x1 o.y1 hn0 hm0 hc0 (ha0.mono λw s=>Sat.rest (hR' w s)) (hz.fail 0 [o.x0,o.y0,o.x1,o.y1] rfl (by omega) (by simp only [List.length_cons,List.length_nil];omega)) ok.x0 ok.y0 ok.x1 ok.y1 ⟨0,rfl,i0⟩ ⟨0,rfl,i0⟩ ⟨0,rfl,i0⟩ ⟨0,rfl,i0⟩) (λch h=>h) (λw s=>s.rest) trivial⟩
  ·refine ⟨trivial,CallAt.fn (pre:=[tkH lb b0 off m0 c0 (k0),blkH ob 31 _]) _ (λh s=>s) (λR' hR'=>sRectT (λw s=>hN w (Sat.rest (hR' w s))) 1 o.x0 o.y0 o.x1 o.y1 hn0 hm0 hc0 (ha0.mono λw s=>Sat.rest (hR' w s)) (hz.good 0 [o.x0,o.y0,o.x1,o.y1] rfl (by simp only [List.length_cons,List.length_nil];omega)) ok.x0 ok.y0 ok.x1 ok.y1 ⟨0,rfl,i0⟩ ⟨0,rfl,i0⟩ ⟨0,rfl,i0⟩ ⟨0,rfl,i0⟩) ?_⟩
   rintro r hs ⟨rfl,rfl⟩
   conv=>whnf
   refine ⟨trivial,OpAt.lit (ptrV ob [(9,o.n)]) 1 rfl rfl rfl rfl rfl (by decide) rfl rfl rfl (by simp [Value.cells]) rfl (by decide) λg=>?_⟩
   conv=>whnf
   refine ⟨trivial,CallAt.panT (pre:=[tkH lb b0 off m0 c0 (k0+4),blkH ob 31 _]) _ (λh s=>sepL_perm (List.Perm.trans (List.Perm.swap _ _ _) ((List.Perm.swap _ _ _).cons _)) s) (λR' hR'=>sNumbersNo (λw s=>hN w (Sat.rest (hR' w s))) [(9,o.n)] (q - 4) (hz.fail 4 [o.n] rfl (by omega) (by simp only [List.length_cons,List.length_nil];omega)).lt rfl (by decide) hn0 hm0 hc0 (ha0.mono λw s=>Sat.rest (hR' w s)) (Sl.row λw s=>(hR' w s).in_ 0 rfl) ((hz.fail 4 [o.n] rfl (by omega) (by simp only [List.length_cons,List.length_nil];omega)).ps rfl) (hz.fail 4 [o.n] rfl (by omega) (by simp only [List.length_cons,List.length_nil];omega)).bad (λp hp=>?_)) (λch h=>h) (λw s=>s.rest) trivial⟩
   simp only [List.mem_cons,List.not_mem_nil,or_false] at hp
   rcases hp with rfl
   ·exact ⟨⟨0,rfl,i0⟩,ok.n⟩
theorem sTakeABNo {R:HP} {lb b0 off m0 c0 k0 ob q:Nat} {ws:List (List UInt8)} {o:OpN} (hN:∀ w,Sat R w→NumW w) (ok:o.ok) (hz:NumsNo ws k0 [o.ax,o.ay,o.bx,o.b_y] q) (hn0:ws.length=m0) (hm0:m0≤1000000) (hc0:m0≤c0) (ha0:WordsAt R b0 off ws) (hk:o.kind=16) :
  PanR Tryz.prog R 23 [.pointer (some ⟨lb,0,none⟩),.pointer (some ⟨ob,0,none⟩)] [tkH lb b0 off m0 c0 k0,blkH ob 31 (opZ o.kind)] isThrown R:=by
 have hlt:q < 4:=hz.lt
 unfold opZ opC
 rcases hk with hk
 all_goals
  rw [hk]
  refine pan_of_run0 _ _ false Tryz.func23 rfl hmix rfl λw0=>?_
  conv=>whnf
  refine ⟨trivial,LoadAt.cell _ rfl rfl (λw hw=>blk_cell (hw.in_ 1 rfl) rfl) ?_⟩
  conv=>whnf
  repeat (first|(refine ⟨λ_=>?_,λh=>absurd h (by decide)⟩;conv=>whnf)|(refine ⟨λh=>absurd h (by decide),λ_=>?_⟩;conv=>whnf))
  by_cases hq2:q < 2
  ·exact ⟨trivial,CallAt.panT (pre:=[tkH lb b0 off m0 c0 (k0),blkH ob 31 _]) _ (λh s=>s) (λR' hR'=>sCellNo (λw s=>hN w (Sat.rest (hR' w s))) 5 o.ax o.ay hn0 hm0 hc0 (ha0.mono λw s=>Sat.rest (hR' w s)) (hz.fail 0 [o.ax,o.ay] rfl (by omega) (by simp only [List.length_cons,List.length_nil];omega)) ok.ax ok.ay ⟨0,rfl,i0⟩ ⟨0,rfl,i0⟩) (λch h=>h) (λw s=>s.rest) trivial⟩
  ·refine ⟨trivial,CallAt.fn (pre:=[tkH lb b0 off m0 c0 (k0),blkH ob 31 _]) _ (λh s=>s) (λR' hR'=>sCellT (λw s=>hN w (Sat.rest (hR' w s))) 5 o.ax o.ay hn0 hm0 hc0 (ha0.mono λw s=>Sat.rest (hR' w s)) (hz.good 0 [o.ax,o.ay] rfl (by simp only [List.length_cons,List.length_nil];omega)) ok.ax ok.ay ⟨0,rfl,i0⟩ ⟨0,rfl,i0⟩) ?_⟩
   rintro r hs ⟨rfl,rfl⟩
   conv=>whnf
   exact ⟨trivial,CallAt.panT (pre:=[tkH lb b0 off m0 c0 (k0+2),blkH ob 31 _]) _ (λh s=>s) (λR' hR'=>sCellNo (λw s=>hN w (Sat.rest (hR' w s))) 7 o.bx o.b_y hn0 hm0 hc0 (ha0.mono λw s=>Sat.rest (hR' w s)) (hz.fail 2 [o.bx,o.b_y] rfl (by omega) (by simp only [List.length_cons,List.length_nil];omega)) ok.bx ok.b_y ⟨0,rfl,i0⟩ ⟨0,rfl,i0⟩) (λch h=>h) (λw s=>s.rest) trivial⟩
theorem sTakeNMNo {R:HP} {lb b0 off m0 c0 k0 ob q:Nat} {ws:List (List UInt8)} {o:OpN} (hN:∀ w,Sat R w→NumW w) (ok:o.ok) (hz:NumsNo ws k0 [o.n,o.m] q) (hn0:ws.length=m0) (hm0:m0≤1000000) (hc0:m0≤c0) (ha0:WordsAt R b0 off ws) (hk:o.kind=1∨o.kind=17) :
  PanR Tryz.prog R 23 [.pointer (some ⟨lb,0,none⟩),.pointer (some ⟨ob,0,none⟩)] [tkH lb b0 off m0 c0 k0,blkH ob 31 (opZ o.kind)] isThrown R:=by
 have hlt:q < 2:=hz.lt
 unfold opZ opC
 rcases hk with hk|hk
 all_goals
  rw [hk]
  refine pan_of_run0 _ _ false Tryz.func23 rfl hmix rfl λw0=>?_
  conv=>whnf
  refine ⟨trivial,LoadAt.cell _ rfl rfl (λw hw=>blk_cell (hw.in_ 1 rfl) rfl) ?_⟩
  conv=>whnf
  repeat (first|(refine ⟨λ_=>?_,λh=>absurd h (by decide)⟩;conv=>whnf)|(refine ⟨λh=>absurd h (by decide),λ_=>?_⟩;conv=>whnf))
  refine ⟨trivial,RegAt.groups [([.T 0,.T 1,.T 2,.T 3,.T 4,.T 5,.T 6,.H 7],8),([.H 8],9)] hmix (by kernel_rfl) ?_⟩
  conv=>whnf
  refine ⟨trivial,OpAt.lit (ptrV ob [(9,o.n),(10,o.m)]) 1 rfl rfl rfl rfl rfl (by decide) rfl rfl rfl (by simp [Value.cells]) rfl (by decide) λg=>?_⟩
  conv=>whnf
  refine ⟨trivial,⟨⟨rfl,rfl⟩,λh s=>sub_tail s⟩,?_⟩
  conv=>whnf
  refine ⟨trivial,CallAt.panT (pre:=[tkH lb b0 off m0 c0 (k0),blkH ob 31 _]) _ (λh s=>sepL_perm (List.Perm.trans (List.Perm.swap _ _ _) ((List.Perm.swap _ _ _).cons _)) s) (λR' hR'=>sNumbersNo (λw s=>hN w (Sat.rest (hR' w s))) [(9,o.n),(10,o.m)] (q - 0) (hz.fail 0 [o.n,o.m] rfl (by omega) (by simp only [List.length_cons,List.length_nil];omega)).lt rfl (by decide) hn0 hm0 hc0 (ha0.mono λw s=>Sat.rest (hR' w s)) (Sl.row λw s=>(hR' w s).in_ 0 rfl) ((hz.fail 0 [o.n,o.m] rfl (by omega) (by simp only [List.length_cons,List.length_nil];omega)).ps rfl) (hz.fail 0 [o.n,o.m] rfl (by omega) (by simp only [List.length_cons,List.length_nil];omega)).bad (λp hp=>?_)) (λch h=>h) (λw s=>s.rest) trivial⟩
  simp only [List.mem_cons,List.not_mem_nil,or_false] at hp
  rcases hp with rfl|rfl
  ·exact ⟨⟨0,rfl,i0⟩,ok.n⟩
  ·exact ⟨⟨0,rfl,i0⟩,ok.m⟩
theorem sTakeViewNo {R:HP} {lb b0 off m0 c0 k0 ob q:Nat} {ws:List (List UInt8)} {o:OpN} (hN:∀ w,Sat R w→NumW w) (ok:o.ok) (hz:NumsNo ws k0 [o.ax,o.ay,o.n,o.m,o.bx] q) (hn0:ws.length=m0) (hm0:m0≤1000000) (hc0:m0≤c0) (ha0:WordsAt R b0 off ws) (hk:o.kind=13) :
  PanR Tryz.prog R 23 [.pointer (some ⟨lb,0,none⟩),.pointer (some ⟨ob,0,none⟩)] [tkH lb b0 off m0 c0 k0,blkH ob 31 (opZ o.kind)] isThrown R:=by
 have hlt:q < 5:=hz.lt
 unfold opZ opC
 rcases hk with hk
 all_goals
  rw [hk]
  refine pan_of_run0 _ _ false Tryz.func23 rfl hmix rfl λw0=>?_
  conv=>whnf
  refine ⟨trivial,LoadAt.cell _ rfl rfl (λw hw=>blk_cell (hw.in_ 1 rfl) rfl) ?_⟩
  conv=>whnf
  repeat (first|(refine ⟨λ_=>?_,λh=>absurd h (by decide)⟩;conv=>whnf)|(refine ⟨λh=>absurd h (by decide),λ_=>?_⟩;conv=>whnf))
  by_cases hq2:q < 2
  ·exact ⟨trivial,CallAt.panT (pre:=[tkH lb b0 off m0 c0 (k0),blkH ob 31 _]) _ (λh s=>s) (λR' hR'=>sCellNo (λw s=>hN w (Sat.rest (hR' w s))) 5 o.ax o.ay hn0 hm0 hc0 (ha0.mono λw s=>Sat.rest (hR' w s)) (hz.fail 0 [o.ax,o.ay] rfl (by omega) (by simp only [List.length_cons,List.length_nil];omega)) ok.ax ok.ay ⟨0,rfl,i0⟩ ⟨0,rfl,i0⟩) (λch h=>h) (λw s=>s.rest) trivial⟩
  ·refine ⟨trivial,CallAt.fn (pre:=[tkH lb b0 off m0 c0 (k0),blkH ob 31 _]) _ (λh s=>s) (λR' hR'=>sCellT (λw s=>hN w (Sat.rest (hR' w s))) 5 o.ax o.ay hn0 hm0 hc0 (ha0.mono λw s=>Sat.rest (hR' w s)) (hz.good 0 [o.ax,o.ay] rfl (by simp only [List.length_cons,List.length_nil];omega)) ok.ax ok.ay ⟨0,rfl,i0⟩ ⟨0,rfl,i0⟩) ?_⟩
   rintro r hs ⟨rfl,rfl⟩
   conv=>whnf
   refine ⟨trivial,RegAt.groups [([.T 0,.T 1,.T 2,.T 3,.T 4,.T 5,.T 6,.T 7,.T 8,.T 9,.T 10,.H 11],12),([.H 12],13)] hmix (by kernel_rfl) ?_⟩
   conv=>whnf
   refine ⟨trivial,OpAt.lit (ptrV ob [(9,o.n),(10,o.m),(7,o.bx)]) 1 rfl rfl rfl rfl rfl (by decide) rfl rfl rfl (by simp [Value.cells]) rfl (by decide) λg=>?_⟩
   conv=>whnf
   refine ⟨trivial,⟨⟨rfl,rfl⟩,λh s=>sub_tail s⟩,?_⟩
   conv=>whnf
   refine ⟨trivial,CallAt.panT (pre:=[tkH lb b0 off m0 c0 (k0+2),blkH ob 31 _]) _ (λh s=>sepL_perm (List.Perm.trans (List.Perm.swap _ _ _) ((List.Perm.swap _ _ _).cons _)) s) (λR' hR'=>sNumbersNo (λw s=>hN w (Sat.rest (hR' w s))) [(9,o.n),(10,o.m),(7,o.bx)] (q - 2) (hz.fail 2 [o.n,o.m,o.bx] rfl (by omega) (by simp only [List.length_cons,List.length_nil];omega)).lt rfl (by decide) hn0 hm0 hc0 (ha0.mono λw s=>Sat.rest (hR' w s)) (Sl.row λw s=>(hR' w s).in_ 0 rfl) ((hz.fail 2 [o.n,o.m,o.bx] rfl (by omega) (by simp only [List.length_cons,List.length_nil];omega)).ps rfl) (hz.fail 2 [o.n,o.m,o.bx] rfl (by omega) (by simp only [List.length_cons,List.length_nil];omega)).bad (λp hp=>?_)) (λch h=>h) (λw s=>s.rest) trivial⟩
   simp only [List.mem_cons,List.not_mem_nil,or_false] at hp
   rcases hp with rfl|rfl|rfl
   ·exact ⟨⟨0,rfl,i0⟩,ok.n⟩
   ·exact ⟨⟨0,rfl,i0⟩,ok.m⟩
   ·exact ⟨⟨0,rfl,i0⟩,ok.bx⟩
theorem sTakeSightNo {R:HP} {lb b0 off m0 c0 k0 ob q:Nat} {ws:List (List UInt8)} {o:OpN} (hN:∀ w,Sat R w→NumW w) (ok:o.ok) (hz:NumsNo ws k0 [o.ax,o.ay,o.n,o.bx,o.b_y,o.m] q) (hn0:ws.length=m0) (hm0:m0≤1000000) (hc0:m0≤c0) (ha0:WordsAt R b0 off ws) (hk:o.kind=12) :
  PanR Tryz.prog R 23 [.pointer (some ⟨lb,0,none⟩),.pointer (some ⟨ob,0,none⟩)] [tkH lb b0 off m0 c0 k0,blkH ob 31 (opZ o.kind)] isThrown R:=by
 have hlt:q < 6:=hz.lt
 unfold opZ opC
 rcases hk with hk
 all_goals
  rw [hk]
  refine pan_of_run0 _ _ false Tryz.func23 rfl hmix rfl λw0=>?_
  conv=>whnf
  refine ⟨trivial,LoadAt.cell _ rfl rfl (λw hw=>blk_cell (hw.in_ 1 rfl) rfl) ?_⟩
  conv=>whnf
  repeat (first|(refine ⟨λ_=>?_,λh=>absurd h (by decide)⟩;conv=>whnf)|(refine ⟨λh=>absurd h (by decide),λ_=>?_⟩;conv=>whnf))
  by_cases hq2:q < 2
  ·exact ⟨trivial,CallAt.panT (pre:=[tkH lb b0 off m0 c0 (k0),blkH ob 31 _]) _ (λh s=>s) (λR' hR'=>sCellNo (λw s=>hN w (Sat.rest (hR' w s))) 5 o.ax o.ay hn0 hm0 hc0 (ha0.mono λw s=>Sat.rest (hR' w s)) (hz.fail 0 [o.ax,o.ay] rfl (by omega) (by simp only [List.length_cons,List.length_nil];omega)) ok.ax ok.ay ⟨0,rfl,i0⟩ ⟨0,rfl,i0⟩) (λch h=>h) (λw s=>s.rest) trivial⟩
  ·refine ⟨trivial,CallAt.fn (pre:=[tkH lb b0 off m0 c0 (k0),blkH ob 31 _]) _ (λh s=>s) (λR' hR'=>sCellT (λw s=>hN w (Sat.rest (hR' w s))) 5 o.ax o.ay hn0 hm0 hc0 (ha0.mono λw s=>Sat.rest (hR' w s)) (hz.good 0 [o.ax,o.ay] rfl (by simp only [List.length_cons,List.length_nil];omega)) ok.ax ok.ay ⟨0,rfl,i0⟩ ⟨0,rfl,i0⟩) ?_⟩
   rintro r hs ⟨rfl,rfl⟩
   conv=>whnf
   by_cases hq3:q < 3
   ·refine ⟨trivial,OpAt.lit (ptrV ob [(9,o.n)]) 1 rfl rfl rfl rfl rfl (by decide) rfl rfl rfl (by simp [Value.cells]) rfl (by decide) λg=>?_⟩
    conv=>whnf
    refine ⟨trivial,CallAt.panT (pre:=[tkH lb b0 off m0 c0 (k0+2),blkH ob 31 _]) _ (λh s=>sepL_perm (List.Perm.trans (List.Perm.swap _ _ _) ((List.Perm.swap _ _ _).cons _)) s) (λR' hR'=>sNumbersNo (λw s=>hN w (Sat.rest (hR' w s))) [(9,o.n)] (q - 2) (hz.fail 2 [o.n] rfl (by omega) (by simp only [List.length_cons,List.length_nil];omega)).lt rfl (by decide) hn0 hm0 hc0 (ha0.mono λw s=>Sat.rest (hR' w s)) (Sl.row λw s=>(hR' w s).in_ 0 rfl) ((hz.fail 2 [o.n] rfl (by omega) (by simp only [List.length_cons,List.length_nil];omega)).ps rfl) (hz.fail 2 [o.n] rfl (by omega) (by simp only [List.length_cons,List.length_nil];omega)).bad (λp hp=>?_)) (λch h=>h) (λw s=>s.rest) trivial⟩
    simp only [List.mem_cons,List.not_mem_nil,or_false] at hp
    rcases hp with rfl
    ·exact ⟨⟨0,rfl,i0⟩,ok.n⟩
   ·refine ⟨trivial,OpAt.lit (ptrV ob [(9,o.n)]) 1 rfl rfl rfl rfl rfl (by decide) rfl rfl rfl (by simp [Value.cells]) rfl (by decide) λg=>?_⟩
    conv=>whnf
    refine ⟨trivial,CallAt.fn (pre:=[tkH lb b0 off m0 c0 (k0+2),blkH ob 31 _]) _ (λh s=>sepL_perm (List.Perm.trans (List.Perm.swap _ _ _) ((List.Perm.swap _ _ _).cons _)) s) (λR' hR'=>sNumbersT (λw s=>hN w (Sat.rest (hR' w s))) [(9,o.n)] rfl (by decide) hn0 hm0 hc0 (ha0.mono λw s=>Sat.rest (hR' w s)) (Sl.row λw s=>(hR' w s).in_ 0 rfl) ((hz.good 2 [o.n] rfl (by simp only [List.length_cons,List.length_nil];omega)).ps rfl) (λp hp=>?_)) ?_⟩
    ·simp only [List.mem_cons,List.not_mem_nil,or_false] at hp
     rcases hp with rfl
     ·exact ⟨⟨0,rfl,i0⟩,ok.n⟩
    rintro r hs ⟨rfl,rfl⟩
    conv=>whnf
    by_cases hq5:q < 5
    ·exact ⟨trivial,CallAt.panT (pre:=[tkH lb b0 off m0 c0 (k0+3),blkH ob 31 _]) _ (λh s=>s) (λR' hR'=>sCellNo (λw s=>hN w (Sat.rest (hR' w s))) 7 o.bx o.b_y hn0 hm0 hc0 (ha0.mono λw s=>Sat.rest (hR' w s)) (hz.fail 3 [o.bx,o.b_y] rfl (by omega) (by simp only [List.length_cons,List.length_nil];omega)) ok.bx ok.b_y ⟨0,rfl,i0⟩ ⟨0,rfl,i0⟩) (λch h=>h) (λw s=>s.rest) trivial⟩
    ·refine ⟨trivial,CallAt.fn (pre:=[tkH lb b0 off m0 c0 (k0+3),blkH ob 31 _]) _ (λh s=>s) (λR' hR'=>sCellT (λw s=>hN w (Sat.rest (hR' w s))) 7 o.bx o.b_y hn0 hm0 hc0 (ha0.mono λw s=>Sat.rest (hR' w s)) (hz.good 3 [o.bx,o.b_y] rfl (by simp only [List.length_cons,List.length_nil];omega)) ok.bx ok.b_y ⟨0,rfl,i0⟩ ⟨0,rfl,i0⟩) ?_⟩
     rintro r hs ⟨rfl,rfl⟩
     conv=>whnf
     refine ⟨trivial,OpAt.lit (ptrV ob [(10,o.m)]) 1 rfl rfl rfl rfl rfl (by decide) rfl rfl rfl (by simp [Value.cells]) rfl (by decide) λg=>?_⟩
     conv=>whnf
     refine ⟨trivial,CallAt.panT (pre:=[tkH lb b0 off m0 c0 (k0+5),blkH ob 31 _]) _ (λh s=>sepL_perm (List.Perm.trans (List.Perm.swap _ _ _) ((List.Perm.swap _ _ _).cons _)) s) (λR' hR'=>sNumbersNo (λw s=>hN w (Sat.rest (hR' w s))) [(10,o.m)] (q - 5) (hz.fail 5 [o.m] rfl (by omega) (by simp only [List.length_cons,List.length_nil];omega)).lt rfl (by decide) hn0 hm0 hc0 (ha0.mono λw s=>Sat.rest (hR' w s)) (Sl.row λw s=>(hR' w s).in_ 0 rfl) ((hz.fail 5 [o.m] rfl (by omega) (by simp only [List.length_cons,List.length_nil];omega)).ps rfl) (hz.fail 5 [o.m] rfl (by omega) (by simp only [List.length_cons,List.length_nil];omega)).bad (λp hp=>?_)) (λch h=>h) (λw s=>s.rest) trivial⟩
     simp only [List.mem_cons,List.not_mem_nil,or_false] at hp
     rcases hp with rfl
     ·exact ⟨⟨0,rfl,i0⟩,ok.m⟩
theorem sTakeRLNo {R:HP} {lb b0 off m0 c0 k0 ob q:Nat} {ws:List (List UInt8)} {o:OpN} (hN:∀ w,Sat R w→NumW w) (ok:o.ok) (hz:NumsNo ws k0 [o.x0,o.y0,o.x1,o.y1] q) (hn0:ws.length=m0) (hm0:m0≤1000000) (hc0:m0≤c0) (ha0:WordsAt R b0 off ws) (hk:o.kind=4∨o.kind=27) :
  PanR Tryz.prog R 23 [.pointer (some ⟨lb,0,none⟩),.pointer (some ⟨ob,0,none⟩)] [tkH lb b0 off m0 c0 k0,blkH ob 31 (opZ o.kind)] isThrown R:=by
 have hlt:q < 4:=hz.lt
 unfold opZ opC
 rcases hk with hk|hk
 all_goals
  rw [hk]
  refine pan_of_run0 _ _ false Tryz.func23 rfl hmix rfl λw0=>?_
  conv=>whnf
  refine ⟨trivial,LoadAt.cell _ rfl rfl (λw hw=>blk_cell (hw.in_ 1 rfl) rfl) ?_⟩
  conv=>whnf
  repeat (first|(refine ⟨λ_=>?_,λh=>absurd h (by decide)⟩;conv=>whnf)|(refine ⟨λh=>absurd h (by decide),λ_=>?_⟩;conv=>whnf))
  exact ⟨trivial,CallAt.panT (pre:=[tkH lb b0 off m0 c0 (k0),blkH ob 31 _]) _ (λh s=>s) (λR' hR'=>sRectNo (λw s=>hN w (Sat.rest (hR' w s))) 1 o.x0 o.y0 o.x1 o.y1 hn0 hm0 hc0 (ha0.mono λw s=>Sat.rest (hR' w s)) (hz.fail 0 [o.x0,o.y0,o.x1,o.y1] rfl (by omega) (by simp only [List.length_cons,List.length_nil];omega)) ok.x0 ok.y0 ok.x1 ok.y1 ⟨0,rfl,i0⟩ ⟨0,rfl,i0⟩ ⟨0,rfl,i0⟩ ⟨0,rfl,i0⟩) (λch h=>h) (λw s=>s.rest) trivial⟩
theorem sTakeZero {R:HP} {lb b0 off m0 c0 k0 ob:Nat} :
  FnR Tryz.prog R 23 [.pointer (some ⟨lb,0,none⟩),.pointer (some ⟨ob,0,none⟩)] [tkH lb b0 off m0 c0 k0,blkH ob 31 (opZ 0)] λr hs=>r=.tuple #[]∧hs=[tkH lb b0 off m0 c0 k0,blkH ob 31 (opZ 0)]:=by
 unfold opZ opC
 refine fn_of_run0 false Tryz.func23 rfl hmix rfl λw0=>?_
 conv=>whnf
 refine ⟨trivial,LoadAt.cell _ rfl rfl (λw hw=>blk_cell (hw.in_ 1 rfl) rfl) ?_⟩
 conv=>whnf
 repeat (first|(refine ⟨λ_=>?_,λh=>absurd h (by decide)⟩;conv=>whnf)|(refine ⟨λh=>absurd h (by decide),λ_=>?_⟩;conv=>whnf))
 exact ⟨trivial,.mk _ (λw s=>s) ⟨rfl,rfl⟩⟩
end Go.Proofs.YtcoefgkjlgngkaaGreatDoor
