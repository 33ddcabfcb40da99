/-
  Texts of the proofs, one behind the other: ScFc.
-/
import Derived.Test.YtcoefgkjlgngkaaGreatDoorSPg17
namespace Go.Proofs.YtcoefgkjlgngkaaGreatDoor
open Go.RowKit
open Sy
set_option linter.unusedVariables false
set_option linter.unusedSimpArgs false
set_option maxRecDepth 100000
set_option maxHeartbeats 4000000
theorem wds_mem_len {d:UInt8}:∀ {ps:List (List UInt8)} {p:List UInt8},p∈ps→p.length≤(wds d ps).length
 |q::ps,p,h=>by
  rw [wds_cons]
  simp only [List.length_cons,List.length_append]
  rcases List.mem_cons.1 h with rfl|h
  ·omega
  ·have:=wds_mem_len (d:=d) h
   omega
theorem pcs_mem_len {d:UInt8} {s p:List UInt8} (h:p∈pcs d s):p.length≤s.length:=by
 obtain ⟨h1,_,h2⟩:=pcs_spec d s
 have e:=congrArg List.length h1
 cases hp:pcs d s with
 |nil=>exact absurd hp h2
 |cons q ps =>
  rw [hp] at h e
  rw [jn_cons,List.length_append] at e
  rcases List.mem_cons.1 h with rfl|h
  ·omega
  ·have:=wds_mem_len (d:=d) h
   omega
structure BadList (z:List UInt8) (j:Nat):Prop where
 dash:z≠[45]
 lt:j < (pcs 44 z).length
 good:∀ i (h:i < (pcs 44 z).length),i < j→(read (pcs 44 z)[i]).2=0
 bad:∀ (h:j < (pcs 44 z).length),(read (pcs 44 z)[j]).2≠0
theorem sListNo0 {R:HP} {lb b0 off m0 c0 b:Nat} {tb:TypeId} {cs:Array Value} (hN:∀ w,Sat R w→NumW w) (k:Nat) (hk:cs[k]? = some (.slice none 0 0)) :
  PanR Tryz.prog R 43 [.pointer (some ⟨lb,0,none⟩),.pointer (some ⟨b,k,none⟩)] [tkH lb b0 off m0 c0 m0,blkH b tb cs] isThrown R:=by
 have hjo:=λR' (h:∀ w,Sat R' w→Sat R w)=>sJoin (R:=R') (A:=none) (n:=0) (c:=0) (λw s=>hN w (h w s)) [] rfl (by decide) (λx hx=>by cases hx) (Sl.nil _ _ _)
 refine pan_of_run0 _ _ false Tryz.func43 rfl hmix rfl λw0=>?_
 conv=>whnf
 refine ⟨trivial,LoadAt.cell (.slice none 0 0) rfl rfl (λw hw=>blk_cell (hw.in_ 1 rfl) hk) ?_⟩
 conv=>whnf
 refine ⟨trivial,CallAt.pure (λR' hR'=>hjo R' λw s=>Sat.rest (hR' w s)) ?_⟩
 conv=>whnf
 exact ⟨trivial,CallAt.panT (pre:=[tkH lb b0 off m0 c0 m0]) _ (λh s=>s) (λR' hR'=>sWordNo (bs (listW []))) (λch h=>h) (λw s=>s.rest) trivial⟩
theorem sListNo {R:HP} {lb b0 off m0 c0 k0 b j:Nat} {tb:TypeId} {cs:Array Value} {ws:List (List UInt8)} {z:List UInt8} (hN:∀ w,Sat R w→NumW w) (hM:∀ w,Sat R w→MaxW w) (k:Nat) (hk:cs[k]? = some (.slice none 0 0)) (hz:ws[k0]? = some z) (hzl:z.length≤100000) (hb:BadList z j) (hn0:ws.length=m0) (hm0:m0≤1000000) (hc0:m0≤c0) (ha0:WordsAt R b0 off ws) :
  PanR Tryz.prog R 43 [.pointer (some ⟨lb,0,none⟩),.pointer (some ⟨b,k,none⟩)] [tkH lb b0 off m0 c0 k0,blkH b tb cs] isThrown R:=by
 obtain ⟨hdash,hjn,hgood,hbad⟩:=hb
 have hks:=(Array.getElem?_eq_some_iff.1 hk).1
 have hjo:=λR' (h:∀ w,Sat R' w→Sat R w)=>sJoin (R:=R') (A:=none) (n:=0) (c:=0) (λw s=>hN w (h w s)) [] rfl (by decide) (λx hx=>by cases hx) (Sl.nil _ _ _)
 have hpl:∀ i (h:i < (pcs 44 z).length),(pcs 44 z)[i].length≤1048576:=λi h=>by
  have:=pcs_mem_len (List.getElem_mem h)
  omega
 have hpn:(pcs 44 z).length≤100001:=by
  rw [pcs_len]
  have:z.count 44≤z.length:=List.count_le_length
  omega
 have hsp:=λR' (h:∀ w,Sat R' w→Sat R w)=>sSplitC (R:=R') (λw s=>hM w (h w s)) 44 z (by omega)
 generalize pcs 44 z=ps at *
 obtain ⟨n,hn⟩:∃ n,n=ps.length:=⟨_,rfl⟩
 rw [← hn] at hsp hpn
 refine pan_of_run0 _ _ false Tryz.func43 rfl hmix rfl λw0=>?_
 conv=>whnf
 refine ⟨trivial,LoadAt.cell (.slice none 0 0) rfl rfl (λw hw=>blk_cell (hw.in_ 1 rfl) hk) ?_⟩
 conv=>whnf
 refine ⟨trivial,CallAt.pure (λR' hR'=>hjo R' λw s=>Sat.rest (hR' w s)) ?_⟩
 conv=>whnf
 refine ⟨trivial,CallAt.fn (pre:=[tkH lb b0 off m0 c0 k0]) _ (λh s=>s) (λR' hR'=>sWordT (bs (listW [])) hz hn0 hm0 hc0 (ha0.mono λw s=>Sat.rest (hR' w s))) ?_⟩
 rintro r hs ⟨rfl,rfl⟩
 conv=>whnf
 refine ⟨trivial,OpAt.store (A':=blkH b tb (putC cs k (.slice none 0 0))) b k (.slice none 0 0) _ rfl (λh s=>sepL_pull 1 s) rfl rfl rfl rfl rfl (by simp [Value.cells,Value.oneCell']) (λh r=>blk_put (by simp [Value.cells];omega) r) ?_⟩
 conv=>whnf
 refine ⟨λh=>absurd (bs_inj.1 (show bs z=bs [45] from of_decide_eq_true h)) hdash,λh=>?_⟩
 conv=>whnf
 refine ⟨trivial,CallAt.fn (pre:=[]) _ (λh s=>s) (λR' hR'=>hsp R' λw s=>Sat.rest (hR' w s)) ?_⟩
 rintro r hs ⟨B,rfl,rfl⟩
 conv=>whnf
 refine ⟨trivial,LoopAt.heap (α:=Nat × Option Addr × Nat) [1,18,19] (λa=>[(20,.v (.int .i64 (a.1:Int)))]) (λa=>[rowH (.slice a.2.1 a.1 a.2.2) a.1 2 1 ((ps.take a.1).map λp=>.int .i64 (read p).1),blkH b tb (putC cs k (.slice a.2.1 a.1 a.2.2)),rowH (.slice (some ⟨B,0,none⟩) n n) n 9 1 (strV ps),tkH lb b0 off m0 c0 (k0+1)]) (λa=>a.1≤j) (λa=>n - a.1) (0,none,0) (Nat.zero_le _) rfl ⟨⟨rfl,rfl⟩,trivial⟩ ⟨⟨rfl,rfl⟩,⟨rfl,rfl⟩,⟨rfl,rfl⟩,trivial⟩ trivial (λh s=>sub_same (row_nil _ _ (sepL_pull 1 s))) ?_⟩
 rintro ⟨i,D,cd⟩ hi'
 simp only at hi'
 conv=>whnf
 refine ⟨λh=>?_,λh=>?_⟩
 ·have hi2:i < n:=by simpa using h
  have hil:i < ps.length:=by omega
  have f3:((ps.take (i+1)).map λp=>Value.int .i64 (read p).1)=((ps.take i).map λp=>Value.int .i64 (read p).1)++[.int .i64 (read ps[i]).1]:=by rw [List.take_succ_eq_append_getElem hil,List.map_append];rfl
  have f1:(strV ps)[i]? = some (.string (bs ps[i])):=by simp [hil]
  have hpi:=hpl i hil
  have hgi:=hgood i hil
  have hbi:i=j→(read ps[i]).2≠0:=λe=>by subst e;exact hbad hil
  generalize ps[i]=p at *
  conv=>whnf
  refine ⟨⟨trivial,by simp only;omega⟩,LoadAt.cell (.string (bs p)) rfl rfl (λw hw=>?_) ?_⟩
  ·have hrd:=rowH_reads rfl (hw.in_ 2 rfl)
   obtain ⟨ad,e1,_,e2⟩:=hrd.2 (by omega)
   injection e1 with e1
   subst e1
   have:=e2 i _ f1
   rw [add_plain] at this
   simpa using this
  conv=>whnf
  generalize ((ps.take i).map λp=>Value.int .i64 (read p).1)=us at *
  by_cases hij:i < j
  ·have hnu:=λR' (h:∀ w,Sat R' w→Sat R w)=>sNumberR (R:=R') (λw s=>hN w (h w s)) p hpi (read p).1 (Prod.ext rfl (hgi hij))
   generalize (read p).1=zz at *
   refine ⟨trivial,RegAt.trees0 [((Tr.T 0 (Tr.T 1 (Tr.T 2 (Tr.T 4 (Tr.C 3 (Tr.H 5 (Tr.H 6 (Tr.H 7 Tr.E))) 5 (Tr.C 3 (Tr.H 6 (Tr.H 7 Tr.E)) 6 (Tr.H 3 (Tr.H 7 Tr.E)))))))),8),((Tr.T 8 Tr.E),9),((Tr.H 9 Tr.E),10)] hmix (by kernel_rfl) ?_⟩
   conv=>whnf
   refine ⟨?_,?_⟩
   ·refine ⟨trivial,LoadAt.cell (.slice D i cd) rfl rfl (λw hw=>blk_cell (hw.in_ 1 rfl) (putC_get hks)) ?_⟩
    conv=>whnf
    refine ⟨trivial,⟨⟨rfl,rfl⟩,λh s=>sub_nil s⟩,?_⟩
    conv=>whnf
    refine ⟨trivial,CallAt.pure (λR' hR'=>hnu R' λw s=>Sat.rest (hR' w s)) ?_⟩
    conv=>whnf
    refine ⟨trivial,⟨⟨rfl,rfl⟩,λh s=>sub_nil s⟩,?_⟩
    conv=>whnf
    refine ⟨trivial,OpAt.lit [.int .i64 zz] 1 rfl rfl rfl rfl rfl (by decide) rfl rfl rfl (by simp [Value.cells]) rfl (by decide) λg=>?_⟩
    conv=>whnf
    refine ⟨trivial,⟨⟨rfl,rfl⟩,λh s=>sub_nil s⟩,?_⟩
    conv=>whnf
    refine ⟨trivial,OpAt.append (.slice D i cd) i 1 8 us [.int .i64 zz] (some ⟨g,0,none⟩) 1 1 _ rfl (λh s=>sepL_pull 1 s) rfl rfl rfl rfl rfl rfl rfl rfl rfl (by decide) (λw hw=>rowH_reads rfl (Sat.left hw)) (by simp [Value.oneCell']) (by simp only [maxLen];omega) (by omega) λD' cd'=>?_⟩
    conv=>whnf
    refine ⟨trivial,⟨⟨rfl,rfl⟩,λh s=>sub_nil s⟩,?_⟩
    conv=>whnf
    refine ⟨trivial,OpAt.store (A':=blkH b tb (putC cs k (.slice D' (i+1) cd'))) b k (.slice D' (i+1) cd') _ rfl (λh s=>sepL_pull 2 s) rfl rfl rfl rfl rfl (by simp [Value.cells,Value.oneCell']) (λh r=>?_) ?_⟩
    ·have hb:=blk_put (off:=k) (ys:=[.slice D' (i+1) cd']) (show k+1≤_ by rw [putC_size hks];omega) r
     rw [show (putL (putC cs k (.slice D i cd)).toList k [.slice D' (i+1) cd']).toArray=putC cs k (.slice D' (i+1) cd') from congrArg List.toArray (putL_again (by simpa using hks))] at hb
     exact hb
    conv=>whnf
    refine ⟨trivial,?_⟩
    conv=>whnf
    refine ⟨trivial,?_⟩
    conv=>whnf
    refine ⟨⟨trivial,by unfold rng;simp only;omega⟩,Next.heap (i+1,D',cd') (by simp only;omega) (by simp only;omega) ⟨⟨rfl,rfl⟩,trivial⟩ ⟨⟨rfl,rfl⟩,⟨rfl,rfl⟩,⟨rfl,rfl⟩,trivial⟩ trivial rfl rfl λh s=>?_⟩
    obtain ⟨h',e,s'⟩:=sub_tail (sepL_pull 2 s)
    refine ⟨h',e,?_⟩
    show sepL [rowH (.slice D' (i+1) cd') (i+1) 2 1 ((ps.take (i+1)).map λp=>.int .i64 (read p).1),blkH b tb (putC cs k (.slice D' (i+1) cd')),rowH (.slice (some ⟨B,0,none⟩) n n) n 9 1 (strV ps),tkH lb b0 off m0 c0 (k0+1)] R h'
    rw [f3]
    exact sepL_perm (List.Perm.swap _ _ _) s'
   ·refine ⟨trivial,CallAt.pure (λR' hR'=>hnu R' λw s=>Sat.rest (hR' w s)) ?_⟩
    conv=>whnf
    refine ⟨trivial,⟨⟨rfl,rfl⟩,λh s=>sub_nil s⟩,?_⟩
    conv=>whnf
    refine ⟨?_,?_⟩
    ·refine ⟨trivial,LoadAt.cell (.slice D i cd) rfl rfl (λw hw=>blk_cell (hw.in_ 1 rfl) (putC_get hks)) ?_⟩
     conv=>whnf
     refine ⟨trivial,⟨⟨rfl,rfl⟩,λh s=>sub_nil s⟩,?_⟩
     conv=>whnf
     refine ⟨trivial,OpAt.lit [.int .i64 zz] 1 rfl rfl rfl rfl rfl (by decide) rfl rfl rfl (by simp [Value.cells]) rfl (by decide) λg=>?_⟩
     conv=>whnf
     refine ⟨trivial,⟨⟨rfl,rfl⟩,λh s=>sub_nil s⟩,?_⟩
     conv=>whnf
     refine ⟨trivial,OpAt.append (.slice D i cd) i 1 8 us [.int .i64 zz] (some ⟨g,0,none⟩) 1 1 _ rfl (λh s=>sepL_pull 1 s) rfl rfl rfl rfl rfl rfl rfl rfl rfl (by decide) (λw hw=>rowH_reads rfl (Sat.left hw)) (by simp [Value.oneCell']) (by simp only [maxLen];omega) (by omega) λD' cd'=>?_⟩
     conv=>whnf
     refine ⟨trivial,⟨⟨rfl,rfl⟩,λh s=>sub_nil s⟩,?_⟩
     conv=>whnf
     refine ⟨trivial,OpAt.store (A':=blkH b tb (putC cs k (.slice D' (i+1) cd'))) b k (.slice D' (i+1) cd') _ rfl (λh s=>sepL_pull 2 s) rfl rfl rfl rfl rfl (by simp [Value.cells,Value.oneCell']) (λh r=>?_) ?_⟩
     ·have hb:=blk_put (off:=k) (ys:=[.slice D' (i+1) cd']) (show k+1≤_ by rw [putC_size hks];omega) r
      rw [show (putL (putC cs k (.slice D i cd)).toList k [.slice D' (i+1) cd']).toArray=putC cs k (.slice D' (i+1) cd') from congrArg List.toArray (putL_again (by simpa using hks))] at hb
      exact hb
     conv=>whnf
     refine ⟨trivial,?_⟩
     conv=>whnf
     refine ⟨trivial,?_⟩
     conv=>whnf
     refine ⟨⟨trivial,by unfold rng;simp only;omega⟩,Next.heap (i+1,D',cd') (by simp only;omega) (by simp only;omega) ⟨⟨rfl,rfl⟩,trivial⟩ ⟨⟨rfl,rfl⟩,⟨rfl,rfl⟩,⟨rfl,rfl⟩,trivial⟩ trivial rfl rfl λh s=>?_⟩
     obtain ⟨h',e,s'⟩:=sub_tail (sepL_pull 2 s)
     refine ⟨h',e,?_⟩
     show sepL [rowH (.slice D' (i+1) cd') (i+1) 2 1 ((ps.take (i+1)).map λp=>.int .i64 (read p).1),blkH b tb (putC cs k (.slice D' (i+1) cd')),rowH (.slice (some ⟨B,0,none⟩) n n) n 9 1 (strV ps),tkH lb b0 off m0 c0 (k0+1)] R h'
     rw [f3]
     exact sepL_perm (List.Perm.swap _ _ _) s'
    ·refine ⟨trivial,OpAt.lit [.int .i64 zz] 1 rfl rfl rfl rfl rfl (by decide) rfl rfl rfl (by simp [Value.cells]) rfl (by decide) λg=>?_⟩
     conv=>whnf
     refine ⟨trivial,⟨⟨rfl,rfl⟩,λh s=>sub_nil s⟩,?_⟩
     conv=>whnf
     refine ⟨trivial,LoadAt.cell (.slice D i cd) rfl rfl (λw hw=>blk_cell (hw.in_ 2 rfl) (putC_get hks)) ?_⟩
     conv=>whnf
     refine ⟨trivial,⟨⟨rfl,rfl⟩,λh s=>sub_nil s⟩,?_⟩
     conv=>whnf
     refine ⟨trivial,OpAt.append (.slice D i cd) i 1 8 us [.int .i64 zz] (some ⟨g,0,none⟩) 1 1 _ rfl (λh s=>sepL_pull 1 s) rfl rfl rfl rfl rfl rfl rfl rfl rfl (by decide) (λw hw=>rowH_reads rfl (Sat.left hw)) (by simp [Value.oneCell']) (by simp only [maxLen];omega) (by omega) λD' cd'=>?_⟩
     conv=>whnf
     refine ⟨trivial,⟨⟨rfl,rfl⟩,λh s=>sub_nil s⟩,?_⟩
     conv=>whnf
     refine ⟨trivial,OpAt.store (A':=blkH b tb (putC cs k (.slice D' (i+1) cd'))) b k (.slice D' (i+1) cd') _ rfl (λh s=>sepL_pull 2 s) rfl rfl rfl rfl rfl (by simp [Value.cells,Value.oneCell']) (λh r=>?_) ?_⟩
     ·have hb:=blk_put (off:=k) (ys:=[.slice D' (i+1) cd']) (show k+1≤_ by rw [putC_size hks];omega) r
      rw [show (putL (putC cs k (.slice D i cd)).toList k [.slice D' (i+1) cd']).toArray=putC cs k (.slice D' (i+1) cd') from congrArg List.toArray (putL_again (by simpa using hks))] at hb
      exact hb
     conv=>whnf
     refine ⟨trivial,?_⟩
     conv=>whnf
     refine ⟨trivial,?_⟩
     conv=>whnf
     refine ⟨⟨trivial,by unfold rng;simp only;omega⟩,Next.heap (i+1,D',cd') (by simp only;omega) (by simp only;omega) ⟨⟨rfl,rfl⟩,trivial⟩ ⟨⟨rfl,rfl⟩,⟨rfl,rfl⟩,⟨rfl,rfl⟩,trivial⟩ trivial rfl rfl λh s=>?_⟩
     obtain ⟨h',e,s'⟩:=sub_tail (sepL_pull 2 s)
     refine ⟨h',e,?_⟩
     show sepL [rowH (.slice D' (i+1) cd') (i+1) 2 1 ((ps.take (i+1)).map λp=>.int .i64 (read p).1),blkH b tb (putC cs k (.slice D' (i+1) cd')),rowH (.slice (some ⟨B,0,none⟩) n n) n 9 1 (strV ps),tkH lb b0 off m0 c0 (k0+1)] R h'
     rw [f3]
     exact sepL_perm (List.Perm.swap _ _ _) s'
  ·have hij:i=j:=by omega
   have hno:=λR' (h:∀ w,Sat R' w→Sat R w)=>sNumberNo (R:=R') (λw s=>hN w (h w s)) p hpi (hbi hij)
   refine ⟨trivial,RegAt.trees0 [((Tr.T 0 (Tr.T 1 (Tr.T 2 (Tr.T 4 (Tr.C 3 (Tr.H 5 (Tr.H 6 (Tr.H 7 Tr.E))) 5 (Tr.C 3 (Tr.H 6 (Tr.H 7 Tr.E)) 6 (Tr.H 3 (Tr.H 7 Tr.E)))))))),8),((Tr.T 8 Tr.E),9),((Tr.H 9 Tr.E),10)] hmix (by kernel_rfl) ?_⟩
   conv=>whnf
   refine ⟨?_,?_⟩
   ·refine ⟨trivial,LoadAt.cell (.slice D i cd) rfl rfl (λw hw=>blk_cell (hw.in_ 1 rfl) (putC_get hks)) ?_⟩
    conv=>whnf
    refine ⟨trivial,⟨⟨rfl,rfl⟩,λh s=>sub_nil s⟩,?_⟩
    conv=>whnf
    exact ⟨trivial,CallAt.panS (λR' hR'=>hno R' λw s=>Sat.rest (hR' w s)) (λch h=>h) (λw s=>s.rest) trivial⟩
   ·exact ⟨trivial,CallAt.panS (λR' hR'=>hno R' λw s=>Sat.rest (hR' w s)) (λch h=>h) (λw s=>s.rest) trivial⟩
 ·have hi3:n≤i:=by simpa using h
  omega
theorem sLegendNo0 {R:HP} {lb b0 off m0 c0 ob k:Nat} {tb:TypeId} {cs:Array Value} :
  PanR Tryz.prog R 45 [.pointer (some ⟨lb,0,none⟩),.pointer (some ⟨ob,k,none⟩)] [tkH lb b0 off m0 c0 m0,blkH ob tb cs] isThrown R:=by
 refine PanR.untk λA1 hA1=>?_
 refine pan_of_run0 _ _ false Tryz.func45 rfl hmix rfl λw0=>?_
 conv=>whnf
 refine ⟨trivial,LoadAt.cell (.bool true) rfl rfl (λw hw=>blk_cell (hw.in_ 0 rfl) rfl) ?_⟩
 conv=>whnf
 refine iff_f rfl ?_
 conv=>whnf
 exact ⟨trivial,CallAt.panT (pre:=[tkH lb b0 off m0 c0 m0]) _ (λh s=>tk_shut hA1 s) (λR' hR'=>sWordNo _) (λch h=>h) (λw s=>s.rest) trivial⟩
theorem sLegendNo {R:HP} {lb b0 off m0 c0 k0 ob k:Nat} {tb:TypeId} {cs:Array Value} {ws:List (List UInt8)} {z:List UInt8} (hW:∀ w,Sat R w→ReadW w) (hz:ws[k0]? = some z) (hl:z.length≤100000) (hR:readV z=none) (hn0:ws.length=m0) (hm0:m0≤1000000) (hc0:m0≤c0) (ha0:WordsAt R b0 off ws) :
  PanR Tryz.prog R 45 [.pointer (some ⟨lb,0,none⟩),.pointer (some ⟨ob,k,none⟩)] [tkH lb b0 off m0 c0 k0,blkH ob tb cs] isThrown R:=by
 have hrd:=λR' (h:∀ w,Sat R' w→Sat R w)=>sTReadNo (R:=R') (λw s=>hW w (h w s)) (s:=z) (by omega) hR
 refine PanR.untk λA1 hA1=>?_
 refine pan_of_run0 _ _ false Tryz.func45 rfl hmix rfl λw0=>?_
 conv=>whnf
 refine ⟨trivial,LoadAt.cell (.bool true) rfl rfl (λw hw=>blk_cell (hw.in_ 0 rfl) rfl) ?_⟩
 conv=>whnf
 refine iff_f rfl ?_
 conv=>whnf
 refine ⟨trivial,CallAt.fn (pre:=[tkH lb b0 off m0 c0 k0]) _ (λh s=>tk_shut hA1 s) (λR' hR'=>sWordT _ hz hn0 hm0 hc0 (ha0.mono λw s=>Sat.rest (hR' w s))) ?_⟩
 rintro r hs ⟨rfl,rfl⟩
 conv=>whnf
 refine ⟨trivial,CallAt.fn (pre:=[]) _ (λh s=>s) (λR' hR'=>hrd R' λw s=>Sat.rest (hR' w s)) ?_⟩
 rintro r hs ⟨rfl,rfl⟩
 conv=>whnf
 refine iff_t rfl ?_
 conv=>whnf
 exact ⟨trivial,OpAt.panic 73 (.agg #[.int .i64 12]) rfl rfl rfl rfl (λw s=>s.rest) trivial⟩
end Go.Proofs.YtcoefgkjlgngkaaGreatDoor
