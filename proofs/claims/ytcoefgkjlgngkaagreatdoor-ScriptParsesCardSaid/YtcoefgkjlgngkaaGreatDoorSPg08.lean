/-
  Texts of the proofs, one behind the other: Bld.
-/
import Derived.Test.YtcoefgkjlgngkaaGreatDoorSPg06
import Derived.Test.YtcoefgkjlgngkaaGreatDoorSPg03
import Derived.Test.YtcoefgkjlgngkaaGreatDoorSPg02
namespace Go.Proofs.YtcoefgkjlgngkaaGreatDoor
open Go.RowKit
open Sy
set_option linter.unusedVariables false
set_option linter.unusedSimpArgs false
set_option maxRecDepth 100000
set_option maxHeartbeats 4000000
def bldA (b:Nat) (u:Bool):Value:=.pointer (if u=true then some ⟨b,0,none⟩ else none)
abbrev bldHd (b:Nat) (u:Bool) (s:Value):HP:=blkH b 106 #[bldA b u,s]
def bldP (b:Nat) (l:List UInt8) (x:Bool × Option Addr × Nat):List HP:=[bldHd b x.1 (.slice x.2.1 l.length x.2.2),rowH (.slice x.2.1 l.length x.2.2) l.length 5 1 (byV l)]
def bldH (b:Nat) (l:List UInt8):HP:=boxH (bldP b l)
theorem bld_new {R:HP} {b:Nat} {L:List HP} {h:Hl} (s:sepL (blkH b 106 #[.pointer none,.slice none 0 0]::L) R h):sepL (bldH b []::L) R h:=by
 refine boxH_shut (parts:=bldP b []) (false,none,0) ?_
 exact sepL_perm (List.Perm.swap _ _ _) (row_nil (R:=sepL (blkH b 106 #[.pointer none,.slice none 0 0]::L) R) _ _ s)
theorem sCopyCheckU {R:HP} {b:Nat} {s:Value}:FnR Tryz.prog R 64 [.pointer (some ⟨b,0,none⟩)] [bldHd b true s] λr hs=>r=.tuple #[]∧hs=[bldHd b true s]:=by
 refine fn_of_run0 false Tryz.func64 rfl hmix rfl λw0=>?_
 conv=>whnf
 refine ⟨trivial,LoadAt.cell (.pointer (some ⟨b,0,none⟩)) rfl rfl (λw hw=>(blk_sat (show Sat (bldHd b true s) w from hw.in_ 0 rfl)).cell 0) ?_⟩
 conv=>whnf
 refine ⟨trivial,LoadAt.cell (.pointer (some ⟨b,0,none⟩)) rfl rfl (λw hw=>(blk_sat (show Sat (bldHd b true s) w from hw.in_ 0 rfl)).cell 0) ?_⟩
 conv=>whnf
 refine ⟨trivial,OpAt.ptrNe ⟨b,0,none⟩ rfl rfl rfl rfl Tryz.underlying104 rfl ?_⟩
 conv=>whnf
 repeat (first|(refine ⟨λ_=>?_,λh=>absurd h (by decide)⟩;conv=>whnf)|(refine ⟨λh=>absurd h (by decide),λ_=>?_⟩;conv=>whnf))
 exact ⟨trivial,.mk _ (λw s=>s) ⟨rfl,rfl⟩⟩
theorem sCopyCheckF {R:HP} {b:Nat} {s:Value}:FnR Tryz.prog R 64 [.pointer (some ⟨b,0,none⟩)] [bldHd b false s] λr hs=>r=.tuple #[]∧hs=[bldHd b true s]:=by
 refine fn_of_run0 false Tryz.func64 rfl hmix rfl λw0=>?_
 conv=>whnf
 refine ⟨trivial,LoadAt.cell (.pointer none) rfl rfl (λw hw=>(blk_sat (show Sat (bldHd b false s) w from hw.in_ 0 rfl)).cell 0) ?_⟩
 conv=>whnf
 refine ⟨trivial,OpAt.conv (r:=.pointer (some ⟨b,0,none⟩)) rfl rfl rfl (λw hw=>?_) ?_⟩
 ·have hb:=blk_sat (show Sat (bldHd b false s) w from hw.in_ 0 rfl)
  have hb':w.heap[b]? = _:=hb
  exact Lib.run_to_unsafe w ⟨b,0,none⟩ Tryz.underlying104 Tryz.underlying167 rfl (of_decide_eq_true (by kernel_rfl)) (e:=106) (cells:=2) (by simp [World.shape?,hb']) (Nat.zero_lt_succ 1)
 conv=>whnf
 refine ⟨trivial,OpAt.noEscape (f:=83) rfl rfl rfl rfl rfl (by kernel_rfl) (by kernel_rfl) (by kernel_rfl) (by kernel_rfl) ?_⟩
 conv=>whnf
 refine ⟨trivial,OpAt.conv (r:=.pointer (some ⟨b,0,none⟩)) rfl rfl rfl (λw hw=>?_) ?_⟩
 ·have hb:=blk_sat (show Sat (bldHd b false s) w from hw.in_ 0 rfl)
  have hb':w.heap[b]? = _:=hb
  exact Lib.run_from_unsafe w ⟨b,0,none⟩ Tryz.underlying167 Tryz.underlying104 rfl (e:=106) (cells:=2) (by simp [World.shape?,hb']) (by kernel_rfl)
 conv=>whnf
 refine ⟨trivial,OpAt.store b 0 (.pointer (some ⟨b,0,none⟩)) _ rfl (λh s=>s) rfl rfl rfl rfl rfl (by simp [Value.cells,Value.oneCell']) (λh r=>blk_put (by show 0+1≤2;omega) r) ?_⟩
 conv=>whnf
 exact ⟨trivial,.mk _ (λw s=>s) ⟨rfl,rfl⟩⟩
theorem sWriteString {R:HP} {b:Nat} {l:List UInt8} (m:List UInt8) (hl:l.length+m.length≤1000000) :
  FnR Tryz.prog R 47 [.pointer (some ⟨b,0,none⟩),.string (bs m)] [bldH b l] λr hs=>r=.tuple #[.int .i64 (m.length:Int),.nilIface]∧hs=[bldH b (l++m)]:=by
 refine FnR.unbox λ⟨u,A,c⟩=>?_
 rw [List.append_nil]
 have hcc:∀ R',FnR Tryz.prog R' 64 [.pointer (some ⟨b,0,none⟩)] [bldHd b u (.slice A l.length c)] λr hs=>r=.tuple #[]∧hs=[bldHd b true (.slice A l.length c)]:=λR'=>by
  cases u
  ·exact sCopyCheckF
  ·exact sCopyCheckU
 refine fn_of_run0 false Tryz.func47 rfl hmix rfl λw0=>?_
 conv=>whnf
 refine ⟨trivial,CallAt.fn (pre:=[bldHd b u (.slice A l.length c)]) _ (λh s=>s) (λR' hR'=>hcc R') ?_⟩
 rintro r hs ⟨rfl,rfl⟩
 conv=>whnf
 refine ⟨trivial,LoadAt.cell (.slice A l.length c) rfl rfl (λw hw=>(blk_sat (show Sat (bldHd b true (.slice A l.length c)) w from hw.in_ 0 rfl)).cell 1) ?_⟩
 conv=>whnf
 refine ⟨trivial,OpAt.appendS (.slice A l.length c) l.length (byV l) (bs m) _ rfl (λh s=>sepL_pull 1 s) rfl rfl rfl rfl rfl rfl rfl rfl rfl (by simp only [maxLen];rw [size_bs];omega) (by rw [size_bs];omega) λA' c'=>?_⟩
 rw [size_bs,strCells_bs]
 conv=>whnf
 refine ⟨trivial,OpAt.store b 1 (.slice A' (l.length+m.length) c') _ rfl (λh s=>sepL_pull 1 s) rfl rfl rfl rfl rfl (by simp [Value.cells,Value.oneCell']) (λh r=>blk_put (by show 1+1≤2;omega) r) ?_⟩
 conv=>whnf
 refine ⟨trivial,.mk [bldH b (l++m)] (λw ⟨h,hs,s⟩=>⟨h,hs,boxH_shut (parts:=bldP b (l++m)) (true,A',c') ?_⟩) ⟨rfl,rfl⟩⟩
 rw [List.append_nil]
 unfold bldP
 rw [List.length_append]
 have e:byV (l++m)=byV l++byV m:=List.map_append
 rw [e]
 exact s
theorem sAppendRune1 {R:HP} {A:Option Addr} {n c:Nat} {xs:List Value} (x:UInt8) (hx:x.toNat≤127) (hn:n≤1000000) :
  FnR Tryz.prog R 99 [.slice A n c,.int .i32 (x.toNat:Int)] [rowH (.slice A n c) n 5 1 xs] λr hs=>∃ A' c',r=.slice A' (n+1) c'∧hs=[rowH (.slice A' (n+1) c') (n+1) 5 1 (xs++byV [x])]:=by
 have w1:IntKind.u32.wrap (x.toNat:Int)=(x.toNat:Int):=IntWalk.u32_in _ ⟨by omega,by omega⟩
 have w2:IntKind.u8.wrap (x.toNat:Int)=(x.toNat:Int):=IntWalk.u8_in _ ⟨by omega,by omega⟩
 refine fn_of_run0 false Tryz.func99 rfl hmix rfl λw0=>?_
 conv=>whnf
 rw [w1]
 refine iff_t (decide_eq_true (by omega)) ?_
 conv=>whnf
 rw [w2]
 refine ⟨trivial,OpAt.lit (byV [x]) 1 rfl rfl rfl rfl rfl (by decide) rfl rfl rfl (by simp [Value.cells]) rfl (by decide) λg=>?_⟩
 conv=>whnf
 refine ⟨trivial,OpAt.append1 (.slice A n c) n 1 1 xs (byV [x]) (some ⟨g,0,none⟩) 1 1 _ rfl (λh s=>sepL_pull 1 s) rfl rfl rfl rfl rfl rfl rfl rfl rfl (by decide) (λw hw=>rowH_reads rfl (Sat.left hw)) (by simp [Value.oneCell']) (by simp only [maxLen];omega) (by omega) (by omega) λA' c'=>?_⟩
 conv=>whnf
 exact ⟨trivial,.mk [rowH (.slice (some ⟨A',0,none⟩) (n+1) c') (n+1) 5 1 (xs++byV [x])] (λw ⟨h,hs,s⟩=>by obtain ⟨h',e,s'⟩:=sub_drop1 s;exact ⟨h',hs.mono e,s'⟩) ⟨_,_,rfl,rfl⟩⟩
theorem sWriteRune1 {R:HP} {b:Nat} {l:List UInt8} (x:UInt8) (hx:x.toNat≤127) (hl:l.length≤1000000) :
  FnR Tryz.prog R 79 [.pointer (some ⟨b,0,none⟩),.int .i32 (x.toNat:Int)] [bldH b l] λr hs=>r=.tuple #[.int .i64 1,.nilIface]∧hs=[bldH b (l++[x])]:=by
 refine FnR.unbox λ⟨u,A,c⟩=>?_
 rw [List.append_nil]
 have hcc:∀ R',FnR Tryz.prog R' 64 [.pointer (some ⟨b,0,none⟩)] [bldHd b u (.slice A l.length c)] λr hs=>r=.tuple #[]∧hs=[bldHd b true (.slice A l.length c)]:=λR'=>by
  cases u
  ·exact sCopyCheckF
  ·exact sCopyCheckU
 refine fn_of_run0 false Tryz.func79 rfl hmix rfl λw0=>?_
 conv=>whnf
 refine ⟨trivial,CallAt.fn (pre:=[bldHd b u (.slice A l.length c)]) _ (λh s=>s) (λR' hR'=>hcc R') ?_⟩
 rintro r hs ⟨rfl,rfl⟩
 conv=>whnf
 refine ⟨trivial,LoadAt.cell (.slice A l.length c) rfl rfl (λw hw=>(blk_sat (show Sat (bldHd b true (.slice A l.length c)) w from hw.in_ 0 rfl)).cell 1) ?_⟩
 conv=>whnf
 refine ⟨trivial,LoadAt.cell (.slice A l.length c) rfl rfl (λw hw=>(blk_sat (show Sat (bldHd b true (.slice A l.length c)) w from hw.in_ 0 rfl)).cell 1) ?_⟩
 conv=>whnf
 refine ⟨trivial,CallAt.fn (pre:=[rowH (.slice A l.length c) l.length 5 1 (byV l)]) _ (λh s=>sepL_pull 1 s) (λR' hR'=>sAppendRune1 x hx hl) ?_⟩
 rintro r hs ⟨A',c',rfl,rfl⟩
 conv=>whnf
 refine ⟨trivial,OpAt.store b 1 (.slice A' (l.length+1) c') _ rfl (λh s=>sepL_pull 1 s) rfl rfl rfl rfl rfl (by simp [Value.cells,Value.oneCell']) (λh r=>blk_put (by show 1+1≤2;omega) r) ?_⟩
 conv=>whnf
 refine ⟨trivial,LoadAt.cell (.slice A' (l.length+1) c') rfl rfl (λw hw=>(blk_sat (show Sat (bldHd b true (.slice A' (l.length+1) c')) w from hw.in_ 0 rfl)).cell 1) ?_⟩
 conv=>whnf
 have e1:((l.length+1:Nat):Int) - (l.length:Int)=1:=by omega
 rw [e1]
 refine ⟨⟨trivial,by unfold rng;omega⟩,.mk [bldH b (l++[x])] (λw ⟨h,hs,s⟩=>⟨h,hs,boxH_shut (parts:=bldP b (l++[x])) (true,A',c') ?_⟩) ⟨rfl,rfl⟩⟩
 rw [List.append_nil]
 unfold bldP
 rw [List.length_append]
 have e:byV (l++[x])=byV l++byV [x]:=List.map_append
 rw [e]
 exact s
end Go.Proofs.YtcoefgkjlgngkaaGreatDoor
