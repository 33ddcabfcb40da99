/-
  Texts of the proofs, one behind the other: BldS, ScM.
-/
import Derived.Test.YtcoefgkjlgngkaaGreatDoorSPg08
import Derived.Test.YtcoefgkjlgngkaaGreatDoorSPg07
namespace Go.Proofs.YtcoefgkjlgngkaaGreatDoor
open Go.RowKit
open Sy
set_option linter.unusedVariables false
set_option linter.unusedSimpArgs false
set_option maxRecDepth 100000
set_option maxHeartbeats 4000000
theorem row_capS {A:Option Addr} {n c size:Nat} {e:TypeId} {xs:List Value} {w:World} (s:Sat (rowH (.slice A n c) n e size xs) w):n≤c:=by
 obtain ⟨h,_,_,r⟩:=s
 rcases r with ⟨e,h0,_⟩|⟨g,cap,cur,e,_,h1,_⟩
 ·omega
 ·injection e with _ _ e
  omega
theorem OpAt.sliceData {G:Gl} {o:Oper} {st:St} {K:St→Prop} {x:Operand} {t:TypeId} (a:Addr) (n c:Nat) (hc:c≠0) (ho:o.op=.call { callee:=.builtin .unsafeSliceData,args:=#[x],argTypes:=#[t] }) (hx:evR st x=.slice (some a) n c) (hr:allR st o.op.operands.toList=true) (k:putK G st o.dst (.v (.pointer (some a))) none K):OpAt G o st K:=by
 refine OpAt.val (.pointer (some a)) (by rw [ho];rfl) hr (λw sat=>?_) k
 have ha:(#[x]:Array Operand).map (evR st)=#[.slice (some a) n c]:=by simp [hx]
 simp only [execOp,ho,resolve,invoke,builtin,Sem.run_bind,Sem.run_pure,Result.andThen_ok,ha,Lib.run_unsafeSliceData_row (P:=G.P) w _ _ a n c hc]
 try rfl
theorem sBString {R:HP} {b:Nat} {l:List UInt8} (h0:l≠[]) (hl:l.length≤1000000) :
  FnR Tryz.prog R 48 [.pointer (some ⟨b,0,none⟩)] [bldH b l] λr hs=>r=.string (bs l)∧hs=[]:=by
 refine FnR.unbox λ⟨u,A,c⟩=>?_
 rw [List.append_nil]
 refine FnR.of_sat λwS hsat=>?_
 have hp:0 < l.length:=List.length_pos_iff.2 h0
 obtain ⟨ad,hA,_,_⟩:=(rowH_reads rfl (hsat.in_ 1 rfl)).2 hp
 obtain ⟨g,hg⟩:∃ g,A=some ⟨g,0,none⟩:=by
  obtain ⟨h,_,_,r⟩:=hsat.in_ 1 rfl
  rcases r with ⟨e,_,_⟩|⟨g,_,_,e,_⟩
  ·injection e with e
   rw [e] at hA
   cases hA
  ·injection e with e
   exact ⟨g,e⟩
 subst hg
 clear hA
 have hcl:l.length≤c:=row_capS (hsat.in_ 1 rfl)
 refine fn_of_run0 false Tryz.func48 rfl hmix rfl λw0=>?_
 conv=>whnf
 refine ⟨trivial,RegAt.groups [([.T 0,.T 1,.T 2,.T 3,.T 5,.T 6,.T 7,.T 8,.T 9,.H 4],10),([.H 10],11),([.T 11],12)] hmix (by kernel_rfl) ?_⟩
 conv=>whnf
 refine ⟨trivial,LoadAt.cell (.slice (some ⟨g,0,none⟩) l.length c) rfl rfl (λw hw=>(blk_sat (show Sat (bldHd b u (.slice (some ⟨g,0,none⟩) l.length c)) w from hw.in_ 0 rfl)).cell 1) ?_⟩
 conv=>whnf
 refine ⟨trivial,LoadAt.cell (.slice (some ⟨g,0,none⟩) l.length c) rfl rfl (λw hw=>(blk_sat (show Sat (bldHd b u (.slice (some ⟨g,0,none⟩) l.length c)) w from hw.in_ 0 rfl)).cell 1) ?_⟩
 conv=>whnf
 refine ⟨trivial,OpAt.sliceData ⟨g,0,none⟩ l.length c (by omega) rfl rfl rfl ?_⟩
 conv=>whnf
 refine ⟨trivial,⟨⟨rfl,rfl⟩,λh s=>sub_same s⟩,?_⟩
 conv=>whnf
 refine ⟨trivial,OpAt.unsafeStr g c l [bldHd b u (.slice (some ⟨g,0,none⟩) l.length c)] rfl (λh s=>sepL_pull 1 s) rfl rfl rfl rfl rfl h0 (by omega) ?_⟩
 conv=>whnf
 refine ⟨trivial,?_⟩
 conv=>whnf
 exact ⟨trivial,fin_drop rfl⟩
theorem putL_mid (xs:List Value) (z v:Value) (zs:List Value):putL (xs++z::zs) xs.length [v]=xs++v::zs:=by
 unfold putL
 simp
theorem putL_again {cs:List Value} {k:Nat} {u v:Value} (hk:k < cs.length):putL (putL cs k [u]) k [v]=putL cs k [v]:=by
 apply List.ext_getElem?
 intro i
 rw [putL_get (by rw [putL_len (by simp;omega)];simp;omega),putL_get (by simp;omega),putL_get (by simp;omega)]
 split
 ·rfl
 ·rename_i c
  exact if_neg c
theorem made_str (n:Nat):(madeCells (Value.string .empty).cells (n * 1)).toList=List.replicate n (.string .empty):=by
 rw [Nat.mul_one]
 exact made_const (z:=#[.string .empty]) (by intro i hi;simp at hi;subst hi;rfl) (by simp) n
theorem sJoin {R:HP} {A:Option Addr} {n c:Nat} (hN:∀ w,Sat R w→NumW w) (l:List Int) (hl:l.length=n) (hn:n≤1000000) (hi:∀ x∈l,I64 x) (ha:Sl R A n 1 (l.flatMap numL)):PureR Tryz.prog R 59 [.slice A n c] (.string (bs (listW l))):=by
 refine PureR.of_sat λwS hS=>?_
 obtain ⟨_,sa⟩:=ha.spot (by omega) hS
 have hlw:=listW_len hi
 have f0:∀ i (h:i < l.length),(l.flatMap numL)[i]? = some (.int .i64 l[i]):=λi h=>by
  have:=flat_at (f:=numL) (s:=1) (λ_=>rfl) (l:=l) (i:=i) (j:=0) h (by omega)
  rwa [Nat.mul_one,Nat.add_zero] at this
 refine fn_of_run0 false Tryz.func59 rfl hmix rfl λw0=>?_
 conv=>whnf
 refine ⟨λh=>?_,λh=>?_⟩
 ·have h0:n=0:=by have:=of_decide_eq_true h;omega
  subst h0
  obtain rfl:l=[]:=List.length_eq_zero_iff.1 hl
  conv=>whnf
  exact ⟨trivial,fin_pure rfl rfl⟩
 have hne:l≠[]:=by
  rintro rfl
  have:=of_decide_eq_false h
  simp at hl
  omega
 have hp:0 < n:=by have:=List.length_pos_iff.2 hne;omega
 conv=>whnf
 refine ⟨trivial,OpAt.make n 1 (List.replicate n (.string .empty)) rfl rfl rfl rfl rfl rfl rfl rfl (made_str n) (by show 16 * n≤_;omega) (by simp only [maxLen];omega) λg=>?_⟩
 conv=>whnf
 refine ⟨trivial,LoopAt.heap (α:=Nat) [3,12,13] (λi=>[(14,.v (.int .i64 (i:Int)))]) (λi=>[rowH (.slice (some ⟨g,0,none⟩) n n) n 9 1 (strV ((l.take i).map Lib.itoa)++List.replicate (n - i) (.string .empty))]) (λi=>i≤n) (λi=>n - i) 0 (Nat.zero_le _) rfl ⟨⟨rfl,rfl⟩,trivial⟩ ⟨⟨rfl,rfl⟩,⟨rfl,rfl⟩,⟨rfl,rfl⟩,trivial⟩ trivial (λh s=>sub_same (by simpa using s)) ?_⟩
 intro i hi'
 conv=>whnf
 refine ⟨λh=>?_,λh=>?_⟩
 ·have hi2:i < n:=by simpa using h
  rcases sa with sa|⟨ab,off,rfl,sa⟩
  ·omega
  have hil:i < l.length:=by omega
  have f1:=f0 i hil
  have f2:(l.take (i+1)).map Lib.itoa=(l.take i).map Lib.itoa++[Lib.itoa l[i]]:=by rw [List.take_succ_eq_append_getElem hil,List.map_append];rfl
  have f3:(strV ((l.take i).map Lib.itoa)).length=i:=by simp;omega
  have f4:=hi _ (List.getElem_mem hil)
  generalize l[i]=z at *
  conv=>whnf
  refine ⟨⟨trivial,by omega⟩,LoadAt.cell (.int .i64 z) rfl rfl (λw hw=>?_) ?_⟩
  ·simp only [Int.toNat_natCast,Nat.mul_one]
   exact sa w (Sat.rest hw) _ _ f1
  conv=>whnf
  refine ⟨trivial,CallAt.pure (λR' hR'=>sPrint (λw s=>hN w (Sat.rest (hR' w s))) z f4.1 f4.2) ?_⟩
  conv=>whnf
  refine ⟨⟨trivial,by omega⟩,OpAt.store (A':=rowH (.slice (some ⟨g,0,none⟩) n n) n 9 1 (strV ((l.take (i+1)).map Lib.itoa)++List.replicate (n - (i+1)) (.string .empty))) g i (.string (bs (Lib.itoa z))) _ rfl (λh s=>s) (congrArg (λk=>Value.pointer (some ⟨g,k,none⟩)) (show 0+(i:Int).toNat=i by simp)) rfl rfl rfl rfl (by simp [Value.cells,Value.oneCell']) (λh r=>?_) ?_⟩
  ·have hb:=row_put (off:=i) (ys:=[.string (bs (Lib.itoa z))]) (by simp;omega) r
   have e:putL (strV ((l.take i).map Lib.itoa)++List.replicate (n - i) (.string .empty)) i [.string (bs (Lib.itoa z))]=strV ((l.take (i+1)).map Lib.itoa)++List.replicate (n - (i+1)) (.string .empty):=by
    rw [f2,show n - i=(n - (i+1))+1 by omega,List.replicate_succ]
    have:=putL_mid (strV ((l.take i).map Lib.itoa)) (.string .empty) (.string (bs (Lib.itoa z))) (List.replicate (n - (i+1)) (.string .empty))
    rw [f3] at this
    rw [this]
    simp
   rw [e] at hb
   exact hb
  conv=>whnf
  exact ⟨(by (repeat' apply And.intro)<;>first|exact True.intro|(unfold rng;omega)|omega),Next.heap (i+1) (by omega) (by omega) ⟨⟨rfl,rfl⟩,trivial⟩ ⟨⟨rfl,rfl⟩,⟨rfl,rfl⟩,⟨rfl,rfl⟩,trivial⟩ trivial rfl rfl λh s=>sub_same s⟩
 ·have hi3:i=n:=by simp at h;omega
  subst hi3
  conv=>whnf
  have hws:(l.map Lib.itoa).length=i:=by simpa using hl
  have hjn:jn 44 (l.map Lib.itoa)=listW l:=by unfold listW;rw [if_neg hne]
  refine ⟨trivial,CallAt.pure (λR' hR'=>sJoinC 44 (l.map Lib.itoa) hws (Nat.le_refl _) (Sl.row (c:=i) (e:=9) λw s=>?_) hp (by rw [hjn];omega) (by omega)) ?_⟩
  ·have:=(hR' w s).in_ 0 rfl
   rw [List.take_of_length_le (by omega),Nat.sub_self,List.replicate_zero,List.append_nil] at this
   exact this
  rw [hjn]
  conv=>whnf
  exact ⟨trivial,fin_drop rfl⟩
end Go.Proofs.YtcoefgkjlgngkaaGreatDoor
