/-
  Texts of the proofs, one behind the other: ScRb.
-/
import Derived.Test.YtcoefgkjlgngkaaGreatDoorSPg07
import Derived.Test.YtcoefgkjlgngkaaGreatDoorSPg10
namespace Go.Proofs.YtcoefgkjlgngkaaGreatDoor
open Go.RowKit
open Sy
set_option linter.unusedVariables false
set_option linter.unusedSimpArgs false
set_option maxRecDepth 100000
set_option maxHeartbeats 4000000
theorem hexQ (z:UInt8):byteAt HXs ((z.toNat:Int).tdiv 16).toNat=((hexd (z.toNat / 16)).toNat:Int):=by
 have hz:=z.toNat_lt
 have e:((z.toNat:Int).tdiv 16).toNat=z.toNat / 16:=by rw [Int.tdiv_eq_ediv_of_nonneg (by omega)];omega
 rw [e]
 exact dig16 ⟨z.toNat / 16,by omega⟩
theorem hexM (z:UInt8):byteAt HXs ((z.toNat:Int).tmod 16).toNat=((hexd (z.toNat % 16)).toNat:Int):=by
 have hz:=z.toNat_lt
 have e:((z.toNat:Int).tmod 16).toNat=z.toNat % 16:=by rw [Int.tmod_eq_emod_of_nonneg (by omega)];omega
 rw [e]
 exact dig16 ⟨z.toNat % 16,by omega⟩
theorem sRfBytes {R:HP} {A:Option Addr} {n c:Nat} (l:List UInt8) (hl:l.length=n) (hn:n≤400000) (ha:Sl R A n 1 (byV l)):PureR Tryz.prog R 38 [.slice A n c] (.string (bs (wds 32 [hexW l]))):=by
 refine PureR.of_sat λwS hS=>?_
 obtain ⟨_,sa⟩:=ha.spot (by omega) hS
 refine fn_of_run0 true Tryz.func38 rfl hmix rfl λw0=>?_
 conv=>whnf
 refine ⟨λh=>?_,λh=>?_⟩
 ·have h0:n=0:=by have:=of_decide_eq_true h;omega
  subst h0
  obtain rfl:l=[]:=List.length_eq_zero_iff.1 hl
  conv=>whnf
  exact ⟨trivial,fin_pure rfl rfl⟩
 have hne:l≠[]:=by
  rintro rfl
  have:=of_decide_eq_false h
  simp at hl
  omega
 conv=>whnf
 refine ⟨trivial,OpAt.lit [.int .u8 32] 1 rfl rfl rfl rfl rfl (by decide) rfl rfl rfl (by simp [Value.cells]) rfl (by decide) λg=>?_⟩
 conv=>whnf
 refine ⟨trivial,LoopAt.heap (α:=Nat × Nat × Nat) [0,3] (λa=>[(4,.v (.slice (some ⟨a.2.1,0,none⟩) (1+2 * a.1) a.2.2)),(5,.v (.int .i64 (a.1:Int)))]) (λa=>[rowH (.slice (some ⟨a.2.1,0,none⟩) (1+2 * a.1) a.2.2) (1+2 * a.1) 5 1 (byV (32::hexT (l.take a.1)))]) (λa=>a.1≤n) (λa=>n - a.1) (0,g,1) (Nat.zero_le _) rfl ⟨⟨rfl,rfl⟩,⟨rfl,rfl⟩,trivial⟩ ⟨⟨rfl,rfl⟩,⟨rfl,rfl⟩,trivial⟩ trivial (λh s=>sub_same s) ?_⟩
 rintro ⟨i,B,cb⟩ hi
 simp only at hi
 conv=>whnf
 refine ⟨λh3=>?_,λh3=>?_⟩
 ·have g3:i < n:=by simpa using h3
  rcases sa with sa|⟨ab,off,rfl,sa⟩
  ·omega
  have hil:i < l.length:=by omega
  have f1:(byV l)[i]? = some (.int .u8 (l[i].toNat:Int)):=by simp [hil]
  have hnx:byV (32::hexT (l.take (i+1)))=byV (32::hexT (l.take i))++[.int .u8 ((hexd (l[i].toNat / 16)).toNat:Int),.int .u8 ((hexd (l[i].toNat % 16)).toNat:Int)]:=by
   rw [List.take_succ_eq_append_getElem hil,hexT_append]
   show byV ((32::hexT (l.take i))++[hexd (l[i].toNat / 16),hexd (l[i].toNat % 16)])=_
   unfold byV
   rw [List.map_append]
   rfl
  have hz:=l[i].toNat_lt
  generalize l[i]=z at *
  generalize byV (32::hexT (l.take i))=us at *
  conv=>whnf
  refine ⟨trivial,RegAt.groups [([.T 0,.T 1,.T 2,.T 3,.T 4,.T 5,.T 6,.T 7,.T 8,.T 9,.T 10,.T 11,.T 12,.T 13,.T 14,.H 15],16),([.H 16],17),([.T 17],18)] hmix (by kernel_rfl) ?_⟩
  conv=>whnf
  refine ⟨⟨trivial,by simp only;omega⟩,LoadAt.cell (.int .u8 (z.toNat:Int)) rfl rfl (λw hw=>?_) ?_⟩
  ·simp only [Int.toNat_natCast,Nat.mul_one]
   exact sa w (Sat.rest hw) _ _ f1
  conv=>whnf
  refine ⟨?_,LoadAt.cell (.int .u8 (z.toNat:Int)) rfl rfl (λw hw=>?_) ?_⟩
  rotate_left
  ·simp only [Int.toNat_natCast,Nat.mul_one]
   exact sa w (Sat.rest hw) _ _ f1
  ·conv=>whnf
   refine ⟨⟨⟨trivial,by decide⟩,?_⟩,OpAt.lit [.int .u8 ((hexd (z.toNat / 16)).toNat:Int),.int .u8 ((hexd (z.toNat % 16)).toNat:Int)] 1 rfl rfl rfl rfl rfl (by decide) rfl rfl ?_ (by simp [Value.cells]) rfl (by decide) λg2=>?_⟩
   ·show 0≤(z.toNat:Int).tmod 16∧(z.toNat:Int).tmod 16 < 16
    rw [Int.tmod_eq_emod_of_nonneg (by omega)]
    omega
   ·show _=[Value.int .u8 (byteAt HXs ((z.toNat:Int).tdiv 16).toNat),Value.int .u8 (byteAt HXs ((z.toNat:Int).tmod 16).toNat)]
    rw [hexQ,hexM]
   conv=>whnf
   refine ⟨trivial,⟨⟨rfl,rfl⟩,λh s=>sub_tail s⟩,?_⟩
   conv=>whnf
   refine ⟨trivial,OpAt.append1 (.slice (some ⟨B,0,none⟩) (1+2 * i) cb) (1+2 * i) 1 1 us [.int .u8 ((hexd (z.toNat / 16)).toNat:Int),.int .u8 ((hexd (z.toNat % 16)).toNat:Int)] (some ⟨g2,0,none⟩) 2 2 _ rfl (λh s=>sepL_pull 1 s) rfl rfl rfl rfl rfl rfl rfl rfl rfl (by decide) (λw hw=>rowH_reads rfl (hw.in_ 0 rfl)) (by simp [Value.oneCell']) (by simp only [maxLen];omega) (by omega) (by omega) λB' cb'=>?_⟩
   conv=>whnf
   refine ⟨trivial,?_⟩
   conv=>whnf
   rw [show 1+2 * i+2=1+2 * (i+1) by omega]
   refine ⟨⟨trivial,by unfold rng;simp only;omega⟩,Next.heap (i+1,B',cb') (by simp only;omega) (by simp only;omega) ⟨⟨rfl,rfl⟩,⟨rfl,rfl⟩,trivial⟩ ⟨⟨rfl,rfl⟩,⟨rfl,rfl⟩,trivial⟩ trivial rfl rfl λh s=>?_⟩
   obtain ⟨h',e,s'⟩:=sub_drop1 s
   refine ⟨h',e,?_⟩
   show sepL [rowH (.slice (some ⟨B',0,none⟩) (1+2 * (i+1)) cb') (1+2 * (i+1)) 5 1 (byV (32::hexT (l.take (i+1))))] R h'
   rw [hnx]
   exact s'
  ·have e:(z.toNat:Int).tdiv 16=((z.toNat / 16:Nat):Int):=by rw [Int.tdiv_eq_ediv_of_nonneg (by omega)];omega
   refine ⟨⟨⟨trivial,by decide,?_⟩,?_⟩,by simp only;omega⟩
   ·rw [e]
    simp [IntKind.wrap,IntKind.bits,IntKind.signed]
    omega
   ·rw [e]
    show 0≤((z.toNat / 16:Nat):Int)∧((z.toNat / 16:Nat):Int) < 16
    omega
 ·have g3:i=n:=by simp at h3;omega
  subst g3
  have e:l.take i=l:=List.take_of_length_le (by omega)
  have e2:wds 32 [hexW l]=32::hexT l:=by unfold hexW;rw [if_neg hne];simp [wds]
  have e3:1+2 * i=(32::hexT l).length:=by rw [List.length_cons,hexT_len];omega
  rw [e,e3,e2]
  conv=>whnf
  refine ⟨trivial,OpAt.bytesStr B (32::hexT l).length cb (32::hexT l) [] rfl (λh s=>s) rfl rfl rfl rfl rfl ?_⟩
  conv=>whnf
  exact ⟨trivial,fin_drop rfl⟩
end Go.Proofs.YtcoefgkjlgngkaaGreatDoor
