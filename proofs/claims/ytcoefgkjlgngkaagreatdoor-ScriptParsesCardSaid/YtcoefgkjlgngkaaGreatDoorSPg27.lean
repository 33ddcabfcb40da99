/-
  Texts of the proofs, one behind the other: TintN, TintO.
-/
import Derived.Test.YtcoefgkjlgngkaaGreatDoorSPg16
namespace Go.Proofs.YtcoefgkjlgngkaaGreatDoor
open Go.RowKit
open Sy
set_option linter.unusedVariables false
set_option linter.unusedSimpArgs false
set_option maxRecDepth 100000
set_option maxHeartbeats 4000000
def xN (x:List UInt8) (k:Nat):Int:=(((x[k]?).getD 0).toNat:Int)
def candI (x:List UInt8):Nat→Int
 |1=>xN x 0
 |2=>(xN x 0 - 192) * 64+xN x 1 - 128
 |_=>(xN x 0 - 224) * 4096+(xN x 1 - 128) * 64+xN x 2 - 128
theorem cand_utf {x:List UInt8} {c k:Nat} (h:x.take k=utfN c) (hk:k=(utfN c).length) (hs:SignN c):candI x k=(c:Int):=by
 unfold SignN at hs
 unfold utfN at h hk
 split at h
 ·rename_i h1
  rw [if_pos h1] at hk
  simp only [List.length_cons,List.length_nil] at hk
  subst hk
  rcases x with _|⟨a,x⟩
  ·simp at h
  simp at h
  subst h
  show (((u8 c).toNat:Nat):Int)=c
  rw [u8_nat (by omega)]
 ·rename_i h1
  rw [if_neg h1] at hk
  split at h
  ·rename_i h2
   rw [if_pos h2] at hk
   simp only [List.length_cons,List.length_nil] at hk
   subst hk
   rcases x with _|⟨a,_|⟨b,x⟩⟩
   ·simp at h
   ·simp at h
   simp at h
   obtain ⟨rfl,rfl⟩:=h
   show ((((u8 (192+c / 64)).toNat:Nat):Int) - 192) * 64+(((u8 (128+c % 64)).toNat:Nat):Int) - 128=c
   rw [u8_nat (by omega),u8_nat (by omega)]
   omega
  ·rename_i h2
   rw [if_neg h2] at hk
   simp only [List.length_cons,List.length_nil] at hk
   subst hk
   rcases x with _|⟨a,_|⟨b,_|⟨d,x⟩⟩⟩
   ·simp at h
   ·simp at h
   ·simp at h
   simp at h
   obtain ⟨rfl,rfl,rfl⟩:=h
   show ((((u8 (224+c / 4096)).toNat:Nat):Int) - 224) * 4096+((((u8 (128+c / 64 % 64)).toNat:Nat):Int) - 128) * 64+(((u8 (128+c % 64)).toNat:Nat):Int) - 128=c
   rw [u8_nat (by omega),u8_nat (by omega),u8_nat (by omega)]
   omega
def Hit (x:List UInt8) (n:Nat):Prop:=SignI (candI x n)∧utfN (candI x n).toNat=x.take n
theorem rune_hit {x:List UInt8} {n:Nat} (hl:n≤x.length) (h:Hit x n):runeV x=(candI x n,n):=by
 obtain ⟨h1,h2⟩:=h
 have:=runeV_of h1 (x.drop n)
 rw [h2,List.take_append_drop,List.length_take,Nat.min_eq_left hl] at this
 exact this
theorem rune_miss {x:List UInt8} (h:∀ n,1≤n→n≤3→n≤x.length→¬ Hit x n):runeV x=(0,0):=by
 rcases hr:runeV x with ⟨r,k⟩
 by_cases hk:k=0
 ·subst hk
  unfold runeV at hr
  split at hr
  ·rename_i hc
   rcases hd:dec x with ⟨c,j⟩
   rw [hd] at hr hc
   injection hr with e1 e2
   simp only at e2 hc
   subst e2
   exact absurd (utf_dec hd hc.1).1.symm (utfN_ne c)
  ·exact hr.symm
 ·exfalso
  obtain ⟨h1,h2,h3⟩:=runeV_some hr hk
  have hl:k=(utfN r.toNat).length:=by rw [← h2,List.length_take];omega
  have hu:=utfN_len r.toNat
  have e:=cand_utf h2 hl h1.2
  have e':candI x k=r:=by rw [e];exact Int.toNat_of_nonneg h1.1
  exact h k (by omega) (by omega) h3 ⟨by rw [e'];exact h1,by rw [e',h2]⟩
theorem xN_lt (x:List UInt8) (k:Nat):0≤xN x k∧xN x k≤255:=by
 unfold xN
 have:=((x[k]?).getD 0).toNat_lt
 omega
theorem sRune33 {R:HP} (x:List UInt8) (hl:x.length≤1048576):PureR Tryz.prog R 32 [.string (bs x)] (.tuple #[.int .i32 (runeV x).1,.int .i64 ((runeV x).2:Int)]):=by
 have hit:=λn=>rune_hit (x:=x) (n:=n)
 have miss:=rune_miss (x:=x)
 have hb:∀ k,byteAt (bs x) k=xN x k:=λk=>byteAt_bs x k
 generalize runeV x=rv at *
 refine fn_of_run0 false Tryz.func32 rfl hmix rfl λw0=>?_
 conv=>whnf
 refine ⟨trivial,LoopAt.of (α:=Nat) [0] (λn=>[(4,.v (.int .i64 (n:Int)))]) (λ_=>[]) (λ_=>[]) (λn=>1≤n∧n≤4∧∀ m,1≤m→m < n→m≤x.length→¬ Hit x m) (λn=>4 - n) 1 ⟨by omega,by omega,λm h1 h2=>by omega⟩
  (Le.of (Nat.le_of_ble_eq_true rfl) (Nat.zero_le _) ⟨⟨rfl,rfl⟩,⟨rfl,rfl⟩,trivial⟩ trivial λh s=>sub_same s) ?_⟩
 rintro n ⟨h1,h4,hm⟩
 rcases (show n=1∨n=2∨n=3∨n=4 by omega) with rfl|rfl|rfl|rfl
 ·conv=>whnf
  refine ⟨λ_=>?_,λh=>absurd h (by simp)⟩
  conv=>whnf
  refine ⟨λh5=>?_,λh5=>?_⟩
  ·have g5:1≤x.length:=by simp [bs_size] at h5;omega
   have hr:=hit 1 g5
   have hn:¬ Hit x 1→∀ m,1≤m→m < 1+1→m≤x.length→¬ Hit x m:=λh m h1 h2 h3=>by
    rcases Nat.lt_or_ge m 1 with c|c
    ·exact hm m h1 c h3
    ·rw [show m=1 by omega];exact h
   unfold Hit at hr hn
   conv=>whnf
   repeat (first|(refine ⟨λ_=>?_,λh=>absurd h (by decide)⟩;conv=>whnf)|(refine ⟨λh=>absurd h (by decide),λ_=>?_⟩;conv=>whnf))
   rw [show byteAt (bs x) (Int.toNat 0)=candI x 1 from hb 0]
   have hc:-2147483648≤candI x 1∧candI x 1≤2147483647:=by have:=xN_lt x 0;show -2147483648≤xN x 0∧xN x 0≤2147483647;omega
   generalize candI x 1=r at *
   refine ⟨⟨⟨trivial,by rw [bs_size];omega⟩,by unfold rng;omega⟩,?_⟩
   have hrs:=λR'=>sRSign (R:=R') r
   by_cases hs:SignI r
   ·rw [decide_eq_true hs] at hrs
    have hs2:=hs.2
    obtain ⟨c,rfl⟩:∃ c:Nat,r=(c:Int):=⟨r.toNat,by have:=hs.1;omega⟩
    rw [Int.toNat_natCast] at hr hn hs2
    refine RegAt.groups [([.T 0],1),([.H 1],2),([.T 2,.T 3,.T 6,.T 7,.T 8,.H 4,.H 5],9),([.T 9],10),([.T 10],11)] hmix (by kernel_rfl) ?_
    conv=>whnf
    refine ⟨trivial,CallAt.pure (λR' hR'=>hrs R') ?_⟩
    conv=>whnf
    refine ⟨λ_=>?_,λh=>absurd h (by simp)⟩
    conv=>whnf
    refine ⟨⟨trivial,by omega,by omega,by rw [bs_size];omega⟩,CallAt.fn (pre:=[]) _ (λh s=>s) (λR' _=>sBytes hs2) ?_⟩
    rintro r hs' ⟨g,rfl,rfl⟩
    conv=>whnf
    refine ⟨trivial,⟨⟨rfl,rfl⟩,λh s=>sub_tail s⟩,?_⟩
    conv=>whnf
    refine ⟨trivial,OpAt.bytesStr g (utfN c).length (utfN c).length (utfN c) [] rfl (λh s=>s) rfl rfl rfl rfl rfl ?_⟩
    conv=>whnf
    refine ⟨trivial,⟨⟨rfl,rfl⟩,λh s=>sub_tail s⟩,?_⟩
    conv=>whnf
    refine ⟨trivial,?_⟩
    conv=>whnf
    have ex:(bs x).extract (Int.toNat 0) (Int.toNat ((1:Nat):Int))=bs (x.take 1):=by rw [bs_extract];rfl
    rw [ex]
    refine ⟨λh6=>?_,λh6=>?_⟩
    ·have h6:=bs_inj.1 (of_decide_eq_true h6)
     rw [hr ⟨hs,h6⟩]
     conv=>whnf
     exact ⟨trivial,fin_drop rfl⟩
    ·have h6:utfN c≠x.take 1:=λe=>by rw [e] at h6;simp at h6
     conv=>whnf
     refine ⟨⟨trivial,by unfold rng;omega⟩,.mk 2 ⟨by omega,by omega,hn λh=>h6 h.2⟩ (by omega) (Le.of (Nat.le_of_ble_eq_true rfl) (Nat.zero_le _) ⟨⟨rfl,rfl⟩,⟨rfl,rfl⟩,trivial⟩ trivial λh s=>sub_nil s)⟩
   ·rw [decide_eq_false hs] at hrs
    refine RegAt.groups [([.T 0],1),([.H 1],2),([.T 2,.T 3,.T 6,.T 7,.T 8,.H 4,.H 5],9),([.T 9],10),([.T 10],11)] hmix (by kernel_rfl) ?_
    conv=>whnf
    refine ⟨trivial,CallAt.pure (λR' hR'=>hrs R') ?_⟩
    conv=>whnf
    refine ⟨λh=>absurd h (by simp),λ_=>?_⟩
    conv=>whnf
    refine ⟨trivial,⟨⟨rfl,rfl⟩,λh s=>sub_same s⟩,?_⟩
    conv=>whnf
    refine ⟨trivial,⟨⟨rfl,rfl⟩,λh s=>sub_same s⟩,?_⟩
    conv=>whnf
    refine ⟨trivial,?_⟩
    conv=>whnf
    refine ⟨⟨trivial,by unfold rng;omega⟩,.mk 2 ⟨by omega,by omega,hn λh=>hs h.1⟩ (by omega) (Le.of (Nat.le_of_ble_eq_true rfl) (Nat.zero_le _) ⟨⟨rfl,rfl⟩,⟨rfl,rfl⟩,trivial⟩ trivial λh s=>sub_nil s)⟩
  ·have g5:¬ 1≤x.length:=by simp [bs_size] at h5;omega
   rw [miss λn h1 h2 h3=>by omega]
   conv=>whnf
   exact ⟨trivial,fin_pure rfl rfl⟩
 ·conv=>whnf
  refine ⟨λ_=>?_,λh=>absurd h (by simp)⟩
  conv=>whnf
  refine ⟨λh5=>?_,λh5=>?_⟩
  ·have g5:2≤x.length:=by simp [bs_size] at h5;omega
   have hr:=hit 2 g5
   have hn:¬ Hit x 2→∀ m,1≤m→m < 2+1→m≤x.length→¬ Hit x m:=λh m h1 h2 h3=>by
    rcases Nat.lt_or_ge m 2 with c|c
    ·exact hm m h1 c h3
    ·rw [show m=2 by omega];exact h
   unfold Hit at hr hn
   conv=>whnf
   repeat (first|(refine ⟨λ_=>?_,λh=>absurd h (by decide)⟩;conv=>whnf)|(refine ⟨λh=>absurd h (by decide),λ_=>?_⟩;conv=>whnf))
   refine ⟨trivial,RegAt.quiet hmix (by kernel_rfl) ?_⟩
   conv=>whnf
   rw [show byteAt (bs x) (Int.toNat 0)=xN x 0 from hb 0,show byteAt (bs x) (Int.toNat 1)=xN x 1 from hb 1,show (xN x 0 - 192) * 64+xN x 1 - 128=candI x 2 from rfl]
   have b0:=xN_lt x 0
   have b1:=xN_lt x 1
   have hc:-2147483648≤candI x 2∧candI x 2≤2147483647:=by show -2147483648≤(xN x 0 - 192) * 64+xN x 1 - 128∧(xN x 0 - 192) * 64+xN x 1 - 128≤2147483647;omega
   generalize candI x 2=r at *
   refine ⟨?_,?_⟩
   ·repeat' apply And.intro
    all_goals first|exact True.intro|(unfold rng;omega)|(rw [bs_size];omega)|omega
   conv=>whnf
   repeat (first|(refine ⟨λ_=>?_,λh=>absurd h (by decide)⟩;conv=>whnf)|(refine ⟨λh=>absurd h (by decide),λ_=>?_⟩;conv=>whnf))
   refine ⟨trivial,?_⟩
   have hrs:=λR'=>sRSign (R:=R') r
   by_cases hs:SignI r
   ·rw [decide_eq_true hs] at hrs
    have hs2:=hs.2
    obtain ⟨c,rfl⟩:∃ c:Nat,r=(c:Int):=⟨r.toNat,by have:=hs.1;omega⟩
    rw [Int.toNat_natCast] at hr hn hs2
    refine RegAt.groups [([.T 0],1),([.H 1],2),([.T 2,.T 3,.T 6,.T 7,.T 8,.H 4,.H 5],9),([.T 9],10),([.T 10],11)] hmix (by kernel_rfl) ?_
    conv=>whnf
    refine ⟨trivial,CallAt.pure (λR' hR'=>hrs R') ?_⟩
    conv=>whnf
    refine ⟨λ_=>?_,λh=>absurd h (by simp)⟩
    conv=>whnf
    refine ⟨⟨trivial,by omega,by omega,by rw [bs_size];omega⟩,CallAt.fn (pre:=[]) _ (λh s=>s) (λR' _=>sBytes hs2) ?_⟩
    rintro r hs' ⟨g,rfl,rfl⟩
    conv=>whnf
    refine ⟨trivial,⟨⟨rfl,rfl⟩,λh s=>sub_tail s⟩,?_⟩
    conv=>whnf
    refine ⟨trivial,OpAt.bytesStr g (utfN c).length (utfN c).length (utfN c) [] rfl (λh s=>s) rfl rfl rfl rfl rfl ?_⟩
    conv=>whnf
    refine ⟨trivial,⟨⟨rfl,rfl⟩,λh s=>sub_tail s⟩,?_⟩
    conv=>whnf
    refine ⟨trivial,?_⟩
    conv=>whnf
    have ex:(bs x).extract (Int.toNat 0) (Int.toNat ((2:Nat):Int))=bs (x.take 2):=by rw [bs_extract];rfl
    rw [ex]
    refine ⟨λh6=>?_,λh6=>?_⟩
    ·have h6:=bs_inj.1 (of_decide_eq_true h6)
     rw [hr ⟨hs,h6⟩]
     conv=>whnf
     exact ⟨trivial,fin_drop rfl⟩
    ·have h6:utfN c≠x.take 2:=λe=>by rw [e] at h6;simp at h6
     conv=>whnf
     refine ⟨⟨trivial,by unfold rng;omega⟩,.mk 3 ⟨by omega,by omega,hn λh=>h6 h.2⟩ (by omega) (Le.of (Nat.le_of_ble_eq_true rfl) (Nat.zero_le _) ⟨⟨rfl,rfl⟩,⟨rfl,rfl⟩,trivial⟩ trivial λh s=>sub_nil s)⟩
   ·rw [decide_eq_false hs] at hrs
    refine RegAt.groups [([.T 0],1),([.H 1],2),([.T 2,.T 3,.T 6,.T 7,.T 8,.H 4,.H 5],9),([.T 9],10),([.T 10],11)] hmix (by kernel_rfl) ?_
    conv=>whnf
    refine ⟨trivial,CallAt.pure (λR' hR'=>hrs R') ?_⟩
    conv=>whnf
    refine ⟨λh=>absurd h (by simp),λ_=>?_⟩
    conv=>whnf
    refine ⟨trivial,⟨⟨rfl,rfl⟩,λh s=>sub_same s⟩,?_⟩
    conv=>whnf
    refine ⟨trivial,⟨⟨rfl,rfl⟩,λh s=>sub_same s⟩,?_⟩
    conv=>whnf
    refine ⟨trivial,?_⟩
    conv=>whnf
    refine ⟨⟨trivial,by unfold rng;omega⟩,.mk 3 ⟨by omega,by omega,hn λh=>hs h.1⟩ (by omega) (Le.of (Nat.le_of_ble_eq_true rfl) (Nat.zero_le _) ⟨⟨rfl,rfl⟩,⟨rfl,rfl⟩,trivial⟩ trivial λh s=>sub_nil s)⟩
  ·have g5:¬ 2≤x.length:=by simp [bs_size] at h5;omega
   rw [miss λn h1 h2 h3=>hm n h1 (by omega) h3]
   conv=>whnf
   exact ⟨trivial,fin_pure rfl rfl⟩
 ·conv=>whnf
  refine ⟨λ_=>?_,λh=>absurd h (by simp)⟩
  conv=>whnf
  refine ⟨λh5=>?_,λh5=>?_⟩
  ·have g5:3≤x.length:=by simp [bs_size] at h5;omega
   have hr:=hit 3 g5
   have hn:¬ Hit x 3→∀ m,1≤m→m < 3+1→m≤x.length→¬ Hit x m:=λh m h1 h2 h3=>by
    rcases Nat.lt_or_ge m 3 with c|c
    ·exact hm m h1 c h3
    ·rw [show m=3 by omega];exact h
   unfold Hit at hr hn
   conv=>whnf
   repeat (first|(refine ⟨λ_=>?_,λh=>absurd h (by decide)⟩;conv=>whnf)|(refine ⟨λh=>absurd h (by decide),λ_=>?_⟩;conv=>whnf))
   refine ⟨trivial,RegAt.quiet hmix (by kernel_rfl) ?_⟩
   conv=>whnf
   rw [show byteAt (bs x) (Int.toNat 0)=xN x 0 from hb 0,show byteAt (bs x) (Int.toNat 1)=xN x 1 from hb 1,show byteAt (bs x) (Int.toNat 2)=xN x 2 from hb 2,show (xN x 0 - 224) * 4096+(xN x 1 - 128) * 64+xN x 2 - 128=candI x 3 from rfl]
   have b0:=xN_lt x 0
   have b1:=xN_lt x 1
   have b2:=xN_lt x 2
   have hc:-2147483648≤candI x 3∧candI x 3≤2147483647:=by show -2147483648≤(xN x 0 - 224) * 4096+(xN x 1 - 128) * 64+xN x 2 - 128∧(xN x 0 - 224) * 4096+(xN x 1 - 128) * 64+xN x 2 - 128≤2147483647;omega
   generalize candI x 3=r at *
   refine ⟨?_,?_⟩
   ·repeat' apply And.intro
    all_goals first|exact True.intro|(unfold rng;omega)|(rw [bs_size];omega)|omega
   conv=>whnf
   repeat (first|(refine ⟨λ_=>?_,λh=>absurd h (by decide)⟩;conv=>whnf)|(refine ⟨λh=>absurd h (by decide),λ_=>?_⟩;conv=>whnf))
   refine ⟨trivial,?_⟩
   have hrs:=λR'=>sRSign (R:=R') r
   by_cases hs:SignI r
   ·rw [decide_eq_true hs] at hrs
    have hs2:=hs.2
    obtain ⟨c,rfl⟩:∃ c:Nat,r=(c:Int):=⟨r.toNat,by have:=hs.1;omega⟩
    rw [Int.toNat_natCast] at hr hn hs2
    refine RegAt.groups [([.T 0],1),([.H 1],2),([.T 2,.T 3,.T 6,.T 7,.T 8,.H 4,.H 5],9),([.T 9],10),([.T 10],11)] hmix (by kernel_rfl) ?_
    conv=>whnf
    refine ⟨trivial,CallAt.pure (λR' hR'=>hrs R') ?_⟩
    conv=>whnf
    refine ⟨λ_=>?_,λh=>absurd h (by simp)⟩
    conv=>whnf
    refine ⟨⟨trivial,by omega,by omega,by rw [bs_size];omega⟩,CallAt.fn (pre:=[]) _ (λh s=>s) (λR' _=>sBytes hs2) ?_⟩
    rintro r hs' ⟨g,rfl,rfl⟩
    conv=>whnf
    refine ⟨trivial,⟨⟨rfl,rfl⟩,λh s=>sub_tail s⟩,?_⟩
    conv=>whnf
    refine ⟨trivial,OpAt.bytesStr g (utfN c).length (utfN c).length (utfN c) [] rfl (λh s=>s) rfl rfl rfl rfl rfl ?_⟩
    conv=>whnf
    refine ⟨trivial,⟨⟨rfl,rfl⟩,λh s=>sub_tail s⟩,?_⟩
    conv=>whnf
    refine ⟨trivial,?_⟩
    conv=>whnf
    have ex:(bs x).extract (Int.toNat 0) (Int.toNat ((3:Nat):Int))=bs (x.take 3):=by rw [bs_extract];rfl
    rw [ex]
    refine ⟨λh6=>?_,λh6=>?_⟩
    ·have h6:=bs_inj.1 (of_decide_eq_true h6)
     rw [hr ⟨hs,h6⟩]
     conv=>whnf
     exact ⟨trivial,fin_drop rfl⟩
    ·have h6:utfN c≠x.take 3:=λe=>by rw [e] at h6;simp at h6
     conv=>whnf
     refine ⟨⟨trivial,by unfold rng;omega⟩,.mk 4 ⟨by omega,by omega,hn λh=>h6 h.2⟩ (by omega) (Le.of (Nat.le_of_ble_eq_true rfl) (Nat.zero_le _) ⟨⟨rfl,rfl⟩,⟨rfl,rfl⟩,trivial⟩ trivial λh s=>sub_nil s)⟩
   ·rw [decide_eq_false hs] at hrs
    refine RegAt.groups [([.T 0],1),([.H 1],2),([.T 2,.T 3,.T 6,.T 7,.T 8,.H 4,.H 5],9),([.T 9],10),([.T 10],11)] hmix (by kernel_rfl) ?_
    conv=>whnf
    refine ⟨trivial,CallAt.pure (λR' hR'=>hrs R') ?_⟩
    conv=>whnf
    refine ⟨λh=>absurd h (by simp),λ_=>?_⟩
    conv=>whnf
    refine ⟨trivial,⟨⟨rfl,rfl⟩,λh s=>sub_same s⟩,?_⟩
    conv=>whnf
    refine ⟨trivial,⟨⟨rfl,rfl⟩,λh s=>sub_same s⟩,?_⟩
    conv=>whnf
    refine ⟨trivial,?_⟩
    conv=>whnf
    refine ⟨⟨trivial,by unfold rng;omega⟩,.mk 4 ⟨by omega,by omega,hn λh=>hs h.1⟩ (by omega) (Le.of (Nat.le_of_ble_eq_true rfl) (Nat.zero_le _) ⟨⟨rfl,rfl⟩,⟨rfl,rfl⟩,trivial⟩ trivial λh s=>sub_nil s)⟩
  ·have g5:¬ 3≤x.length:=by simp [bs_size] at h5;omega
   rw [miss λn h1 h2 h3=>hm n h1 (by omega) h3]
   conv=>whnf
   exact ⟨trivial,fin_pure rfl rfl⟩
 ·conv=>whnf
  refine ⟨λh=>absurd h (by simp),λ_=>?_⟩
  conv=>whnf
  rw [miss λn h1 h2 h3=>hm n h1 (by omega) h3]
  exact ⟨trivial,fin_pure rfl rfl⟩
structure RdD where
 pre:List Bd
 n:Nat
 k:Nat
 A:Option Addr
 c:Nat
def postR (v:Option (List Bd)) (r:Value) (hs:List HP):Prop:=match v with
 |none=>r=.tuple #[.slice none 0 0,.bool false]∧hs=[]
 |some l=>∃ A c,r=.tuple #[.slice A l.length c,.bool true]∧hs=[bRow A l.length c l]
theorem rd_step (m:Nat) (x:List UInt8):rd (m+1) x=match bandH x with
  |none=>none
  |some (b,k)=>if k=x.length then some [b] else if x[k]? = some 44 then (rd m (x.drop (k+1))).map (b::·) else none:=rfl
theorem at_44 {s:List UInt8} {k:Nat} (hk:k < s.length):(byteAt (bs s) k=44)↔s[k]? = some 44:=by
 rw [byteAt_bs,List.getElem?_eq_getElem hk]
 simp only [Option.getD_some,Option.some.injEq]
 exact u8_is 44
theorem bandH_at {s:List UInt8} {k0 k:Nat} {n:Int} (hk:k0≤s.length) (hy:scan (s.drop k0) 0=(n,(k:Int),0)):bandH (s.drop k0)=if k0+k < s.length∧s[k0+k]? = some 58∧(runeV (s.drop (k0+k+1))).2≠0 then some (⟨n,(runeV (s.drop (k0+k+1))).1⟩,k+1+(runeV (s.drop (k0+k+1))).2) else none:=by
 unfold bandH
 rw [hy]
 simp only [Int.toNat_natCast,List.length_drop,List.getElem?_drop,List.drop_drop]
 rw [show k0+(k+1)=k0+k+1 by omega]
 by_cases c:k0+k < s.length∧s[k0+k]? = some 58∧(runeV (s.drop (k0+k+1))).2≠0
 ·rw [if_pos c,if_pos ⟨trivial,by omega,c.2⟩]
 ·rw [if_neg c,if_neg λh=>c ⟨by omega,h.2.2⟩]
theorem sRRead33 {R:HP} {s:List UInt8} (hl:s.length≤1048576):FnR Tryz.prog R 18 [.string (bs s)] [] (postR (refV s)):=by
 have hN:rd 13 s=none→refV s=none:=λh=>by unfold refV;rw [h]
 have hS:∀ l,rd 13 s=some l→refV s=if RightL l then some l else none:=λl h=>by unfold refV;rw [h]
 generalize refV s=v at *
 refine fn_of_run0 false Tryz.func18 rfl hmix rfl λw0=>?_
 conv=>whnf
 refine ⟨trivial,OpAt.lit [] 2 rfl rfl rfl rfl rfl (by decide) rfl rfl rfl (by simp [Value.cells]) rfl (by decide) λg0=>?_⟩
 conv=>whnf
 refine ⟨trivial,LoopAt.of (α:=RdD) [0] (λa=>[(4,.v (.slice a.A a.n a.c)),(5,.v (.int .i64 (a.k:Int)))]) (λ_=>[]) (λa=>[bRow a.A a.n a.c a.pre]) (λa=>a.pre.length=a.n∧a.n≤13∧a.k≤s.length∧rd 13 s=(rd (13 - a.n) (s.drop a.k)).map (a.pre++·)) (λa=>13 - a.n) ⟨[],0,0,some ⟨g0,0,none⟩,0⟩ ⟨rfl,by simp,by simp,by simp⟩
  (Le.of (Nat.le_of_ble_eq_true rfl) (Nat.zero_le _) ⟨⟨rfl,rfl⟩,⟨rfl,rfl⟩,⟨rfl,rfl⟩,trivial⟩ trivial λh s=>sub_same s) ?_⟩
 rintro ⟨pre,N,k0,A,c⟩ ⟨h0,h1,h2,h3⟩
 simp only at h0 h1 h2 h3
 have hsh:=scan_shift s h2
 have hsc:=λR'=>sRefScan (R:=R') s hl (k0:Int)
 rcases hy:scan (s.drop k0) 0 with ⟨n,e,q⟩
 rw [hy] at hsh
 conv=>whnf
 refine ⟨λh=>?_,λh=>?_⟩
 ·have g:N < 13:=by simp at h;omega
  obtain ⟨m,hm⟩:∃ m,13 - N=m+1:=⟨12 - N,by omega⟩
  rw [hm,rd_step m] at h3
  by_cases hq:q=0
  ·subst hq
   rw [if_pos rfl] at hsh
   simp only at hsh
   rw [hsh] at hsc
   obtain ⟨k,rfl,hk,ht,hb⟩:=scan_fine hy
   rw [List.length_drop] at hk
   have hbh:=bandH_at h2 hy
   rw [show (k0:Int)+(k:Int)=((k0+k:Nat):Int) by omega] at hsc
   by_cases hk2:k0+k < s.length
   ·by_cases h58:s[k0+k]? = some 58
    ·have hb58:=(at_is hk2).2 h58
     have hlz:(s.drop (k0+k+1)).length=s.length - (k0+k+1):=List.length_drop
     have hru:=λR'=>sRune33 (R:=R') (s.drop (k0+k+1)) (by omega)
     have hrs:=λr j h hj=>(runeV_some (x:=s.drop (k0+k+1)) (r:=r) (k:=j) h hj).2.2
     have hex:(bs s).extract (((k0+k:Nat):Int)+1).toNat ((bs s).size:Int).toNat=bs (s.drop (k0+k+1)):=by
      rw [bs_extract,show (((k0+k:Nat):Int)+1).toNat=k0+k+1 by omega,Int.toNat_natCast,bs_size,List.take_length]
     rcases hr:runeV (s.drop (k0+k+1)) with ⟨r,j⟩
     rw [hr] at hbh hru
     have hrs:=hrs r j hr
     simp only at hbh hru
     generalize s.drop (k0+k+1)=z at *
     by_cases hj:j=0
     ·rw [hbh,if_neg λc=>c.2.2 hj] at h3
      rw [hN h3]
      conv=>whnf
      refine ⟨trivial,CallAt.pure (λR' hR'=>hsc R') ?_⟩
      conv=>whnf
      refine ⟨λ_=>?_,λh=>absurd h (by simp)⟩
      conv=>whnf
      refine ⟨λ_=>?_,λh=>absurd h (by simp;omega)⟩
      conv=>whnf
      refine ⟨λh=>absurd h (by rw [Int.toNat_natCast];simp [hb58]),λ_=>?_⟩
      conv=>whnf
      rw [hex]
      refine ⟨?_,CallAt.pure (λR' hR'=>hru R') ?_⟩
      ·repeat' apply And.intro
       all_goals first|exact True.intro|(unfold rng;omega)|(dsimp only;unfold rng;omega)|omega|(dsimp only;omega)|(rw [bs_size];omega)|(dsimp only;rw [bs_size];omega)
      conv=>whnf
      refine ⟨λ_=>?_,λh=>absurd h (by simp;omega)⟩
      conv=>whnf
      exact ⟨trivial,fin_drop rfl⟩
     ·have hjl:=hrs hj
      rw [hbh,if_pos ⟨hk2,h58,hj⟩] at h3
      simp only [List.length_drop,List.getElem?_drop,List.drop_drop] at h3
      rw [show k0+(k+1+j)=k0+k+1+j by omega,show k0+(k+1+j+1)=k0+k+1+j+1 by omega] at h3
      by_cases he:k0+k+1+j=s.length
      ·rw [if_pos (by omega)] at h3
       have hv:=hS _ h3
       have hlen:(pre++[(⟨n,r⟩:Bd)]).length=N+1:=by simp [h0]
       have hgr:=λR' A c h=>sRRight (R:=R') (A:=A) (n:=N+1) (c:=c) (l:=pre++[⟨n,r⟩]) (by omega) h
       by_cases hR:RightL (pre++[⟨n,r⟩])
       ·rw [if_pos hR] at hv
        rw [decide_eq_true hR] at hgr
        rw [hv]
        conv=>whnf
        refine ⟨trivial,CallAt.pure (λR' hR'=>hsc R') ?_⟩
        conv=>whnf
        refine ⟨λ_=>?_,λh=>absurd h (by simp)⟩
        conv=>whnf
        refine ⟨λ_=>?_,λh=>absurd h (by simp;omega)⟩
        conv=>whnf
        refine ⟨λh=>absurd h (by rw [Int.toNat_natCast];simp [hb58]),λ_=>?_⟩
        conv=>whnf
        rw [hex]
        refine ⟨?_,CallAt.pure (λR' hR'=>hru R') ?_⟩
        ·repeat' apply And.intro
         all_goals first|exact True.intro|(unfold rng;omega)|(dsimp only;unfold rng;omega)|omega|(dsimp only;omega)|(rw [bs_size];omega)|(dsimp only;rw [bs_size];omega)
        conv=>whnf
        refine ⟨λh=>absurd h (by simp;omega),λ_=>?_⟩
        conv=>whnf
        refine ⟨trivial,OpAt.lit [.agg #[.int .i64 n,.int .i32 r]] 2 rfl rfl rfl rfl rfl (by decide) rfl rfl rfl (by simp [Value.cells]) rfl (by decide) λg2=>?_⟩
        conv=>whnf
        refine ⟨trivial,OpAt.append (.slice A N c) N 2 16 (bcel pre) (bcel [⟨n,r⟩]) (some ⟨g2,0,none⟩) 1 1 _ rfl (λh s=>sepL_pull 1 s) rfl rfl rfl rfl rfl rfl rfl rfl rfl (by decide) (λw hw=>rowH_reads rfl (Sat.left hw)) (by simp [bcel,bdC,Value.oneCell']) (by simp only [maxLen];omega) (by omega) λA' c'=>?_⟩
        conv=>whnf
        rw [← bcel_append]
        refine ⟨λ_=>?_,λh=>absurd h (by simp [bs_size];omega)⟩
        conv=>whnf
        refine ⟨?_,CallAt.pure (λR' hR'=>hgr R' A' c' (Sl.row λw s=>(hR' w s).in_ 0 rfl)) ?_⟩
        ·repeat' apply And.intro
         all_goals first|exact True.intro|omega|(dsimp only;omega)|(rw [bs_size];omega)|(dsimp only;rw [bs_size];omega)
        conv=>whnf
        refine iff_f rfl ?_
        conv=>whnf
        refine ⟨trivial,.mk [bRow A' (N+1) c' (pre++[⟨n,r⟩])] (λw ⟨h,h1,s⟩=>?_) ⟨A',c',?_,?_⟩⟩
        ·obtain ⟨h',e,s'⟩:=sub_head s
         exact ⟨h',h1.mono e,s'⟩
        ·rw [hlen];rfl
        ·rw [hlen]
       ·rw [if_neg hR] at hv
        rw [decide_eq_false hR] at hgr
        rw [hv]
        conv=>whnf
        refine ⟨trivial,CallAt.pure (λR' hR'=>hsc R') ?_⟩
        conv=>whnf
        refine ⟨λ_=>?_,λh=>absurd h (by simp)⟩
        conv=>whnf
        refine ⟨λ_=>?_,λh=>absurd h (by simp;omega)⟩
        conv=>whnf
        refine ⟨λh=>absurd h (by rw [Int.toNat_natCast];simp [hb58]),λ_=>?_⟩
        conv=>whnf
        rw [hex]
        refine ⟨?_,CallAt.pure (λR' hR'=>hru R') ?_⟩
        ·repeat' apply And.intro
         all_goals first|exact True.intro|(unfold rng;omega)|(dsimp only;unfold rng;omega)|omega|(dsimp only;omega)|(rw [bs_size];omega)|(dsimp only;rw [bs_size];omega)
        conv=>whnf
        refine ⟨λh=>absurd h (by simp;omega),λ_=>?_⟩
        conv=>whnf
        refine ⟨trivial,OpAt.lit [.agg #[.int .i64 n,.int .i32 r]] 2 rfl rfl rfl rfl rfl (by decide) rfl rfl rfl (by simp [Value.cells]) rfl (by decide) λg2=>?_⟩
        conv=>whnf
        refine ⟨trivial,OpAt.append (.slice A N c) N 2 16 (bcel pre) (bcel [⟨n,r⟩]) (some ⟨g2,0,none⟩) 1 1 _ rfl (λh s=>sepL_pull 1 s) rfl rfl rfl rfl rfl rfl rfl rfl rfl (by decide) (λw hw=>rowH_reads rfl (Sat.left hw)) (by simp [bcel,bdC,Value.oneCell']) (by simp only [maxLen];omega) (by omega) λA' c'=>?_⟩
        conv=>whnf
        rw [← bcel_append]
        refine ⟨λ_=>?_,λh=>absurd h (by simp [bs_size];omega)⟩
        conv=>whnf
        refine ⟨?_,CallAt.pure (λR' hR'=>hgr R' A' c' (Sl.row λw s=>(hR' w s).in_ 0 rfl)) ?_⟩
        ·repeat' apply And.intro
         all_goals first|exact True.intro|omega|(dsimp only;omega)|(rw [bs_size];omega)|(dsimp only;rw [bs_size];omega)
        conv=>whnf
        refine iff_t rfl ?_
        conv=>whnf
        exact ⟨trivial,fin_drop rfl⟩
      ·rw [if_neg (by omega)] at h3
       by_cases h44:s[k0+k+1+j]? = some 44
       ·have hb44:=(at_44 (show k0+k+1+j < s.length by omega)).2 h44
        rw [if_pos h44] at h3
        conv=>whnf
        refine ⟨trivial,CallAt.pure (λR' hR'=>hsc R') ?_⟩
        conv=>whnf
        refine ⟨λ_=>?_,λh=>absurd h (by simp)⟩
        conv=>whnf
        refine ⟨λ_=>?_,λh=>absurd h (by simp;omega)⟩
        conv=>whnf
        refine ⟨λh=>absurd h (by rw [Int.toNat_natCast];simp [hb58]),λ_=>?_⟩
        conv=>whnf
        rw [hex]
        refine ⟨?_,CallAt.pure (λR' hR'=>hru R') ?_⟩
        ·repeat' apply And.intro
         all_goals first|exact True.intro|(unfold rng;omega)|(dsimp only;unfold rng;omega)|omega|(dsimp only;omega)|(rw [bs_size];omega)|(dsimp only;rw [bs_size];omega)
        conv=>whnf
        refine ⟨λh=>absurd h (by simp;omega),λ_=>?_⟩
        conv=>whnf
        refine ⟨trivial,OpAt.lit [.agg #[.int .i64 n,.int .i32 r]] 2 rfl rfl rfl rfl rfl (by decide) rfl rfl rfl (by simp [Value.cells]) rfl (by decide) λg2=>?_⟩
        conv=>whnf
        refine ⟨trivial,OpAt.append (.slice A N c) N 2 16 (bcel pre) (bcel [⟨n,r⟩]) (some ⟨g2,0,none⟩) 1 1 _ rfl (λh s=>sepL_pull 1 s) rfl rfl rfl rfl rfl rfl rfl rfl rfl (by decide) (λw hw=>rowH_reads rfl (Sat.left hw)) (by simp [bcel,bdC,Value.oneCell']) (by simp only [maxLen];omega) (by omega) λA' c'=>?_⟩
        conv=>whnf
        rw [← bcel_append]
        refine ⟨λh=>absurd h (by simp [bs_size];omega),λ_=>?_⟩
        conv=>whnf
        refine ⟨λh=>absurd h (by (try dsimp only);rw [show (((k0+k:Nat):Int)+1+(j:Int)).toNat=k0+k+1+j by omega];simp [hb44]),λ_=>?_⟩
        conv=>whnf
        refine ⟨?_,.mk ⟨pre++[⟨n,r⟩],N+1,k0+k+1+j+1,A',c'⟩ ⟨by simp [h0],by simp only;omega,by simp only;omega,?_⟩ (by simp only;omega) (Le.of (Nat.le_of_ble_eq_true rfl) (Nat.zero_le _) ⟨⟨rfl,rfl⟩,⟨rfl,rfl⟩,⟨rfl,rfl⟩,trivial⟩ trivial λh s=>sub_head s)⟩
        ·repeat' apply And.intro
         all_goals first|exact True.intro|omega|(dsimp only;omega)|(rw [bs_size];omega)|(dsimp only;rw [bs_size];omega)
        ·simp only
         rw [h3,show 13 - (N+1)=m by omega,Option.map_map]
         congr 1
         funext l
         simp
       ·have hb44:¬ byteAt (bs s) (k0+k+1+j)=44:=λc=>h44 ((at_44 (show k0+k+1+j < s.length by omega)).1 c)
        rw [if_neg h44] at h3
        rw [hN h3]
        conv=>whnf
        refine ⟨trivial,CallAt.pure (λR' hR'=>hsc R') ?_⟩
        conv=>whnf
        refine ⟨λ_=>?_,λh=>absurd h (by simp)⟩
        conv=>whnf
        refine ⟨λ_=>?_,λh=>absurd h (by simp;omega)⟩
        conv=>whnf
        refine ⟨λh=>absurd h (by rw [Int.toNat_natCast];simp [hb58]),λ_=>?_⟩
        conv=>whnf
        rw [hex]
        refine ⟨?_,CallAt.pure (λR' hR'=>hru R') ?_⟩
        ·repeat' apply And.intro
         all_goals first|exact True.intro|(unfold rng;omega)|(dsimp only;unfold rng;omega)|omega|(dsimp only;omega)|(rw [bs_size];omega)|(dsimp only;rw [bs_size];omega)
        conv=>whnf
        refine ⟨λh=>absurd h (by simp;omega),λ_=>?_⟩
        conv=>whnf
        refine ⟨trivial,OpAt.lit [.agg #[.int .i64 n,.int .i32 r]] 2 rfl rfl rfl rfl rfl (by decide) rfl rfl rfl (by simp [Value.cells]) rfl (by decide) λg2=>?_⟩
        conv=>whnf
        refine ⟨trivial,OpAt.append (.slice A N c) N 2 16 (bcel pre) (bcel [⟨n,r⟩]) (some ⟨g2,0,none⟩) 1 1 _ rfl (λh s=>sepL_pull 1 s) rfl rfl rfl rfl rfl rfl rfl rfl rfl (by decide) (λw hw=>rowH_reads rfl (Sat.left hw)) (by simp [bcel,bdC,Value.oneCell']) (by simp only [maxLen];omega) (by omega) λA' c'=>?_⟩
        conv=>whnf
        rw [← bcel_append]
        refine ⟨λh=>absurd h (by simp [bs_size];omega),λ_=>?_⟩
        conv=>whnf
        refine ⟨λ_=>?_,λh=>absurd h (by (try dsimp only);rw [show (((k0+k:Nat):Int)+1+(j:Int)).toNat=k0+k+1+j by omega];simp [hb44])⟩
        conv=>whnf
        refine ⟨?_,fin_drop rfl⟩
        repeat' apply And.intro
        all_goals first|exact True.intro|omega|(dsimp only;omega)|(rw [bs_size];omega)|(dsimp only;rw [bs_size];omega)
    ·have hb58:¬ byteAt (bs s) (k0+k)=58:=λc=>h58 ((at_is hk2).1 c)
     rw [hbh,if_neg λc=>h58 c.2.1] at h3
     rw [hN h3]
     conv=>whnf
     refine ⟨trivial,CallAt.pure (λR' hR'=>hsc R') ?_⟩
     conv=>whnf
     refine ⟨λ_=>?_,λh=>absurd h (by simp)⟩
     conv=>whnf
     refine ⟨λ_=>?_,λh=>absurd h (by simp;omega)⟩
     conv=>whnf
     refine ⟨λ_=>?_,λh=>absurd h (by rw [Int.toNat_natCast];simp [hb58])⟩
     conv=>whnf
     exact ⟨⟨trivial,by dsimp only;omega,by dsimp only;rw [bs_size];omega⟩,fin_drop rfl⟩
   ·rw [hbh,if_neg λc=>hk2 c.1] at h3
    rw [hN h3]
    conv=>whnf
    refine ⟨trivial,CallAt.pure (λR' hR'=>hsc R') ?_⟩
    conv=>whnf
    refine ⟨λ_=>?_,λh=>absurd h (by simp)⟩
    conv=>whnf
    refine ⟨λh=>absurd h (by simp;omega),λ_=>?_⟩
    conv=>whnf
    exact ⟨trivial,fin_drop rfl⟩
  ·rw [if_neg hq] at hsh
   rw [hsh] at hsc
   have hbn:bandH (s.drop k0)=none:=by
    unfold bandH
    rw [hy,if_neg]
    rintro ⟨h,_⟩
    exact hq h
   rw [hbn] at h3
   rw [hN h3]
   conv=>whnf
   refine ⟨trivial,CallAt.pure (λR' hR'=>hsc R') ?_⟩
   conv=>whnf
   refine ⟨λh=>absurd h (by simpa using hq),λ_=>?_⟩
   conv=>whnf
   exact ⟨trivial,fin_drop rfl⟩
 ·have g:N=13:=by simp at h;omega
  rw [g] at h3
  rw [hN h3]
  conv=>whnf
  exact ⟨trivial,fin_drop rfl⟩
end Go.Proofs.YtcoefgkjlgngkaaGreatDoor
