/-
  Texts of the proofs, one behind the other: ScFd.
-/
import Derived.Test.YtcoefgkjlgngkaaGreatDoorSPg17
namespace Go.Proofs.YtcoefgkjlgngkaaGreatDoor
open Go.RowKit
open Sy
set_option linter.unusedVariables false
set_option linter.unusedSimpArgs false
set_option maxRecDepth 100000
set_option maxHeartbeats 4000000
def isX (c:UInt8):Bool:=(48≤c.toNat && c.toNat≤57) || (97≤c.toNat && c.toNat≤102)
theorem isX_spec:∀ q:Fin 256,(isX (u8 q.val)=true→∃ d:Fin 16,u8 q.val=hexd d.val)∧(isX (u8 q.val)=false→q.val < 128→Lib.indexByte HXs.data.toList (u8 q.val)=-1):=by decide +kernel
theorem u8_self (c:UInt8):u8 c.toNat=c:=by
 apply UInt8.toNat_inj.1
 rw [u8_nat c.toNat_lt]
theorem isX_hex {c:UInt8} (h:isX c=true):∃ d,d < 16∧c=hexd d:=by
 have hs:=(isX_spec ⟨c.toNat,c.toNat_lt⟩).1
 simp only [u8_self] at hs
 obtain ⟨d,hd⟩:=hs h
 exact ⟨d.val,d.isLt,hd⟩
theorem isX_no {c:UInt8} (h:isX c=false) (h2:c.toNat < 128):Lib.indexByte HXs.data.toList c=-1:=by
 have hs:=(isX_spec ⟨c.toNat,c.toNat_lt⟩).2
 simp only [u8_self] at hs
 exact hs h h2
theorem hexd_byte (d e:Nat) (hd:d < 16) (he:e < 16):hexT [u8 (16 * d+e)]=[hexd d,hexd e]:=by
 show [hexd ((u8 (16 * d+e)).toNat / 16),hexd ((u8 (16 * d+e)).toNat % 16)]=_
 rw [u8_nat (by omega),show (16 * d+e) / 16=d by omega,show (16 * d+e) % 16=e by omega]
theorem hex_pre:∀ (l:List UInt8),(∀ c∈l,isX c=true)→∃ b,(hexT b).take l.length=l∧l.length≤2 * b.length∧2 * b.length≤l.length+1
 |[],_=>⟨[],rfl,by simp,by simp⟩
 |[c],h=>by
  obtain ⟨d,hd,rfl⟩:=isX_hex (h c (by simp))
  refine ⟨[u8 (16 * d+0)],?_,by simp,by simp⟩
  rw [hexd_byte d 0 hd (by omega)]
  rfl
 |c::e::l,h=>by
  obtain ⟨d,hd,rfl⟩:=isX_hex (h c (by simp))
  obtain ⟨f,hf,rfl⟩:=isX_hex (h e (by simp))
  obtain ⟨b,h1,h2,h3⟩:=hex_pre l λx hx=>h x (by simp [hx])
  refine ⟨u8 (16 * d+f)::b,?_,by simp;omega,by simp;omega⟩
  have e1:hexT (u8 (16 * d+f)::b)=hexT [u8 (16 * d+f)]++hexT b:=by rw [← hexT_append];rfl
  rw [e1,hexd_byte d f hd hf]
  simp [h1]
structure BadHex (z b:List UInt8) (q:Nat):Prop where
 dash:z≠[45]
 le:q≤z.length
 pre:∀ (p:Nat),p < q→z[p]? = (hexT b)[p]?
 l1:q≤2 * b.length
 l2:2 * b.length≤q+1
 bad:(q=z.length∧(q % 2=1∨q=0))∨∃ c,z[q]? = some c∧isX c=false
theorem split_hex:∀ z:List UInt8,∃ T D,z=T++D∧(∀ c∈T,isX c=true)∧∀ c r,D=c::r→isX c=false
 |[]=>⟨[],[],rfl,by simp,by simp⟩
 |a::z=>by
  obtain ⟨T,D,h1,h2,h3⟩:=split_hex z
  cases ha:isX a with
  |true =>
   refine ⟨a::T,D,by rw [h1];rfl,λc hc=>?_,h3⟩
   rcases List.mem_cons.1 hc with rfl|hc
   ·exact ha
   ·exact h2 c hc
  |false=>exact ⟨[],a::z,rfl,by simp,λc r e=>by injection e with e;rw [← e];exact ha⟩
theorem badHex_of {z:List UInt8} (h:∀ b,z≠hexW b):∃ b q,BadHex z b q:=by
 have hd:z≠[45]:=h []
 obtain ⟨T,D,rfl,hall,hD⟩:=split_hex z
 obtain ⟨b,h1,h2,h3⟩:=hex_pre _ hall
 have hpre:∀ (p:Nat),p < T.length→(T++D)[p]? = (hexT b)[p]?:=λp hp=>by
  rw [List.getElem?_append_left hp]
  conv=>lhs;rw [← h1]
  rw [List.getElem?_take_of_lt hp]
 refine ⟨b,T.length,hd,by rw [List.length_append];omega,hpre,h2,h3,?_⟩
 cases D with
 |nil =>
  left
  refine ⟨by simp,?_⟩
  by_cases hpar:T.length % 2=1
  ·exact .inl hpar
  ·right
   by_cases h0:T.length=0
   ·exact h0
   ·exfalso
    have hb:b≠[]:=by
     rintro rfl
     simp only [List.length_nil] at h2
     omega
    refine h b ?_
    unfold hexW
    rw [if_neg hb,List.append_nil]
    conv=>lhs;rw [← h1]
    rw [List.take_of_length_le (by rw [hexT_len];omega)]
 |cons c r =>
  right
  refine ⟨c,?_,hD c r rfl⟩
  rw [List.getElem?_append_right (Nat.le_refl _),Nat.sub_self]
  rfl
theorem decode_hi {s:List UInt8} {q:Nat} {c:UInt8} (h:s[q]? = some c) (hc:128≤c.toNat):128≤(Utf8.decode (bs s) q).1:=by
 have hlt:=(List.getElem?_eq_some_iff.1 h).1
 have hb:((bs s).get! (q+0)).toNat=c.toNat:=by
  show ((bs s).data[q]!).toNat=_
  have e:(bs s).data=s.toArray:=rfl
  rw [e]
  simp [hlt,(List.getElem?_eq_some_iff.1 h).2]
 unfold Utf8.decode
 simp only [hb]
 rw [if_neg (by omega)]
 have hre:Utf8.runeError=65533:=rfl
 repeat' split
 all_goals simp only [hre]
 all_goals first
  |omega
  |(rename_i g;simp only [Bool.and_eq_true,decide_eq_true_eq,ge_iff_le] at g;omega)
theorem sBytesNo0 {R:HP} {lb b0 off m0 c0 ob:Nat} {tb:TypeId} {cs:Array Value} (k:Nat) (hk:cs[k]? = some (.slice none 0 0)) :
  PanR Tryz.prog R 44 [.pointer (some ⟨lb,0,none⟩),.pointer (some ⟨ob,k,none⟩)] [tkH lb b0 off m0 c0 m0,blkH ob tb cs] isThrown R:=by
 have hh:=λR' (h:∀ w,Sat R' w→Sat R w)=>sHex (R:=R') (A:=none) (n:=0) (c:=0) [] rfl (by decide) (Sl.nil _ _ _)
 refine pan_of_run0 _ _ false Tryz.func44 rfl hmix rfl λw0=>?_
 conv=>whnf
 refine ⟨trivial,LoadAt.cell (.slice none 0 0) rfl rfl (λw hw=>blk_cell (hw.in_ 1 rfl) hk) ?_⟩
 conv=>whnf
 refine ⟨trivial,CallAt.pure (λR' hR'=>hh R' λw s=>Sat.rest (hR' w s)) ?_⟩
 conv=>whnf
 exact ⟨trivial,CallAt.panT (pre:=[tkH lb b0 off m0 c0 m0]) _ (λh s=>s) (λR' hR'=>sWordNo (bs (hexW []))) (λch h=>h) (λw s=>s.rest) trivial⟩
theorem sBytesNo {R:HP} {lb b0 off m0 c0 k0 ob q:Nat} {tb:TypeId} {cs:Array Value} {ws:List (List UInt8)} {z b:List UInt8} (k:Nat) (hk:cs[k]? = some (.slice none 0 0)) (hz:ws[k0]? = some z) (hzl:z.length≤100000) (hb:BadHex z b q) (hn0:ws.length=m0) (hm0:m0≤1000000) (hc0:m0≤c0) (ha0:WordsAt R b0 off ws) :
  PanR Tryz.prog R 44 [.pointer (some ⟨lb,0,none⟩),.pointer (some ⟨ob,k,none⟩)] [tkH lb b0 off m0 c0 k0,blkH ob tb cs] isThrown R:=by
 obtain ⟨hdash,hqz,hpre,hl1,hl2,hbad⟩:=hb
 have hks:=(Array.getElem?_eq_some_iff.1 hk).1
 have hh:=λR' (h:∀ w,Sat R' w→Sat R w)=>sHex (R:=R') (A:=none) (n:=0) (c:=0) [] rfl (by decide) (Sl.nil _ _ _)
 refine pan_of_run0 _ _ false Tryz.func44 rfl hmix rfl λw0=>?_
 conv=>whnf
 refine ⟨trivial,LoadAt.cell (.slice none 0 0) rfl rfl (λw hw=>blk_cell (hw.in_ 1 rfl) hk) ?_⟩
 conv=>whnf
 refine ⟨trivial,CallAt.pure (λR' hR'=>hh R' λw s=>Sat.rest (hR' w s)) ?_⟩
 conv=>whnf
 refine ⟨trivial,CallAt.fn (pre:=[tkH lb b0 off m0 c0 k0]) _ (λh s=>s) (λR' hR'=>sWordT (bs (hexW [])) hz hn0 hm0 hc0 (ha0.mono λw s=>Sat.rest (hR' w s))) ?_⟩
 rintro r hs ⟨rfl,rfl⟩
 conv=>whnf
 refine ⟨trivial,OpAt.store (A':=blkH ob tb (putC cs k (.slice none 0 0))) ob k (.slice none 0 0) _ rfl (λh s=>sepL_pull 1 s) rfl rfl rfl rfl rfl (by simp [Value.cells,Value.oneCell']) (λh r=>blk_put (by simp [Value.cells];omega) r) ?_⟩
 conv=>whnf
 refine ⟨λh=>absurd (bs_inj.1 (show bs z=bs [45] from of_decide_eq_true h)) hdash,λh=>?_⟩
 have hxl:=hexT_len b
 conv=>whnf
 refine ⟨trivial,OpAt.range (bs z) rfl rfl rfl rfl λit=>?_⟩
 conv=>whnf
 refine ⟨trivial,LoopAt.heap (α:=Nat × Option Addr × Nat) [1,20] (λa=>[(5,.v (.int .i64 (halfV b a.1)))]) (λa=>[rowH (.slice a.2.1 (a.1 / 2) a.2.2) (a.1 / 2) 5 1 (byV (b.take (a.1 / 2))),itH it (bs z) a.1,blkH ob tb (putC cs k (.slice a.2.1 (a.1 / 2) a.2.2)),tkH lb b0 off m0 c0 (k0+1)]) (λa=>a.1≤q) (λa=>q - a.1) (0,none,0) (Nat.zero_le _) rfl ⟨⟨rfl,rfl⟩,trivial⟩ ⟨⟨rfl,rfl⟩,⟨rfl,rfl⟩,trivial⟩ trivial (λh s=>sub_same (row_nil _ _ s)) ?_⟩
 rintro ⟨p,D,cd⟩ hi
 simp only at hi
 conv=>whnf
 by_cases hlt:p < q
 ·have hat:=hexT_at (b:=b) (p:=p) (by omega)
  have hpz:=hpre p hlt
  have hsz:p < (bs z).size:=by rw [bs_size];omega
  have hq:p / 2 < b.length:=by omega
  have hbq:(b[p / 2]?).getD 0=b[p / 2]:=by simp [hq]
  have hz:=(b[p / 2]).toNat_lt
  rw [hbq] at hat
  rw [hat] at hpz
  have htk:byV (b.take (p / 2+1))=byV (b.take (p / 2))++[.int .u8 (b[p / 2].toNat:Int)]:=by
   rw [List.take_succ_eq_append_getElem hq]
   unfold byV
   rw [List.map_append]
   rfl
  by_cases hpar:p % 2=0
  ·have hv:halfV b p=-1:=by unfold halfV;rw [if_pos hpar]
   have hv2:halfV b (p+1)=((b[p / 2].toNat / 16:Nat):Int):=by unfold halfV;rw [if_neg (by omega),show (p+1) / 2=p / 2 by omega,hbq]
   have e1:(p+1) / 2=p / 2:=by omega
   rw [if_pos hpar] at hpz
   have hy:z[p]'(by omega)=hexd (b[p / 2].toNat / 16):=by
    rw [List.getElem?_eq_getElem (by omega)] at hpz
    exact Option.some.inj hpz
   clear hat hpz
   generalize b[p / 2]=y at *
   have h128:=(idx16 ⟨y.toNat / 16,by omega⟩).2
   refine ⟨trivial,OpAt.next it (bs z) p _ rfl (λh s=>sepL_pull 1 s) rfl rfl hsz ?_⟩
   rw [decode_ascii (bs z) p hsz (by rw [bs_get,hy];exact h128),bs_get,hy]
   conv=>whnf
   refine iff_t rfl ?_
   conv=>whnf
   refine ⟨trivial,CallAt.pure (λR' hR'=>sIndexRune (y.toNat / 16) (by omega)) ?_⟩
   conv=>whnf
   refine iff_f (decide_eq_false (by omega)) ?_
   conv=>whnf
   refine iff_t (by rw [hv];decide) ?_
   conv=>whnf
   refine ⟨trivial,Next.heap (p+1,D,cd) (by simp only;omega) (by simp only;omega) ⟨⟨congrArg (λx=>some (SV.v (Value.int .i64 x))) hv2.symm,rfl⟩,trivial⟩ ⟨⟨rfl,rfl⟩,⟨rfl,rfl⟩,trivial⟩ trivial rfl rfl λh s=>sub_same ?_⟩
   rw [e1]
   exact sepL_perm (List.Perm.swap _ _ _) s
  ·have hv:halfV b p=((b[p / 2].toNat / 16:Nat):Int):=by unfold halfV;rw [if_neg hpar,hbq]
   have hv2:halfV b (p+1)=-1:=by unfold halfV;rw [if_pos (by omega)]
   have e1:(p+1) / 2=p / 2+1:=by omega
   rw [if_neg hpar] at hpz
   have hy:z[p]'(by omega)=hexd (b[p / 2].toNat % 16):=by
    rw [List.getElem?_eq_getElem (by omega)] at hpz
    exact Option.some.inj hpz
   clear hat hpz
   generalize b[p / 2]=y at *
   have h128:=(idx16 ⟨y.toNat % 16,by omega⟩).2
   generalize byV (b.take (p / 2))=us at *
   refine ⟨trivial,OpAt.next it (bs z) p _ rfl (λh s=>sepL_pull 1 s) rfl rfl hsz ?_⟩
   rw [decode_ascii (bs z) p hsz (by rw [bs_get,hy];exact h128),bs_get,hy]
   conv=>whnf
   refine iff_t rfl ?_
   conv=>whnf
   refine ⟨trivial,CallAt.pure (λR' hR'=>sIndexRune (y.toNat % 16) (by omega)) ?_⟩
   conv=>whnf
   refine iff_f (decide_eq_false (by omega)) ?_
   conv=>whnf
   refine iff_f (by rw [hv];exact decide_eq_false (by omega)) ?_
   conv=>whnf
   refine ⟨trivial,LoadAt.cell (.slice D (p / 2) cd) rfl rfl (λw hw=>blk_cell (hw.in_ 2 rfl) (putC_get hks)) ?_⟩
   conv=>whnf
   refine ⟨⟨trivial,by decide,?_⟩,OpAt.lit [.int .u8 (y.toNat:Int)] 1 rfl rfl rfl rfl rfl (by decide) rfl rfl ?_ (by simp [Value.cells]) rfl (by decide) λg=>?_⟩
   ·show rng .i64 (halfV b p * 16)
    rw [hv]
    unfold rng
    omega
   ·show [Value.int .u8 (y.toNat:Int)]=[Value.int .u8 (IntKind.u8.wrap (bits .or .i64 (halfV b p * 2 ^ Int.toNat 4) ((y.toNat % 16:Nat):Int)))]
    rw [hv]
    have h4:=orHL ⟨y.toNat,hz⟩
    simp only at h4
    rw [h4]
   conv=>whnf
   refine ⟨trivial,OpAt.append (.slice D (p / 2) cd) (p / 2) 1 1 us [.int .u8 (y.toNat:Int)] (some ⟨g,0,none⟩) 1 1 _ rfl (λh s=>sepL_pull 2 s) rfl rfl rfl rfl rfl rfl rfl rfl rfl (by decide) (λw hw=>rowH_reads rfl (hw.in_ 0 rfl)) (by simp [Value.oneCell']) (by simp only [maxLen];omega) (by omega) λD' cd'=>?_⟩
   conv=>whnf
   refine ⟨trivial,OpAt.store (A':=blkH ob tb (putC cs k (.slice D' (p / 2+1) cd'))) ob k (.slice D' (p / 2+1) cd') _ rfl (λh s=>sepL_pull 3 s) rfl rfl rfl rfl rfl (by simp [Value.cells,Value.oneCell']) (λh r=>?_) ?_⟩
   ·have hb:=blk_put (off:=k) (ys:=[.slice D' (p / 2+1) cd']) (show k+1≤_ by rw [putC_size hks];omega) r
    rw [show (putL (putC cs k (.slice D (p / 2) cd)).toList k [.slice D' (p / 2+1) cd']).toArray=putC cs k (.slice D' (p / 2+1) cd') from congrArg List.toArray (putL_again (by simpa using hks))] at hb
    exact hb
   conv=>whnf
   refine ⟨trivial,Next.heap (p+1,D',cd') (by simp only;omega) (by simp only;omega) ⟨⟨congrArg (λx=>some (SV.v (Value.int .i64 x))) hv2.symm,rfl⟩,trivial⟩ ⟨⟨rfl,rfl⟩,⟨rfl,rfl⟩,trivial⟩ trivial rfl rfl λh s=>?_⟩
   obtain ⟨h',e,s'⟩:=sub_tail (sepL_pull 2 s)
   refine ⟨h',e,?_⟩
   show sepL [rowH (.slice D' ((p+1) / 2) cd') ((p+1) / 2) 5 1 (byV (b.take ((p+1) / 2))),itH it (bs z) (p+1),blkH ob tb (putC cs k (.slice D' ((p+1) / 2) cd')),tkH lb b0 off m0 c0 (k0+1)] R h'
   rw [e1,htk]
   exact sepL_perm (List.Perm.trans (List.Perm.swap _ _ _) ((List.Perm.swap _ _ _).cons _)) s'
 ·obtain rfl:p=q:=by omega
  rcases hbad with ⟨hpe,hpar⟩|⟨c,hc,hx⟩
  ·refine ⟨trivial,OpAt.nextEnd it (bs z) p _ rfl (λh s=>sepL_pull 1 s) rfl rfl (by rw [bs_size];omega) ?_⟩
   conv=>whnf
   refine iff_f rfl ?_
   conv=>whnf
   rcases hpar with hpar|hp0
   ·have hv:(0:Int)≤halfV b p:=by unfold halfV;rw [if_neg (by omega)];omega
    refine ⟨λg=>absurd hv (of_decide_eq_false g),λ_=>?_⟩
    conv=>whnf
    repeat (first|(refine ⟨λ_=>?_,λh=>absurd h (by decide)⟩;conv=>whnf)|(refine ⟨λh=>absurd h (by decide),λ_=>?_⟩;conv=>whnf))
    exact ⟨trivial,OpAt.panic 73 (.agg #[.int .i64 12]) rfl rfl rfl rfl (λw s=>s.rest) trivial⟩
   ·subst hp0
    have hv:halfV b 0=-1:=rfl
    refine ⟨λ_=>?_,λg=>absurd (show (0:Int)≤halfV b 0 by simpa using g) (by rw [hv];decide)⟩
    conv=>whnf
    refine ⟨trivial,LoadAt.cell (.slice D (0 / 2) cd) rfl rfl (λw hw=>blk_cell (hw.in_ 2 rfl) (putC_get hks)) ?_⟩
    conv=>whnf
    refine iff_t (decide_eq_true (by omega)) ?_
    conv=>whnf
    exact ⟨trivial,OpAt.panic 73 (.agg #[.int .i64 12]) rfl rfl rfl rfl (λw s=>s.rest) trivial⟩
  ·have hpl:=(List.getElem?_eq_some_iff.1 hc).1
   have hsz:p < (bs z).size:=by rw [bs_size];omega
   have hno:∀ R':HP,PureR Tryz.prog R' 61 [.string HXs,.int .i32 ((Utf8.decode (bs z) p).1:Int)] (.int .i64 (-1)):=λR'=>by
    by_cases hcl:c.toNat < 128
    ·have hy:z[p]'(by omega)=c:=(List.getElem?_eq_some_iff.1 hc).2
     rw [decode_ascii (bs z) p hsz (by rw [bs_get,hy];exact hcl),bs_get,hy]
     refine PureR.of_below λw _=>(Any.strings_IndexRune_ascii lays152 HXs (c.toNat:Int) w (by omega) (by omega)).mono λe w' ⟨he,hw⟩=>⟨?_,hw ▸ Below.refl _ _⟩
     rw [he]
     have e:(c.toNat:Int).toNat.toUInt8=c:=by rw [Int.toNat_natCast];exact UInt8.toNat_inj.1 (by simp)
     rw [e,isX_no hx hcl]
    ·have h1:=decode_hi hc (by omega)
     exact sIndexRuneHi (by omega)
   refine ⟨trivial,OpAt.next it (bs z) p _ rfl (λh s=>sepL_pull 1 s) rfl rfl hsz ?_⟩
   generalize Utf8.decode (bs z) p=dz at *
   conv=>whnf
   refine iff_t rfl ?_
   conv=>whnf
   refine ⟨trivial,CallAt.pure (λR' hR'=>hno R') ?_⟩
   conv=>whnf
   refine iff_t rfl ?_
   conv=>whnf
   exact ⟨trivial,OpAt.panic 73 (.agg #[.int .i64 12]) rfl rfl rfl rfl (λw s=>s.rest) trivial⟩
end Go.Proofs.YtcoefgkjlgngkaaGreatDoor
