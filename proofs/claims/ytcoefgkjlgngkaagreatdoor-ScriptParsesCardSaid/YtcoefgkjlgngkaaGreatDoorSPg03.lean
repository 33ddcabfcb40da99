/-
  Texts of the proofs, one behind the other: TintP, TintQ, SySl, SySub, TintA, TintB, TintC, TintShelf, SyDefer, TintD, TintE.
-/
import Derived.Test.YtcoefgkjlgngkaaGreatDoorSPg02
import Derived.Lib.SplitLaws
import Derived.Shelf.Small.Utf8
import Derived.Shelf.Strings.Split
import Derived.Shelf.Utf8.AppendRunePlain
import Derived.Test.YtcoefgkjlgngkaaGreatDoorProg
import Derived.Test.YtcoefgkjlgngkaaGreatDoorSPg01
import Derived.Defers
import Derived.Recover
import Derived.WalkSmall
namespace Go.Proofs.YtcoefgkjlgngkaaGreatDoor
open Go.RowKit
open Sy
set_option linter.unusedVariables false
set_option linter.unusedSimpArgs false
set_option maxRecDepth 100000
set_option maxHeartbeats 4000000
def SignN (c:Nat):Prop:=c≠44∧c≠58∧c≠173∧((33≤c∧c≤126)∨(161≤c∧c≤55295)∨(57344≤c∧c≤65532))
instance (c:Nat):Decidable (SignN c):=by unfold SignN;exact inferInstance
def u8 (n:Nat):UInt8:=UInt8.ofNat n
theorem u8_nat {n:Nat} (h:n < 256):(u8 n).toNat=n:=by unfold u8;rw [UInt8.toNat_ofNat'];omega
theorem u8_of {a:UInt8} {n:Nat} (h:a.toNat=n):u8 n=a:=by
 apply UInt8.toNat_inj.1
 rw [u8_nat (by have:=a.toNat_lt;omega),h]
def utfN (c:Nat):List UInt8:=if c < 128 then [u8 c] else if c < 2048 then [u8 (192+c / 64),u8 (128+c % 64)] else [u8 (224+c / 4096),u8 (128+c / 64 % 64),u8 (128+c % 64)]
theorem utfN_ne (c:Nat):utfN c≠[]:=by unfold utfN;split<;>(try split)<;>simp
theorem utfN_len (c:Nat):1≤(utfN c).length∧(utfN c).length≤3:=by unfold utfN;split<;>(try split)<;>simp
def dec (x:List UInt8):Nat × Nat :=
 let b (k:Nat):Nat:=((x[k]?).getD 0).toNat
 let cont (k:Nat):Bool:=k < x.length && b k / 64 == 2
 if b 0 < 0x80 then (b 0,1)
 else if b 0 / 32 == 6 && cont 1 then
  let c:=(b 0 % 32) * 64+b 1 % 64
  if c ≥ 0x80 then (c,2) else (Utf8.runeError,1)
 else if b 0 / 16 == 14 && cont 1 && cont 2 then
  let c:=(b 0 % 16) * 4096+(b 1 % 64) * 64+b 2 % 64
  if c ≥ 0x800 && Utf8.valid c then (c,3) else (Utf8.runeError,1)
 else if b 0 / 8 == 30 && cont 1 && cont 2 && cont 3 then
  let c:=(b 0 % 8) * 262144+(b 1 % 64) * 4096+(b 2 % 64) * 64+b 3 % 64
  if c ≥ 0x10000 && Utf8.valid c then (c,4) else (Utf8.runeError,1)
 else (Utf8.runeError,1)
theorem get_bs (l:List UInt8) (i k:Nat):((bs l).get! (i+k)).toNat=(((l.drop i)[k]?).getD 0).toNat:=by
 rw [List.getElem?_drop]
 unfold bs ByteArray.get!
 simp only [Array.getElem!_eq_getD,Array.getD_eq_getD_getElem?,List.getElem?_toArray]
 rfl
theorem decode_bs (l:List UInt8) (i:Nat):Utf8.decode (bs l) i=dec (l.drop i):=by
 have h0:=get_bs l i
 have hc:∀ k,decide (i+k < (bs l).size)=decide (k < (l.drop i).length):=λk=>by
  rw [bs_size,List.length_drop]
  exact decide_eq_decide.2 (by omega)
 unfold Utf8.decode dec
 simp only [h0,hc]
theorem dec_utf {c:Nat} (h:SignN c) (post:List UInt8):dec (utfN c++post)=(c,(utfN c).length):=by
 unfold SignN at h
 unfold utfN
 split
 ·rename_i h1
  have e0:((([u8 c]++post)[0]?).getD 0).toNat=c:=by simp [u8_nat (show c < 256 by omega)]
  unfold dec
  simp only [e0]
  rw [if_pos (by omega)]
  rfl
 ·split
  ·rename_i h1 h2
   have e0:((([u8 (192+c / 64),u8 (128+c % 64)]++post)[0]?).getD 0).toNat=192+c / 64:=by simp [u8_nat (show 192+c / 64 < 256 by omega)]
   have e1:((([u8 (192+c / 64),u8 (128+c % 64)]++post)[1]?).getD 0).toNat=128+c % 64:=by simp [u8_nat (show 128+c % 64 < 256 by omega)]
   have el:decide (1 < ([u8 (192+c / 64),u8 (128+c % 64)]++post).length)=true:=decide_eq_true (by simp)
   unfold dec
   simp only [e0,e1,el]
   have f1:(192+c / 64) / 32=6:=by omega
   have f2:(128+c % 64) / 64=2:=by omega
   have f3:(192+c / 64) % 32 * 64+(128+c % 64) % 64=c:=by omega
   rw [f1,f2,f3,if_neg (by omega)]
   simp only [beq_self_eq_true,Bool.and_self,if_true]
   rw [if_pos (by omega)]
   rfl
  ·rename_i h1 h2
   have e0:((([u8 (224+c / 4096),u8 (128+c / 64 % 64),u8 (128+c % 64)]++post)[0]?).getD 0).toNat=224+c / 4096:=by simp [u8_nat (show 224+c / 4096 < 256 by omega)]
   have e1:((([u8 (224+c / 4096),u8 (128+c / 64 % 64),u8 (128+c % 64)]++post)[1]?).getD 0).toNat=128+c / 64 % 64:=by simp [u8_nat (show 128+c / 64 % 64 < 256 by omega)]
   have e2:((([u8 (224+c / 4096),u8 (128+c / 64 % 64),u8 (128+c % 64)]++post)[2]?).getD 0).toNat=128+c % 64:=by simp [u8_nat (show 128+c % 64 < 256 by omega)]
   have el:decide (1 < ([u8 (224+c / 4096),u8 (128+c / 64 % 64),u8 (128+c % 64)]++post).length)=true:=decide_eq_true (by simp)
   have el2:decide (2 < ([u8 (224+c / 4096),u8 (128+c / 64 % 64),u8 (128+c % 64)]++post).length)=true:=decide_eq_true (by simp)
   unfold dec
   simp only [e0,e1,e2,el,el2]
   have f0:((224+c / 4096) / 32 == 6)=false:=by
    have:(224+c / 4096) / 32=7:=by omega
    rw [this];rfl
   have f1:(224+c / 4096) / 16=14:=by omega
   have f2:(128+c % 64) / 64=2:=by omega
   have f2':(128+c / 64 % 64) / 64=2:=by omega
   have f3:(224+c / 4096) % 16 * 4096+(128+c / 64 % 64) % 64 * 64+(128+c % 64) % 64=c:=by omega
   have fv:Utf8.valid (c:Int)=true:=by
    unfold Utf8.valid
    simp only [Bool.or_eq_true,Bool.and_eq_true,decide_eq_true_eq]
    omega
   rw [f0,f1,f2,f2',f3,fv,if_neg (by omega)]
   simp only [Bool.false_and,Bool.false_eq_true,if_false,beq_self_eq_true,Bool.and_self,if_true,Bool.and_true,decide_eq_true_eq]
   rw [if_pos (by omega)]
   rfl
theorem utf_dec {x:List UInt8} {c k:Nat} (h:dec x=(c,k)) (hs:SignN c):x.take k=utfN c∧k≤x.length:=by
 unfold SignN at hs
 have herr:∀ {q:Nat},(Utf8.runeError,q)=(c,k)→False:=λe=>by
  injection e with e _
  unfold Utf8.runeError at e
  omega
 cases x with
 |nil =>
  have:dec []=(0,1):=rfl
  rw [this] at h
  injection h with h _
  omega
 |cons a x =>
 unfold dec at h
 simp only [List.getElem?_cons_zero,Option.getD_some,List.getElem?_cons_succ] at h
 split at h
 ·injection h with h1 h2
  subst h1 h2
  unfold utfN
  rename_i hlt
  rw [if_pos (by omega)]
  exact ⟨by rw [u8_of rfl];rfl,by simp⟩
 ·rename_i h128
  split at h
  ·rename_i hc
   simp only [Bool.and_eq_true,beq_iff_eq,decide_eq_true_eq] at hc
   obtain ⟨hc0,hc1,hc2⟩:=hc
   cases x with
   |nil=>simp at hc1
   |cons b x =>
   simp only [List.getElem?_cons_zero,Option.getD_some] at h hc2
   split at h
   ·rename_i hge
    injection h with h1 h2
    subst h2
    have ha:=a.toNat_lt
    have hb:=b.toNat_lt
    unfold utfN
    rw [if_neg (by omega),if_pos (by omega)]
    refine ⟨?_,by simp⟩
    simp only [List.take_succ_cons,List.take_zero]
    rw [u8_of (a:=a) (by omega),u8_of (a:=b) (by omega)]
   ·exact (herr h).elim
  ·split at h
   ·rename_i hc
    simp only [Bool.and_eq_true,beq_iff_eq,decide_eq_true_eq] at hc
    obtain ⟨⟨hc0,hc1,hc2⟩,hc3,hc4⟩:=hc
    cases x with
    |nil=>simp at hc1
    |cons b x =>
    cases x with
    |nil=>simp at hc3
    |cons d x =>
    simp only [List.getElem?_cons_zero,Option.getD_some,List.getElem?_cons_succ] at h hc2 hc4
    split at h
    ·rename_i hge
     simp only [Bool.and_eq_true,decide_eq_true_eq] at hge
     injection h with h1 h2
     subst h2
     have ha:=a.toNat_lt
     have hb:=b.toNat_lt
     have hd:=d.toNat_lt
     unfold utfN
     rw [if_neg (by omega),if_neg (by omega)]
     refine ⟨?_,by simp⟩
     simp only [List.take_succ_cons,List.take_zero]
     rw [u8_of (a:=a) (by omega),u8_of (a:=b) (by omega),u8_of (a:=d) (by omega)]
    ·exact (herr h).elim
   ·split at h
    ·split at h
     ·rename_i hge
      simp only [Bool.and_eq_true,decide_eq_true_eq] at hge
      injection h with h1 h2
      omega
     ·exact (herr h).elim
    ·exact (herr h).elim
theorem utfN_comma {c:Nat} (h:SignN c):(44:UInt8) ∉ utfN c:=by
 unfold SignN at h
 have key:∀ n,n < 256→n≠44→(44:UInt8)≠u8 n:=λn h1 h2 e=>by
  have:=congrArg UInt8.toNat e
  rw [u8_nat h1] at this
  exact h2 this.symm
 unfold utfN
 split
 ·simp only [List.mem_singleton];exact key _ (by omega) (by omega)
 ·split
  ·simp only [List.mem_cons,List.not_mem_nil,or_false,not_or]
   exact ⟨key _ (by omega) (by omega),key _ (by omega) (by omega)⟩
  ·simp only [List.mem_cons,List.not_mem_nil,or_false,not_or]
   exact ⟨key _ (by omega) (by omega),key _ (by omega) (by omega),key _ (by omega) (by omega)⟩
theorem nd_take {l:List UInt8} {k:Nat} (h:k≤nd l):nd (l.take k)=k:=by
 have h1:=nd_le l
 have h2:∀ c∈l.take k,isD c=true:=λc hc=>nd_all l c (by
  have:l.take k=(l.take (nd l)).take k:=by rw [List.take_take,Nat.min_eq_left h]
  rw [this] at hc
  exact List.mem_of_mem_take hc)
 have:=nd_pre (rest:=[]) h2 (by simp)
 rw [List.append_nil,List.length_take] at this
 omega
theorem scan_fine {s:List UInt8} {n e:Int} (h:scan s 0=(n,e,0)):∃ k:Nat,e=(k:Int)∧k≤s.length∧s.take k=Lib.itoa n∧-9223372036854775808≤n∧n≤9223372036854775807:=by
 have hs:=scan_of (l:=s) (r:=s) (q:=s.drop (sgn s)) (n:=0) (Nat.zero_le _) rfl rfl rfl rfl
 rw [show ((0:Nat):Int)=0 from rfl,h] at hs
 have hq:=nd_le (s.drop (sgn s))
 have hsl:=sgn_le s
 have hlen:(s.drop (sgn s)).length=s.length - sgn s:=by simp
 by_cases c:nd (s.drop (sgn s))=0∨((s.drop (sgn s))[0]? = some 48∧(1 < nd (s.drop (sgn s))∨0 < sgn s))
 ·rw [if_pos c] at hs
  simp at hs
 rw [if_neg c] at hs
 by_cases hv:dv 0 ((s.drop (sgn s)).take (nd (s.drop (sgn s))))≤9223372036854775807+sgn s
 ·rw [if_pos hv] at hs
  obtain ⟨hn,he⟩:=Prod.ext_iff.1 hs
  simp only at hn he
  obtain ⟨he,-⟩:=Prod.ext_iff.1 he
  simp only at he
  generalize hK:sgn s+nd (s.drop (sgn s))=K
  have hKs:K≤s.length:=by omega
  have hnd0:0 < nd (s.drop (sgn s)):=by omega
  have hsg:sgn (s.take K)=sgn s:=by
   cases s with
   |nil=>simp [nd] at hnd0
   |cons a t =>
    obtain ⟨K',rfl⟩:∃ K',K=K'+1:=⟨K - 1,by omega⟩
    rfl
  have hdr:(s.take K).drop (sgn s)=(s.drop (sgn s)).take (nd (s.drop (sgn s))):=by
   rw [List.drop_take]
   congr 1
   omega
  have hnd:nd ((s.drop (sgn s)).take (nd (s.drop (sgn s))))=nd (s.drop (sgn s)):=nd_take (Nat.le_refl _)
  have h0:((s.drop (sgn s)).take (nd (s.drop (sgn s))))[0]? = (s.drop (sgn s))[0]?:=by rw [List.getElem?_take,if_pos hnd0]
  have h2:=scan_of (l:=s.take K) (r:=s.take K) (q:=(s.drop (sgn s)).take (nd (s.drop (sgn s)))) (i:=nd (s.drop (sgn s))) (sg:=sgn s) (n:=0) (Nat.zero_le _) rfl hsg hdr hnd
  rw [show ((0:Nat):Int)=0 from rfl,h0,if_neg c] at h2
  have htt:((s.drop (sgn s)).take (nd (s.drop (sgn s)))).take (nd (s.drop (sgn s)))=(s.drop (sgn s)).take (nd (s.drop (sgn s))):=by rw [List.take_take,Nat.min_self]
  rw [htt,if_pos hv,← hn] at h2
  have hr:read (s.take K)=(n,0):=by
   unfold read
   rw [h2]
   have hl:(s.take K).length=K:=by rw [List.length_take];omega
   simp only [ne_eq,not_true_eq_false,if_false]
   rw [if_neg (by rw [hl];omega)]
  have hb:=read_rng (l:=s.take K)
  rw [hr] at hb
  exact ⟨K,by omega,hKs,(itoa_read hr).symm,hb.1,hb.2⟩
 ·rw [if_neg hv] at hs
  simp at hs
theorem scan_shift (s:List UInt8) {k:Nat} (hk:k≤s.length):scan s (k:Int)=if (scan (s.drop k) 0).2.2=0 then ((scan (s.drop k) 0).1,(k:Int)+(scan (s.drop k) 0).2.1,0) else scan (s.drop k) 0:=by
 have h1:=scan_of (l:=s) (r:=s.drop k) (q:=(s.drop k).drop (sgn (s.drop k))) (n:=k) hk rfl rfl rfl rfl
 have h2:=scan_of (l:=s.drop k) (r:=s.drop k) (q:=(s.drop k).drop (sgn (s.drop k))) (n:=0) (Nat.zero_le _) rfl rfl rfl rfl
 rw [show ((0:Nat):Int)=0 from rfl] at h2
 rw [h1,h2]
 split
 ·rfl
 ·split
  ·rw [if_pos rfl]
   simp only [Prod.mk.injEq,true_and,and_true]
   omega
  ·rfl
def joinC:List (List UInt8)→List UInt8
 |[]=>[]
 |p::ps=>p++ps.flatMap λq=>44::q
theorem joinC_nil {ps:List (List UInt8)} (h:ps≠[]):joinC ([]::ps)=44::joinC ps:=by
 cases ps with
 |nil=>exact absurd rfl h
 |cons q qs=>simp [joinC]
def consH (c:UInt8):List (List UInt8)→List (List UInt8)
 |[]=>[[c]]
 |p::ps=>(c::p)::ps
theorem split_step {c:UInt8} (hc:c≠44) (l:List UInt8):∀ k,Lib.splitK [44] 0 k (c::l)=consH c (Lib.splitK [44] 0 k l)
 |0=>rfl
 |k+1=>by
  have hp:([44]:List UInt8).isPrefixOf (c::l)=false:=by simp [List.isPrefixOf,Ne.symm hc]
  have hix:Lib.index (c::l) [44]=if Lib.index l [44] == -1 then -1 else Lib.index l [44]+1:=by rw [Lib.index,hp];simp
  unfold Lib.splitK
  by_cases hm:Lib.index l [44]=-1
  ·rw [hix,hm];rfl
  ·have hge:=Lib.index_ge l [44]
   obtain ⟨j,hj⟩:∃ j:Nat,Lib.index l [44]=j:=⟨(Lib.index l [44]).toNat,by omega⟩
   have e1:Lib.index (c::l) [44]=((j+1:Nat):Int):=by rw [hix,if_neg (λe=>hm (beq_iff_eq.1 e)),hj];omega
   rw [e1,hj,if_neg (λe=>by have:=beq_iff_eq.1 e;omega),if_neg (λe=>by have:=beq_iff_eq.1 e;omega)]
   simp [consH]
theorem split_spec:∀ s:List UInt8,joinC (Lib.splitK [44] 0 (s.count 44) s)=s∧(∀ p∈Lib.splitK [44] 0 (s.count 44) s,(44:UInt8) ∉ p)∧Lib.splitK [44] 0 (s.count 44) s≠[]
 |[]=>⟨rfl,λp hp=>by simp [Lib.splitK] at hp;subst hp;simp,by simp [Lib.splitK]⟩
 |c::l=>by
  obtain ⟨h1,h2,h3⟩:=split_spec l
  by_cases hc:c=44
  ·subst hc
   have hix:Lib.index (44::l) [44]=0:=by rw [Lib.index];simp [List.isPrefixOf]
   have e:Lib.splitK [44] 0 ((44::l).count 44) (44::l)=[]::Lib.splitK [44] 0 (l.count 44) l:=by
    rw [List.count_cons_self]
    rw [Lib.splitK,hix]
    simp
   rw [e]
   refine ⟨by rw [joinC_nil h3,h1],λp hp=>?_,by simp⟩
   rcases List.mem_cons.1 hp with rfl|hp
   ·simp
   ·exact h2 p hp
  ·rw [List.count_cons_of_ne (by simpa using λe=>hc e),split_step hc]
   generalize Lib.splitK [44] 0 (l.count 44) l=ps at *
   cases ps with
   |nil=>exact absurd rfl h3
   |cons p ps =>
    refine ⟨by show c::(p++_)=_;rw [← h1];rfl,λq hq=>?_,by simp [consH]⟩
    rcases List.mem_cons.1 hq with rfl|hq
    ·intro hm
     rcases List.mem_cons.1 hm with e|hm
     ·exact hc e.symm
     ·exact h2 p (by simp) hm
    ·exact h2 q (List.mem_cons_of_mem _ hq)
theorem upto_comma {p q r t:List UInt8} (hp:(44:UInt8) ∉ p) (hq:(44:UInt8) ∉ q) (hr:r=[]∨∃ r',r=44::r') (ht:t=[]∨∃ t',t=44::t') (h:p++r=q++t):p=q∧r=t:=by
 induction p generalizing q with
 |nil =>
  cases q with
  |nil=>exact ⟨rfl,h⟩
  |cons b q =>
   rcases hr with rfl|⟨r',rfl⟩
   ·simp at h
   ·simp only [List.nil_append,List.cons_append,List.cons.injEq] at h
    exact absurd (by rw [h.1];simp) hq
 |cons a p ih =>
  cases q with
  |nil =>
   rcases ht with rfl|⟨t',rfl⟩
   ·simp at h
   ·simp only [List.nil_append,List.cons_append,List.cons.injEq] at h
    exact absurd (by rw [← h.1];simp) hp
  |cons b q =>
   simp only [List.cons_append,List.cons.injEq] at h
   obtain ⟨e1,e2⟩:=ih (λc=>hp (List.mem_cons_of_mem _ c)) (λc=>hq (List.mem_cons_of_mem _ c)) h.2
   exact ⟨by rw [h.1,e1],e2⟩
theorem tail_form (ps:List (List UInt8)):(ps.flatMap λq=>44::q)=[]∨∃ r',(ps.flatMap λq=>44::q)=(44:UInt8)::r':=by
 cases ps with
 |nil=>exact .inl rfl
 |cons p ps=>exact .inr ⟨_,rfl⟩
theorem tails_inj:∀ {ps qs:List (List UInt8)},(∀ p∈ps,(44:UInt8) ∉ p)→(∀ p∈qs,(44:UInt8) ∉ p)→(ps.flatMap λq=>44::q)=(qs.flatMap λq=>(44:UInt8)::q)→ps=qs
 |[],[],_,_,_=>rfl
 |[],q::qs,_,_,h=>by simp at h
 |p::ps,[],_,_,h=>by simp at h
 |p::ps,q::qs,hp,hq,h=>by
  simp only [List.flatMap_cons,List.cons_append,List.cons.injEq,true_and] at h
  obtain ⟨e1,e2⟩:=upto_comma (hp p (by simp)) (hq q (by simp)) (tail_form ps) (tail_form qs) h
  rw [e1,tails_inj (λx hx=>hp x (List.mem_cons_of_mem _ hx)) (λx hx=>hq x (List.mem_cons_of_mem _ hx)) e2]
theorem joinC_inj {ps qs:List (List UInt8)} (h1:ps≠[]) (h2:qs≠[]) (hp:∀ p∈ps,(44:UInt8) ∉ p) (hq:∀ p∈qs,(44:UInt8) ∉ p) (h:joinC ps=joinC qs):ps=qs:=by
 cases ps with
 |nil=>exact absurd rfl h1
 |cons p ps =>
 cases qs with
 |nil=>exact absurd rfl h2
 |cons q qs =>
 obtain ⟨e1,e2⟩:=upto_comma (hp p (by simp)) (hq q (by simp)) (tail_form ps) (tail_form qs) h
 rw [e1,tails_inj (λx hx=>hp x (List.mem_cons_of_mem _ hx)) (λx hx=>hq x (List.mem_cons_of_mem _ hx)) e2]
structure Bd where
 f:Int
 s:Int
def SignI (r:Int):Prop:=0≤r∧SignN r.toNat
instance (r:Int):Decidable (SignI r):=by unfold SignI;exact inferInstance
def MayI (v:Int):Prop:=-2147483648≤v∧v≤2147483647
instance (v:Int):Decidable (MayI v):=by unfold MayI;exact inferInstance
def In64 (v:Int):Prop:=-9223372036854775808≤v∧v≤9223372036854775807
def bF (l:List Bd) (i:Nat):Int:=(l.getD i ⟨0,0⟩).f
def bS (l:List Bd) (i:Nat):Int:=(l.getD i ⟨0,0⟩).s
def BandOk (l:List Bd) (i:Nat):Prop:=MayI (bF l i)∧SignI (bS l i)∧∀ k,k < i→bF l k < bF l i∧bS l k≠bS l i
instance (l:List Bd) (i:Nat):Decidable (BandOk l i):=by unfold BandOk;exact inferInstance
def RightL (l:List Bd):Prop:=1≤l.length∧l.length≤12∧∀ i,i < l.length→BandOk l i
instance (l:List Bd):Decidable (RightL l):=by unfold RightL;exact inferInstance
def bandT (b:Bd):List UInt8:=Lib.itoa b.f++58::utfN b.s.toNat
def printT (l:List Bd):List UInt8:=joinC (l.map bandT)
theorem itoa_comma (n:Int):(44:UInt8) ∉ Lib.itoa n:=by
 obtain ⟨h1,_,_,_⟩:=dec_facts n.natAbs
 have hd:(44:UInt8) ∉ Lib.decDigits n.natAbs:=λh=>by
  have:=isD_iff.1 (h1 _ h)
  have e:(44:UInt8).toNat=44:=rfl
  omega
 unfold Lib.itoa
 split
 ·intro h
  rcases List.mem_cons.1 h with h|h
  ·exact absurd h (by decide)
  ·exact hd h
 ·rename_i c
  rw [show n.toNat=n.natAbs by omega]
  exact hd
theorem bandT_comma {b:Bd} (h:SignI b.s):(44:UInt8) ∉ bandT b:=by
 unfold bandT
 intro c
 rcases List.mem_append.1 c with c|c
 ·exact itoa_comma _ c
 ·rcases List.mem_cons.1 c with c|c
  ·exact absurd c (by decide)
  ·exact utfN_comma h.2 c
theorem dig_len:∀ (k u:Nat),u < 10 ^ (k+1)→(Lib.decDigits u).length≤k+1
 |0,u,h=>by rw [dec_one (by omega)];simp
 |k+1,u,h=>by
  by_cases c:u < 10
  ·rw [dec_one c];simp
  ·rw [dec_more c,List.length_append]
   have:=dig_len k (u / 10) (by rw [Nat.pow_succ] at h;omega)
   simp only [List.length_cons,List.length_nil]
   omega
theorem itoa_len {n:Int} (h:MayI n):(Lib.itoa n).length≤11:=by
 unfold MayI at h
 unfold Lib.itoa
 split
 ·have:=dig_len 9 n.natAbs (by simp;omega)
  simp only [List.length_cons]
  omega
 ·have:=dig_len 9 n.toNat (by simp;omega)
  omega
def bandV (s:List UInt8):Option Bd :=
 if (scan s 0).2.2=0∧(scan s 0).2.1.toNat < s.length∧s[(scan s 0).2.1.toNat]? = some 58∧SignN (dec (s.drop ((scan s 0).2.1.toNat+1))).1∧(dec (s.drop ((scan s 0).2.1.toNat+1))).2=(s.drop ((scan s 0).2.1.toNat+1)).length then
  some ⟨(scan s 0).1,((dec (s.drop ((scan s 0).2.1.toNat+1))).1:Int)⟩ else none
theorem at_split {s:List UInt8} {k:Nat} {c:UInt8} (h:s[k]? = some c):s=s.take k++c::s.drop (k+1):=by
 obtain ⟨h1,h2⟩:=List.getElem?_eq_some_iff.1 h
 conv=>lhs;rw [← List.take_append_drop k s,List.drop_eq_getElem_cons h1,h2]
theorem bandV_some {s:List UInt8} {b:Bd} (h:bandV s=some b):s=bandT b∧In64 b.f∧SignI b.s:=by
 unfold bandV at h
 split at h
 ·rename_i hc
  obtain ⟨h1,h2,h3,h4,h5⟩:=hc
  injection h with h
  subst h
  rcases hx:scan s 0 with ⟨n,e,q⟩
  rw [hx] at h1 h2 h3 h4 h5
  simp only at h1 h2 h3 h4 h5 ⊢
  subst h1
  obtain ⟨k,rfl,hk,ht,hb⟩:=scan_fine hx
  simp only [Int.toNat_natCast] at h2 h3 h4 h5 ⊢
  rcases hd:dec (s.drop (k+1)) with ⟨c,j⟩
  rw [hd] at h4 h5
  simp only at h4 h5 ⊢
  obtain ⟨hu,_⟩:=utf_dec hd h4
  rw [h5,List.take_length] at hu
  refine ⟨?_,hb,⟨by omega,by simpa using h4⟩⟩
  unfold bandT
  simp only [Int.toNat_natCast]
  rw [← hu,← ht]
  exact at_split h3
 ·cases h
theorem colon_not:∀ (x:List UInt8) (c:UInt8),(58::x:List UInt8)[0]? = some c→isD c=false:=λx c h=>by
 simp only [List.getElem?_cons_zero,Option.some.injEq] at h
 subst h
 rfl
theorem bandV_of {b:Bd} (h1:In64 b.f) (h2:SignI b.s):bandV (bandT b)=some b:=by
 have hs:scan (bandT b) 0=(b.f,((Lib.itoa b.f).length:Int),0):=scan_itoa b.f h1.1 h1.2 _ (colon_not _)
 have hd:(bandT b).drop ((Lib.itoa b.f).length+1)=utfN b.s.toNat:=by unfold bandT;simp
 have hu:=dec_utf h2.2 []
 rw [List.append_nil] at hu
 unfold bandV
 rw [hs]
 simp only [Int.toNat_natCast]
 rw [hd,hu]
 rw [if_pos ⟨trivial,by unfold bandT;simp,by unfold bandT;simp,h2.2,rfl⟩]
 obtain ⟨f,s⟩:=b
 have:=h2.1
 simp only at this ⊢
 rw [Int.toNat_of_nonneg this]
def partsV:List (List UInt8)→Option (List Bd)
 |[]=>some []
 |p::ps=>match bandV p with
  |none=>none
  |some b=>(partsV ps).map (b::·)
theorem partsV_some:∀ {ps:List (List UInt8)} {l:List Bd},partsV ps=some l→ps=l.map bandT∧∀ b∈l,In64 b.f∧SignI b.s
 |[],l,h=>by
  injection h with h
  subst h
  exact ⟨rfl,λb hb=>by cases hb⟩
 |p::ps,l,h=>by
  unfold partsV at h
  split at h
  ·cases h
  ·rename_i b hb
   obtain ⟨l',hl,rfl⟩:=Option.map_eq_some_iff.1 h
   obtain ⟨e1,e2⟩:=partsV_some hl
   obtain ⟨f1,f2⟩:=bandV_some hb
   refine ⟨by rw [List.map_cons,← f1,← e1],λx hx=>?_⟩
   rcases List.mem_cons.1 hx with rfl|hx
   ·exact f2
   ·exact e2 x hx
theorem partsV_of:∀ {l:List Bd},(∀ b∈l,In64 b.f∧SignI b.s)→partsV (l.map bandT)=some l
 |[],_=>rfl
 |b::l,h=>by
  rw [List.map_cons,partsV,bandV_of (h b (by simp)).1 (h b (by simp)).2]
  simp only
  rw [partsV_of λx hx=>h x (List.mem_cons_of_mem _ hx)]
  rfl
theorem RightL.good {l:List Bd} (h:RightL l):∀ b∈l,MayI b.f∧SignI b.s:=λb hb=>by
 obtain ⟨i,hi,rfl⟩:=List.getElem_of_mem hb
 obtain ⟨h1,h2,_⟩:=h.2.2 i hi
 have e:l.getD i ⟨0,0⟩=l[i]:=by rw [List.getD_eq_getElem?_getD,List.getElem?_eq_getElem hi];rfl
 unfold bF at h1
 unfold bS at h2
 rw [e] at h1 h2
 exact ⟨h1,h2⟩
theorem MayI.in64 {v:Int} (h:MayI v):In64 v:=by unfold MayI at h;unfold In64;omega
theorem bandT_len {b:Bd} (h:MayI b.f):(bandT b).length≤15:=by
 have h1:=itoa_len h
 have h2:=utfN_len b.s.toNat
 unfold bandT
 rw [List.length_append,List.length_cons]
 omega
theorem tails_len:∀ (l:List Bd),(∀ b∈l,MayI b.f)→((l.map bandT).flatMap λq=>(44:UInt8)::q).length≤16 * l.length
 |[],_=>by simp
 |b::l,h=>by
  have h1:=bandT_len (h b (by simp))
  have h2:=tails_len l λx hx=>h x (List.mem_cons_of_mem _ hx)
  simp only [List.map_cons,List.flatMap_cons,List.length_append,List.length_cons]
  omega
theorem printT_len {l:List Bd} (h:RightL l):(printT l).length≤192:=by
 have hg:=h.good
 have hl:=h.2.1
 unfold printT
 cases l with
 |nil=>simp [joinC]
 |cons b l =>
  have h1:=bandT_len (hg b (by simp)).1
  have h2:=tails_len l λx hx=>(hg x (List.mem_cons_of_mem _ hx)).1
  simp only [List.map_cons,joinC,List.length_append]
  simp only [List.length_cons] at hl
  omega
def readV (s:List UInt8):Option (List Bd):=if 192 < s.length then none else match partsV (Lib.splitK [44] 0 (s.count 44) s) with
 |none=>none
 |some l=>if RightL l then some l else none
theorem readV_iff {s:List UInt8} {l:List Bd}:readV s=some l↔RightL l∧s=printT l:=by
 obtain ⟨h1,h2,h3⟩:=split_spec s
 constructor
 ·intro h
  unfold readV at h
  split at h
  ·cases h
  ·split at h
   ·cases h
   ·rename_i l' hp
    split at h
    ·rename_i hr
     injection h with h
     subst h
     obtain ⟨e,_⟩:=partsV_some hp
     exact ⟨hr,by unfold printT;rw [← e,h1]⟩
    ·cases h
 ·rintro ⟨hr,rfl⟩
  have hne:l.map bandT≠[]:=by
   have:=hr.1
   intro c
   rw [List.map_eq_nil_iff.1 c] at this
   simp at this
  have e:Lib.splitK [44] 0 ((printT l).count 44) (printT l)=l.map bandT:=joinC_inj h3 hne h2 (λp hp=>by
   obtain ⟨b,hb,rfl⟩:=List.mem_map.1 hp
   exact bandT_comma (hr.good b hb).2) h1
  unfold readV
  rw [if_neg (by have:=printT_len hr;omega),e,partsV_of λb hb=>⟨(hr.good b hb).1.in64,(hr.good b hb).2⟩]
  simp only
  rw [if_pos hr]
def runeV (x:List UInt8):Int × Nat:=if SignN (dec x).1∧x≠[] then (((dec x).1:Int),(dec x).2) else (0,0)
def bandH (x:List UInt8):Option (Bd × Nat) :=
 if (scan x 0).2.2=0∧(scan x 0).2.1.toNat < x.length∧x[(scan x 0).2.1.toNat]? = some 58∧(runeV (x.drop ((scan x 0).2.1.toNat+1))).2≠0 then
  some (⟨(scan x 0).1,(runeV (x.drop ((scan x 0).2.1.toNat+1))).1⟩,(scan x 0).2.1.toNat+1+(runeV (x.drop ((scan x 0).2.1.toNat+1))).2) else none
theorem runeV_some {x:List UInt8} {r:Int} {k:Nat} (h:runeV x=(r,k)) (hk:k≠0):SignI r∧x.take k=utfN r.toNat∧k≤x.length:=by
 unfold runeV at h
 split at h
 ·rename_i hc
  rcases hd:dec x with ⟨c,j⟩
  rw [hd] at h hc
  injection h with e1 e2
  subst e1 e2
  obtain ⟨u1,u2⟩:=utf_dec hd hc.1
  exact ⟨⟨by omega,by simpa using hc.1⟩,by simpa using u1,u2⟩
 ·injection h with e1 e2
  exact absurd e2.symm hk
theorem runeV_of {r:Int} (h:SignI r) (post:List UInt8):runeV (utfN r.toNat++post)=(r,(utfN r.toNat).length):=by
 unfold runeV
 rw [dec_utf h.2 post,if_pos ⟨h.2,by have:=utfN_ne r.toNat;intro c;exact this (List.append_eq_nil_iff.1 c).1⟩]
 simp only [Int.toNat_of_nonneg h.1]
theorem bandH_some {x:List UInt8} {b:Bd} {k:Nat} (h:bandH x=some (b,k)):In64 b.f∧SignI b.s∧x.take k=bandT b∧k≤x.length:=by
 unfold bandH at h
 split at h
 ·rename_i hc
  obtain ⟨h1,h2,h3,h4⟩:=hc
  injection h with h
  injection h with hb hk
  subst hb hk
  rcases hx:scan x 0 with ⟨n,e,q⟩
  rw [hx] at h1 h2 h3 h4
  simp only at h1 h2 h3 h4 ⊢
  subst h1
  obtain ⟨i,rfl,hi,ht,hb⟩:=scan_fine hx
  simp only [Int.toNat_natCast] at h2 h3 h4 ⊢
  rcases hr:runeV (x.drop (i+1)) with ⟨r,j⟩
  rw [hr] at h4
  simp only at h4 ⊢
  obtain ⟨g1,g2,g3⟩:=runeV_some hr h4
  rw [List.length_drop] at g3
  refine ⟨hb,g1,?_,by omega⟩
  unfold bandT
  simp only
  rw [← g2,← ht]
  have e1:=at_split h3
  have e2:(x.take i).length=i:=by rw [List.length_take];omega
  conv=>lhs;rw [e1]
  rw [List.take_append,e2,List.take_of_length_le (by rw [e2];omega),show i+1+j - i=j+1 by omega,List.take_succ_cons]
 ·cases h
theorem bandH_of {b:Bd} (h1:In64 b.f) (h2:SignI b.s) (post:List UInt8):bandH (bandT b++post)=some (b,(bandT b).length):=by
 have e:bandT b++post=Lib.itoa b.f++(58::(utfN b.s.toNat++post)):=by unfold bandT;simp
 have hs:scan (bandT b++post) 0=(b.f,((Lib.itoa b.f).length:Int),0):=by rw [e];exact scan_itoa b.f h1.1 h1.2 _ (colon_not _)
 have hd:(bandT b++post).drop ((Lib.itoa b.f).length+1)=utfN b.s.toNat++post:=by rw [e];simp
 unfold bandH
 rw [hs]
 simp only [Int.toNat_natCast]
 rw [hd,runeV_of h2]
 have hl:=utfN_len b.s.toNat
 rw [if_pos ⟨trivial,by rw [e];simp,by rw [e];simp,by simp only;omega⟩]
 have:(bandT b).length=(Lib.itoa b.f).length+1+(utfN b.s.toNat).length:=by unfold bandT;simp;omega
 rw [this]
def rd:Nat→List UInt8→Option (List Bd)
 |0,_=>none
 |m+1,x=>match bandH x with
  |none=>none
  |some (b,k)=>if k=x.length then some [b] else if x[k]? = some 44 then (rd m (x.drop (k+1))).map (b::·) else none
theorem rd_some:∀ {m:Nat} {x:List UInt8} {l:List Bd},rd m x=some l→x=printT l∧(∀ b∈l,In64 b.f∧SignI b.s)∧l≠[]
 |0,x,l,h=>by cases h
 |m+1,x,l,h=>by
  unfold rd at h
  split at h
  ·cases h
  ·rename_i b k hb
   obtain ⟨h1,h2,h3,h4⟩:=bandH_some hb
   split at h
   ·rename_i hk
    injection h with h
    subst h
    rw [hk,List.take_length] at h3
    exact ⟨by rw [h3];simp [printT,joinC],λy hy=>by rw [List.mem_singleton] at hy;subst hy;exact ⟨h1,h2⟩,by simp⟩
   ·split at h
    ·rename_i h44
     obtain ⟨l',hl,rfl⟩:=Option.map_eq_some_iff.1 h
     obtain ⟨e1,e2,e3⟩:=rd_some hl
     refine ⟨?_,λy hy=>?_,by simp⟩
     ·rw [at_split h44,h3,e1]
      cases l' with
      |nil=>exact absurd rfl e3
      |cons c l'=>simp [printT,joinC]
     ·rcases List.mem_cons.1 hy with rfl|hy
      ·exact ⟨h1,h2⟩
      ·exact e2 y hy
    ·cases h
theorem rd_of:∀ {m:Nat} {l:List Bd},l≠[]→l.length≤m→(∀ b∈l,In64 b.f∧SignI b.s)→rd m (printT l)=some l
 |0,l,h,hl,_=>absurd (List.length_eq_zero_iff.1 (by omega)) h
 |m+1,[],h,hl,_=>absurd rfl h
 |m+1,[b],h,hl,hg=>by
  have e:printT [b]=bandT b++[]:=by simp [printT,joinC]
  unfold rd
  rw [e,bandH_of (hg b (by simp)).1 (hg b (by simp)).2]
  simp
 |m+1,b::c::l,h,hl,hg=>by
  have e:printT (b::c::l)=bandT b++44::printT (c::l):=by simp [printT,joinC]
  have ih:=rd_of (m:=m) (l:=c::l) (by simp) (by simp only [List.length_cons] at hl ⊢;omega) λx hx=>hg x (List.mem_cons_of_mem _ hx)
  unfold rd
  rw [e,bandH_of (hg b (by simp)).1 (hg b (by simp)).2]
  simp only
  rw [if_neg (by simp),if_pos (by simp)]
  have:(bandT b++44::printT (c::l)).drop ((bandT b).length+1)=printT (c::l):=by simp
  rw [this,ih]
  rfl
def refV (s:List UInt8):Option (List Bd):=match rd 13 s with
 |none=>none
 |some l=>if RightL l then some l else none
theorem refV_iff {s:List UInt8} {l:List Bd}:refV s=some l↔RightL l∧s=printT l:=by
 constructor
 ·intro h
  unfold refV at h
  split at h
  ·cases h
  ·rename_i l' hl
   split at h
   ·rename_i hr
    injection h with h
    subst h
    exact ⟨hr,(rd_some hl).1⟩
   ·cases h
 ·rintro ⟨hr,rfl⟩
  unfold refV
  have h1:=hr.1
  have h2:=hr.2.1
  rw [rd_of (by intro c;rw [c] at h1;simp at h1) (by omega) λb hb=>⟨(hr.good b hb).1.in64,(hr.good b hb).2⟩]
  simp only
  rw [if_pos hr]
namespace Sy
set_option linter.unusedVariables false
set_option linter.unusedSimpArgs false
def Sl (R:HP) (A:Option Addr) (n size:Nat) (xs:List Value):Prop:=∀ w,Sat R w→Reads w w.heap.size size A n xs
def SpotV (R:HP) (A:Option Addr) (n:Nat) (xs:List Value):Prop:=n=0∨∃ b off,A=some ⟨b,off,none⟩∧∀ w,Sat R w→∀ (j:Nat) u,xs[j]? = some u→w.cell? ⟨b,off+j,none⟩=some u
theorem Sl.spot {R:HP} {A:Option Addr} {n size:Nat} {xs:List Value} (hs:0 < size) (h:Sl R A n size xs) {w:World} (s:Sat R w):xs.length=n * size∧SpotV R A n xs:=by
 have hr:=h w s
 refine ⟨hr.1,?_⟩
 rcases Nat.eq_zero_or_pos n with h0|h0
 ·exact .inl h0
 ·right
  obtain ⟨ad,e,hb,hc⟩:=hr.2 h0
  obtain ⟨b,off,spot⟩:=ad
  have hl:0 < xs.length:=by rw [hr.1];exact Nat.mul_pos h0 hs
  have h1:=hc 0 _ (List.getElem?_eq_getElem hl)
  have hs:spot=none:=by simpa [Addr.add] using World.cell?_spot h1
  subst hs
  refine ⟨b,off,e,λw' s' j u hu=>?_⟩
  obtain ⟨ad',e',_,hc'⟩:=(h w' s').2 h0
  rw [e] at e'
  injection e' with e'
  subst e'
  have:=hc' j u hu
  rwa [add_plain] at this
theorem Sl.mono {R R':HP} {A:Option Addr} {n size:Nat} {xs:List Value} (h:Sl R A n size xs) (hr:∀ w,Sat R' w→Sat R w):Sl R' A n size xs:=λw s=>h w (hr w s)
theorem Sl.row {R:HP} {A:Option Addr} {n c size:Nat} {e:TypeId} {xs:List Value} (h:∀ w,Sat R w→Sat (rowH (.slice A n c) n e size xs) w):Sl R A n size xs:=λw s=>rowH_reads rfl (h w s)
theorem Sl.nil (R:HP) (A:Option Addr) (size:Nat):Sl R A 0 size []:=λw s=>Reads.empty
end Sy
theorem sub_front {R:HP} {r:List HP}:∀ {m:List HP} {h:Hl},sepL (m++r) R h→∃ h':Hl,(∀ i o,h' i=some o→h i=some o)∧sepL m R h'
 |[],h,s=>sub_nil s
 |A::m,h,s=>by
  obtain ⟨h1,h2,d,rfl,a,s⟩:=s
  obtain ⟨h',e,s'⟩:=sub_front (m:=m) s
  have dom:∀ i,h2 i=none→h' i=none:=λi c=>by
   cases x:h' i with
   |none=>rfl
   |some o=>rw [e i o x] at c;cases c
  refine ⟨un h1 h',λi o hi=>?_,h1,h',λi=>(d i).imp_right (dom i),rfl,a,s'⟩
  unfold un at hi ⊢
  cases c:h1 i with
  |some x=>rw [c] at hi;exact hi
  |none=>rw [c] at hi;simp only [Option.none_or] at hi ⊢;exact e i o hi
theorem sub_head {A:HP} {R:HP} {l:List HP} {h:Hl} (s:sepL (A::l) R h):∃ h':Hl,(∀ i o,h' i=some o→h i=some o)∧sepL [A] R h':=sub_front (m:=[A]) s
theorem row_nil {R:HP} {h:Hl} (e:TypeId) (size:Nat) (s:R h):sepL [rowH (.slice none 0 0) 0 e size []] R h:=by
 refine ⟨λ_=>none,h,λi=>.inl rfl,?_,⟨by simp,.inl ⟨rfl,rfl,λ_=>rfl⟩⟩,s⟩
 funext i;simp [un]
theorem blk_sat {b:Nat} {t:TypeId} {cs:Array Value} {w:World} (s:Sat (blkH b t cs) w):Blk w b t cs:=by
 obtain ⟨h,hs,e⟩:=s
 exact hs b _ (by rw [e];simp)
theorem blk_put {b:Nat} {t:TypeId} {cs:Array Value} {off:Nat} {ys:List Value} (h:off+ys.length≤cs.size) {hl:Hl} (r:blkH b t cs hl):∃ ty cs',hl b=some (.cells cs' ty (0,0))∧off+ys.length≤cs'.size∧blkH b t (putL cs.toList off ys).toArray λj=>if j=b then some (.cells (putL cs'.toList off ys).toArray ty (0,0)) else hl j:=by
 refine ⟨t,cs,by rw [r b,if_pos rfl],h,λi=>?_⟩
 by_cases c:i=b
 ·subst c;simp
 ·have:=r i
  rw [if_neg c] at this
  simp [c,this]
theorem sub_drop1 {A B:HP} {l:List HP} {R:HP} {h:Hl} (s:sepL (A::B::l) R h):∃ h',(∀ i o,h' i=some o→h i=some o)∧sepL (A::l) R h':=sub_tail (sepL_pull 1 s)
theorem FnR.of_sat {P:Program} {R:HP} {f:FuncId} {args:List Value} {pre:List HP} {post:Value→List HP→Prop} (h:∀ w,Sat (sepL pre R) w→FnR P R f args pre post):FnR P R f args pre post:=λw hs=>h w hs w hs
theorem PureR.of_sat {P:Program} {R:HP} {f:FuncId} {args:List Value} {v:Value} (h:∀ w,Sat R w→PureR P R f args v):PureR P R f args v:=λw hs=>h w hs w hs
def bdC (b:Bd):List Value:=[.int .i64 b.f,.int .i32 b.s]
def bcel (l:List Bd):List Value:=l.flatMap bdC
theorem bcel_len (l:List Bd):(bcel l).length=l.length * 2:=by
 induction l with
 |nil=>rfl
 |cons a l ih =>
  have e:bcel (a::l)=bdC a++bcel l:=rfl
  rw [e,List.length_append,ih]
  simp [bdC];omega
theorem bcel_at:∀ {l:List Bd} {i:Nat} (h:i < l.length),(bcel l)[i * 2]? = some (.int .i64 l[i].f)∧(bcel l)[i * 2+1]? = some (.int .i32 l[i].s)
 |f::l,0,_=>⟨rfl,rfl⟩
 |f::l,i+1,h=>by
  have:=bcel_at (l:=l) (i:=i) (by simpa using h)
  have e:bcel (f::l)=.int .i64 f.f::.int .i32 f.s::bcel l:=rfl
  rw [e,show (i+1) * 2=i * 2+2 by omega]
  simpa using this
theorem bcel_take:∀ (l:List Bd) (i:Nat),(bcel l).take (i * 2)=bcel (l.take i)
 |[],i=>by simp [bcel]
 |a::l,0=>by simp [bcel]
 |a::l,i+1=>by
  have:=bcel_take l i
  simp only [bcel,List.flatMap_cons,List.take_succ_cons] at *
  rw [show (i+1) * 2=i * 2+1+1 by omega]
  simp only [bdC,List.cons_append,List.nil_append,List.take_succ_cons] at *
  rw [this]
theorem SignI_iff {r:Int}:SignI r↔(r≠44∧r≠58∧r≠173∧((33≤r∧r≤126)∨(161≤r∧r≤55295)∨(57344≤r∧r≤65532))):=by
 unfold SignI SignN
 omega
theorem bool_key {r:Int} {b:Bool} (h:b=true↔SignI r):Value.bool b=.bool (decide (SignI r)):=by
 congr 1
 rw [Bool.eq_iff_iff,h,decide_eq_true_eq]
theorem sTSign {R:HP} (r:Int):PureR Tryz.prog R 96 [.int .i32 r] (.bool (decide (SignI r))):=by
 have key:∀ b:Bool,(b=true↔(r≠44∧r≠58∧r≠173∧((33≤r∧r≤126)∨(161≤r∧r≤55295)∨(57344≤r∧r≤65532))))→Value.bool b=.bool (decide (SignI r)):=λb h=>bool_key (h.trans SignI_iff.symm)
 generalize decide (SignI r)=d at *
 refine fn_of_run0 false Tryz.func96 rfl hmix rfl λw0=>?_
 conv=>whnf
 repeat' (first|(refine ⟨λh=>?_,λh=>?_⟩<;>(have h:=h;conv=>whnf))|fail)
 all_goals (refine ⟨trivial,fin_pure rfl (key _ ?_)⟩;simp at *;omega)
theorem sRSign {R:HP} (r:Int):PureR Tryz.prog R 53 [.int .i32 r] (.bool (decide (SignI r))):=by
 have key:∀ b:Bool,(b=true↔(r≠44∧r≠58∧r≠173∧((33≤r∧r≤126)∨(161≤r∧r≤55295)∨(57344≤r∧r≤65532))))→Value.bool b=.bool (decide (SignI r)):=λb h=>bool_key (h.trans SignI_iff.symm)
 generalize decide (SignI r)=d at *
 refine fn_of_run0 false Tryz.func53 rfl hmix rfl λw0=>?_
 conv=>whnf
 repeat' (first|(refine ⟨λh=>?_,λh=>?_⟩<;>(have h:=h;conv=>whnf))|fail)
 all_goals (refine ⟨trivial,fin_pure rfl (key _ ?_)⟩;simp at *;omega)
theorem sRMay33 {R:HP} (v:Int):PureR Tryz.prog R 55 [.int .i64 v] (.bool (decide (MayI v))):=by
 have key:∀ b:Bool,(b=true↔(-2147483648≤v∧v≤2147483647))→Value.bool b=.bool (decide (MayI v)):=λb h=>by
  congr 1
  rw [Bool.eq_iff_iff,h,decide_eq_true_eq]
  rfl
 generalize decide (MayI v)=d at *
 refine fn_of_run0 false Tryz.func55 rfl hmix rfl λw0=>?_
 conv=>whnf
 repeat' (first|(refine ⟨λh=>?_,λh=>?_⟩<;>(have h:=h;conv=>whnf))|fail)
 all_goals (refine ⟨trivial,fin_pure rfl (key _ ?_)⟩;simp at *;omega)
def ixB (p:Bd→Bool) (l:List Bd):Int:=if l.findIdx p < l.length then (l.findIdx p:Int) else -1
theorem sIndexR {R:HP} {A:Option Addr} {n c:Nat} {l:List Bd} {p1:Value} {p:Bd→Bool} (hn:n≤9223372036854775807) (ha:Sl R A n 2 (bcel l))
  (hp:∀ R':HP,(∀ w,Sat R' w→Sat R w)→∀ x∈l,PureR Tryz.prog R' 98 [.agg #[.int .i64 x.f,.int .i32 x.s],p1] (.bool (p x))) :
  PureR Tryz.prog R 146 [.slice A n c,.func (.func 98) #[] #[p1]] (.int .i64 (ixB p l)):=by
 refine PureR.of_sat λw hs=>?_
 obtain ⟨hl,sa⟩:=ha.spot (by omega) hs
 rw [bcel_len] at hl
 have e1:l.length=n:=by omega
 clear hs hl
 have hix:∀ k (h:k < l.length),(∀ j (hj:j < k),p (l[j]'(by omega))=false)→p l[k]=true→ixB p l=(k:Int):=λk h h0 h1=>by
  have:l.findIdx p=k:=(List.findIdx_eq h).2 ⟨h1,λj hj=>h0 j hj⟩
  unfold ixB
  rw [this,if_pos h]
 have hno:(∀ j (hj:j < n),p (l[j]'(by omega))=false)→ixB p l=-1:=λh=>by
  have:l.findIdx p=l.length:=List.findIdx_eq_length.2 λx hx=>by
   obtain ⟨j,hj,e⟩:=List.mem_iff_getElem.1 hx
   rw [← e];exact h j (by omega)
  unfold ixB
  rw [this,if_neg (Nat.lt_irrefl _)]
 generalize ixB p l=ix at *
 refine fn_of_run0 false Tryz.func146 rfl hmix rfl λw0=>?_
 conv=>whnf
 refine ⟨trivial,LoopAt.keep (α:=Nat) [0,1,7] (λk=>[(8,.v (.int .i64 (k:Int)))]) (λk=>k≤n∧∀ j (hj:j < k) (hj':j < l.length),p l[j]=false) (λk=>n - k) 0 ⟨Nat.zero_le _,λj hj=>absurd hj (Nat.not_lt_zero _)⟩ rfl ⟨⟨rfl,rfl⟩,trivial⟩ ⟨⟨rfl,rfl⟩,⟨rfl,rfl⟩,⟨rfl,rfl⟩,trivial⟩ trivial ?_⟩
 rintro k ⟨hk,h0⟩
 conv=>whnf
 refine ⟨λh2=>?_,λh2=>?_⟩
 ·have g2:k < n:=by simpa using h2
  rcases sa with sa|⟨b,off,rfl,sa⟩
  ·omega
  have hk':k < l.length:=by omega
  obtain ⟨f1,f2⟩:=bcel_at (l:=l) (i:=k) hk'
  have hpk:=λR' h=>hp R' h _ (List.getElem_mem hk')
  have hixk:=hix k hk' (λj hj=>h0 j hj (by omega))
  have hsucc:p l[k]=false→∀ j (hj:j < k+1) (hj':j < l.length),p l[j]=false:=λh j hj hj'=>by
   rcases Nat.lt_or_ge j k with c|c
   ·exact h0 j c hj'
   ·have:j=k:=by omega
    subst this;exact h
  generalize l[k]=x at *
  conv=>whnf
  refine ⟨⟨trivial,by omega⟩,LoadAt.agg [.int .i64 x.f,.int .i32 x.s] rfl rfl rfl (λw hw j v hj=>?_) ?_⟩
  ·rw [Int.toNat_natCast,Nat.add_assoc]
   rcases j with _|_|j
   ·simp at hj;rw [← hj];exact sa w hw _ _ f1
   ·simp at hj;rw [← hj];exact sa w hw _ _ f2
   ·simp at hj
  conv=>whnf
  refine ⟨trivial,CallAt.pure (λR' hR'=>hpk R' hR') ?_⟩
  conv=>whnf
  refine ⟨λh3=>?_,λh3=>?_⟩
  ·rw [hixk h3]
   conv=>whnf
   exact ⟨trivial,fin_pure rfl rfl⟩
  ·conv=>whnf
   exact ⟨⟨trivial,by unfold rng;omega⟩,Next.keep (k+1) ⟨by omega,hsucc h3⟩ (by omega) ⟨⟨rfl,rfl⟩,trivial⟩ ⟨⟨rfl,rfl⟩,⟨rfl,rfl⟩,⟨rfl,rfl⟩,trivial⟩ trivial rfl rfl rfl⟩
 ·have g2:k=n:=by simp at h2;omega
  subst g2
  rw [hno λj hj=>h0 j hj (by omega)]
  conv=>whnf
  exact ⟨trivial,fin_pure rfl rfl⟩
theorem sRight1 {R:HP} {tb:Nat} {s:Int} (x:Bd) (hR:∀ w,Sat R w→w.cell? ⟨tb,1,none⟩=some (.int .i32 s)):PureR Tryz.prog R 98 [.agg #[.int .i64 x.f,.int .i32 x.s],.pointer (some ⟨tb,0,none⟩)] (.bool (decide (x.s=s))):=by
 refine fn_of_run0 false Tryz.func98 rfl hmix rfl λw0=>?_
 conv=>whnf
 refine ⟨trivial,LoadAt.cell (.int .i32 s) rfl rfl (λw hw=>hR w hw) ?_⟩
 conv=>whnf
 exact ⟨trivial,fin_pure rfl rfl⟩
theorem ixB_no {p:Bd→Bool} {l:List Bd}:(0≤ixB p l)↔∃ x∈l,p x=true:=by
 unfold ixB
 by_cases h:l.findIdx p < l.length
 ·rw [if_pos h]
  exact ⟨λ_=>⟨_,List.getElem_mem h,List.findIdx_getElem⟩,λ_=>by omega⟩
 ·rw [if_neg h]
  refine ⟨λc=>by omega,λ⟨x,hx,hp⟩=>absurd (List.findIdx_lt_length_of_exists ⟨x,hx,hp⟩) h⟩
theorem sContainsR {R:HP} {A:Option Addr} {n c tb:Nat} {s:Int} {l:List Bd} (hn:n≤9223372036854775807) (ha:Sl R A n 2 (bcel l)) (hR:∀ w,Sat R w→w.cell? ⟨tb,1,none⟩=some (.int .i32 s)) :
  PureR Tryz.prog R 97 [.slice A n c,.func (.func 98) #[] #[.pointer (some ⟨tb,0,none⟩)]] (.bool (decide (∃ x∈l,x.s=s))):=by
 have hi:=λR' (h:∀ w,Sat R' w→Sat R w)=>sIndexR (c:=c) (p1:=.pointer (some ⟨tb,0,none⟩)) (p:=λx=>decide (x.s=s)) hn (ha.mono h) λR'' h' x hx=>sRight1 x λw s=>hR w (h w (h' w s))
 have e:decide (0≤ixB (λx=>decide (x.s=s)) l)=decide (∃ x∈l,x.s=s):=decide_eq_decide.2 (by rw [ixB_no];simp)
 rw [← e]
 generalize ixB (λx=>decide (x.s=s)) l=ix at *
 refine fn_of_run0 false Tryz.func97 rfl hmix rfl λw0=>?_
 conv=>whnf
 refine ⟨trivial,CallAt.pure (λR' hR'=>hi R' hR') ?_⟩
 conv=>whnf
 exact ⟨trivial,fin_pure rfl rfl⟩
theorem bF_eq {l:List Bd} {i:Nat} (h:i < l.length):bF l i=l[i].f:=by unfold bF;rw [List.getD_eq_getElem?_getD,List.getElem?_eq_getElem h];rfl
theorem bS_eq {l:List Bd} {i:Nat} (h:i < l.length):bS l i=l[i].s:=by unfold bS;rw [List.getD_eq_getElem?_getD,List.getElem?_eq_getElem h];rfl
theorem bcel_F {l:List Bd} {i:Nat} (h:i < l.length):(bcel l)[i * 2]? = some (.int .i64 (bF l i))∧(bcel l)[i * 2+1]? = some (.int .i32 (bS l i)):=by rw [bF_eq h,bS_eq h];exact bcel_at h
theorem bandOk_next {l:List Bd} {i:Nat} (h0:∀ j,j < i→BandOk l j) (h1:MayI (bF l i)) (h2:SignI (bS l i)) (h3:0 < i→bF l (i - 1) < bF l i) (h4:∀ k,k < i→bS l k≠bS l i):BandOk l i:=by
 refine ⟨h1,h2,λk hk=>⟨?_,h4 k hk⟩⟩
 have h5:=h3 (by omega)
 by_cases c:k=i - 1
 ·rw [c];exact h5
 ·have:=((h0 (i - 1) (by omega)).2.2 k (by omega)).1
  omega
theorem Sl.takeB {R:HP} {A:Option Addr} {n i:Nat} {l:List Bd} (h:Sl R A n 2 (bcel l)) (hi:i≤n) (hl:l.length=n):Sl R A i 2 (bcel (l.take i)):=λw s=>by
 have hr:=h w s
 refine ⟨by rw [bcel_len,List.length_take];omega,λh0=>?_⟩
 obtain ⟨ad,e,hb,hc⟩:=hr.2 (by omega)
 refine ⟨ad,e,hb,λj u hu=>hc j u ?_⟩
 rw [← bcel_take,List.getElem?_take] at hu
 split at hu
 ·exact hu
 ·cases hu
theorem mem_takeB {l:List Bd} {i:Nat} (hi:i≤l.length) {s:Int}:(∃ x∈l.take i,x.s=s)↔∃ k,k < i∧bS l k=s:=by
 constructor
 ·rintro ⟨x,hx,e⟩
  obtain ⟨k,hk,rfl⟩:=List.getElem_of_mem hx
  rw [List.length_take] at hk
  refine ⟨k,by omega,?_⟩
  rw [bS_eq (by omega),← e,List.getElem_take]
 ·rintro ⟨k,hk,e⟩
  rw [bS_eq (by omega)] at e
  exact ⟨_,List.mem_take_iff_getElem.2 ⟨k,by omega,rfl⟩,e⟩
theorem sTRight {R:HP} {A:Option Addr} {n c:Nat} {l:List Bd} (hn:n≤9223372036854775807) (hc:n≤c) (ha:Sl R A n 2 (bcel l)):PureR Tryz.prog R 78 [.slice A n c] (.bool (decide (RightL l))):=by
 refine PureR.of_sat λw hs=>?_
 obtain ⟨hl,sa⟩:=ha.spot (by omega) hs
 rw [bcel_len] at hl
 have e1:l.length=n:=by omega
 clear hs hl
 have hyes:1≤n→n≤12→(∀ i,i < n→BandOk l i)→decide (RightL l)=true:=λh1 h2 h3=>decide_eq_true ⟨by omega,by omega,λi hi=>h3 i (by omega)⟩
 have hno1:n < 1→decide (RightL l)=false:=λh=>decide_eq_false λc=>by have:=c.1;omega
 have hno2:12 < n→decide (RightL l)=false:=λh=>decide_eq_false λc=>by have:=c.2.1;omega
 have hno:∀ i,i < n→¬ BandOk l i→decide (RightL l)=false:=λi hi h=>decide_eq_false λc=>h (c.2.2 i (by omega))
 generalize decide (RightL l)=d at *
 refine fn_of_run0 false Tryz.func78 rfl hmix rfl λw0=>?_
 conv=>whnf
 refine ⟨λh1=>?_,λh1=>?_⟩
 ·have h1:¬ ((n:Int) < 1):=by simpa using h1
  conv=>whnf
  refine ⟨λh2=>?_,λh2=>?_⟩
  ·have h2:(12:Int) < n:=by simpa using h2
   rw [hno2 (by omega)]
   conv=>whnf
   exact ⟨trivial,fin_pure rfl rfl⟩
  ·have h2:¬ (12:Int) < n:=by simpa using h2
   conv=>whnf
   refine ⟨trivial,LoopAt.of (α:=Nat) [0,14,15] (λi=>[(16,.v (.int .i64 (i:Int)))]) (λ_=>[]) (λ_=>[]) (λi=>i≤n∧∀ j,j < i→BandOk l j) (λi=>n - i) 0 ⟨Nat.zero_le _,λj hj=>absurd hj (Nat.not_lt_zero _)⟩
    (Le.of (Nat.le_of_ble_eq_true rfl) (Nat.zero_le _) ⟨⟨rfl,rfl⟩,⟨rfl,rfl⟩,⟨rfl,rfl⟩,⟨rfl,rfl⟩,trivial⟩ trivial λh s=>sub_same s) ?_⟩
   rintro i ⟨hi,h0⟩
   conv=>whnf
   refine ⟨λh3=>?_,λh3=>?_⟩
   ·have g3:i < n:=by simpa using h3
    rcases sa with sa|⟨b,off,rfl,sa⟩
    ·omega
    obtain ⟨f1,f2⟩:=bcel_F (l:=l) (i:=i) (by omega)
    have hnoi:=hno i g3
    have hp:0 < i→∀ w,Sat R w→w.cell? ⟨b,off+(i - 1) * 2,none⟩=some (.int .i64 (bF l (i - 1))):=λh w s=>sa w s _ _ (bcel_F (l:=l) (i:=i - 1) (by omega)).1
    have hnext:=bandOk_next h0
    have hbad1:¬ MayI (bF l i)→d=false:=λh=>hnoi λc=>h c.1
    have hbad2:¬ SignI (bS l i)→d=false:=λh=>hnoi λc=>h c.2.1
    have hbad3:0 < i→¬ bF l (i - 1) < bF l i→d=false:=λh h'=>hnoi λc=>h' (c.2.2 (i - 1) (by omega)).1
    have hbad4:(∃ k,k < i∧bS l k=bS l i)→d=false:=λ⟨k,h,h'⟩=>hnoi λc=>(c.2.2 k h).2 h'
    have hmem:=mem_takeB (l:=l) (i:=i) (by omega) (s:=bS l i)
    generalize bF l (i - 1)=y at *
    generalize hx:bF l i=x at *
    generalize hs:bS l i=s at *
    conv=>whnf
    refine ⟨⟨trivial,by omega⟩,LoadAt.agg [.int .i64 x,.int .i32 s] rfl rfl rfl (λw hw j v hj=>?_) ?_⟩
    ·rw [Int.toNat_natCast,Nat.add_assoc]
     rcases j with _|_|j
     ·simp at hj;rw [← hj];exact sa w hw _ _ f1
     ·simp at hj;rw [← hj];exact sa w hw _ _ f2
     ·simp at hj
    conv=>whnf
    refine ⟨λa1=>?_,λa1=>?_⟩
    ·have a1:¬ x < -2147483648:=of_decide_eq_false a1
     conv=>whnf
     refine ⟨λa2=>?_,λa2=>?_⟩
     ·have a2:¬ 2147483647 < x:=of_decide_eq_false a2
      conv=>whnf
      refine ⟨⟨trivial,by omega,by omega⟩,CallAt.pure (λR' hR'=>sTSign s) ?_⟩
      conv=>whnf
      refine ⟨λa3=>?_,λa3=>?_⟩
      ·rw [hbad2 (by simpa using a3)]
       conv=>whnf
       exact ⟨trivial,fin_pure rfl rfl⟩
      ·have a3:SignI s:=by simpa using a3
       conv=>whnf
       refine ⟨trivial,RegAt.quiet hmix (by kernel_rfl) ?_⟩
       conv=>whnf
       refine ⟨λb1=>?_,λb1=>?_⟩
       ·have b1:0 < i:=by simpa using b1
        conv=>whnf
        refine ⟨⟨⟨trivial,by unfold rng;omega⟩,by omega,by omega⟩,LoadAt.cell (.int .i64 y) rfl rfl (λw hw=>?_) ?_⟩
        ·have:=hp b1 w hw
         have e:(((i:Int) - 1).toNat)=i - 1:=by omega
         simpa [e] using this
        conv=>whnf
        refine ⟨trivial,?_⟩
        conv=>whnf
        refine ⟨λb2=>?_,λb2=>?_⟩
        ·rw [hbad3 b1 (by simp at b2;omega)]
         conv=>whnf
         exact ⟨trivial,fin_pure rfl rfl⟩
        ·have b2:y < x:=by simp at b2;omega
         conv=>whnf
         intro tb _
         conv=>whnf
         refine ⟨trivial,CallAt.pure (λR' hR'=>sContainsR (n:=i) (s:=s) (by omega) (Sl.takeB (ha.mono λw s=>(hR' w s).rest) (by omega) e1) (λw s=>(blk_sat ((hR' w s).in_ 0 rfl)).cell 1)) ?_⟩
         conv=>whnf
         refine ⟨λz=>?_,λz=>?_⟩
         ·rw [hbad4 (hmem.1 (of_decide_eq_true z))]
          conv=>whnf
          exact ⟨trivial,fin_drop rfl⟩
         ·have z:=of_decide_eq_false z
          conv=>whnf
          refine ⟨⟨trivial,by unfold rng;omega⟩,.mk (i+1) ⟨by omega,λj hj=>?_⟩ (by omega) (Le.of (Nat.le_of_ble_eq_true rfl) (Nat.zero_le _) ⟨⟨rfl,rfl⟩,⟨rfl,rfl⟩,⟨rfl,rfl⟩,⟨rfl,rfl⟩,trivial⟩ trivial λh s=>sub_nil s)⟩
          rcases Nat.lt_or_ge j i with c|c
          ·exact h0 j c
          ·rw [show j=i by omega]
           exact hnext ⟨by omega,by omega⟩ a3 (λ_=>b2) λk hk e=>z (hmem.2 ⟨k,hk,e⟩)
       ·have b1:¬ 0 < i:=by simpa using b1
        conv=>whnf
        refine ⟨trivial,?_⟩
        conv=>whnf
        intro tb _
        conv=>whnf
        refine ⟨trivial,CallAt.pure (λR' hR'=>sContainsR (n:=i) (s:=s) (by omega) (Sl.takeB (ha.mono λw s=>(hR' w s).rest) (by omega) e1) (λw s=>(blk_sat ((hR' w s).in_ 0 rfl)).cell 1)) ?_⟩
        conv=>whnf
        refine ⟨λz=>?_,λz=>?_⟩
        ·rw [hbad4 (hmem.1 (of_decide_eq_true z))]
         conv=>whnf
         exact ⟨trivial,fin_drop rfl⟩
        ·have z:=of_decide_eq_false z
         conv=>whnf
         refine ⟨⟨trivial,by unfold rng;omega⟩,.mk (i+1) ⟨by omega,λj hj=>?_⟩ (by omega) (Le.of (Nat.le_of_ble_eq_true rfl) (Nat.zero_le _) ⟨⟨rfl,rfl⟩,⟨rfl,rfl⟩,⟨rfl,rfl⟩,⟨rfl,rfl⟩,trivial⟩ trivial λh s=>sub_nil s)⟩
         rcases Nat.lt_or_ge j i with c|c
         ·exact h0 j c
         ·rw [show j=i by omega]
          exact hnext ⟨by omega,by omega⟩ a3 (λc=>absurd c b1) λk hk e=>z (hmem.2 ⟨k,hk,e⟩)
     ·have a2:2147483647 < x:=by simpa using a2
      rw [hbad1 (λc=>by have:=c.2;omega)]
      conv=>whnf
      exact ⟨⟨trivial,by omega,by omega⟩,fin_pure rfl rfl⟩
    ·have a1:x < -2147483648:=by simpa using a1
     rw [hbad1 (λc=>by have:=c.1;omega)]
     conv=>whnf
     exact ⟨⟨trivial,by omega,by omega⟩,fin_pure rfl rfl⟩
   ·have g3:i=n:=by simp at h3;omega
    subst g3
    rw [hyes (by omega) (by omega) h0]
    conv=>whnf
    exact ⟨trivial,fin_pure rfl rfl⟩
 ·have h1:(n:Int) < 1:=by simpa using h1
  rw [hno1 (by omega)]
  conv=>whnf
  exact ⟨trivial,fin_pure rfl rfl⟩
theorem sRRight {R:HP} {A:Option Addr} {n c:Nat} {l:List Bd} (hn:n≤9223372036854775807) (ha:Sl R A n 2 (bcel l)):PureR Tryz.prog R 33 [.slice A n c] (.bool (decide (RightL l))):=by
 refine PureR.of_sat λw hs=>?_
 obtain ⟨hl,sa⟩:=ha.spot (by omega) hs
 rw [bcel_len] at hl
 have e1:l.length=n:=by omega
 clear hs hl
 have hyes:1≤n→n≤12→(∀ i,i < n→BandOk l i)→decide (RightL l)=true:=λh1 h2 h3=>decide_eq_true ⟨by omega,by omega,λi hi=>h3 i (by omega)⟩
 have hno1:n < 1→decide (RightL l)=false:=λh=>decide_eq_false λc=>by have:=c.1;omega
 have hno2:12 < n→decide (RightL l)=false:=λh=>decide_eq_false λc=>by have:=c.2.1;omega
 have hno:∀ i,i < n→¬ BandOk l i→decide (RightL l)=false:=λi hi h=>decide_eq_false λc=>h (c.2.2 i (by omega))
 generalize decide (RightL l)=d at *
 refine fn_of_run0 false Tryz.func33 rfl hmix rfl λw0=>?_
 conv=>whnf
 refine ⟨λh1=>?_,λh1=>?_⟩
 ·have h1:¬ ((n:Int)=0):=by simpa using h1
  conv=>whnf
  refine ⟨λh2=>?_,λh2=>?_⟩
  ·have h2:(12:Int) < n:=by simpa using h2
   rw [hno2 (by omega)]
   conv=>whnf
   exact ⟨trivial,fin_pure rfl rfl⟩
  ·have h2:¬ (12:Int) < n:=by simpa using h2
   conv=>whnf
   refine ⟨trivial,LoopAt.keep (α:=Nat) [0] (λi=>[(3,.v (.int .i64 (i:Int)))]) (λi=>i≤n∧∀ j,j < i→BandOk l j) (λi=>n - i) 0 ⟨Nat.zero_le _,λj hj=>absurd hj (Nat.not_lt_zero _)⟩ rfl ⟨⟨rfl,rfl⟩,trivial⟩ ⟨⟨rfl,rfl⟩,trivial⟩ trivial ?_⟩
   rintro i ⟨hi,h0⟩
   conv=>whnf
   refine ⟨λh3=>?_,λh3=>?_⟩
   ·have g3:i < n:=by simpa using h3
    rcases sa with sa|⟨b,off,rfl,sa⟩
    ·omega
    have hcel:∀ j,j < n→∀ w,Sat R w→w.cell? ⟨b,off+j * 2,none⟩=some (.int .i64 (bF l j))∧w.cell? ⟨b,off+j * 2+1,none⟩=some (.int .i32 (bS l j)):=λj hj w s=>by
     obtain ⟨f1,f2⟩:=bcel_F (l:=l) (i:=j) (by omega)
     exact ⟨sa w s _ _ f1,by rw [Nat.add_assoc];exact sa w s _ _ f2⟩
    have hnoi:=hno i g3
    conv=>whnf
    refine ⟨⟨trivial,by omega⟩,LoadAt.cell (.int .i64 (bF l i)) rfl rfl (λw hw=>?_) ?_⟩
    ·rw [Int.toNat_natCast];exact (hcel i g3 w hw).1
    conv=>whnf
    refine ⟨trivial,CallAt.pure (λR' hR'=>sRMay33 (bF l i)) ?_⟩
    conv=>whnf
    refine ⟨λa1=>?_,λa1=>?_⟩
    ·have a1:MayI (bF l i):=by simpa using a1
     conv=>whnf
     refine ⟨⟨trivial,by omega⟩,LoadAt.cell (.int .i32 (bS l i)) rfl rfl (λw hw=>?_) ?_⟩
     ·rw [Int.toNat_natCast];exact (hcel i g3 w hw).2
     conv=>whnf
     refine ⟨trivial,CallAt.pure (λR' hR'=>sRSign (bS l i)) ?_⟩
     conv=>whnf
     refine ⟨λa2=>?_,λa2=>?_⟩
     ·have a2:¬ SignI (bS l i):=by simpa using a2
      rw [hnoi (λc=>a2 c.2.1)]
      conv=>whnf
      exact ⟨trivial,fin_pure rfl rfl⟩
     ·have a2:SignI (bS l i):=by simpa using a2
      conv=>whnf
      refine ⟨trivial,LoopAt.keep (α:=Nat) [0,3] (λk=>[(4,.v (.int .i64 (k:Int)))]) (λk=>k≤i∧∀ j,j < k→bF l j < bF l i∧bS l j≠bS l i) (λk=>i - k) 0 ⟨Nat.zero_le _,λj hj=>absurd hj (Nat.not_lt_zero _)⟩ rfl ⟨⟨rfl,rfl⟩,trivial⟩ ⟨⟨rfl,rfl⟩,⟨rfl,rfl⟩,trivial⟩ trivial ?_⟩
      rintro k ⟨hk,h4⟩
      conv=>whnf
      refine ⟨λh5=>?_,λh5=>?_⟩
      ·have g5:k < i:=by simpa using h5
       conv=>whnf
       refine ⟨trivial,RegAt.quiet hmix (by kernel_rfl) ?_⟩
       conv=>whnf
       refine ⟨⟨trivial,by omega⟩,LoadAt.cell (.int .i64 (bF l k)) rfl rfl (λw hw=>?_) ?_⟩
       ·rw [Int.toNat_natCast];exact (hcel k (by omega) w hw).1
       conv=>whnf
       refine ⟨⟨trivial,by omega⟩,LoadAt.cell (.int .i64 (bF l i)) rfl rfl (λw hw=>?_) ?_⟩
       ·rw [Int.toNat_natCast];exact (hcel i g3 w hw).1
       conv=>whnf
       refine ⟨λb1=>?_,λb1=>?_⟩
       ·have b1:bF l k < bF l i:=by simp at b1;omega
        conv=>whnf
        refine ⟨⟨trivial,by omega⟩,LoadAt.cell (.int .i32 (bS l k)) rfl rfl (λw hw=>?_) ?_⟩
        ·rw [Int.toNat_natCast];exact (hcel k (by omega) w hw).2
        conv=>whnf
        refine ⟨⟨trivial,by omega⟩,LoadAt.cell (.int .i32 (bS l i)) rfl rfl (λw hw=>?_) ?_⟩
        ·rw [Int.toNat_natCast];exact (hcel i g3 w hw).2
        conv=>whnf
        refine ⟨trivial,?_⟩
        conv=>whnf
        refine ⟨λb2=>?_,λb2=>?_⟩
        ·have b2:bS l k=bS l i:=by simpa using b2
         rw [hnoi (λc=>(c.2.2 k g5).2 b2)]
         conv=>whnf
         exact ⟨trivial,fin_pure rfl rfl⟩
        ·have b2:bS l k≠bS l i:=by simpa using b2
         conv=>whnf
         refine ⟨⟨trivial,by unfold rng;omega⟩,Next.keep (k+1) ⟨by omega,λj hj=>?_⟩ (by omega) ⟨⟨rfl,rfl⟩,trivial⟩ ⟨⟨rfl,rfl⟩,⟨rfl,rfl⟩,trivial⟩ trivial rfl rfl rfl⟩
         rcases Nat.lt_or_ge j k with c|c
         ·exact h4 j c
         ·rw [show j=k by omega]
          exact ⟨b1,b2⟩
       ·have b1:¬ bF l k < bF l i:=by simp at b1;omega
        conv=>whnf
        refine ⟨trivial,?_⟩
        conv=>whnf
        rw [hnoi (λc=>b1 (c.2.2 k g5).1)]
        exact ⟨trivial,fin_pure rfl rfl⟩
      ·have g5:k=i:=by simp at h5;omega
       conv=>whnf
       refine ⟨⟨trivial,by unfold rng;omega⟩,Next.keep (i+1) ⟨by omega,λj hj=>?_⟩ (by omega) ⟨⟨rfl,rfl⟩,trivial⟩ ⟨⟨rfl,rfl⟩,trivial⟩ trivial rfl rfl rfl⟩
       rcases Nat.lt_or_ge j i with c|c
       ·exact h0 j c
       ·rw [show j=i by omega]
        exact ⟨a1,a2,λq hq=>h4 q (by omega)⟩
    ·have a1:¬ MayI (bF l i):=by simpa using a1
     rw [hnoi (λc=>a1 c.1)]
     conv=>whnf
     exact ⟨trivial,fin_pure rfl rfl⟩
   ·have g3:i=n:=by simp at h3;omega
    subst g3
    rw [hyes (by omega) (by omega) h0]
    conv=>whnf
    exact ⟨trivial,fin_pure rfl rfl⟩
 ·have h1:(n:Int)=0:=by simpa using h1
  rw [hno1 (by omega)]
  conv=>whnf
  exact ⟨trivial,fin_pure rfl rfl⟩
open Go.Shelf
def lays118_ren:Go.Shelf.Ren:=⟨fun|118=>100|n=>n,fun|21=>21|3=>3|4=>4|n=>n,fun|n=>n⟩
theorem lays118:Go.Proofs.Lays.n118 Tryz.prog lays118_ren:={
 mixed:=by kernel_rfl
 f118:=Tryz.func100.trans (congrArg some (by kernel_rfl))
 t3:=Tryz.underlying3
 a3:=Tryz.isAgg3
 z3:=Tryz.sizeOf3
 v3:=Tryz.zeroValue3
 t4:=Tryz.underlying4
 a4:=Tryz.isAgg4
 z4:=Tryz.sizeOf4
 v4:=Tryz.zeroValue4
 t21:=Tryz.underlying21
 a21:=Tryz.isAgg21
 z21:=Tryz.sizeOf21
 v21:=Tryz.zeroValue21 }
def lays146_ren:Go.Shelf.Ren:=⟨fun|146=>27|221=>52|268=>68|138=>69|143=>70|195=>89|197=>90|218=>91|219=>92|260=>136|217=>95|225=>77|224=>76|267=>137|266=>145|314=>209|n=>n,fun|9=>9|31=>41|3=>3|4=>4|0=>0|105=>81|21=>21|5=>5|46=>134|119=>336|139=>339|138=>338|146=>340|51=>233|n=>n,fun|1=>1|3=>2|4=>3|n=>n⟩
theorem lays146:Go.Proofs.Lays.n146 Tryz.prog lays146_ren:={
 mixed:=by kernel_rfl
 f138:=Tryz.func69.trans (congrArg some (by kernel_rfl))
 f143:=Tryz.func70.trans (congrArg some (by kernel_rfl))
 f146:=Tryz.func27.trans (congrArg some (by kernel_rfl))
 f195:=Tryz.func89.trans (congrArg some (by kernel_rfl))
 f197:=Tryz.func90.trans (congrArg some (by kernel_rfl))
 f217:=Tryz.func95.trans (congrArg some (by kernel_rfl))
 f218:=Tryz.func91.trans (congrArg some (by kernel_rfl))
 f219:=Tryz.func92.trans (congrArg some (by kernel_rfl))
 f221:=Tryz.func52.trans (congrArg some (by kernel_rfl))
 f224:=Tryz.func76.trans (congrArg some (by kernel_rfl))
 f225:=Tryz.func77.trans (congrArg some (by kernel_rfl))
 f260:=Tryz.func136.trans (congrArg some (by kernel_rfl))
 f266:=Tryz.func145.trans (congrArg some (by kernel_rfl))
 f267:=Tryz.func137.trans (congrArg some (by kernel_rfl))
 f268:=Tryz.func68.trans (congrArg some (by kernel_rfl))
 f314:=Tryz.func209.trans (congrArg some (by kernel_rfl))
 t0:=Tryz.underlying0
 a0:=Tryz.isAgg0
 z0:=Tryz.sizeOf0
 v0:=Tryz.zeroValue0
 t3:=Tryz.underlying3
 a3:=Tryz.isAgg3
 z3:=Tryz.sizeOf3
 v3:=Tryz.zeroValue3
 t4:=Tryz.underlying4
 a4:=Tryz.isAgg4
 z4:=Tryz.sizeOf4
 v4:=Tryz.zeroValue4
 t5:=Tryz.underlying5
 a5:=Tryz.isAgg5
 z5:=Tryz.sizeOf5
 v5:=Tryz.zeroValue5
 t9:=Tryz.underlying9
 a9:=Tryz.isAgg9
 z9:=Tryz.sizeOf9
 v9:=Tryz.zeroValue9
 t21:=Tryz.underlying21
 a21:=Tryz.isAgg21
 z21:=Tryz.sizeOf21
 v21:=Tryz.zeroValue21
 t31:=Tryz.underlying41
 a31:=Tryz.isAgg41
 z31:=Tryz.sizeOf41
 v31:=Tryz.zeroValue41
 t46:=Tryz.underlying134
 a46:=Tryz.isAgg134
 z46:=Tryz.sizeOf134
 v46:=Tryz.zeroValue134
 t51:=Tryz.underlying233
 a51:=Tryz.isAgg233
 z51:=Tryz.sizeOf233
 v51:=Tryz.zeroValue233
 t105:=Tryz.underlying81
 a105:=Tryz.isAgg81
 z105:=Tryz.sizeOf81
 v105:=Tryz.zeroValue81
 t119:=Tryz.underlying336
 a119:=Tryz.isAgg336
 z119:=Tryz.sizeOf336
 t138:=Tryz.underlying338
 a138:=Tryz.isAgg338
 z138:=Tryz.sizeOf338
 v138:=Tryz.zeroValue338
 t139:=Tryz.underlying339
 a139:=Tryz.isAgg339
 z139:=Tryz.sizeOf339
 v139:=Tryz.zeroValue339
 t146:=Tryz.underlying340
 a146:=Tryz.isAgg340
 z146:=Tryz.sizeOf340
 v146:=Tryz.zeroValue340
 g1:=by kernel_rfl
 g3:=by kernel_rfl
 g4:=by kernel_rfl }
namespace Sy
set_option linter.unusedVariables false
set_option linter.unusedSimpArgs false
def PanR (P:Program) (R:HP) (f:FuncId) (args:List Value) (pre:List HP) (X:List PanicEntry→Prop) (RX:HP):Prop :=
 ∀ w,Sat (sepL pre R) w→Calls P f args.toArray w λe w'=>∃ ch,e=.panicked ch∧X ch∧Sat RX w'∧Wd w w'
def glX (P:Program) (R:HP) (w0:World) (N:Nat) (tr:Bool) (B:List Nat) (X:List PanicEntry→Prop) (RX:HP):Gl:=⟨P,R,w0,N,tr,B,[],X,RX,[]⟩
def glD (P:Program) (R:HP) (w0:World) (N:Nat) (tr:Bool) (B:List Nat) (d:Deferred) (X:List PanicEntry→Prop) (RX:HP) (AX:List (Nat × Value)):Gl:=⟨P,R,w0,N,tr,B,[d],X,RX,AX⟩
theorem start_tm {G:Gl} {args:List Value} {pre:List HP} {N:Nat} {a:Act} (hN:args.length≤N) (hG:G.N=N) (hD:G.D=[]) (ha:a={ tmps:=args.toArray++Array.replicate (N - args.toArray.size) undef,defers:=[] }):Tm G ⟨startT 0 (toSVs args),[],0,pre,True⟩ [] a:=by
 subst ha
 refine ⟨by simp [hG];omega,hD.symm,λt x ht=>?_⟩
 obtain ⟨_,h2⟩:=startT_get ht
 simp only [Nat.sub_zero] at h2
 obtain ⟨v,h3,h4⟩:=denL_at (toSVs_den [] args) h2
 have hlt:=(List.getElem?_eq_some_iff.1 h3).1
 refine ⟨by rw [hG];omega,?_⟩
 rw [h4]
 have h3':args[t]=v:=(List.getElem?_eq_some_iff.1 h3).2
 simp [Array.getElem?_append,hlt,h3']
theorem start_mem {G:Gl} {T:List (Nat × SV)} {pre:List HP} {w:World} (hB:G.B=[]) (hw:G.w0=w) (hs:Sat (sepL pre G.R) w):Mem G ⟨T,[],0,pre,True⟩ [] w:=by
 obtain ⟨h,h1,h2⟩:=hs
 exact ⟨by rw [hw];exact Wd.refl w,rfl,List.nodup_nil,λb hb=>(by cases hb),List.nodup_nil,λx hx=>(by cases hx),⟨[],by rw [hB];rfl⟩,h,h1,h2,λx hx=>(by cases hx)⟩
theorem pan_of_run0 {P:Program} {R:HP} {f:FuncId} {fn:Func} {c:Code} {args:List Value} {pre:List HP} (X:List PanicEntry→Prop) (RX:HP) (tr:Bool)
  (hf:P.funcs[f]? = some fn) (hb:fn.body=some c) (hm:P.follows .mixedOrders=true) (hN:Nat.ble args.length fn.ntmps=true)
  (h:∀ w0,run (glX P R w0 fn.ntmps tr [] X RX) c ⟨startT 0 (toSVs args),[],0,pre,True⟩ (λ_=>False) (λ_ _=>False) (λ_=>False)) :
  PanR P R f args pre X RX:=by
 intro w hs
 have hN:=Nat.le_of_ble_eq_true hN
 refine calls_of_wp hf hb ?_
 have hrun:=run_sound (G:=glX P R w fn.ntmps tr [] X RX) hm c (h w) (λ_ h=>h.elim) (λ_ _ h=>h.elim) (λ_ h=>h.elim)
 refine hrun.2 [] _ w _ (λe a w' hp=>?_) (start_tm (N:=fn.ntmps) hN rfl rfl rfl) (start_mem rfl rfl hs) (λ_ _ _ _ h=>h.elim) (λ_ _ _ _ _ h=>h.elim) (λ_ _ _ _ h=>h.elim)
 obtain ⟨ch,rfl,hd,_,h1,h2,h3⟩:=hp
 exact ⟨hd,ch,rfl,h1,h2,h3⟩
theorem OpAt.panic {G:Gl} {o:Oper} {st:St} {K:St→Prop} {x:Operand} (t:TypeId) (v:Value) (ho:o.op=.panic x) (hx:evR st x=.iface t v) (hr:allR st o.op.operands.toList=true) (hX:G.X [{ v:=.iface t v,recovered:=false }]) (hRX:∀ w,Sat (sepL st.h G.R) w→Sat G.RX w) (ha:axAt G.AX st):OpAt G o st K:=by
 refine .px λρ a w m mm=>?_
 have hx':a.eval x=.iface t v:=by
  have:=allR_sound m hr x (by rw [ho];simp [Op.operands])
  rw [hx] at this
  exact this
 unfold Oper.wp
 have hrun:(execOp a.eval o).run G.P w=.halt (.panic (.iface t v)) w:=by
  simp [execOp,ho,hx',run_panic_iface]
 rw [hrun]
 obtain ⟨h,h1,h2,_⟩:=mm.hp
 exact ⟨_,rfl,m.defs,axAt_sound m ha,hX,hRX w ⟨h,h1,h2⟩,mm.wd⟩
theorem CallAt.pan {G:Gl} {f:FuncId} {args:List Value} {st:St} {K:SV→St→Prop} {pre:List HP} {X:List PanicEntry→Prop} {RX:HP} (rest:List HP) (hp:∀ h,sepL st.h G.R h→sepL (pre++rest) G.R h) (hc:∀ R':HP,(∀ w,Sat R' w→Sat (sepL rest G.R) w)→PanR G.P R' f args pre X RX) (hX:∀ ch,X ch→G.X ch) (hRX:∀ w,Sat RX w→Sat G.RX w) (ha:axAt G.AX st):CallAt G f args st K:=by
 refine .px ha λρ w mm=>?_
 obtain ⟨h,h1,h2,_⟩:=mm.hp
 have h3:=hp h h2
 rw [sepL_append] at h3
 refine Calls.mono (hc (sepL rest G.R) (λw s=>s) w ⟨h,h1,h3⟩) ?_
 rintro e w' ⟨ch,rfl,k1,k2,k3⟩
 exact ⟨ch,rfl,hX _ k1,hRX _ k2,mm.wd.trans k3⟩
theorem wpList_append {P:Program} {ops:Array Oper} {Q:Exit→Act→World→Prop} {l2:List Oper}:∀ {l1:List Oper} {a:Act} {w:World},wpList P ops (Exit.then (wpList P ops Q l2) Q) l1 a w→wpList P ops Q (l1++l2) a w
 |[],a,w,h=>h
 |o::l,a,w,h=>by
  have out:LetsOut (Exit.then (wpList P ops Q l2) Q)→LetsOut Q:=λ⟨a,w,h⟩=>⟨a,w,h⟩
  simp only [List.cons_append]
  unfold wpList at h ⊢
  split
  ·rename_i hw
   rw [if_pos hw] at h
   rcases h with h|⟨h1,h2⟩
   ·left
    unfold Oper.wp at *
    generalize (execOp a.eval o).run P w=r at *
    cases r with
    |ok n w' =>
     cases n<;>simp only [Oper.upon] at h ⊢<;>first
      |exact h.elim
      |exact wpList_append h
      |exact Calls.mono h λe w'' he=>by
        cases e with
        |returned v=>exact wpList_append he
        |panicked c=>exact he
        |outgrown=>exact out he
      |exact Rows.mono h λv w'' he=>wpList_append he
    |halt x w'=>cases x<;>simp only [Oper.upon] at h ⊢;exact h
   ·exact .inr ⟨h1,out h2⟩
  ·rename_i hw
   rw [if_neg hw] at h
   exact wpList_append h
inductive EndD (G:Gl) (st:St) (mid:List HP→Prop):Prop
 |mk (hs:List HP) (h:∀ w,Sat (sepL st.h G.R) w→Sat (sepL hs G.R) w) (ha:axAt G.AX st) (k:mid hs)
def endK (G:Gl) (mid:List HP→Prop) (st:St):Prop:=stp st λst=>EndD G st mid
theorem good_end {G:Gl} {mid:List HP→Prop}:Good (endK G mid):=λst h=>(stp_iff.1 h).1
theorem endK_sound {G:Gl} {mid:List HP→Prop} {st:St} {ρ:List Nat} {a:Act} {w:World} (h:endK G mid st) (m:Tm G st ρ a) (mm:Mem G st ρ w):∃ hs,mid hs∧Sat (sepL hs G.R) w∧axA G.AX a:=by
 obtain ⟨_,⟨hs,h1,h2,h3⟩⟩:=stp_iff.1 h
 obtain ⟨g,g1,g2,_⟩:=mm.hp
 exact ⟨hs,h3,h1 w ⟨g,g1,g2⟩,axAt_sound (st:={ st with c:=True }) (m.same rfl) h2⟩
def dfr (g:FuncId) (caps:List Value):Deferred:={ target:=.fn (.func g) caps.toArray,args:=#[] }
structure DefD (P:Program) (R:HP) (w0:World) (fn:Func) (d:Deferred) (X:List PanicEntry→Prop) (RX:HP) (AX:List (Nat × Value)) (mid:List HP→Prop) (post:Value→List HP→Prop):Prop where
 ret:∀ hs,mid hs→∀ w a,Sat (sepL hs R) w→Wd w0 w→axA AX a→Leaves P fn a.tmps (λe w'=>∃ v hs,e=.returned v∧post v hs∧Sat (sepL hs R) w'∧Wd w0 w') [d] .returning w
 pan:∀ ch,X ch→∀ w a,Sat RX w→Wd w0 w→axA AX a→Leaves P fn a.tmps (λe w'=>∃ v hs,e=.returned v∧post v hs∧Sat (sepL hs R) w'∧Wd w0 w') [d] (.panicking ch) w
inductive DefAt (P:Program) (R:HP) (w0:World) (tr:Bool) (fn:Func) (x:Operand) (rest:Code) (st:St) (post:Value→List HP→Prop):Prop
 |mk (g:FuncId) (caps:List Value) (X:List PanicEntry→Prop) (RX:HP) (AX:List (Nat × Value)) (mid:List HP→Prop) (hx:evR st x=.func (.func g) #[] caps.toArray) (hr:isR st x=true) (hd:DefD P R w0 fn (dfr g caps) X RX AX mid post)
   (k:run (glD P R w0 fn.ntmps tr [] (dfr g caps) X RX AX) rest st (endK (glD P R w0 fn.ntmps tr [] (dfr g caps) X RX AX) mid) (λ_ _=>False) (endK (glD P R w0 fn.ntmps tr [] (dfr g caps) X RX AX) mid))
theorem fn_of_defer {P:Program} {R:HP} {f:FuncId} {fn:Func} {id:Nat} {os:Array Oper} {c0 rest:Code} {args:List Value} {pre:List HP} {post:Value→List HP→Prop} {os1:List Oper} {od:Oper} {x:Operand} (tr:Bool)
  (hf:P.funcs[f]? = some fn) (hb:fn.body=some (.seq c0 (.seq (.region id os false) rest))) (hm:P.follows .mixedOrders=true) (hN:Nat.ble args.length fn.ntmps=true)
  (hos:os.toList=os1++[od]) (hod:od.op=.defer { callee:=.value x,args:=#[],argTypes:=#[] }) (hdst:od.dst=none) (hgd:od.guard=none)
  (h:∀ w0,run (gl P R w0 fn.ntmps tr []) c0 ⟨startT 0 (toSVs args),[],0,pre,True⟩ (λst=>opsG (op1 (gl P R w0 fn.ntmps tr [])) (gl P R w0 fn.ntmps tr []) (os1++[od]) os1 st λst=>stp st λst=>DefAt P R w0 tr fn x rest st post) (λ_ _=>False) (λ_=>False)) :
  FnR P R f args pre post:=by
 intro w hs
 have hN:=Nat.le_of_ble_eq_true hN
 refine calls_of_wp_defers hf hb (wp_seq ?_)
 have nox:∀ {Q:Exit→Act→World→Prop} e a w',PXE (gl P R w fn.ntmps tr []) e a w'→Q e a w':=λe a w' hp=>by obtain ⟨_,_,_,_,hf,_⟩:=hp;exact hf.elim
 have good0:Good λst=>stp st λst=>DefAt P R w tr fn x rest st post:=λst h=>(stp_iff.1 h).1
 have ops:∀ {st:St},(opsG (op1 (gl P R w fn.ntmps tr [])) (gl P R w fn.ntmps tr []) (os1++[od]) os1 st λst=>stp st λst=>DefAt P R w tr fn x rest st post)→_:=λ{st} k=>ops_sound (G:=gl P R w fn.ntmps tr []) (step:=op1 (gl P R w fn.ntmps tr [])) (λh hK=>op1_sound h hK) k good0
 have hr0:=run_sound (G:=gl P R w fn.ntmps tr []) hm c0 (h w) (λst h=>(ops h).1) (λ_ _ h=>h.elim) (λ_ h=>h.elim)
 refine hr0.2 [] _ w _ nox (start_tm (N:=fn.ntmps) hN rfl rfl rfl) (start_mem rfl rfl hs) (λst ρ a w1 k m mm=>?_) (λ_ _ _ _ _ h=>h.elim) (λ_ _ _ _ h=>h.elim)
 refine wp_seq (wp_region_list ?_)
 rw [hos]
 have hosa:os=(os1++[od]).toArray:=by rw [← hos]
 refine wpList_append ?_
 rw [hosa]
 refine (ops k).2 ρ a w1 _ nox m mm (λst2 ρ2 a2 w2 k2 m2 mm2=>?_)
 obtain ⟨_,⟨g,caps,X,RX,AX,mid,hx,hr,hd,k3⟩⟩:=stp_iff.1 k2
 show wpList P _ _ [od] a2 w2
 unfold wpList
 rw [if_pos (wanted_none hgd _)]
 left
 unfold Oper.wp
 have hev:a2.eval x=.func (.func g) #[] caps.toArray:=by
  rw [isR_sound hr (m2.same (st':={ st2 with c:=True }) rfl),hx]
 have hrun:(execOp a2.eval od).run P w2=.ok (.defer (dfr g caps)) w2:=by
  simp [execOp,hod,resolve,hev,Deferred.ofValue,dfr]
 rw [hrun]
 simp only [Oper.upon,hdst]
 have m3:Tm (glD P R w fn.ntmps tr [] (dfr g caps) X RX AX) { st2 with c:=True } ρ2 { a2 with defers:=dfr g caps::a2.defers }:=by
  refine ⟨m2.size,?_,m2.get⟩
  show dfr g caps::a2.defers=[dfr g caps]
  rw [m2.defs]
  rfl
 have mm3:Mem (glD P R w fn.ntmps tr [] (dfr g caps) X RX AX) { st2 with c:=True } ρ2 w2:=⟨mm2.wd,mm2.len,mm2.nd,mm2.lt,mm2.no,mm2.ob,mm2.kn,mm2.hp⟩
 have hr1:=run_sound (G:=glD P R w fn.ntmps tr [] (dfr g caps) X RX AX) hm rest k3 good_end (λ_ _ h=>h.elim) good_end
 have fin:∀ st ρ a w',endK (glD P R w fn.ntmps tr [] (dfr g caps) X RX AX) mid st→Tm (glD P R w fn.ntmps tr [] (dfr g caps) X RX AX) st ρ a→Mem (glD P R w fn.ntmps tr [] (dfr g caps) X RX AX) st ρ w'→Leaves P fn a.tmps (λe w'=>∃ v hs,e=.returned v∧post v hs∧Sat (sepL hs R) w'∧Wd w w') a.defers .returning w':=by
  intro st ρ a w' k m mm
  obtain ⟨hs,k1,k2,k3⟩:=endK_sound k m mm
  rw [show a.defers=[dfr g caps] from m.defs]
  exact hd.ret hs k1 w' a k2 mm.wd k3
 refine hr1.2 ρ2 _ w2 _ (λe a w' hp=>?_) m3 mm3 fin (λ_ _ _ _ _ h=>h.elim) fin
 obtain ⟨ch,rfl,h1,h2,h3,h4,h5⟩:=hp
 show Leaves P fn a.tmps _ a.defers (.panicking ch) w'
 rw [h1]
 exact hd.pan ch h3 w' a h4 h5 h2
theorem leaves_one {P:Program} {fn:Func} {tmps:Array Value} {R:Ending→World→Prop} {g:FuncId} {caps:List Value} {u:FrameMode} {w:World} (hen:canEnter P g=true) (hu:u≠.run)
  (h:CallsD P g caps.toArray u w λe u' w'=>(∃ v,e=.returned v)∧settle u'=.returning∧∃ v,(results fn tmps).run P w'=.ok v w'∧R (.returned v) w'):Leaves P fn tmps R [dfr g caps] u w:=by
 have hi:(invoke (.fn (.func g) caps.toArray) #[]).run P w=.ok (.enter g caps.toArray) w:=by
  unfold canEnter at hen
  split at hen
  ·rename_i fn hf
   split at hen
   ·rename_i cd hb
    have hn : fn.name ≠ "runtime.NumGoroutine" := by simpa using hen
    simp [invoke,callFunc,program,Sem.run,hf,hb,hn]
   ·cases hen
  ·cases hen
 refine leaves_cons hu hi (h.mono ?_)
 rintro e u' w' ⟨⟨v,rfl⟩,hs,v2,h1,h2⟩
 show Leaves P fn tmps R [] (settle u') w'
 rw [hs]
 exact ⟨v2,h1,h2⟩
def RecAt (u:FrameMode) (r:Value) (u':FrameMode):Prop:=∀ (c:Frame) (cs:List Frame),c.mode=u→recoverD (c::cs)=some (r,{ c with mode:=u' }::cs)∨(recoverD (c::cs)=none∧r=.nilIface∧u'=u)
theorem rec_pan (v:Value):RecAt (.panicking [{ v:=v,recovered:=false }]) v (.panicking [{ v:=v,recovered:=true }]):=λc cs h=>.inl (by simp [recoverD,h])
theorem rec_idle:RecAt .returning .nilIface .returning:=λc cs h=>.inr ⟨by simp [recoverD,h],rfl,rfl⟩
theorem cls_of_run {P:Program} {R:HP} {f:FuncId} {fn:Func} {id d:Nat} {orec:Oper} {rest:Code} {args:List Value} {pre:List HP} {mid:List HP→Prop} {u u':FrameMode} {r:Value} (tr:Bool)
  (hf:P.funcs[f]? = some fn) (hb:fn.body=some (.seq (.region id #[orec] false) rest)) (hm:P.follows .mixedOrders=true) (hN:Nat.ble args.length fn.ntmps=true) (hres:fn.results=#[])
  (ho:orec.op=.call { callee:=.builtin .recover,args:=#[],argTypes:=#[] }) (hg:orec.guard=none) (hdst:orec.dst=some d) (hu:RecAt u r u')
  (h:∀ w0,putK (gl P R w0 fn.ntmps tr []) ⟨startT 0 (toSVs args),[],0,pre,True⟩ (some d) (.v r) none λst=>run (gl P R w0 fn.ntmps tr []) rest st (endK (gl P R w0 fn.ntmps tr []) mid) (λ_ _=>False) (endK (gl P R w0 fn.ntmps tr []) mid)) :
  ∀ w,Sat (sepL pre R) w→CallsD P f args.toArray u w λe x w'=>(∃ v,e=.returned v)∧x=u'∧∃ hs,mid hs∧Sat (sepL hs R) w'∧Wd w w':=by
 intro w hs
 have hN:=Nat.le_of_ble_eq_true hN
 refine callsD_of_wpS hf hb λc₀ cs hc=>?_
 refine wpS_seq (wpS_region ?_)
 have hG:Good λst=>run (gl P R w fn.ntmps tr []) rest st (endK (gl P R w fn.ntmps tr []) mid) (λ_ _=>False) (endK (gl P R w fn.ntmps tr []) mid):=λst h=>(run_sound hm rest h good_end (λ_ _ h=>h.elim) good_end).1
 obtain ⟨_,hp⟩:=putK_sound (h w) hG
 obtain ⟨st',k,m',mm'⟩:=hp [] _ w r rfl (start_tm (N:=fn.ntmps) hN rfl rfl rfl) (start_mem (G:=gl P R w fn.ntmps tr []) rfl rfl hs)
 have hr1:=run_sound (G:=gl P R w fn.ntmps tr []) hm rest k good_end (λ_ _ h=>h.elim) good_end
 have hres2:∀ (tmps:Array Value) (w':World),(results fn tmps).run P w'=.ok (.tuple #[]) w':=λtmps w'=>results_run (vs:=[]) (by rw [hres];rfl)
 have fin:∀ cs':List Frame,cs'={ c₀ with mode:=u' }::cs→∀ (e:Exit),(e=.normal∨e=.ret)→∀ st ρ a w',endK (gl P R w fn.ntmps tr []) mid st→Tm (gl P R w fn.ntmps tr []) st ρ a→Mem (gl P R w fn.ntmps tr []) st ρ w' →
   bodyPostS P fn c₀ cs (λe x w'=>(∃ v,e=.returned v)∧x=u'∧∃ hs,mid hs∧Sat (sepL hs R) w'∧Wd w w') e a cs' w':=by
  rintro cs' rfl e he st ρ a w' k m mm
  obtain ⟨hs,k1,k2,_⟩:=endK_sound k m mm
  rcases he with rfl|rfl
  ·exact ⟨m.defs,u',rfl,_,hres2 _ _,⟨_,rfl⟩,rfl,hs,k1,k2,mm.wd⟩
  ·exact ⟨m.defs,u',rfl,_,hres2 _ _,⟨_,rfl⟩,rfl,hs,k1,k2,mm.wd⟩
 have go:∀ cs':List Frame,cs'={ c₀ with mode:=u' }::cs→rest.wpS P (bodyPostS P fn c₀ cs λe x w'=>(∃ v,e=.returned v)∧x=u'∧∃ hs,mid hs∧Sat (sepL hs R) w'∧Wd w w') (Act.put { tmps:=args.toArray++Array.replicate (fn.ntmps - args.toArray.size) undef,defers:=[] } (some d) r) cs' w:=by
  intro cs' hcs
  refine wpS_of_wp (hr1.2 [] _ w _ (λe a w' hp=>by obtain ⟨_,_,_,_,hf,_⟩:=hp;exact hf.elim) m' mm' (fin cs' hcs .normal (.inl rfl)) (λ_ _ _ _ _ h=>h.elim) (fin cs' hcs .ret (.inr rfl)))
 have hrun:∀ ev:Operand→Value,(execOp ev orec).run P w=.ok .recover w:=λev=>by
  simp [execOp,ho,resolve,invoke,builtin]
 have hwt:∀ y,Region.wanted orec y=true:=λy=>wanted_none hg y
 show wpOpsS P #[orec] _ [0] _ _ w
 simp only [wpOpsS,List.getElem?_toArray,List.getElem?_cons_zero,hwt,if_true,hrun,hdst]
 rcases hu c₀ cs hc with e|⟨e,rfl,rfl⟩
 ·rw [e]
  exact go _ rfl
 ·rw [e]
  refine go _ ?_
  rw [← hc]
theorem results_two {P:Program} {fn:Func} {tmps:Array Value} {i j:Nat} {t s:TypeId} {p q:Nat} {dt ds:TypeDesc} {v u:Value} {w:World} (hr:fn.results=#[.cell i t,.cell j s]) (ht:P.underlying t=some dt) (hdt:dt.isRow=false) (hs:P.underlying s=some ds) (hds:ds.isRow=false)
  (hi:tmps.getD i undef=.pointer (some ⟨p,0,none⟩)) (hj:tmps.getD j undef=.pointer (some ⟨q,0,none⟩)) (hv:w.cell? ⟨p,0,none⟩=some v) (hu:w.cell? ⟨q,0,none⟩=some u):(results fn tmps).run P w=.ok (.tuple #[v,u]) w:=by
 have key:∀ {t:TypeId} {d:TypeDesc} {b:Nat} {x:Value},P.underlying t=some d→d.isRow=false→w.cell? ⟨b,0,none⟩=some x→(loadVar t ⟨b,0,none⟩).run P w=.ok x w:=by
  intro t d b x hu hd hc
  have hagg:(isAgg t).run P w=.ok false w:=by
   unfold isAgg
   rw [Sem.run_bind,run_underlying hu w]
   cases d<;>simp_all
  simp [loadVar,hagg,load,Sem.run,hc]
 have k1:=key ht hdt hv
 have k2:=key hs hds hu
 refine results_run (vs:=[v,u]) ?_
 rw [hr]
 show Sem.run P ([ResultVar.cell i t,.cell j s].mapM (rv tmps)) w=_
 have r1:(rv tmps (.cell i t)).run P w=.ok v w:=by simp only [rv,hi,asAddr,Sem.run_bind,Sem.run_pure,Result.andThen_ok,k1]
 have r2:(rv tmps (.cell j s)).run P w=.ok u w:=by simp only [rv,hj,asAddr,Sem.run_bind,Sem.run_pure,Result.andThen_ok,k2]
 rw [List.mapM_cons,List.mapM_cons]
 simp [r1,r2]
end Sy
def wrongCh:List PanicEntry:=[{ v:=.iface 164 (.agg #[.int .i64 12]),recovered:=false }]
abbrev isWrong (ch:List PanicEntry):Prop:=ch=wrongCh
theorem sMust {R:HP}:PureR Tryz.prog R 81 [.bool true] (.tuple #[]):=by
 refine fn_of_run0 false Tryz.func81 rfl hmix rfl λw0=>?_
 conv=>whnf
 refine iff_f rfl ?_
 conv=>whnf
 exact ⟨trivial,fin_pure rfl rfl⟩
theorem sMustNo {R:HP}:PanR Tryz.prog R 81 [.bool false] [] isWrong R:=by
 refine pan_of_run0 _ _ false Tryz.func81 rfl hmix rfl λw0=>?_
 conv=>whnf
 refine iff_t rfl ?_
 conv=>whnf
 exact ⟨trivial,OpAt.panic 164 (.agg #[.int .i64 12]) rfl rfl rfl rfl (λw s=>s) trivial⟩
theorem sRuneLen {R:HP} {c:Nat} (h:SignN c):PureR Tryz.prog R 100 [.int .i32 (c:Int)] (.int .i64 ((utfN c).length:Int)):=PureR.of_below λw _=>(Any.utf8_RuneLen lays118 (c:Int) w).mono λe w' ⟨he,hw⟩=>by
 have e2:Lib.runeLen (c:Int)=((utfN c).length:Int):=by
  unfold SignN at h
  unfold Lib.runeLen utfN
  rw [if_neg (by omega)]
  by_cases h1:c < 128
  ·rw [if_pos (by omega),if_pos h1];rfl
  ·rw [if_neg (by omega),if_neg h1]
   by_cases h2:c < 2048
   ·rw [if_pos (by omega),if_pos h2];rfl
   ·rw [if_neg (by omega),if_neg h2,if_neg (by omega),if_pos (by omega)];rfl
 subst hw
 exact ⟨by rw [he,e2],Below.refl _ _⟩
theorem at_is {s:List UInt8} {k:Nat} (hk:k < s.length):(byteAt (bs s) k=58)↔s[k]? = some 58:=by
 rw [byteAt_bs,List.getElem?_eq_getElem hk]
 simp only [Option.getD_some,Option.some.injEq]
 exact u8_is 58
theorem sBand {R:HP} (hN:∀ w,Sat R w→NumW w) {s:List UInt8} (hl:s.length≤1048576) {b:Bd} (h:bandV s=some b):PureR Tryz.prog R 82 [.string (bs s)] (.agg #[.int .i64 b.f,.int .i32 b.s]):=by
 unfold bandV at h
 split at h
 rotate_left
 ·cases h
 rename_i hc
 obtain ⟨h1,h2,h3,h4,h5⟩:=hc
 injection h with h
 subst h
 rcases hx:scan s 0 with ⟨n,e,q⟩
 rw [hx] at h1 h2 h3 h4 h5
 simp only at h1 h2 h3 h4 h5 ⊢
 subst h1
 obtain ⟨k,rfl,hk,ht,hb⟩:=scan_fine hx
 simp only [Int.toNat_natCast] at h2 h3 h4 h5 ⊢
 have hsc:∀ R':HP,(∀ w,Sat R' w→Sat R w)→PureR Tryz.prog R' 93 [.string (bs s),.int .i64 0] (.tuple #[.int .i64 n,.int .i64 (k:Int),.int .i64 0]):=λR' h=>by
  have:=sScan (R:=R') (λw s=>hN w (h w s)) s hl 0
  rw [hx] at this
  exact this
 clear hx ht
 have h3':=(at_is h2).2 h3
 have hex:(bs s).extract (k+1) (bs s).size=bs (s.drop (k+1)):=by rw [bs_extract,bs_size,List.take_length]
 have hql:(s.drop (k+1)).length=s.length - (k+1):=List.length_drop
 generalize s.drop (k+1)=q at *
 have hex':(bs s).extract ((k:Int)+1).toNat (((bs s).size:Int)).toNat=bs q:=by rw [show ((k:Int)+1).toNat=k+1 by omega,Int.toNat_natCast,hex]
 have hd:=decode_bs q 0
 rw [List.drop_zero] at hd
 rcases hde:dec q with ⟨c,k1⟩
 rw [hde] at hd h4 h5
 simp only at hd h4 h5 ⊢
 have hlen:=utf_dec hde h4
 have hq0:0 < q.length:=by
  cases q with
  |nil=>exact absurd hlen.1.symm (by simp [utfN_ne])
  |cons a q=>simp
 have hu:(utfN c).length=k1:=by rw [← hlen.1,List.length_take];omega
 have hsg:∀ R':HP,(∀ w,Sat R' w→Sat R w)→PureR Tryz.prog R' 96 [.int .i32 (c:Int)] (.bool true):=λR' _=>by
  have:=sTSign (R:=R') (c:Int)
  rw [decide_eq_true ⟨by omega,by simpa using h4⟩] at this
  exact this
 have hrl:∀ R':HP,(∀ w,Sat R' w→Sat R w)→_:=λR' _=>sRuneLen (R:=R') h4
 refine fn_of_run0 false Tryz.func82 rfl hmix rfl λw0=>?_
 conv=>whnf
 refine ⟨trivial,CallAt.pure (λR' hR'=>hsc R' hR') ?_⟩
 conv=>whnf
 refine ⟨λ_=>?_,λh=>absurd h (by decide)⟩
 conv=>whnf
 refine ⟨λ_=>?_,λh=>absurd h (by rw [decide_eq_true (by rw [bs_size];omega)];decide)⟩
 conv=>whnf
 refine ⟨⟨trivial,by rw [bs_size];omega⟩,CallAt.pure (λR' hR'=>(by rw [decide_eq_true (by simpa using h3')];exact sMust)) ?_⟩
 conv=>whnf
 refine ⟨by rw [bs_size];refine ⟨⟨trivial,?_⟩,?_⟩<;>(try unfold rng)<;>omega,OpAt.range (bs q) rfl (congrArg Value.string hex') rfl rfl λib=>?_⟩
 conv=>whnf
 refine ⟨trivial,LoopAt.of (α:=Bool) [0,2,3,4,7,35] (λf=>[(6,.v (.int .i64 (cond f 1 0)))]) (λf=>[(1,84,[.v (.int .i64 (cond f n 0)),.v (.int .i32 (cond f (c:Int) 0))]),(0,84,[.v (.int .i64 0),.v (.int .i32 0)])]) (λf=>[itH ib (bs q) (cond f k1 0)]) (λ_=>True) (λf=>cond f 0 1) false trivial
  (Le.of (Nat.le_of_ble_eq_true rfl) (Nat.zero_le _) ⟨⟨rfl,rfl⟩,⟨rfl,rfl⟩,⟨rfl,rfl⟩,⟨rfl,rfl⟩,⟨rfl,rfl⟩,⟨rfl,rfl⟩,⟨rfl,rfl⟩,trivial⟩ ⟨⟨rfl,rfl,rfl,rfl⟩,⟨rfl,rfl,rfl,rfl⟩,trivial⟩ λh s=>sub_same s) ?_⟩
 rintro f -
 cases f
 ·conv=>whnf
  refine ⟨trivial,OpAt.next ib (bs q) 0 [] rfl (λh s=>s) rfl rfl (by rw [bs_size];omega) ?_⟩
  rw [hd]
  conv=>whnf
  refine iff_t rfl ?_
  conv=>whnf
  refine ⟨λ_=>?_,λh=>absurd h (by decide)⟩
  conv=>whnf
  refine ⟨trivial,CallAt.pure (λR' hR'=>hsg R' (λw s=>(hR' w s).rest)) ?_⟩
  conv=>whnf
  refine ⟨trivial,CallAt.pure (λR' hR'=>sMust) ?_⟩
  conv=>whnf
  refine ⟨⟨trivial,by unfold rng;simp only [cond];omega⟩,.mk true trivial (by decide) (Le.of (Nat.le_of_ble_eq_true rfl) (Nat.zero_le _) ⟨⟨rfl,rfl⟩,⟨rfl,rfl⟩,⟨rfl,rfl⟩,⟨rfl,rfl⟩,⟨rfl,rfl⟩,⟨rfl,rfl⟩,⟨rfl,rfl⟩,trivial⟩ ⟨⟨rfl,rfl,rfl,rfl⟩,⟨rfl,rfl,rfl,rfl⟩,trivial⟩ λh s=>?_)⟩
  simp only [Nat.zero_add] at s
  exact sub_same s
 ·conv=>whnf
  refine ⟨trivial,OpAt.nextEnd ib (bs q) k1 [] rfl (λh s=>s) rfl rfl (by rw [bs_size];omega) ?_⟩
  conv=>whnf
  refine iff_f rfl ?_
  conv=>whnf
  refine ⟨λ_=>?_,λh=>absurd h (by decide)⟩
  conv=>whnf
  refine ⟨trivial,CallAt.pure (λR' hR'=>hrl R' (λw s=>(hR' w s).rest)) ?_⟩
  conv=>whnf
  refine ⟨by rw [bs_size];refine ⟨⟨trivial,?_⟩,?_⟩<;>unfold rng<;>omega,CallAt.pure (λR' hR'=>(by rw [decide_eq_true (by rw [bs_size,hu];omega)];exact sMust)) ?_⟩
  conv=>whnf
  exact ⟨trivial,fin_drop rfl⟩
theorem CallAt.pan0 {G:Gl} {f:FuncId} {args:List Value} {st:St} {K:SV→St→Prop} {X:List PanicEntry→Prop} (hc:∀ R':HP,(∀ w,Sat R' w→Sat (sepL st.h G.R) w)→PanR G.P R' f args [] X R') (hX:∀ ch,X ch→G.X ch) (hRX:∀ w,Sat (sepL st.h G.R) w→Sat G.RX w) (ha:axAt G.AX st):CallAt G f args st K:=by
 refine .px ha λρ w mm=>?_
 obtain ⟨h,h1,h2,_⟩:=mm.hp
 refine Calls.mono (hc (sepL st.h G.R) (λw s=>s) w ⟨h,h1,h2⟩) ?_
 rintro e w' ⟨ch,rfl,k1,k2,k3⟩
 exact ⟨ch,rfl,hX _ k1,hRX _ k2,mm.wd.trans k3⟩
theorem sBandNo {R:HP} (hN:∀ w,Sat R w→NumW w) {s:List UInt8} (hl:s.length≤1048576) (h:bandV s=none):PanR Tryz.prog R 82 [.string (bs s)] [] isWrong R:=by
 unfold bandV at h
 split at h
 ·cases h
 rename_i hc
 clear h
 have hsc0:∀ R':HP,(∀ w,Sat R' w→Sat R w)→_:=λR' h=>sScan (R:=R') (λw s=>hN w (h w s)) s hl 0
 rcases hx:scan s 0 with ⟨n,e,q⟩
 rw [hx] at hc
 simp only at hc
 have hsc:∀ R':HP,(∀ w,Sat R' w→Sat R w)→PureR Tryz.prog R' 93 [.string (bs s),.int .i64 0] (.tuple #[.int .i64 n,.int .i64 e,.int .i64 q]):=λR' h=>by
  have:=hsc0 R' h
  rw [hx] at this
  exact this
 clear hsc0
 by_cases hq:q=0
 ·subst hq
  obtain ⟨k,rfl,hk,ht,hb⟩:=scan_fine hx
  clear hx ht
  simp only [Int.toNat_natCast,true_and] at hc
  by_cases h2:k < s.length
  ·by_cases h3:s[k]? = some 58
   ·have h3':=(at_is h2).2 h3
    have hc:¬ (SignN (dec (s.drop (k+1))).1∧(dec (s.drop (k+1))).2=(s.drop (k+1)).length):=λc=>hc ⟨h2,h3,c⟩
    have hex:(bs s).extract (k+1) (bs s).size=bs (s.drop (k+1)):=by rw [bs_extract,bs_size,List.take_length]
    generalize s.drop (k+1)=q at *
    have hex':(bs s).extract ((k:Int)+1).toNat (((bs s).size:Int)).toNat=bs q:=by rw [show ((k:Int)+1).toNat=k+1 by omega,Int.toNat_natCast,hex]
    have hd:=decode_bs q 0
    rw [List.drop_zero] at hd
    rcases hde:dec q with ⟨c,k1⟩
    rw [hde] at hd hc
    simp only at hd hc
    have hlen:SignN c→k1 < q.length:=λh=>by
     have h5:=(utf_dec hde h).2
     have h6:k1≠q.length:=λe=>hc ⟨h,e⟩
     omega
    have hk1:SignN c→k1≠0:=λh e=>by
     have h5:=(utf_dec hde h).1
     rw [e] at h5
     exact utfN_ne c h5.symm
    have hsg:∀ R':HP,PureR Tryz.prog R' 96 [.int .i32 (c:Int)] (.bool (decide (SignN c))):=λR'=>by
     have:=sTSign (R:=R') (c:Int)
     rw [show decide (SignI (c:Int))=decide (SignN c) from decide_eq_decide.2 ⟨λh=>by simpa using h.2,λh=>⟨by omega,by simpa using h⟩⟩] at this
     exact this
    refine pan_of_run0 _ _ false Tryz.func82 rfl hmix rfl λw0=>?_
    conv=>whnf
    refine ⟨trivial,CallAt.pure (λR' hR'=>hsc R' hR') ?_⟩
    conv=>whnf
    refine ⟨λ_=>?_,λh=>absurd h (by decide)⟩
    conv=>whnf
    refine ⟨λ_=>?_,λh=>absurd h (by rw [decide_eq_true (by rw [bs_size];omega)];decide)⟩
    conv=>whnf
    refine ⟨⟨trivial,by rw [bs_size];omega⟩,CallAt.pure (λR' hR'=>(by rw [decide_eq_true (by simpa using h3')];exact sMust)) ?_⟩
    conv=>whnf
    refine ⟨by rw [bs_size];refine ⟨⟨trivial,?_⟩,?_⟩<;>(try unfold rng)<;>omega,OpAt.range (bs q) rfl (congrArg Value.string hex') rfl rfl λib=>?_⟩
    conv=>whnf
    refine ⟨trivial,LoopAt.of (α:=Bool) [0,2,3,4,7,35] (λf=>[(6,.v (.int .i64 (cond f 1 0)))]) (λf=>[(1,84,[.v (.int .i64 (cond f n 0)),.v (.int .i32 (cond f (c:Int) 0))]),(0,84,[.v (.int .i64 0),.v (.int .i32 0)])]) (λf=>[itH ib (bs q) (cond f k1 0)]) (λf=>f=true→SignN c) (λf=>cond f 0 1) false (λh=>by cases h)
     (Le.of (Nat.le_of_ble_eq_true rfl) (Nat.zero_le _) ⟨⟨rfl,rfl⟩,⟨rfl,rfl⟩,⟨rfl,rfl⟩,⟨rfl,rfl⟩,⟨rfl,rfl⟩,⟨rfl,rfl⟩,⟨rfl,rfl⟩,trivial⟩ ⟨⟨rfl,rfl,rfl,rfl⟩,⟨rfl,rfl,rfl,rfl⟩,trivial⟩ λh s=>sub_same s) ?_⟩
    rintro f hf
    cases f
    ·conv=>whnf
     by_cases hq0:0 < q.length
     ·refine ⟨trivial,OpAt.next ib (bs q) 0 [] rfl (λh s=>s) rfl rfl (by rw [bs_size];omega) ?_⟩
      rw [hd]
      conv=>whnf
      refine iff_t rfl ?_
      conv=>whnf
      refine ⟨λ_=>?_,λh=>absurd h (by decide)⟩
      conv=>whnf
      refine ⟨trivial,CallAt.pure (λR' hR'=>hsg R') ?_⟩
      conv=>whnf
      by_cases hs:SignN c
      ·rw [decide_eq_true hs]
       refine ⟨trivial,CallAt.pure (λR' hR'=>sMust) ?_⟩
       conv=>whnf
       refine ⟨⟨trivial,by unfold rng;simp only [cond];omega⟩,.mk true (λ_=>hs) (by decide) (Le.of (Nat.le_of_ble_eq_true rfl) (Nat.zero_le _) ⟨⟨rfl,rfl⟩,⟨rfl,rfl⟩,⟨rfl,rfl⟩,⟨rfl,rfl⟩,⟨rfl,rfl⟩,⟨rfl,rfl⟩,⟨rfl,rfl⟩,trivial⟩ ⟨⟨rfl,rfl,rfl,rfl⟩,⟨rfl,rfl,rfl,rfl⟩,trivial⟩ λh s=>?_)⟩
       simp only [Nat.zero_add] at s
       exact sub_same s
      ·rw [decide_eq_false hs]
       exact ⟨trivial,CallAt.pan0 (λR' hR'=>sMustNo) (λch h=>h) (λw s=>s.rest) trivial⟩
     ·refine ⟨trivial,OpAt.nextEnd ib (bs q) 0 [] rfl (λh s=>s) rfl rfl (by rw [bs_size];omega) ?_⟩
      conv=>whnf
      refine iff_f rfl ?_
      conv=>whnf
      refine ⟨λh=>absurd h (by decide),λ_=>?_⟩
      conv=>whnf
      exact ⟨trivial,CallAt.pan0 (λR' hR'=>sMustNo) (λch h=>h) (λw s=>s.rest) trivial⟩
    ·have hs:=hf rfl
     have hk1:=hk1 hs
     conv=>whnf
     refine ⟨trivial,OpAt.next ib (bs q) k1 [] rfl (λh s=>s) rfl rfl (by rw [bs_size];exact hlen hs) ?_⟩
     generalize Utf8.decode (bs q) k1=z
     conv=>whnf
     refine iff_t rfl ?_
     conv=>whnf
     refine ⟨λh=>absurd (of_decide_eq_true h) (by omega),λ_=>?_⟩
     conv=>whnf
     exact ⟨trivial,CallAt.pan0 (λR' hR'=>sMustNo) (λch h=>h) (λw s=>s.rest) trivial⟩
   ·have h3':¬ byteAt (bs s) k=58:=λc=>h3 ((at_is h2).1 c)
    refine pan_of_run0 _ _ false Tryz.func82 rfl hmix rfl λw0=>?_
    conv=>whnf
    refine ⟨trivial,CallAt.pure (λR' hR'=>hsc R' hR') ?_⟩
    conv=>whnf
    refine ⟨λ_=>?_,λh=>absurd h (by decide)⟩
    conv=>whnf
    refine ⟨λ_=>?_,λh=>absurd h (by rw [decide_eq_true (by rw [bs_size];omega)];decide)⟩
    conv=>whnf
    exact ⟨⟨trivial,by rw [bs_size];omega⟩,CallAt.pan0 (λR' hR'=>(by rw [decide_eq_false (by simpa using h3')];exact sMustNo)) (λch h=>h) (λw s=>s) trivial⟩
  ·refine pan_of_run0 _ _ false Tryz.func82 rfl hmix rfl λw0=>?_
   conv=>whnf
   refine ⟨trivial,CallAt.pure (λR' hR'=>hsc R' hR') ?_⟩
   conv=>whnf
   refine ⟨λ_=>?_,λh=>absurd h (by decide)⟩
   conv=>whnf
   refine ⟨λh=>absurd (of_decide_eq_true h) (by rw [bs_size];omega),λ_=>?_⟩
   conv=>whnf
   exact ⟨trivial,CallAt.pan0 (λR' hR'=>sMustNo) (λch h=>h) (λw s=>s) trivial⟩
 ·refine pan_of_run0 _ _ false Tryz.func82 rfl hmix rfl λw0=>?_
  conv=>whnf
  refine ⟨trivial,CallAt.pure (λR' hR'=>hsc R' hR') ?_⟩
  conv=>whnf
  refine ⟨λh=>absurd (of_decide_eq_true h) hq,λ_=>?_⟩
  conv=>whnf
  exact ⟨trivial,CallAt.pan0 (λR' hR'=>sMustNo) (λch h=>h) (λw s=>s) trivial⟩
def MaxW (w:World):Prop:=∃ m,w.cell? ⟨1,0,none⟩=some (.int .i64 m)
def ReadW (w:World):Prop:=NumW w∧MaxW w
def pieces (s:List UInt8):List (List UInt8):=Lib.splitK [44] 0 (s.count 44) s
theorem splitB_eq (s:List UInt8) (k:Nat):Lib.splitB (bs [44]) 0 k (bs s)=(Lib.splitK [44] 0 k s).map bs:=by
 have h:=Lib.splitB_data (bs [44]) 0 k (bs s)
 rw [bs_toList,bs_toList] at h
 rw [← h,List.map_map]
 have e:(bs ∘ λx:ByteArray=>x.data.toList)=id:=by
  funext x
  exact bs_data x
 rw [e,List.map_id]
theorem alloc_row {R:HP} {w:World} (n:Nat) (e:TypeId) (xs:List Value) (hx:xs.length=n) (hn:n≤maxLen) (s:Sat R w):Sat (sepL [rowH (.slice (some ⟨w.heap.size,0,none⟩) n n) n e 1 xs] R) (w.alloc (.cells xs.toArray e)):=by
 obtain ⟨h,h1,h2⟩:=s
 have hb:Below w.heap.size w (w.alloc (.cells xs.toArray e)):=(Below.refl _ _).alloc (Nat.le_refl _) _
 have hnone:h w.heap.size=none:=h1.none (Nat.le_refl _)
 refine ⟨un (λi=>if i=w.heap.size then some (.cells xs.toArray e (0,0)) else none) h,Sub.un (λi o e'=>?_) (h1.below hb),_,h,λi=>?_,rfl,⟨by omega,.inr ⟨w.heap.size,n,xs.toArray,rfl,λi=>rfl,Nat.le_refl _,hn,by simp [hx],by (show (xs.toArray.toList.take (n * 1))=xs);rw [show n * 1=xs.length by omega];simp⟩⟩,h2⟩
 ·by_cases c:i=w.heap.size
  ·subst c
   rw [if_pos rfl] at e'
   rw [← e']
   exact Blk.new _ _ _
  ·rw [if_neg c] at e';cases e'
 ·by_cases c:i=w.heap.size
  ·subst c;exact .inr hnone
  ·exact .inl (if_neg c)
theorem sSplit {R:HP} (hM:∀ w,Sat R w→MaxW w) (s:List UInt8) (hl:s.length≤1048576):FnR Tryz.prog R 27 [.string (bs s),.string (bs [44])] [] λr hs=>∃ B,r=.slice (some ⟨B,0,none⟩) (pieces s).length (pieces s).length∧hs=[rowH (.slice (some ⟨B,0,none⟩) (pieces s).length (pieces s).length) (pieces s).length 9 1 ((pieces s).map λp=>.string (bs p))]:=by
 intro w hs
 obtain ⟨m,hm⟩:=hM w hs
 have c:=Any.strings_Split lays146 (by kernel_rfl) (bs s) (bs [44]) m w (by rw [bs_size];omega) hm (by rw [bs_size];exact Nat.le_refl _)
 have hc:Lib.countB (bs s) (bs [44])=s.count 44:=by
  show Lib.count (bs s).data.toList (bs [44]).data.toList=_
  rw [bs_toList,bs_toList]
  exact Lib.count_one 44 s
 have hlen:=Lib.splitB_all (bs [44]) (by rw [bs_size];exact Nat.le_refl _) 0 (s.count 44) (bs s) hc
 rw [hc,splitB_eq] at c
 rw [splitB_eq,List.length_map] at hlen
 have hle:s.count 44≤s.length:=List.count_le_length
 refine Calls.mono c ?_
 rintro e w' ⟨he,hw⟩
 have hp:(pieces s).length=s.count 44+1:=hlen
 have hmap:(List.map Value.string ((Lib.splitK [44] 0 (s.count 44) s).map bs))=(pieces s).map λp=>.string (bs p):=by rw [List.map_map];rfl
 rw [hmap] at hw
 refine ⟨_,_,by rw [he,← hp],⟨w.heap.size,rfl,rfl⟩,?_,?_⟩
 ·rw [hw]
  exact alloc_row _ _ _ (by simp) (by rw [hp];simp only [maxLen];omega) hs
 ·rw [hw]
  exact .of_below ((Below.refl _ _).alloc (Nat.le_refl _) _)
abbrev lbH (b:Nat) (v:Value):HP:=blkH b 29 #[v]
abbrev ebH (b:Nat) (v:Value):HP:=blkH b 32 #[v]
def anyB (b:Nat) (t:TypeId):HP:=λh=>∃ v,blkH b t #[v] h
theorem clsIdle {R:HP} {lb eb:Nat} {v u:Value}:∀ w,Sat (sepL [lbH lb v,ebH eb u] R) w→CallsD Tryz.prog 80 [Value.pointer (some ⟨lb,0,none⟩),.pointer (some ⟨eb,0,none⟩)].toArray .returning w λe x w'=>(∃ v,e=.returned v)∧x=.returning∧∃ hs,hs=[lbH lb v,ebH eb u]∧Sat (sepL hs R) w'∧Wd w w':=by
 refine cls_of_run false Tryz.func80 rfl hmix rfl rfl rfl rfl rfl rec_idle λw0=>?_
 conv=>whnf
 refine iff_t rfl ?_
 conv=>whnf
 exact ⟨trivial,⟨_,λw s=>s,trivial,rfl⟩⟩
theorem clsPan {R:HP} {lb eb:Nat} {v u:Value}:∀ w,Sat (sepL [lbH lb v,ebH eb u] R) w→CallsD Tryz.prog 80 [Value.pointer (some ⟨lb,0,none⟩),.pointer (some ⟨eb,0,none⟩)].toArray (.panicking wrongCh) w λe x w'=>(∃ v,e=.returned v)∧x=.panicking [{ v:=.iface 164 (.agg #[.int .i64 12]),recovered:=true }]∧∃ hs,hs=[lbH lb (.slice none 0 0),ebH eb (.int .i64 12)]∧Sat (sepL hs R) w'∧Wd w w':=by
 refine cls_of_run false Tryz.func80 rfl hmix rfl rfl rfl rfl rfl (rec_pan _) λw0=>?_
 conv=>whnf
 refine iff_f rfl ?_
 conv=>whnf
 refine iff_t rfl ?_
 conv=>whnf
 refine ⟨trivial,RegAt.groups0 [([.T 0,.T 1,.H 2],3),([.H 3],4)] hmix (by kernel_rfl) ?_⟩
 conv=>whnf
 refine ⟨trivial,OpAt.store lb 0 (.slice none 0 0) _ rfl (λh s=>s) rfl rfl rfl rfl rfl (by simp [Value.cells,Value.oneCell']) (λh r=>blk_put (by show 0+1≤1;omega) r) ?_⟩
 conv=>whnf
 refine ⟨trivial,⟨⟨rfl,rfl⟩,λh s=>sub_nil s⟩,?_⟩
 conv=>whnf
 refine ⟨trivial,OpAt.store eb 0 (.int .i64 12) _ rfl (λh s=>sepL_pull 1 s) rfl rfl rfl rfl rfl (by simp [Value.cells,Value.oneCell']) (λh r=>blk_put (by show 0+1≤1;omega) r) ?_⟩
 conv=>whnf
 exact ⟨trivial,trivial,⟨[lbH lb (.slice none 0 0),ebH eb (.int .i64 12)],λw ⟨h,h1,s⟩=>⟨h,h1,sepL_pull 1 s⟩,trivial,rfl⟩⟩
theorem partsV_get:∀ {ps:List (List UInt8)} {l:List Bd},partsV ps=some l→ps.length=l.length∧∀ i (h:i < ps.length) (h':i < l.length),bandV ps[i]=some l[i]
 |[],l,h=>by
  injection h with h
  subst h
  exact ⟨rfl,λi h=>absurd h (Nat.not_lt_zero _)⟩
 |p::ps,l,h=>by
  unfold partsV at h
  split at h
  ·cases h
  ·rename_i b hb
   obtain ⟨l',hl,rfl⟩:=Option.map_eq_some_iff.1 h
   obtain ⟨e1,e2⟩:=partsV_get hl
   refine ⟨by simp [e1],λi h h'=>?_⟩
   cases i with
   |zero=>exact hb
   |succ i=>exact e2 i (by simpa using h) (by simpa using h')
theorem piece_len {s:List UInt8} {p:List UInt8} (h:p∈pieces s):p.length≤s.length:=by
 obtain ⟨h1,_,_⟩:=split_spec s
 have key:∀ {ps:List (List UInt8)},p∈ps→p.length≤(ps.flatMap λq=>(44:UInt8)::q).length:=λ{ps} hp=>by
  induction ps with
  |nil=>cases hp
  |cons q qs ih =>
   simp only [List.flatMap_cons,List.length_append,List.length_cons]
   rcases List.mem_cons.1 hp with rfl|hp
   ·omega
   ·have:=ih hp;omega
 unfold pieces at h
 generalize Lib.splitK [44] 0 (s.count 44) s=ps at *
 rw [← h1]
 cases ps with
 |nil=>cases h
 |cons q qs =>
  simp only [joinC,List.length_append]
  rcases List.mem_cons.1 h with rfl|h
  ·omega
  ·have:=key h;omega
theorem bcel_one (b:Bd):bcel [b]=[.int .i64 b.f,.int .i32 b.s]:=rfl
theorem bcel_append (l m:List Bd):bcel (l++m)=bcel l++bcel m:=List.flatMap_append
theorem rowB_at {g n c size:Nat} {e:TypeId} {xs:List Value} {w:World} (s:Sat (rowH (.slice (some ⟨g,0,none⟩) n c) n e size xs) w) (hn:0 < n) {j:Nat} {u:Value} (h:xs[j]? = some u):w.cell? ⟨g,j,none⟩=some u:=by
 obtain ⟨ad,e',_,hc⟩:=(rowH_reads rfl s).2 hn
 injection e' with e'
 subst e'
 have:=hc j u h
 rw [add_plain,Nat.zero_add] at this
 exact this
theorem row_capB {A:Option Addr} {n c size:Nat} {e:TypeId} {xs:List Value} {w:World} (s:Sat (rowH (.slice A n c) n e size xs) w):n≤c:=by
 obtain ⟨h,_,_,r⟩:=s
 rcases r with ⟨e,h0,_⟩|⟨g,cap,cur,e,_,h1,_⟩
 ·omega
 ·injection e with _ _ e
  omega
structure RdS where
 i:Nat
 A:Option Addr
 c:Nat
abbrev bRow (A:Option Addr) (n c:Nat) (l:List Bd):HP:=rowH (.slice A n c) n 84 2 (bcel l)
theorem sTRead {R:HP} (hW:∀ w,Sat R w→ReadW w) {s:List UInt8} {l:List Bd} (h:readV s=some l):FnR Tryz.prog R 63 [.string (bs s)] [] λr hs=>∃ A c,r=.tuple #[.slice A l.length c,.int .i64 0]∧hs=[bRow A l.length c l]:=by
 unfold readV at h
 split at h
 ·cases h
 rename_i hlen
 split at h
 ·cases h
 rename_i l' hp
 split at h
 rotate_left
 ·cases h
 rename_i hr
 injection h with h
 subst h
 obtain ⟨hpl,hpg⟩:=partsV_get hp
 have hl12:=hr.2.1
 have hpc:Lib.splitK [44] 0 (s.count 44) s=pieces s:=rfl
 rw [hpc] at hpl hpg
 have hplen:∀ i (h:i < (pieces s).length),(pieces s)[i].length≤1048576:=λi h=>by have:=piece_len (List.getElem_mem h);omega
 have hsp:=λR' (h:∀ w,Sat R' w→Sat R w)=>sSplit (R:=R') (λw s=>(hW w (h w s)).2) s (by omega)
 generalize pieces s=ps at *
 obtain ⟨m,hm⟩:∃ m,m=l'.length:=⟨_,rfl⟩
 rw [← hm]
 refine fn_of_defer false Tryz.func63 rfl hmix rfl (os1:=[_]) rfl rfl rfl rfl λw0=>?_
 conv=>whnf
 intro lb _
 conv=>whnf
 intro eb _
 conv=>whnf
 refine ⟨trivial,DefAt.mk 80 [.pointer (some ⟨lb,0,none⟩),.pointer (some ⟨eb,0,none⟩)] (λ_=>False) R [(2,.pointer (some ⟨lb,0,none⟩)),(3,.pointer (some ⟨eb,0,none⟩))] (λhs=>∃ A c,hs=[lbH lb (.slice A m c),ebH eb (.int .i64 0),bRow A m c l']) rfl rfl ⟨?_,λ_ h=>h.elim⟩ ?_⟩
 ·rintro hs ⟨A,c,rfl⟩ w a sat wd ax
  refine leaves_one (by kernel_rfl) (λe=>by cases e) ?_
  refine CallsD.mono (clsIdle (R:=sepL [bRow A m c l'] R) w sat) ?_
  rintro e u' w' ⟨hv,rfl,hs,rfl,s',wd'⟩
  refine ⟨hv,rfl,.tuple #[.slice A m c,.int .i64 0],results_two rfl Tryz.underlying29 rfl Tryz.underlying32 rfl (ax (2,_) List.mem_cons_self) (ax (3,_) (List.mem_cons_of_mem _ List.mem_cons_self)) ((blk_sat (s'.in_ 0 rfl)).cell 0) ((blk_sat (s'.in_ 1 rfl)).cell 0),_,_,rfl,⟨A,c,rfl,rfl⟩,?_,wd.trans wd'⟩
  exact s'.rest
 conv=>whnf
 refine ⟨trivial,CallAt.pure (λR' hR'=>(by rw [decide_eq_true (by rw [bs_size];omega)];exact sMust)) ?_⟩
 conv=>whnf
 refine ⟨trivial,CallAt.fn (pre:=[]) _ (λh s=>s) (λR' hR'=>hsp R' λw s=>(hR' w s).rest) ?_⟩
 rintro r hs ⟨B,rfl,rfl⟩
 conv=>whnf
 refine ⟨trivial,LoopAt.of (α:=RdS) [2,3,12,13] (λa=>[(14,.v (.int .i64 (a.i:Int)))]) (λ_=>[]) (λa=>[lbH lb (.slice a.A a.i a.c),bRow a.A a.i a.c (l'.take a.i),rowH (.slice (some ⟨B,0,none⟩) ps.length ps.length) ps.length 9 1 (ps.map λp=>.string (bs p)),ebH eb (.int .i64 0)]) (λa=>a.i≤m) (λa=>m - a.i) ⟨0,none,0⟩ (Nat.zero_le _)
  (Le.of (Nat.le_of_ble_eq_true rfl) (Nat.zero_le _) ⟨⟨rfl,rfl⟩,⟨rfl,rfl⟩,⟨rfl,rfl⟩,⟨rfl,rfl⟩,⟨rfl,rfl⟩,trivial⟩ trivial λh s=>sub_same (sepL_perm (List.Perm.swap _ _ _) (row_nil _ _ (sepL_pull 2 s)))) ?_⟩
 rintro ⟨i,A,c⟩ hi
 simp only at hi
 conv=>whnf
 refine ⟨λh3=>?_,λh3=>?_⟩
 ·have g3:i < m:=by simp at h3;omega
  have hip:i < ps.length:=by omega
  have hil:i < l'.length:=by omega
  have hb:=hpg i hip hil
  have hpi:=hplen i hip
  have hat:(ps.map λp=>Value.string (bs p))[i]? = some (.string (bs ps[i])):=by rw [List.getElem?_map,List.getElem?_eq_getElem hip];rfl
  have htk:bcel (l'.take (i+1))=bcel (l'.take i)++bcel [l'[i]]:=by rw [← bcel_append,List.take_succ_eq_append_getElem hil]
  generalize ps[i]=p at *
  generalize l'[i]=x at *
  have hband:=λR' (h:∀ w,Sat R' w→Sat R w)=>sBand (R:=R') (λw s=>(hW w (h w s)).1) hpi hb
  conv=>whnf
  refine ⟨⟨trivial,by simp only;omega⟩,LoadAt.cell (.string (bs p)) rfl rfl (λw hw=>?_) ?_⟩
  ·have:=rowB_at (hw.in_ 2 rfl) (by omega) hat
   simpa using this
  conv=>whnf
  refine ⟨trivial,RegAt.groups [([.T 0,.T 1,.H 2,.H 3],4),([.H 4],5),([.H 5],6)] hmix (by kernel_rfl) ?_⟩
  conv=>whnf
  refine ⟨trivial,LoadAt.cell (.slice A i c) rfl rfl (λw hw=>(blk_sat (hw.in_ 0 rfl)).cell 0) ?_⟩
  conv=>whnf
  refine ⟨trivial,CallAt.pure (λR' hR'=>hband R' λw s=>(hR' w s).rest) ?_⟩
  conv=>whnf
  refine ⟨trivial,⟨⟨rfl,rfl⟩,λh s=>sub_same s⟩,?_⟩
  conv=>whnf
  refine ⟨trivial,OpAt.lit [.agg #[.int .i64 x.f,.int .i32 x.s]] 2 rfl rfl rfl rfl rfl (by decide) rfl rfl rfl (by simp [Value.cells]) rfl (by decide) λg2=>?_⟩
  conv=>whnf
  refine ⟨trivial,⟨⟨rfl,rfl⟩,λh s=>sub_tail s⟩,?_⟩
  conv=>whnf
  refine ⟨trivial,OpAt.append (.slice A i c) i 2 16 (bcel (l'.take i)) (bcel [x]) (some ⟨g2,0,none⟩) 1 1 _ rfl (λh s=>sepL_pull 2 s) rfl rfl rfl rfl rfl rfl rfl rfl rfl (by decide) (λw hw=>rowH_reads rfl (Sat.left hw)) (by simp [bcel,bdC,Value.oneCell']) (by simp only [maxLen];omega) (by omega) λA' c'=>?_⟩
  conv=>whnf
  refine ⟨trivial,OpAt.store lb 0 (.slice A' (i+1) c') _ rfl (λh s=>sepL_pull 2 s) rfl rfl rfl rfl rfl (by simp [Value.cells,Value.oneCell']) (λh r=>blk_put (by show 0+1≤1;omega) r) ?_⟩
  conv=>whnf
  refine ⟨trivial,?_⟩
  conv=>whnf
  refine ⟨⟨trivial,by unfold rng;simp only;omega⟩,.mk ⟨i+1,A',c'⟩ (by simp only;omega) (by simp only;omega) (Le.of (Nat.le_of_ble_eq_true rfl) (Nat.zero_le _) ⟨⟨rfl,rfl⟩,⟨rfl,rfl⟩,⟨rfl,rfl⟩,⟨rfl,rfl⟩,⟨rfl,rfl⟩,trivial⟩ trivial λh s=>?_)⟩
  obtain ⟨h',e,s3⟩:=sub_tail (sepL_pull 2 s)
  refine ⟨h',e,?_⟩
  show sepL [lbH lb (.slice A' (i+1) c'),rowH (.slice A' (i+1) c') (i+1) 84 2 (bcel (l'.take (i+1))),_,_] R h'
  rw [htk]
  exact s3
 ·have g3:i=m:=by simp at h3;omega
  subst g3
  conv=>whnf
  refine ⟨trivial,LoadAt.cell (.slice A i c) rfl rfl (λw hw=>(blk_sat (hw.in_ 0 rfl)).cell 0) ?_⟩
  conv=>whnf
  refine ⟨trivial,CallAt.pure (v:=.bool true) (λR' hR'=>PureR.of_sat λw hs=>?_) ?_⟩
  ·have hc:=row_capB ((hR' w hs).in_ 1 rfl)
   have:=sTRight (R:=R') (n:=i) (c:=c) (by omega) hc (Sl.row λw s=>(hR' w s).in_ 1 rfl)
   simp only at this
   rw [List.take_of_length_le (by omega),decide_eq_true hr] at this
   exact this
  conv=>whnf
  refine ⟨trivial,CallAt.pure (λR' hR'=>sMust) ?_⟩
  conv=>whnf
  refine ⟨trivial,LoadAt.cell (.slice A i c) rfl rfl (λw hw=>(blk_sat (hw.in_ 0 rfl)).cell 0) ?_⟩
  conv=>whnf
  refine ⟨trivial,OpAt.store lb 0 (.slice A i c) _ rfl (λh s=>s) rfl rfl rfl rfl rfl (by simp [Value.cells,Value.oneCell']) (λh r=>blk_put (by show 0+1≤1;omega) r) ?_⟩
  conv=>whnf
  refine ⟨trivial,OpAt.store eb 0 (.int .i64 0) _ rfl (λh s=>sepL_pull 3 s) rfl rfl rfl rfl rfl (by simp [Value.cells,Value.oneCell']) (λh r=>blk_put (by show 0+1≤1;omega) r) ?_⟩
  conv=>whnf
  refine ⟨trivial,⟨[lbH lb (.slice A i c),ebH eb (.int .i64 0),bRow A i c l'],λw ⟨h,h1,s⟩=>?_,⟨rfl,rfl,trivial⟩,⟨A,c,rfl⟩⟩⟩
  obtain ⟨h',e,s3⟩:=sub_tail (sepL_pull 3 s)
  refine ⟨h',h1.mono e,?_⟩
  have e4:bcel (l'.take i)=bcel l':=by rw [List.take_of_length_le (by omega)]
  show sepL [lbH lb (.slice A i c),ebH eb (.int .i64 0),rowH (.slice A i c) i 84 2 (bcel l')] R h'
  rw [← e4]
  exact sepL_pull 1 s3
end Go.Proofs.YtcoefgkjlgngkaaGreatDoor
