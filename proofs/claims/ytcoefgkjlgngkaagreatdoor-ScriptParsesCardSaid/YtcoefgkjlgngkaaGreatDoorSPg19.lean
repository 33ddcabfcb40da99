/-
  Texts of the proofs, one behind the other: ScVa, ScVb.
-/
import Derived.Test.YtcoefgkjlgngkaaGreatDoorSPg12
import Derived.Test.YtcoefgkjlgngkaaGreatDoorSPg18
namespace Go.Proofs.YtcoefgkjlgngkaaGreatDoor
open Go.RowKit
open Sy
set_option linter.unusedVariables false
set_option linter.unusedSimpArgs false
set_option maxRecDepth 100000
set_option maxHeartbeats 4000000
theorem jn_snocN (d:UInt8) {ws:List (List UInt8)} (h:ws≠[]) (p:List UInt8):jn d (ws++[p])=jn d ws++d::p:=by
 cases ws with
 |nil=>exact absurd rfl h
 |cons w ws=>rw [List.cons_append,jn_cons,jn_cons,wds_append,wds_cons,wds_nil,List.append_nil,List.append_assoc]
theorem jn_last (d:UInt8) (ws:List (List UInt8)) (p:List UInt8) (c:UInt8):jn d (ws++[p++[c]])=jn d (ws++[p])++[c]:=by
 by_cases h:ws=[]
 ·subst h
  rw [List.nil_append,List.nil_append,jn_one,jn_one]
 ·rw [jn_snocN d h,jn_snocN d h,List.append_assoc,List.cons_append]
theorem pcs_snoc_eq {d:UInt8} {l:List UInt8} {o:List (List UInt8)} {p:List UInt8} (h:pcs d l=o++[p]):pcs d (l++[d])=o++[p]++[[]]:=by
 obtain ⟨h1,h2,h3⟩:=pcs_spec d l
 rw [h] at h1 h2
 rw [← h1,show jn d (o++[p])++[d]=jn d (o++[p]++[[]]) by rw [jn_snocN d (ws:=o++[p]) (by simp) []]]
 refine pcs_jn (by simp) λq hq=>?_
 rcases List.mem_append.1 hq with hq|hq
 ·exact h2 q hq
 ·simp at hq;subst hq;simp
theorem pcs_snoc_ne {d c:UInt8} (hc:c≠d) {l:List UInt8} {o:List (List UInt8)} {p:List UInt8} (h:pcs d l=o++[p]):pcs d (l++[c])=o++[p++[c]]:=by
 obtain ⟨h1,h2,h3⟩:=pcs_spec d l
 rw [h] at h1 h2
 rw [← h1,← jn_last]
 refine pcs_jn (by simp) λq hq=>?_
 rcases List.mem_append.1 hq with hq|hq
 ·exact h2 q (List.mem_append_left _ hq)
 ·simp only [List.mem_singleton] at hq
  subst hq
  intro hm
  rcases List.mem_append.1 hm with hm|hm
  ·exact h2 p (by simp) hm
  ·simp at hm;exact hc hm.symm
structure SpS where
 i:Nat
 o:List (List UInt8)
 f:Nat
 B:Nat
 c:Nat
theorem sRfSplit {R:HP} (d:UInt8) (s:List UInt8) (hl:s.length≤100000):FnR Tryz.prog R 14 [.string (bs s),.int .u8 (d.toNat:Int)] [] λr hs=>∃ B c,r=.slice (some ⟨B,0,none⟩) (pcs d s).length c∧hs=[rowH (.slice (some ⟨B,0,none⟩) (pcs d s).length c) (pcs d s).length 9 1 (strV (pcs d s))]:=by
 have hbz:(bs s).size=s.length:=by rw [bs_size]
 refine fn_of_run0 false Tryz.func14 rfl hmix rfl λw0=>?_
 conv=>whnf
 refine ⟨trivial,OpAt.lit [] 1 rfl rfl rfl rfl rfl (by decide) rfl rfl rfl (by simp) rfl (by decide) λg=>?_⟩
 conv=>whnf
 refine ⟨trivial,LoopAt.heap (α:=SpS) [0,1] (λa=>[(5,.v (.slice (some ⟨a.B,0,none⟩) a.o.length a.c)),(6,.v (.int .i64 (a.f:Int))),(7,.v (.int .i64 (a.i:Int)))]) (λa=>[rowH (.slice (some ⟨a.B,0,none⟩) a.o.length a.c) a.o.length 9 1 (strV a.o)]) (λa=>a.i≤s.length∧a.f≤a.i∧a.o.length≤a.i∧pcs d (s.take a.i)=a.o++[(s.take a.i).drop a.f]) (λa=>s.length - a.i) ⟨0,[],0,g,0⟩ ⟨Nat.zero_le _,Nat.le_refl _,Nat.le_refl _,rfl⟩ rfl ⟨⟨rfl,rfl⟩,⟨rfl,rfl⟩,⟨rfl,rfl⟩,trivial⟩ ⟨⟨rfl,rfl⟩,⟨rfl,rfl⟩,trivial⟩ trivial (λh s=>sub_same s) ?_⟩
 rintro ⟨i,o,f,B,c⟩ ⟨hi,hf,ho,hp⟩
 simp only at hi hf ho hp
 conv=>whnf
 refine ⟨λh=>?_,λh=>?_⟩
 ·have hi2:i < s.length:=by have:=of_decide_eq_true h;simp only at this;omega
  have hti:s.take (i+1)=s.take i++[s[i]]:=List.take_succ_eq_append_getElem hi2
  have hbyte:byteAt (bs s) i=(s[i].toNat:Int):=by rw [byteAt_bs,List.getElem?_eq_getElem hi2];rfl
  have hdr:(s.take i).drop f++[s[i]]=(s.take (i+1)).drop f:=by rw [hti,List.drop_append_of_le_length (by rw [List.length_take];omega)]
  have hex:(bs s).extract (f:Int).toNat (i:Int).toNat=bs ((s.take i).drop f):=by rw [Int.toNat_natCast,Int.toNat_natCast,bs_extract]
  conv=>whnf
  refine ⟨λh2=>?_,λh2=>?_⟩
  ·have h2:s[i]=d:=by
    have:=of_decide_eq_true h2
    simp only [Int.toNat_natCast] at this
    rw [hbyte] at this
    apply UInt8.toNat_inj.1
    omega
   conv=>whnf
   refine ⟨(by (repeat' apply And.intro)<;>first|exact True.intro|(unfold rng;simp only;omega)|(simp only;omega)|(unfold rng;omega)|omega),OpAt.lit [.string (bs ((s.take i).drop f))] 1 rfl rfl rfl rfl rfl (by decide) rfl rfl ?_ (by simp [Value.cells]) rfl (by decide) λg2=>?_⟩
   ·show _=[Value.string _]
    rw [← hex]
   conv=>whnf
   refine ⟨trivial,OpAt.append1 (.slice (some ⟨B,0,none⟩) o.length c) o.length 1 16 (strV o) [.string (bs ((s.take i).drop f))] (some ⟨g2,0,none⟩) 1 1 _ rfl (λh s=>sepL_pull 1 s) rfl rfl rfl rfl rfl rfl rfl rfl rfl (by decide) (λw hw=>rowH_reads rfl (hw.in_ 0 rfl)) (by simp [Value.oneCell']) (by simp only [maxLen];omega) (by omega) (by omega) λB' c'=>?_⟩
   conv=>whnf
   refine ⟨(by (repeat' apply And.intro)<;>first|exact True.intro|(unfold rng;simp only;omega)|(simp only;omega)|(unfold rng;omega)|omega),Next.heap ⟨i+1,o++[(s.take i).drop f],i+1,B',c'⟩ ⟨hi2,Nat.le_refl _,by simp;omega,?_⟩ (by simp only;omega) ⟨⟨by simp only [List.length_append,List.length_cons,List.length_nil];rfl,rfl⟩,⟨rfl,rfl⟩,⟨rfl,rfl⟩,trivial⟩ ⟨⟨rfl,rfl⟩,⟨rfl,rfl⟩,trivial⟩ trivial rfl rfl λh s'=>?_⟩
   ·simp only
    rw [List.drop_of_length_le (show (s.take (i+1)).length≤i+1 by rw [List.length_take];omega),hti,h2,pcs_snoc_eq hp]
   ·obtain ⟨h',e,s2⟩:=sub_drop1 s'
    refine ⟨h',e,?_⟩
    simp only [List.length_append,List.length_cons,List.length_nil,strV,List.map_append,List.map_cons,List.map_nil]
    exact s2
  ·have h2:s[i]≠d:=λe=>by
    have:=of_decide_eq_false h2
    simp only [Int.toNat_natCast] at this
    rw [hbyte,e] at this
    exact this rfl
   conv=>whnf
   refine ⟨(by (repeat' apply And.intro)<;>first|exact True.intro|(unfold rng;simp only;omega)|(simp only;omega)|(unfold rng;omega)|omega),Next.heap ⟨i+1,o,f,B,c⟩ ⟨hi2,by simp only;omega,by simp only;omega,?_⟩ (by simp only;omega) ⟨⟨rfl,rfl⟩,⟨rfl,rfl⟩,⟨rfl,rfl⟩,trivial⟩ ⟨⟨rfl,rfl⟩,⟨rfl,rfl⟩,trivial⟩ trivial rfl rfl λh s'=>sub_same s'⟩
   simp only
   rw [← hdr,hti,pcs_snoc_ne h2 hp]
 ·have hi3:i=s.length:=by have:=of_decide_eq_false h;simp only at this;omega
  subst hi3
  rw [List.take_length] at hp
  have hex:(bs s).extract (f:Int).toNat (((bs s).size:Int)).toNat=bs (s.drop f):=by rw [Int.toNat_natCast,Int.toNat_natCast,bs_extract,bs_size,List.take_length]
  conv=>whnf
  refine ⟨(by (repeat' apply And.intro)<;>first|exact True.intro|(unfold rng;simp only;omega)|(simp only;omega)|(unfold rng;omega)|omega),OpAt.lit [.string (bs (s.drop f))] 1 rfl rfl rfl rfl rfl (by decide) rfl rfl ?_ (by simp [Value.cells]) rfl (by decide) λg2=>?_⟩
  ·show _=[Value.string _]
   rw [← hex]
  conv=>whnf
  refine ⟨trivial,OpAt.append1 (.slice (some ⟨B,0,none⟩) o.length c) o.length 1 16 (strV o) [.string (bs (s.drop f))] (some ⟨g2,0,none⟩) 1 1 _ rfl (λh s=>sepL_pull 1 s) rfl rfl rfl rfl rfl rfl rfl rfl rfl (by decide) (λw hw=>rowH_reads rfl (hw.in_ 0 rfl)) (by simp [Value.oneCell']) (by simp only [maxLen];omega) (by omega) (by omega) λB' c'=>?_⟩
  conv=>whnf
  rw [hp]
  refine ⟨trivial,.mk [rowH (.slice (some ⟨B',0,none⟩) (o.length+1) c') (o.length+1) 9 1 (strV o++[.string (bs (s.drop f))])] (λw ⟨h,hs,s'⟩=>?_) ⟨B',c',?_,?_⟩⟩
  ·obtain ⟨h',e,s2⟩:=sub_drop1 s'
   exact ⟨h',hs.mono e,s2⟩
  ·simp only [List.length_append,List.length_cons,List.length_nil];rfl
  ·simp only [List.length_append,List.length_cons,List.length_nil,strV,List.map_append,List.map_cons,List.map_nil]
def numsOk (ws:List (List UInt8)):Bool:=ws.all λp=>decide ((read p).2=0)
abbrev numsV (ws:List (List UInt8)):List Int:=ws.map λp=>(read p).1
theorem sRfNums {R:HP} {A:Option Addr} {n c:Nat} (ws:List (List UInt8)) (hl:ws.length=n) (hn:n≤100001) (hw:∀ p∈ws,p.length≤1048576) (ha:Sl R A n 1 (strV ws)):FnR Tryz.prog R 16 [.slice A n c] [] λr hs=>(numsOk ws=false∧r=.tuple #[.slice none 0 0,.bool false]∧hs=[])∨(numsOk ws=true∧∃ B cb,r=.tuple #[.slice (some ⟨B,0,none⟩) n cb,.bool true]∧hs=[rowH (.slice (some ⟨B,0,none⟩) n cb) n 2 1 ((numsV ws).flatMap numL)]):=by
 refine FnR.of_sat λwS hS=>?_
 obtain ⟨_,sa⟩:=ha.spot (by omega) (sat_base hS)
 refine fn_of_run0 false Tryz.func16 rfl hmix rfl λw0=>?_
 conv=>whnf
 refine ⟨trivial,OpAt.lit [] 1 rfl rfl rfl rfl rfl (by decide) rfl rfl rfl (by simp) rfl (by decide) λg=>?_⟩
 conv=>whnf
 refine ⟨trivial,LoopAt.heap (α:=Nat × Nat × Nat) [0] (λa=>[(4,.v (.slice (some ⟨a.2.1,0,none⟩) a.1 a.2.2)),(5,.v (.int .i64 (a.1:Int)))]) (λa=>[rowH (.slice (some ⟨a.2.1,0,none⟩) a.1 a.2.2) a.1 2 1 ((numsV (ws.take a.1)).flatMap numL)]) (λa=>a.1≤n∧numsOk (ws.take a.1)=true) (λa=>n - a.1) (0,g,0) ⟨Nat.zero_le _,rfl⟩ rfl ⟨⟨rfl,rfl⟩,⟨rfl,rfl⟩,trivial⟩ ⟨⟨rfl,rfl⟩,trivial⟩ trivial (λh s=>sub_same s) ?_⟩
 rintro ⟨i,B,cb⟩ ⟨hi,hok⟩
 simp only at hi hok
 conv=>whnf
 refine ⟨λh=>?_,λh=>?_⟩
 ·have hi2:i < n:=by simpa using h
  rcases sa with sa|⟨b,off,rfl,sa⟩
  ·omega
  have hil:i < ws.length:=by omega
  have f1:(strV ws)[i]? = some (.string (bs ws[i])):=by simp [hil]
  have f2:(numsV (ws.take (i+1))).flatMap numL=(numsV (ws.take i)).flatMap numL++[.int .i64 (read ws[i]).1]:=by unfold numsV;rw [List.take_succ_eq_append_getElem hil,List.map_append,List.flatMap_append];rfl
  have f3:numsOk (ws.take (i+1))=decide ((read ws[i]).2=0):=by rw [List.take_succ_eq_append_getElem hil];unfold numsOk at hok ⊢;rw [List.all_append,hok];simp
  have f4:numsOk (ws.take (i+1))=false→numsOk ws=false:=λh=>by
   unfold numsOk at h ⊢
   rw [← List.take_append_drop (i+1) ws,List.all_append,h,Bool.false_and]
  have hpl:=hw _ (List.getElem_mem hil)
  generalize ws[i]=p at *
  have hrd:=λR'=>sRefRead (R:=R') p hpl
  conv=>whnf
  refine ⟨⟨trivial,by simp only;omega⟩,LoadAt.cell (.string (bs p)) rfl rfl (λw hw=>?_) ?_⟩
  ·simp only [Int.toNat_natCast,Nat.mul_one]
   exact sa w (sat_base hw) _ _ f1
  conv=>whnf
  refine ⟨trivial,CallAt.pure (λR' hR'=>hrd R') ?_⟩
  conv=>whnf
  refine ⟨λh2=>?_,λh2=>?_⟩
  ·have h2:(read p).2≠0:=by simpa using h2
   conv=>whnf
   refine ⟨trivial,.mk [] (λw s=>sat_base s) (.inl ⟨f4 (by rw [f3];exact decide_eq_false h2),rfl,rfl⟩)⟩
  ·have h2:(read p).2=0:=by simpa using h2
   generalize (numsV (ws.take i)).flatMap numL=us at *
   generalize (read p).1=x at *
   conv=>whnf
   refine ⟨trivial,OpAt.lit [.int .i64 x] 1 rfl rfl rfl rfl rfl (by decide) rfl rfl rfl (by simp [Value.cells]) rfl (by decide) λg2=>?_⟩
   conv=>whnf
   refine ⟨trivial,OpAt.append1 (.slice (some ⟨B,0,none⟩) i cb) i 1 8 us [.int .i64 x] (some ⟨g2,0,none⟩) 1 1 _ rfl (λh s=>sepL_pull 1 s) rfl rfl rfl rfl rfl rfl rfl rfl rfl (by decide) (λw hw=>rowH_reads rfl (hw.in_ 0 rfl)) (by simp [Value.oneCell']) (by simp only [maxLen];omega) (by omega) (by omega) λB' c'=>?_⟩
   conv=>whnf
   refine ⟨(by (repeat' apply And.intro)<;>first|exact True.intro|(unfold rng;simp only;omega)|(simp only;omega)|(unfold rng;omega)|omega),Next.heap (i+1,B',c') ⟨by simp only;omega,by simp only;rw [f3];exact decide_eq_true h2⟩ (by simp only;omega) ⟨⟨rfl,rfl⟩,⟨rfl,rfl⟩,trivial⟩ ⟨⟨rfl,rfl⟩,trivial⟩ trivial rfl rfl λh s'=>?_⟩
   obtain ⟨h',e,s2⟩:=sub_drop1 s'
   refine ⟨h',e,?_⟩
   show sepL [rowH (.slice (some ⟨B',0,none⟩) (i+1) c') (i+1) 2 1 ((numsV (ws.take (i+1))).flatMap numL)] R h'
   rw [f2]
   exact s2
 ·have hi3:i=n:=by simp at h;omega
  subst hi3
  rw [List.take_of_length_le (by omega)] at hok
  conv=>whnf
  refine ⟨trivial,.mk [rowH (.slice (some ⟨B,0,none⟩) i cb) i 2 1 ((numsV (ws.take i)).flatMap numL)] (λw s=>s) (.inr ⟨hok,B,cb,rfl,?_⟩)⟩
  rw [List.take_of_length_le (by omega)]
def dgt (c:UInt8):Nat:=if 97≤c.toNat∧c.toNat≤102 then c.toNat - 87 else if 48≤c.toNat∧c.toNat≤57 then c.toNat - 48 else 0
theorem dgt_lt (c:UInt8):dgt c < 16:=by
 unfold dgt
 repeat' split
 all_goals omega
theorem dgt_hexd:∀ d:Fin 16,dgt (hexd d.val)=d.val:=by decide
theorem sRfDigit {R:HP} (c:UInt8):PureR Tryz.prog R 30 [.int .u8 (c.toNat:Int)] (.int .u8 (dgt c:Int)):=by
 have hc:=c.toNat_lt
 unfold dgt
 generalize c.toNat=n at *
 by_cases h1:97≤n∧n≤102
 ·rw [if_pos h1]
  refine fn_of_run0 false Tryz.func30 rfl hmix rfl λw0=>?_
  conv=>whnf
  refine ⟨λ_=>?_,λg=>absurd (show ¬ (97:Int)≤n by simpa using g) (by omega)⟩
  conv=>whnf
  refine iff_t (decide_eq_true (by omega)) ?_
  conv=>whnf
  refine ⟨(by (repeat' apply And.intro)<;>first|exact True.intro|(unfold rng;omega)|omega),fin_pure rfl ?_⟩
  show Value.int .u8 _=_
  congr 1
  simp [IntKind.wrap,IntKind.bits,IntKind.signed]
  omega
 ·rw [if_neg h1]
  by_cases h2:48≤n∧n≤57
  ·rw [if_pos h2]
   refine fn_of_run0 false Tryz.func30 rfl hmix rfl λw0=>?_
   conv=>whnf
   refine ⟨λg=>absurd (of_decide_eq_true g) (by omega),λ_=>?_⟩
   conv=>whnf
   refine ⟨λ_=>?_,λg=>absurd (show ¬ (48:Int)≤n by simpa using g) (by omega)⟩
   conv=>whnf
   refine iff_t (decide_eq_true (by omega)) ?_
   conv=>whnf
   refine ⟨(by (repeat' apply And.intro)<;>first|exact True.intro|(unfold rng;omega)|omega),fin_pure rfl ?_⟩
   show Value.int .u8 _=_
   congr 1
   simp [IntKind.wrap,IntKind.bits,IntKind.signed]
   omega
  ·rw [if_neg h2]
   refine fn_of_run0 false Tryz.func30 rfl hmix rfl λw0=>?_
   conv=>whnf
   refine ⟨λg=>?_,λg=>?_⟩
   ·have g:=of_decide_eq_true g
    conv=>whnf
    refine iff_f (decide_eq_false (by omega)) ?_
    conv=>whnf
    refine ⟨λg2=>?_,λg2=>?_⟩
    ·have g2:=of_decide_eq_true g2
     conv=>whnf
     refine iff_f (decide_eq_false (by omega)) ?_
     conv=>whnf
     exact ⟨trivial,fin_pure rfl rfl⟩
    ·conv=>whnf
     exact ⟨trivial,fin_pure rfl rfl⟩
   ·conv=>whnf
    refine ⟨λg2=>?_,λg2=>?_⟩
    ·have g2:=of_decide_eq_true g2
     conv=>whnf
     refine iff_f (decide_eq_false (by omega)) ?_
     conv=>whnf
     exact ⟨trivial,fin_pure rfl rfl⟩
    ·conv=>whnf
     exact ⟨trivial,fin_pure rfl rfl⟩
def unhexK (z:List UInt8) (k:Nat):List UInt8:=(List.range k).map λj=>u8 (16 * dgt (z.getD (2 * j) 0)+dgt (z.getD (2 * j+1) 0))
def unhexG (z:List UInt8):List UInt8:=unhexK z (z.length / 2)
theorem unhexK_succ (z:List UInt8) (k:Nat):unhexK z (k+1)=unhexK z k++[u8 (16 * dgt (z.getD (2 * k) 0)+dgt (z.getD (2 * k+1) 0))]:=by
 unfold unhexK
 rw [List.range_succ,List.map_append]
 rfl
theorem unhexK_len (z:List UInt8) (k:Nat):(unhexK z k).length=k:=by simp [unhexK]
theorem unhex_hexT (b:List UInt8):unhexG (hexT b)=b:=by
 unfold unhexG
 rw [hexT_len,show 2 * b.length / 2=b.length by omega]
 apply List.ext_getElem
 ·rw [unhexK_len]
 ·intro i h1 h2
  have e1:=hexT_at (b:=b) (p:=2 * i) (by omega)
  have e2:=hexT_at (b:=b) (p:=2 * i+1) (by omega)
  rw [if_pos (by omega),show 2 * i / 2=i by omega,List.getElem?_eq_getElem h2] at e1
  rw [if_neg (by omega),show (2 * i+1) / 2=i by omega,List.getElem?_eq_getElem h2] at e2
  have hz:=(b[i]).toNat_lt
  have e3:(unhexK (hexT b) b.length)[i]=u8 (16 * dgt ((hexT b).getD (2 * i) 0)+dgt ((hexT b).getD (2 * i+1) 0)):=by simp [unhexK]
  rw [e3,List.getD_eq_getElem?_getD,List.getD_eq_getElem?_getD,e1,e2]
  simp only [Option.getD_some]
  have d1:=dgt_hexd ⟨b[i].toNat / 16,by omega⟩
  have d2:=dgt_hexd ⟨b[i].toNat % 16,by omega⟩
  simp only at d1 d2
  rw [d1,d2,show 16 * (b[i].toNat / 16)+b[i].toNat % 16=b[i].toNat by omega]
  exact u8_self _
theorem sRfUnhex {R:HP} (z:List UInt8) (hl:z.length≤100000):FnR Tryz.prog R 17 [.string (bs z)] [] λr hs=>∃ B c,r=.slice (some ⟨B,0,none⟩) (z.length / 2) c∧hs=[rowH (.slice (some ⟨B,0,none⟩) (z.length / 2) c) (z.length / 2) 5 1 (byV (unhexG z))]:=by
 have hbz:(bs z).size=z.length:=by rw [bs_size]
 refine fn_of_run0 false Tryz.func17 rfl hmix rfl λw0=>?_
 conv=>whnf
 refine ⟨trivial,OpAt.lit [] 1 rfl rfl rfl rfl rfl (by decide) rfl rfl rfl (by simp) rfl (by decide) λg=>?_⟩
 conv=>whnf
 refine ⟨trivial,LoopAt.heap (α:=Nat × Nat × Nat) [0] (λa=>[(3,.v (.slice (some ⟨a.2.1,0,none⟩) a.1 a.2.2)),(4,.v (.int .i64 ((2 * a.1:Nat):Int)))]) (λa=>[rowH (.slice (some ⟨a.2.1,0,none⟩) a.1 a.2.2) a.1 5 1 (byV (unhexK z a.1))]) (λa=>a.1≤z.length / 2) (λa=>z.length / 2 - a.1) (0,g,0) (Nat.zero_le _) rfl ⟨⟨rfl,rfl⟩,⟨rfl,rfl⟩,trivial⟩ ⟨⟨rfl,rfl⟩,trivial⟩ trivial (λh s=>sub_same s) ?_⟩
 rintro ⟨i,B,cb⟩ hi
 simp only at hi
 conv=>whnf
 refine ⟨λh=>?_,λh=>?_⟩
 ·have hi2:i < z.length / 2:=by have:=of_decide_eq_true h;simp only at this;omega
  have ha:∀ k (hk:k < z.length),byteAt (bs z) k=((z.getD k 0).toNat:Int):=λk hk=>by rw [byteAt_bs,List.getD_eq_getElem?_getD,List.getElem?_eq_getElem hk]
  have h1:=ha (2 * i) (by omega)
  have h2:=ha (2 * i+1) (by omega)
  have hnx:=unhexK_succ z i
  have g1:=dgt_lt (z.getD (2 * i) 0)
  have g2:=dgt_lt (z.getD (2 * i+1) 0)
  have e0:(((2 * i:Nat):Int)).toNat=2 * i:=Int.toNat_natCast _
  have e1:(((2 * i:Nat):Int)+1).toNat=2 * i+1:=by omega
  generalize z.getD (2 * i) 0=x at *
  generalize z.getD (2 * i+1) 0=y at *
  generalize unhexK z i=us at *
  conv=>whnf
  refine ⟨(by (repeat' apply And.intro)<;>first|exact True.intro|(unfold rng;simp only;omega)|(simp only;omega)|(unfold rng;omega)|omega),RegAt.groups [([.T 0,.T 1,.T 2,.T 3,.T 6,.T 7,.T 8,.T 9,.H 4,.T 5,.H 10,.T 11,.H 12],13),([.H 13],14),([.T 14],15)] hmix (by kernel_rfl) ?_⟩
  conv=>whnf
  refine ⟨(by (repeat' apply And.intro)<;>first|exact True.intro|(unfold rng;simp only;omega)|(simp only;omega)|(unfold rng;omega)|omega),CallAt.pure (v:=.int .u8 (dgt x:Int)) (λR' hR'=>by have:=sRfDigit (R:=R') x;rw [← h1] at this;exact this) ?_⟩
  conv=>whnf
  refine ⟨trivial,⟨⟨rfl,rfl⟩,λh s=>sub_same s⟩,?_⟩
  conv=>whnf
  refine ⟨(by (repeat' apply And.intro)<;>first|exact True.intro|(unfold rng;simp only;omega)|(simp only;omega)|(unfold rng;omega)|omega),CallAt.pure (v:=.int .u8 (dgt y:Int)) (λR' hR'=>by have:=sRfDigit (R:=R') y;rw [← h2] at this;exact this) ?_⟩
  conv=>whnf
  refine ⟨trivial,⟨⟨rfl,rfl⟩,λh s=>sub_same s⟩,?_⟩
  conv=>whnf
  have hu:(((u8 (16 * dgt x+dgt y)).toNat:Nat):Int)=16 * (dgt x:Int)+(dgt y:Int):=by rw [u8_nat (by omega)];omega
  refine ⟨trivial,OpAt.lit [.int .u8 ((u8 (16 * dgt x+dgt y)).toNat:Int)] 1 rfl rfl rfl rfl rfl (by decide) rfl rfl ?_ (by simp [Value.cells]) rfl (by decide) λg3=>?_⟩
  ·rw [hu]
   show [Value.int .u8 _]=[Value.int .u8 (IntKind.u8.wrap (IntKind.u8.wrap (16 * (dgt x:Int))+(dgt y:Int)))]
   congr 2
   simp [IntKind.wrap,IntKind.bits,IntKind.signed]
   omega
  conv=>whnf
  refine ⟨trivial,⟨⟨rfl,rfl⟩,λh s=>sub_tail s⟩,?_⟩
  conv=>whnf
  refine ⟨trivial,OpAt.append1 (.slice (some ⟨B,0,none⟩) i cb) i 1 1 (byV us) [.int .u8 ((u8 (16 * dgt x+dgt y)).toNat:Int)] (some ⟨g3,0,none⟩) 1 1 _ rfl (λh s=>sepL_pull 1 s) rfl rfl rfl rfl rfl rfl rfl rfl rfl (by decide) (λw hw=>rowH_reads rfl (hw.in_ 0 rfl)) (by simp [Value.oneCell']) (by simp only [maxLen];omega) (by omega) (by omega) λB' cb'=>?_⟩
  conv=>whnf
  refine ⟨trivial,?_⟩
  conv=>whnf
  refine ⟨(by (repeat' apply And.intro)<;>first|exact True.intro|(unfold rng;simp only;omega)|(simp only;omega)|(unfold rng;omega)|omega),Next.heap (i+1,B',cb') (by simp only;omega) (by simp only;omega) ⟨⟨rfl,rfl⟩,⟨congrArg (λv:Int=>some (SV.v (.int .i64 v))) (by omega),rfl⟩,trivial⟩ ⟨⟨rfl,rfl⟩,trivial⟩ trivial rfl rfl λh s'=>?_⟩
  obtain ⟨h',e,s2⟩:=sub_drop1 s'
  refine ⟨h',e,?_⟩
  show sepL [rowH (.slice (some ⟨B',0,none⟩) (i+1) cb') (i+1) 5 1 (byV (unhexK z (i+1)))] R h'
  rw [hnx,show byV (us++[u8 (16 * dgt x+dgt y)])=byV us++[.int .u8 ((u8 (16 * dgt x+dgt y)).toNat:Int)] by unfold byV;rw [List.map_append];rfl]
  exact s2
 ·have hi3:i=z.length / 2:=by have:=of_decide_eq_false h;simp only at this;omega
  subst hi3
  conv=>whnf
  refine ⟨(by (repeat' apply And.intro)<;>first|exact True.intro|(unfold rng;simp only;omega)|(simp only;omega)|(unfold rng;omega)|omega),.mk _ (λw s=>s) ⟨B,cb,rfl,rfl⟩⟩
end Go.Proofs.YtcoefgkjlgngkaaGreatDoor
