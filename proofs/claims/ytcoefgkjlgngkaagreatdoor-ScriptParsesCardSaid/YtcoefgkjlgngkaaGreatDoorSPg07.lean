/-
  Texts of the proofs, one behind the other: ScR, ScL.
-/
import Derived.Test.YtcoefgkjlgngkaaGreatDoorSPg06
import Derived.Test.YtcoefgkjlgngkaaGreatDoorSPg02
namespace Go.Proofs.YtcoefgkjlgngkaaGreatDoor
open Go.RowKit
open Sy
set_option linter.unusedVariables false
set_option linter.unusedSimpArgs false
set_option maxRecDepth 100000
set_option maxHeartbeats 4000000
abbrev w1 (n:Int):List UInt8:=wds 32 [Lib.itoa n]
theorem w1_len {n:Int} (h:I64 n):(w1 n).length≤22:=by
 have:=itoa_len20 h
 simp [wds];omega
theorem sRfNumber {R:HP} (n:Int) (h:I64 n):PureR Tryz.prog R 34 [.int .i64 n] (.string (bs (w1 n))):=by
 have hl:=itoa_len20 h
 have hpr:=λR'=>sRefPrint (R:=R') n h.1 h.2
 have e:w1 n=[32]++Lib.itoa n:=by simp [wds]
 rw [e]
 generalize Lib.itoa n=s at *
 refine fn_of_run0 false Tryz.func34 rfl hmix rfl λw0=>?_
 conv=>whnf
 refine ⟨trivial,CallAt.pure (λR' hR'=>hpr R') ?_⟩
 conv=>whnf
 refine ⟨?_,fin_pure rfl ?_⟩
 ·repeat' apply And.intro
  all_goals first|exact True.intro|(simp only [show (⟨#[32]⟩:ByteArray)=bs [32] from rfl,show (⟨#[44]⟩:ByteArray)=bs [44] from rfl,bs_append,bs_size,List.length_append,List.length_cons,List.length_nil];omega)
 ·simp only [show (⟨#[32]⟩:ByteArray)=bs [32] from rfl,bs_append];rfl
theorem sRfCell {R:HP} (x y:Int) (hx:I64 x) (hy:I64 y):PureR Tryz.prog R 35 [.agg #[.int .i64 x,.int .i64 y]] (.string (bs (wds 32 [Lib.itoa x,Lib.itoa y]))):=by
 have lx:=w1_len hx
 have ly:=w1_len hy
 have px:=λR'=>sRfNumber (R:=R') x hx
 have py:=λR'=>sRfNumber (R:=R') y hy
 have e:wds 32 [Lib.itoa x,Lib.itoa y]=w1 x++w1 y:=by simp [wds]
 rw [e]
 generalize w1 x=a at *
 generalize w1 y=b at *
 refine fn_of_run0 false Tryz.func35 rfl hmix rfl λw0=>?_
 conv=>whnf
 refine ⟨trivial,RegAt.quiet hmix (by kernel_rfl) ?_⟩
 conv=>whnf
 refine ⟨trivial,CallQ.pure (λR' hR'=>px R') ?_⟩
 conv=>whnf
 refine ⟨trivial,CallQ.pure (λR' hR'=>py R') ?_⟩
 conv=>whnf
 refine ⟨?_,?_⟩
 ·repeat' apply And.intro
  all_goals first|exact True.intro|(simp only [show (⟨#[32]⟩:ByteArray)=bs [32] from rfl,show (⟨#[44]⟩:ByteArray)=bs [44] from rfl,bs_append,bs_size,List.length_append,List.length_cons,List.length_nil];omega)
 conv=>whnf
 exact ⟨trivial,fin_drop (by simp only [bs_append];rfl)⟩
theorem sRfRect {R:HP} (x y z u:Int) (hx:I64 x) (hy:I64 y) (hz:I64 z) (hu:I64 u):PureR Tryz.prog R 36 [.agg #[.int .i64 x,.int .i64 y,.int .i64 z,.int .i64 u]] (.string (bs (wds 32 [Lib.itoa x,Lib.itoa y,Lib.itoa z,Lib.itoa u]))):=by
 have lx:=w1_len hx
 have ly:=w1_len hy
 have lz:=w1_len hz
 have lu:=w1_len hu
 have px:=λR'=>sRfNumber (R:=R') x hx
 have py:=λR'=>sRfNumber (R:=R') y hy
 have pz:=λR'=>sRfNumber (R:=R') z hz
 have pu:=λR'=>sRfNumber (R:=R') u hu
 have e:wds 32 [Lib.itoa x,Lib.itoa y,Lib.itoa z,Lib.itoa u]=w1 x++w1 y++w1 z++w1 u:=by simp [wds]
 rw [e]
 generalize w1 x=a at *
 generalize w1 y=b at *
 generalize w1 z=c at *
 generalize w1 u=d at *
 refine fn_of_run0 false Tryz.func36 rfl hmix rfl λw0=>?_
 conv=>whnf
 refine ⟨trivial,RegAt.quiet hmix (by kernel_rfl) ?_⟩
 conv=>whnf
 refine ⟨trivial,CallQ.pure (λR' hR'=>px R') ?_⟩
 conv=>whnf
 refine ⟨trivial,CallQ.pure (λR' hR'=>py R') ?_⟩
 conv=>whnf
 refine ⟨?_,CallQ.pure (λR' hR'=>pz R') ?_⟩
 ·repeat' apply And.intro
  all_goals first|exact True.intro|(simp only [show (⟨#[32]⟩:ByteArray)=bs [32] from rfl,show (⟨#[44]⟩:ByteArray)=bs [44] from rfl,bs_append,bs_size,List.length_append,List.length_cons,List.length_nil];omega)
 conv=>whnf
 refine ⟨?_,CallQ.pure (λR' hR'=>pu R') ?_⟩
 ·repeat' apply And.intro
  all_goals first|exact True.intro|(simp only [show (⟨#[32]⟩:ByteArray)=bs [32] from rfl,show (⟨#[44]⟩:ByteArray)=bs [44] from rfl,bs_append,bs_size,List.length_append,List.length_cons,List.length_nil];omega)
 conv=>whnf
 refine ⟨?_,?_⟩
 ·repeat' apply And.intro
  all_goals first|exact True.intro|(simp only [show (⟨#[32]⟩:ByteArray)=bs [32] from rfl,show (⟨#[44]⟩:ByteArray)=bs [44] from rfl,bs_append,bs_size,List.length_append,List.length_cons,List.length_nil];omega)
 conv=>whnf
 exact ⟨trivial,fin_drop (by simp only [bs_append];rfl)⟩
theorem jn_snoc {c:UInt8} {ws:List (List UInt8)} (h:ws≠[]) (w:List UInt8):jn c (ws++[w])=jn c ws++[c]++w:=by
 cases ws with
 |nil=>exact absurd rfl h
 |cons p ps=>simp [jn_cons,wds]
theorem jn_next {l:List Int} {i:Nat} (hi:i < l.length):jn 44 ((l.take (i+1)).map Lib.itoa)=(if 0 < i then jn 44 ((l.take i).map Lib.itoa)++[44] else jn 44 ((l.take i).map Lib.itoa))++Lib.itoa l[i]:=by
 rw [List.take_succ_eq_append_getElem hi,List.map_append]
 by_cases c:0 < i
 ·rw [if_pos c]
  exact jn_snoc (by intro e;have:=congrArg List.length e;rw [List.length_map,List.length_take,List.length_nil] at this;omega) _
 ·obtain rfl:i=0:=by omega
  rw [if_neg c]
  simp [jn_nil,jn_one]
theorem sRfList {R:HP} {A:Option Addr} {n c:Nat} (l:List Int) (hl:l.length=n) (hn:n≤1000000) (hi:∀ x∈l,I64 x) (ha:Sl R A n 1 (l.flatMap numL)):PureR Tryz.prog R 37 [.slice A n c] (.string (bs (wds 32 [listW l]))):=by
 refine PureR.of_sat λwS hS=>?_
 obtain ⟨_,sa⟩:=ha.spot (by omega) hS
 have f0:∀ i (h:i < l.length),(l.flatMap numL)[i]? = some (.int .i64 l[i]):=λi h=>by
  have:=flat_at (f:=numL) (s:=1) (λ_=>rfl) (l:=l) (i:=i) (j:=0) h (by omega)
  rwa [Nat.mul_one,Nat.add_zero] at this
 have hlen:∀ i,(jn 44 ((l.take i).map Lib.itoa)).length≤22000000:=λi=>by
  have:=jn_len (c:=44) (ws:=(l.take i).map Lib.itoa) (m:=21) λw hw=>by
   obtain ⟨z,hz,rfl⟩:=List.mem_map.1 hw
   exact itoa_len20 (hi z (List.mem_of_mem_take hz))
  have h2:((l.take i).map Lib.itoa).length≤1000000:=by simp;omega
  omega
 refine fn_of_run0 false Tryz.func37 rfl hmix rfl λw0=>?_
 conv=>whnf
 refine ⟨λh=>?_,λh=>?_⟩
 ·have h0:n=0:=by have:=of_decide_eq_true h;omega
  subst h0
  obtain rfl:l=[]:=List.length_eq_zero_iff.1 hl
  conv=>whnf
  exact ⟨trivial,fin_pure rfl rfl⟩
 have hne:l≠[]:=by
  rintro rfl
  have:=of_decide_eq_false h
  simp at hl
  omega
 conv=>whnf
 refine ⟨trivial,LoopAt.of (α:=Nat) [0] (λi=>[(3,.v (.string (bs (jn 44 ((l.take i).map Lib.itoa))))),(4,.v (.int .i64 (i:Int)))]) (λ_=>[]) (λ_=>[]) (λi=>i≤n) (λi=>n - i) 0 (Nat.zero_le _)
  (Le.of (Nat.le_of_ble_eq_true rfl) (Nat.zero_le _) ⟨⟨rfl,rfl⟩,⟨rfl,rfl⟩,⟨rfl,rfl⟩,trivial⟩ trivial λh s=>sub_same s) ?_⟩
 intro i hi'
 conv=>whnf
 refine ⟨λh3=>?_,λh3=>?_⟩
 ·have g3:i < n:=by simpa using h3
  rcases sa with sa|⟨ab,off,rfl,sa⟩
  ·omega
  have hil:i < l.length:=by omega
  have f1:=f0 i hil
  have hnx:=jn_next hil
  have hli:=hlen i
  have hz:=hi _ (List.getElem_mem hil)
  have hzl:=itoa_len20 hz
  have hpr:=λR'=>sRefPrint (R:=R') l[i] hz.1 hz.2
  generalize l[i]=z at *
  generalize jn 44 ((l.take i).map Lib.itoa)=q at *
  conv=>whnf
  refine ⟨λh4=>?_,λh4=>?_⟩
  ·have h4:0 < i:=by simpa using h4
   rw [if_pos h4] at hnx
   conv=>whnf
   rw [show bs q++(⟨#[44]⟩:ByteArray)=bs (q++[44]) from bs_append q [44]]
   conv=>whnf
   refine ⟨⟨⟨trivial,by rw [bs_size];show _+1≤_;omega⟩,by omega⟩,LoadAt.cell (.int .i64 z) rfl rfl (λw hw=>?_) ?_⟩
   ·simp only [Int.toNat_natCast,Nat.mul_one]
    exact sa w hw _ _ f1
   conv=>whnf
   refine ⟨trivial,CallAt.pure (λR' hR'=>hpr R') ?_⟩
   conv=>whnf
   rw [bs_append,← hnx]
   refine ⟨?_,.mk (i+1) (by omega) (by omega) (Le.of (Nat.le_of_ble_eq_true rfl) (Nat.zero_le _) ⟨⟨rfl,rfl⟩,⟨rfl,rfl⟩,⟨rfl,rfl⟩,trivial⟩ trivial λh s=>sub_nil s)⟩
   refine ⟨⟨trivial,?_⟩,by unfold rng;omega⟩
   simp only [bs_size,List.length_append,List.length_cons,List.length_nil]
   omega
  ·have h4:¬ 0 < i:=by simpa using h4
   rw [if_neg h4] at hnx
   conv=>whnf
   refine ⟨⟨trivial,by omega⟩,LoadAt.cell (.int .i64 z) rfl rfl (λw hw=>?_) ?_⟩
   ·simp only [Int.toNat_natCast,Nat.mul_one]
    exact sa w hw _ _ f1
   conv=>whnf
   refine ⟨trivial,CallAt.pure (λR' hR'=>hpr R') ?_⟩
   conv=>whnf
   rw [bs_append,← hnx]
   refine ⟨?_,.mk (i+1) (by omega) (by omega) (Le.of (Nat.le_of_ble_eq_true rfl) (Nat.zero_le _) ⟨⟨rfl,rfl⟩,⟨rfl,rfl⟩,⟨rfl,rfl⟩,trivial⟩ trivial λh s=>sub_nil s)⟩
   refine ⟨⟨trivial,?_⟩,by unfold rng;omega⟩
   simp only [bs_size,List.length_append,List.length_cons,List.length_nil]
   omega
 ·have g3:i=n:=by simp at h3;omega
  subst g3
  have e:l.take i=l:=List.take_of_length_le (by omega)
  have e2:wds 32 [listW l]=[32]++jn 44 ((l.take i).map Lib.itoa):=by rw [e];unfold listW;rw [if_neg hne];simp [wds]
  have hli:=hlen i
  rw [e2]
  generalize jn 44 ((l.take i).map Lib.itoa)=q at *
  conv=>whnf
  refine ⟨?_,fin_pure rfl ?_⟩
  ·repeat' apply And.intro
   all_goals first|exact True.intro|(simp only [show (⟨#[32]⟩:ByteArray)=bs [32] from rfl,show (⟨#[44]⟩:ByteArray)=bs [44] from rfl,bs_append,bs_size,List.length_append,List.length_cons,List.length_nil];omega)
  ·simp only [show (⟨#[32]⟩:ByteArray)=bs [32] from rfl,bs_append];rfl
abbrev strV (ws:List (List UInt8)):List Value:=ws.map λz=>.string (bs z)
def lnP (lb:Nat) (ws:List (List UInt8)) (x:Option Addr × Nat):List HP:=[blkH lb 63 #[.slice x.1 ws.length x.2,.bool false],rowH (.slice x.1 ws.length x.2) ws.length 9 1 (strV ws)]
def lnH (lb:Nat) (ws:List (List UInt8)):HP:=boxH (lnP lb ws)
theorem blk_cell {b:Nat} {t:TypeId} {cs:Array Value} {w:World} {k:Nat} {v:Value} (s:Sat (blkH b t cs) w) (h:cs[k]? = some v):w.cell? ⟨b,k,none⟩=some v:=((blk_sat s).cell k).trans h
theorem putL_same {cs:Array Value} {k:Nat} {v:Value} (h:cs[k]? = some v):(putL cs.toList k [v]).toArray=cs:=by
 obtain ⟨l⟩:=cs
 have h:l[k]? = some v:=by simpa using h
 have hk:=(List.getElem?_eq_some_iff.1 h).1
 congr 1
 apply List.ext_getElem?
 intro i
 rw [putL_get (by simp;omega)]
 split
 ·rename_i c
  obtain rfl:i=k:=by simp at c;omega
  simp [h]
 ·rfl
theorem sWord {R:HP} {lb:Nat} {ws:List (List UInt8)} (s:List UInt8) (hl:ws.length≤1000000):FnR Tryz.prog R 28 [.pointer (some ⟨lb,0,none⟩),.string (bs s)] [lnH lb ws] λr hs=>r=.string (bs s)∧hs=[lnH lb (ws++[s])]:=by
 refine FnR.unbox λ⟨A,c⟩=>?_
 rw [List.append_nil]
 refine fn_of_run0 false Tryz.func28 rfl hmix rfl λw0=>?_
 conv=>whnf
 refine ⟨trivial,LoadAt.cell (.bool false) rfl rfl (λw hw=>blk_cell (hw.in_ 0 rfl) rfl) ?_⟩
 conv=>whnf
 refine iff_t rfl ?_
 conv=>whnf
 refine ⟨trivial,LoadAt.cell (.slice A ws.length c) rfl rfl (λw hw=>blk_cell (hw.in_ 0 rfl) rfl) ?_⟩
 conv=>whnf
 refine ⟨trivial,OpAt.lit [.string (bs s)] 1 rfl rfl rfl rfl rfl (by decide) rfl rfl rfl (by simp [Value.cells]) rfl (by decide) λg=>?_⟩
 conv=>whnf
 refine ⟨trivial,OpAt.append (.slice A ws.length c) ws.length 1 16 (strV ws) [.string (bs s)] (some ⟨g,0,none⟩) 1 1 _ rfl (λh s=>sepL_pull 2 s) rfl rfl rfl rfl rfl rfl rfl rfl rfl (by decide) (λw hw=>rowH_reads rfl (hw.in_ 0 rfl)) (by simp [Value.oneCell']) (by simp only [maxLen];omega) (by omega) λA' c'=>?_⟩
 conv=>whnf
 refine ⟨trivial,OpAt.store lb 0 (.slice A' (ws.length+1) c') _ rfl (λh s=>sepL_pull 2 s) rfl rfl rfl rfl rfl (by simp [Value.cells,Value.oneCell']) (λh r=>blk_put (by show 0+1≤2;omega) r) ?_⟩
 conv=>whnf
 refine ⟨trivial,.mk [lnH lb (ws++[s])] (λw ⟨h,hs,s'⟩=>?_) ⟨rfl,rfl⟩⟩
 obtain ⟨h',e,s2⟩:=sub_front (m:=[blkH lb 63 #[.slice A' (ws.length+1) c',.bool false],rowH (.slice A' (ws.length+1) c') (ws.length+1) 9 1 (strV ws++[.string (bs s)])]) s'
 refine ⟨h',hs.mono e,boxH_shut (parts:=lnP lb (ws++[s])) (A',c') ?_⟩
 rw [List.append_nil]
 unfold lnP strV
 rw [List.length_append,List.map_append]
 exact s2
theorem sNumber {R:HP} (hN:∀ w,Sat R w→NumW w) (n:Int) (h:I64 n):PureR Tryz.prog R 57 [.string (bs (Lib.itoa n))] (.int .i64 n):=by
 have hr:=λR' (h':∀ w,Sat R' w→Sat R w)=>sRead (R:=R') (λw s=>hN w (h' w s)) (Lib.itoa n) (by have:=itoa_len20 h;omega)
 rw [read_itoa n h.1 h.2] at hr
 refine fn_of_run0 false Tryz.func57 rfl hmix rfl λw0=>?_
 conv=>whnf
 refine ⟨trivial,CallAt.pure (λR' hR'=>hr R' hR') ?_⟩
 conv=>whnf
 refine iff_f rfl ?_
 conv=>whnf
 exact ⟨trivial,fin_pure rfl rfl⟩
abbrev ptrV (b:Nat) (ps:List (Nat × Int)):List Value:=ps.map λp=>.pointer (some ⟨b,p.1,none⟩)
abbrev itoas (ps:List (Nat × Int)):List (List UInt8):=ps.map λp=>Lib.itoa p.2
theorem sNumbers {R:HP} {lb b:Nat} {tb:TypeId} {cs:Array Value} {A:Option Addr} {m c:Nat} (hN:∀ w,Sat R w→NumW w) (ws:List (List UInt8)) (ps:List (Nat × Int)) (hm:ps.length=m) (hm2:m≤100) (hw:ws.length≤100000) (ha:Sl R A m 1 (ptrV b ps)) (hp:∀ p∈ps,cs[p.1]? = some (.int .i64 p.2)∧I64 p.2) :
  FnR Tryz.prog R 40 [.pointer (some ⟨lb,0,none⟩),.slice A m c] [lnH lb ws,blkH b tb cs] λr hs=>r=.tuple #[]∧hs=[lnH lb (ws++itoas ps),blkH b tb cs]:=by
 refine FnR.of_sat λwS hS=>?_
 obtain ⟨_,sa⟩:=ha.spot (by omega) (Sat.rest hS)
 refine fn_of_run0 false Tryz.func40 rfl hmix rfl λw0=>?_
 conv=>whnf
 refine ⟨trivial,LoopAt.heap (α:=Nat) [0,6,7] (λi=>[(8,.v (.int .i64 (i:Int)))]) (λi=>[lnH lb (ws++itoas (ps.take i)),blkH b tb cs]) (λi=>i≤m) (λi=>m - i) 0 (Nat.zero_le _) rfl ⟨⟨rfl,rfl⟩,trivial⟩ ⟨⟨rfl,rfl⟩,⟨rfl,rfl⟩,⟨rfl,rfl⟩,trivial⟩ trivial (λh s=>sub_same (by simpa using s)) ?_⟩
 intro i hi
 conv=>whnf
 refine ⟨λh=>?_,λh=>?_⟩
 ·have hi2:i < m:=by simpa using h
  rcases sa with sa|⟨ab,off,rfl,sa⟩
  ·omega
  have hil:i < ps.length:=by omega
  obtain ⟨hk,hr⟩:=hp _ (List.getElem_mem hil)
  have f1:(ptrV b ps)[i]? = some (.pointer (some ⟨b,(ps[i]).1,none⟩)):=by simp [hil]
  have f2:itoas (ps.take (i+1))=itoas (ps.take i)++[Lib.itoa (ps[i]).2]:=by show (ps.take (i+1)).map _=_;rw [List.take_succ_eq_append_getElem hil,List.map_append];rfl
  have f3:(itoas (ps.take i)).length≤100:=by simp;omega
  generalize ps[i]=p at *
  obtain ⟨k,z⟩:=p
  simp only at hk hr f1 f2
  generalize itoas (ps.take i)=us at *
  conv=>whnf
  refine ⟨⟨trivial,by omega⟩,LoadAt.cell (.pointer (some ⟨b,k,none⟩)) rfl rfl (λw hw=>?_) ?_⟩
  ·simp only [Int.toNat_natCast,Nat.mul_one]
   exact sa w (Sat.rest hw) _ _ f1
  conv=>whnf
  refine ⟨trivial,LoadAt.cell (.int .i64 z) rfl rfl (λw hw=>blk_cell (hw.in_ 1 rfl) hk) ?_⟩
  conv=>whnf
  refine ⟨trivial,CallAt.pure (λR' hR'=>sPrint (λw s=>hN w (Sat.rest (hR' w s))) z hr.1 hr.2) ?_⟩
  conv=>whnf
  refine ⟨trivial,CallAt.fn (pre:=[lnH lb (ws++us)]) _ (λh s=>s) (λR' hR'=>sWord (Lib.itoa z) (by simp;omega)) ?_⟩
  rintro r hs ⟨rfl,rfl⟩
  conv=>whnf
  refine ⟨trivial,CallAt.pure (λR' hR'=>sNumber (λw s=>hN w (Sat.rest (hR' w s))) z hr) ?_⟩
  conv=>whnf
  refine ⟨trivial,OpAt.store (A':=blkH b tb cs) b k (.int .i64 z) _ rfl (λh s=>sepL_pull 1 s) rfl rfl rfl rfl rfl (by simp [Value.cells,Value.oneCell']) (λh r=>?_) ?_⟩
  ·have hb:=blk_put (off:=k) (ys:=[.int .i64 z]) (by have:=(Array.getElem?_eq_some_iff.1 hk).1;simp;omega) r
   rw [putL_same hk] at hb
   exact hb
  conv=>whnf
  refine ⟨(by (repeat' apply And.intro)<;>first|exact True.intro|(unfold rng;omega)|omega),Next.heap (i+1) (by omega) (by omega) ⟨⟨rfl,rfl⟩,trivial⟩ ⟨⟨rfl,rfl⟩,⟨rfl,rfl⟩,⟨rfl,rfl⟩,trivial⟩ trivial rfl rfl λh s=>sub_same ?_⟩
  rw [f2,← List.append_assoc]
  exact sepL_pull 1 s
 ·have hi3:i=m:=by simp at h;omega
  subst hi3
  conv=>whnf
  refine ⟨trivial,.mk _ (λw s=>s) ⟨rfl,?_⟩⟩
  rw [List.take_of_length_le (by omega)]
theorem sCell {R:HP} {lb b:Nat} {tb:TypeId} {cs:Array Value} (hN:∀ w,Sat R w→NumW w) (ws:List (List UInt8)) (k:Nat) (x y:Int) (hw:ws.length≤100000) (hx:cs[k]? = some (.int .i64 x)) (hy:cs[k+1]? = some (.int .i64 y)) (bx:I64 x) (by':I64 y) :
  FnR Tryz.prog R 41 [.pointer (some ⟨lb,0,none⟩),.pointer (some ⟨b,k,none⟩)] [lnH lb ws,blkH b tb cs] λr hs=>r=.tuple #[]∧hs=[lnH lb (ws++[Lib.itoa x,Lib.itoa y]),blkH b tb cs]:=by
 refine fn_of_run0 false Tryz.func41 rfl hmix rfl λw0=>?_
 conv=>whnf
 refine ⟨trivial,RegAt.groups [([.T 0,.T 1,.T 2,.T 3,.T 4,.T 5,.T 6,.H 7],8),([.H 8],9)] hmix (by kernel_rfl) ?_⟩
 conv=>whnf
 refine ⟨trivial,OpAt.lit (ptrV b [(k,x),(k+1,y)]) 1 rfl rfl rfl rfl rfl (by decide) rfl rfl rfl (by simp [Value.cells]) rfl (by decide) λg=>?_⟩
 conv=>whnf
 refine ⟨trivial,⟨⟨rfl,rfl⟩,λh s=>sub_tail s⟩,?_⟩
 conv=>whnf
 refine ⟨trivial,CallAt.fn (pre:=[lnH lb ws,blkH b tb cs]) _ (λh s=>sepL_perm (List.Perm.trans (List.Perm.swap _ _ _) ((List.Perm.swap _ _ _).cons _)) s) (λR' hR'=>sNumbers (λw s=>hN w (Sat.rest (hR' w s))) ws [(k,x),(k+1,y)] rfl (by decide) hw (Sl.row λw s=>(hR' w s).in_ 0 rfl) (λp hp=>?_)) ?_⟩
 ·simp only [List.mem_cons,List.not_mem_nil,or_false] at hp
  rcases hp with rfl|rfl
  ·exact ⟨hx,bx⟩
  ·exact ⟨hy,by'⟩
 rintro r hs ⟨rfl,rfl⟩
 conv=>whnf
 refine ⟨trivial,?_⟩
 conv=>whnf
 exact ⟨trivial,.mk [lnH lb (ws++[Lib.itoa x,Lib.itoa y]),blkH b tb cs] (λw ⟨h,hs,s⟩=>by obtain ⟨h',e,s2⟩:=sub_front (m:=[lnH lb (ws++[Lib.itoa x,Lib.itoa y]),blkH b tb cs]) s;exact ⟨h',hs.mono e,s2⟩) ⟨rfl,rfl⟩⟩
theorem sRect {R:HP} {lb b:Nat} {tb:TypeId} {cs:Array Value} (hN:∀ w,Sat R w→NumW w) (ws:List (List UInt8)) (k:Nat) (x y z u:Int) (hw:ws.length≤100000) (hx:cs[k]? = some (.int .i64 x)) (hy:cs[k+1]? = some (.int .i64 y)) (hz:cs[k+2]? = some (.int .i64 z)) (hu:cs[k+3]? = some (.int .i64 u)) (bx:I64 x) (by':I64 y) (bz:I64 z) (bu:I64 u) :
  FnR Tryz.prog R 42 [.pointer (some ⟨lb,0,none⟩),.pointer (some ⟨b,k,none⟩)] [lnH lb ws,blkH b tb cs] λr hs=>r=.tuple #[]∧hs=[lnH lb (ws++[Lib.itoa x,Lib.itoa y,Lib.itoa z,Lib.itoa u]),blkH b tb cs]:=by
 refine fn_of_run0 false Tryz.func42 rfl hmix rfl λw0=>?_
 conv=>whnf
 refine ⟨trivial,RegAt.groups [([.T 0,.T 1,.T 2,.T 3,.T 4,.T 5,.T 6,.T 7,.T 8,.T 9,.T 10,.T 11,.T 12,.H 13],14),([.H 14],15)] hmix (by kernel_rfl) ?_⟩
 conv=>whnf
 refine ⟨trivial,OpAt.lit (ptrV b [(k,x),(k+1,y),(k+2,z),(k+3,u)]) 1 rfl rfl rfl rfl rfl (by decide) rfl rfl rfl (by simp [Value.cells]) rfl (by decide) λg=>?_⟩
 conv=>whnf
 refine ⟨trivial,⟨⟨rfl,rfl⟩,λh s=>sub_tail s⟩,?_⟩
 conv=>whnf
 refine ⟨trivial,CallAt.fn (pre:=[lnH lb ws,blkH b tb cs]) _ (λh s=>sepL_perm (List.Perm.trans (List.Perm.swap _ _ _) ((List.Perm.swap _ _ _).cons _)) s) (λR' hR'=>sNumbers (λw s=>hN w (Sat.rest (hR' w s))) ws [(k,x),(k+1,y),(k+2,z),(k+3,u)] rfl (by decide) hw (Sl.row λw s=>(hR' w s).in_ 0 rfl) (λp hp=>?_)) ?_⟩
 ·simp only [List.mem_cons,List.not_mem_nil,or_false] at hp
  rcases hp with rfl|rfl|rfl|rfl
  ·exact ⟨hx,bx⟩
  ·exact ⟨hy,by'⟩
  ·exact ⟨hz,bz⟩
  ·exact ⟨hu,bu⟩
 rintro r hs ⟨rfl,rfl⟩
 conv=>whnf
 refine ⟨trivial,?_⟩
 conv=>whnf
 exact ⟨trivial,.mk [lnH lb (ws++[Lib.itoa x,Lib.itoa y,Lib.itoa z,Lib.itoa u]),blkH b tb cs] (λw ⟨h,hs,s⟩=>by obtain ⟨h',e,s2⟩:=sub_front (m:=[lnH lb (ws++[Lib.itoa x,Lib.itoa y,Lib.itoa z,Lib.itoa u]),blkH b tb cs]) s;exact ⟨h',hs.mono e,s2⟩) ⟨rfl,rfl⟩⟩
end Go.Proofs.YtcoefgkjlgngkaaGreatDoor
