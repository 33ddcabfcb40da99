/-
  Texts of the proofs, one behind the other: TintF, TintH.
-/
import Derived.Test.YtcoefgkjlgngkaaGreatDoorSPg03
import Derived.Test.YtcoefgkjlgngkaaGreatDoorSPg08
namespace Go.Proofs.YtcoefgkjlgngkaaGreatDoor
open Go.RowKit
open Sy
set_option linter.unusedVariables false
set_option linter.unusedSimpArgs false
set_option maxRecDepth 100000
set_option maxHeartbeats 4000000
theorem any2 {R:HP} {lb eb:Nat} {v u:Value} {r:List HP} {w:World} (s:Sat (sepL (lbH lb v::ebH eb u::r) R) w):Sat (sepL [anyB lb 29,anyB eb 32] R) w:=by
 obtain ⟨h,h1,s⟩:=s
 obtain ⟨h',e,s'⟩:=sub_front (m:=[lbH lb v,ebH eb u]) (r:=r) s
 exact ⟨h',h1.mono e,sep_mono s' (λ_ a=>⟨v,a⟩) λ_ b=>sep_mono b (λ_ a=>⟨u,a⟩) λ_ c=>c⟩
theorem any2_open {R:HP} {lb eb:Nat} {w:World} (s:Sat (sepL [anyB lb 29,anyB eb 32] R) w):∃ v u,Sat (sepL [lbH lb v,ebH eb u] R) w:=by
 obtain ⟨h,hs,h1,h2,d,rfl,⟨v,hv⟩,h3,h4,d',rfl,⟨u,hu⟩,hr⟩:=s
 exact ⟨v,u,_,hs,h1,un h3 h4,d,rfl,hv,h3,h4,d',rfl,hu,hr⟩
theorem pieces_len (s:List UInt8):(pieces s).length=s.count 44+1:=by
 have hc:Lib.countB (bs s) (bs [44])=s.count 44:=by
  show Lib.count (bs s).data.toList (bs [44]).data.toList=_
  rw [bs_toList,bs_toList]
  exact Lib.count_one 44 s
 have hlen:=Lib.splitB_all (bs [44]) (by rw [bs_size];exact Nat.le_refl _) 0 (s.count 44) (bs s) hc
 rw [splitB_eq,List.length_map] at hlen
 exact hlen
def bandD (p:List UInt8):Bd:=(bandV p).getD ⟨0,0⟩
theorem partsV_all:∀ {ps:List (List UInt8)},(∀ p∈ps,bandV p≠none)→partsV ps=some (ps.map bandD)
 |[],_=>rfl
 |p::ps,h=>by
  have hp:=h p (by simp)
  unfold partsV
  cases hb:bandV p with
  |none=>exact absurd hb hp
  |some b =>
   simp only
   rw [partsV_all λq hq=>h q (List.mem_cons_of_mem _ hq)]
   simp [bandD,hb]
theorem defBad {R:HP} {w0:World} {lb eb:Nat}:DefD Tryz.prog R w0 Tryz.f63 (dfr 80 [.pointer (some ⟨lb,0,none⟩),.pointer (some ⟨eb,0,none⟩)]) isWrong (sepL [anyB lb 29,anyB eb 32] R) [(2,.pointer (some ⟨lb,0,none⟩)),(3,.pointer (some ⟨eb,0,none⟩))] (λ_=>False) (λr hs=>r=.tuple #[.slice none 0 0,.int .i64 12]∧hs=[]):=by
 refine ⟨λ_ h=>h.elim,?_⟩
 rintro ch rfl w a sat wd ax
 obtain ⟨v,u,sat⟩:=any2_open sat
 refine leaves_one (by kernel_rfl) (λe=>by cases e) ?_
 refine CallsD.mono (clsPan (R:=R) w sat) ?_
 rintro e u' w' ⟨hv,rfl,hs,rfl,s',wd'⟩
 refine ⟨hv,rfl,.tuple #[.slice none 0 0,.int .i64 12],results_two rfl Tryz.underlying29 rfl Tryz.underlying32 rfl (ax (2,_) List.mem_cons_self) (ax (3,_) (List.mem_cons_of_mem _ List.mem_cons_self)) ((blk_sat (s'.in_ 0 rfl)).cell 0) ((blk_sat (s'.in_ 1 rfl)).cell 0),_,_,rfl,⟨rfl,rfl⟩,?_,wd.trans wd'⟩
 exact s'.rest
theorem sTReadNo {R:HP} (hW:∀ w,Sat R w→ReadW w) {s:List UInt8} (hl:s.length≤1048576) (h:readV s=none):FnR Tryz.prog R 63 [.string (bs s)] [] λr hs=>r=.tuple #[.slice none 0 0,.int .i64 12]∧hs=[]:=by
 by_cases hlen:192 < s.length
 ·refine fn_of_defer false Tryz.func63 rfl hmix rfl (os1:=[_]) rfl rfl rfl rfl λw0=>?_
  conv=>whnf
  intro lb _
  conv=>whnf
  intro eb _
  conv=>whnf
  refine ⟨trivial,DefAt.mk _ _ _ _ _ _ rfl rfl defBad ?_⟩
  conv=>whnf
  exact ⟨trivial,CallAt.pan0 (λR' hR'=>(by rw [decide_eq_false (by rw [bs_size];omega)];exact sMustNo)) (λch h=>h) (λw ⟨h,h1,s⟩=>any2 ⟨h,h1,sepL_pull 1 s⟩) ⟨rfl,rfl,trivial⟩⟩
 ·have hbad:∀ l,partsV (pieces s)=some l→¬ RightL l:=λl hp hr=>by
   unfold readV at h
   rw [if_neg hlen,show Lib.splitK [44] 0 (s.count 44) s=pieces s from rfl,hp] at h
   simp only at h
   rw [if_pos hr] at h
   cases h
  clear h
  have hps:(pieces s).length≤193:=by
   rw [pieces_len]
   have:s.count 44≤s.length:=List.count_le_length
   omega
  have hplen:∀ i (h:i < (pieces s).length),(pieces s)[i].length≤1048576:=λi h=>by have:=piece_len (List.getElem_mem h);omega
  have hsp:=λR' (h:∀ w,Sat R' w→Sat R w)=>sSplit (R:=R') (λw s=>(hW w (h w s)).2) s (by omega)
  generalize pieces s=ps at *
  refine fn_of_defer false Tryz.func63 rfl hmix rfl (os1:=[_]) rfl rfl rfl rfl λw0=>?_
  conv=>whnf
  intro lb _
  conv=>whnf
  intro eb _
  conv=>whnf
  refine ⟨trivial,DefAt.mk _ _ _ _ _ _ rfl rfl defBad ?_⟩
  conv=>whnf
  refine ⟨trivial,CallAt.pure (λR' hR'=>(by rw [decide_eq_true (by rw [bs_size];omega)];exact sMust)) ?_⟩
  conv=>whnf
  refine ⟨trivial,CallAt.fn (pre:=[]) _ (λh s=>s) (λR' hR'=>hsp R' λw s=>(hR' w s).rest) ?_⟩
  rintro r hs ⟨B,rfl,rfl⟩
  conv=>whnf
  refine ⟨trivial,LoopAt.of (α:=RdS) [2,3,12,13] (λa=>[(14,.v (.int .i64 (a.i:Int)))]) (λ_=>[]) (λa=>[lbH lb (.slice a.A a.i a.c),bRow a.A a.i a.c ((ps.map bandD).take a.i),rowH (.slice (some ⟨B,0,none⟩) ps.length ps.length) ps.length 9 1 (ps.map λp=>.string (bs p)),ebH eb (.int .i64 0)]) (λa=>a.i≤ps.length∧∀ j (h:j < ps.length),j < a.i→bandV ps[j]≠none) (λa=>ps.length - a.i) ⟨0,none,0⟩ ⟨Nat.zero_le _,λj h hj=>absurd hj (Nat.not_lt_zero _)⟩
   (Le.of (Nat.le_of_ble_eq_true rfl) (Nat.zero_le _) ⟨⟨rfl,rfl⟩,⟨rfl,rfl⟩,⟨rfl,rfl⟩,⟨rfl,rfl⟩,⟨rfl,rfl⟩,trivial⟩ trivial λh s=>sub_same (sepL_perm (List.Perm.swap _ _ _) (row_nil _ _ (sepL_pull 2 s)))) ?_⟩
  rintro ⟨i,A,c⟩ ⟨hi,h0⟩
  simp only at hi h0
  conv=>whnf
  refine ⟨λh3=>?_,λh3=>?_⟩
  ·have hip:i < ps.length:=by simp at h3;omega
   have hpi:=hplen i hip
   have hat:(ps.map λp=>Value.string (bs p))[i]? = some (.string (bs ps[i])):=by rw [List.getElem?_map,List.getElem?_eq_getElem hip];rfl
   have htk:bcel ((ps.map bandD).take (i+1))=bcel ((ps.map bandD).take i)++bcel [bandD ps[i]]:=by rw [← bcel_append,List.take_succ_eq_append_getElem (by simpa using hip),List.getElem_map]
   have hnx:bandV ps[i]≠none→∀ j (h:j < ps.length),j < i+1→bandV ps[j]≠none:=λh j hj hji=>by
    rcases Nat.lt_or_ge j i with c|c
    ·exact h0 j hj c
    ·have:j=i:=by omega
     subst this
     exact h
   generalize ps[i]=p at *
   conv=>whnf
   refine ⟨⟨trivial,by simp only;omega⟩,LoadAt.cell (.string (bs p)) rfl rfl (λw hw=>?_) ?_⟩
   ·have:=rowB_at (hw.in_ 2 rfl) (by omega) hat
    simpa using this
   conv=>whnf
   refine ⟨trivial,RegAt.groups [([.T 0,.T 1,.H 2,.H 3],4),([.H 4],5),([.H 5],6)] hmix (by kernel_rfl) ?_⟩
   conv=>whnf
   refine ⟨trivial,LoadAt.cell (.slice A i c) rfl rfl (λw hw=>(blk_sat (hw.in_ 0 rfl)).cell 0) ?_⟩
   conv=>whnf
   cases hb:bandV p with
   |none =>
    exact ⟨trivial,CallAt.pan0 (λR' hR'=>sBandNo (λw s=>(hW w (hR' w s).rest).1) hpi hb) (λch h=>h) (λw ⟨h,h1,s⟩=>any2 ⟨h,h1,sepL_perm (List.Perm.swap _ _ _) (sepL_pull 3 s)⟩) ⟨rfl,rfl,trivial⟩⟩
   |some x =>
    have hx:bandD p=x:=by unfold bandD;rw [hb];rfl
    rw [hx] at htk
    have hnx:=hnx (by rw [hb];simp)
    refine ⟨trivial,CallAt.pure (λR' hR'=>sBand (R:=R') (λw s=>(hW w (hR' w s).rest).1) hpi hb) ?_⟩
    conv=>whnf
    refine ⟨trivial,⟨⟨rfl,rfl⟩,λh s=>sub_same s⟩,?_⟩
    conv=>whnf
    refine ⟨trivial,OpAt.lit [.agg #[.int .i64 x.f,.int .i32 x.s]] 2 rfl rfl rfl rfl rfl (by decide) rfl rfl rfl (by simp [Value.cells]) rfl (by decide) λg2=>?_⟩
    conv=>whnf
    refine ⟨trivial,⟨⟨rfl,rfl⟩,λh s=>sub_tail s⟩,?_⟩
    conv=>whnf
    refine ⟨trivial,OpAt.append (.slice A i c) i 2 16 (bcel ((ps.map bandD).take i)) (bcel [x]) (some ⟨g2,0,none⟩) 1 1 _ rfl (λh s=>sepL_pull 2 s) rfl rfl rfl rfl rfl rfl rfl rfl rfl (by decide) (λw hw=>rowH_reads rfl (Sat.left hw)) (by simp [bcel,bdC,Value.oneCell']) (by simp only [maxLen];omega) (by omega) λA' c'=>?_⟩
    conv=>whnf
    refine ⟨trivial,OpAt.store lb 0 (.slice A' (i+1) c') _ rfl (λh s=>sepL_pull 2 s) rfl rfl rfl rfl rfl (by simp [Value.cells,Value.oneCell']) (λh r=>blk_put (by show 0+1≤1;omega) r) ?_⟩
    conv=>whnf
    refine ⟨trivial,?_⟩
    conv=>whnf
    refine ⟨⟨trivial,by unfold rng;simp only;omega⟩,.mk ⟨i+1,A',c'⟩ ⟨by simp only;omega,hnx⟩ (by simp only;omega) (Le.of (Nat.le_of_ble_eq_true rfl) (Nat.zero_le _) ⟨⟨rfl,rfl⟩,⟨rfl,rfl⟩,⟨rfl,rfl⟩,⟨rfl,rfl⟩,⟨rfl,rfl⟩,trivial⟩ trivial λh s=>?_)⟩
    obtain ⟨h',e,s3⟩:=sub_tail (sepL_pull 2 s)
    refine ⟨h',e,?_⟩
    show sepL [lbH lb (.slice A' (i+1) c'),rowH (.slice A' (i+1) c') (i+1) 84 2 (bcel ((ps.map bandD).take (i+1))),_,_] R h'
    rw [htk]
    exact s3
  ·have g3:i=ps.length:=by simp at h3;omega
   have hnr:¬ RightL (ps.map bandD):=hbad _ (partsV_all λp hp=>by
    obtain ⟨j,hj,rfl⟩:=List.getElem_of_mem hp
    exact h0 j hj (by omega))
   conv=>whnf
   refine ⟨trivial,LoadAt.cell (.slice A i c) rfl rfl (λw hw=>(blk_sat (hw.in_ 0 rfl)).cell 0) ?_⟩
   conv=>whnf
   refine ⟨trivial,CallAt.pure (v:=.bool false) (λR' hR'=>PureR.of_sat λw hs=>?_) ?_⟩
   ·have hc:=row_capB ((hR' w hs).in_ 1 rfl)
    have:=sTRight (R:=R') (n:=i) (c:=c) (by omega) hc (Sl.row λw s=>(hR' w s).in_ 1 rfl)
    simp only at this
    rw [List.take_of_length_le (by simp;omega),decide_eq_false hnr] at this
    exact this
   conv=>whnf
   exact ⟨trivial,CallAt.pan0 (λR' hR'=>sMustNo) (λch h=>h) (λw ⟨h,h1,s⟩=>any2 ⟨h,h1,sepL_perm (List.Perm.swap _ _ _) (sepL_pull 3 s)⟩) ⟨rfl,rfl,trivial⟩⟩
theorem or192:∀ q:Fin 32,bits .or .u8 192 ((q.val:Nat):Int)=((192+q.val:Nat):Int):=by decide
theorem or224:∀ q:Fin 16,bits .or .u8 224 ((q.val:Nat):Int)=((224+q.val:Nat):Int):=by decide
theorem or128:∀ q:Fin 64,bits .or .u8 128 ((q.val:Nat):Int)=((128+q.val:Nat):Int):=by decide
theorem and63:∀ q:Fin 256,bits .and .u8 ((q.val:Nat):Int) 63=((q.val % 64:Nat):Int):=by decide +kernel
theorem u8_wrapN (y:Nat):IntKind.u8.wrap (y:Int)=((y % 256:Nat):Int):=by simp [IntKind.wrap,IntKind.bits,IntKind.signed]
theorem lead192 {x:Nat} (h:x < 2048):bits .or .u8 192 (IntKind.u8.wrap ((x:Int) / 2 ^ Int.toNat 6))=((192+x / 64:Nat):Int):=by
 rw [show (x:Int) / 2 ^ Int.toNat 6=((x / 64:Nat):Int) by show (x:Int) / 64=_;omega,u8_wrapN,Nat.mod_eq_of_lt (by omega)]
 exact or192 ⟨x / 64,by omega⟩
theorem lead224 {x:Nat} (h:x < 65536):bits .or .u8 224 (IntKind.u8.wrap ((x:Int) / 2 ^ Int.toNat 12))=((224+x / 4096:Nat):Int):=by
 rw [show (x:Int) / 2 ^ Int.toNat 12=((x / 4096:Nat):Int) by show (x:Int) / 4096=_;omega,u8_wrapN,Nat.mod_eq_of_lt (by omega)]
 exact or224 ⟨x / 4096,by omega⟩
theorem contN (y:Nat):bits .or .u8 128 (bits .and .u8 (IntKind.u8.wrap (y:Int)) 63)=((128+y % 64:Nat):Int):=by
 rw [u8_wrapN]
 have h1:=and63 ⟨y % 256,by omega⟩
 simp only at h1
 rw [h1]
 have h2:=or128 ⟨y % 256 % 64,by omega⟩
 simp only at h2
 rw [h2]
 congr 2
 omega
theorem div64N (x:Nat):(x:Int) / 2 ^ Int.toNat 6=((x / 64:Nat):Int):=by show (x:Int) / 64=_;omega
theorem utf2 {x:Nat} (h1:128≤x) (h2:x < 2048):byV (utfN x)=[.int .u8 ((192+x / 64:Nat):Int),.int .u8 ((128+x % 64:Nat):Int)]:=by
 unfold utfN
 rw [if_neg (by omega),if_pos h2]
 simp only [byV,List.map_cons,List.map_nil,u8_nat (show 192+x / 64 < 256 by omega),u8_nat (show 128+x % 64 < 256 by omega)]
theorem utf3 {x:Nat} (h1:2048≤x) (h2:x < 65536):byV (utfN x)=[.int .u8 ((224+x / 4096:Nat):Int),.int .u8 ((128+x / 64 % 64:Nat):Int),.int .u8 ((128+x % 64:Nat):Int)]:=by
 unfold utfN
 rw [if_neg (by omega),if_neg (by omega)]
 simp only [byV,List.map_cons,List.map_nil,u8_nat (show 224+x / 4096 < 256 by omega),u8_nat (show 128+x / 64 % 64 < 256 by omega),u8_nat (show 128+x % 64 < 256 by omega)]
theorem sAppendRuneN {R:HP} {A:Option Addr} {n c:Nat} {xs:List Value} (x:Nat) (hx:SignN x) (h128:128≤x) (hn:n≤1000000) :
  FnR Tryz.prog R 147 [.slice A n c,.int .i32 (x:Int)] [rowH (.slice A n c) n 5 1 xs] λr hs=>∃ A' c',r=.slice A' (n+(utfN x).length) c'∧hs=[rowH (.slice A' (n+(utfN x).length) c') (n+(utfN x).length) 5 1 (xs++byV (utfN x))]:=by
 unfold SignN at hx
 have w1:IntKind.u32.wrap (x:Int)=(x:Int):=IntWalk.u32_in _ ⟨by omega,by omega⟩
 by_cases h2:x < 2048
 ·have hl:(utfN x).length=2:=by unfold utfN;rw [if_neg (by omega),if_pos h2];rfl
  rw [hl,utf2 h128 h2]
  refine fn_of_run0 false Tryz.func147 rfl hmix rfl λw0=>?_
  conv=>whnf
  rw [w1]
  refine iff_t (decide_eq_true (by omega)) ?_
  conv=>whnf
  refine ⟨⟨trivial,by decide,by decide⟩,OpAt.lit [.int .u8 ((192+x / 64:Nat):Int),.int .u8 ((128+x % 64:Nat):Int)] 1 rfl rfl rfl rfl rfl (by decide) rfl rfl ?_ (by simp [Value.cells]) rfl (by decide) λg=>?_⟩
  ·simp only [List.map,evR,getT]
   rw [lead192 h2,contN]
  conv=>whnf
  refine ⟨trivial,OpAt.append1 (.slice A n c) n 1 1 xs [.int .u8 ((192+x / 64:Nat):Int),.int .u8 ((128+x % 64:Nat):Int)] (some ⟨g,0,none⟩) 2 2 _ rfl (λh s=>sepL_pull 1 s) rfl rfl rfl rfl rfl rfl rfl rfl rfl (by decide) (λw hw=>rowH_reads rfl (Sat.left hw)) (by simp [Value.oneCell']) (by simp only [maxLen];omega) (by omega) (by omega) λA' c'=>?_⟩
  conv=>whnf
  exact ⟨trivial,.mk _ (λw ⟨h,hs,s⟩=>by obtain ⟨h',e,s'⟩:=sub_drop1 s;exact ⟨h',hs.mono e,s'⟩) ⟨_,_,rfl,rfl⟩⟩
 ·have hl:(utfN x).length=3:=by unfold utfN;rw [if_neg (by omega),if_neg h2];rfl
  rw [hl,utf3 (by omega) (by omega)]
  refine fn_of_run0 false Tryz.func147 rfl hmix rfl λw0=>?_
  conv=>whnf
  rw [w1]
  refine iff_f (decide_eq_false (by omega)) ?_
  conv=>whnf
  refine ⟨λh3=>?_,λh3=>?_⟩
  ·conv=>whnf
   refine iff_t h3 ?_
   conv=>whnf
   refine ⟨by refine ⟨⟨trivial,by decide,by decide⟩,by decide,by decide⟩,OpAt.lit [.int .u8 ((224+x / 4096:Nat):Int),.int .u8 ((128+x / 64 % 64:Nat):Int),.int .u8 ((128+x % 64:Nat):Int)] 1 rfl rfl rfl rfl rfl (by decide) rfl rfl ?_ (by simp [Value.cells]) rfl (by decide) λg=>?_⟩
   ·simp only [List.map,evR,getT]
    rw [lead224 (by omega),div64N,contN,contN]
   conv=>whnf
   refine ⟨trivial,OpAt.append1 (.slice A n c) n 1 1 xs [.int .u8 ((224+x / 4096:Nat):Int),.int .u8 ((128+x / 64 % 64:Nat):Int),.int .u8 ((128+x % 64:Nat):Int)] (some ⟨g,0,none⟩) 3 3 _ rfl (λh s=>sepL_pull 1 s) rfl rfl rfl rfl rfl rfl rfl rfl rfl (by decide) (λw hw=>rowH_reads rfl (Sat.left hw)) (by simp [Value.oneCell']) (by simp only [maxLen];omega) (by omega) (by omega) λA' c'=>?_⟩
   conv=>whnf
   exact ⟨trivial,.mk _ (λw ⟨h,hs,s⟩=>by obtain ⟨h',e,s'⟩:=sub_drop1 s;exact ⟨h',hs.mono e,s'⟩) ⟨_,_,rfl,rfl⟩⟩
  ·have h3:=of_decide_eq_false h3
   conv=>whnf
   refine ⟨λ_=>?_,λh=>absurd h (by simp;omega)⟩
   conv=>whnf
   refine iff_t (by simp;omega) ?_
   conv=>whnf
   refine ⟨by refine ⟨⟨trivial,by decide,by decide⟩,by decide,by decide⟩,OpAt.lit [.int .u8 ((224+x / 4096:Nat):Int),.int .u8 ((128+x / 64 % 64:Nat):Int),.int .u8 ((128+x % 64:Nat):Int)] 1 rfl rfl rfl rfl rfl (by decide) rfl rfl ?_ (by simp [Value.cells]) rfl (by decide) λg=>?_⟩
   ·simp only [List.map,evR,getT]
    rw [lead224 (by omega),div64N,contN,contN]
   conv=>whnf
   refine ⟨trivial,OpAt.append1 (.slice A n c) n 1 1 xs [.int .u8 ((224+x / 4096:Nat):Int),.int .u8 ((128+x / 64 % 64:Nat):Int),.int .u8 ((128+x % 64:Nat):Int)] (some ⟨g,0,none⟩) 3 3 _ rfl (λh s=>sepL_pull 1 s) rfl rfl rfl rfl rfl rfl rfl rfl rfl (by decide) (λw hw=>rowH_reads rfl (Sat.left hw)) (by simp [Value.oneCell']) (by simp only [maxLen];omega) (by omega) (by omega) λA' c'=>?_⟩
   conv=>whnf
   exact ⟨trivial,.mk _ (λw ⟨h,hs,s⟩=>by obtain ⟨h',e,s'⟩:=sub_drop1 s;exact ⟨h',hs.mono e,s'⟩) ⟨_,_,rfl,rfl⟩⟩
theorem sAppendRune {R:HP} {A:Option Addr} {n c:Nat} {xs:List Value} (x:Nat) (hx:SignN x) (hn:n≤1000000) :
  FnR Tryz.prog R 99 [.slice A n c,.int .i32 (x:Int)] [rowH (.slice A n c) n 5 1 xs] λr hs=>∃ A' c',r=.slice A' (n+(utfN x).length) c'∧hs=[rowH (.slice A' (n+(utfN x).length) c') (n+(utfN x).length) 5 1 (xs++byV (utfN x))]:=by
 have hx':=hx
 unfold SignN at hx'
 by_cases h128:128≤x
 ·have hc:=λR'=>sAppendRuneN (R:=R') (A:=A) (c:=c) (xs:=xs) x hx h128 hn
  have w1:IntKind.u32.wrap (x:Int)=(x:Int):=IntWalk.u32_in _ ⟨by omega,by omega⟩
  refine fn_of_run0 false Tryz.func99 rfl hmix rfl λw0=>?_
  conv=>whnf
  rw [w1]
  refine iff_f (decide_eq_false (by omega)) ?_
  conv=>whnf
  refine ⟨trivial,CallAt.fn (pre:=[rowH (.slice A n c) n 5 1 xs]) _ (λh s=>s) (λR' hR'=>hc R') ?_⟩
  rintro r hs ⟨A',c',rfl,rfl⟩
  conv=>whnf
  exact ⟨trivial,.mk _ (λw s=>s) ⟨_,_,rfl,rfl⟩⟩
 ·have e:utfN x=[u8 x]:=by unfold utfN;rw [if_pos (by omega)]
  have h1:=sAppendRune1 (R:=R) (A:=A) (c:=c) (xs:=xs) (u8 x) (by rw [u8_nat (by omega)];omega) hn
  rw [u8_nat (by omega)] at h1
  rw [e]
  exact h1
end Go.Proofs.YtcoefgkjlgngkaaGreatDoor
