/-
  Texts of the proofs, one behind the other: ScVf.
-/
import Derived.Test.YtcoefgkjlgngkaaGreatDoorSPg30
import Derived.Test.YtcoefgkjlgngkaaGreatDoorSPg35
import Derived.Test.YtcoefgkjlgngkaaGreatDoorSPg36
namespace Go.Proofs.YtcoefgkjlgngkaaGreatDoor
open Go.RowKit
open Sy
set_option linter.unusedVariables false
set_option linter.unusedSimpArgs false
set_option maxRecDepth 100000
set_option maxHeartbeats 4000000
theorem OpAt.cutS {G:Gl} {o:Oper} {st:St} {K:St→Prop} {t e:TypeId} {x l h:Operand} {i:TypeInfo} (b off n c lo hi:Nat) (k k':IntKind) (ho:o.op=.slice t x (some l) (some h) none) (hx:evR st x=.slice (some ⟨b,off,none⟩) n c) (hl:evR st l=.int k (lo:Int)) (hh:evR st h=.int k' (hi:Int)) (hr:allR st o.op.operands.toList=true)
  (hu:G.P.underlying t=some (.slice e)) (hi':G.P.info? e=some i) (h1:lo≤hi) (h2:hi≤n) (h3:n≤c) (kk:∀ A,(A=some ⟨b,off+lo * i.size,none⟩∨hi=lo)→putK G st o.dst (.v (.slice A (hi - lo) (c - lo))) none K):OpAt G o st K:=by
 by_cases h4:lo < c
 ·refine OpAt.val _ (by rw [ho];rfl) hr (λw _=>?_) (kk _ (.inl rfl))
  have h5:¬ c=lo:=by omega
  have h6:(lo:Int)≤(hi:Int):=by omega
  have h7:hi≤c:=by omega
  have h8:(hi:Int)≤(c:Int):=by omega
  have hsz:(sizeOf e).run G.P w=.ok i.size w:=by simp [sizeOf,typeInfo,hi']
  simp [execOp,ho,hx,hl,hh,Instr.sliceAt,Instr.slice,run_underlying hu,Instr.sliceBounds,Instr.sliceBound,asIntOf,h1,hsz,h5,h7,Addr.add]
 ·refine OpAt.val _ (by rw [ho];rfl) hr (λw _=>?_) (kk (some ⟨b,off,none⟩) (.inr (by omega)))
  have h5:c=lo:=by omega
  have h6:hi=lo:=by omega
  have hsz:(sizeOf e).run G.P w=.ok i.size w:=by simp [sizeOf,typeInfo,hi']
  subst h5 h6
  simp [execOp,ho,hx,hl,hh,Instr.sliceAt,Instr.slice,run_underlying hu,Instr.sliceBounds,Instr.sliceBound,asIntOf,hsz,Addr.add]
abbrev cntL:List Int:=[0,2,3,5,4,5,2,4,4,4,5,5,6,5,1,2,4,2,0,0,4,4,4,1,0,0,0,4]
theorem cnt_at:∀ k:Fin 28,cntL[k.val]? = some (cntK (k.val:Int):Int)∧cntK (k.val:Int)≤6:=by decide
theorem kd_one (z:List UInt8):kd z 1=0:=by
 unfold kd
 split
 ·rename_i h
  exact absurd h.1.symm h.2
 ·rfl
theorem verb_ne:∀ k:Fin 28,1≤k.val→verbsL.getD k.val []≠[]:=by decide
theorem okw_itoa {ws:List (List UInt8)} {i:Nat} {n:Int} (h:ws[i]? = some (Lib.itoa n)) (hn:I64 n):OkW ws i:=⟨_,h,by rw [read_itoa n hn.1 hn.2]⟩
theorem opW_ok {y:OpF} (hL:HasLine y) (ok:y.ok):∀ i,i < cntK y.o.kind→OkW (opW y) i:=by
 obtain ⟨h1,h2,_⟩:=hL
 have ko:=ok.o
 clear ok
 obtain ⟨⟨kind,x0,y0,x1,y1,ax,ay,bx,b_y,n,m⟩,vals,byts,bands⟩:=y
 simp only at *
 rcases kinds27 h1 h2 with rfl|rfl|rfl|rfl|rfl|rfl|rfl|rfl|rfl|rfl|rfl|rfl|rfl|rfl|rfl|rfl|rfl|rfl|rfl|rfl|rfl|rfl|rfl|rfl|rfl|rfl|rfl
 ·intro i hi
  have hi:i < 2:=hi
  rcases (show i=0∨i=1 by omega) with rfl|rfl
  ·exact okw_itoa rfl ko.n
  ·exact okw_itoa rfl ko.m
 ·intro i hi
  have hi:i < 3:=hi
  rcases (show i=0∨i=1∨i=2 by omega) with rfl|rfl|rfl
  ·exact okw_itoa rfl ko.ax
  ·exact okw_itoa rfl ko.ay
  ·exact okw_itoa rfl ko.n
 ·intro i hi
  have hi:i < 5:=hi
  rcases (show i=0∨i=1∨i=2∨i=3∨i=4 by omega) with rfl|rfl|rfl|rfl|rfl
  ·exact okw_itoa rfl ko.x0
  ·exact okw_itoa rfl ko.y0
  ·exact okw_itoa rfl ko.x1
  ·exact okw_itoa rfl ko.y1
  ·exact okw_itoa rfl ko.n
 ·intro i hi
  have hi:i < 4:=hi
  rcases (show i=0∨i=1∨i=2∨i=3 by omega) with rfl|rfl|rfl|rfl
  ·exact okw_itoa rfl ko.x0
  ·exact okw_itoa rfl ko.y0
  ·exact okw_itoa rfl ko.x1
  ·exact okw_itoa rfl ko.y1
 ·intro i hi
  have hi:i < 5:=hi
  rcases (show i=0∨i=1∨i=2∨i=3∨i=4 by omega) with rfl|rfl|rfl|rfl|rfl
  ·exact okw_itoa rfl ko.x0
  ·exact okw_itoa rfl ko.y0
  ·exact okw_itoa rfl ko.x1
  ·exact okw_itoa rfl ko.y1
  ·exact okw_itoa rfl ko.n
 ·intro i hi
  have hi:i < 2:=hi
  rcases (show i=0∨i=1 by omega) with rfl|rfl
  ·exact okw_itoa rfl ko.ax
  ·exact okw_itoa rfl ko.ay
 ·intro i hi
  have hi:i < 4:=hi
  rcases (show i=0∨i=1∨i=2∨i=3 by omega) with rfl|rfl|rfl|rfl
  ·exact okw_itoa rfl ko.x0
  ·exact okw_itoa rfl ko.y0
  ·exact okw_itoa rfl ko.x1
  ·exact okw_itoa rfl ko.y1
 ·intro i hi
  have hi:i < 4:=hi
  rcases (show i=0∨i=1∨i=2∨i=3 by omega) with rfl|rfl|rfl|rfl
  ·exact okw_itoa rfl ko.x0
  ·exact okw_itoa rfl ko.y0
  ·exact okw_itoa rfl ko.x1
  ·exact okw_itoa rfl ko.y1
 ·intro i hi
  have hi:i < 4:=hi
  rcases (show i=0∨i=1∨i=2∨i=3 by omega) with rfl|rfl|rfl|rfl
  ·exact okw_itoa rfl ko.x0
  ·exact okw_itoa rfl ko.y0
  ·exact okw_itoa rfl ko.x1
  ·exact okw_itoa rfl ko.y1
 ·intro i hi
  have hi:i < 5:=hi
  rcases (show i=0∨i=1∨i=2∨i=3∨i=4 by omega) with rfl|rfl|rfl|rfl|rfl
  ·exact okw_itoa rfl ko.x0
  ·exact okw_itoa rfl ko.y0
  ·exact okw_itoa rfl ko.x1
  ·exact okw_itoa rfl ko.y1
  ·exact okw_itoa rfl ko.n
 ·intro i hi
  have hi:i < 5:=hi
  rcases (show i=0∨i=1∨i=2∨i=3∨i=4 by omega) with rfl|rfl|rfl|rfl|rfl
  ·exact okw_itoa rfl ko.x0
  ·exact okw_itoa rfl ko.y0
  ·exact okw_itoa rfl ko.x1
  ·exact okw_itoa rfl ko.y1
  ·exact okw_itoa rfl ko.n
 ·intro i hi
  have hi:i < 6:=hi
  rcases (show i=0∨i=1∨i=2∨i=3∨i=4∨i=5 by omega) with rfl|rfl|rfl|rfl|rfl|rfl
  ·exact okw_itoa rfl ko.ax
  ·exact okw_itoa rfl ko.ay
  ·exact okw_itoa rfl ko.n
  ·exact okw_itoa rfl ko.bx
  ·exact okw_itoa rfl ko.b_y
  ·exact okw_itoa rfl ko.m
 ·intro i hi
  have hi:i < 5:=hi
  rcases (show i=0∨i=1∨i=2∨i=3∨i=4 by omega) with rfl|rfl|rfl|rfl|rfl
  ·exact okw_itoa rfl ko.ax
  ·exact okw_itoa rfl ko.ay
  ·exact okw_itoa rfl ko.n
  ·exact okw_itoa rfl ko.m
  ·exact okw_itoa rfl ko.bx
 ·intro i hi
  have hi:i < 1:=hi
  rcases (show i=0 by omega) with rfl
  ·exact okw_itoa rfl ko.n
 ·intro i hi
  have hi:i < 2:=hi
  rcases (show i=0∨i=1 by omega) with rfl|rfl
  ·exact okw_itoa rfl ko.ax
  ·exact okw_itoa rfl ko.ay
 ·intro i hi
  have hi:i < 4:=hi
  rcases (show i=0∨i=1∨i=2∨i=3 by omega) with rfl|rfl|rfl|rfl
  ·exact okw_itoa rfl ko.ax
  ·exact okw_itoa rfl ko.ay
  ·exact okw_itoa rfl ko.bx
  ·exact okw_itoa rfl ko.b_y
 ·intro i hi
  have hi:i < 2:=hi
  rcases (show i=0∨i=1 by omega) with rfl|rfl
  ·exact okw_itoa rfl ko.n
  ·exact okw_itoa rfl ko.m
 ·intro i hi
  exact absurd hi (Nat.not_lt_zero _)
 ·intro i hi
  exact absurd hi (Nat.not_lt_zero _)
 ·intro i hi
  have hi:i < 4:=hi
  rcases (show i=0∨i=1∨i=2∨i=3 by omega) with rfl|rfl|rfl|rfl
  ·exact okw_itoa rfl ko.x0
  ·exact okw_itoa rfl ko.y0
  ·exact okw_itoa rfl ko.x1
  ·exact okw_itoa rfl ko.y1
 ·intro i hi
  have hi:i < 4:=hi
  rcases (show i=0∨i=1∨i=2∨i=3 by omega) with rfl|rfl|rfl|rfl
  ·exact okw_itoa rfl ko.x0
  ·exact okw_itoa rfl ko.y0
  ·exact okw_itoa rfl ko.x1
  ·exact okw_itoa rfl ko.y1
 ·intro i hi
  have hi:i < 4:=hi
  rcases (show i=0∨i=1∨i=2∨i=3 by omega) with rfl|rfl|rfl|rfl
  ·exact okw_itoa rfl ko.x0
  ·exact okw_itoa rfl ko.y0
  ·exact okw_itoa rfl ko.x1
  ·exact okw_itoa rfl ko.y1
 ·intro i hi
  have hi:i < 1:=hi
  rcases (show i=0 by omega) with rfl
  ·exact okw_itoa rfl ko.n
 ·intro i hi
  exact absurd hi (Nat.not_lt_zero _)
 ·intro i hi
  exact absurd hi (Nat.not_lt_zero _)
 ·intro i hi
  exact absurd hi (Nat.not_lt_zero _)
 ·intro i hi
  have hi:i < 4:=hi
  rcases (show i=0∨i=1∨i=2∨i=3 by omega) with rfl|rfl|rfl|rfl
  ·exact okw_itoa rfl ko.x0
  ·exact okw_itoa rfl ko.y0
  ·exact okw_itoa rfl ko.x1
  ·exact okw_itoa rfl ko.y1
theorem Sl.mid {R:HP} {b off n lo hi size:Nat} {A:Option Addr} {xs:List Value} (h:Sl R (some ⟨b,off,none⟩) n size xs) (h1:lo≤hi) (h2:hi≤n) (hA:A=some ⟨b,off+lo * size,none⟩∨hi=lo):Sl R A (hi - lo) size ((xs.drop (lo * size)).take ((hi - lo) * size)):=λw s=>by
 obtain ⟨g1,g2⟩:=h w s
 have hle:hi * size≤n * size:=Nat.mul_le_mul_right _ h2
 have hlo:lo * size≤hi * size:=Nat.mul_le_mul_right _ h1
 refine ⟨by rw [List.length_take,List.length_drop,g1,Nat.sub_mul];omega,λhn=>?_⟩
 obtain ⟨ad,e,hb,hc⟩:=g2 (by omega)
 injection e with e
 subst e
 rcases hA with rfl|hA
 ·refine ⟨_,rfl,hb,λj u hu=>?_⟩
  rw [List.getElem?_take] at hu
  split at hu
  ·have:=hc (lo * size+j) u (by rw [← hu,List.getElem?_drop])
   rw [add_plain] at this ⊢
   rw [← this,Nat.add_assoc]
  ·cases hu
 ·omega
theorem last_at (z:List UInt8) (ws:List (List UInt8)):(z::ws)[ws.length]? = some (lastW z ws):=by
 unfold lastW
 cases h:ws with
 |nil=>rfl
 |cons a l =>
  rw [List.length_cons,List.getElem?_cons_succ,List.getLastD_eq_getLast?,List.getLast?_eq_getElem?]
  simp
theorem numsOk_take {ws:List (List UInt8)} {c:Nat} (h:∀ i,i < c→OkW ws i):numsOk (ws.take c)=true:=by
 unfold numsOk
 rw [List.all_eq_true]
 intro p hp
 obtain ⟨i,hi,rfl⟩:=List.mem_iff_getElem.1 hp
 rw [List.length_take] at hi
 obtain ⟨w,h1,h2⟩:=h i (by omega)
 rw [List.getElem_take]
 have h3:=(List.getElem?_eq_some_iff.1 h1).2
 rw [h3]
 exact decide_eq_true h2
theorem numsV_at {ws:List (List UInt8)} {c i:Nat} (hc:c≤ws.length) (hi:i < c):(numsV (ws.take c))[i]? = some (vAt ws i):=by
 unfold numsV vAt
 rw [List.getElem?_map,List.getElem?_take_of_lt hi,List.getD_eq_getElem?_getD,List.getElem?_eq_getElem (by omega)]
 rfl
def PPost (s:List UInt8) (r:Value) (hs:List HP):Prop:=∃ q y b,r=.tuple #[.agg (opCs q y),.bool b]∧(∃ H,hs=[H]∧OpH q y H)∧((b=true∧LineOf y s)∨(b=false∧y=⟨⟨0,0,0,0,0,0,0,0,0,0,0⟩,[],[],[]⟩∧∀ y',¬ LineOf y' s))
theorem sRfNumsV {R:HP} {A:Option Addr} {n c:Nat} (ws:List (List UInt8)) (hl:ws.length=n) (hn:n≤100001) (hw:∀ p∈ws,p.length≤1048576) (ha:Sl R A n 1 (strV ws)):FnR Tryz.prog R 16 [.slice A n c] [] λr hs=>(numsOk ws=false∧r=.tuple #[.slice none 0 0,.bool false]∧hs=[])∨(∃ vals,numsOk ws=true∧vals=numsV ws∧∃ B cb,(vals.length≤cb∧cb≤maxLen)∧r=.tuple #[.slice (some ⟨B,0,none⟩) vals.length cb,.bool true]∧hs=[rowH (.slice (some ⟨B,0,none⟩) vals.length cb) vals.length 2 1 (vals.flatMap numL)]):=by
 refine FnR.seen (sRfNums (c:=c) ws hl hn hw ha) ?_
 rintro v hs (⟨h1,rfl,rfl⟩|⟨h1,B,cb,rfl,rfl⟩) w sw
 ·exact ⟨_,.inl ⟨h1,rfl,rfl⟩,sw⟩
 ·have hc:=row_capO (sw.in_ 0 rfl)
  have e:n=(numsV ws).length:=by simp [hl]
  rw [e] at hc sw ⊢
  exact ⟨_,.inr ⟨_,h1,rfl,B,cb,hc,rfl,rfl⟩,sw⟩
theorem sRfUnhexV {R:HP} (z:List UInt8) (hl:z.length≤100000):FnR Tryz.prog R 17 [.string (bs z)] [] λr hs=>∃ byts,byts=unhexG z∧byts.length≤z.length∧∃ B c,(byts.length≤c∧c≤maxLen)∧r=.slice (some ⟨B,0,none⟩) byts.length c∧hs=[rowH (.slice (some ⟨B,0,none⟩) byts.length c) byts.length 5 1 (byV byts)]:=by
 refine FnR.seen (sRfUnhex z hl) ?_
 rintro v hs ⟨B,c,rfl,rfl⟩ w sw
 have hc:=row_capO (sw.in_ 0 rfl)
 have e:z.length / 2=(unhexG z).length:=by unfold unhexG;rw [unhexK_len]
 rw [e] at hc sw ⊢
 exact ⟨_,⟨_,rfl,by omega,B,c,hc,rfl,rfl⟩,sw⟩
theorem sRfReadV {R:HP} {s:List UInt8} (hl:s.length≤1048576):FnR Tryz.prog R 18 [.string (bs s)] [] λr hs=>(refV s=none∧r=.tuple #[.slice none 0 0,.bool false]∧hs=[])∨(∃ l,refV s=some l∧∃ A c,(l.length≤c∧c≤maxLen)∧r=.tuple #[.slice A l.length c,.bool true]∧hs=[bRow A l.length c l]):=by
 refine FnR.seen (sRRead33 hl) ?_
 intro v hs h w sw
 unfold postR at h
 split at h
 ·rename_i hv
  obtain ⟨rfl,rfl⟩:=h
  exact ⟨_,.inl ⟨hv,rfl,rfl⟩,sw⟩
 ·rename_i l hv
  obtain ⟨A,c,rfl,rfl⟩:=h
  exact ⟨_,.inr ⟨l,hv,A,c,row_capO (sw.in_ 0 rfl),rfl,rfl⟩,sw⟩
theorem sRfParse {R:HP} {s:List UInt8} (hl:s.length≤3000):FnR Tryz.prog R 6 [.string (bs s)] [] (PPost s):=by
 have hsp:=λR'=>sRfSplit (R:=R') 32 s (by omega)
 obtain ⟨_,_,hne⟩:=pcs_spec 32 s
 cases hs:pcs 32 s with
 |nil=>exact absurd hs hne
 |cons z ws =>
 rw [hs] at hsp
 refine fn_of_run0 false Tryz.func6 rfl hmix rfl λw0=>?_
 conv=>whnf
 refine ⟨trivial,CallAt.fn (pre:=[]) _ (λh s=>s) (λR' hR'=>FnR.seen (q:=λr hs=>∃ B c,(z::ws).length≤c∧r=.slice (some ⟨B,0,none⟩) (z::ws).length c∧hs=[rowH (.slice (some ⟨B,0,none⟩) (z::ws).length c) (z::ws).length 9 1 (strV (z::ws))]) (hsp R') ?_) ?_⟩
 ·rintro v hs ⟨B,c,rfl,rfl⟩ w sw
  exact ⟨_,⟨B,c,(row_capO (sw.in_ 0 rfl)).1,rfl,rfl⟩,sw⟩
 rintro r hs' ⟨B,c,hc,rfl,rfl⟩
 rw [show (z::ws).length=ws.length+1 from rfl] at *
 have hwa:∀ w,Sat (rowH (.slice (some ⟨B,0,none⟩) (ws.length+1) c) (ws.length+1) 9 1 (strV (z::ws))) w→∀ (j:Nat) y,(z::ws)[j]? = some y→w.cell? ⟨B,j,none⟩=some (.string (bs y)):=λw h j y hy=>by
  have hrd:=rowH_reads rfl h
  obtain ⟨ad,e1,_,e2⟩:=hrd.2 (by omega)
  injection e1 with e1
  subst e1
  have:=e2 j (.string (bs y)) (by unfold strV;rw [List.getElem?_map,hy];rfl)
  rw [add_plain,Nat.zero_add] at this
  exact this
 conv=>whnf
 refine ⟨trivial,LoopAt.of (α:=Nat) [0,2,4,5] (λk=>[(6,.v (.int .i64 (k:Int)))]) (λk=>[(1,31,.v (.int .i64 (kd z k))::z13),(0,31,.v (.int .i64 0)::z13)]) (λ_=>[rowH (.slice (some ⟨B,0,none⟩) (ws.length+1) c) (ws.length+1) 9 1 (strV (z::ws))]) (λk=>1≤k∧k≤28) (λk=>28 - k) 1 ⟨Nat.le_refl _,by decide⟩
  (Le.of (Nat.le_of_ble_eq_true rfl) (Nat.zero_le _) ⟨⟨rfl,rfl⟩,⟨rfl,rfl⟩,⟨rfl,rfl⟩,⟨rfl,rfl⟩,⟨rfl,rfl⟩,trivial⟩ ⟨⟨congrArg (λv=>some (31,(SV.v (.int .i64 v)::z13))) (kd_one z).symm,rfl,rfl,rfl⟩,⟨rfl,rfl,rfl,rfl⟩,trivial⟩ λh s=>sub_same s) ?_⟩
 rintro k ⟨hk1,hk2⟩
 conv=>whnf
 refine ⟨λh=>?_,λh=>?_⟩
 ·have hi2:k < 28:=by have:=of_decide_eq_true h;omega
  have hve:=λR'=>sVerb (R:=R') (k:=(k:Int)) (by omega) (by omega)
  have hT:verbT (k:Int)=z→kd z (k+1)=(k:Int):=λe=>by
   unfold verbT at e
   rw [Int.toNat_natCast] at e
   exact if_pos ⟨e,by rw [← e];exact verb_ne ⟨k,by omega⟩ hk1⟩
  have hF:verbT (k:Int)≠z→kd z (k+1)=kd z k:=λe=>if_neg λc=>e (by unfold verbT;rw [Int.toNat_natCast];exact c.1)
  generalize verbT (k:Int)=vk at *
  generalize kd z k=kv at *
  conv=>whnf
  refine ⟨trivial,RegAt.quiet hmix (by kernel_rfl) ?_⟩
  conv=>whnf
  refine ⟨trivial,CallQ.pure (λR' hR'=>hve R') ?_⟩
  conv=>whnf
  refine ⟨⟨trivial,by omega⟩,LoadAt.cell (.string (bs z)) rfl rfl (λw hw=>hwa w (hw.in_ 0 rfl) 0 z rfl) ?_⟩
  conv=>whnf
  refine ⟨trivial,?_⟩
  conv=>whnf
  refine ⟨λh5=>?_,λh5=>?_⟩
  ·have hw:=hT (bs_inj.1 (of_decide_eq_true h5))
   conv=>whnf
   exact ⟨(by (repeat' apply And.intro)<;>first|exact True.intro|(unfold rng;omega)|omega),.mk (k+1) ⟨by omega,by omega⟩ (by omega) (Le.of (Nat.le_of_ble_eq_true rfl) (Nat.zero_le _) ⟨⟨rfl,rfl⟩,⟨rfl,rfl⟩,⟨rfl,rfl⟩,⟨rfl,rfl⟩,⟨rfl,rfl⟩,trivial⟩ ⟨⟨congrArg (λv=>some (31,(SV.v (.int .i64 v)::z13))) hw.symm,rfl,rfl,rfl⟩,⟨rfl,rfl,rfl,rfl⟩,trivial⟩ λh s=>sub_same s)⟩
  ·have hw:=hF λe=>of_decide_eq_false h5 (by rw [e])
   conv=>whnf
   exact ⟨(by (repeat' apply And.intro)<;>first|exact True.intro|(unfold rng;omega)|omega),.mk (k+1) ⟨by omega,by omega⟩ (by omega) (Le.of (Nat.le_of_ble_eq_true rfl) (Nat.zero_le _) ⟨⟨rfl,rfl⟩,⟨rfl,rfl⟩,⟨rfl,rfl⟩,⟨rfl,rfl⟩,⟨rfl,rfl⟩,trivial⟩ ⟨⟨congrArg (λv=>some (31,(SV.v (.int .i64 v)::z13))) hw.symm,rfl,rfl,rfl⟩,⟨rfl,rfl,rfl,rfl⟩,trivial⟩ λh s=>sub_same s)⟩
 have hi3:k=28:=by have:=of_decide_eq_false h;omega
 subst hi3
 have hln:∀ y,LineOf y s→kd z 28=y.o.kind∧opW y=ws:=λy hy=>by
  obtain ⟨_,hL,_,rfl⟩:=hy
  have hp:=line_pcs hL
  rw [hs] at hp
  injection hp with e1 e2
  exact ⟨by rw [e1,kd_verb hL.1 hL.2.1],e2.symm⟩
 have hki:=kd_is (z:=z)
 generalize kd z 28=kk at *
 conv=>whnf
 refine ⟨λh0=>?_,λh0=>?_⟩
 ·have h0:=of_decide_eq_true h0
  conv=>whnf
  refine ⟨trivial,.mk [emp] (λw sw=>?_) ⟨qNil,⟨⟨0,0,0,0,0,0,0,0,0,0,0⟩,[],[],[]⟩,false,rfl,⟨emp,rfl,opH_nil⟩,.inr ⟨rfl,rfl,λy hy=>?_⟩⟩⟩
  ·obtain ⟨h,hs,s'⟩:=sw
   obtain ⟨h',e,s2⟩:=sub_nil s'
   exact ⟨h',hs.mono e,emp_in s2⟩
  ·have h1:=(hln y hy).1
   have h2:=hy.2.1.1
   omega
 have h0:=of_decide_eq_false h0
 obtain ⟨hk1,hk2,hzv⟩:=hki h0
 have hcnt:=cnt_at ⟨kk.toNat,by omega⟩
 simp only at hcnt
 rw [show ((kk.toNat:Nat):Int)=kk by omega] at hcnt
 conv=>whnf
 refine ⟨trivial,OpAt.lit (cntL.map λv=>.int .i64 v) 1 rfl rfl rfl rfl rfl (by decide) rfl rfl rfl (by simp [Value.cells]) rfl (by decide) λg=>?_⟩
 conv=>whnf
 refine ⟨⟨trivial,by omega⟩,LoadAt.cell (.int .i64 (cntK kk:Int)) rfl rfl (λw hw=>?_) ?_⟩
 ·have hrd:=rowH_reads rfl (hw.in_ 0 rfl)
  obtain ⟨ad,e1,_,e2⟩:=hrd.2 (by decide)
  injection e1 with e1
  subst e1
  have:=e2 kk.toNat (.int .i64 (cntK kk:Int)) (by show (cntL.map λv=>Value.int .i64 v)[kk.toNat]? = _;rw [List.getElem?_map,hcnt.1];rfl)
  rw [add_plain] at this
  exact this
 conv=>whnf
 have hcl:∀ y,LineOf y s→∀ i,i < cntK kk→OkW ws i:=λy hy=>by
  obtain ⟨e1,e2⟩:=hln y hy
  rw [e1,← e2]
  exact opW_ok hy.2.1 hy.1
 have hc6:=hcnt.2
 generalize hcn:cntK kk=cn at *
 refine ⟨λh7=>?_,λh7=>?_⟩
 ·have h7:=of_decide_eq_true h7
  conv=>whnf
  refine ⟨(by (repeat' apply And.intro)<;>first|exact True.intro|(unfold rng;omega)|omega),.mk [emp] (λw sw=>?_) ⟨qNil,⟨⟨0,0,0,0,0,0,0,0,0,0,0⟩,[],[],[]⟩,false,rfl,⟨emp,rfl,opH_nil⟩,.inr ⟨rfl,rfl,λy hy=>?_⟩⟩⟩
  ·obtain ⟨h,hs,s'⟩:=sw
   obtain ⟨h',e,s2⟩:=sub_nil s'
   exact ⟨h',hs.mono e,emp_in s2⟩
  ·have h1:=OkW.lt (hcl y hy)
   omega
 have h7:=of_decide_eq_false h7
 have hcw:cn≤ws.length:=by omega
 conv=>whnf
 refine ⟨(by (repeat' apply And.intro)<;>first|exact True.intro|(unfold rng;omega)|omega),OpAt.cutS B 0 (ws.length+1) c 1 (cn+1) .i64 .i64 rfl rfl rfl (congrArg (Value.int .i64) (by omega)) rfl rfl rfl (by omega) (by omega) hc λA hA=>?_⟩
 conv=>whnf
 refine ⟨trivial,CallAt.fn (pre:=[]) _ (λh s=>s) (λR' hR'=>sRfNums (R:=R') (ws.take cn) (by rw [List.length_take];omega) (by omega) (λp hp=>?_) ?_) ?_⟩
 ·have:=pcs_mem_len (d:=32) (s:=s) (p:=p) (by rw [hs];exact List.mem_cons_of_mem _ (List.mem_of_mem_take hp))
  omega
 ·have hm:=Sl.mid (A:=A) (Sl.row (A:=some ⟨B,0,none⟩) (n:=ws.length+1) (c:=c) (e:=9) (size:=1) (xs:=strV (z::ws)) (R:=R') λw s=>(hR' w s).in_ 1 rfl) (lo:=1) (hi:=cn+1) (by omega) (by omega) hA
  have he:((strV (z::ws)).drop (1 * 1)).take ((cn+1 - 1) * 1)=strV (ws.take cn):=by
   rw [Nat.mul_one,Nat.mul_one,Nat.add_sub_cancel]
   show (strV ws).take cn=_
   unfold strV
   rw [List.map_take]
  rw [he] at hm
  exact hm
 rintro r hs' (⟨hno,rfl,rfl⟩|⟨hyes,Bn,cb,rfl,rfl⟩)
 ·conv=>whnf
  repeat (first|(refine ⟨λ_=>?_,λh=>absurd h (by decide)⟩;conv=>whnf)|(refine ⟨λh=>absurd h (by decide),λ_=>?_⟩;conv=>whnf))
  refine ⟨trivial,.mk [emp] (λw sw=>?_) ⟨qNil,⟨⟨0,0,0,0,0,0,0,0,0,0,0⟩,[],[],[]⟩,false,rfl,⟨emp,rfl,opH_nil⟩,.inr ⟨rfl,rfl,λy hy=>?_⟩⟩⟩
  ·obtain ⟨h,hs,s'⟩:=sw
   obtain ⟨h',e,s2⟩:=sub_nil s'
   exact ⟨h',hs.mono e,emp_in s2⟩
  ·rw [numsOk_take (hcl y hy)] at hno
   cases hno
 conv=>whnf
 repeat (first|(refine ⟨λ_=>?_,λh=>absurd h (by decide)⟩;conv=>whnf)|(refine ⟨λh=>absurd h (by decide),λ_=>?_⟩;conv=>whnf))
 have hlast:∀ w,Sat (rowH (.slice (some ⟨B,0,none⟩) (ws.length+1) c) (ws.length+1) 9 1 (strV (z::ws))) w→w.cell? ⟨B,0+((((ws.length+1:Nat):Int) - 1).toNat),none⟩=some (.string (bs (lastW z ws))):=λw h=>by
  rw [Nat.zero_add,show (((ws.length+1:Nat):Int) - 1).toNat=ws.length by omega]
  exact hwa w h _ _ (last_at z ws)
 have hcell:∀ w,Sat (rowH (.slice (some ⟨Bn,0,none⟩) (cn+1 - 1) cb) (cn+1 - 1) 2 1 ((numsV (ws.take cn)).flatMap numL)) w→∀ i,i < cn→w.cell? ⟨Bn,0+i,none⟩=some (.int .i64 (vAt ws i)):=λw h i hi=>by
  rw [Nat.zero_add]
  have hrd:=rowH_reads rfl h
  obtain ⟨ad,e1,_,e2⟩:=hrd.2 (by omega)
  injection e1 with e1
  subst e1
  have:=e2 i (.int .i64 (vAt ws i)) (by
   have h1:=numsV_at hcw hi
   have h2:=(List.getElem?_eq_some_iff.1 h1).1
   rw [numL_at h2]
   rw [List.getElem?_eq_getElem h2] at h1
   injection h1 with h1
   rw [h1])
  rw [add_plain,Nat.zero_add] at this
  exact this
 have hwl:ws.length≤3000:=by
  have:=pcs_len 32 s
  rw [hs] at this
  have h3:s.count 32≤s.length:=List.count_le_length
  simp at this
  omega
 have hlw:(lastW z ws).length≤3000:=by
  have:=pcs_mem_len (d:=32) (s:=s) (p:=lastW z ws) (by rw [hs];exact List.mem_of_getElem? (last_at z ws))
  omega
 refine ⟨(by (repeat' apply And.intro)<;>first|exact True.intro|(unfold rng;omega)|omega),LoadAt.cell (.string (bs (lastW z ws))) rfl rfl (λw hw=>hlast w (hw.in_ 2 rfl)) ?_⟩
 have hlw2:0 < ws.length→(lastW z ws).length+1≤3000:=λh=>by
  have hm:lastW z ws∈ws:=by
   have h1:=last_at z ws
   obtain ⟨j,hj⟩:∃ j,ws.length=j+1:=⟨ws.length - 1,by omega⟩
   rw [hj,List.getElem?_cons_succ] at h1
   exact List.mem_of_getElem? h1
  have h2:=wds_mem_lt (d:=32) hm
  have h3:=(pcs_spec 32 s).1
  rw [hs,jn_cons] at h3
  have h4:=congrArg List.length h3
  rw [List.length_append] at h4
  omega
 generalize hla:lastW z ws=la at *
 have hgl:∀ y,LineOf y s→guessF kk z ws=y:=λy hy=>by
  obtain ⟨e1,e2⟩:=hln y hy
  rw [e1,← e2]
  exact guess_line hy.2.1 hy.2.2.1 hy.1 z
 rcases kinds27 hk1 hk2 with rfl|rfl|rfl|rfl|rfl|rfl|rfl|rfl|rfl|rfl|rfl|rfl|rfl|rfl|rfl|rfl|rfl|rfl|rfl|rfl|rfl|rfl|rfl|rfl|rfl|rfl|rfl
 ·obtain rfl:2=cn:=hcn
  conv=>whnf
  repeat (first|(refine ⟨λ_=>?_,λh=>absurd h (by decide)⟩;conv=>whnf)|(refine ⟨λh=>absurd h (by decide),λ_=>?_⟩;conv=>whnf))
  refine ⟨(by (repeat' apply And.intro)<;>first|exact True.intro|(unfold rng;omega)|omega),LoadAt.cell (.int .i64 (vAt ws 0)) rfl rfl (λw hw=>hcell w (hw.in_ 0 rfl) 0 (by decide)) ?_⟩
  conv=>whnf
  refine ⟨(by (repeat' apply And.intro)<;>first|exact True.intro|(unfold rng;omega)|omega),LoadAt.cell (.int .i64 (vAt ws 1)) rfl rfl (λw hw=>hcell w (hw.in_ 0 rfl) 1 (by decide)) ?_⟩
  conv=>whnf
  have hyok:OpF.ok (⟨⟨1,0,0,0,0,0,0,0,0,vAt ws 0,vAt ws 1⟩,[],[],[]⟩:OpF):=⟨⟨i0,i0,i0,i0,i0,i0,i0,i0,vAt_i64 ws 0,vAt_i64 ws 1⟩,(by show I64 1;unfold I64;omega),λc hc=>(by cases hc),λc hc=>(by cases hc)⟩
  have hyfew:OpF.few (⟨⟨1,0,0,0,0,0,0,0,0,vAt ws 0,vAt ws 1⟩,[],[],[]⟩:OpF):=⟨Nat.zero_le _,Nat.zero_le _,Nat.zero_le _⟩
  have hye:guessF 1 z ws=(⟨⟨1,0,0,0,0,0,0,0,0,vAt ws 0,vAt ws 1⟩,[],[],[]⟩:OpF):=rfl
  have hyn:named (⟨⟨1,0,0,0,0,0,0,0,0,vAt ws 0,vAt ws 1⟩,[],[],[]⟩:OpF)=(⟨⟨1,0,0,0,0,0,0,0,0,vAt ws 0,vAt ws 1⟩,[],[],[]⟩:OpF):=rfl
  obtain ⟨zz,hdoc,hze⟩:=sRfPrintAll (R:=emp) hyok hyfew (opH_nil (o:=⟨1,0,0,0,0,0,0,0,0,vAt ws 0,vAt ws 1⟩) emp λw s=>s)
  rw [hye] at hgl
  obtain ⟨hb,hhb⟩:∃ hb,hb=decide (HasLine (⟨⟨1,0,0,0,0,0,0,0,0,vAt ws 0,vAt ws 1⟩,[],[],[]⟩:OpF)):=⟨_,rfl⟩
  rw [← hhb] at hdoc
  refine ⟨(by (repeat' apply And.intro)<;>first|exact True.intro|(unfold rng;omega)|omega),CallAt.pure (λR' hR'=>hdoc R' λw s=>⟨λ_=>none,λi o e=>(by cases e),λi=>rfl⟩) ?_⟩
  cases hb
  rotate_left
  ·have hH:=of_decide_eq_true hhb.symm
   have hze:=hze hH
   by_cases hq:zz=s
   ·conv=>whnf
    refine ⟨λ_=>?_,λg=>absurd g (by decide)⟩
    conv=>whnf
    refine ⟨λg=>absurd g (by rw [hq];simp),λ_=>?_⟩
    conv=>whnf
    refine ⟨(by (repeat' apply And.intro)<;>first|exact True.intro|(unfold rng;omega)|omega),.mk [emp] (λw sw=>?_) ⟨qNil,(⟨⟨1,0,0,0,0,0,0,0,0,vAt ws 0,vAt ws 1⟩,[],[],[]⟩:OpF),true,rfl,⟨emp,rfl,opH_nil⟩,.inl ⟨rfl,hyok,hH,hyn,(by rw [← hze];exact hq)⟩⟩⟩
    obtain ⟨h,hs,s'⟩:=sw
    obtain ⟨h',e,s2⟩:=sub_nil s'
    exact ⟨h',hs.mono e,emp_in s2⟩
   ·conv=>whnf
    refine ⟨λ_=>?_,λg=>absurd g (by decide)⟩
    conv=>whnf
    refine ⟨λ_=>?_,λg=>absurd (bs_inj.1 (show bs zz=bs s by simpa using g)) hq⟩
    conv=>whnf
    refine ⟨(by (repeat' apply And.intro)<;>first|exact True.intro|(unfold rng;omega)|omega),.mk [emp] (λw sw=>?_) ⟨qNil,⟨⟨0,0,0,0,0,0,0,0,0,0,0⟩,[],[],[]⟩,false,rfl,⟨emp,rfl,opH_nil⟩,.inr ⟨rfl,rfl,λy hy=>?_⟩⟩⟩
    ·obtain ⟨h,hs,s'⟩:=sw
     obtain ⟨h',e,s2⟩:=sub_nil s'
     exact ⟨h',hs.mono e,emp_in s2⟩
    ·have e1:=hgl y hy
     rw [e1] at hze
     exact hq (hze.trans hy.2.2.2)
  ·have hH:=of_decide_eq_false hhb.symm
   conv=>whnf
   repeat (first|(refine ⟨λ_=>?_,λh=>absurd h (by decide)⟩;conv=>whnf)|(refine ⟨λh=>absurd h (by decide),λ_=>?_⟩;conv=>whnf))
   refine ⟨(by (repeat' apply And.intro)<;>first|exact True.intro|(unfold rng;omega)|omega),.mk [emp] (λw sw=>?_) ⟨qNil,⟨⟨0,0,0,0,0,0,0,0,0,0,0⟩,[],[],[]⟩,false,rfl,⟨emp,rfl,opH_nil⟩,.inr ⟨rfl,rfl,λy hy=>?_⟩⟩⟩
   ·obtain ⟨h,hs,s'⟩:=sw
    obtain ⟨h',e,s2⟩:=sub_nil s'
    exact ⟨h',hs.mono e,emp_in s2⟩
   ·have e1:=hgl y hy
    rw [e1] at hH
    exact hH hy.2.1
 ·obtain rfl:3=cn:=hcn
  conv=>whnf
  repeat (first|(refine ⟨λ_=>?_,λh=>absurd h (by decide)⟩;conv=>whnf)|(refine ⟨λh=>absurd h (by decide),λ_=>?_⟩;conv=>whnf))
  refine ⟨(by (repeat' apply And.intro)<;>first|exact True.intro|(unfold rng;omega)|omega),RegAt.tail 8 hmix (by kernel_rfl) ?_⟩
  conv=>whnf
  refine ⟨(by (repeat' apply And.intro)<;>first|exact True.intro|(unfold rng;omega)|omega),LoadAt.cell (.int .i64 (vAt ws 0)) rfl rfl (λw hw=>hcell w (hw.in_ 0 rfl) 0 (by decide)) ?_⟩
  conv=>whnf
  refine ⟨(by (repeat' apply And.intro)<;>first|exact True.intro|(unfold rng;omega)|omega),LoadAt.cell (.int .i64 (vAt ws 1)) rfl rfl (λw hw=>hcell w (hw.in_ 0 rfl) 1 (by decide)) ?_⟩
  conv=>whnf
  refine ⟨(by (repeat' apply And.intro)<;>first|exact True.intro|(unfold rng;omega)|omega),?_⟩
  conv=>whnf
  refine ⟨(by (repeat' apply And.intro)<;>first|exact True.intro|(unfold rng;omega)|omega),LoadAt.cell (.int .i64 (vAt ws 2)) rfl rfl (λw hw=>hcell w (hw.in_ 0 rfl) 2 (by decide)) ?_⟩
  conv=>whnf
  have hyok:OpF.ok (⟨⟨2,0,0,0,0,vAt ws 0,vAt ws 1,0,0,vAt ws 2,0⟩,[],[],[]⟩:OpF):=⟨⟨i0,i0,i0,i0,vAt_i64 ws 0,vAt_i64 ws 1,i0,i0,vAt_i64 ws 2,i0⟩,(by show I64 2;unfold I64;omega),λc hc=>(by cases hc),λc hc=>(by cases hc)⟩
  have hyfew:OpF.few (⟨⟨2,0,0,0,0,vAt ws 0,vAt ws 1,0,0,vAt ws 2,0⟩,[],[],[]⟩:OpF):=⟨Nat.zero_le _,Nat.zero_le _,Nat.zero_le _⟩
  have hye:guessF 2 z ws=(⟨⟨2,0,0,0,0,vAt ws 0,vAt ws 1,0,0,vAt ws 2,0⟩,[],[],[]⟩:OpF):=rfl
  have hyn:named (⟨⟨2,0,0,0,0,vAt ws 0,vAt ws 1,0,0,vAt ws 2,0⟩,[],[],[]⟩:OpF)=(⟨⟨2,0,0,0,0,vAt ws 0,vAt ws 1,0,0,vAt ws 2,0⟩,[],[],[]⟩:OpF):=rfl
  obtain ⟨zz,hdoc,hze⟩:=sRfPrintAll (R:=emp) hyok hyfew (opH_nil (o:=⟨2,0,0,0,0,vAt ws 0,vAt ws 1,0,0,vAt ws 2,0⟩) emp λw s=>s)
  rw [hye] at hgl
  obtain ⟨hb,hhb⟩:∃ hb,hb=decide (HasLine (⟨⟨2,0,0,0,0,vAt ws 0,vAt ws 1,0,0,vAt ws 2,0⟩,[],[],[]⟩:OpF)):=⟨_,rfl⟩
  rw [← hhb] at hdoc
  refine ⟨(by (repeat' apply And.intro)<;>first|exact True.intro|(unfold rng;omega)|omega),CallAt.pure (λR' hR'=>hdoc R' λw s=>⟨λ_=>none,λi o e=>(by cases e),λi=>rfl⟩) ?_⟩
  cases hb
  rotate_left
  ·have hH:=of_decide_eq_true hhb.symm
   have hze:=hze hH
   by_cases hq:zz=s
   ·conv=>whnf
    refine ⟨λ_=>?_,λg=>absurd g (by decide)⟩
    conv=>whnf
    refine ⟨λg=>absurd g (by rw [hq];simp),λ_=>?_⟩
    conv=>whnf
    refine ⟨(by (repeat' apply And.intro)<;>first|exact True.intro|(unfold rng;omega)|omega),.mk [emp] (λw sw=>?_) ⟨qNil,(⟨⟨2,0,0,0,0,vAt ws 0,vAt ws 1,0,0,vAt ws 2,0⟩,[],[],[]⟩:OpF),true,rfl,⟨emp,rfl,opH_nil⟩,.inl ⟨rfl,hyok,hH,hyn,(by rw [← hze];exact hq)⟩⟩⟩
    obtain ⟨h,hs,s'⟩:=sw
    obtain ⟨h',e,s2⟩:=sub_nil s'
    exact ⟨h',hs.mono e,emp_in s2⟩
   ·conv=>whnf
    refine ⟨λ_=>?_,λg=>absurd g (by decide)⟩
    conv=>whnf
    refine ⟨λ_=>?_,λg=>absurd (bs_inj.1 (show bs zz=bs s by simpa using g)) hq⟩
    conv=>whnf
    refine ⟨(by (repeat' apply And.intro)<;>first|exact True.intro|(unfold rng;omega)|omega),.mk [emp] (λw sw=>?_) ⟨qNil,⟨⟨0,0,0,0,0,0,0,0,0,0,0⟩,[],[],[]⟩,false,rfl,⟨emp,rfl,opH_nil⟩,.inr ⟨rfl,rfl,λy hy=>?_⟩⟩⟩
    ·obtain ⟨h,hs,s'⟩:=sw
     obtain ⟨h',e,s2⟩:=sub_nil s'
     exact ⟨h',hs.mono e,emp_in s2⟩
    ·have e1:=hgl y hy
     rw [e1] at hze
     exact hq (hze.trans hy.2.2.2)
  ·have hH:=of_decide_eq_false hhb.symm
   conv=>whnf
   repeat (first|(refine ⟨λ_=>?_,λh=>absurd h (by decide)⟩;conv=>whnf)|(refine ⟨λh=>absurd h (by decide),λ_=>?_⟩;conv=>whnf))
   refine ⟨(by (repeat' apply And.intro)<;>first|exact True.intro|(unfold rng;omega)|omega),.mk [emp] (λw sw=>?_) ⟨qNil,⟨⟨0,0,0,0,0,0,0,0,0,0,0⟩,[],[],[]⟩,false,rfl,⟨emp,rfl,opH_nil⟩,.inr ⟨rfl,rfl,λy hy=>?_⟩⟩⟩
   ·obtain ⟨h,hs,s'⟩:=sw
    obtain ⟨h',e,s2⟩:=sub_nil s'
    exact ⟨h',hs.mono e,emp_in s2⟩
   ·have e1:=hgl y hy
    rw [e1] at hH
    exact hH hy.2.1
 ·obtain rfl:5=cn:=hcn
  conv=>whnf
  repeat (first|(refine ⟨λ_=>?_,λh=>absurd h (by decide)⟩;conv=>whnf)|(refine ⟨λh=>absurd h (by decide),λ_=>?_⟩;conv=>whnf))
  refine ⟨(by (repeat' apply And.intro)<;>first|exact True.intro|(unfold rng;omega)|omega),RegAt.tail 14 hmix (by kernel_rfl) ?_⟩
  conv=>whnf
  refine ⟨(by (repeat' apply And.intro)<;>first|exact True.intro|(unfold rng;omega)|omega),LoadAt.cell (.int .i64 (vAt ws 0)) rfl rfl (λw hw=>hcell w (hw.in_ 0 rfl) 0 (by decide)) ?_⟩
  conv=>whnf
  refine ⟨(by (repeat' apply And.intro)<;>first|exact True.intro|(unfold rng;omega)|omega),LoadAt.cell (.int .i64 (vAt ws 1)) rfl rfl (λw hw=>hcell w (hw.in_ 0 rfl) 1 (by decide)) ?_⟩
  conv=>whnf
  refine ⟨(by (repeat' apply And.intro)<;>first|exact True.intro|(unfold rng;omega)|omega),LoadAt.cell (.int .i64 (vAt ws 2)) rfl rfl (λw hw=>hcell w (hw.in_ 0 rfl) 2 (by decide)) ?_⟩
  conv=>whnf
  refine ⟨(by (repeat' apply And.intro)<;>first|exact True.intro|(unfold rng;omega)|omega),LoadAt.cell (.int .i64 (vAt ws 3)) rfl rfl (λw hw=>hcell w (hw.in_ 0 rfl) 3 (by decide)) ?_⟩
  conv=>whnf
  refine ⟨(by (repeat' apply And.intro)<;>first|exact True.intro|(unfold rng;omega)|omega),?_⟩
  conv=>whnf
  refine ⟨(by (repeat' apply And.intro)<;>first|exact True.intro|(unfold rng;omega)|omega),LoadAt.cell (.int .i64 (vAt ws 4)) rfl rfl (λw hw=>hcell w (hw.in_ 0 rfl) 4 (by decide)) ?_⟩
  conv=>whnf
  have hyok:OpF.ok (⟨⟨3,vAt ws 0,vAt ws 1,vAt ws 2,vAt ws 3,0,0,0,0,vAt ws 4,0⟩,[],[],[]⟩:OpF):=⟨⟨vAt_i64 ws 0,vAt_i64 ws 1,vAt_i64 ws 2,vAt_i64 ws 3,i0,i0,i0,i0,vAt_i64 ws 4,i0⟩,(by show I64 3;unfold I64;omega),λc hc=>(by cases hc),λc hc=>(by cases hc)⟩
  have hyfew:OpF.few (⟨⟨3,vAt ws 0,vAt ws 1,vAt ws 2,vAt ws 3,0,0,0,0,vAt ws 4,0⟩,[],[],[]⟩:OpF):=⟨Nat.zero_le _,Nat.zero_le _,Nat.zero_le _⟩
  have hye:guessF 3 z ws=(⟨⟨3,vAt ws 0,vAt ws 1,vAt ws 2,vAt ws 3,0,0,0,0,vAt ws 4,0⟩,[],[],[]⟩:OpF):=rfl
  have hyn:named (⟨⟨3,vAt ws 0,vAt ws 1,vAt ws 2,vAt ws 3,0,0,0,0,vAt ws 4,0⟩,[],[],[]⟩:OpF)=(⟨⟨3,vAt ws 0,vAt ws 1,vAt ws 2,vAt ws 3,0,0,0,0,vAt ws 4,0⟩,[],[],[]⟩:OpF):=rfl
  obtain ⟨zz,hdoc,hze⟩:=sRfPrintAll (R:=emp) hyok hyfew (opH_nil (o:=⟨3,vAt ws 0,vAt ws 1,vAt ws 2,vAt ws 3,0,0,0,0,vAt ws 4,0⟩) emp λw s=>s)
  rw [hye] at hgl
  obtain ⟨hb,hhb⟩:∃ hb,hb=decide (HasLine (⟨⟨3,vAt ws 0,vAt ws 1,vAt ws 2,vAt ws 3,0,0,0,0,vAt ws 4,0⟩,[],[],[]⟩:OpF)):=⟨_,rfl⟩
  rw [← hhb] at hdoc
  refine ⟨(by (repeat' apply And.intro)<;>first|exact True.intro|(unfold rng;omega)|omega),CallAt.pure (λR' hR'=>hdoc R' λw s=>⟨λ_=>none,λi o e=>(by cases e),λi=>rfl⟩) ?_⟩
  cases hb
  rotate_left
  ·have hH:=of_decide_eq_true hhb.symm
   have hze:=hze hH
   by_cases hq:zz=s
   ·conv=>whnf
    refine ⟨λ_=>?_,λg=>absurd g (by decide)⟩
    conv=>whnf
    refine ⟨λg=>absurd g (by rw [hq];simp),λ_=>?_⟩
    conv=>whnf
    refine ⟨(by (repeat' apply And.intro)<;>first|exact True.intro|(unfold rng;omega)|omega),.mk [emp] (λw sw=>?_) ⟨qNil,(⟨⟨3,vAt ws 0,vAt ws 1,vAt ws 2,vAt ws 3,0,0,0,0,vAt ws 4,0⟩,[],[],[]⟩:OpF),true,rfl,⟨emp,rfl,opH_nil⟩,.inl ⟨rfl,hyok,hH,hyn,(by rw [← hze];exact hq)⟩⟩⟩
    obtain ⟨h,hs,s'⟩:=sw
    obtain ⟨h',e,s2⟩:=sub_nil s'
    exact ⟨h',hs.mono e,emp_in s2⟩
   ·conv=>whnf
    refine ⟨λ_=>?_,λg=>absurd g (by decide)⟩
    conv=>whnf
    refine ⟨λ_=>?_,λg=>absurd (bs_inj.1 (show bs zz=bs s by simpa using g)) hq⟩
    conv=>whnf
    refine ⟨(by (repeat' apply And.intro)<;>first|exact True.intro|(unfold rng;omega)|omega),.mk [emp] (λw sw=>?_) ⟨qNil,⟨⟨0,0,0,0,0,0,0,0,0,0,0⟩,[],[],[]⟩,false,rfl,⟨emp,rfl,opH_nil⟩,.inr ⟨rfl,rfl,λy hy=>?_⟩⟩⟩
    ·obtain ⟨h,hs,s'⟩:=sw
     obtain ⟨h',e,s2⟩:=sub_nil s'
     exact ⟨h',hs.mono e,emp_in s2⟩
    ·have e1:=hgl y hy
     rw [e1] at hze
     exact hq (hze.trans hy.2.2.2)
  ·have hH:=of_decide_eq_false hhb.symm
   conv=>whnf
   repeat (first|(refine ⟨λ_=>?_,λh=>absurd h (by decide)⟩;conv=>whnf)|(refine ⟨λh=>absurd h (by decide),λ_=>?_⟩;conv=>whnf))
   refine ⟨(by (repeat' apply And.intro)<;>first|exact True.intro|(unfold rng;omega)|omega),.mk [emp] (λw sw=>?_) ⟨qNil,⟨⟨0,0,0,0,0,0,0,0,0,0,0⟩,[],[],[]⟩,false,rfl,⟨emp,rfl,opH_nil⟩,.inr ⟨rfl,rfl,λy hy=>?_⟩⟩⟩
   ·obtain ⟨h,hs,s'⟩:=sw
    obtain ⟨h',e,s2⟩:=sub_nil s'
    exact ⟨h',hs.mono e,emp_in s2⟩
   ·have e1:=hgl y hy
    rw [e1] at hH
    exact hH hy.2.1
 ·obtain rfl:4=cn:=hcn
  have hla2:=hlw2 (by omega)
  conv=>whnf
  repeat (first|(refine ⟨λ_=>?_,λh=>absurd h (by decide)⟩;conv=>whnf)|(refine ⟨λh=>absurd h (by decide),λ_=>?_⟩;conv=>whnf))
  refine ⟨(by (repeat' apply And.intro)<;>first|exact True.intro|(unfold rng;omega)|omega),RegAt.tail 14 hmix (by kernel_rfl) ?_⟩
  conv=>whnf
  refine ⟨(by (repeat' apply And.intro)<;>first|exact True.intro|(unfold rng;omega)|omega),LoadAt.cell (.int .i64 (vAt ws 0)) rfl rfl (λw hw=>hcell w (hw.in_ 0 rfl) 0 (by decide)) ?_⟩
  conv=>whnf
  refine ⟨(by (repeat' apply And.intro)<;>first|exact True.intro|(unfold rng;omega)|omega),LoadAt.cell (.int .i64 (vAt ws 1)) rfl rfl (λw hw=>hcell w (hw.in_ 0 rfl) 1 (by decide)) ?_⟩
  conv=>whnf
  refine ⟨(by (repeat' apply And.intro)<;>first|exact True.intro|(unfold rng;omega)|omega),LoadAt.cell (.int .i64 (vAt ws 2)) rfl rfl (λw hw=>hcell w (hw.in_ 0 rfl) 2 (by decide)) ?_⟩
  conv=>whnf
  refine ⟨(by (repeat' apply And.intro)<;>first|exact True.intro|(unfold rng;omega)|omega),LoadAt.cell (.int .i64 (vAt ws 3)) rfl rfl (λw hw=>hcell w (hw.in_ 0 rfl) 3 (by decide)) ?_⟩
  conv=>whnf
  refine ⟨(by (repeat' apply And.intro)<;>first|exact True.intro|(unfold rng;omega)|omega),?_⟩
  conv=>whnf
  refine ⟨(by (repeat' apply And.intro)<;>first|exact True.intro|(unfold rng;omega)|omega),CallAt.fn (pre:=[]) _ (λh s=>s) (λR' hR'=>sRfSplit (R:=R') 44 la (by omega)) ?_⟩
  rintro r hs' ⟨Bs,cs,rfl,rfl⟩
  conv=>whnf
  refine ⟨trivial,CallAt.fn (pre:=[]) _ (λh s=>s) (λR' hR'=>sRfNumsV (R:=R') (pcs 44 la) rfl (by have:=pcs_len 44 la;have h3:la.count 44≤la.length:=List.count_le_length;omega) (λp hp=>by have:=pcs_mem_len hp;omega) (Sl.row λw s=>(hR' w s).in_ 0 rfl)) ?_⟩
  have hye:guessF 4 z ws=⟨⟨4,vAt ws 0,vAt ws 1,vAt ws 2,vAt ws 3,0,0,0,0,0,0⟩,listG la,[],[]⟩:=by rw [← hla];rfl
  unfold listG at hye
  rintro r hs' (⟨hno2,rfl,rfl⟩|⟨vals,hyes2,hvals,Bv,cv,hcv,rfl,rfl⟩)
  ·conv=>whnf
   rw [if_neg (by rw [hno2];decide)] at hye
   have hyok:OpF.ok (⟨⟨4,vAt ws 0,vAt ws 1,vAt ws 2,vAt ws 3,0,0,0,0,0,0⟩,[],[],[]⟩:OpF):=⟨⟨vAt_i64 ws 0,vAt_i64 ws 1,vAt_i64 ws 2,vAt_i64 ws 3,i0,i0,i0,i0,i0,i0⟩,(by show I64 4;unfold I64;omega),λc hc=>(by cases hc),λc hc=>(by cases hc)⟩
   have hyfew:OpF.few (⟨⟨4,vAt ws 0,vAt ws 1,vAt ws 2,vAt ws 3,0,0,0,0,0,0⟩,[],[],[]⟩:OpF):=⟨Nat.zero_le _,Nat.zero_le _,Nat.zero_le _⟩
   have hyn:named (⟨⟨4,vAt ws 0,vAt ws 1,vAt ws 2,vAt ws 3,0,0,0,0,0,0⟩,[],[],[]⟩:OpF)=(⟨⟨4,vAt ws 0,vAt ws 1,vAt ws 2,vAt ws 3,0,0,0,0,0,0⟩,[],[],[]⟩:OpF):=rfl
   obtain ⟨zz,hdoc,hze⟩:=sRfPrintAll (R:=emp) hyok hyfew (opH_nil (o:=⟨4,vAt ws 0,vAt ws 1,vAt ws 2,vAt ws 3,0,0,0,0,0,0⟩) emp λw s=>s)
   rw [hye] at hgl
   obtain ⟨hb,hhb⟩:∃ hb,hb=decide (HasLine (⟨⟨4,vAt ws 0,vAt ws 1,vAt ws 2,vAt ws 3,0,0,0,0,0,0⟩,[],[],[]⟩:OpF)):=⟨_,rfl⟩
   rw [← hhb] at hdoc
   refine ⟨(by (repeat' apply And.intro)<;>first|exact True.intro|(unfold rng;omega)|omega),CallAt.pure (λR' hR'=>hdoc R' λw s=>⟨λ_=>none,λi o e=>(by cases e),λi=>rfl⟩) ?_⟩
   cases hb
   rotate_left
   ·have hH:=of_decide_eq_true hhb.symm
    have hze:=hze hH
    by_cases hq:zz=s
    ·conv=>whnf
     refine ⟨λ_=>?_,λg=>absurd g (by decide)⟩
     conv=>whnf
     refine ⟨λg=>absurd g (by rw [hq];simp),λ_=>?_⟩
     conv=>whnf
     refine ⟨(by (repeat' apply And.intro)<;>first|exact True.intro|(unfold rng;omega)|omega),.mk [emp] (λw sw=>?_) ⟨qNil,(⟨⟨4,vAt ws 0,vAt ws 1,vAt ws 2,vAt ws 3,0,0,0,0,0,0⟩,[],[],[]⟩:OpF),true,rfl,⟨emp,rfl,opH_nil⟩,.inl ⟨rfl,hyok,hH,hyn,(by rw [← hze];exact hq)⟩⟩⟩
     obtain ⟨h,hs,s'⟩:=sw
     obtain ⟨h',e,s2⟩:=sub_nil s'
     exact ⟨h',hs.mono e,emp_in s2⟩
    ·conv=>whnf
     refine ⟨λ_=>?_,λg=>absurd g (by decide)⟩
     conv=>whnf
     refine ⟨λ_=>?_,λg=>absurd (bs_inj.1 (show bs zz=bs s by simpa using g)) hq⟩
     conv=>whnf
     refine ⟨(by (repeat' apply And.intro)<;>first|exact True.intro|(unfold rng;omega)|omega),.mk [emp] (λw sw=>?_) ⟨qNil,⟨⟨0,0,0,0,0,0,0,0,0,0,0⟩,[],[],[]⟩,false,rfl,⟨emp,rfl,opH_nil⟩,.inr ⟨rfl,rfl,λy hy=>?_⟩⟩⟩
     ·obtain ⟨h,hs,s'⟩:=sw
      obtain ⟨h',e,s2⟩:=sub_nil s'
      exact ⟨h',hs.mono e,emp_in s2⟩
     ·have e1:=hgl y hy
      rw [e1] at hze
      exact hq (hze.trans hy.2.2.2)
   ·have hH:=of_decide_eq_false hhb.symm
    conv=>whnf
    repeat (first|(refine ⟨λ_=>?_,λh=>absurd h (by decide)⟩;conv=>whnf)|(refine ⟨λh=>absurd h (by decide),λ_=>?_⟩;conv=>whnf))
    refine ⟨(by (repeat' apply And.intro)<;>first|exact True.intro|(unfold rng;omega)|omega),.mk [emp] (λw sw=>?_) ⟨qNil,⟨⟨0,0,0,0,0,0,0,0,0,0,0⟩,[],[],[]⟩,false,rfl,⟨emp,rfl,opH_nil⟩,.inr ⟨rfl,rfl,λy hy=>?_⟩⟩⟩
    ·obtain ⟨h,hs,s'⟩:=sw
     obtain ⟨h',e,s2⟩:=sub_nil s'
     exact ⟨h',hs.mono e,emp_in s2⟩
    ·have e1:=hgl y hy
     rw [e1] at hH
     exact hH hy.2.1
  ·conv=>whnf
   rw [if_pos hyes2,← hvals] at hye
   have hvl:vals.length≤3000:=by rw [hvals,List.length_map,pcs_len];have h3:la.count 44≤la.length:=List.count_le_length;omega
   have hvi:∀ c∈vals,I64 c:=λc hc=>by rw [hvals] at hc;obtain ⟨p,_,rfl⟩:=List.mem_map.1 hc;exact read_rng
   have hyok:OpF.ok (⟨⟨4,vAt ws 0,vAt ws 1,vAt ws 2,vAt ws 3,0,0,0,0,0,0⟩,vals,[],[]⟩:OpF):=⟨⟨vAt_i64 ws 0,vAt_i64 ws 1,vAt_i64 ws 2,vAt_i64 ws 3,i0,i0,i0,i0,i0,i0⟩,(by show I64 4;unfold I64;omega),hvi,λc hc=>(by cases hc)⟩
   have hyfew:OpF.few (⟨⟨4,vAt ws 0,vAt ws 1,vAt ws 2,vAt ws 3,0,0,0,0,0,0⟩,vals,[],[]⟩:OpF):=⟨hvl,Nat.zero_le _,Nat.zero_le _⟩
   have hyn:named (⟨⟨4,vAt ws 0,vAt ws 1,vAt ws 2,vAt ws 3,0,0,0,0,0,0⟩,vals,[],[]⟩:OpF)=(⟨⟨4,vAt ws 0,vAt ws 1,vAt ws 2,vAt ws 3,0,0,0,0,0,0⟩,vals,[],[]⟩:OpF):=rfl
   have hyh:OpH ⟨some ⟨Bv,0,none⟩,cv,none,0,none,0⟩ (⟨⟨4,vAt ws 0,vAt ws 1,vAt ws 2,vAt ws 3,0,0,0,0,0,0⟩,vals,[],[]⟩:OpF) (rowH (.slice (some ⟨Bv,0,none⟩) vals.length cv) vals.length 2 1 (vals.flatMap numL)):=λR2 h2=>⟨Sl.row h2,Sl.nil _ _ _,Sl.nil _ _ _,hcv,⟨Nat.le_refl _,Nat.zero_le _⟩,⟨Nat.le_refl _,Nat.zero_le _⟩⟩
   obtain ⟨zz,hdoc,hze⟩:=sRfPrintAll hyok hyfew (hyh _ λw s=>s)
   rw [hye] at hgl
   obtain ⟨hb,hhb⟩:∃ hb,hb=decide (HasLine (⟨⟨4,vAt ws 0,vAt ws 1,vAt ws 2,vAt ws 3,0,0,0,0,0,0⟩,vals,[],[]⟩:OpF)):=⟨_,rfl⟩
   rw [← hhb] at hdoc
   refine ⟨(by (repeat' apply And.intro)<;>first|exact True.intro|(unfold rng;omega)|omega),CallAt.pure (λR' hR'=>hdoc R' λw s=>(hR' w s).in_ 0 rfl) ?_⟩
   cases hb
   rotate_left
   ·have hH:=of_decide_eq_true hhb.symm
    have hze:=hze hH
    by_cases hq:zz=s
    ·conv=>whnf
     refine ⟨λ_=>?_,λg=>absurd g (by decide)⟩
     conv=>whnf
     refine ⟨λg=>absurd g (by rw [hq];simp),λ_=>?_⟩
     conv=>whnf
     refine ⟨(by (repeat' apply And.intro)<;>first|exact True.intro|(unfold rng;omega)|omega),.mk [rowH (.slice (some ⟨Bv,0,none⟩) vals.length cv) vals.length 2 1 (vals.flatMap numL)] (λw sw=>?_) ⟨⟨some ⟨Bv,0,none⟩,cv,none,0,none,0⟩,(⟨⟨4,vAt ws 0,vAt ws 1,vAt ws 2,vAt ws 3,0,0,0,0,0,0⟩,vals,[],[]⟩:OpF),true,rfl,⟨rowH (.slice (some ⟨Bv,0,none⟩) vals.length cv) vals.length 2 1 (vals.flatMap numL),rfl,hyh⟩,.inl ⟨rfl,hyok,hH,hyn,(by rw [← hze];exact hq)⟩⟩⟩
     obtain ⟨h,hs,s'⟩:=sw
     obtain ⟨h',e,s2⟩:=sub_front (m:=[rowH (.slice (some ⟨Bv,0,none⟩) vals.length cv) vals.length 2 1 (vals.flatMap numL)]) (sepL_pull 0 s')
     exact ⟨h',hs.mono e,s2⟩
    ·conv=>whnf
     refine ⟨λ_=>?_,λg=>absurd g (by decide)⟩
     conv=>whnf
     refine ⟨λ_=>?_,λg=>absurd (bs_inj.1 (show bs zz=bs s by simpa using g)) hq⟩
     conv=>whnf
     refine ⟨(by (repeat' apply And.intro)<;>first|exact True.intro|(unfold rng;omega)|omega),.mk [emp] (λw sw=>?_) ⟨qNil,⟨⟨0,0,0,0,0,0,0,0,0,0,0⟩,[],[],[]⟩,false,rfl,⟨emp,rfl,opH_nil⟩,.inr ⟨rfl,rfl,λy hy=>?_⟩⟩⟩
     ·obtain ⟨h,hs,s'⟩:=sw
      obtain ⟨h',e,s2⟩:=sub_nil s'
      exact ⟨h',hs.mono e,emp_in s2⟩
     ·have e1:=hgl y hy
      rw [e1] at hze
      exact hq (hze.trans hy.2.2.2)
   ·have hH:=of_decide_eq_false hhb.symm
    conv=>whnf
    repeat (first|(refine ⟨λ_=>?_,λh=>absurd h (by decide)⟩;conv=>whnf)|(refine ⟨λh=>absurd h (by decide),λ_=>?_⟩;conv=>whnf))
    refine ⟨(by (repeat' apply And.intro)<;>first|exact True.intro|(unfold rng;omega)|omega),.mk [emp] (λw sw=>?_) ⟨qNil,⟨⟨0,0,0,0,0,0,0,0,0,0,0⟩,[],[],[]⟩,false,rfl,⟨emp,rfl,opH_nil⟩,.inr ⟨rfl,rfl,λy hy=>?_⟩⟩⟩
    ·obtain ⟨h,hs,s'⟩:=sw
     obtain ⟨h',e,s2⟩:=sub_nil s'
     exact ⟨h',hs.mono e,emp_in s2⟩
    ·have e1:=hgl y hy
     rw [e1] at hH
     exact hH hy.2.1
 ·obtain rfl:5=cn:=hcn
  conv=>whnf
  repeat (first|(refine ⟨λ_=>?_,λh=>absurd h (by decide)⟩;conv=>whnf)|(refine ⟨λh=>absurd h (by decide),λ_=>?_⟩;conv=>whnf))
  refine ⟨(by (repeat' apply And.intro)<;>first|exact True.intro|(unfold rng;omega)|omega),RegAt.tail 14 hmix (by kernel_rfl) ?_⟩
  conv=>whnf
  refine ⟨(by (repeat' apply And.intro)<;>first|exact True.intro|(unfold rng;omega)|omega),LoadAt.cell (.int .i64 (vAt ws 0)) rfl rfl (λw hw=>hcell w (hw.in_ 0 rfl) 0 (by decide)) ?_⟩
  conv=>whnf
  refine ⟨(by (repeat' apply And.intro)<;>first|exact True.intro|(unfold rng;omega)|omega),LoadAt.cell (.int .i64 (vAt ws 1)) rfl rfl (λw hw=>hcell w (hw.in_ 0 rfl) 1 (by decide)) ?_⟩
  conv=>whnf
  refine ⟨(by (repeat' apply And.intro)<;>first|exact True.intro|(unfold rng;omega)|omega),LoadAt.cell (.int .i64 (vAt ws 2)) rfl rfl (λw hw=>hcell w (hw.in_ 0 rfl) 2 (by decide)) ?_⟩
  conv=>whnf
  refine ⟨(by (repeat' apply And.intro)<;>first|exact True.intro|(unfold rng;omega)|omega),LoadAt.cell (.int .i64 (vAt ws 3)) rfl rfl (λw hw=>hcell w (hw.in_ 0 rfl) 3 (by decide)) ?_⟩
  conv=>whnf
  refine ⟨(by (repeat' apply And.intro)<;>first|exact True.intro|(unfold rng;omega)|omega),?_⟩
  conv=>whnf
  refine ⟨(by (repeat' apply And.intro)<;>first|exact True.intro|(unfold rng;omega)|omega),LoadAt.cell (.int .i64 (vAt ws 4)) rfl rfl (λw hw=>hcell w (hw.in_ 0 rfl) 4 (by decide)) ?_⟩
  conv=>whnf
  have hyok:OpF.ok (⟨⟨5,vAt ws 0,vAt ws 1,vAt ws 2,vAt ws 3,0,0,0,0,vAt ws 4,0⟩,[],[],[]⟩:OpF):=⟨⟨vAt_i64 ws 0,vAt_i64 ws 1,vAt_i64 ws 2,vAt_i64 ws 3,i0,i0,i0,i0,vAt_i64 ws 4,i0⟩,(by show I64 5;unfold I64;omega),λc hc=>(by cases hc),λc hc=>(by cases hc)⟩
  have hyfew:OpF.few (⟨⟨5,vAt ws 0,vAt ws 1,vAt ws 2,vAt ws 3,0,0,0,0,vAt ws 4,0⟩,[],[],[]⟩:OpF):=⟨Nat.zero_le _,Nat.zero_le _,Nat.zero_le _⟩
  have hye:guessF 5 z ws=(⟨⟨5,vAt ws 0,vAt ws 1,vAt ws 2,vAt ws 3,0,0,0,0,vAt ws 4,0⟩,[],[],[]⟩:OpF):=rfl
  have hyn:named (⟨⟨5,vAt ws 0,vAt ws 1,vAt ws 2,vAt ws 3,0,0,0,0,vAt ws 4,0⟩,[],[],[]⟩:OpF)=(⟨⟨5,vAt ws 0,vAt ws 1,vAt ws 2,vAt ws 3,0,0,0,0,vAt ws 4,0⟩,[],[],[]⟩:OpF):=rfl
  obtain ⟨zz,hdoc,hze⟩:=sRfPrintAll (R:=emp) hyok hyfew (opH_nil (o:=⟨5,vAt ws 0,vAt ws 1,vAt ws 2,vAt ws 3,0,0,0,0,vAt ws 4,0⟩) emp λw s=>s)
  rw [hye] at hgl
  obtain ⟨hb,hhb⟩:∃ hb,hb=decide (HasLine (⟨⟨5,vAt ws 0,vAt ws 1,vAt ws 2,vAt ws 3,0,0,0,0,vAt ws 4,0⟩,[],[],[]⟩:OpF)):=⟨_,rfl⟩
  rw [← hhb] at hdoc
  refine ⟨(by (repeat' apply And.intro)<;>first|exact True.intro|(unfold rng;omega)|omega),CallAt.pure (λR' hR'=>hdoc R' λw s=>⟨λ_=>none,λi o e=>(by cases e),λi=>rfl⟩) ?_⟩
  cases hb
  rotate_left
  ·have hH:=of_decide_eq_true hhb.symm
   have hze:=hze hH
   by_cases hq:zz=s
   ·conv=>whnf
    refine ⟨λ_=>?_,λg=>absurd g (by decide)⟩
    conv=>whnf
    refine ⟨λg=>absurd g (by rw [hq];simp),λ_=>?_⟩
    conv=>whnf
    refine ⟨(by (repeat' apply And.intro)<;>first|exact True.intro|(unfold rng;omega)|omega),.mk [emp] (λw sw=>?_) ⟨qNil,(⟨⟨5,vAt ws 0,vAt ws 1,vAt ws 2,vAt ws 3,0,0,0,0,vAt ws 4,0⟩,[],[],[]⟩:OpF),true,rfl,⟨emp,rfl,opH_nil⟩,.inl ⟨rfl,hyok,hH,hyn,(by rw [← hze];exact hq)⟩⟩⟩
    obtain ⟨h,hs,s'⟩:=sw
    obtain ⟨h',e,s2⟩:=sub_nil s'
    exact ⟨h',hs.mono e,emp_in s2⟩
   ·conv=>whnf
    refine ⟨λ_=>?_,λg=>absurd g (by decide)⟩
    conv=>whnf
    refine ⟨λ_=>?_,λg=>absurd (bs_inj.1 (show bs zz=bs s by simpa using g)) hq⟩
    conv=>whnf
    refine ⟨(by (repeat' apply And.intro)<;>first|exact True.intro|(unfold rng;omega)|omega),.mk [emp] (λw sw=>?_) ⟨qNil,⟨⟨0,0,0,0,0,0,0,0,0,0,0⟩,[],[],[]⟩,false,rfl,⟨emp,rfl,opH_nil⟩,.inr ⟨rfl,rfl,λy hy=>?_⟩⟩⟩
    ·obtain ⟨h,hs,s'⟩:=sw
     obtain ⟨h',e,s2⟩:=sub_nil s'
     exact ⟨h',hs.mono e,emp_in s2⟩
    ·have e1:=hgl y hy
     rw [e1] at hze
     exact hq (hze.trans hy.2.2.2)
  ·have hH:=of_decide_eq_false hhb.symm
   conv=>whnf
   repeat (first|(refine ⟨λ_=>?_,λh=>absurd h (by decide)⟩;conv=>whnf)|(refine ⟨λh=>absurd h (by decide),λ_=>?_⟩;conv=>whnf))
   refine ⟨(by (repeat' apply And.intro)<;>first|exact True.intro|(unfold rng;omega)|omega),.mk [emp] (λw sw=>?_) ⟨qNil,⟨⟨0,0,0,0,0,0,0,0,0,0,0⟩,[],[],[]⟩,false,rfl,⟨emp,rfl,opH_nil⟩,.inr ⟨rfl,rfl,λy hy=>?_⟩⟩⟩
   ·obtain ⟨h,hs,s'⟩:=sw
    obtain ⟨h',e,s2⟩:=sub_nil s'
    exact ⟨h',hs.mono e,emp_in s2⟩
   ·have e1:=hgl y hy
    rw [e1] at hH
    exact hH hy.2.1
 ·obtain rfl:2=cn:=hcn
  conv=>whnf
  repeat (first|(refine ⟨λ_=>?_,λh=>absurd h (by decide)⟩;conv=>whnf)|(refine ⟨λh=>absurd h (by decide),λ_=>?_⟩;conv=>whnf))
  refine ⟨(by (repeat' apply And.intro)<;>first|exact True.intro|(unfold rng;omega)|omega),RegAt.tail 8 hmix (by kernel_rfl) ?_⟩
  conv=>whnf
  refine ⟨(by (repeat' apply And.intro)<;>first|exact True.intro|(unfold rng;omega)|omega),LoadAt.cell (.int .i64 (vAt ws 0)) rfl rfl (λw hw=>hcell w (hw.in_ 0 rfl) 0 (by decide)) ?_⟩
  conv=>whnf
  refine ⟨(by (repeat' apply And.intro)<;>first|exact True.intro|(unfold rng;omega)|omega),LoadAt.cell (.int .i64 (vAt ws 1)) rfl rfl (λw hw=>hcell w (hw.in_ 0 rfl) 1 (by decide)) ?_⟩
  conv=>whnf
  refine ⟨(by (repeat' apply And.intro)<;>first|exact True.intro|(unfold rng;omega)|omega),?_⟩
  conv=>whnf
  have hyok:OpF.ok (⟨⟨6,0,0,0,0,vAt ws 0,vAt ws 1,0,0,0,0⟩,[],[],[]⟩:OpF):=⟨⟨i0,i0,i0,i0,vAt_i64 ws 0,vAt_i64 ws 1,i0,i0,i0,i0⟩,(by show I64 6;unfold I64;omega),λc hc=>(by cases hc),λc hc=>(by cases hc)⟩
  have hyfew:OpF.few (⟨⟨6,0,0,0,0,vAt ws 0,vAt ws 1,0,0,0,0⟩,[],[],[]⟩:OpF):=⟨Nat.zero_le _,Nat.zero_le _,Nat.zero_le _⟩
  have hye:guessF 6 z ws=(⟨⟨6,0,0,0,0,vAt ws 0,vAt ws 1,0,0,0,0⟩,[],[],[]⟩:OpF):=rfl
  have hyn:named (⟨⟨6,0,0,0,0,vAt ws 0,vAt ws 1,0,0,0,0⟩,[],[],[]⟩:OpF)=(⟨⟨6,0,0,0,0,vAt ws 0,vAt ws 1,0,0,0,0⟩,[],[],[]⟩:OpF):=rfl
  obtain ⟨zz,hdoc,hze⟩:=sRfPrintAll (R:=emp) hyok hyfew (opH_nil (o:=⟨6,0,0,0,0,vAt ws 0,vAt ws 1,0,0,0,0⟩) emp λw s=>s)
  rw [hye] at hgl
  obtain ⟨hb,hhb⟩:∃ hb,hb=decide (HasLine (⟨⟨6,0,0,0,0,vAt ws 0,vAt ws 1,0,0,0,0⟩,[],[],[]⟩:OpF)):=⟨_,rfl⟩
  rw [← hhb] at hdoc
  refine ⟨(by (repeat' apply And.intro)<;>first|exact True.intro|(unfold rng;omega)|omega),CallAt.pure (λR' hR'=>hdoc R' λw s=>⟨λ_=>none,λi o e=>(by cases e),λi=>rfl⟩) ?_⟩
  cases hb
  rotate_left
  ·have hH:=of_decide_eq_true hhb.symm
   have hze:=hze hH
   by_cases hq:zz=s
   ·conv=>whnf
    refine ⟨λ_=>?_,λg=>absurd g (by decide)⟩
    conv=>whnf
    refine ⟨λg=>absurd g (by rw [hq];simp),λ_=>?_⟩
    conv=>whnf
    refine ⟨(by (repeat' apply And.intro)<;>first|exact True.intro|(unfold rng;omega)|omega),.mk [emp] (λw sw=>?_) ⟨qNil,(⟨⟨6,0,0,0,0,vAt ws 0,vAt ws 1,0,0,0,0⟩,[],[],[]⟩:OpF),true,rfl,⟨emp,rfl,opH_nil⟩,.inl ⟨rfl,hyok,hH,hyn,(by rw [← hze];exact hq)⟩⟩⟩
    obtain ⟨h,hs,s'⟩:=sw
    obtain ⟨h',e,s2⟩:=sub_nil s'
    exact ⟨h',hs.mono e,emp_in s2⟩
   ·conv=>whnf
    refine ⟨λ_=>?_,λg=>absurd g (by decide)⟩
    conv=>whnf
    refine ⟨λ_=>?_,λg=>absurd (bs_inj.1 (show bs zz=bs s by simpa using g)) hq⟩
    conv=>whnf
    refine ⟨(by (repeat' apply And.intro)<;>first|exact True.intro|(unfold rng;omega)|omega),.mk [emp] (λw sw=>?_) ⟨qNil,⟨⟨0,0,0,0,0,0,0,0,0,0,0⟩,[],[],[]⟩,false,rfl,⟨emp,rfl,opH_nil⟩,.inr ⟨rfl,rfl,λy hy=>?_⟩⟩⟩
    ·obtain ⟨h,hs,s'⟩:=sw
     obtain ⟨h',e,s2⟩:=sub_nil s'
     exact ⟨h',hs.mono e,emp_in s2⟩
    ·have e1:=hgl y hy
     rw [e1] at hze
     exact hq (hze.trans hy.2.2.2)
  ·have hH:=of_decide_eq_false hhb.symm
   conv=>whnf
   repeat (first|(refine ⟨λ_=>?_,λh=>absurd h (by decide)⟩;conv=>whnf)|(refine ⟨λh=>absurd h (by decide),λ_=>?_⟩;conv=>whnf))
   refine ⟨(by (repeat' apply And.intro)<;>first|exact True.intro|(unfold rng;omega)|omega),.mk [emp] (λw sw=>?_) ⟨qNil,⟨⟨0,0,0,0,0,0,0,0,0,0,0⟩,[],[],[]⟩,false,rfl,⟨emp,rfl,opH_nil⟩,.inr ⟨rfl,rfl,λy hy=>?_⟩⟩⟩
   ·obtain ⟨h,hs,s'⟩:=sw
    obtain ⟨h',e,s2⟩:=sub_nil s'
    exact ⟨h',hs.mono e,emp_in s2⟩
   ·have e1:=hgl y hy
    rw [e1] at hH
    exact hH hy.2.1
 ·obtain rfl:4=cn:=hcn
  conv=>whnf
  repeat (first|(refine ⟨λ_=>?_,λh=>absurd h (by decide)⟩;conv=>whnf)|(refine ⟨λh=>absurd h (by decide),λ_=>?_⟩;conv=>whnf))
  refine ⟨(by (repeat' apply And.intro)<;>first|exact True.intro|(unfold rng;omega)|omega),RegAt.tail 14 hmix (by kernel_rfl) ?_⟩
  conv=>whnf
  refine ⟨(by (repeat' apply And.intro)<;>first|exact True.intro|(unfold rng;omega)|omega),LoadAt.cell (.int .i64 (vAt ws 0)) rfl rfl (λw hw=>hcell w (hw.in_ 0 rfl) 0 (by decide)) ?_⟩
  conv=>whnf
  refine ⟨(by (repeat' apply And.intro)<;>first|exact True.intro|(unfold rng;omega)|omega),LoadAt.cell (.int .i64 (vAt ws 1)) rfl rfl (λw hw=>hcell w (hw.in_ 0 rfl) 1 (by decide)) ?_⟩
  conv=>whnf
  refine ⟨(by (repeat' apply And.intro)<;>first|exact True.intro|(unfold rng;omega)|omega),LoadAt.cell (.int .i64 (vAt ws 2)) rfl rfl (λw hw=>hcell w (hw.in_ 0 rfl) 2 (by decide)) ?_⟩
  conv=>whnf
  refine ⟨(by (repeat' apply And.intro)<;>first|exact True.intro|(unfold rng;omega)|omega),LoadAt.cell (.int .i64 (vAt ws 3)) rfl rfl (λw hw=>hcell w (hw.in_ 0 rfl) 3 (by decide)) ?_⟩
  conv=>whnf
  refine ⟨(by (repeat' apply And.intro)<;>first|exact True.intro|(unfold rng;omega)|omega),?_⟩
  conv=>whnf
  have hyok:OpF.ok (⟨⟨7,vAt ws 0,vAt ws 1,vAt ws 2,vAt ws 3,0,0,0,0,0,0⟩,[],[],[]⟩:OpF):=⟨⟨vAt_i64 ws 0,vAt_i64 ws 1,vAt_i64 ws 2,vAt_i64 ws 3,i0,i0,i0,i0,i0,i0⟩,(by show I64 7;unfold I64;omega),λc hc=>(by cases hc),λc hc=>(by cases hc)⟩
  have hyfew:OpF.few (⟨⟨7,vAt ws 0,vAt ws 1,vAt ws 2,vAt ws 3,0,0,0,0,0,0⟩,[],[],[]⟩:OpF):=⟨Nat.zero_le _,Nat.zero_le _,Nat.zero_le _⟩
  have hye:guessF 7 z ws=(⟨⟨7,vAt ws 0,vAt ws 1,vAt ws 2,vAt ws 3,0,0,0,0,0,0⟩,[],[],[]⟩:OpF):=rfl
  have hyn:named (⟨⟨7,vAt ws 0,vAt ws 1,vAt ws 2,vAt ws 3,0,0,0,0,0,0⟩,[],[],[]⟩:OpF)=(⟨⟨7,vAt ws 0,vAt ws 1,vAt ws 2,vAt ws 3,0,0,0,0,0,0⟩,[],[],[]⟩:OpF):=rfl
  obtain ⟨zz,hdoc,hze⟩:=sRfPrintAll (R:=emp) hyok hyfew (opH_nil (o:=⟨7,vAt ws 0,vAt ws 1,vAt ws 2,vAt ws 3,0,0,0,0,0,0⟩) emp λw s=>s)
  rw [hye] at hgl
  obtain ⟨hb,hhb⟩:∃ hb,hb=decide (HasLine (⟨⟨7,vAt ws 0,vAt ws 1,vAt ws 2,vAt ws 3,0,0,0,0,0,0⟩,[],[],[]⟩:OpF)):=⟨_,rfl⟩
  rw [← hhb] at hdoc
  refine ⟨(by (repeat' apply And.intro)<;>first|exact True.intro|(unfold rng;omega)|omega),CallAt.pure (λR' hR'=>hdoc R' λw s=>⟨λ_=>none,λi o e=>(by cases e),λi=>rfl⟩) ?_⟩
  cases hb
  rotate_left
  ·have hH:=of_decide_eq_true hhb.symm
   have hze:=hze hH
   by_cases hq:zz=s
   ·conv=>whnf
    refine ⟨λ_=>?_,λg=>absurd g (by decide)⟩
    conv=>whnf
    refine ⟨λg=>absurd g (by rw [hq];simp),λ_=>?_⟩
    conv=>whnf
    refine ⟨(by (repeat' apply And.intro)<;>first|exact True.intro|(unfold rng;omega)|omega),.mk [emp] (λw sw=>?_) ⟨qNil,(⟨⟨7,vAt ws 0,vAt ws 1,vAt ws 2,vAt ws 3,0,0,0,0,0,0⟩,[],[],[]⟩:OpF),true,rfl,⟨emp,rfl,opH_nil⟩,.inl ⟨rfl,hyok,hH,hyn,(by rw [← hze];exact hq)⟩⟩⟩
    obtain ⟨h,hs,s'⟩:=sw
    obtain ⟨h',e,s2⟩:=sub_nil s'
    exact ⟨h',hs.mono e,emp_in s2⟩
   ·conv=>whnf
    refine ⟨λ_=>?_,λg=>absurd g (by decide)⟩
    conv=>whnf
    refine ⟨λ_=>?_,λg=>absurd (bs_inj.1 (show bs zz=bs s by simpa using g)) hq⟩
    conv=>whnf
    refine ⟨(by (repeat' apply And.intro)<;>first|exact True.intro|(unfold rng;omega)|omega),.mk [emp] (λw sw=>?_) ⟨qNil,⟨⟨0,0,0,0,0,0,0,0,0,0,0⟩,[],[],[]⟩,false,rfl,⟨emp,rfl,opH_nil⟩,.inr ⟨rfl,rfl,λy hy=>?_⟩⟩⟩
    ·obtain ⟨h,hs,s'⟩:=sw
     obtain ⟨h',e,s2⟩:=sub_nil s'
     exact ⟨h',hs.mono e,emp_in s2⟩
    ·have e1:=hgl y hy
     rw [e1] at hze
     exact hq (hze.trans hy.2.2.2)
  ·have hH:=of_decide_eq_false hhb.symm
   conv=>whnf
   repeat (first|(refine ⟨λ_=>?_,λh=>absurd h (by decide)⟩;conv=>whnf)|(refine ⟨λh=>absurd h (by decide),λ_=>?_⟩;conv=>whnf))
   refine ⟨(by (repeat' apply And.intro)<;>first|exact True.intro|(unfold rng;omega)|omega),.mk [emp] (λw sw=>?_) ⟨qNil,⟨⟨0,0,0,0,0,0,0,0,0,0,0⟩,[],[],[]⟩,false,rfl,⟨emp,rfl,opH_nil⟩,.inr ⟨rfl,rfl,λy hy=>?_⟩⟩⟩
   ·obtain ⟨h,hs,s'⟩:=sw
    obtain ⟨h',e,s2⟩:=sub_nil s'
    exact ⟨h',hs.mono e,emp_in s2⟩
   ·have e1:=hgl y hy
    rw [e1] at hH
    exact hH hy.2.1
 ·obtain rfl:4=cn:=hcn
  conv=>whnf
  repeat (first|(refine ⟨λ_=>?_,λh=>absurd h (by decide)⟩;conv=>whnf)|(refine ⟨λh=>absurd h (by decide),λ_=>?_⟩;conv=>whnf))
  refine ⟨(by (repeat' apply And.intro)<;>first|exact True.intro|(unfold rng;omega)|omega),RegAt.tail 14 hmix (by kernel_rfl) ?_⟩
  conv=>whnf
  refine ⟨(by (repeat' apply And.intro)<;>first|exact True.intro|(unfold rng;omega)|omega),LoadAt.cell (.int .i64 (vAt ws 0)) rfl rfl (λw hw=>hcell w (hw.in_ 0 rfl) 0 (by decide)) ?_⟩
  conv=>whnf
  refine ⟨(by (repeat' apply And.intro)<;>first|exact True.intro|(unfold rng;omega)|omega),LoadAt.cell (.int .i64 (vAt ws 1)) rfl rfl (λw hw=>hcell w (hw.in_ 0 rfl) 1 (by decide)) ?_⟩
  conv=>whnf
  refine ⟨(by (repeat' apply And.intro)<;>first|exact True.intro|(unfold rng;omega)|omega),LoadAt.cell (.int .i64 (vAt ws 2)) rfl rfl (λw hw=>hcell w (hw.in_ 0 rfl) 2 (by decide)) ?_⟩
  conv=>whnf
  refine ⟨(by (repeat' apply And.intro)<;>first|exact True.intro|(unfold rng;omega)|omega),LoadAt.cell (.int .i64 (vAt ws 3)) rfl rfl (λw hw=>hcell w (hw.in_ 0 rfl) 3 (by decide)) ?_⟩
  conv=>whnf
  refine ⟨(by (repeat' apply And.intro)<;>first|exact True.intro|(unfold rng;omega)|omega),?_⟩
  conv=>whnf
  have hyok:OpF.ok (⟨⟨8,vAt ws 0,vAt ws 1,vAt ws 2,vAt ws 3,0,0,0,0,0,0⟩,[],[],[]⟩:OpF):=⟨⟨vAt_i64 ws 0,vAt_i64 ws 1,vAt_i64 ws 2,vAt_i64 ws 3,i0,i0,i0,i0,i0,i0⟩,(by show I64 8;unfold I64;omega),λc hc=>(by cases hc),λc hc=>(by cases hc)⟩
  have hyfew:OpF.few (⟨⟨8,vAt ws 0,vAt ws 1,vAt ws 2,vAt ws 3,0,0,0,0,0,0⟩,[],[],[]⟩:OpF):=⟨Nat.zero_le _,Nat.zero_le _,Nat.zero_le _⟩
  have hye:guessF 8 z ws=(⟨⟨8,vAt ws 0,vAt ws 1,vAt ws 2,vAt ws 3,0,0,0,0,0,0⟩,[],[],[]⟩:OpF):=rfl
  have hyn:named (⟨⟨8,vAt ws 0,vAt ws 1,vAt ws 2,vAt ws 3,0,0,0,0,0,0⟩,[],[],[]⟩:OpF)=(⟨⟨8,vAt ws 0,vAt ws 1,vAt ws 2,vAt ws 3,0,0,0,0,0,0⟩,[],[],[]⟩:OpF):=rfl
  obtain ⟨zz,hdoc,hze⟩:=sRfPrintAll (R:=emp) hyok hyfew (opH_nil (o:=⟨8,vAt ws 0,vAt ws 1,vAt ws 2,vAt ws 3,0,0,0,0,0,0⟩) emp λw s=>s)
  rw [hye] at hgl
  obtain ⟨hb,hhb⟩:∃ hb,hb=decide (HasLine (⟨⟨8,vAt ws 0,vAt ws 1,vAt ws 2,vAt ws 3,0,0,0,0,0,0⟩,[],[],[]⟩:OpF)):=⟨_,rfl⟩
  rw [← hhb] at hdoc
  refine ⟨(by (repeat' apply And.intro)<;>first|exact True.intro|(unfold rng;omega)|omega),CallAt.pure (λR' hR'=>hdoc R' λw s=>⟨λ_=>none,λi o e=>(by cases e),λi=>rfl⟩) ?_⟩
  cases hb
  rotate_left
  ·have hH:=of_decide_eq_true hhb.symm
   have hze:=hze hH
   by_cases hq:zz=s
   ·conv=>whnf
    refine ⟨λ_=>?_,λg=>absurd g (by decide)⟩
    conv=>whnf
    refine ⟨λg=>absurd g (by rw [hq];simp),λ_=>?_⟩
    conv=>whnf
    refine ⟨(by (repeat' apply And.intro)<;>first|exact True.intro|(unfold rng;omega)|omega),.mk [emp] (λw sw=>?_) ⟨qNil,(⟨⟨8,vAt ws 0,vAt ws 1,vAt ws 2,vAt ws 3,0,0,0,0,0,0⟩,[],[],[]⟩:OpF),true,rfl,⟨emp,rfl,opH_nil⟩,.inl ⟨rfl,hyok,hH,hyn,(by rw [← hze];exact hq)⟩⟩⟩
    obtain ⟨h,hs,s'⟩:=sw
    obtain ⟨h',e,s2⟩:=sub_nil s'
    exact ⟨h',hs.mono e,emp_in s2⟩
   ·conv=>whnf
    refine ⟨λ_=>?_,λg=>absurd g (by decide)⟩
    conv=>whnf
    refine ⟨λ_=>?_,λg=>absurd (bs_inj.1 (show bs zz=bs s by simpa using g)) hq⟩
    conv=>whnf
    refine ⟨(by (repeat' apply And.intro)<;>first|exact True.intro|(unfold rng;omega)|omega),.mk [emp] (λw sw=>?_) ⟨qNil,⟨⟨0,0,0,0,0,0,0,0,0,0,0⟩,[],[],[]⟩,false,rfl,⟨emp,rfl,opH_nil⟩,.inr ⟨rfl,rfl,λy hy=>?_⟩⟩⟩
    ·obtain ⟨h,hs,s'⟩:=sw
     obtain ⟨h',e,s2⟩:=sub_nil s'
     exact ⟨h',hs.mono e,emp_in s2⟩
    ·have e1:=hgl y hy
     rw [e1] at hze
     exact hq (hze.trans hy.2.2.2)
  ·have hH:=of_decide_eq_false hhb.symm
   conv=>whnf
   repeat (first|(refine ⟨λ_=>?_,λh=>absurd h (by decide)⟩;conv=>whnf)|(refine ⟨λh=>absurd h (by decide),λ_=>?_⟩;conv=>whnf))
   refine ⟨(by (repeat' apply And.intro)<;>first|exact True.intro|(unfold rng;omega)|omega),.mk [emp] (λw sw=>?_) ⟨qNil,⟨⟨0,0,0,0,0,0,0,0,0,0,0⟩,[],[],[]⟩,false,rfl,⟨emp,rfl,opH_nil⟩,.inr ⟨rfl,rfl,λy hy=>?_⟩⟩⟩
   ·obtain ⟨h,hs,s'⟩:=sw
    obtain ⟨h',e,s2⟩:=sub_nil s'
    exact ⟨h',hs.mono e,emp_in s2⟩
   ·have e1:=hgl y hy
    rw [e1] at hH
    exact hH hy.2.1
 ·obtain rfl:4=cn:=hcn
  conv=>whnf
  repeat (first|(refine ⟨λ_=>?_,λh=>absurd h (by decide)⟩;conv=>whnf)|(refine ⟨λh=>absurd h (by decide),λ_=>?_⟩;conv=>whnf))
  refine ⟨(by (repeat' apply And.intro)<;>first|exact True.intro|(unfold rng;omega)|omega),RegAt.tail 14 hmix (by kernel_rfl) ?_⟩
  conv=>whnf
  refine ⟨(by (repeat' apply And.intro)<;>first|exact True.intro|(unfold rng;omega)|omega),LoadAt.cell (.int .i64 (vAt ws 0)) rfl rfl (λw hw=>hcell w (hw.in_ 0 rfl) 0 (by decide)) ?_⟩
  conv=>whnf
  refine ⟨(by (repeat' apply And.intro)<;>first|exact True.intro|(unfold rng;omega)|omega),LoadAt.cell (.int .i64 (vAt ws 1)) rfl rfl (λw hw=>hcell w (hw.in_ 0 rfl) 1 (by decide)) ?_⟩
  conv=>whnf
  refine ⟨(by (repeat' apply And.intro)<;>first|exact True.intro|(unfold rng;omega)|omega),LoadAt.cell (.int .i64 (vAt ws 2)) rfl rfl (λw hw=>hcell w (hw.in_ 0 rfl) 2 (by decide)) ?_⟩
  conv=>whnf
  refine ⟨(by (repeat' apply And.intro)<;>first|exact True.intro|(unfold rng;omega)|omega),LoadAt.cell (.int .i64 (vAt ws 3)) rfl rfl (λw hw=>hcell w (hw.in_ 0 rfl) 3 (by decide)) ?_⟩
  conv=>whnf
  refine ⟨(by (repeat' apply And.intro)<;>first|exact True.intro|(unfold rng;omega)|omega),?_⟩
  conv=>whnf
  have hyok:OpF.ok (⟨⟨9,vAt ws 0,vAt ws 1,vAt ws 2,vAt ws 3,0,0,0,0,0,0⟩,[],[],[]⟩:OpF):=⟨⟨vAt_i64 ws 0,vAt_i64 ws 1,vAt_i64 ws 2,vAt_i64 ws 3,i0,i0,i0,i0,i0,i0⟩,(by show I64 9;unfold I64;omega),λc hc=>(by cases hc),λc hc=>(by cases hc)⟩
  have hyfew:OpF.few (⟨⟨9,vAt ws 0,vAt ws 1,vAt ws 2,vAt ws 3,0,0,0,0,0,0⟩,[],[],[]⟩:OpF):=⟨Nat.zero_le _,Nat.zero_le _,Nat.zero_le _⟩
  have hye:guessF 9 z ws=(⟨⟨9,vAt ws 0,vAt ws 1,vAt ws 2,vAt ws 3,0,0,0,0,0,0⟩,[],[],[]⟩:OpF):=rfl
  have hyn:named (⟨⟨9,vAt ws 0,vAt ws 1,vAt ws 2,vAt ws 3,0,0,0,0,0,0⟩,[],[],[]⟩:OpF)=(⟨⟨9,vAt ws 0,vAt ws 1,vAt ws 2,vAt ws 3,0,0,0,0,0,0⟩,[],[],[]⟩:OpF):=rfl
  obtain ⟨zz,hdoc,hze⟩:=sRfPrintAll (R:=emp) hyok hyfew (opH_nil (o:=⟨9,vAt ws 0,vAt ws 1,vAt ws 2,vAt ws 3,0,0,0,0,0,0⟩) emp λw s=>s)
  rw [hye] at hgl
  obtain ⟨hb,hhb⟩:∃ hb,hb=decide (HasLine (⟨⟨9,vAt ws 0,vAt ws 1,vAt ws 2,vAt ws 3,0,0,0,0,0,0⟩,[],[],[]⟩:OpF)):=⟨_,rfl⟩
  rw [← hhb] at hdoc
  refine ⟨(by (repeat' apply And.intro)<;>first|exact True.intro|(unfold rng;omega)|omega),CallAt.pure (λR' hR'=>hdoc R' λw s=>⟨λ_=>none,λi o e=>(by cases e),λi=>rfl⟩) ?_⟩
  cases hb
  rotate_left
  ·have hH:=of_decide_eq_true hhb.symm
   have hze:=hze hH
   by_cases hq:zz=s
   ·conv=>whnf
    refine ⟨λ_=>?_,λg=>absurd g (by decide)⟩
    conv=>whnf
    refine ⟨λg=>absurd g (by rw [hq];simp),λ_=>?_⟩
    conv=>whnf
    refine ⟨(by (repeat' apply And.intro)<;>first|exact True.intro|(unfold rng;omega)|omega),.mk [emp] (λw sw=>?_) ⟨qNil,(⟨⟨9,vAt ws 0,vAt ws 1,vAt ws 2,vAt ws 3,0,0,0,0,0,0⟩,[],[],[]⟩:OpF),true,rfl,⟨emp,rfl,opH_nil⟩,.inl ⟨rfl,hyok,hH,hyn,(by rw [← hze];exact hq)⟩⟩⟩
    obtain ⟨h,hs,s'⟩:=sw
    obtain ⟨h',e,s2⟩:=sub_nil s'
    exact ⟨h',hs.mono e,emp_in s2⟩
   ·conv=>whnf
    refine ⟨λ_=>?_,λg=>absurd g (by decide)⟩
    conv=>whnf
    refine ⟨λ_=>?_,λg=>absurd (bs_inj.1 (show bs zz=bs s by simpa using g)) hq⟩
    conv=>whnf
    refine ⟨(by (repeat' apply And.intro)<;>first|exact True.intro|(unfold rng;omega)|omega),.mk [emp] (λw sw=>?_) ⟨qNil,⟨⟨0,0,0,0,0,0,0,0,0,0,0⟩,[],[],[]⟩,false,rfl,⟨emp,rfl,opH_nil⟩,.inr ⟨rfl,rfl,λy hy=>?_⟩⟩⟩
    ·obtain ⟨h,hs,s'⟩:=sw
     obtain ⟨h',e,s2⟩:=sub_nil s'
     exact ⟨h',hs.mono e,emp_in s2⟩
    ·have e1:=hgl y hy
     rw [e1] at hze
     exact hq (hze.trans hy.2.2.2)
  ·have hH:=of_decide_eq_false hhb.symm
   conv=>whnf
   repeat (first|(refine ⟨λ_=>?_,λh=>absurd h (by decide)⟩;conv=>whnf)|(refine ⟨λh=>absurd h (by decide),λ_=>?_⟩;conv=>whnf))
   refine ⟨(by (repeat' apply And.intro)<;>first|exact True.intro|(unfold rng;omega)|omega),.mk [emp] (λw sw=>?_) ⟨qNil,⟨⟨0,0,0,0,0,0,0,0,0,0,0⟩,[],[],[]⟩,false,rfl,⟨emp,rfl,opH_nil⟩,.inr ⟨rfl,rfl,λy hy=>?_⟩⟩⟩
   ·obtain ⟨h,hs,s'⟩:=sw
    obtain ⟨h',e,s2⟩:=sub_nil s'
    exact ⟨h',hs.mono e,emp_in s2⟩
   ·have e1:=hgl y hy
    rw [e1] at hH
    exact hH hy.2.1
 ·obtain rfl:5=cn:=hcn
  conv=>whnf
  repeat (first|(refine ⟨λ_=>?_,λh=>absurd h (by decide)⟩;conv=>whnf)|(refine ⟨λh=>absurd h (by decide),λ_=>?_⟩;conv=>whnf))
  refine ⟨(by (repeat' apply And.intro)<;>first|exact True.intro|(unfold rng;omega)|omega),RegAt.tail 14 hmix (by kernel_rfl) ?_⟩
  conv=>whnf
  refine ⟨(by (repeat' apply And.intro)<;>first|exact True.intro|(unfold rng;omega)|omega),LoadAt.cell (.int .i64 (vAt ws 0)) rfl rfl (λw hw=>hcell w (hw.in_ 0 rfl) 0 (by decide)) ?_⟩
  conv=>whnf
  refine ⟨(by (repeat' apply And.intro)<;>first|exact True.intro|(unfold rng;omega)|omega),LoadAt.cell (.int .i64 (vAt ws 1)) rfl rfl (λw hw=>hcell w (hw.in_ 0 rfl) 1 (by decide)) ?_⟩
  conv=>whnf
  refine ⟨(by (repeat' apply And.intro)<;>first|exact True.intro|(unfold rng;omega)|omega),LoadAt.cell (.int .i64 (vAt ws 2)) rfl rfl (λw hw=>hcell w (hw.in_ 0 rfl) 2 (by decide)) ?_⟩
  conv=>whnf
  refine ⟨(by (repeat' apply And.intro)<;>first|exact True.intro|(unfold rng;omega)|omega),LoadAt.cell (.int .i64 (vAt ws 3)) rfl rfl (λw hw=>hcell w (hw.in_ 0 rfl) 3 (by decide)) ?_⟩
  conv=>whnf
  refine ⟨(by (repeat' apply And.intro)<;>first|exact True.intro|(unfold rng;omega)|omega),?_⟩
  conv=>whnf
  refine ⟨(by (repeat' apply And.intro)<;>first|exact True.intro|(unfold rng;omega)|omega),LoadAt.cell (.int .i64 (vAt ws 4)) rfl rfl (λw hw=>hcell w (hw.in_ 0 rfl) 4 (by decide)) ?_⟩
  conv=>whnf
  have hyok:OpF.ok (⟨⟨10,vAt ws 0,vAt ws 1,vAt ws 2,vAt ws 3,0,0,0,0,vAt ws 4,0⟩,[],[],[]⟩:OpF):=⟨⟨vAt_i64 ws 0,vAt_i64 ws 1,vAt_i64 ws 2,vAt_i64 ws 3,i0,i0,i0,i0,vAt_i64 ws 4,i0⟩,(by show I64 10;unfold I64;omega),λc hc=>(by cases hc),λc hc=>(by cases hc)⟩
  have hyfew:OpF.few (⟨⟨10,vAt ws 0,vAt ws 1,vAt ws 2,vAt ws 3,0,0,0,0,vAt ws 4,0⟩,[],[],[]⟩:OpF):=⟨Nat.zero_le _,Nat.zero_le _,Nat.zero_le _⟩
  have hye:guessF 10 z ws=(⟨⟨10,vAt ws 0,vAt ws 1,vAt ws 2,vAt ws 3,0,0,0,0,vAt ws 4,0⟩,[],[],[]⟩:OpF):=rfl
  have hyn:named (⟨⟨10,vAt ws 0,vAt ws 1,vAt ws 2,vAt ws 3,0,0,0,0,vAt ws 4,0⟩,[],[],[]⟩:OpF)=(⟨⟨10,vAt ws 0,vAt ws 1,vAt ws 2,vAt ws 3,0,0,0,0,vAt ws 4,0⟩,[],[],[]⟩:OpF):=rfl
  obtain ⟨zz,hdoc,hze⟩:=sRfPrintAll (R:=emp) hyok hyfew (opH_nil (o:=⟨10,vAt ws 0,vAt ws 1,vAt ws 2,vAt ws 3,0,0,0,0,vAt ws 4,0⟩) emp λw s=>s)
  rw [hye] at hgl
  obtain ⟨hb,hhb⟩:∃ hb,hb=decide (HasLine (⟨⟨10,vAt ws 0,vAt ws 1,vAt ws 2,vAt ws 3,0,0,0,0,vAt ws 4,0⟩,[],[],[]⟩:OpF)):=⟨_,rfl⟩
  rw [← hhb] at hdoc
  refine ⟨(by (repeat' apply And.intro)<;>first|exact True.intro|(unfold rng;omega)|omega),CallAt.pure (λR' hR'=>hdoc R' λw s=>⟨λ_=>none,λi o e=>(by cases e),λi=>rfl⟩) ?_⟩
  cases hb
  rotate_left
  ·have hH:=of_decide_eq_true hhb.symm
   have hze:=hze hH
   by_cases hq:zz=s
   ·conv=>whnf
    refine ⟨λ_=>?_,λg=>absurd g (by decide)⟩
    conv=>whnf
    refine ⟨λg=>absurd g (by rw [hq];simp),λ_=>?_⟩
    conv=>whnf
    refine ⟨(by (repeat' apply And.intro)<;>first|exact True.intro|(unfold rng;omega)|omega),.mk [emp] (λw sw=>?_) ⟨qNil,(⟨⟨10,vAt ws 0,vAt ws 1,vAt ws 2,vAt ws 3,0,0,0,0,vAt ws 4,0⟩,[],[],[]⟩:OpF),true,rfl,⟨emp,rfl,opH_nil⟩,.inl ⟨rfl,hyok,hH,hyn,(by rw [← hze];exact hq)⟩⟩⟩
    obtain ⟨h,hs,s'⟩:=sw
    obtain ⟨h',e,s2⟩:=sub_nil s'
    exact ⟨h',hs.mono e,emp_in s2⟩
   ·conv=>whnf
    refine ⟨λ_=>?_,λg=>absurd g (by decide)⟩
    conv=>whnf
    refine ⟨λ_=>?_,λg=>absurd (bs_inj.1 (show bs zz=bs s by simpa using g)) hq⟩
    conv=>whnf
    refine ⟨(by (repeat' apply And.intro)<;>first|exact True.intro|(unfold rng;omega)|omega),.mk [emp] (λw sw=>?_) ⟨qNil,⟨⟨0,0,0,0,0,0,0,0,0,0,0⟩,[],[],[]⟩,false,rfl,⟨emp,rfl,opH_nil⟩,.inr ⟨rfl,rfl,λy hy=>?_⟩⟩⟩
    ·obtain ⟨h,hs,s'⟩:=sw
     obtain ⟨h',e,s2⟩:=sub_nil s'
     exact ⟨h',hs.mono e,emp_in s2⟩
    ·have e1:=hgl y hy
     rw [e1] at hze
     exact hq (hze.trans hy.2.2.2)
  ·have hH:=of_decide_eq_false hhb.symm
   conv=>whnf
   repeat (first|(refine ⟨λ_=>?_,λh=>absurd h (by decide)⟩;conv=>whnf)|(refine ⟨λh=>absurd h (by decide),λ_=>?_⟩;conv=>whnf))
   refine ⟨(by (repeat' apply And.intro)<;>first|exact True.intro|(unfold rng;omega)|omega),.mk [emp] (λw sw=>?_) ⟨qNil,⟨⟨0,0,0,0,0,0,0,0,0,0,0⟩,[],[],[]⟩,false,rfl,⟨emp,rfl,opH_nil⟩,.inr ⟨rfl,rfl,λy hy=>?_⟩⟩⟩
   ·obtain ⟨h,hs,s'⟩:=sw
    obtain ⟨h',e,s2⟩:=sub_nil s'
    exact ⟨h',hs.mono e,emp_in s2⟩
   ·have e1:=hgl y hy
    rw [e1] at hH
    exact hH hy.2.1
 ·obtain rfl:5=cn:=hcn
  conv=>whnf
  repeat (first|(refine ⟨λ_=>?_,λh=>absurd h (by decide)⟩;conv=>whnf)|(refine ⟨λh=>absurd h (by decide),λ_=>?_⟩;conv=>whnf))
  refine ⟨(by (repeat' apply And.intro)<;>first|exact True.intro|(unfold rng;omega)|omega),RegAt.tail 14 hmix (by kernel_rfl) ?_⟩
  conv=>whnf
  refine ⟨(by (repeat' apply And.intro)<;>first|exact True.intro|(unfold rng;omega)|omega),LoadAt.cell (.int .i64 (vAt ws 0)) rfl rfl (λw hw=>hcell w (hw.in_ 0 rfl) 0 (by decide)) ?_⟩
  conv=>whnf
  refine ⟨(by (repeat' apply And.intro)<;>first|exact True.intro|(unfold rng;omega)|omega),LoadAt.cell (.int .i64 (vAt ws 1)) rfl rfl (λw hw=>hcell w (hw.in_ 0 rfl) 1 (by decide)) ?_⟩
  conv=>whnf
  refine ⟨(by (repeat' apply And.intro)<;>first|exact True.intro|(unfold rng;omega)|omega),LoadAt.cell (.int .i64 (vAt ws 2)) rfl rfl (λw hw=>hcell w (hw.in_ 0 rfl) 2 (by decide)) ?_⟩
  conv=>whnf
  refine ⟨(by (repeat' apply And.intro)<;>first|exact True.intro|(unfold rng;omega)|omega),LoadAt.cell (.int .i64 (vAt ws 3)) rfl rfl (λw hw=>hcell w (hw.in_ 0 rfl) 3 (by decide)) ?_⟩
  conv=>whnf
  refine ⟨(by (repeat' apply And.intro)<;>first|exact True.intro|(unfold rng;omega)|omega),?_⟩
  conv=>whnf
  refine ⟨(by (repeat' apply And.intro)<;>first|exact True.intro|(unfold rng;omega)|omega),LoadAt.cell (.int .i64 (vAt ws 4)) rfl rfl (λw hw=>hcell w (hw.in_ 0 rfl) 4 (by decide)) ?_⟩
  conv=>whnf
  have hyok:OpF.ok (⟨⟨11,vAt ws 0,vAt ws 1,vAt ws 2,vAt ws 3,0,0,0,0,vAt ws 4,0⟩,[],[],[]⟩:OpF):=⟨⟨vAt_i64 ws 0,vAt_i64 ws 1,vAt_i64 ws 2,vAt_i64 ws 3,i0,i0,i0,i0,vAt_i64 ws 4,i0⟩,(by show I64 11;unfold I64;omega),λc hc=>(by cases hc),λc hc=>(by cases hc)⟩
  have hyfew:OpF.few (⟨⟨11,vAt ws 0,vAt ws 1,vAt ws 2,vAt ws 3,0,0,0,0,vAt ws 4,0⟩,[],[],[]⟩:OpF):=⟨Nat.zero_le _,Nat.zero_le _,Nat.zero_le _⟩
  have hye:guessF 11 z ws=(⟨⟨11,vAt ws 0,vAt ws 1,vAt ws 2,vAt ws 3,0,0,0,0,vAt ws 4,0⟩,[],[],[]⟩:OpF):=rfl
  have hyn:named (⟨⟨11,vAt ws 0,vAt ws 1,vAt ws 2,vAt ws 3,0,0,0,0,vAt ws 4,0⟩,[],[],[]⟩:OpF)=(⟨⟨11,vAt ws 0,vAt ws 1,vAt ws 2,vAt ws 3,0,0,0,0,vAt ws 4,0⟩,[],[],[]⟩:OpF):=rfl
  obtain ⟨zz,hdoc,hze⟩:=sRfPrintAll (R:=emp) hyok hyfew (opH_nil (o:=⟨11,vAt ws 0,vAt ws 1,vAt ws 2,vAt ws 3,0,0,0,0,vAt ws 4,0⟩) emp λw s=>s)
  rw [hye] at hgl
  obtain ⟨hb,hhb⟩:∃ hb,hb=decide (HasLine (⟨⟨11,vAt ws 0,vAt ws 1,vAt ws 2,vAt ws 3,0,0,0,0,vAt ws 4,0⟩,[],[],[]⟩:OpF)):=⟨_,rfl⟩
  rw [← hhb] at hdoc
  refine ⟨(by (repeat' apply And.intro)<;>first|exact True.intro|(unfold rng;omega)|omega),CallAt.pure (λR' hR'=>hdoc R' λw s=>⟨λ_=>none,λi o e=>(by cases e),λi=>rfl⟩) ?_⟩
  cases hb
  rotate_left
  ·have hH:=of_decide_eq_true hhb.symm
   have hze:=hze hH
   by_cases hq:zz=s
   ·conv=>whnf
    refine ⟨λ_=>?_,λg=>absurd g (by decide)⟩
    conv=>whnf
    refine ⟨λg=>absurd g (by rw [hq];simp),λ_=>?_⟩
    conv=>whnf
    refine ⟨(by (repeat' apply And.intro)<;>first|exact True.intro|(unfold rng;omega)|omega),.mk [emp] (λw sw=>?_) ⟨qNil,(⟨⟨11,vAt ws 0,vAt ws 1,vAt ws 2,vAt ws 3,0,0,0,0,vAt ws 4,0⟩,[],[],[]⟩:OpF),true,rfl,⟨emp,rfl,opH_nil⟩,.inl ⟨rfl,hyok,hH,hyn,(by rw [← hze];exact hq)⟩⟩⟩
    obtain ⟨h,hs,s'⟩:=sw
    obtain ⟨h',e,s2⟩:=sub_nil s'
    exact ⟨h',hs.mono e,emp_in s2⟩
   ·conv=>whnf
    refine ⟨λ_=>?_,λg=>absurd g (by decide)⟩
    conv=>whnf
    refine ⟨λ_=>?_,λg=>absurd (bs_inj.1 (show bs zz=bs s by simpa using g)) hq⟩
    conv=>whnf
    refine ⟨(by (repeat' apply And.intro)<;>first|exact True.intro|(unfold rng;omega)|omega),.mk [emp] (λw sw=>?_) ⟨qNil,⟨⟨0,0,0,0,0,0,0,0,0,0,0⟩,[],[],[]⟩,false,rfl,⟨emp,rfl,opH_nil⟩,.inr ⟨rfl,rfl,λy hy=>?_⟩⟩⟩
    ·obtain ⟨h,hs,s'⟩:=sw
     obtain ⟨h',e,s2⟩:=sub_nil s'
     exact ⟨h',hs.mono e,emp_in s2⟩
    ·have e1:=hgl y hy
     rw [e1] at hze
     exact hq (hze.trans hy.2.2.2)
  ·have hH:=of_decide_eq_false hhb.symm
   conv=>whnf
   repeat (first|(refine ⟨λ_=>?_,λh=>absurd h (by decide)⟩;conv=>whnf)|(refine ⟨λh=>absurd h (by decide),λ_=>?_⟩;conv=>whnf))
   refine ⟨(by (repeat' apply And.intro)<;>first|exact True.intro|(unfold rng;omega)|omega),.mk [emp] (λw sw=>?_) ⟨qNil,⟨⟨0,0,0,0,0,0,0,0,0,0,0⟩,[],[],[]⟩,false,rfl,⟨emp,rfl,opH_nil⟩,.inr ⟨rfl,rfl,λy hy=>?_⟩⟩⟩
   ·obtain ⟨h,hs,s'⟩:=sw
    obtain ⟨h',e,s2⟩:=sub_nil s'
    exact ⟨h',hs.mono e,emp_in s2⟩
   ·have e1:=hgl y hy
    rw [e1] at hH
    exact hH hy.2.1
 ·obtain rfl:6=cn:=hcn
  conv=>whnf
  repeat (first|(refine ⟨λ_=>?_,λh=>absurd h (by decide)⟩;conv=>whnf)|(refine ⟨λh=>absurd h (by decide),λ_=>?_⟩;conv=>whnf))
  refine ⟨(by (repeat' apply And.intro)<;>first|exact True.intro|(unfold rng;omega)|omega),RegAt.tail 8 hmix (by kernel_rfl) ?_⟩
  conv=>whnf
  refine ⟨(by (repeat' apply And.intro)<;>first|exact True.intro|(unfold rng;omega)|omega),LoadAt.cell (.int .i64 (vAt ws 0)) rfl rfl (λw hw=>hcell w (hw.in_ 0 rfl) 0 (by decide)) ?_⟩
  conv=>whnf
  refine ⟨(by (repeat' apply And.intro)<;>first|exact True.intro|(unfold rng;omega)|omega),LoadAt.cell (.int .i64 (vAt ws 1)) rfl rfl (λw hw=>hcell w (hw.in_ 0 rfl) 1 (by decide)) ?_⟩
  conv=>whnf
  refine ⟨(by (repeat' apply And.intro)<;>first|exact True.intro|(unfold rng;omega)|omega),?_⟩
  conv=>whnf
  refine ⟨(by (repeat' apply And.intro)<;>first|exact True.intro|(unfold rng;omega)|omega),LoadAt.cell (.int .i64 (vAt ws 2)) rfl rfl (λw hw=>hcell w (hw.in_ 0 rfl) 2 (by decide)) ?_⟩
  conv=>whnf
  refine ⟨(by (repeat' apply And.intro)<;>first|exact True.intro|(unfold rng;omega)|omega),RegAt.tail 8 hmix (by kernel_rfl) ?_⟩
  conv=>whnf
  refine ⟨(by (repeat' apply And.intro)<;>first|exact True.intro|(unfold rng;omega)|omega),LoadAt.cell (.int .i64 (vAt ws 3)) rfl rfl (λw hw=>hcell w (hw.in_ 0 rfl) 3 (by decide)) ?_⟩
  conv=>whnf
  refine ⟨(by (repeat' apply And.intro)<;>first|exact True.intro|(unfold rng;omega)|omega),LoadAt.cell (.int .i64 (vAt ws 4)) rfl rfl (λw hw=>hcell w (hw.in_ 0 rfl) 4 (by decide)) ?_⟩
  conv=>whnf
  refine ⟨(by (repeat' apply And.intro)<;>first|exact True.intro|(unfold rng;omega)|omega),?_⟩
  conv=>whnf
  refine ⟨(by (repeat' apply And.intro)<;>first|exact True.intro|(unfold rng;omega)|omega),LoadAt.cell (.int .i64 (vAt ws 5)) rfl rfl (λw hw=>hcell w (hw.in_ 0 rfl) 5 (by decide)) ?_⟩
  conv=>whnf
  have hyok:OpF.ok (⟨⟨12,0,0,0,0,vAt ws 0,vAt ws 1,vAt ws 3,vAt ws 4,vAt ws 2,vAt ws 5⟩,[],[],[]⟩:OpF):=⟨⟨i0,i0,i0,i0,vAt_i64 ws 0,vAt_i64 ws 1,vAt_i64 ws 3,vAt_i64 ws 4,vAt_i64 ws 2,vAt_i64 ws 5⟩,(by show I64 12;unfold I64;omega),λc hc=>(by cases hc),λc hc=>(by cases hc)⟩
  have hyfew:OpF.few (⟨⟨12,0,0,0,0,vAt ws 0,vAt ws 1,vAt ws 3,vAt ws 4,vAt ws 2,vAt ws 5⟩,[],[],[]⟩:OpF):=⟨Nat.zero_le _,Nat.zero_le _,Nat.zero_le _⟩
  have hye:guessF 12 z ws=(⟨⟨12,0,0,0,0,vAt ws 0,vAt ws 1,vAt ws 3,vAt ws 4,vAt ws 2,vAt ws 5⟩,[],[],[]⟩:OpF):=rfl
  have hyn:named (⟨⟨12,0,0,0,0,vAt ws 0,vAt ws 1,vAt ws 3,vAt ws 4,vAt ws 2,vAt ws 5⟩,[],[],[]⟩:OpF)=(⟨⟨12,0,0,0,0,vAt ws 0,vAt ws 1,vAt ws 3,vAt ws 4,vAt ws 2,vAt ws 5⟩,[],[],[]⟩:OpF):=rfl
  obtain ⟨zz,hdoc,hze⟩:=sRfPrintAll (R:=emp) hyok hyfew (opH_nil (o:=⟨12,0,0,0,0,vAt ws 0,vAt ws 1,vAt ws 3,vAt ws 4,vAt ws 2,vAt ws 5⟩) emp λw s=>s)
  rw [hye] at hgl
  obtain ⟨hb,hhb⟩:∃ hb,hb=decide (HasLine (⟨⟨12,0,0,0,0,vAt ws 0,vAt ws 1,vAt ws 3,vAt ws 4,vAt ws 2,vAt ws 5⟩,[],[],[]⟩:OpF)):=⟨_,rfl⟩
  rw [← hhb] at hdoc
  refine ⟨(by (repeat' apply And.intro)<;>first|exact True.intro|(unfold rng;omega)|omega),CallAt.pure (λR' hR'=>hdoc R' λw s=>⟨λ_=>none,λi o e=>(by cases e),λi=>rfl⟩) ?_⟩
  cases hb
  rotate_left
  ·have hH:=of_decide_eq_true hhb.symm
   have hze:=hze hH
   by_cases hq:zz=s
   ·conv=>whnf
    refine ⟨λ_=>?_,λg=>absurd g (by decide)⟩
    conv=>whnf
    refine ⟨λg=>absurd g (by rw [hq];simp),λ_=>?_⟩
    conv=>whnf
    refine ⟨(by (repeat' apply And.intro)<;>first|exact True.intro|(unfold rng;omega)|omega),.mk [emp] (λw sw=>?_) ⟨qNil,(⟨⟨12,0,0,0,0,vAt ws 0,vAt ws 1,vAt ws 3,vAt ws 4,vAt ws 2,vAt ws 5⟩,[],[],[]⟩:OpF),true,rfl,⟨emp,rfl,opH_nil⟩,.inl ⟨rfl,hyok,hH,hyn,(by rw [← hze];exact hq)⟩⟩⟩
    obtain ⟨h,hs,s'⟩:=sw
    obtain ⟨h',e,s2⟩:=sub_nil s'
    exact ⟨h',hs.mono e,emp_in s2⟩
   ·conv=>whnf
    refine ⟨λ_=>?_,λg=>absurd g (by decide)⟩
    conv=>whnf
    refine ⟨λ_=>?_,λg=>absurd (bs_inj.1 (show bs zz=bs s by simpa using g)) hq⟩
    conv=>whnf
    refine ⟨(by (repeat' apply And.intro)<;>first|exact True.intro|(unfold rng;omega)|omega),.mk [emp] (λw sw=>?_) ⟨qNil,⟨⟨0,0,0,0,0,0,0,0,0,0,0⟩,[],[],[]⟩,false,rfl,⟨emp,rfl,opH_nil⟩,.inr ⟨rfl,rfl,λy hy=>?_⟩⟩⟩
    ·obtain ⟨h,hs,s'⟩:=sw
     obtain ⟨h',e,s2⟩:=sub_nil s'
     exact ⟨h',hs.mono e,emp_in s2⟩
    ·have e1:=hgl y hy
     rw [e1] at hze
     exact hq (hze.trans hy.2.2.2)
  ·have hH:=of_decide_eq_false hhb.symm
   conv=>whnf
   repeat (first|(refine ⟨λ_=>?_,λh=>absurd h (by decide)⟩;conv=>whnf)|(refine ⟨λh=>absurd h (by decide),λ_=>?_⟩;conv=>whnf))
   refine ⟨(by (repeat' apply And.intro)<;>first|exact True.intro|(unfold rng;omega)|omega),.mk [emp] (λw sw=>?_) ⟨qNil,⟨⟨0,0,0,0,0,0,0,0,0,0,0⟩,[],[],[]⟩,false,rfl,⟨emp,rfl,opH_nil⟩,.inr ⟨rfl,rfl,λy hy=>?_⟩⟩⟩
   ·obtain ⟨h,hs,s'⟩:=sw
    obtain ⟨h',e,s2⟩:=sub_nil s'
    exact ⟨h',hs.mono e,emp_in s2⟩
   ·have e1:=hgl y hy
    rw [e1] at hH
    exact hH hy.2.1
 ·obtain rfl:5=cn:=hcn
  conv=>whnf
  repeat (first|(refine ⟨λ_=>?_,λh=>absurd h (by decide)⟩;conv=>whnf)|(refine ⟨λh=>absurd h (by decide),λ_=>?_⟩;conv=>whnf))
  refine ⟨(by (repeat' apply And.intro)<;>first|exact True.intro|(unfold rng;omega)|omega),RegAt.tail 8 hmix (by kernel_rfl) ?_⟩
  conv=>whnf
  refine ⟨(by (repeat' apply And.intro)<;>first|exact True.intro|(unfold rng;omega)|omega),LoadAt.cell (.int .i64 (vAt ws 0)) rfl rfl (λw hw=>hcell w (hw.in_ 0 rfl) 0 (by decide)) ?_⟩
  conv=>whnf
  refine ⟨(by (repeat' apply And.intro)<;>first|exact True.intro|(unfold rng;omega)|omega),LoadAt.cell (.int .i64 (vAt ws 1)) rfl rfl (λw hw=>hcell w (hw.in_ 0 rfl) 1 (by decide)) ?_⟩
  conv=>whnf
  refine ⟨(by (repeat' apply And.intro)<;>first|exact True.intro|(unfold rng;omega)|omega),?_⟩
  conv=>whnf
  refine ⟨(by (repeat' apply And.intro)<;>first|exact True.intro|(unfold rng;omega)|omega),LoadAt.cell (.int .i64 (vAt ws 2)) rfl rfl (λw hw=>hcell w (hw.in_ 0 rfl) 2 (by decide)) ?_⟩
  conv=>whnf
  refine ⟨(by (repeat' apply And.intro)<;>first|exact True.intro|(unfold rng;omega)|omega),LoadAt.cell (.int .i64 (vAt ws 3)) rfl rfl (λw hw=>hcell w (hw.in_ 0 rfl) 3 (by decide)) ?_⟩
  conv=>whnf
  refine ⟨(by (repeat' apply And.intro)<;>first|exact True.intro|(unfold rng;omega)|omega),LoadAt.cell (.int .i64 (vAt ws 4)) rfl rfl (λw hw=>hcell w (hw.in_ 0 rfl) 4 (by decide)) ?_⟩
  conv=>whnf
  have hyok:OpF.ok (⟨⟨13,0,0,0,0,vAt ws 0,vAt ws 1,vAt ws 4,0,vAt ws 2,vAt ws 3⟩,[],[],[]⟩:OpF):=⟨⟨i0,i0,i0,i0,vAt_i64 ws 0,vAt_i64 ws 1,vAt_i64 ws 4,i0,vAt_i64 ws 2,vAt_i64 ws 3⟩,(by show I64 13;unfold I64;omega),λc hc=>(by cases hc),λc hc=>(by cases hc)⟩
  have hyfew:OpF.few (⟨⟨13,0,0,0,0,vAt ws 0,vAt ws 1,vAt ws 4,0,vAt ws 2,vAt ws 3⟩,[],[],[]⟩:OpF):=⟨Nat.zero_le _,Nat.zero_le _,Nat.zero_le _⟩
  have hye:guessF 13 z ws=(⟨⟨13,0,0,0,0,vAt ws 0,vAt ws 1,vAt ws 4,0,vAt ws 2,vAt ws 3⟩,[],[],[]⟩:OpF):=rfl
  have hyn:named (⟨⟨13,0,0,0,0,vAt ws 0,vAt ws 1,vAt ws 4,0,vAt ws 2,vAt ws 3⟩,[],[],[]⟩:OpF)=(⟨⟨13,0,0,0,0,vAt ws 0,vAt ws 1,vAt ws 4,0,vAt ws 2,vAt ws 3⟩,[],[],[]⟩:OpF):=rfl
  obtain ⟨zz,hdoc,hze⟩:=sRfPrintAll (R:=emp) hyok hyfew (opH_nil (o:=⟨13,0,0,0,0,vAt ws 0,vAt ws 1,vAt ws 4,0,vAt ws 2,vAt ws 3⟩) emp λw s=>s)
  rw [hye] at hgl
  obtain ⟨hb,hhb⟩:∃ hb,hb=decide (HasLine (⟨⟨13,0,0,0,0,vAt ws 0,vAt ws 1,vAt ws 4,0,vAt ws 2,vAt ws 3⟩,[],[],[]⟩:OpF)):=⟨_,rfl⟩
  rw [← hhb] at hdoc
  refine ⟨(by (repeat' apply And.intro)<;>first|exact True.intro|(unfold rng;omega)|omega),CallAt.pure (λR' hR'=>hdoc R' λw s=>⟨λ_=>none,λi o e=>(by cases e),λi=>rfl⟩) ?_⟩
  cases hb
  rotate_left
  ·have hH:=of_decide_eq_true hhb.symm
   have hze:=hze hH
   by_cases hq:zz=s
   ·conv=>whnf
    refine ⟨λ_=>?_,λg=>absurd g (by decide)⟩
    conv=>whnf
    refine ⟨λg=>absurd g (by rw [hq];simp),λ_=>?_⟩
    conv=>whnf
    refine ⟨(by (repeat' apply And.intro)<;>first|exact True.intro|(unfold rng;omega)|omega),.mk [emp] (λw sw=>?_) ⟨qNil,(⟨⟨13,0,0,0,0,vAt ws 0,vAt ws 1,vAt ws 4,0,vAt ws 2,vAt ws 3⟩,[],[],[]⟩:OpF),true,rfl,⟨emp,rfl,opH_nil⟩,.inl ⟨rfl,hyok,hH,hyn,(by rw [← hze];exact hq)⟩⟩⟩
    obtain ⟨h,hs,s'⟩:=sw
    obtain ⟨h',e,s2⟩:=sub_nil s'
    exact ⟨h',hs.mono e,emp_in s2⟩
   ·conv=>whnf
    refine ⟨λ_=>?_,λg=>absurd g (by decide)⟩
    conv=>whnf
    refine ⟨λ_=>?_,λg=>absurd (bs_inj.1 (show bs zz=bs s by simpa using g)) hq⟩
    conv=>whnf
    refine ⟨(by (repeat' apply And.intro)<;>first|exact True.intro|(unfold rng;omega)|omega),.mk [emp] (λw sw=>?_) ⟨qNil,⟨⟨0,0,0,0,0,0,0,0,0,0,0⟩,[],[],[]⟩,false,rfl,⟨emp,rfl,opH_nil⟩,.inr ⟨rfl,rfl,λy hy=>?_⟩⟩⟩
    ·obtain ⟨h,hs,s'⟩:=sw
     obtain ⟨h',e,s2⟩:=sub_nil s'
     exact ⟨h',hs.mono e,emp_in s2⟩
    ·have e1:=hgl y hy
     rw [e1] at hze
     exact hq (hze.trans hy.2.2.2)
  ·have hH:=of_decide_eq_false hhb.symm
   conv=>whnf
   repeat (first|(refine ⟨λ_=>?_,λh=>absurd h (by decide)⟩;conv=>whnf)|(refine ⟨λh=>absurd h (by decide),λ_=>?_⟩;conv=>whnf))
   refine ⟨(by (repeat' apply And.intro)<;>first|exact True.intro|(unfold rng;omega)|omega),.mk [emp] (λw sw=>?_) ⟨qNil,⟨⟨0,0,0,0,0,0,0,0,0,0,0⟩,[],[],[]⟩,false,rfl,⟨emp,rfl,opH_nil⟩,.inr ⟨rfl,rfl,λy hy=>?_⟩⟩⟩
   ·obtain ⟨h,hs,s'⟩:=sw
    obtain ⟨h',e,s2⟩:=sub_nil s'
    exact ⟨h',hs.mono e,emp_in s2⟩
   ·have e1:=hgl y hy
    rw [e1] at hH
    exact hH hy.2.1
 ·obtain rfl:1=cn:=hcn
  conv=>whnf
  repeat (first|(refine ⟨λ_=>?_,λh=>absurd h (by decide)⟩;conv=>whnf)|(refine ⟨λh=>absurd h (by decide),λ_=>?_⟩;conv=>whnf))
  refine ⟨(by (repeat' apply And.intro)<;>first|exact True.intro|(unfold rng;omega)|omega),LoadAt.cell (.int .i64 (vAt ws 0)) rfl rfl (λw hw=>hcell w (hw.in_ 0 rfl) 0 (by decide)) ?_⟩
  conv=>whnf
  have hyok:OpF.ok (⟨⟨14,0,0,0,0,0,0,0,0,vAt ws 0,0⟩,[],[],[]⟩:OpF):=⟨⟨i0,i0,i0,i0,i0,i0,i0,i0,vAt_i64 ws 0,i0⟩,(by show I64 14;unfold I64;omega),λc hc=>(by cases hc),λc hc=>(by cases hc)⟩
  have hyfew:OpF.few (⟨⟨14,0,0,0,0,0,0,0,0,vAt ws 0,0⟩,[],[],[]⟩:OpF):=⟨Nat.zero_le _,Nat.zero_le _,Nat.zero_le _⟩
  have hye:guessF 14 z ws=(⟨⟨14,0,0,0,0,0,0,0,0,vAt ws 0,0⟩,[],[],[]⟩:OpF):=rfl
  have hyn:named (⟨⟨14,0,0,0,0,0,0,0,0,vAt ws 0,0⟩,[],[],[]⟩:OpF)=(⟨⟨14,0,0,0,0,0,0,0,0,vAt ws 0,0⟩,[],[],[]⟩:OpF):=rfl
  obtain ⟨zz,hdoc,hze⟩:=sRfPrintAll (R:=emp) hyok hyfew (opH_nil (o:=⟨14,0,0,0,0,0,0,0,0,vAt ws 0,0⟩) emp λw s=>s)
  rw [hye] at hgl
  obtain ⟨hb,hhb⟩:∃ hb,hb=decide (HasLine (⟨⟨14,0,0,0,0,0,0,0,0,vAt ws 0,0⟩,[],[],[]⟩:OpF)):=⟨_,rfl⟩
  rw [← hhb] at hdoc
  refine ⟨(by (repeat' apply And.intro)<;>first|exact True.intro|(unfold rng;omega)|omega),CallAt.pure (λR' hR'=>hdoc R' λw s=>⟨λ_=>none,λi o e=>(by cases e),λi=>rfl⟩) ?_⟩
  cases hb
  rotate_left
  ·have hH:=of_decide_eq_true hhb.symm
   have hze:=hze hH
   by_cases hq:zz=s
   ·conv=>whnf
    refine ⟨λ_=>?_,λg=>absurd g (by decide)⟩
    conv=>whnf
    refine ⟨λg=>absurd g (by rw [hq];simp),λ_=>?_⟩
    conv=>whnf
    refine ⟨(by (repeat' apply And.intro)<;>first|exact True.intro|(unfold rng;omega)|omega),.mk [emp] (λw sw=>?_) ⟨qNil,(⟨⟨14,0,0,0,0,0,0,0,0,vAt ws 0,0⟩,[],[],[]⟩:OpF),true,rfl,⟨emp,rfl,opH_nil⟩,.inl ⟨rfl,hyok,hH,hyn,(by rw [← hze];exact hq)⟩⟩⟩
    obtain ⟨h,hs,s'⟩:=sw
    obtain ⟨h',e,s2⟩:=sub_nil s'
    exact ⟨h',hs.mono e,emp_in s2⟩
   ·conv=>whnf
    refine ⟨λ_=>?_,λg=>absurd g (by decide)⟩
    conv=>whnf
    refine ⟨λ_=>?_,λg=>absurd (bs_inj.1 (show bs zz=bs s by simpa using g)) hq⟩
    conv=>whnf
    refine ⟨(by (repeat' apply And.intro)<;>first|exact True.intro|(unfold rng;omega)|omega),.mk [emp] (λw sw=>?_) ⟨qNil,⟨⟨0,0,0,0,0,0,0,0,0,0,0⟩,[],[],[]⟩,false,rfl,⟨emp,rfl,opH_nil⟩,.inr ⟨rfl,rfl,λy hy=>?_⟩⟩⟩
    ·obtain ⟨h,hs,s'⟩:=sw
     obtain ⟨h',e,s2⟩:=sub_nil s'
     exact ⟨h',hs.mono e,emp_in s2⟩
    ·have e1:=hgl y hy
     rw [e1] at hze
     exact hq (hze.trans hy.2.2.2)
  ·have hH:=of_decide_eq_false hhb.symm
   conv=>whnf
   repeat (first|(refine ⟨λ_=>?_,λh=>absurd h (by decide)⟩;conv=>whnf)|(refine ⟨λh=>absurd h (by decide),λ_=>?_⟩;conv=>whnf))
   refine ⟨(by (repeat' apply And.intro)<;>first|exact True.intro|(unfold rng;omega)|omega),.mk [emp] (λw sw=>?_) ⟨qNil,⟨⟨0,0,0,0,0,0,0,0,0,0,0⟩,[],[],[]⟩,false,rfl,⟨emp,rfl,opH_nil⟩,.inr ⟨rfl,rfl,λy hy=>?_⟩⟩⟩
   ·obtain ⟨h,hs,s'⟩:=sw
    obtain ⟨h',e,s2⟩:=sub_nil s'
    exact ⟨h',hs.mono e,emp_in s2⟩
   ·have e1:=hgl y hy
    rw [e1] at hH
    exact hH hy.2.1
 ·obtain rfl:2=cn:=hcn
  conv=>whnf
  repeat (first|(refine ⟨λ_=>?_,λh=>absurd h (by decide)⟩;conv=>whnf)|(refine ⟨λh=>absurd h (by decide),λ_=>?_⟩;conv=>whnf))
  refine ⟨(by (repeat' apply And.intro)<;>first|exact True.intro|(unfold rng;omega)|omega),RegAt.tail 8 hmix (by kernel_rfl) ?_⟩
  conv=>whnf
  refine ⟨(by (repeat' apply And.intro)<;>first|exact True.intro|(unfold rng;omega)|omega),LoadAt.cell (.int .i64 (vAt ws 0)) rfl rfl (λw hw=>hcell w (hw.in_ 0 rfl) 0 (by decide)) ?_⟩
  conv=>whnf
  refine ⟨(by (repeat' apply And.intro)<;>first|exact True.intro|(unfold rng;omega)|omega),LoadAt.cell (.int .i64 (vAt ws 1)) rfl rfl (λw hw=>hcell w (hw.in_ 0 rfl) 1 (by decide)) ?_⟩
  conv=>whnf
  refine ⟨(by (repeat' apply And.intro)<;>first|exact True.intro|(unfold rng;omega)|omega),?_⟩
  conv=>whnf
  have hyok:OpF.ok (⟨⟨15,0,0,0,0,vAt ws 0,vAt ws 1,0,0,0,0⟩,[],[],[]⟩:OpF):=⟨⟨i0,i0,i0,i0,vAt_i64 ws 0,vAt_i64 ws 1,i0,i0,i0,i0⟩,(by show I64 15;unfold I64;omega),λc hc=>(by cases hc),λc hc=>(by cases hc)⟩
  have hyfew:OpF.few (⟨⟨15,0,0,0,0,vAt ws 0,vAt ws 1,0,0,0,0⟩,[],[],[]⟩:OpF):=⟨Nat.zero_le _,Nat.zero_le _,Nat.zero_le _⟩
  have hye:guessF 15 z ws=(⟨⟨15,0,0,0,0,vAt ws 0,vAt ws 1,0,0,0,0⟩,[],[],[]⟩:OpF):=rfl
  have hyn:named (⟨⟨15,0,0,0,0,vAt ws 0,vAt ws 1,0,0,0,0⟩,[],[],[]⟩:OpF)=(⟨⟨15,0,0,0,0,vAt ws 0,vAt ws 1,0,0,0,0⟩,[],[],[]⟩:OpF):=rfl
  obtain ⟨zz,hdoc,hze⟩:=sRfPrintAll (R:=emp) hyok hyfew (opH_nil (o:=⟨15,0,0,0,0,vAt ws 0,vAt ws 1,0,0,0,0⟩) emp λw s=>s)
  rw [hye] at hgl
  obtain ⟨hb,hhb⟩:∃ hb,hb=decide (HasLine (⟨⟨15,0,0,0,0,vAt ws 0,vAt ws 1,0,0,0,0⟩,[],[],[]⟩:OpF)):=⟨_,rfl⟩
  rw [← hhb] at hdoc
  refine ⟨(by (repeat' apply And.intro)<;>first|exact True.intro|(unfold rng;omega)|omega),CallAt.pure (λR' hR'=>hdoc R' λw s=>⟨λ_=>none,λi o e=>(by cases e),λi=>rfl⟩) ?_⟩
  cases hb
  rotate_left
  ·have hH:=of_decide_eq_true hhb.symm
   have hze:=hze hH
   by_cases hq:zz=s
   ·conv=>whnf
    refine ⟨λ_=>?_,λg=>absurd g (by decide)⟩
    conv=>whnf
    refine ⟨λg=>absurd g (by rw [hq];simp),λ_=>?_⟩
    conv=>whnf
    refine ⟨(by (repeat' apply And.intro)<;>first|exact True.intro|(unfold rng;omega)|omega),.mk [emp] (λw sw=>?_) ⟨qNil,(⟨⟨15,0,0,0,0,vAt ws 0,vAt ws 1,0,0,0,0⟩,[],[],[]⟩:OpF),true,rfl,⟨emp,rfl,opH_nil⟩,.inl ⟨rfl,hyok,hH,hyn,(by rw [← hze];exact hq)⟩⟩⟩
    obtain ⟨h,hs,s'⟩:=sw
    obtain ⟨h',e,s2⟩:=sub_nil s'
    exact ⟨h',hs.mono e,emp_in s2⟩
   ·conv=>whnf
    refine ⟨λ_=>?_,λg=>absurd g (by decide)⟩
    conv=>whnf
    refine ⟨λ_=>?_,λg=>absurd (bs_inj.1 (show bs zz=bs s by simpa using g)) hq⟩
    conv=>whnf
    refine ⟨(by (repeat' apply And.intro)<;>first|exact True.intro|(unfold rng;omega)|omega),.mk [emp] (λw sw=>?_) ⟨qNil,⟨⟨0,0,0,0,0,0,0,0,0,0,0⟩,[],[],[]⟩,false,rfl,⟨emp,rfl,opH_nil⟩,.inr ⟨rfl,rfl,λy hy=>?_⟩⟩⟩
    ·obtain ⟨h,hs,s'⟩:=sw
     obtain ⟨h',e,s2⟩:=sub_nil s'
     exact ⟨h',hs.mono e,emp_in s2⟩
    ·have e1:=hgl y hy
     rw [e1] at hze
     exact hq (hze.trans hy.2.2.2)
  ·have hH:=of_decide_eq_false hhb.symm
   conv=>whnf
   repeat (first|(refine ⟨λ_=>?_,λh=>absurd h (by decide)⟩;conv=>whnf)|(refine ⟨λh=>absurd h (by decide),λ_=>?_⟩;conv=>whnf))
   refine ⟨(by (repeat' apply And.intro)<;>first|exact True.intro|(unfold rng;omega)|omega),.mk [emp] (λw sw=>?_) ⟨qNil,⟨⟨0,0,0,0,0,0,0,0,0,0,0⟩,[],[],[]⟩,false,rfl,⟨emp,rfl,opH_nil⟩,.inr ⟨rfl,rfl,λy hy=>?_⟩⟩⟩
   ·obtain ⟨h,hs,s'⟩:=sw
    obtain ⟨h',e,s2⟩:=sub_nil s'
    exact ⟨h',hs.mono e,emp_in s2⟩
   ·have e1:=hgl y hy
    rw [e1] at hH
    exact hH hy.2.1
 ·obtain rfl:4=cn:=hcn
  conv=>whnf
  repeat (first|(refine ⟨λ_=>?_,λh=>absurd h (by decide)⟩;conv=>whnf)|(refine ⟨λh=>absurd h (by decide),λ_=>?_⟩;conv=>whnf))
  refine ⟨(by (repeat' apply And.intro)<;>first|exact True.intro|(unfold rng;omega)|omega),RegAt.tail 8 hmix (by kernel_rfl) ?_⟩
  conv=>whnf
  refine ⟨(by (repeat' apply And.intro)<;>first|exact True.intro|(unfold rng;omega)|omega),LoadAt.cell (.int .i64 (vAt ws 0)) rfl rfl (λw hw=>hcell w (hw.in_ 0 rfl) 0 (by decide)) ?_⟩
  conv=>whnf
  refine ⟨(by (repeat' apply And.intro)<;>first|exact True.intro|(unfold rng;omega)|omega),LoadAt.cell (.int .i64 (vAt ws 1)) rfl rfl (λw hw=>hcell w (hw.in_ 0 rfl) 1 (by decide)) ?_⟩
  conv=>whnf
  refine ⟨(by (repeat' apply And.intro)<;>first|exact True.intro|(unfold rng;omega)|omega),?_⟩
  conv=>whnf
  refine ⟨(by (repeat' apply And.intro)<;>first|exact True.intro|(unfold rng;omega)|omega),RegAt.tail 8 hmix (by kernel_rfl) ?_⟩
  conv=>whnf
  refine ⟨(by (repeat' apply And.intro)<;>first|exact True.intro|(unfold rng;omega)|omega),LoadAt.cell (.int .i64 (vAt ws 2)) rfl rfl (λw hw=>hcell w (hw.in_ 0 rfl) 2 (by decide)) ?_⟩
  conv=>whnf
  refine ⟨(by (repeat' apply And.intro)<;>first|exact True.intro|(unfold rng;omega)|omega),LoadAt.cell (.int .i64 (vAt ws 3)) rfl rfl (λw hw=>hcell w (hw.in_ 0 rfl) 3 (by decide)) ?_⟩
  conv=>whnf
  refine ⟨(by (repeat' apply And.intro)<;>first|exact True.intro|(unfold rng;omega)|omega),?_⟩
  conv=>whnf
  have hyok:OpF.ok (⟨⟨16,0,0,0,0,vAt ws 0,vAt ws 1,vAt ws 2,vAt ws 3,0,0⟩,[],[],[]⟩:OpF):=⟨⟨i0,i0,i0,i0,vAt_i64 ws 0,vAt_i64 ws 1,vAt_i64 ws 2,vAt_i64 ws 3,i0,i0⟩,(by show I64 16;unfold I64;omega),λc hc=>(by cases hc),λc hc=>(by cases hc)⟩
  have hyfew:OpF.few (⟨⟨16,0,0,0,0,vAt ws 0,vAt ws 1,vAt ws 2,vAt ws 3,0,0⟩,[],[],[]⟩:OpF):=⟨Nat.zero_le _,Nat.zero_le _,Nat.zero_le _⟩
  have hye:guessF 16 z ws=(⟨⟨16,0,0,0,0,vAt ws 0,vAt ws 1,vAt ws 2,vAt ws 3,0,0⟩,[],[],[]⟩:OpF):=rfl
  have hyn:named (⟨⟨16,0,0,0,0,vAt ws 0,vAt ws 1,vAt ws 2,vAt ws 3,0,0⟩,[],[],[]⟩:OpF)=(⟨⟨16,0,0,0,0,vAt ws 0,vAt ws 1,vAt ws 2,vAt ws 3,0,0⟩,[],[],[]⟩:OpF):=rfl
  obtain ⟨zz,hdoc,hze⟩:=sRfPrintAll (R:=emp) hyok hyfew (opH_nil (o:=⟨16,0,0,0,0,vAt ws 0,vAt ws 1,vAt ws 2,vAt ws 3,0,0⟩) emp λw s=>s)
  rw [hye] at hgl
  obtain ⟨hb,hhb⟩:∃ hb,hb=decide (HasLine (⟨⟨16,0,0,0,0,vAt ws 0,vAt ws 1,vAt ws 2,vAt ws 3,0,0⟩,[],[],[]⟩:OpF)):=⟨_,rfl⟩
  rw [← hhb] at hdoc
  refine ⟨(by (repeat' apply And.intro)<;>first|exact True.intro|(unfold rng;omega)|omega),CallAt.pure (λR' hR'=>hdoc R' λw s=>⟨λ_=>none,λi o e=>(by cases e),λi=>rfl⟩) ?_⟩
  cases hb
  rotate_left
  ·have hH:=of_decide_eq_true hhb.symm
   have hze:=hze hH
   by_cases hq:zz=s
   ·conv=>whnf
    refine ⟨λ_=>?_,λg=>absurd g (by decide)⟩
    conv=>whnf
    refine ⟨λg=>absurd g (by rw [hq];simp),λ_=>?_⟩
    conv=>whnf
    refine ⟨(by (repeat' apply And.intro)<;>first|exact True.intro|(unfold rng;omega)|omega),.mk [emp] (λw sw=>?_) ⟨qNil,(⟨⟨16,0,0,0,0,vAt ws 0,vAt ws 1,vAt ws 2,vAt ws 3,0,0⟩,[],[],[]⟩:OpF),true,rfl,⟨emp,rfl,opH_nil⟩,.inl ⟨rfl,hyok,hH,hyn,(by rw [← hze];exact hq)⟩⟩⟩
    obtain ⟨h,hs,s'⟩:=sw
    obtain ⟨h',e,s2⟩:=sub_nil s'
    exact ⟨h',hs.mono e,emp_in s2⟩
   ·conv=>whnf
    refine ⟨λ_=>?_,λg=>absurd g (by decide)⟩
    conv=>whnf
    refine ⟨λ_=>?_,λg=>absurd (bs_inj.1 (show bs zz=bs s by simpa using g)) hq⟩
    conv=>whnf
    refine ⟨(by (repeat' apply And.intro)<;>first|exact True.intro|(unfold rng;omega)|omega),.mk [emp] (λw sw=>?_) ⟨qNil,⟨⟨0,0,0,0,0,0,0,0,0,0,0⟩,[],[],[]⟩,false,rfl,⟨emp,rfl,opH_nil⟩,.inr ⟨rfl,rfl,λy hy=>?_⟩⟩⟩
    ·obtain ⟨h,hs,s'⟩:=sw
     obtain ⟨h',e,s2⟩:=sub_nil s'
     exact ⟨h',hs.mono e,emp_in s2⟩
    ·have e1:=hgl y hy
     rw [e1] at hze
     exact hq (hze.trans hy.2.2.2)
  ·have hH:=of_decide_eq_false hhb.symm
   conv=>whnf
   repeat (first|(refine ⟨λ_=>?_,λh=>absurd h (by decide)⟩;conv=>whnf)|(refine ⟨λh=>absurd h (by decide),λ_=>?_⟩;conv=>whnf))
   refine ⟨(by (repeat' apply And.intro)<;>first|exact True.intro|(unfold rng;omega)|omega),.mk [emp] (λw sw=>?_) ⟨qNil,⟨⟨0,0,0,0,0,0,0,0,0,0,0⟩,[],[],[]⟩,false,rfl,⟨emp,rfl,opH_nil⟩,.inr ⟨rfl,rfl,λy hy=>?_⟩⟩⟩
   ·obtain ⟨h,hs,s'⟩:=sw
    obtain ⟨h',e,s2⟩:=sub_nil s'
    exact ⟨h',hs.mono e,emp_in s2⟩
   ·have e1:=hgl y hy
    rw [e1] at hH
    exact hH hy.2.1
 ·obtain rfl:2=cn:=hcn
  conv=>whnf
  repeat (first|(refine ⟨λ_=>?_,λh=>absurd h (by decide)⟩;conv=>whnf)|(refine ⟨λh=>absurd h (by decide),λ_=>?_⟩;conv=>whnf))
  refine ⟨(by (repeat' apply And.intro)<;>first|exact True.intro|(unfold rng;omega)|omega),LoadAt.cell (.int .i64 (vAt ws 0)) rfl rfl (λw hw=>hcell w (hw.in_ 0 rfl) 0 (by decide)) ?_⟩
  conv=>whnf
  refine ⟨(by (repeat' apply And.intro)<;>first|exact True.intro|(unfold rng;omega)|omega),LoadAt.cell (.int .i64 (vAt ws 1)) rfl rfl (λw hw=>hcell w (hw.in_ 0 rfl) 1 (by decide)) ?_⟩
  conv=>whnf
  have hyok:OpF.ok (⟨⟨17,0,0,0,0,0,0,0,0,vAt ws 0,vAt ws 1⟩,[],[],[]⟩:OpF):=⟨⟨i0,i0,i0,i0,i0,i0,i0,i0,vAt_i64 ws 0,vAt_i64 ws 1⟩,(by show I64 17;unfold I64;omega),λc hc=>(by cases hc),λc hc=>(by cases hc)⟩
  have hyfew:OpF.few (⟨⟨17,0,0,0,0,0,0,0,0,vAt ws 0,vAt ws 1⟩,[],[],[]⟩:OpF):=⟨Nat.zero_le _,Nat.zero_le _,Nat.zero_le _⟩
  have hye:guessF 17 z ws=(⟨⟨17,0,0,0,0,0,0,0,0,vAt ws 0,vAt ws 1⟩,[],[],[]⟩:OpF):=rfl
  have hyn:named (⟨⟨17,0,0,0,0,0,0,0,0,vAt ws 0,vAt ws 1⟩,[],[],[]⟩:OpF)=(⟨⟨17,0,0,0,0,0,0,0,0,vAt ws 0,vAt ws 1⟩,[],[],[]⟩:OpF):=rfl
  obtain ⟨zz,hdoc,hze⟩:=sRfPrintAll (R:=emp) hyok hyfew (opH_nil (o:=⟨17,0,0,0,0,0,0,0,0,vAt ws 0,vAt ws 1⟩) emp λw s=>s)
  rw [hye] at hgl
  obtain ⟨hb,hhb⟩:∃ hb,hb=decide (HasLine (⟨⟨17,0,0,0,0,0,0,0,0,vAt ws 0,vAt ws 1⟩,[],[],[]⟩:OpF)):=⟨_,rfl⟩
  rw [← hhb] at hdoc
  refine ⟨(by (repeat' apply And.intro)<;>first|exact True.intro|(unfold rng;omega)|omega),CallAt.pure (λR' hR'=>hdoc R' λw s=>⟨λ_=>none,λi o e=>(by cases e),λi=>rfl⟩) ?_⟩
  cases hb
  rotate_left
  ·have hH:=of_decide_eq_true hhb.symm
   have hze:=hze hH
   by_cases hq:zz=s
   ·conv=>whnf
    refine ⟨λ_=>?_,λg=>absurd g (by decide)⟩
    conv=>whnf
    refine ⟨λg=>absurd g (by rw [hq];simp),λ_=>?_⟩
    conv=>whnf
    refine ⟨(by (repeat' apply And.intro)<;>first|exact True.intro|(unfold rng;omega)|omega),.mk [emp] (λw sw=>?_) ⟨qNil,(⟨⟨17,0,0,0,0,0,0,0,0,vAt ws 0,vAt ws 1⟩,[],[],[]⟩:OpF),true,rfl,⟨emp,rfl,opH_nil⟩,.inl ⟨rfl,hyok,hH,hyn,(by rw [← hze];exact hq)⟩⟩⟩
    obtain ⟨h,hs,s'⟩:=sw
    obtain ⟨h',e,s2⟩:=sub_nil s'
    exact ⟨h',hs.mono e,emp_in s2⟩
   ·conv=>whnf
    refine ⟨λ_=>?_,λg=>absurd g (by decide)⟩
    conv=>whnf
    refine ⟨λ_=>?_,λg=>absurd (bs_inj.1 (show bs zz=bs s by simpa using g)) hq⟩
    conv=>whnf
    refine ⟨(by (repeat' apply And.intro)<;>first|exact True.intro|(unfold rng;omega)|omega),.mk [emp] (λw sw=>?_) ⟨qNil,⟨⟨0,0,0,0,0,0,0,0,0,0,0⟩,[],[],[]⟩,false,rfl,⟨emp,rfl,opH_nil⟩,.inr ⟨rfl,rfl,λy hy=>?_⟩⟩⟩
    ·obtain ⟨h,hs,s'⟩:=sw
     obtain ⟨h',e,s2⟩:=sub_nil s'
     exact ⟨h',hs.mono e,emp_in s2⟩
    ·have e1:=hgl y hy
     rw [e1] at hze
     exact hq (hze.trans hy.2.2.2)
  ·have hH:=of_decide_eq_false hhb.symm
   conv=>whnf
   repeat (first|(refine ⟨λ_=>?_,λh=>absurd h (by decide)⟩;conv=>whnf)|(refine ⟨λh=>absurd h (by decide),λ_=>?_⟩;conv=>whnf))
   refine ⟨(by (repeat' apply And.intro)<;>first|exact True.intro|(unfold rng;omega)|omega),.mk [emp] (λw sw=>?_) ⟨qNil,⟨⟨0,0,0,0,0,0,0,0,0,0,0⟩,[],[],[]⟩,false,rfl,⟨emp,rfl,opH_nil⟩,.inr ⟨rfl,rfl,λy hy=>?_⟩⟩⟩
   ·obtain ⟨h,hs,s'⟩:=sw
    obtain ⟨h',e,s2⟩:=sub_nil s'
    exact ⟨h',hs.mono e,emp_in s2⟩
   ·have e1:=hgl y hy
    rw [e1] at hH
    exact hH hy.2.1
 ·obtain rfl:0=cn:=hcn
  conv=>whnf
  repeat (first|(refine ⟨λ_=>?_,λh=>absurd h (by decide)⟩;conv=>whnf)|(refine ⟨λh=>absurd h (by decide),λ_=>?_⟩;conv=>whnf))
  have hyok:OpF.ok (⟨⟨18,0,0,0,0,0,0,0,0,0,0⟩,[],[],[]⟩:OpF):=⟨⟨i0,i0,i0,i0,i0,i0,i0,i0,i0,i0⟩,(by show I64 18;unfold I64;omega),λc hc=>(by cases hc),λc hc=>(by cases hc)⟩
  have hyfew:OpF.few (⟨⟨18,0,0,0,0,0,0,0,0,0,0⟩,[],[],[]⟩:OpF):=⟨Nat.zero_le _,Nat.zero_le _,Nat.zero_le _⟩
  have hye:guessF 18 z ws=(⟨⟨18,0,0,0,0,0,0,0,0,0,0⟩,[],[],[]⟩:OpF):=rfl
  have hyn:named (⟨⟨18,0,0,0,0,0,0,0,0,0,0⟩,[],[],[]⟩:OpF)=(⟨⟨18,0,0,0,0,0,0,0,0,0,0⟩,[],[],[]⟩:OpF):=rfl
  obtain ⟨zz,hdoc,hze⟩:=sRfPrintAll (R:=emp) hyok hyfew (opH_nil (o:=⟨18,0,0,0,0,0,0,0,0,0,0⟩) emp λw s=>s)
  rw [hye] at hgl
  obtain ⟨hb,hhb⟩:∃ hb,hb=decide (HasLine (⟨⟨18,0,0,0,0,0,0,0,0,0,0⟩,[],[],[]⟩:OpF)):=⟨_,rfl⟩
  rw [← hhb] at hdoc
  refine ⟨(by (repeat' apply And.intro)<;>first|exact True.intro|(unfold rng;omega)|omega),CallAt.pure (λR' hR'=>hdoc R' λw s=>⟨λ_=>none,λi o e=>(by cases e),λi=>rfl⟩) ?_⟩
  cases hb
  rotate_left
  ·have hH:=of_decide_eq_true hhb.symm
   have hze:=hze hH
   by_cases hq:zz=s
   ·conv=>whnf
    refine ⟨λ_=>?_,λg=>absurd g (by decide)⟩
    conv=>whnf
    refine ⟨λg=>absurd g (by rw [hq];simp),λ_=>?_⟩
    conv=>whnf
    refine ⟨(by (repeat' apply And.intro)<;>first|exact True.intro|(unfold rng;omega)|omega),.mk [emp] (λw sw=>?_) ⟨qNil,(⟨⟨18,0,0,0,0,0,0,0,0,0,0⟩,[],[],[]⟩:OpF),true,rfl,⟨emp,rfl,opH_nil⟩,.inl ⟨rfl,hyok,hH,hyn,(by rw [← hze];exact hq)⟩⟩⟩
    obtain ⟨h,hs,s'⟩:=sw
    obtain ⟨h',e,s2⟩:=sub_nil s'
    exact ⟨h',hs.mono e,emp_in s2⟩
   ·conv=>whnf
    refine ⟨λ_=>?_,λg=>absurd g (by decide)⟩
    conv=>whnf
    refine ⟨λ_=>?_,λg=>absurd (bs_inj.1 (show bs zz=bs s by simpa using g)) hq⟩
    conv=>whnf
    refine ⟨(by (repeat' apply And.intro)<;>first|exact True.intro|(unfold rng;omega)|omega),.mk [emp] (λw sw=>?_) ⟨qNil,⟨⟨0,0,0,0,0,0,0,0,0,0,0⟩,[],[],[]⟩,false,rfl,⟨emp,rfl,opH_nil⟩,.inr ⟨rfl,rfl,λy hy=>?_⟩⟩⟩
    ·obtain ⟨h,hs,s'⟩:=sw
     obtain ⟨h',e,s2⟩:=sub_nil s'
     exact ⟨h',hs.mono e,emp_in s2⟩
    ·have e1:=hgl y hy
     rw [e1] at hze
     exact hq (hze.trans hy.2.2.2)
  ·have hH:=of_decide_eq_false hhb.symm
   conv=>whnf
   repeat (first|(refine ⟨λ_=>?_,λh=>absurd h (by decide)⟩;conv=>whnf)|(refine ⟨λh=>absurd h (by decide),λ_=>?_⟩;conv=>whnf))
   refine ⟨(by (repeat' apply And.intro)<;>first|exact True.intro|(unfold rng;omega)|omega),.mk [emp] (λw sw=>?_) ⟨qNil,⟨⟨0,0,0,0,0,0,0,0,0,0,0⟩,[],[],[]⟩,false,rfl,⟨emp,rfl,opH_nil⟩,.inr ⟨rfl,rfl,λy hy=>?_⟩⟩⟩
   ·obtain ⟨h,hs,s'⟩:=sw
    obtain ⟨h',e,s2⟩:=sub_nil s'
    exact ⟨h',hs.mono e,emp_in s2⟩
   ·have e1:=hgl y hy
    rw [e1] at hH
    exact hH hy.2.1
 ·obtain rfl:0=cn:=hcn
  conv=>whnf
  repeat (first|(refine ⟨λ_=>?_,λh=>absurd h (by decide)⟩;conv=>whnf)|(refine ⟨λh=>absurd h (by decide),λ_=>?_⟩;conv=>whnf))
  have hyok:OpF.ok (⟨⟨19,0,0,0,0,0,0,0,0,0,0⟩,[],[],[]⟩:OpF):=⟨⟨i0,i0,i0,i0,i0,i0,i0,i0,i0,i0⟩,(by show I64 19;unfold I64;omega),λc hc=>(by cases hc),λc hc=>(by cases hc)⟩
  have hyfew:OpF.few (⟨⟨19,0,0,0,0,0,0,0,0,0,0⟩,[],[],[]⟩:OpF):=⟨Nat.zero_le _,Nat.zero_le _,Nat.zero_le _⟩
  have hye:guessF 19 z ws=(⟨⟨19,0,0,0,0,0,0,0,0,0,0⟩,[],[],[]⟩:OpF):=rfl
  have hyn:named (⟨⟨19,0,0,0,0,0,0,0,0,0,0⟩,[],[],[]⟩:OpF)=(⟨⟨19,0,0,0,0,0,0,0,0,0,0⟩,[],[],[]⟩:OpF):=rfl
  obtain ⟨zz,hdoc,hze⟩:=sRfPrintAll (R:=emp) hyok hyfew (opH_nil (o:=⟨19,0,0,0,0,0,0,0,0,0,0⟩) emp λw s=>s)
  rw [hye] at hgl
  obtain ⟨hb,hhb⟩:∃ hb,hb=decide (HasLine (⟨⟨19,0,0,0,0,0,0,0,0,0,0⟩,[],[],[]⟩:OpF)):=⟨_,rfl⟩
  rw [← hhb] at hdoc
  refine ⟨(by (repeat' apply And.intro)<;>first|exact True.intro|(unfold rng;omega)|omega),CallAt.pure (λR' hR'=>hdoc R' λw s=>⟨λ_=>none,λi o e=>(by cases e),λi=>rfl⟩) ?_⟩
  cases hb
  rotate_left
  ·have hH:=of_decide_eq_true hhb.symm
   have hze:=hze hH
   by_cases hq:zz=s
   ·conv=>whnf
    refine ⟨λ_=>?_,λg=>absurd g (by decide)⟩
    conv=>whnf
    refine ⟨λg=>absurd g (by rw [hq];simp),λ_=>?_⟩
    conv=>whnf
    refine ⟨(by (repeat' apply And.intro)<;>first|exact True.intro|(unfold rng;omega)|omega),.mk [emp] (λw sw=>?_) ⟨qNil,(⟨⟨19,0,0,0,0,0,0,0,0,0,0⟩,[],[],[]⟩:OpF),true,rfl,⟨emp,rfl,opH_nil⟩,.inl ⟨rfl,hyok,hH,hyn,(by rw [← hze];exact hq)⟩⟩⟩
    obtain ⟨h,hs,s'⟩:=sw
    obtain ⟨h',e,s2⟩:=sub_nil s'
    exact ⟨h',hs.mono e,emp_in s2⟩
   ·conv=>whnf
    refine ⟨λ_=>?_,λg=>absurd g (by decide)⟩
    conv=>whnf
    refine ⟨λ_=>?_,λg=>absurd (bs_inj.1 (show bs zz=bs s by simpa using g)) hq⟩
    conv=>whnf
    refine ⟨(by (repeat' apply And.intro)<;>first|exact True.intro|(unfold rng;omega)|omega),.mk [emp] (λw sw=>?_) ⟨qNil,⟨⟨0,0,0,0,0,0,0,0,0,0,0⟩,[],[],[]⟩,false,rfl,⟨emp,rfl,opH_nil⟩,.inr ⟨rfl,rfl,λy hy=>?_⟩⟩⟩
    ·obtain ⟨h,hs,s'⟩:=sw
     obtain ⟨h',e,s2⟩:=sub_nil s'
     exact ⟨h',hs.mono e,emp_in s2⟩
    ·have e1:=hgl y hy
     rw [e1] at hze
     exact hq (hze.trans hy.2.2.2)
  ·have hH:=of_decide_eq_false hhb.symm
   conv=>whnf
   repeat (first|(refine ⟨λ_=>?_,λh=>absurd h (by decide)⟩;conv=>whnf)|(refine ⟨λh=>absurd h (by decide),λ_=>?_⟩;conv=>whnf))
   refine ⟨(by (repeat' apply And.intro)<;>first|exact True.intro|(unfold rng;omega)|omega),.mk [emp] (λw sw=>?_) ⟨qNil,⟨⟨0,0,0,0,0,0,0,0,0,0,0⟩,[],[],[]⟩,false,rfl,⟨emp,rfl,opH_nil⟩,.inr ⟨rfl,rfl,λy hy=>?_⟩⟩⟩
   ·obtain ⟨h,hs,s'⟩:=sw
    obtain ⟨h',e,s2⟩:=sub_nil s'
    exact ⟨h',hs.mono e,emp_in s2⟩
   ·have e1:=hgl y hy
    rw [e1] at hH
    exact hH hy.2.1
 ·obtain rfl:4=cn:=hcn
  conv=>whnf
  repeat (first|(refine ⟨λ_=>?_,λh=>absurd h (by decide)⟩;conv=>whnf)|(refine ⟨λh=>absurd h (by decide),λ_=>?_⟩;conv=>whnf))
  refine ⟨(by (repeat' apply And.intro)<;>first|exact True.intro|(unfold rng;omega)|omega),RegAt.tail 14 hmix (by kernel_rfl) ?_⟩
  conv=>whnf
  refine ⟨(by (repeat' apply And.intro)<;>first|exact True.intro|(unfold rng;omega)|omega),LoadAt.cell (.int .i64 (vAt ws 0)) rfl rfl (λw hw=>hcell w (hw.in_ 0 rfl) 0 (by decide)) ?_⟩
  conv=>whnf
  refine ⟨(by (repeat' apply And.intro)<;>first|exact True.intro|(unfold rng;omega)|omega),LoadAt.cell (.int .i64 (vAt ws 1)) rfl rfl (λw hw=>hcell w (hw.in_ 0 rfl) 1 (by decide)) ?_⟩
  conv=>whnf
  refine ⟨(by (repeat' apply And.intro)<;>first|exact True.intro|(unfold rng;omega)|omega),LoadAt.cell (.int .i64 (vAt ws 2)) rfl rfl (λw hw=>hcell w (hw.in_ 0 rfl) 2 (by decide)) ?_⟩
  conv=>whnf
  refine ⟨(by (repeat' apply And.intro)<;>first|exact True.intro|(unfold rng;omega)|omega),LoadAt.cell (.int .i64 (vAt ws 3)) rfl rfl (λw hw=>hcell w (hw.in_ 0 rfl) 3 (by decide)) ?_⟩
  conv=>whnf
  refine ⟨(by (repeat' apply And.intro)<;>first|exact True.intro|(unfold rng;omega)|omega),?_⟩
  conv=>whnf
  have hyok:OpF.ok (⟨⟨20,vAt ws 0,vAt ws 1,vAt ws 2,vAt ws 3,0,0,0,0,0,0⟩,[],[],[]⟩:OpF):=⟨⟨vAt_i64 ws 0,vAt_i64 ws 1,vAt_i64 ws 2,vAt_i64 ws 3,i0,i0,i0,i0,i0,i0⟩,(by show I64 20;unfold I64;omega),λc hc=>(by cases hc),λc hc=>(by cases hc)⟩
  have hyfew:OpF.few (⟨⟨20,vAt ws 0,vAt ws 1,vAt ws 2,vAt ws 3,0,0,0,0,0,0⟩,[],[],[]⟩:OpF):=⟨Nat.zero_le _,Nat.zero_le _,Nat.zero_le _⟩
  have hye:guessF 20 z ws=(⟨⟨20,vAt ws 0,vAt ws 1,vAt ws 2,vAt ws 3,0,0,0,0,0,0⟩,[],[],[]⟩:OpF):=rfl
  have hyn:named (⟨⟨20,vAt ws 0,vAt ws 1,vAt ws 2,vAt ws 3,0,0,0,0,0,0⟩,[],[],[]⟩:OpF)=(⟨⟨20,vAt ws 0,vAt ws 1,vAt ws 2,vAt ws 3,0,0,0,0,0,0⟩,[],[],[]⟩:OpF):=rfl
  obtain ⟨zz,hdoc,hze⟩:=sRfPrintAll (R:=emp) hyok hyfew (opH_nil (o:=⟨20,vAt ws 0,vAt ws 1,vAt ws 2,vAt ws 3,0,0,0,0,0,0⟩) emp λw s=>s)
  rw [hye] at hgl
  obtain ⟨hb,hhb⟩:∃ hb,hb=decide (HasLine (⟨⟨20,vAt ws 0,vAt ws 1,vAt ws 2,vAt ws 3,0,0,0,0,0,0⟩,[],[],[]⟩:OpF)):=⟨_,rfl⟩
  rw [← hhb] at hdoc
  refine ⟨(by (repeat' apply And.intro)<;>first|exact True.intro|(unfold rng;omega)|omega),CallAt.pure (λR' hR'=>hdoc R' λw s=>⟨λ_=>none,λi o e=>(by cases e),λi=>rfl⟩) ?_⟩
  cases hb
  rotate_left
  ·have hH:=of_decide_eq_true hhb.symm
   have hze:=hze hH
   by_cases hq:zz=s
   ·conv=>whnf
    refine ⟨λ_=>?_,λg=>absurd g (by decide)⟩
    conv=>whnf
    refine ⟨λg=>absurd g (by rw [hq];simp),λ_=>?_⟩
    conv=>whnf
    refine ⟨(by (repeat' apply And.intro)<;>first|exact True.intro|(unfold rng;omega)|omega),.mk [emp] (λw sw=>?_) ⟨qNil,(⟨⟨20,vAt ws 0,vAt ws 1,vAt ws 2,vAt ws 3,0,0,0,0,0,0⟩,[],[],[]⟩:OpF),true,rfl,⟨emp,rfl,opH_nil⟩,.inl ⟨rfl,hyok,hH,hyn,(by rw [← hze];exact hq)⟩⟩⟩
    obtain ⟨h,hs,s'⟩:=sw
    obtain ⟨h',e,s2⟩:=sub_nil s'
    exact ⟨h',hs.mono e,emp_in s2⟩
   ·conv=>whnf
    refine ⟨λ_=>?_,λg=>absurd g (by decide)⟩
    conv=>whnf
    refine ⟨λ_=>?_,λg=>absurd (bs_inj.1 (show bs zz=bs s by simpa using g)) hq⟩
    conv=>whnf
    refine ⟨(by (repeat' apply And.intro)<;>first|exact True.intro|(unfold rng;omega)|omega),.mk [emp] (λw sw=>?_) ⟨qNil,⟨⟨0,0,0,0,0,0,0,0,0,0,0⟩,[],[],[]⟩,false,rfl,⟨emp,rfl,opH_nil⟩,.inr ⟨rfl,rfl,λy hy=>?_⟩⟩⟩
    ·obtain ⟨h,hs,s'⟩:=sw
     obtain ⟨h',e,s2⟩:=sub_nil s'
     exact ⟨h',hs.mono e,emp_in s2⟩
    ·have e1:=hgl y hy
     rw [e1] at hze
     exact hq (hze.trans hy.2.2.2)
  ·have hH:=of_decide_eq_false hhb.symm
   conv=>whnf
   repeat (first|(refine ⟨λ_=>?_,λh=>absurd h (by decide)⟩;conv=>whnf)|(refine ⟨λh=>absurd h (by decide),λ_=>?_⟩;conv=>whnf))
   refine ⟨(by (repeat' apply And.intro)<;>first|exact True.intro|(unfold rng;omega)|omega),.mk [emp] (λw sw=>?_) ⟨qNil,⟨⟨0,0,0,0,0,0,0,0,0,0,0⟩,[],[],[]⟩,false,rfl,⟨emp,rfl,opH_nil⟩,.inr ⟨rfl,rfl,λy hy=>?_⟩⟩⟩
   ·obtain ⟨h,hs,s'⟩:=sw
    obtain ⟨h',e,s2⟩:=sub_nil s'
    exact ⟨h',hs.mono e,emp_in s2⟩
   ·have e1:=hgl y hy
    rw [e1] at hH
    exact hH hy.2.1
 ·obtain rfl:4=cn:=hcn
  conv=>whnf
  repeat (first|(refine ⟨λ_=>?_,λh=>absurd h (by decide)⟩;conv=>whnf)|(refine ⟨λh=>absurd h (by decide),λ_=>?_⟩;conv=>whnf))
  refine ⟨(by (repeat' apply And.intro)<;>first|exact True.intro|(unfold rng;omega)|omega),RegAt.tail 14 hmix (by kernel_rfl) ?_⟩
  conv=>whnf
  refine ⟨(by (repeat' apply And.intro)<;>first|exact True.intro|(unfold rng;omega)|omega),LoadAt.cell (.int .i64 (vAt ws 0)) rfl rfl (λw hw=>hcell w (hw.in_ 0 rfl) 0 (by decide)) ?_⟩
  conv=>whnf
  refine ⟨(by (repeat' apply And.intro)<;>first|exact True.intro|(unfold rng;omega)|omega),LoadAt.cell (.int .i64 (vAt ws 1)) rfl rfl (λw hw=>hcell w (hw.in_ 0 rfl) 1 (by decide)) ?_⟩
  conv=>whnf
  refine ⟨(by (repeat' apply And.intro)<;>first|exact True.intro|(unfold rng;omega)|omega),LoadAt.cell (.int .i64 (vAt ws 2)) rfl rfl (λw hw=>hcell w (hw.in_ 0 rfl) 2 (by decide)) ?_⟩
  conv=>whnf
  refine ⟨(by (repeat' apply And.intro)<;>first|exact True.intro|(unfold rng;omega)|omega),LoadAt.cell (.int .i64 (vAt ws 3)) rfl rfl (λw hw=>hcell w (hw.in_ 0 rfl) 3 (by decide)) ?_⟩
  conv=>whnf
  refine ⟨(by (repeat' apply And.intro)<;>first|exact True.intro|(unfold rng;omega)|omega),?_⟩
  conv=>whnf
  have hyok:OpF.ok (⟨⟨21,vAt ws 0,vAt ws 1,vAt ws 2,vAt ws 3,0,0,0,0,0,0⟩,[],[],[]⟩:OpF):=⟨⟨vAt_i64 ws 0,vAt_i64 ws 1,vAt_i64 ws 2,vAt_i64 ws 3,i0,i0,i0,i0,i0,i0⟩,(by show I64 21;unfold I64;omega),λc hc=>(by cases hc),λc hc=>(by cases hc)⟩
  have hyfew:OpF.few (⟨⟨21,vAt ws 0,vAt ws 1,vAt ws 2,vAt ws 3,0,0,0,0,0,0⟩,[],[],[]⟩:OpF):=⟨Nat.zero_le _,Nat.zero_le _,Nat.zero_le _⟩
  have hye:guessF 21 z ws=(⟨⟨21,vAt ws 0,vAt ws 1,vAt ws 2,vAt ws 3,0,0,0,0,0,0⟩,[],[],[]⟩:OpF):=rfl
  have hyn:named (⟨⟨21,vAt ws 0,vAt ws 1,vAt ws 2,vAt ws 3,0,0,0,0,0,0⟩,[],[],[]⟩:OpF)=(⟨⟨21,vAt ws 0,vAt ws 1,vAt ws 2,vAt ws 3,0,0,0,0,0,0⟩,[],[],[]⟩:OpF):=rfl
  obtain ⟨zz,hdoc,hze⟩:=sRfPrintAll (R:=emp) hyok hyfew (opH_nil (o:=⟨21,vAt ws 0,vAt ws 1,vAt ws 2,vAt ws 3,0,0,0,0,0,0⟩) emp λw s=>s)
  rw [hye] at hgl
  obtain ⟨hb,hhb⟩:∃ hb,hb=decide (HasLine (⟨⟨21,vAt ws 0,vAt ws 1,vAt ws 2,vAt ws 3,0,0,0,0,0,0⟩,[],[],[]⟩:OpF)):=⟨_,rfl⟩
  rw [← hhb] at hdoc
  refine ⟨(by (repeat' apply And.intro)<;>first|exact True.intro|(unfold rng;omega)|omega),CallAt.pure (λR' hR'=>hdoc R' λw s=>⟨λ_=>none,λi o e=>(by cases e),λi=>rfl⟩) ?_⟩
  cases hb
  rotate_left
  ·have hH:=of_decide_eq_true hhb.symm
   have hze:=hze hH
   by_cases hq:zz=s
   ·conv=>whnf
    refine ⟨λ_=>?_,λg=>absurd g (by decide)⟩
    conv=>whnf
    refine ⟨λg=>absurd g (by rw [hq];simp),λ_=>?_⟩
    conv=>whnf
    refine ⟨(by (repeat' apply And.intro)<;>first|exact True.intro|(unfold rng;omega)|omega),.mk [emp] (λw sw=>?_) ⟨qNil,(⟨⟨21,vAt ws 0,vAt ws 1,vAt ws 2,vAt ws 3,0,0,0,0,0,0⟩,[],[],[]⟩:OpF),true,rfl,⟨emp,rfl,opH_nil⟩,.inl ⟨rfl,hyok,hH,hyn,(by rw [← hze];exact hq)⟩⟩⟩
    obtain ⟨h,hs,s'⟩:=sw
    obtain ⟨h',e,s2⟩:=sub_nil s'
    exact ⟨h',hs.mono e,emp_in s2⟩
   ·conv=>whnf
    refine ⟨λ_=>?_,λg=>absurd g (by decide)⟩
    conv=>whnf
    refine ⟨λ_=>?_,λg=>absurd (bs_inj.1 (show bs zz=bs s by simpa using g)) hq⟩
    conv=>whnf
    refine ⟨(by (repeat' apply And.intro)<;>first|exact True.intro|(unfold rng;omega)|omega),.mk [emp] (λw sw=>?_) ⟨qNil,⟨⟨0,0,0,0,0,0,0,0,0,0,0⟩,[],[],[]⟩,false,rfl,⟨emp,rfl,opH_nil⟩,.inr ⟨rfl,rfl,λy hy=>?_⟩⟩⟩
    ·obtain ⟨h,hs,s'⟩:=sw
     obtain ⟨h',e,s2⟩:=sub_nil s'
     exact ⟨h',hs.mono e,emp_in s2⟩
    ·have e1:=hgl y hy
     rw [e1] at hze
     exact hq (hze.trans hy.2.2.2)
  ·have hH:=of_decide_eq_false hhb.symm
   conv=>whnf
   repeat (first|(refine ⟨λ_=>?_,λh=>absurd h (by decide)⟩;conv=>whnf)|(refine ⟨λh=>absurd h (by decide),λ_=>?_⟩;conv=>whnf))
   refine ⟨(by (repeat' apply And.intro)<;>first|exact True.intro|(unfold rng;omega)|omega),.mk [emp] (λw sw=>?_) ⟨qNil,⟨⟨0,0,0,0,0,0,0,0,0,0,0⟩,[],[],[]⟩,false,rfl,⟨emp,rfl,opH_nil⟩,.inr ⟨rfl,rfl,λy hy=>?_⟩⟩⟩
   ·obtain ⟨h,hs,s'⟩:=sw
    obtain ⟨h',e,s2⟩:=sub_nil s'
    exact ⟨h',hs.mono e,emp_in s2⟩
   ·have e1:=hgl y hy
    rw [e1] at hH
    exact hH hy.2.1
 ·obtain rfl:4=cn:=hcn
  conv=>whnf
  repeat (first|(refine ⟨λ_=>?_,λh=>absurd h (by decide)⟩;conv=>whnf)|(refine ⟨λh=>absurd h (by decide),λ_=>?_⟩;conv=>whnf))
  refine ⟨(by (repeat' apply And.intro)<;>first|exact True.intro|(unfold rng;omega)|omega),RegAt.tail 14 hmix (by kernel_rfl) ?_⟩
  conv=>whnf
  refine ⟨(by (repeat' apply And.intro)<;>first|exact True.intro|(unfold rng;omega)|omega),LoadAt.cell (.int .i64 (vAt ws 0)) rfl rfl (λw hw=>hcell w (hw.in_ 0 rfl) 0 (by decide)) ?_⟩
  conv=>whnf
  refine ⟨(by (repeat' apply And.intro)<;>first|exact True.intro|(unfold rng;omega)|omega),LoadAt.cell (.int .i64 (vAt ws 1)) rfl rfl (λw hw=>hcell w (hw.in_ 0 rfl) 1 (by decide)) ?_⟩
  conv=>whnf
  refine ⟨(by (repeat' apply And.intro)<;>first|exact True.intro|(unfold rng;omega)|omega),LoadAt.cell (.int .i64 (vAt ws 2)) rfl rfl (λw hw=>hcell w (hw.in_ 0 rfl) 2 (by decide)) ?_⟩
  conv=>whnf
  refine ⟨(by (repeat' apply And.intro)<;>first|exact True.intro|(unfold rng;omega)|omega),LoadAt.cell (.int .i64 (vAt ws 3)) rfl rfl (λw hw=>hcell w (hw.in_ 0 rfl) 3 (by decide)) ?_⟩
  conv=>whnf
  refine ⟨(by (repeat' apply And.intro)<;>first|exact True.intro|(unfold rng;omega)|omega),?_⟩
  conv=>whnf
  have hyok:OpF.ok (⟨⟨22,vAt ws 0,vAt ws 1,vAt ws 2,vAt ws 3,0,0,0,0,0,0⟩,[],[],[]⟩:OpF):=⟨⟨vAt_i64 ws 0,vAt_i64 ws 1,vAt_i64 ws 2,vAt_i64 ws 3,i0,i0,i0,i0,i0,i0⟩,(by show I64 22;unfold I64;omega),λc hc=>(by cases hc),λc hc=>(by cases hc)⟩
  have hyfew:OpF.few (⟨⟨22,vAt ws 0,vAt ws 1,vAt ws 2,vAt ws 3,0,0,0,0,0,0⟩,[],[],[]⟩:OpF):=⟨Nat.zero_le _,Nat.zero_le _,Nat.zero_le _⟩
  have hye:guessF 22 z ws=(⟨⟨22,vAt ws 0,vAt ws 1,vAt ws 2,vAt ws 3,0,0,0,0,0,0⟩,[],[],[]⟩:OpF):=rfl
  have hyn:named (⟨⟨22,vAt ws 0,vAt ws 1,vAt ws 2,vAt ws 3,0,0,0,0,0,0⟩,[],[],[]⟩:OpF)=(⟨⟨22,vAt ws 0,vAt ws 1,vAt ws 2,vAt ws 3,0,0,0,0,0,0⟩,[],[],[]⟩:OpF):=rfl
  obtain ⟨zz,hdoc,hze⟩:=sRfPrintAll (R:=emp) hyok hyfew (opH_nil (o:=⟨22,vAt ws 0,vAt ws 1,vAt ws 2,vAt ws 3,0,0,0,0,0,0⟩) emp λw s=>s)
  rw [hye] at hgl
  obtain ⟨hb,hhb⟩:∃ hb,hb=decide (HasLine (⟨⟨22,vAt ws 0,vAt ws 1,vAt ws 2,vAt ws 3,0,0,0,0,0,0⟩,[],[],[]⟩:OpF)):=⟨_,rfl⟩
  rw [← hhb] at hdoc
  refine ⟨(by (repeat' apply And.intro)<;>first|exact True.intro|(unfold rng;omega)|omega),CallAt.pure (λR' hR'=>hdoc R' λw s=>⟨λ_=>none,λi o e=>(by cases e),λi=>rfl⟩) ?_⟩
  cases hb
  rotate_left
  ·have hH:=of_decide_eq_true hhb.symm
   have hze:=hze hH
   by_cases hq:zz=s
   ·conv=>whnf
    refine ⟨λ_=>?_,λg=>absurd g (by decide)⟩
    conv=>whnf
    refine ⟨λg=>absurd g (by rw [hq];simp),λ_=>?_⟩
    conv=>whnf
    refine ⟨(by (repeat' apply And.intro)<;>first|exact True.intro|(unfold rng;omega)|omega),.mk [emp] (λw sw=>?_) ⟨qNil,(⟨⟨22,vAt ws 0,vAt ws 1,vAt ws 2,vAt ws 3,0,0,0,0,0,0⟩,[],[],[]⟩:OpF),true,rfl,⟨emp,rfl,opH_nil⟩,.inl ⟨rfl,hyok,hH,hyn,(by rw [← hze];exact hq)⟩⟩⟩
    obtain ⟨h,hs,s'⟩:=sw
    obtain ⟨h',e,s2⟩:=sub_nil s'
    exact ⟨h',hs.mono e,emp_in s2⟩
   ·conv=>whnf
    refine ⟨λ_=>?_,λg=>absurd g (by decide)⟩
    conv=>whnf
    refine ⟨λ_=>?_,λg=>absurd (bs_inj.1 (show bs zz=bs s by simpa using g)) hq⟩
    conv=>whnf
    refine ⟨(by (repeat' apply And.intro)<;>first|exact True.intro|(unfold rng;omega)|omega),.mk [emp] (λw sw=>?_) ⟨qNil,⟨⟨0,0,0,0,0,0,0,0,0,0,0⟩,[],[],[]⟩,false,rfl,⟨emp,rfl,opH_nil⟩,.inr ⟨rfl,rfl,λy hy=>?_⟩⟩⟩
    ·obtain ⟨h,hs,s'⟩:=sw
     obtain ⟨h',e,s2⟩:=sub_nil s'
     exact ⟨h',hs.mono e,emp_in s2⟩
    ·have e1:=hgl y hy
     rw [e1] at hze
     exact hq (hze.trans hy.2.2.2)
  ·have hH:=of_decide_eq_false hhb.symm
   conv=>whnf
   repeat (first|(refine ⟨λ_=>?_,λh=>absurd h (by decide)⟩;conv=>whnf)|(refine ⟨λh=>absurd h (by decide),λ_=>?_⟩;conv=>whnf))
   refine ⟨(by (repeat' apply And.intro)<;>first|exact True.intro|(unfold rng;omega)|omega),.mk [emp] (λw sw=>?_) ⟨qNil,⟨⟨0,0,0,0,0,0,0,0,0,0,0⟩,[],[],[]⟩,false,rfl,⟨emp,rfl,opH_nil⟩,.inr ⟨rfl,rfl,λy hy=>?_⟩⟩⟩
   ·obtain ⟨h,hs,s'⟩:=sw
    obtain ⟨h',e,s2⟩:=sub_nil s'
    exact ⟨h',hs.mono e,emp_in s2⟩
   ·have e1:=hgl y hy
    rw [e1] at hH
    exact hH hy.2.1
 ·obtain rfl:1=cn:=hcn
  conv=>whnf
  repeat (first|(refine ⟨λ_=>?_,λh=>absurd h (by decide)⟩;conv=>whnf)|(refine ⟨λh=>absurd h (by decide),λ_=>?_⟩;conv=>whnf))
  refine ⟨(by (repeat' apply And.intro)<;>first|exact True.intro|(unfold rng;omega)|omega),LoadAt.cell (.int .i64 (vAt ws 0)) rfl rfl (λw hw=>hcell w (hw.in_ 0 rfl) 0 (by decide)) ?_⟩
  conv=>whnf
  have hyok:OpF.ok (⟨⟨23,0,0,0,0,0,0,0,0,vAt ws 0,0⟩,[],[],[]⟩:OpF):=⟨⟨i0,i0,i0,i0,i0,i0,i0,i0,vAt_i64 ws 0,i0⟩,(by show I64 23;unfold I64;omega),λc hc=>(by cases hc),λc hc=>(by cases hc)⟩
  have hyfew:OpF.few (⟨⟨23,0,0,0,0,0,0,0,0,vAt ws 0,0⟩,[],[],[]⟩:OpF):=⟨Nat.zero_le _,Nat.zero_le _,Nat.zero_le _⟩
  have hye:guessF 23 z ws=(⟨⟨23,0,0,0,0,0,0,0,0,vAt ws 0,0⟩,[],[],[]⟩:OpF):=rfl
  have hyn:named (⟨⟨23,0,0,0,0,0,0,0,0,vAt ws 0,0⟩,[],[],[]⟩:OpF)=(⟨⟨23,0,0,0,0,0,0,0,0,vAt ws 0,0⟩,[],[],[]⟩:OpF):=rfl
  obtain ⟨zz,hdoc,hze⟩:=sRfPrintAll (R:=emp) hyok hyfew (opH_nil (o:=⟨23,0,0,0,0,0,0,0,0,vAt ws 0,0⟩) emp λw s=>s)
  rw [hye] at hgl
  obtain ⟨hb,hhb⟩:∃ hb,hb=decide (HasLine (⟨⟨23,0,0,0,0,0,0,0,0,vAt ws 0,0⟩,[],[],[]⟩:OpF)):=⟨_,rfl⟩
  rw [← hhb] at hdoc
  refine ⟨(by (repeat' apply And.intro)<;>first|exact True.intro|(unfold rng;omega)|omega),CallAt.pure (λR' hR'=>hdoc R' λw s=>⟨λ_=>none,λi o e=>(by cases e),λi=>rfl⟩) ?_⟩
  cases hb
  rotate_left
  ·have hH:=of_decide_eq_true hhb.symm
   have hze:=hze hH
   by_cases hq:zz=s
   ·conv=>whnf
    refine ⟨λ_=>?_,λg=>absurd g (by decide)⟩
    conv=>whnf
    refine ⟨λg=>absurd g (by rw [hq];simp),λ_=>?_⟩
    conv=>whnf
    refine ⟨(by (repeat' apply And.intro)<;>first|exact True.intro|(unfold rng;omega)|omega),.mk [emp] (λw sw=>?_) ⟨qNil,(⟨⟨23,0,0,0,0,0,0,0,0,vAt ws 0,0⟩,[],[],[]⟩:OpF),true,rfl,⟨emp,rfl,opH_nil⟩,.inl ⟨rfl,hyok,hH,hyn,(by rw [← hze];exact hq)⟩⟩⟩
    obtain ⟨h,hs,s'⟩:=sw
    obtain ⟨h',e,s2⟩:=sub_nil s'
    exact ⟨h',hs.mono e,emp_in s2⟩
   ·conv=>whnf
    refine ⟨λ_=>?_,λg=>absurd g (by decide)⟩
    conv=>whnf
    refine ⟨λ_=>?_,λg=>absurd (bs_inj.1 (show bs zz=bs s by simpa using g)) hq⟩
    conv=>whnf
    refine ⟨(by (repeat' apply And.intro)<;>first|exact True.intro|(unfold rng;omega)|omega),.mk [emp] (λw sw=>?_) ⟨qNil,⟨⟨0,0,0,0,0,0,0,0,0,0,0⟩,[],[],[]⟩,false,rfl,⟨emp,rfl,opH_nil⟩,.inr ⟨rfl,rfl,λy hy=>?_⟩⟩⟩
    ·obtain ⟨h,hs,s'⟩:=sw
     obtain ⟨h',e,s2⟩:=sub_nil s'
     exact ⟨h',hs.mono e,emp_in s2⟩
    ·have e1:=hgl y hy
     rw [e1] at hze
     exact hq (hze.trans hy.2.2.2)
  ·have hH:=of_decide_eq_false hhb.symm
   conv=>whnf
   repeat (first|(refine ⟨λ_=>?_,λh=>absurd h (by decide)⟩;conv=>whnf)|(refine ⟨λh=>absurd h (by decide),λ_=>?_⟩;conv=>whnf))
   refine ⟨(by (repeat' apply And.intro)<;>first|exact True.intro|(unfold rng;omega)|omega),.mk [emp] (λw sw=>?_) ⟨qNil,⟨⟨0,0,0,0,0,0,0,0,0,0,0⟩,[],[],[]⟩,false,rfl,⟨emp,rfl,opH_nil⟩,.inr ⟨rfl,rfl,λy hy=>?_⟩⟩⟩
   ·obtain ⟨h,hs,s'⟩:=sw
    obtain ⟨h',e,s2⟩:=sub_nil s'
    exact ⟨h',hs.mono e,emp_in s2⟩
   ·have e1:=hgl y hy
    rw [e1] at hH
    exact hH hy.2.1
 ·obtain rfl:0=cn:=hcn
  conv=>whnf
  repeat (first|(refine ⟨λ_=>?_,λh=>absurd h (by decide)⟩;conv=>whnf)|(refine ⟨λh=>absurd h (by decide),λ_=>?_⟩;conv=>whnf))
  refine ⟨(by (repeat' apply And.intro)<;>first|exact True.intro|(unfold rng;omega)|omega),CallAt.fn (pre:=[]) _ (λh s=>s) (λR' hR'=>sRfUnhexV (R:=R') la (by omega)) ?_⟩
  rintro r hs' ⟨byts,hby,hbl,Bv,cv,hcv,rfl,rfl⟩
  conv=>whnf
  have hye:guessF 24 z ws=(⟨⟨24,0,0,0,0,0,0,0,0,0,0⟩,[],byts,[]⟩:OpF):=by rw [hby,← hla];rfl
  have hyok:OpF.ok (⟨⟨24,0,0,0,0,0,0,0,0,0,0⟩,[],byts,[]⟩:OpF):=⟨⟨i0,i0,i0,i0,i0,i0,i0,i0,i0,i0⟩,(by show I64 24;unfold I64;omega),λc hc=>(by cases hc),λc hc=>(by cases hc)⟩
  have hyfew:OpF.few (⟨⟨24,0,0,0,0,0,0,0,0,0,0⟩,[],byts,[]⟩:OpF):=⟨Nat.zero_le _,(by show byts.length≤3000;omega),Nat.zero_le _⟩
  have hyn:named (⟨⟨24,0,0,0,0,0,0,0,0,0,0⟩,[],byts,[]⟩:OpF)=(⟨⟨24,0,0,0,0,0,0,0,0,0,0⟩,[],byts,[]⟩:OpF):=rfl
  have hyh:OpH ⟨none,0,some ⟨Bv,0,none⟩,cv,none,0⟩ (⟨⟨24,0,0,0,0,0,0,0,0,0,0⟩,[],byts,[]⟩:OpF) (rowH (.slice (some ⟨Bv,0,none⟩) byts.length cv) byts.length 5 1 (byV byts)):=λR2 h2=>⟨Sl.nil _ _ _,Sl.row h2,Sl.nil _ _ _,⟨Nat.le_refl _,Nat.zero_le _⟩,hcv,⟨Nat.le_refl _,Nat.zero_le _⟩⟩
  obtain ⟨zz,hdoc,hze⟩:=sRfPrintAll hyok hyfew (hyh _ λw s=>s)
  rw [hye] at hgl
  obtain ⟨hb,hhb⟩:∃ hb,hb=decide (HasLine (⟨⟨24,0,0,0,0,0,0,0,0,0,0⟩,[],byts,[]⟩:OpF)):=⟨_,rfl⟩
  rw [← hhb] at hdoc
  refine ⟨(by (repeat' apply And.intro)<;>first|exact True.intro|(unfold rng;omega)|omega),CallAt.pure (λR' hR'=>hdoc R' λw s=>(hR' w s).in_ 0 rfl) ?_⟩
  cases hb
  rotate_left
  ·have hH:=of_decide_eq_true hhb.symm
   have hze:=hze hH
   by_cases hq:zz=s
   ·conv=>whnf
    refine ⟨λ_=>?_,λg=>absurd g (by decide)⟩
    conv=>whnf
    refine ⟨λg=>absurd g (by rw [hq];simp),λ_=>?_⟩
    conv=>whnf
    refine ⟨(by (repeat' apply And.intro)<;>first|exact True.intro|(unfold rng;omega)|omega),.mk [rowH (.slice (some ⟨Bv,0,none⟩) byts.length cv) byts.length 5 1 (byV byts)] (λw sw=>?_) ⟨⟨none,0,some ⟨Bv,0,none⟩,cv,none,0⟩,(⟨⟨24,0,0,0,0,0,0,0,0,0,0⟩,[],byts,[]⟩:OpF),true,rfl,⟨rowH (.slice (some ⟨Bv,0,none⟩) byts.length cv) byts.length 5 1 (byV byts),rfl,hyh⟩,.inl ⟨rfl,hyok,hH,hyn,(by rw [← hze];exact hq)⟩⟩⟩
    obtain ⟨h,hs,s'⟩:=sw
    obtain ⟨h',e,s2⟩:=sub_front (m:=[rowH (.slice (some ⟨Bv,0,none⟩) byts.length cv) byts.length 5 1 (byV byts)]) (sepL_pull 0 s')
    exact ⟨h',hs.mono e,s2⟩
   ·conv=>whnf
    refine ⟨λ_=>?_,λg=>absurd g (by decide)⟩
    conv=>whnf
    refine ⟨λ_=>?_,λg=>absurd (bs_inj.1 (show bs zz=bs s by simpa using g)) hq⟩
    conv=>whnf
    refine ⟨(by (repeat' apply And.intro)<;>first|exact True.intro|(unfold rng;omega)|omega),.mk [emp] (λw sw=>?_) ⟨qNil,⟨⟨0,0,0,0,0,0,0,0,0,0,0⟩,[],[],[]⟩,false,rfl,⟨emp,rfl,opH_nil⟩,.inr ⟨rfl,rfl,λy hy=>?_⟩⟩⟩
    ·obtain ⟨h,hs,s'⟩:=sw
     obtain ⟨h',e,s2⟩:=sub_nil s'
     exact ⟨h',hs.mono e,emp_in s2⟩
    ·have e1:=hgl y hy
     rw [e1] at hze
     exact hq (hze.trans hy.2.2.2)
  ·have hH:=of_decide_eq_false hhb.symm
   conv=>whnf
   repeat (first|(refine ⟨λ_=>?_,λh=>absurd h (by decide)⟩;conv=>whnf)|(refine ⟨λh=>absurd h (by decide),λ_=>?_⟩;conv=>whnf))
   refine ⟨(by (repeat' apply And.intro)<;>first|exact True.intro|(unfold rng;omega)|omega),.mk [emp] (λw sw=>?_) ⟨qNil,⟨⟨0,0,0,0,0,0,0,0,0,0,0⟩,[],[],[]⟩,false,rfl,⟨emp,rfl,opH_nil⟩,.inr ⟨rfl,rfl,λy hy=>?_⟩⟩⟩
   ·obtain ⟨h,hs,s'⟩:=sw
    obtain ⟨h',e,s2⟩:=sub_nil s'
    exact ⟨h',hs.mono e,emp_in s2⟩
   ·have e1:=hgl y hy
    rw [e1] at hH
    exact hH hy.2.1
 ·obtain rfl:0=cn:=hcn
  conv=>whnf
  repeat (first|(refine ⟨λ_=>?_,λh=>absurd h (by decide)⟩;conv=>whnf)|(refine ⟨λh=>absurd h (by decide),λ_=>?_⟩;conv=>whnf))
  have hyok:OpF.ok (⟨⟨25,0,0,0,0,0,0,0,0,0,0⟩,[],[],[]⟩:OpF):=⟨⟨i0,i0,i0,i0,i0,i0,i0,i0,i0,i0⟩,(by show I64 25;unfold I64;omega),λc hc=>(by cases hc),λc hc=>(by cases hc)⟩
  have hyfew:OpF.few (⟨⟨25,0,0,0,0,0,0,0,0,0,0⟩,[],[],[]⟩:OpF):=⟨Nat.zero_le _,Nat.zero_le _,Nat.zero_le _⟩
  have hye:guessF 25 z ws=(⟨⟨25,0,0,0,0,0,0,0,0,0,0⟩,[],[],[]⟩:OpF):=rfl
  have hyn:named (⟨⟨25,0,0,0,0,0,0,0,0,0,0⟩,[],[],[]⟩:OpF)=(⟨⟨25,0,0,0,0,0,0,0,0,0,0⟩,[],[],[]⟩:OpF):=rfl
  obtain ⟨zz,hdoc,hze⟩:=sRfPrintAll (R:=emp) hyok hyfew (opH_nil (o:=⟨25,0,0,0,0,0,0,0,0,0,0⟩) emp λw s=>s)
  rw [hye] at hgl
  obtain ⟨hb,hhb⟩:∃ hb,hb=decide (HasLine (⟨⟨25,0,0,0,0,0,0,0,0,0,0⟩,[],[],[]⟩:OpF)):=⟨_,rfl⟩
  rw [← hhb] at hdoc
  refine ⟨(by (repeat' apply And.intro)<;>first|exact True.intro|(unfold rng;omega)|omega),CallAt.pure (λR' hR'=>hdoc R' λw s=>⟨λ_=>none,λi o e=>(by cases e),λi=>rfl⟩) ?_⟩
  cases hb
  rotate_left
  ·have hH:=of_decide_eq_true hhb.symm
   have hze:=hze hH
   by_cases hq:zz=s
   ·conv=>whnf
    refine ⟨λ_=>?_,λg=>absurd g (by decide)⟩
    conv=>whnf
    refine ⟨λg=>absurd g (by rw [hq];simp),λ_=>?_⟩
    conv=>whnf
    refine ⟨(by (repeat' apply And.intro)<;>first|exact True.intro|(unfold rng;omega)|omega),.mk [emp] (λw sw=>?_) ⟨qNil,(⟨⟨25,0,0,0,0,0,0,0,0,0,0⟩,[],[],[]⟩:OpF),true,rfl,⟨emp,rfl,opH_nil⟩,.inl ⟨rfl,hyok,hH,hyn,(by rw [← hze];exact hq)⟩⟩⟩
    obtain ⟨h,hs,s'⟩:=sw
    obtain ⟨h',e,s2⟩:=sub_nil s'
    exact ⟨h',hs.mono e,emp_in s2⟩
   ·conv=>whnf
    refine ⟨λ_=>?_,λg=>absurd g (by decide)⟩
    conv=>whnf
    refine ⟨λ_=>?_,λg=>absurd (bs_inj.1 (show bs zz=bs s by simpa using g)) hq⟩
    conv=>whnf
    refine ⟨(by (repeat' apply And.intro)<;>first|exact True.intro|(unfold rng;omega)|omega),.mk [emp] (λw sw=>?_) ⟨qNil,⟨⟨0,0,0,0,0,0,0,0,0,0,0⟩,[],[],[]⟩,false,rfl,⟨emp,rfl,opH_nil⟩,.inr ⟨rfl,rfl,λy hy=>?_⟩⟩⟩
    ·obtain ⟨h,hs,s'⟩:=sw
     obtain ⟨h',e,s2⟩:=sub_nil s'
     exact ⟨h',hs.mono e,emp_in s2⟩
    ·have e1:=hgl y hy
     rw [e1] at hze
     exact hq (hze.trans hy.2.2.2)
  ·have hH:=of_decide_eq_false hhb.symm
   conv=>whnf
   repeat (first|(refine ⟨λ_=>?_,λh=>absurd h (by decide)⟩;conv=>whnf)|(refine ⟨λh=>absurd h (by decide),λ_=>?_⟩;conv=>whnf))
   refine ⟨(by (repeat' apply And.intro)<;>first|exact True.intro|(unfold rng;omega)|omega),.mk [emp] (λw sw=>?_) ⟨qNil,⟨⟨0,0,0,0,0,0,0,0,0,0,0⟩,[],[],[]⟩,false,rfl,⟨emp,rfl,opH_nil⟩,.inr ⟨rfl,rfl,λy hy=>?_⟩⟩⟩
   ·obtain ⟨h,hs,s'⟩:=sw
    obtain ⟨h',e,s2⟩:=sub_nil s'
    exact ⟨h',hs.mono e,emp_in s2⟩
   ·have e1:=hgl y hy
    rw [e1] at hH
    exact hH hy.2.1
 ·obtain rfl:0=cn:=hcn
  conv=>whnf
  repeat (first|(refine ⟨λ_=>?_,λh=>absurd h (by decide)⟩;conv=>whnf)|(refine ⟨λh=>absurd h (by decide),λ_=>?_⟩;conv=>whnf))
  have hyok:OpF.ok (⟨⟨26,0,0,0,0,0,0,0,0,0,0⟩,[],[],[]⟩:OpF):=⟨⟨i0,i0,i0,i0,i0,i0,i0,i0,i0,i0⟩,(by show I64 26;unfold I64;omega),λc hc=>(by cases hc),λc hc=>(by cases hc)⟩
  have hyfew:OpF.few (⟨⟨26,0,0,0,0,0,0,0,0,0,0⟩,[],[],[]⟩:OpF):=⟨Nat.zero_le _,Nat.zero_le _,Nat.zero_le _⟩
  have hye:guessF 26 z ws=(⟨⟨26,0,0,0,0,0,0,0,0,0,0⟩,[],[],[]⟩:OpF):=rfl
  have hyn:named (⟨⟨26,0,0,0,0,0,0,0,0,0,0⟩,[],[],[]⟩:OpF)=(⟨⟨26,0,0,0,0,0,0,0,0,0,0⟩,[],[],[]⟩:OpF):=rfl
  obtain ⟨zz,hdoc,hze⟩:=sRfPrintAll (R:=emp) hyok hyfew (opH_nil (o:=⟨26,0,0,0,0,0,0,0,0,0,0⟩) emp λw s=>s)
  rw [hye] at hgl
  obtain ⟨hb,hhb⟩:∃ hb,hb=decide (HasLine (⟨⟨26,0,0,0,0,0,0,0,0,0,0⟩,[],[],[]⟩:OpF)):=⟨_,rfl⟩
  rw [← hhb] at hdoc
  refine ⟨(by (repeat' apply And.intro)<;>first|exact True.intro|(unfold rng;omega)|omega),CallAt.pure (λR' hR'=>hdoc R' λw s=>⟨λ_=>none,λi o e=>(by cases e),λi=>rfl⟩) ?_⟩
  cases hb
  rotate_left
  ·have hH:=of_decide_eq_true hhb.symm
   have hze:=hze hH
   by_cases hq:zz=s
   ·conv=>whnf
    refine ⟨λ_=>?_,λg=>absurd g (by decide)⟩
    conv=>whnf
    refine ⟨λg=>absurd g (by rw [hq];simp),λ_=>?_⟩
    conv=>whnf
    refine ⟨(by (repeat' apply And.intro)<;>first|exact True.intro|(unfold rng;omega)|omega),.mk [emp] (λw sw=>?_) ⟨qNil,(⟨⟨26,0,0,0,0,0,0,0,0,0,0⟩,[],[],[]⟩:OpF),true,rfl,⟨emp,rfl,opH_nil⟩,.inl ⟨rfl,hyok,hH,hyn,(by rw [← hze];exact hq)⟩⟩⟩
    obtain ⟨h,hs,s'⟩:=sw
    obtain ⟨h',e,s2⟩:=sub_nil s'
    exact ⟨h',hs.mono e,emp_in s2⟩
   ·conv=>whnf
    refine ⟨λ_=>?_,λg=>absurd g (by decide)⟩
    conv=>whnf
    refine ⟨λ_=>?_,λg=>absurd (bs_inj.1 (show bs zz=bs s by simpa using g)) hq⟩
    conv=>whnf
    refine ⟨(by (repeat' apply And.intro)<;>first|exact True.intro|(unfold rng;omega)|omega),.mk [emp] (λw sw=>?_) ⟨qNil,⟨⟨0,0,0,0,0,0,0,0,0,0,0⟩,[],[],[]⟩,false,rfl,⟨emp,rfl,opH_nil⟩,.inr ⟨rfl,rfl,λy hy=>?_⟩⟩⟩
    ·obtain ⟨h,hs,s'⟩:=sw
     obtain ⟨h',e,s2⟩:=sub_nil s'
     exact ⟨h',hs.mono e,emp_in s2⟩
    ·have e1:=hgl y hy
     rw [e1] at hze
     exact hq (hze.trans hy.2.2.2)
  ·have hH:=of_decide_eq_false hhb.symm
   conv=>whnf
   repeat (first|(refine ⟨λ_=>?_,λh=>absurd h (by decide)⟩;conv=>whnf)|(refine ⟨λh=>absurd h (by decide),λ_=>?_⟩;conv=>whnf))
   refine ⟨(by (repeat' apply And.intro)<;>first|exact True.intro|(unfold rng;omega)|omega),.mk [emp] (λw sw=>?_) ⟨qNil,⟨⟨0,0,0,0,0,0,0,0,0,0,0⟩,[],[],[]⟩,false,rfl,⟨emp,rfl,opH_nil⟩,.inr ⟨rfl,rfl,λy hy=>?_⟩⟩⟩
   ·obtain ⟨h,hs,s'⟩:=sw
    obtain ⟨h',e,s2⟩:=sub_nil s'
    exact ⟨h',hs.mono e,emp_in s2⟩
   ·have e1:=hgl y hy
    rw [e1] at hH
    exact hH hy.2.1
 ·obtain rfl:4=cn:=hcn
  conv=>whnf
  repeat (first|(refine ⟨λ_=>?_,λh=>absurd h (by decide)⟩;conv=>whnf)|(refine ⟨λh=>absurd h (by decide),λ_=>?_⟩;conv=>whnf))
  refine ⟨(by (repeat' apply And.intro)<;>first|exact True.intro|(unfold rng;omega)|omega),RegAt.tail 14 hmix (by kernel_rfl) ?_⟩
  conv=>whnf
  refine ⟨(by (repeat' apply And.intro)<;>first|exact True.intro|(unfold rng;omega)|omega),LoadAt.cell (.int .i64 (vAt ws 0)) rfl rfl (λw hw=>hcell w (hw.in_ 0 rfl) 0 (by decide)) ?_⟩
  conv=>whnf
  refine ⟨(by (repeat' apply And.intro)<;>first|exact True.intro|(unfold rng;omega)|omega),LoadAt.cell (.int .i64 (vAt ws 1)) rfl rfl (λw hw=>hcell w (hw.in_ 0 rfl) 1 (by decide)) ?_⟩
  conv=>whnf
  refine ⟨(by (repeat' apply And.intro)<;>first|exact True.intro|(unfold rng;omega)|omega),LoadAt.cell (.int .i64 (vAt ws 2)) rfl rfl (λw hw=>hcell w (hw.in_ 0 rfl) 2 (by decide)) ?_⟩
  conv=>whnf
  refine ⟨(by (repeat' apply And.intro)<;>first|exact True.intro|(unfold rng;omega)|omega),LoadAt.cell (.int .i64 (vAt ws 3)) rfl rfl (λw hw=>hcell w (hw.in_ 0 rfl) 3 (by decide)) ?_⟩
  conv=>whnf
  refine ⟨(by (repeat' apply And.intro)<;>first|exact True.intro|(unfold rng;omega)|omega),?_⟩
  conv=>whnf
  have hye:guessF 27 z ws=⟨⟨27,vAt ws 0,vAt ws 1,vAt ws 2,vAt ws 3,0,0,0,0,0,0⟩,[],[],bandsG la⟩:=by rw [← hla];rfl
  unfold bandsG at hye
  refine ⟨(by (repeat' apply And.intro)<;>first|exact True.intro|(unfold rng;omega)|omega),CallAt.fn (pre:=[]) _ (λh s=>s) (λR' hR'=>sRfReadV (R:=R') (s:=la) (by omega)) ?_⟩
  rintro r hs' (⟨hno2,rfl,rfl⟩|⟨l,hyes2,Bv,cv,hcv,rfl,rfl⟩)
  ·conv=>whnf
   rw [hno2] at hye
   simp only [Option.getD_none] at hye
   have hyok:OpF.ok (⟨⟨27,vAt ws 0,vAt ws 1,vAt ws 2,vAt ws 3,0,0,0,0,0,0⟩,[],[],[]⟩:OpF):=⟨⟨vAt_i64 ws 0,vAt_i64 ws 1,vAt_i64 ws 2,vAt_i64 ws 3,i0,i0,i0,i0,i0,i0⟩,(by show I64 27;unfold I64;omega),λc hc=>(by cases hc),λc hc=>(by cases hc)⟩
   have hyfew:OpF.few (⟨⟨27,vAt ws 0,vAt ws 1,vAt ws 2,vAt ws 3,0,0,0,0,0,0⟩,[],[],[]⟩:OpF):=⟨Nat.zero_le _,Nat.zero_le _,Nat.zero_le _⟩
   have hyn:named (⟨⟨27,vAt ws 0,vAt ws 1,vAt ws 2,vAt ws 3,0,0,0,0,0,0⟩,[],[],[]⟩:OpF)=(⟨⟨27,vAt ws 0,vAt ws 1,vAt ws 2,vAt ws 3,0,0,0,0,0,0⟩,[],[],[]⟩:OpF):=rfl
   obtain ⟨zz,hdoc,hze⟩:=sRfPrintAll (R:=emp) hyok hyfew (opH_nil (o:=⟨27,vAt ws 0,vAt ws 1,vAt ws 2,vAt ws 3,0,0,0,0,0,0⟩) emp λw s=>s)
   rw [hye] at hgl
   obtain ⟨hb,hhb⟩:∃ hb,hb=decide (HasLine (⟨⟨27,vAt ws 0,vAt ws 1,vAt ws 2,vAt ws 3,0,0,0,0,0,0⟩,[],[],[]⟩:OpF)):=⟨_,rfl⟩
   rw [← hhb] at hdoc
   refine ⟨(by (repeat' apply And.intro)<;>first|exact True.intro|(unfold rng;omega)|omega),CallAt.pure (λR' hR'=>hdoc R' λw s=>⟨λ_=>none,λi o e=>(by cases e),λi=>rfl⟩) ?_⟩
   cases hb
   rotate_left
   ·have hH:=of_decide_eq_true hhb.symm
    have hze:=hze hH
    by_cases hq:zz=s
    ·conv=>whnf
     refine ⟨λ_=>?_,λg=>absurd g (by decide)⟩
     conv=>whnf
     refine ⟨λg=>absurd g (by rw [hq];simp),λ_=>?_⟩
     conv=>whnf
     refine ⟨(by (repeat' apply And.intro)<;>first|exact True.intro|(unfold rng;omega)|omega),.mk [emp] (λw sw=>?_) ⟨qNil,(⟨⟨27,vAt ws 0,vAt ws 1,vAt ws 2,vAt ws 3,0,0,0,0,0,0⟩,[],[],[]⟩:OpF),true,rfl,⟨emp,rfl,opH_nil⟩,.inl ⟨rfl,hyok,hH,hyn,(by rw [← hze];exact hq)⟩⟩⟩
     obtain ⟨h,hs,s'⟩:=sw
     obtain ⟨h',e,s2⟩:=sub_nil s'
     exact ⟨h',hs.mono e,emp_in s2⟩
    ·conv=>whnf
     refine ⟨λ_=>?_,λg=>absurd g (by decide)⟩
     conv=>whnf
     refine ⟨λ_=>?_,λg=>absurd (bs_inj.1 (show bs zz=bs s by simpa using g)) hq⟩
     conv=>whnf
     refine ⟨(by (repeat' apply And.intro)<;>first|exact True.intro|(unfold rng;omega)|omega),.mk [emp] (λw sw=>?_) ⟨qNil,⟨⟨0,0,0,0,0,0,0,0,0,0,0⟩,[],[],[]⟩,false,rfl,⟨emp,rfl,opH_nil⟩,.inr ⟨rfl,rfl,λy hy=>?_⟩⟩⟩
     ·obtain ⟨h,hs,s'⟩:=sw
      obtain ⟨h',e,s2⟩:=sub_nil s'
      exact ⟨h',hs.mono e,emp_in s2⟩
     ·have e1:=hgl y hy
      rw [e1] at hze
      exact hq (hze.trans hy.2.2.2)
   ·have hH:=of_decide_eq_false hhb.symm
    conv=>whnf
    repeat (first|(refine ⟨λ_=>?_,λh=>absurd h (by decide)⟩;conv=>whnf)|(refine ⟨λh=>absurd h (by decide),λ_=>?_⟩;conv=>whnf))
    refine ⟨(by (repeat' apply And.intro)<;>first|exact True.intro|(unfold rng;omega)|omega),.mk [emp] (λw sw=>?_) ⟨qNil,⟨⟨0,0,0,0,0,0,0,0,0,0,0⟩,[],[],[]⟩,false,rfl,⟨emp,rfl,opH_nil⟩,.inr ⟨rfl,rfl,λy hy=>?_⟩⟩⟩
    ·obtain ⟨h,hs,s'⟩:=sw
     obtain ⟨h',e,s2⟩:=sub_nil s'
     exact ⟨h',hs.mono e,emp_in s2⟩
    ·have e1:=hgl y hy
     rw [e1] at hH
     exact hH hy.2.1
  ·conv=>whnf
   rw [hyes2] at hye
   simp only [Option.getD_some] at hye
   obtain ⟨hRL,_⟩:=refV_iff.1 hyes2
   have hl12:=hRL.2.1
   have hyok:OpF.ok (⟨⟨27,vAt ws 0,vAt ws 1,vAt ws 2,vAt ws 3,0,0,0,0,0,0⟩,[],[],l⟩:OpF):=⟨⟨vAt_i64 ws 0,vAt_i64 ws 1,vAt_i64 ws 2,vAt_i64 ws 3,i0,i0,i0,i0,i0,i0⟩,(by show I64 27;unfold I64;omega),λc hc=>(by cases hc),λb hb=>(by obtain ⟨g1,g2,g3⟩:=hRL.good b hb;unfold MayI at g1;unfold SignN at g3;unfold I64 I32;omega)⟩
   have hyfew:OpF.few (⟨⟨27,vAt ws 0,vAt ws 1,vAt ws 2,vAt ws 3,0,0,0,0,0,0⟩,[],[],l⟩:OpF):=⟨Nat.zero_le _,Nat.zero_le _,(by show l.length≤40;omega)⟩
   have hyn:named (⟨⟨27,vAt ws 0,vAt ws 1,vAt ws 2,vAt ws 3,0,0,0,0,0,0⟩,[],[],l⟩:OpF)=(⟨⟨27,vAt ws 0,vAt ws 1,vAt ws 2,vAt ws 3,0,0,0,0,0,0⟩,[],[],l⟩:OpF):=rfl
   have hyh:OpH ⟨none,0,none,0,Bv,cv⟩ (⟨⟨27,vAt ws 0,vAt ws 1,vAt ws 2,vAt ws 3,0,0,0,0,0,0⟩,[],[],l⟩:OpF) (bRow Bv l.length cv l):=λR2 h2=>⟨Sl.nil _ _ _,Sl.nil _ _ _,Sl.row h2,⟨Nat.le_refl _,Nat.zero_le _⟩,⟨Nat.le_refl _,Nat.zero_le _⟩,hcv⟩
   obtain ⟨zz,hdoc,hze⟩:=sRfPrintAll hyok hyfew (hyh _ λw s=>s)
   rw [hye] at hgl
   obtain ⟨hb,hhb⟩:∃ hb,hb=decide (HasLine (⟨⟨27,vAt ws 0,vAt ws 1,vAt ws 2,vAt ws 3,0,0,0,0,0,0⟩,[],[],l⟩:OpF)):=⟨_,rfl⟩
   rw [← hhb] at hdoc
   refine ⟨(by (repeat' apply And.intro)<;>first|exact True.intro|(unfold rng;omega)|omega),CallAt.pure (λR' hR'=>hdoc R' λw s=>(hR' w s).in_ 0 rfl) ?_⟩
   cases hb
   rotate_left
   ·have hH:=of_decide_eq_true hhb.symm
    have hze:=hze hH
    by_cases hq:zz=s
    ·conv=>whnf
     refine ⟨λ_=>?_,λg=>absurd g (by decide)⟩
     conv=>whnf
     refine ⟨λg=>absurd g (by rw [hq];simp),λ_=>?_⟩
     conv=>whnf
     refine ⟨(by (repeat' apply And.intro)<;>first|exact True.intro|(unfold rng;omega)|omega),.mk [bRow Bv l.length cv l] (λw sw=>?_) ⟨⟨none,0,none,0,Bv,cv⟩,(⟨⟨27,vAt ws 0,vAt ws 1,vAt ws 2,vAt ws 3,0,0,0,0,0,0⟩,[],[],l⟩:OpF),true,rfl,⟨bRow Bv l.length cv l,rfl,hyh⟩,.inl ⟨rfl,hyok,hH,hyn,(by rw [← hze];exact hq)⟩⟩⟩
     obtain ⟨h,hs,s'⟩:=sw
     obtain ⟨h',e,s2⟩:=sub_front (m:=[bRow Bv l.length cv l]) (sepL_pull 0 s')
     exact ⟨h',hs.mono e,s2⟩
    ·conv=>whnf
     refine ⟨λ_=>?_,λg=>absurd g (by decide)⟩
     conv=>whnf
     refine ⟨λ_=>?_,λg=>absurd (bs_inj.1 (show bs zz=bs s by simpa using g)) hq⟩
     conv=>whnf
     refine ⟨(by (repeat' apply And.intro)<;>first|exact True.intro|(unfold rng;omega)|omega),.mk [emp] (λw sw=>?_) ⟨qNil,⟨⟨0,0,0,0,0,0,0,0,0,0,0⟩,[],[],[]⟩,false,rfl,⟨emp,rfl,opH_nil⟩,.inr ⟨rfl,rfl,λy hy=>?_⟩⟩⟩
     ·obtain ⟨h,hs,s'⟩:=sw
      obtain ⟨h',e,s2⟩:=sub_nil s'
      exact ⟨h',hs.mono e,emp_in s2⟩
     ·have e1:=hgl y hy
      rw [e1] at hze
      exact hq (hze.trans hy.2.2.2)
   ·have hH:=of_decide_eq_false hhb.symm
    conv=>whnf
    repeat (first|(refine ⟨λ_=>?_,λh=>absurd h (by decide)⟩;conv=>whnf)|(refine ⟨λh=>absurd h (by decide),λ_=>?_⟩;conv=>whnf))
    refine ⟨(by (repeat' apply And.intro)<;>first|exact True.intro|(unfold rng;omega)|omega),.mk [emp] (λw sw=>?_) ⟨qNil,⟨⟨0,0,0,0,0,0,0,0,0,0,0⟩,[],[],[]⟩,false,rfl,⟨emp,rfl,opH_nil⟩,.inr ⟨rfl,rfl,λy hy=>?_⟩⟩⟩
    ·obtain ⟨h,hs,s'⟩:=sw
     obtain ⟨h',e,s2⟩:=sub_nil s'
     exact ⟨h',hs.mono e,emp_in s2⟩
    ·have e1:=hgl y hy
     rw [e1] at hH
     exact hH hy.2.1
end Go.Proofs.YtcoefgkjlgngkaaGreatDoor
