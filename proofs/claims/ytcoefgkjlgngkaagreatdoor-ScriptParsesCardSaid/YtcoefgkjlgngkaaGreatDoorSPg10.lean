/-
  Texts of the proofs, one behind the other: ScH, SyTree, SyPick, ScI, SyLit.
-/
import Derived.Test.YtcoefgkjlgngkaaGreatDoorSPg09
import Derived.Test.YtcoefgkjlgngkaaGreatDoorSPg02
namespace Go.Proofs.YtcoefgkjlgngkaaGreatDoor
open Go.RowKit
open Sy
set_option linter.unusedVariables false
set_option linter.unusedSimpArgs false
set_option maxRecDepth 100000
set_option maxHeartbeats 4000000
abbrev HXs:ByteArray:=⟨#[48,49,50,51,52,53,54,55,56,57,97,98,99,100,101,102]⟩
theorem dig16:∀ q:Fin 16,byteAt HXs q.val=((hexd q.val).toNat:Int):=by decide
theorem and15:∀ q:Fin 256,bits .and .u8 ((q.val:Nat):Int) 15=((q.val % 16:Nat):Int):=by decide +kernel
theorem hexHi (z:UInt8):byteAt HXs ((z.toNat:Int) / 2 ^ Int.toNat 4).toNat=((hexd (z.toNat / 16)).toNat:Int):=by
 have hz:=z.toNat_lt
 have e:((z.toNat:Int) / 2 ^ Int.toNat 4).toNat=z.toNat / 16:=by show ((z.toNat:Int) / 16).toNat=_;omega
 rw [e]
 exact dig16 ⟨z.toNat / 16,by omega⟩
theorem hexLo (z:UInt8):byteAt HXs (bits .and .u8 (z.toNat:Int) 15).toNat=((hexd (z.toNat % 16)).toNat:Int):=by
 have hz:=z.toNat_lt
 have h1:=and15 ⟨z.toNat,hz⟩
 simp only at h1
 rw [h1,Int.toNat_natCast]
 exact dig16 ⟨z.toNat % 16,by omega⟩
theorem sWriteByte {R:HP} {b:Nat} {l:List UInt8} (x:UInt8) (hl:l.length≤1000000) :
  FnR Tryz.prog R 73 [.pointer (some ⟨b,0,none⟩),.int .u8 (x.toNat:Int)] [bldH b l] λr hs=>r=.nilIface∧hs=[bldH b (l++[x])]:=by
 refine FnR.unbox λ⟨u,A,c⟩=>?_
 rw [List.append_nil]
 have hcc:∀ R',FnR Tryz.prog R' 64 [.pointer (some ⟨b,0,none⟩)] [bldHd b u (.slice A l.length c)] λr hs=>r=.tuple #[]∧hs=[bldHd b true (.slice A l.length c)]:=λR'=>by
  cases u
  ·exact sCopyCheckF
  ·exact sCopyCheckU
 have hxl:=x.toNat_lt
 refine fn_of_run0 false Tryz.func73 rfl hmix rfl λw0=>?_
 conv=>whnf
 refine ⟨trivial,CallAt.fn (pre:=[bldHd b u (.slice A l.length c)]) _ (λh s=>s) (λR' hR'=>hcc R') ?_⟩
 rintro r hs ⟨rfl,rfl⟩
 conv=>whnf
 refine ⟨trivial,LoadAt.cell (.slice A l.length c) rfl rfl (λw hw=>(blk_sat (show Sat (bldHd b true (.slice A l.length c)) w from hw.in_ 0 rfl)).cell 1) ?_⟩
 conv=>whnf
 refine ⟨trivial,OpAt.lit [.int .u8 (x.toNat:Int)] 1 rfl rfl rfl rfl rfl (by decide) rfl rfl rfl (by simp [Value.cells]) rfl (by decide) λg=>?_⟩
 conv=>whnf
 refine ⟨trivial,OpAt.append (.slice A l.length c) l.length 1 1 (byV l) [.int .u8 (x.toNat:Int)] (some ⟨g,0,none⟩) 1 1 _ rfl (λh s=>sepL_pull 2 s) rfl rfl rfl rfl rfl rfl rfl rfl rfl (by decide) (λw hw=>rowH_reads rfl (hw.in_ 0 rfl)) (by simp [Value.oneCell']) (by simp only [maxLen];omega) (by omega) λA' c'=>?_⟩
 conv=>whnf
 refine ⟨trivial,OpAt.store b 1 (.slice A' (l.length+1) c') _ rfl (λh s=>sepL_pull 2 s) rfl rfl rfl rfl rfl (by simp [Value.cells,Value.oneCell']) (λh r=>blk_put (by show 1+1≤2;omega) r) ?_⟩
 conv=>whnf
 refine ⟨trivial,.mk [bldH b (l++[x])] (λw ⟨h,hs,s'⟩=>?_) ⟨rfl,rfl⟩⟩
 obtain ⟨h',e,s2⟩:=sub_front (m:=[bldHd b true (.slice A' (l.length+1) c'),rowH (.slice A' (l.length+1) c') (l.length+1) 5 1 (byV l++[.int .u8 (x.toNat:Int)])]) s'
 refine ⟨h',hs.mono e,boxH_shut (parts:=bldP b (l++[x])) (true,A',c') ?_⟩
 rw [List.append_nil]
 unfold bldP
 rw [List.length_append]
 have e:byV (l++[x])=byV l++[.int .u8 (x.toNat:Int)]:=List.map_append
 rw [e]
 exact s2
theorem sHex {R:HP} {A:Option Addr} {n c:Nat} (l:List UInt8) (hl:l.length=n) (hn:n≤400000) (ha:Sl R A n 1 (byV l)):PureR Tryz.prog R 60 [.slice A n c] (.string (bs (hexW l))):=by
 refine PureR.of_sat λwS hS=>?_
 obtain ⟨_,sa⟩:=ha.spot (by omega) hS
 refine fn_of_run0 false Tryz.func60 rfl hmix rfl λw0=>?_
 conv=>whnf
 refine ⟨λh=>?_,λh=>?_⟩
 ·have h0:n=0:=by have:=of_decide_eq_true h;omega
  subst h0
  obtain rfl:l=[]:=List.length_eq_zero_iff.1 hl
  conv=>whnf
  exact ⟨trivial,fin_pure rfl rfl⟩
 have hne:l≠[]:=by
  rintro rfl
  have:=of_decide_eq_false h
  simp at hl
  omega
 conv=>whnf
 refine ⟨trivial,LoopAt.begins (α:=Nat × Nat) [9,10] (λa=>[(3,.v (.pointer (some ⟨a.2,0,none⟩))),(11,.v (.int .i64 (a.1:Int)))]) (λa=>[]) (λa=>[bldH a.2 (hexT (l.take a.1))]) (λa=>a.1≤n) (λa=>n - a.1) (Begin.expose 0 ?_) ?_⟩
 ·conv=>whnf
  intro tb _
  refine Begin.le ?_ ⟨(0,tb),Nat.zero_le _,rfl⟩
  exact Le.of (Nat.le_of_ble_eq_true rfl) (Nat.zero_le _) ⟨⟨rfl,rfl⟩,⟨rfl,rfl⟩,⟨rfl,rfl⟩,⟨rfl,rfl⟩,trivial⟩ trivial λh s=>sub_same (bld_new s)
 rintro ⟨i,tb⟩ hi
 simp only at hi
 conv=>whnf
 refine ⟨λh3=>?_,λh3=>?_⟩
 ·have g3:i < n:=by simpa using h3
  rcases sa with sa|⟨ab,off,rfl,sa⟩
  ·omega
  have hil:i < l.length:=by omega
  have f1:(byV l)[i]? = some (.int .u8 (l[i].toNat:Int)):=by simp [hil]
  have hnx:hexT (l.take (i+1))=hexT (l.take i)++[hexd (l[i].toNat / 16)]++[hexd (l[i].toNat % 16)]:=by rw [List.take_succ_eq_append_getElem hil,hexT_append];simp [hexT]
  have hli:(hexT (l.take i)).length≤800000:=by rw [hexT_len];simp;omega
  have hz:=l[i].toNat_lt
  generalize l[i]=z at *
  generalize hexT (l.take i)=q at *
  conv=>whnf
  refine ⟨⟨trivial,by simp only;omega⟩,LoadAt.cell (.int .u8 (z.toNat:Int)) rfl rfl (λw hw=>?_) ?_⟩
  ·simp only [Int.toNat_natCast,Nat.mul_one]
   exact sa w (Sat.rest hw) _ _ f1
  conv=>whnf
  rw [hexHi z]
  refine ⟨⟨⟨trivial,by decide⟩,?_⟩,CallAt.fn (pre:=[bldH tb q]) _ (λh s=>s) (λR' hR'=>sWriteByte (hexd (z.toNat / 16)) (by omega)) ?_⟩
  ·show 0≤(z.toNat:Int) / 16∧(z.toNat:Int) / 16 < 16
   omega
  rintro r hs ⟨rfl,rfl⟩
  conv=>whnf
  rw [hexLo z]
  refine ⟨⟨trivial,?_⟩,CallAt.fn (pre:=[bldH tb (q++[hexd (z.toNat / 16)])]) _ (λh s=>s) (λR' hR'=>sWriteByte (hexd (z.toNat % 16)) (by simp;omega)) ?_⟩
  ·have h1:=and15 ⟨z.toNat,hz⟩
   simp only at h1
   rw [h1]
   show 0≤((z.toNat % 16:Nat):Int)∧((z.toNat % 16:Nat):Int) < 16
   omega
  rintro r hs ⟨rfl,rfl⟩
  conv=>whnf
  refine ⟨⟨trivial,by unfold rng;simp only;omega⟩,.mk (i+1,tb) (by simp only;omega) (by simp only;omega) (Le.of (Nat.le_of_ble_eq_true rfl) (Nat.zero_le _) ⟨⟨rfl,rfl⟩,⟨rfl,rfl⟩,⟨rfl,rfl⟩,⟨rfl,rfl⟩,trivial⟩ trivial λh s=>?_)⟩
  refine sub_same ?_
  show sepL [bldH tb (hexT (l.take (i+1)))] R h
  rw [hnx]
  exact s
 ·have g3:i=n:=by simp at h3;omega
  subst g3
  have e:l.take i=l:=List.take_of_length_le (by omega)
  have e2:hexW l=hexT l:=by unfold hexW;rw [if_neg hne]
  conv=>whnf
  refine ⟨trivial,CallAt.fn (pre:=[bldH tb (hexT (l.take i))]) _ (λh s=>s) (λR' hR'=>sBString (by rw [e];intro c;have:=congrArg List.length c;rw [hexT_len] at this;have:=List.length_pos_iff.2 hne;simp at *;omega) (by rw [e,hexT_len];omega)) ?_⟩
  rintro r hs ⟨rfl,rfl⟩
  rw [e,e2]
  conv=>whnf
  exact ⟨trivial,fin_drop rfl⟩
namespace Sy
set_option linter.unusedVariables false
set_option linter.unusedSimpArgs false
inductive Tr|E|T (k:Nat) (r:Tr)|H (k:Nat) (r:Tr)|C (k:Nat) (r:Tr) (j:Nat) (s:Tr)|D (k:Nat) (r:Tr) (j:Nat) (s:Tr) (i:Nat) (t:Tr)
def Tr.len:Tr→Nat
 |.E=>0
 |.T _ r=>r.len+1
 |.H _ r=>r.len+1
 |.C _ r _ _=>r.len+1
 |.D _ r _ _ _ _=>r.len+1
def treeB (ops:Array Oper) (n:Nat) (F:Array Bool→Bool):Tr→Array Bool→Bool
 |.E,ls=>F ls && (Region.ready .any ops ls).all λj=>decide (n≤j)
 |.T k r,ls=>decide (k < n) && ((Region.ready .any ops ls).contains k && (Region.free .any ops ls k && treeB ops n F r (ls.setIfInBounds k true)))
 |.H k r,ls=>decide (k < n) && (decide (Region.ready .any ops ls=[k]) && treeB ops n F r (ls.setIfInBounds k true))
 |.C k r j s,ls=>decide (k < n) && (decide (j < n) && (decide (Region.ready .any ops ls=[k,j]) && (decide (r.len=s.len) && (treeB ops n F r (ls.setIfInBounds k true) && treeB ops n F s (ls.setIfInBounds j true)))))
 |.D k r j s i t,ls=>decide (k < n) && (decide (j < n) && (decide (i < n) && (decide (Region.ready .any ops ls=[k,j,i]) && ((decide (r.len=s.len) && decide (r.len=t.len)) && (treeB ops n F r (ls.setIfInBounds k true) && (treeB ops n F s (ls.setIfInBounds j true) && treeB ops n F t (ls.setIfInBounds i true)))))))
def treesB (ops:Array Oper):List (Tr × Nat)→Array Bool→Bool
 |[],ls=>decide (Region.ready .any ops ls=[])
 |(g,n)::r,ls=>(decide (ops.size≤n) || (decide (n < ops.size) && (Region.sinkB .any ops n && chainW ops n))) && (headW ops n ls && treeB ops n (λls'=>treesB ops r ls') g ls)
def treeLen:List (Tr × Nat)→Nat
 |[]=>0
 |(g,_)::r=>g.len+treeLen r
def treesOk (l:List Oper) (gs:List (Tr × Nat)):Bool:=Region.noSelect l.toArray && (decide (treeLen gs=l.length) && treesB l.toArray gs (Array.replicate l.toArray.size false))
def opT2 (G:Gl) (st0:St) (o:Oper) (st:St) (K:St→Prop):Prop :=
 match o.op with
 |.load t x=>ev st x False λvx=>match vx with
  |.v (.pointer (some ad))=>stp st λst=>LoadAt G t ad st0 λr=>putK G st o.dst r none K
  |_=>q1 G.P G.tr st o False λr q=>putK G st o.dst r q K
 |_=>q1 G.P G.tr st o False λr q=>putK G st o.dst r q K
def TakeT2 (G:Gl) (st0:St) (o:Oper) (st:St) (K:St→Prop):Prop :=
 st.c∧∀ ρ m a w0,Tm G st (ρ++m) a→Mem G st0 ρ w0→∃ v st',K st'∧SameM st st'∧(∀ w,Mem G st0 ρ w→(execOp a.eval o).run G.P w=.ok (.value v) w)∧Tm G st' (ρ++m) (a.put o.dst v)
theorem ob_ext {G:Gl} {st0 st:St} {ρ:List Nat} {w:World} (mm:Mem G st0 ρ w) (ho:st.o=st0.o) (m:List Nat):Ob st (ρ++m) w:=by
 intro x hx
 rw [ho] at hx
 obtain ⟨b,cs,e1,e2,e3⟩:=mm.ob x hx
 refine ⟨b,cs,?_,denL_ext m e2,e3⟩
 rw [List.getElem?_append_left (List.getElem?_eq_some_iff.1 e1).1]
 exact e1
theorem take_q2 {G:Gl} {st0:St} {o:Oper} {st:St} {K:St→Prop} (ho:st.o=st0.o) (hK:Good K) (h:q1 G.P G.tr st o False λr q=>putK G st o.dst r q K):TakeT2 G st0 o st K:=by
 rcases q1_sound h with h|⟨x,q,h,hy⟩
 ·exact h.elim
 ·obtain ⟨⟨hc,hq⟩,hp⟩:=putK_same h hK
  refine ⟨hc,λρ m a w0 tm mm0=>?_⟩
  have hy:=hy hq
  obtain ⟨v,e1,e2⟩:=hy G (ρ++m) a w0 tm (ob_ext mm0 ho m)
  obtain ⟨st',k,hs,m'⟩:=hp (ρ++m) a v e1 tm
  refine ⟨v,st',k,hs,λw' mm'=>?_,m'⟩
  obtain ⟨v',e3,e4⟩:=hy G (ρ++m) a w' tm (ob_ext mm' ho m)
  rw [e1] at e3
  injection e3 with e3
  subst e3
  exact e4
theorem opT2_sound {G:Gl} {st0:St} {o:Oper} {st:St} {K:St→Prop} (ho:st.o=st0.o) (h:opT2 G st0 o st K) (hK:Good K):TakeT2 G st0 o st K:=by
 unfold opT2 at h
 split at h
 case h_1 t x hop =>
  rcases ev_sound h with h|⟨sx,h,ex⟩
  ·exact h.elim
  split at h
  ·rename_i ad
   obtain ⟨hc,⟨r,hr,h⟩⟩:=stp_iff.1 h
   refine ⟨hc,λρ m a w0 tm mm0=>?_⟩
   obtain ⟨_,hp⟩:=putK_same h hK
   obtain ⟨st',k,hs,m'⟩:=hp (ρ++m) a r rfl (tm.same rfl)
   refine ⟨r,st',k,hs,λw mm=>?_,m'⟩
   have h1:=ex G (ρ++m) a tm
   simp only [SV.den,Option.some.injEq] at h1
   simp [execOp,hop,← h1,hr ρ w mm]
  ·exact take_q2 ho hK h
 case h_2=>exact take_q2 ho hK h
theorem optT2_good {G:Gl} {st0:St} {all:List Oper} {o:Oper} {F:St→Prop} (hF:Good F):∀ st,st.o=st0.o→opsG (opT2 G st0) G all [o] st F→st.c:=by
 intro st hst h
 unfold opsG at h
 have e:∀ st,opsG (opT2 G st0) G all [] st F=F st:=λst=>rfl
 simp only [e] at h
 split at h
 ·exact (opT2_sound hst h hF).1
 ·rename_i j want hg
  split at h
  ·split at h
   ·split at h
    ·split at h
     ·exact (opT2_sound hst h hF).1
     ·exact (putK_same h hF).1.1
    ·rename_i b hx
     by_cases hb:b=want
     ·exact (opT2_sound (st:=Sy.seen st _ _) hst (h.1 hb) hF).1
     ·exact (putK_same (h.2 (by cases b<;>cases want<;>simp_all)) hF).1.1
    ·exact (putK_same h hF).1.1
    ·exact h.elim
   ·exact h.elim
  ·exact h.elim
theorem takeG2 {G:Gl} {st0:St} {all:List Oper} {o:Oper} {st:St} {F:St→Prop} (hst:st.o=st0.o) (h:opsG (opT2 G st0) G all [o] st F) (hF:Good F) {ρ m0:List Nat} {a:Act} {w0:World} (m:Tm G st (ρ++m0) a) (mm:Mem G st0 ρ w0) :
  ∃ v st',F st'∧SameM st st'∧Tm G st' (ρ++m0) (a.put o.dst v)∧YieldsIf G.P all.toArray (Mem G st0 ρ) o v a:=by
 unfold opsG at h
 have e:∀ st,opsG (opT2 G st0) G all [] st F=F st:=λst=>rfl
 simp only [e] at h
 have yes:∀ st1:St,SameM st st1→Tm G st1 (ρ++m0) a→opT2 G st0 o st1 F→Region.wanted o (yielded all.toArray a.tmps)=true→∃ v st',F st'∧SameM st st'∧Tm G st' (ρ++m0) (a.put o.dst v)∧YieldsIf G.P all.toArray (Mem G st0 ρ) o v a:=by
  intro st1 s1 m1 h hwt
  obtain ⟨_,hq⟩:=opT2_sound (s1.1.trans hst) h hF
  obtain ⟨v,st',k',s2,hr',m'⟩:=hq ρ m0 a w0 m1 mm
  exact ⟨v,st',k',⟨s2.1.trans s1.1,s2.2.1.trans s1.2.1,s2.2.2.trans s1.2.2⟩,m',.inl ⟨hwt,λw hw=>hr' w hw⟩⟩
 have no:∀ st1:St,SameM st st1→Tm G st1 (ρ++m0) a→putK G st1 o.dst (.v undef) none F→Region.wanted o (yielded all.toArray a.tmps)=false→∃ v st',F st'∧SameM st st'∧Tm G st' (ρ++m0) (a.put o.dst v)∧YieldsIf G.P all.toArray (Mem G st0 ρ) o v a:=by
  intro st1 s1 m1 h hwt
  obtain ⟨_,hp⟩:=putK_same h hF
  obtain ⟨st',k',s2,m'⟩:=hp (ρ++m0) a undef rfl m1
  exact ⟨undef,st',k',⟨s2.1.trans s1.1,s2.2.1.trans s1.2.1,s2.2.2.trans s1.2.2⟩,m',.inr ⟨hwt,rfl⟩⟩
 split at h
 ·rename_i hg
  exact yes st ⟨rfl,rfl,rfl⟩ m h (wanted_none hg _)
 ·rename_i j want hg
  split at h
  ·rename_i oj hj
   split at h
   ·rename_i t ht
    split at h
    ·rename_i b hx
     split at h
     ·rename_i hb
      exact yes st ⟨rfl,rfl,rfl⟩ m h (by rw [wanted_eq hg hj ht hx rfl m,hb])
     ·rename_i hb
      exact no st ⟨rfl,rfl,rfl⟩ m h (by rw [wanted_eq hg hj ht hx rfl m,hb])
    ·rename_i b hx
     by_cases hb:b=want
     ·subst hb
      exact yes (seen st t b) ⟨rfl,rfl,rfl⟩ (seen_tm m hx) (h.1 rfl) (by rw [wanted_eq hg hj ht hx rfl m];simp)
     ·have hb':b=!want:=by cases b<;>cases want<;>simp_all
      subst hb'
      exact no (seen st t (!want)) ⟨rfl,rfl,rfl⟩ (seen_tm m hx) (h.2 rfl) (by rw [wanted_eq hg hj ht hx rfl m];simp)
    ·rename_i hx
     exact no st ⟨rfl,rfl,rfl⟩ m h (wanted_undef hg hj ht hx m)
    ·exact h.elim
   ·exact h.elim
  ·exact h.elim
def Kept2 (G:Gl) (st0 st:St):Prop:=(st.o.drop (st.o.length - st0.o.length)=st0.o∧Nat.ble st0.n st.n=true)∧∀ h,sepL st.h G.R h→∃ h',(∀ i o,h' i=some o→h i=some o)∧sepL st0.h G.R h'
def heavyG (G:Gl) (all:List Oper) (kp:Bool) (st0:St) (k:Nat) (st:St) (K:St→Prop):Prop:=match all[k]? with
 |some o=>match o.guard with
  |none=>op1 G o st λst=>match kp with
   |true=>stp st λst=>Kept2 G st0 st∧K st
   |false=>stp st K
  |some _=>False
 |none=>False
def Tr.hasT:Tr→Bool
 |.E=>false
 |.T _ _=>true
 |.H _ r=>r.hasT
 |.C _ r _ s=>r.hasT || s.hasT
 |.D _ r _ s _ t=>r.hasT || s.hasT || t.hasT
def atS (st0 st:St):St:=⟨st.t,st0.o,st0.n,st.h,st.c⟩
def atK (st0 st:St) (K:St→Prop):Prop:=match st0,st with
 |⟨_,o,n,_,_⟩,⟨t,_,_,h,c⟩=>K ⟨t,o,n,h,c⟩
def reK (st st':St) (K:St→Prop):Prop:=match st,st' with
 |⟨_,o,n,h,_⟩,⟨t,_,_,_,c⟩=>K ⟨t,o,n,h,c⟩
theorem atK_eq (st0 st:St) (K:St→Prop):atK st0 st K=K (atS st0 st):=by cases st0;cases st;rfl
theorem reK_eq (st st':St) (K:St→Prop):reK st st' K=K ⟨st'.t,st.o,st.n,st.h,st'.c⟩:=by cases st;cases st';rfl
def treeG (G:Gl) (all:List Oper) (kp:Bool) (st0:St):Tr→St→(St→Prop)→Prop
 |.E,st,K=>K st
 |.T k r,st,K=>match kp with
  |true=>match all[k]? with
   |some o=>atK st0 st λs1=>opsG (opT2 G st0) G all [o] s1 λst'=>reK st st' λst''=>treeG G all kp st0 r st'' K
   |none=>False
  |false=>False
 |.H k r,st,K=>heavyG G all kp st0 k st λst=>treeG G all kp st0 r st K
 |.C k r j s,st,K=>(heavyG G all kp st0 k st λst=>treeG G all kp st0 r st K)∧(heavyG G all kp st0 j st λst=>treeG G all kp st0 s st K)
 |.D k r j s i t,st,K=>(heavyG G all kp st0 k st λst=>treeG G all kp st0 r st K)∧(heavyG G all kp st0 j st λst=>treeG G all kp st0 s st K)∧(heavyG G all kp st0 i st λst=>treeG G all kp st0 t st K)
theorem heavy_op {G:Gl} {kp:Bool} {st0:St} {o:Oper} {st:St} {K:St→Prop} (h:op1 G o st λst=>match kp with|true=>stp st λst=>Kept2 G st0 st∧K st|false=>stp st K):op1 G o st λst=>stp st λst=>(kp=true→Kept2 G st0 st)∧K st:=by
 cases kp with
 |true =>
  have e:(λst=>stp st λst=>Kept2 G st0 st∧K st)=λst=>stp st λst=>(true=true→Kept2 G st0 st)∧K st:=by simp
  rw [← e]
  exact h
 |false =>
  have e:(λst=>stp st K)=λst=>stp st λst=>(false=true→Kept2 G st0 st)∧K st:=by simp
  rw [← e]
  exact h
theorem heavy_good {G:Gl} {all:List Oper} {kp:Bool} {st0:St} {k:Nat} {K:St→Prop}:Good λst=>heavyG G all kp st0 k st K:=λst h=>by
 unfold heavyG at h
 split at h
 ·split at h
  ·exact (op1_sound (heavy_op h) good_stp).1
  ·exact h.elim
 ·exact h.elim
theorem treeG_good {G:Gl} {all:List Oper} {kp:Bool} {st0:St} {K:St→Prop} (hK:Good K):∀ g:Tr,Good λst=>treeG G all kp st0 g st K
 |.E=>hK
 |.T k r=>λst h=>by
  unfold treeG at h
  split at h
  ·split at h
   ·rw [atK_eq] at h
    simp only [reK_eq] at h
    have:=optT2_good (st0:=st0) (F:=λst'=>treeG G all true st0 r ⟨st'.t,st.o,st.n,st.h,st'.c⟩ K) (λst' h'=>treeG_good hK r ⟨st'.t,st.o,st.n,st.h,st'.c⟩ h') (atS st0 st) rfl h
    exact this
   ·exact h.elim
  ·exact h.elim
 |.H k r=>λst h=>heavy_good _ h
 |.C k r j s=>λst h=>heavy_good _ h.1
 |.D k r j s i t=>λst h=>heavy_good _ h.1
structure Since (G:Gl) (st0 st:St) (ρ0 ρ:List Nat) (w:World):Prop where
 ext:∃ m,ρ=ρ0++m
 mem:Mem G st0 ρ0 w
theorem kept_since {G:Gl} {st0 st:St} {ρ0 ρ:List Nat} {w0 w:World} (mm0:Mem G st0 ρ0 w0) (hx:∃ m,ρ=ρ0++m) (mm:Mem G st ρ w) (hk:Kept2 G st0 st):Mem G st0 ρ0 w:=by
 obtain ⟨m1,m2,m3,m4,m5,m6,mk,hh,m7,m8,m9⟩:=mm
 obtain ⟨⟨e1,e2⟩,e3⟩:=hk
 obtain ⟨q,rfl⟩:=hx
 have hsub:∀ x∈st0.o,x∈st.o:=λx hx=>by rw [← e1] at hx;exact List.mem_of_mem_drop hx
 have at_:∀ x∈st0.o,(ρ0++q)[x.1]? = ρ0[x.1]?:=λx hx=>by
  obtain ⟨b,cs,g1,_⟩:=mm0.ob x hx
  rw [List.getElem?_append_left (List.getElem?_eq_some_iff.1 g1).1]
 obtain ⟨h',s1,s2⟩:=e3 hh m8
 refine ⟨m1,mm0.len,(List.nodup_append.1 m3).1,λb hb=>m4 b (List.mem_append_left _ hb),mm0.no,λx hx=>?_,mm0.kn,h',m7.mono s1,s2,λx hx b hb=>?_⟩
 ·obtain ⟨b,cs,g1,g2,g3⟩:=m6 x (hsub x hx)
  obtain ⟨b',cs',f1,f2,_⟩:=mm0.ob x hx
  rw [at_ x hx] at g1
  have:=denL_ext q f2
  rw [g2] at this
  injection this with this
  subst this
  exact ⟨b,cs,g1,f2,g3⟩
 ·have:=m9 x (hsub x hx) b (by rw [at_ x hx];exact hb)
  cases e':h' b with
  |none=>rfl
  |some ob=>rw [s1 b ob e'] at this;cases this
theorem heavy_step {G:Gl} {all:List Oper} {Q:Exit→Act→World→Prop} {F:Array Bool→Bool} {K:St→Prop} {n:Nat} {kp:Bool} {st0:St} {ρ0:List Nat} {ls:Array Bool} {st:St} {ρ:List Nat} {a:Act} {w:World} (hx:∀ e a w,PXE G e a w→Q e a w) (inv:HeadInv .any all.toArray n ls) (m:Tm G st ρ a) (mm:Mem G st ρ w) (hk:kp=true→Since G st0 st ρ0 ρ w)
  (i:Nat) (t:Tr) (hi:i∈Region.ready .any all.toArray ls) (hin:i < n) (hB:treeB all.toArray n F t (ls.setIfInBounds i true)=true) (h:heavyG G all kp st0 i st λst=>treeG G all kp st0 t st K)
  (ih:∀ ls st ρ a w,HeadInv .any all.toArray n ls→treeB all.toArray n F t ls=true→treeG G all kp st0 t st K→Tm G st ρ a→Mem G st ρ w→(kp=true→Since G st0 st ρ0 ρ w)→HdG G.P all.toArray Q (λw=>kp=true→Mem G st0 ρ0 w) n (λls a w=>(F ls=true∧(Region.ready .any all.toArray ls).all (λj=>decide (n≤j))=true)∧∃ st ρ,K st∧Tm G st ρ a∧Mem G st ρ w) t.len ls a w) :
  wpOp G.P all.toArray Q i (λa' w'=>(kp=true→Mem G st0 ρ0 w')∧HdG G.P all.toArray Q (λw=>kp=true→Mem G st0 ρ0 w) n (λls a w=>(F ls=true∧(Region.ready .any all.toArray ls).all (λj=>decide (n≤j))=true)∧∃ st ρ,K st∧Tm G st ρ a∧Mem G st ρ w) t.len (ls.setIfInBounds i true) a' w') a w:=by
 unfold heavyG at h
 split at h
 ·rename_i o ho'
  have ho2:all.toArray[i]? = some o:=by simpa using ho'
  split at h
  ·rename_i hg
   unfold wpOp
   simp only [ho2]
   rw [if_pos (wanted_none hg _)]
   left
   refine Oper.wp_mono (λa' w' ⟨st',ρ',k',m',mm',ex'⟩=>?_) ((op1_soundX (heavy_op h) good_stp).2 ρ a w Q hx m mm)
   obtain ⟨_,hkeep,k'⟩:=stp_iff.1 k'
   have mm2:kp=true→Since G st0 { st' with c:=True } ρ0 ρ' w':=λhkp=>by
    have hk:=hk hkp
    obtain ⟨q,rfl⟩:=hk.ext
    obtain ⟨q',rfl⟩:=ex'
    have hx:∃ m,ρ0++q++q'=ρ0++m:=⟨q++q',by rw [List.append_assoc]⟩
    exact ⟨hx,kept_since hk.mem hx (mm'.same (st':={ st' with c:=True }) rfl rfl rfl) (hkeep hkp)⟩
   exact ⟨λe=>(mm2 e).mem,ih _ _ _ a' w' (inv.set hi hin) hB k' (m'.same rfl) (mm'.same rfl rfl rfl) mm2⟩
  ·exact h.elim
 ·exact h.elim
theorem tree_sound {G:Gl} {all:List Oper} {Q:Exit→Act→World→Prop} {F:Array Bool→Bool} {K:St→Prop} {n:Nat} {kp:Bool} {st0:St} {ρ0:List Nat} (hx:∀ e a w,PXE G e a w→Q e a w) (hsel:Region.noSelect all.toArray=true) (hQ:∀ o∈all,∀ v c a w,Q (.panic c) (Act.put a o.dst v) w→Q (.panic c) a w) (hn:wallB all.toArray n) (hK:Good K) :
  ∀ (g:Tr) (ls:Array Bool) (st:St) (ρ:List Nat) (a:Act) (w:World),HeadInv .any all.toArray n ls→treeB all.toArray n F g ls=true→treeG G all kp st0 g st K→Tm G st ρ a→Mem G st ρ w→(kp=true→Since G st0 st ρ0 ρ w) →
   HdG G.P all.toArray Q (λw=>kp=true→Mem G st0 ρ0 w) n (λls a w=>(F ls=true∧(Region.ready .any all.toArray ls).all (λj=>decide (n≤j))=true)∧∃ st ρ,K st∧Tm G st ρ a∧Mem G st ρ w) g.len ls a w
 |.E,ls,st,ρ,a,w,inv,hB,h,m,mm,hk=>by
  simp only [treeB,Bool.and_eq_true] at hB
  exact ⟨hB,st,ρ,h,m,mm⟩
 |.T k r,ls,st,ρ,a,w,inv,hB,h,m,mm,hk=>by
  simp only [treeB,Bool.and_eq_true,decide_eq_true_eq] at hB
  obtain ⟨hkn,hr,hf,hB⟩:=hB
  unfold treeG at h
  split at h
  rotate_left
  ·exact h.elim
  have hk:=hk rfl
  split at h
  ·rename_i o ho'
   have ho2:all.toArray[k]? = some o:=by simpa using ho'
   have hr':k∈Region.ready .any all.toArray ls:=by simpa using hr
   rw [atK_eq] at h
   simp only [reK_eq] at h
   obtain ⟨q,rfl⟩:=hk.ext
   have m1:Tm G (atS st0 st) (ρ0++q) a:=m.same rfl
   obtain ⟨v,st',k',s',m',hy⟩:=takeG2 (st0:=st0) (st:=atS st0 st) (F:=λst'=>treeG G all true st0 r ⟨st'.t,st.o,st.n,st.h,st'.c⟩ K) rfl h (λst' h'=>treeG_good hK r ⟨st'.t,st.o,st.n,st.h,st'.c⟩ h') m1 hk.mem
   refine HdG.take ho2 hsel hn hkn (λc a w=>hQ _ (List.mem_of_getElem? ho') _ c a w) (λls a w hL j hj=>?_) r.len ls a w inv (Region.free_spec ho2 hf) hr' (hy.imp_left λ⟨h1,h2⟩=>⟨h1,λw hw=>h2 w (hw rfl)⟩) (λ_=>hk.mem) ?_
   ·have:=List.all_eq_true.1 hL.1.2 j hj
    simpa using this
   ·exact tree_sound hx hsel hQ hn hK r _ _ (ρ0++q) _ w (inv.set hr' hkn) hB k' (m'.same rfl) (mm.same rfl rfl rfl) λ_=>⟨⟨q,rfl⟩,hk.mem⟩
  ·exact h.elim
 |.H k r,ls,st,ρ,a,w,inv,hB,h,m,mm,hk=>by
  simp only [treeB,Bool.and_eq_true,decide_eq_true_eq] at hB
  obtain ⟨hkn,hr,hB⟩:=hB
  have hr':k∈Region.ready .any all.toArray ls:=by rw [hr];simp
  refine ⟨List.ne_nil_of_mem hr',λi hi=>?_⟩
  rw [hr] at hi
  have hik:i=k:=by simpa using hi
  subst hik
  refine ⟨hkn,?_⟩
  have h:heavyG G all kp st0 i st λst=>treeG G all kp st0 r st K:=h
  unfold heavyG at h
  split at h
  ·rename_i o ho'
   have ho2:all.toArray[i]? = some o:=by simpa using ho'
   split at h
   ·rename_i hg
    unfold wpOp
    simp only [ho2]
    rw [if_pos (wanted_none hg _)]
    left
    refine Oper.wp_mono (λa' w' ⟨st',ρ',k',m',mm',ex'⟩=>?_) ((op1_soundX (heavy_op h) good_stp).2 ρ a w Q hx m mm)
    obtain ⟨_,hkeep,k'⟩:=stp_iff.1 k'
    have mm2:kp=true→Since G st0 { st' with c:=True } ρ0 ρ' w':=λhkp=>by
     have hk:=hk hkp
     obtain ⟨q,rfl⟩:=hk.ext
     obtain ⟨q',rfl⟩:=ex'
     have hx:∃ m,ρ0++q++q'=ρ0++m:=⟨q++q',by rw [List.append_assoc]⟩
     exact ⟨hx,kept_since hk.mem hx (mm'.same (st':={ st' with c:=True }) rfl rfl rfl) (hkeep hkp)⟩
    exact ⟨λe=>(mm2 e).mem,tree_sound hx hsel hQ hn hK r _ _ _ a' w' (inv.set hr' hkn) hB k' (m'.same rfl) (mm'.same rfl rfl rfl) mm2⟩
   ·exact h.elim
  ·exact h.elim
 |.C k r j s,ls,st,ρ,a,w,inv,hB,h,m,mm,hk=>by
  simp only [treeB,Bool.and_eq_true,decide_eq_true_eq] at hB
  obtain ⟨hkn,hjn,hr,hlen,hB1,hB2⟩:=hB
  have hk':k∈Region.ready .any all.toArray ls:=by rw [hr];simp
  have hj':j∈Region.ready .any all.toArray ls:=by rw [hr];simp
  have h:(heavyG G all kp st0 k st λst=>treeG G all kp st0 r st K)∧(heavyG G all kp st0 j st λst=>treeG G all kp st0 s st K):=h
  have step:=λi t=>heavy_step (F:=F) (K:=K) (Q:=Q) (st0:=st0) hx inv m mm hk i t
  refine ⟨List.ne_nil_of_mem hk',λi hi=>?_⟩
  rw [hr] at hi
  have hik:i=k∨i=j:=by simpa using hi
  rcases hik with rfl|rfl
  ·exact ⟨hkn,step i r hk' hkn hB1 h.1 (tree_sound hx hsel hQ hn hK r)⟩
  ·refine ⟨hjn,?_⟩
   have:=step i s hj' hjn hB2 h.2 (tree_sound hx hsel hQ hn hK s)
   rw [← hlen] at this
   exact this
 |.D k r j s i t,ls,st,ρ,a,w,inv,hB,h,m,mm,hk=>by
  simp only [treeB,Bool.and_eq_true,decide_eq_true_eq] at hB
  obtain ⟨hkn,hjn,hin,hr,⟨hlen,hlen2⟩,hB1,hB2,hB3⟩:=hB
  have hk':k∈Region.ready .any all.toArray ls:=by rw [hr];simp
  have hj':j∈Region.ready .any all.toArray ls:=by rw [hr];simp
  have hi':i∈Region.ready .any all.toArray ls:=by rw [hr];simp
  have h:(heavyG G all kp st0 k st λst=>treeG G all kp st0 r st K)∧(heavyG G all kp st0 j st λst=>treeG G all kp st0 s st K)∧(heavyG G all kp st0 i st λst=>treeG G all kp st0 t st K):=h
  have step:=λi t=>heavy_step (F:=F) (K:=K) (Q:=Q) (st0:=st0) hx inv m mm hk i t
  refine ⟨List.ne_nil_of_mem hk',λq hq=>?_⟩
  rw [hr] at hq
  have hik:q=k∨q=j∨q=i:=by simpa using hq
  rcases hik with rfl|rfl|rfl
  ·exact ⟨hkn,step q r hk' hkn hB1 h.1 (tree_sound hx hsel hQ hn hK r)⟩
  ·refine ⟨hjn,?_⟩
   have:=step q s hj' hjn hB2 h.2.1 (tree_sound hx hsel hQ hn hK s)
   rw [← hlen] at this
   exact this
  ·refine ⟨hin,?_⟩
   have:=step q t hi' hin hB3 h.2.2 (tree_sound hx hsel hQ hn hK t)
   rw [← hlen2] at this
   exact this
end Sy
namespace Sy
set_option linter.unusedVariables false
set_option linter.unusedSimpArgs false
def asK0 (st:St) (K:St→St→Prop):Prop:=match st with
 |⟨t,o,n,h,c⟩=>K ⟨t,o,n,[],c⟩ ⟨t,o,n,h,c⟩
theorem asK0_eq (st:St) (K:St→St→Prop):asK0 st K=K { st with h:=[] } st:=by cases st;rfl
def treesG0 (G:Gl) (all:List Oper):List (Tr × Nat)→St→(St→Prop)→Prop
 |[],st,K=>stp st K
 |(g,_)::r,st,K=>asK0 st λst0 st=>treeG G all g.hasT st0 g st λst=>treesG0 G all r st K
theorem treesG0_good {G:Gl} {all:List Oper} {K:St→Prop}:∀ gs:List (Tr × Nat),Good λst=>treesG0 G all gs st K
 |[]=>good_stp
 |(g,n)::r=>λst h=>by
  have h:asK0 st λst0 st=>treeG G all g.hasT st0 g st λst=>treesG0 G all r st K:=h
  rw [asK0_eq] at h
  exact treeG_good (treesG0_good r) g _ h
theorem trees0_sound {G:Gl} {all:List Oper} {Q:Exit→Act→World→Prop} {K:St→Prop} (hx:∀ e a w,PXE G e a w→Q e a w) (hsel:Region.noSelect all.toArray=true) (hQ:∀ o∈all,∀ v c a w,Q (.panic c) (Act.put a o.dst v) w→Q (.panic c) a w) (hend:∀ st ρ a w,K st→Tm G st ρ a→Mem G st ρ w→Q .normal a w) :
  ∀ (gs:List (Tr × Nat)) (ls:Array Bool) (st:St) (ρ:List Nat) (a:Act) (w:World),treesB all.toArray gs ls=true→treesG0 G all gs st K→Tm G st ρ a→Mem G st ρ w→wpAny G.P .any all.toArray Q (treeLen gs) ls a w
 |[],ls,st,ρ,a,w,hB,h,m,mm=>by
  simp only [treesB,decide_eq_true_eq] at hB
  exact ⟨hB,hend { st with c:=True } ρ a w (stp_iff.1 h).2 (m.same rfl) (mm.same rfl rfl rfl)⟩
 |(g,n)::r,ls,st,ρ,a,w,hB,h,m,mm=>by
  simp only [treesB,Bool.and_eq_true,Bool.or_eq_true,decide_eq_true_eq] at hB
  obtain ⟨hw,hh,hs⟩:=hB
  have h:asK0 st λst0 st=>treeG G all g.hasT st0 g st λst=>treesG0 G all r st K:=h
  rw [asK0_eq] at h
  have key:=tree_sound (F:=λls'=>treesB all.toArray r ls') (kp:=g.hasT) (st0:={ st with h:=[] }) (ρ0:=ρ) hx hsel hQ hw (treesG0_good r) g ls st ρ a w (headW_spec hh) hs h m mm λ_=>⟨⟨[],by simp⟩,mem_nil mm⟩
  exact HdG.any (g:=treeLen r) (λls' a' w' ⟨⟨hF,_⟩,st',ρ',k,m',mm'⟩=>trees0_sound hx hsel hQ hend r ls' st' ρ' a' w' hF k m' mm') _ _ _ _ key
theorem RegAt.trees0 {G:Gl} {id:Nat} {l:List Oper} {st:St} {K:St→Prop} (gs:List (Tr × Nat)) (hm:G.P.follows .mixedOrders=true) (hB:treesOk l gs=true) (h:treesG0 G l gs st K) (hax:axFree G.AX l=true:=by rfl):RegAt G id l.toArray st K:=by
 simp only [treesOk,Bool.and_eq_true,decide_eq_true_eq] at hB
 obtain ⟨h1,h2,h3⟩:=hB
 refine .mk λρ a w m mm=>?_
 refine wp_region_any hm ?_
 have key:=trees0_sound (Q:=λe a' w'=>(e=.normal∧∃ st' ρ',K st'∧Tm G st' ρ' a'∧Mem G st' ρ' w')∨PXE G e a' w') (λe a w hp=>.inr hp) h1 (λo ho v c a w hq=>by rcases hq with ⟨hq,_⟩|hq;cases hq;exact .inr (hq.put (axFree_spec hax o ho))) (λst ρ a w k m mm=>.inl ⟨rfl,st,ρ,k,m,mm⟩) gs _ st ρ a _ h3 h m mm.drew
 rw [h2] at key
 simpa using key
end Sy
abbrev putC (cs:Array Value) (k:Nat) (v:Value):Array Value:=(putL cs.toList k [v]).toArray
theorem putC_get {cs:Array Value} {k:Nat} {v:Value} (hk:k < cs.size):(putC cs k v)[k]? = some v:=by
 simp only [List.getElem?_toArray]
 rw [putL_get (by simp;omega),if_pos (by simp)]
 simp
theorem putC_size {cs:Array Value} {k:Nat} {v:Value} (hk:k < cs.size):(putC cs k v).size=cs.size:=by
 simp only [List.size_toArray]
 rw [putL_len (by simp;omega)]
 simp
theorem sList {R:HP} {lb b:Nat} {tb:TypeId} {cs:Array Value} {A:Option Addr} {n c:Nat} (hN:∀ w,Sat R w→NumW w) (hM:∀ w,Sat R w→MaxW w) (ws:List (List UInt8)) (k:Nat) (l:List Int) (hw:ws.length≤100000) (hk:cs[k]? = some (.slice A n c)) (hl:l.length=n) (hn:n≤40000) (hi:∀ x∈l,I64 x) (ha:Sl R A n 1 (l.flatMap numL)) :
  FnR Tryz.prog R 43 [.pointer (some ⟨lb,0,none⟩),.pointer (some ⟨b,k,none⟩)] [lnH lb ws,blkH b tb cs] λr hs=>r=.tuple #[]∧∃ v,hs=[lnH lb (ws++[listW l]),blkH b tb (putC cs k v)]:=by
 have hks:=(Array.getElem?_eq_some_iff.1 hk).1
 have hjo:=λR' (h:∀ w,Sat R' w→Sat R w)=>sJoin (R:=R') (c:=c) (λw s=>hN w (h w s)) l hl (by omega) hi (ha.mono h)
 have hwl:=listW_len hi
 refine fn_of_run0 false Tryz.func43 rfl hmix rfl λw0=>?_
 conv=>whnf
 refine ⟨trivial,LoadAt.cell (.slice A n c) rfl rfl (λw hw=>blk_cell (hw.in_ 1 rfl) hk) ?_⟩
 conv=>whnf
 refine ⟨trivial,CallAt.pure (λR' hR'=>hjo R' λw s=>Sat.rest (hR' w s)) ?_⟩
 conv=>whnf
 refine ⟨trivial,CallAt.fn (pre:=[lnH lb ws]) _ (λh s=>s) (λR' hR'=>sWord (listW l) (by omega)) ?_⟩
 rintro r hs ⟨rfl,rfl⟩
 conv=>whnf
 refine ⟨trivial,OpAt.store (A':=blkH b tb (putC cs k (.slice none 0 0))) b k (.slice none 0 0) _ rfl (λh s=>sepL_pull 1 s) rfl rfl rfl rfl rfl (by simp [Value.cells,Value.oneCell']) (λh r=>blk_put (by simp [Value.cells];omega) r) ?_⟩
 conv=>whnf
 refine ⟨λh=>?_,λh=>?_⟩
 ·conv=>whnf
  exact ⟨trivial,.mk _ (λw ⟨h,hs,s⟩=>⟨h,hs,sepL_pull 1 s⟩) ⟨rfl,_,rfl⟩⟩
 have hne:l≠[]:=by
  rintro rfl
  exact absurd h (by decide)
 have hsp:=λR' (h:∀ w,Sat R' w→Sat R w)=>sSplitC (R:=R') (λw s=>hM w (h w s)) 44 (listW l) (by omega)
 rw [listW_split hne] at hsp
 rw [List.length_map,hl] at hsp
 conv=>whnf
 refine ⟨trivial,CallAt.fn (pre:=[]) _ (λh s=>s) (λR' hR'=>hsp R' λw s=>Sat.rest (hR' w s)) ?_⟩
 rintro r hs ⟨B,rfl,rfl⟩
 conv=>whnf
 refine ⟨trivial,LoopAt.heap (α:=Nat × Option Addr × Nat) [1,18,19] (λa=>[(20,.v (.int .i64 (a.1:Int)))]) (λa=>[rowH (.slice a.2.1 a.1 a.2.2) a.1 2 1 ((l.take a.1).flatMap numL),blkH b tb (putC cs k (.slice a.2.1 a.1 a.2.2)),rowH (.slice (some ⟨B,0,none⟩) n n) n 9 1 (strV (l.map Lib.itoa)),lnH lb (ws++[listW l])]) (λa=>a.1≤n) (λa=>n - a.1) (0,none,0) (Nat.zero_le _) rfl ⟨⟨rfl,rfl⟩,trivial⟩ ⟨⟨rfl,rfl⟩,⟨rfl,rfl⟩,⟨rfl,rfl⟩,trivial⟩ trivial (λh s=>sub_same (row_nil _ _ (sepL_pull 1 s))) ?_⟩
 rintro ⟨i,D,cd⟩ hi'
 simp only at hi'
 conv=>whnf
 refine ⟨λh=>?_,λh=>?_⟩
 ·have hi2:i < n:=by simpa using h
  have hil:i < l.length:=by omega
  have f3:(l.take (i+1)).flatMap numL=(l.take i).flatMap numL++[.int .i64 l[i]]:=by rw [List.take_succ_eq_append_getElem hil,List.flatMap_append];rfl
  have f1:(strV (l.map Lib.itoa))[i]? = some (.string (bs (Lib.itoa l[i]))):=by simp [hil]
  have hb:=hi _ (List.getElem_mem hil)
  have hnu:=λR' (h:∀ w,Sat R' w→Sat R w)=>sNumber (R:=R') (λw s=>hN w (h w s)) l[i] hb
  generalize l[i]=z at *
  conv=>whnf
  refine ⟨⟨trivial,by simp only;omega⟩,LoadAt.cell (.string (bs (Lib.itoa z))) rfl rfl (λw hw=>?_) ?_⟩
  ·have hrd:=rowH_reads rfl (hw.in_ 2 rfl)
   obtain ⟨ad,e1,_,e2⟩:=hrd.2 (by omega)
   injection e1 with e1
   subst e1
   have:=e2 i _ f1
   rw [add_plain] at this
   simpa using this
  conv=>whnf
  generalize (l.take i).flatMap numL=us at *
  refine ⟨trivial,RegAt.trees0 [((Tr.T 0 (Tr.T 1 (Tr.T 2 (Tr.T 4 (Tr.C 3 (Tr.H 5 (Tr.H 6 (Tr.H 7 Tr.E))) 5 (Tr.C 3 (Tr.H 6 (Tr.H 7 Tr.E)) 6 (Tr.H 3 (Tr.H 7 Tr.E)))))))),8),((Tr.T 8 Tr.E),9),((Tr.H 9 Tr.E),10)] hmix (by kernel_rfl) ?_⟩
  conv=>whnf
  refine ⟨?_,?_⟩
  ·refine ⟨trivial,LoadAt.cell (.slice D i cd) rfl rfl (λw hw=>blk_cell (hw.in_ 1 rfl) (putC_get hks)) ?_⟩
   conv=>whnf
   refine ⟨trivial,⟨⟨rfl,rfl⟩,λh s=>sub_nil s⟩,?_⟩
   conv=>whnf
   refine ⟨trivial,CallAt.pure (λR' hR'=>hnu R' λw s=>Sat.rest (hR' w s)) ?_⟩
   conv=>whnf
   refine ⟨trivial,⟨⟨rfl,rfl⟩,λh s=>sub_nil s⟩,?_⟩
   conv=>whnf
   refine ⟨trivial,OpAt.lit [.int .i64 z] 1 rfl rfl rfl rfl rfl (by decide) rfl rfl rfl (by simp [Value.cells]) rfl (by decide) λg=>?_⟩
   conv=>whnf
   refine ⟨trivial,⟨⟨rfl,rfl⟩,λh s=>sub_nil s⟩,?_⟩
   conv=>whnf
   refine ⟨trivial,OpAt.append (.slice D i cd) i 1 8 us [.int .i64 z] (some ⟨g,0,none⟩) 1 1 _ rfl (λh s=>sepL_pull 1 s) rfl rfl rfl rfl rfl rfl rfl rfl rfl (by decide) (λw hw=>rowH_reads rfl (Sat.left hw)) (by simp [Value.oneCell']) (by simp only [maxLen];omega) (by omega) λD' cd'=>?_⟩
   conv=>whnf
   refine ⟨trivial,⟨⟨rfl,rfl⟩,λh s=>sub_nil s⟩,?_⟩
   conv=>whnf
   refine ⟨trivial,OpAt.store (A':=blkH b tb (putC cs k (.slice D' (i+1) cd'))) b k (.slice D' (i+1) cd') _ rfl (λh s=>sepL_pull 2 s) rfl rfl rfl rfl rfl (by simp [Value.cells,Value.oneCell']) (λh r=>?_) ?_⟩
   ·have hb:=blk_put (off:=k) (ys:=[.slice D' (i+1) cd']) (show k+1≤_ by rw [putC_size hks];omega) r
    rw [show (putL (putC cs k (.slice D i cd)).toList k [.slice D' (i+1) cd']).toArray=putC cs k (.slice D' (i+1) cd') from congrArg List.toArray (putL_again (by simpa using hks))] at hb
    exact hb
   conv=>whnf
   refine ⟨trivial,?_⟩
   conv=>whnf
   refine ⟨trivial,?_⟩
   conv=>whnf
   refine ⟨⟨trivial,by unfold rng;simp only;omega⟩,Next.heap (i+1,D',cd') (by simp only;omega) (by simp only;omega) ⟨⟨rfl,rfl⟩,trivial⟩ ⟨⟨rfl,rfl⟩,⟨rfl,rfl⟩,⟨rfl,rfl⟩,trivial⟩ trivial rfl rfl λh s=>?_⟩
   obtain ⟨h',e,s'⟩:=sub_tail (sepL_pull 2 s)
   refine ⟨h',e,?_⟩
   show sepL [rowH (.slice D' (i+1) cd') (i+1) 2 1 ((l.take (i+1)).flatMap numL),blkH b tb (putC cs k (.slice D' (i+1) cd')),rowH (.slice (some ⟨B,0,none⟩) n n) n 9 1 (strV (l.map Lib.itoa)),lnH lb (ws++[listW l])] R h'
   rw [f3]
   exact sepL_perm (List.Perm.swap _ _ _) s'
  ·refine ⟨trivial,CallAt.pure (λR' hR'=>hnu R' λw s=>Sat.rest (hR' w s)) ?_⟩
   conv=>whnf
   refine ⟨trivial,⟨⟨rfl,rfl⟩,λh s=>sub_nil s⟩,?_⟩
   conv=>whnf
   refine ⟨?_,?_⟩
   ·refine ⟨trivial,LoadAt.cell (.slice D i cd) rfl rfl (λw hw=>blk_cell (hw.in_ 1 rfl) (putC_get hks)) ?_⟩
    conv=>whnf
    refine ⟨trivial,⟨⟨rfl,rfl⟩,λh s=>sub_nil s⟩,?_⟩
    conv=>whnf
    refine ⟨trivial,OpAt.lit [.int .i64 z] 1 rfl rfl rfl rfl rfl (by decide) rfl rfl rfl (by simp [Value.cells]) rfl (by decide) λg=>?_⟩
    conv=>whnf
    refine ⟨trivial,⟨⟨rfl,rfl⟩,λh s=>sub_nil s⟩,?_⟩
    conv=>whnf
    refine ⟨trivial,OpAt.append (.slice D i cd) i 1 8 us [.int .i64 z] (some ⟨g,0,none⟩) 1 1 _ rfl (λh s=>sepL_pull 1 s) rfl rfl rfl rfl rfl rfl rfl rfl rfl (by decide) (λw hw=>rowH_reads rfl (Sat.left hw)) (by simp [Value.oneCell']) (by simp only [maxLen];omega) (by omega) λD' cd'=>?_⟩
    conv=>whnf
    refine ⟨trivial,⟨⟨rfl,rfl⟩,λh s=>sub_nil s⟩,?_⟩
    conv=>whnf
    refine ⟨trivial,OpAt.store (A':=blkH b tb (putC cs k (.slice D' (i+1) cd'))) b k (.slice D' (i+1) cd') _ rfl (λh s=>sepL_pull 2 s) rfl rfl rfl rfl rfl (by simp [Value.cells,Value.oneCell']) (λh r=>?_) ?_⟩
    ·have hb:=blk_put (off:=k) (ys:=[.slice D' (i+1) cd']) (show k+1≤_ by rw [putC_size hks];omega) r
     rw [show (putL (putC cs k (.slice D i cd)).toList k [.slice D' (i+1) cd']).toArray=putC cs k (.slice D' (i+1) cd') from congrArg List.toArray (putL_again (by simpa using hks))] at hb
     exact hb
    conv=>whnf
    refine ⟨trivial,?_⟩
    conv=>whnf
    refine ⟨trivial,?_⟩
    conv=>whnf
    refine ⟨⟨trivial,by unfold rng;simp only;omega⟩,Next.heap (i+1,D',cd') (by simp only;omega) (by simp only;omega) ⟨⟨rfl,rfl⟩,trivial⟩ ⟨⟨rfl,rfl⟩,⟨rfl,rfl⟩,⟨rfl,rfl⟩,trivial⟩ trivial rfl rfl λh s=>?_⟩
    obtain ⟨h',e,s'⟩:=sub_tail (sepL_pull 2 s)
    refine ⟨h',e,?_⟩
    show sepL [rowH (.slice D' (i+1) cd') (i+1) 2 1 ((l.take (i+1)).flatMap numL),blkH b tb (putC cs k (.slice D' (i+1) cd')),rowH (.slice (some ⟨B,0,none⟩) n n) n 9 1 (strV (l.map Lib.itoa)),lnH lb (ws++[listW l])] R h'
    rw [f3]
    exact sepL_perm (List.Perm.swap _ _ _) s'
   ·refine ⟨trivial,OpAt.lit [.int .i64 z] 1 rfl rfl rfl rfl rfl (by decide) rfl rfl rfl (by simp [Value.cells]) rfl (by decide) λg=>?_⟩
    conv=>whnf
    refine ⟨trivial,⟨⟨rfl,rfl⟩,λh s=>sub_nil s⟩,?_⟩
    conv=>whnf
    refine ⟨trivial,LoadAt.cell (.slice D i cd) rfl rfl (λw hw=>blk_cell (hw.in_ 2 rfl) (putC_get hks)) ?_⟩
    conv=>whnf
    refine ⟨trivial,⟨⟨rfl,rfl⟩,λh s=>sub_nil s⟩,?_⟩
    conv=>whnf
    refine ⟨trivial,OpAt.append (.slice D i cd) i 1 8 us [.int .i64 z] (some ⟨g,0,none⟩) 1 1 _ rfl (λh s=>sepL_pull 1 s) rfl rfl rfl rfl rfl rfl rfl rfl rfl (by decide) (λw hw=>rowH_reads rfl (Sat.left hw)) (by simp [Value.oneCell']) (by simp only [maxLen];omega) (by omega) λD' cd'=>?_⟩
    conv=>whnf
    refine ⟨trivial,⟨⟨rfl,rfl⟩,λh s=>sub_nil s⟩,?_⟩
    conv=>whnf
    refine ⟨trivial,OpAt.store (A':=blkH b tb (putC cs k (.slice D' (i+1) cd'))) b k (.slice D' (i+1) cd') _ rfl (λh s=>sepL_pull 2 s) rfl rfl rfl rfl rfl (by simp [Value.cells,Value.oneCell']) (λh r=>?_) ?_⟩
    ·have hb:=blk_put (off:=k) (ys:=[.slice D' (i+1) cd']) (show k+1≤_ by rw [putC_size hks];omega) r
     rw [show (putL (putC cs k (.slice D i cd)).toList k [.slice D' (i+1) cd']).toArray=putC cs k (.slice D' (i+1) cd') from congrArg List.toArray (putL_again (by simpa using hks))] at hb
     exact hb
    conv=>whnf
    refine ⟨trivial,?_⟩
    conv=>whnf
    refine ⟨trivial,?_⟩
    conv=>whnf
    refine ⟨⟨trivial,by unfold rng;simp only;omega⟩,Next.heap (i+1,D',cd') (by simp only;omega) (by simp only;omega) ⟨⟨rfl,rfl⟩,trivial⟩ ⟨⟨rfl,rfl⟩,⟨rfl,rfl⟩,⟨rfl,rfl⟩,trivial⟩ trivial rfl rfl λh s=>?_⟩
    obtain ⟨h',e,s'⟩:=sub_tail (sepL_pull 2 s)
    refine ⟨h',e,?_⟩
    show sepL [rowH (.slice D' (i+1) cd') (i+1) 2 1 ((l.take (i+1)).flatMap numL),blkH b tb (putC cs k (.slice D' (i+1) cd')),rowH (.slice (some ⟨B,0,none⟩) n n) n 9 1 (strV (l.map Lib.itoa)),lnH lb (ws++[listW l])] R h'
    rw [f3]
    exact sepL_perm (List.Perm.swap _ _ _) s'
 ·have hi3:i=n:=by simp at h;omega
  subst hi3
  conv=>whnf
  refine ⟨trivial,.mk [lnH lb (ws++[listW l]),blkH b tb (putC cs k (.slice D i cd))] (λw ⟨h,hs,s⟩=>?_) ⟨rfl,_,rfl⟩⟩
  obtain ⟨h',e,s'⟩:=sub_front (m:=[lnH lb (ws++[listW l]),blkH b tb (putC cs k (.slice D i cd))]) (sepL_perm ((List.Perm.swap _ _ _).cons _) (sepL_pull 3 s))
  exact ⟨h',hs.mono e,s'⟩
namespace Sy
set_option linter.unusedVariables false
set_option linter.unusedSimpArgs false
end Sy
end Go.Proofs.YtcoefgkjlgngkaaGreatDoor
