/-
  Texts of the proofs, one behind the other: ScVd, ScVe.
-/
import Derived.Test.YtcoefgkjlgngkaaGreatDoorSPg28
import Derived.Test.YtcoefgkjlgngkaaGreatDoorSPg26
import Derived.Test.YtcoefgkjlgngkaaGreatDoorSPg29
import Derived.Test.YtcoefgkjlgngkaaGreatDoorSPg18
namespace Go.Proofs.YtcoefgkjlgngkaaGreatDoor
open Go.RowKit
open Sy
set_option linter.unusedVariables false
set_option linter.unusedSimpArgs false
set_option maxRecDepth 100000
set_option maxHeartbeats 4000000
def LineOf (y:OpF) (s:List UInt8):Prop:=y.ok∧HasLine y∧named y=y∧lineF y=s
def OkW (ws:List (List UInt8)) (i:Nat):Prop:=∃ w,ws[i]? = some w∧(read w).2=0
theorem numsCase (ws:List (List UInt8)):∀ c,(∃ j,j < c∧(∀ i,i < j→OkW ws i)∧¬ OkW ws j)∨(∀ i,i < c→OkW ws i)
 |0=>.inr λi h=>absurd h (Nat.not_lt_zero _)
 |c+1=>by
  rcases numsCase ws c with ⟨j,h1,h2⟩|h
  ·exact .inl ⟨j,by omega,h2⟩
  ·by_cases hc:OkW ws c
   ·refine .inr λi hi=>?_
    by_cases e:i=c
    ·rw [e];exact hc
    ·exact h i (by omega)
   ·exact .inl ⟨c,by omega,h,hc⟩
theorem vAt_i64 (ws:List (List UInt8)) (i:Nat):I64 (vAt ws i):=read_rng
theorem OkW.at {ws:List (List UInt8)} {i:Nat} (h:OkW ws i):∃ w,ws[i]? = some w∧read w=(vAt ws i,0):=by
 obtain ⟨w,h1,h2⟩:=h
 refine ⟨w,h1,?_⟩
 unfold vAt
 rw [List.getD_eq_getElem?_getD,h1]
 exact Prod.ext rfl h2
theorem OkW.lt {ws:List (List UInt8)} {c:Nat} (h:∀ i,i < c→OkW ws i):c≤ws.length:=by
 cases c with
 |zero=>exact Nat.zero_le _
 |succ c =>
  obtain ⟨w,h1,_⟩:=h c (by omega)
  have:=(List.getElem?_eq_some_iff.1 h1).1
  omega
theorem nums_all {z:List UInt8} {ws:List (List UInt8)} {c:Nat} (hw:∀ w∈ws,w.length≤3000) (h:∀ i,i < c→OkW ws i) {zs:List Int} (hz:zs=(List.range c).map (vAt ws)):Nums (z::ws) 1 zs:=by
 subst hz
 intro i hi
 rw [List.length_map,List.length_range] at hi
 obtain ⟨w,h1,h2⟩:=(h i hi).at
 refine ⟨w,by rw [Nat.add_comm,List.getElem?_cons_succ];exact h1,?_,?_⟩
 ·rw [h2];simp
 ·have:=hw w (List.mem_of_getElem? h1);omega
theorem numsNo_of {z:List UInt8} {ws:List (List UInt8)} {c j:Nat} (hw:∀ w∈ws,w.length≤3000) (hj:j < c) (h:∀ i,i < j→OkW ws i) (hb:¬ OkW ws j) {zs:List Int} (hz:zs=(List.range c).map (vAt ws)):NumsNo (z::ws) 1 zs j:=by
 subst hz
 refine ⟨by simpa using hj,λi hi hij=>?_,?_⟩
 ·rw [List.length_map,List.length_range] at hi
  obtain ⟨w,h1,h2⟩:=(h i hij).at
  refine ⟨w,by rw [Nat.add_comm,List.getElem?_cons_succ];exact h1,?_,?_⟩
  ·rw [h2];simp
  ·have:=hw w (List.mem_of_getElem? h1);omega
 ·have hle:=OkW.lt h
  by_cases c:j=ws.length
  ·exact .inl (by rw [List.length_cons];omega)
  ·right
   have hlt:j < ws.length:=by omega
   refine ⟨ws[j],by rw [Nat.add_comm,List.getElem?_cons_succ];exact List.getElem?_eq_getElem hlt,?_,λe=>hb ⟨ws[j],List.getElem?_eq_getElem hlt,e⟩⟩
   have:=hw _ (List.getElem_mem hlt)
   omega
theorem OkW.word {ws:List (List UInt8)} {i:Nat} (h:OkW ws i):ws[i]? = some (Lib.itoa (vAt ws i)):=by
 obtain ⟨w,h1,h2⟩:=h.at
 rw [h1,itoa_read h2]
theorem words_num {ws:List (List UInt8)} {c:Nat} (h:∀ i,i < c→OkW ws i):ws.take c=(List.range c).map λi=>Lib.itoa (vAt ws i):=by
 have hle:=OkW.lt h
 apply List.ext_getElem?
 intro i
 by_cases hi:i < c
 ·rw [List.getElem?_take_of_lt hi,(h i hi).word]
  simp [hi]
 ·rw [List.getElem?_eq_none (by rw [List.length_take];omega),List.getElem?_eq_none (by simp;omega)]
structure PIn (R:HP) (s z:List UInt8) (ws:List (List UInt8)):Prop where
 hW:∀ w,Sat R w→ReadW w
 hV:∀ w,Sat R w→VerbsW w
 hl:s.length≤3000
 hs:pcs 32 s=z::ws
theorem PIn.words {R:HP} {s z:List UInt8} {ws:List (List UInt8)} (h:PIn R s z ws):ws.length+1≤3001∧∀ w∈ws,w.length≤3000:=by
 have hl:=h.hl
 refine ⟨?_,λw hw=>?_⟩
 ·have:=pcs_len 32 s
  rw [h.hs] at this
  have h3:s.count 32≤s.length:=List.count_le_length
  simp at this
  omega
 ·have:=pcs_mem_len (d:=32) (s:=s) (p:=w) (by rw [h.hs];exact List.mem_cons_of_mem _ hw)
  omega
theorem PIn.line {R:HP} {s z:List UInt8} {ws:List (List UInt8)} (h:PIn R s z ws):s=jn 32 (z::ws):=by
 have:=(pcs_spec 32 s).1
 rw [h.hs] at this
 exact this.symm
abbrev Throws (R:HP) (s:List UInt8):Prop:=∀ R':HP,(∀ w,Sat R' w→Sat R w)→PanR Tryz.prog R' 13 [.string (bs s)] [] isThrown R'
theorem orNM {R:HP} {s z:List UInt8} {ws:List (List UInt8)} (h:PIn R s z ws) (hk:kd z 28=1∨kd z 28=17):(∃ y,LineOf y s)∨Throws R s:=by
 have hK:kd z 28≠0:=by omega
 obtain ⟨hk1,hk2,hzv⟩:=kd_is hK
 obtain ⟨hwl,hwb⟩:=h.words
 have hline:=h.line
 obtain ⟨hW,hV,hl,hs⟩:=h
 have hN:=λ(R':HP) (h:∀ w,Sat R' w→Sat R w) w (s:Sat R' w)=>(hW w (h w s)).1
 rcases hk with hk|hk
 ·rw [hk] at hzv
  rcases numsCase ws 2 with ⟨j,hj,hok,hbad⟩|hall
  ·right
   refine λR' hR=>sParsePan (λw s=>hV w (hR w s)) (λw s=>(hW w (hR w s)).2) (by omega) hs λR2 lb B ob hr hw=>?_
   rw [hk]
   exact sTakeNMNo (R:=R2) (o:=⟨1,0,0,0,0,0,0,0,0,vAt ws 0,vAt ws 1⟩) (hN R2 λw s=>hR w (hr w s)) ⟨i0,i0,i0,i0,i0,i0,i0,i0,vAt_i64 ws 0,vAt_i64 ws 1⟩ (numsNo_of hwb hj hok hbad (zs:=[vAt ws 0,vAt ws 1]) rfl) rfl (by omega) (Nat.le_refl _) hw (by simp)
  ·have hle:=OkW.lt hall
   by_cases hlen:ws.length=2
   ·left
    have hwn:=words_num hall
    rw [List.take_of_length_le (by omega)] at hwn
    refine ⟨⟨⟨1,0,0,0,0,0,0,0,0,vAt ws 0,vAt ws 1⟩,[],[],[]⟩,⟨⟨i0,i0,i0,i0,i0,i0,i0,i0,vAt_i64 ws 0,vAt_i64 ws 1⟩,by show I64 1;unfold I64;omega,λc hc=>(by cases hc),λc hc=>(by cases hc)⟩,⟨by show (1:Int)≤1;omega,by show (1:Int)≤27;omega,λe=>absurd (show (1:Int)=27 from e) (by omega)⟩,rfl,?_⟩
    rw [hline,← hzv]
    refine congrArg (λx=>jn 32 (_::x)) (Eq.trans ?_ hwn.symm)
    rfl
   ·right
    refine λR' hR=>sParseLeft (k:=1+2) (Q:=λ_ _ _=>True) (λw s=>hV w (hR w s)) (λw s=>(hW w (hR w s)).2) (by omega) hs hK (by omega) λR2 lb B ob hr hw=>?_
    rw [hk]
    refine (sTakeNM (R:=R2) (lb:=lb) (b0:=B) (off:=0) (k0:=1) (m0:=ws.length+1) (c0:=ws.length+1) (ws:=z::ws) (o:=⟨1,0,0,0,0,0,0,0,0,vAt ws 0,vAt ws 1⟩) (hN R2 λw s=>hR w (hr w s)) ⟨i0,i0,i0,i0,i0,i0,i0,i0,vAt_i64 ws 0,vAt_i64 ws 1⟩ (nums_all hwb hall (zs:=[vAt ws 0,vAt ws 1]) rfl) rfl (by omega) (Nat.le_refl _) hw (by simp)).post ?_
    rintro v hs ⟨rfl,rfl⟩
    exact ⟨_,⟨rfl,qNil,⟨⟨1,0,0,0,0,0,0,0,0,vAt ws 0,vAt ws 1⟩,[],[],[]⟩,[],rfl,rfl,trivial⟩,λh s=>s⟩
 ·rw [hk] at hzv
  rcases numsCase ws 2 with ⟨j,hj,hok,hbad⟩|hall
  ·right
   refine λR' hR=>sParsePan (λw s=>hV w (hR w s)) (λw s=>(hW w (hR w s)).2) (by omega) hs λR2 lb B ob hr hw=>?_
   rw [hk]
   exact sTakeNMNo (R:=R2) (o:=⟨17,0,0,0,0,0,0,0,0,vAt ws 0,vAt ws 1⟩) (hN R2 λw s=>hR w (hr w s)) ⟨i0,i0,i0,i0,i0,i0,i0,i0,vAt_i64 ws 0,vAt_i64 ws 1⟩ (numsNo_of hwb hj hok hbad (zs:=[vAt ws 0,vAt ws 1]) rfl) rfl (by omega) (Nat.le_refl _) hw (by simp)
  ·have hle:=OkW.lt hall
   by_cases hlen:ws.length=2
   ·left
    have hwn:=words_num hall
    rw [List.take_of_length_le (by omega)] at hwn
    refine ⟨⟨⟨17,0,0,0,0,0,0,0,0,vAt ws 0,vAt ws 1⟩,[],[],[]⟩,⟨⟨i0,i0,i0,i0,i0,i0,i0,i0,vAt_i64 ws 0,vAt_i64 ws 1⟩,by show I64 17;unfold I64;omega,λc hc=>(by cases hc),λc hc=>(by cases hc)⟩,⟨by show (1:Int)≤17;omega,by show (17:Int)≤27;omega,λe=>absurd (show (17:Int)=27 from e) (by omega)⟩,rfl,?_⟩
    rw [hline,← hzv]
    refine congrArg (λx=>jn 32 (_::x)) (Eq.trans ?_ hwn.symm)
    rfl
   ·right
    refine λR' hR=>sParseLeft (k:=1+2) (Q:=λ_ _ _=>True) (λw s=>hV w (hR w s)) (λw s=>(hW w (hR w s)).2) (by omega) hs hK (by omega) λR2 lb B ob hr hw=>?_
    rw [hk]
    refine (sTakeNM (R:=R2) (lb:=lb) (b0:=B) (off:=0) (k0:=1) (m0:=ws.length+1) (c0:=ws.length+1) (ws:=z::ws) (o:=⟨17,0,0,0,0,0,0,0,0,vAt ws 0,vAt ws 1⟩) (hN R2 λw s=>hR w (hr w s)) ⟨i0,i0,i0,i0,i0,i0,i0,i0,vAt_i64 ws 0,vAt_i64 ws 1⟩ (nums_all hwb hall (zs:=[vAt ws 0,vAt ws 1]) rfl) rfl (by omega) (Nat.le_refl _) hw (by simp)).post ?_
    rintro v hs ⟨rfl,rfl⟩
    exact ⟨_,⟨rfl,qNil,⟨⟨17,0,0,0,0,0,0,0,0,vAt ws 0,vAt ws 1⟩,[],[],[]⟩,[],rfl,rfl,trivial⟩,λh s=>s⟩
theorem orAN {R:HP} {s z:List UInt8} {ws:List (List UInt8)} (h:PIn R s z ws) (hk:kd z 28=2):(∃ y,LineOf y s)∨Throws R s:=by
 have hK:kd z 28≠0:=by omega
 obtain ⟨hk1,hk2,hzv⟩:=kd_is hK
 obtain ⟨hwl,hwb⟩:=h.words
 have hline:=h.line
 obtain ⟨hW,hV,hl,hs⟩:=h
 have hN:=λ(R':HP) (h:∀ w,Sat R' w→Sat R w) w (s:Sat R' w)=>(hW w (h w s)).1
 rcases hk with hk
 ·rw [hk] at hzv
  rcases numsCase ws 3 with ⟨j,hj,hok,hbad⟩|hall
  ·right
   refine λR' hR=>sParsePan (λw s=>hV w (hR w s)) (λw s=>(hW w (hR w s)).2) (by omega) hs λR2 lb B ob hr hw=>?_
   rw [hk]
   exact sTakeANNo (R:=R2) (o:=⟨2,0,0,0,0,vAt ws 0,vAt ws 1,0,0,vAt ws 2,0⟩) (hN R2 λw s=>hR w (hr w s)) ⟨i0,i0,i0,i0,vAt_i64 ws 0,vAt_i64 ws 1,i0,i0,vAt_i64 ws 2,i0⟩ (numsNo_of hwb hj hok hbad (zs:=[vAt ws 0,vAt ws 1,vAt ws 2]) rfl) rfl (by omega) (Nat.le_refl _) hw rfl
  ·have hle:=OkW.lt hall
   by_cases hlen:ws.length=3
   ·left
    have hwn:=words_num hall
    rw [List.take_of_length_le (by omega)] at hwn
    refine ⟨⟨⟨2,0,0,0,0,vAt ws 0,vAt ws 1,0,0,vAt ws 2,0⟩,[],[],[]⟩,⟨⟨i0,i0,i0,i0,vAt_i64 ws 0,vAt_i64 ws 1,i0,i0,vAt_i64 ws 2,i0⟩,by show I64 2;unfold I64;omega,λc hc=>(by cases hc),λc hc=>(by cases hc)⟩,⟨by show (1:Int)≤2;omega,by show (2:Int)≤27;omega,λe=>absurd (show (2:Int)=27 from e) (by omega)⟩,rfl,?_⟩
    rw [hline,← hzv]
    refine congrArg (λx=>jn 32 (_::x)) (Eq.trans ?_ hwn.symm)
    rfl
   ·right
    refine λR' hR=>sParseLeft (k:=1+3) (Q:=λ_ _ _=>True) (λw s=>hV w (hR w s)) (λw s=>(hW w (hR w s)).2) (by omega) hs hK (by omega) λR2 lb B ob hr hw=>?_
    rw [hk]
    refine (sTakeAN (R:=R2) (lb:=lb) (b0:=B) (off:=0) (k0:=1) (m0:=ws.length+1) (c0:=ws.length+1) (ws:=z::ws) (o:=⟨2,0,0,0,0,vAt ws 0,vAt ws 1,0,0,vAt ws 2,0⟩) (hN R2 λw s=>hR w (hr w s)) ⟨i0,i0,i0,i0,vAt_i64 ws 0,vAt_i64 ws 1,i0,i0,vAt_i64 ws 2,i0⟩ (nums_all hwb hall (zs:=[vAt ws 0,vAt ws 1,vAt ws 2]) rfl) rfl (by omega) (Nat.le_refl _) hw rfl).post ?_
    rintro v hs ⟨rfl,rfl⟩
    exact ⟨_,⟨rfl,qNil,⟨⟨2,0,0,0,0,vAt ws 0,vAt ws 1,0,0,vAt ws 2,0⟩,[],[],[]⟩,[],rfl,rfl,trivial⟩,λh s=>s⟩
theorem orRN {R:HP} {s z:List UInt8} {ws:List (List UInt8)} (h:PIn R s z ws) (hk:kd z 28=3∨kd z 28=5∨kd z 28=10∨kd z 28=11):(∃ y,LineOf y s)∨Throws R s:=by
 have hK:kd z 28≠0:=by omega
 obtain ⟨hk1,hk2,hzv⟩:=kd_is hK
 obtain ⟨hwl,hwb⟩:=h.words
 have hline:=h.line
 obtain ⟨hW,hV,hl,hs⟩:=h
 have hN:=λ(R':HP) (h:∀ w,Sat R' w→Sat R w) w (s:Sat R' w)=>(hW w (h w s)).1
 rcases hk with hk|hk|hk|hk
 ·rw [hk] at hzv
  rcases numsCase ws 5 with ⟨j,hj,hok,hbad⟩|hall
  ·right
   refine λR' hR=>sParsePan (λw s=>hV w (hR w s)) (λw s=>(hW w (hR w s)).2) (by omega) hs λR2 lb B ob hr hw=>?_
   rw [hk]
   exact sTakeRNNo (R:=R2) (o:=⟨3,vAt ws 0,vAt ws 1,vAt ws 2,vAt ws 3,0,0,0,0,vAt ws 4,0⟩) (hN R2 λw s=>hR w (hr w s)) ⟨vAt_i64 ws 0,vAt_i64 ws 1,vAt_i64 ws 2,vAt_i64 ws 3,i0,i0,i0,i0,vAt_i64 ws 4,i0⟩ (numsNo_of hwb hj hok hbad (zs:=[vAt ws 0,vAt ws 1,vAt ws 2,vAt ws 3,vAt ws 4]) rfl) rfl (by omega) (Nat.le_refl _) hw (by simp)
  ·have hle:=OkW.lt hall
   by_cases hlen:ws.length=5
   ·left
    have hwn:=words_num hall
    rw [List.take_of_length_le (by omega)] at hwn
    refine ⟨⟨⟨3,vAt ws 0,vAt ws 1,vAt ws 2,vAt ws 3,0,0,0,0,vAt ws 4,0⟩,[],[],[]⟩,⟨⟨vAt_i64 ws 0,vAt_i64 ws 1,vAt_i64 ws 2,vAt_i64 ws 3,i0,i0,i0,i0,vAt_i64 ws 4,i0⟩,by show I64 3;unfold I64;omega,λc hc=>(by cases hc),λc hc=>(by cases hc)⟩,⟨by show (1:Int)≤3;omega,by show (3:Int)≤27;omega,λe=>absurd (show (3:Int)=27 from e) (by omega)⟩,rfl,?_⟩
    rw [hline,← hzv]
    refine congrArg (λx=>jn 32 (_::x)) (Eq.trans ?_ hwn.symm)
    rfl
   ·right
    refine λR' hR=>sParseLeft (k:=1+5) (Q:=λ_ _ _=>True) (λw s=>hV w (hR w s)) (λw s=>(hW w (hR w s)).2) (by omega) hs hK (by omega) λR2 lb B ob hr hw=>?_
    rw [hk]
    refine (sTakeRN (R:=R2) (lb:=lb) (b0:=B) (off:=0) (k0:=1) (m0:=ws.length+1) (c0:=ws.length+1) (ws:=z::ws) (o:=⟨3,vAt ws 0,vAt ws 1,vAt ws 2,vAt ws 3,0,0,0,0,vAt ws 4,0⟩) (hN R2 λw s=>hR w (hr w s)) ⟨vAt_i64 ws 0,vAt_i64 ws 1,vAt_i64 ws 2,vAt_i64 ws 3,i0,i0,i0,i0,vAt_i64 ws 4,i0⟩ (nums_all hwb hall (zs:=[vAt ws 0,vAt ws 1,vAt ws 2,vAt ws 3,vAt ws 4]) rfl) rfl (by omega) (Nat.le_refl _) hw (by simp)).post ?_
    rintro v hs ⟨rfl,rfl⟩
    exact ⟨_,⟨rfl,qNil,⟨⟨3,vAt ws 0,vAt ws 1,vAt ws 2,vAt ws 3,0,0,0,0,vAt ws 4,0⟩,[],[],[]⟩,[],rfl,rfl,trivial⟩,λh s=>s⟩
 ·rw [hk] at hzv
  rcases numsCase ws 5 with ⟨j,hj,hok,hbad⟩|hall
  ·right
   refine λR' hR=>sParsePan (λw s=>hV w (hR w s)) (λw s=>(hW w (hR w s)).2) (by omega) hs λR2 lb B ob hr hw=>?_
   rw [hk]
   exact sTakeRNNo (R:=R2) (o:=⟨5,vAt ws 0,vAt ws 1,vAt ws 2,vAt ws 3,0,0,0,0,vAt ws 4,0⟩) (hN R2 λw s=>hR w (hr w s)) ⟨vAt_i64 ws 0,vAt_i64 ws 1,vAt_i64 ws 2,vAt_i64 ws 3,i0,i0,i0,i0,vAt_i64 ws 4,i0⟩ (numsNo_of hwb hj hok hbad (zs:=[vAt ws 0,vAt ws 1,vAt ws 2,vAt ws 3,vAt ws 4]) rfl) rfl (by omega) (Nat.le_refl _) hw (by simp)
  ·have hle:=OkW.lt hall
   by_cases hlen:ws.length=5
   ·left
    have hwn:=words_num hall
    rw [List.take_of_length_le (by omega)] at hwn
    refine ⟨⟨⟨5,vAt ws 0,vAt ws 1,vAt ws 2,vAt ws 3,0,0,0,0,vAt ws 4,0⟩,[],[],[]⟩,⟨⟨vAt_i64 ws 0,vAt_i64 ws 1,vAt_i64 ws 2,vAt_i64 ws 3,i0,i0,i0,i0,vAt_i64 ws 4,i0⟩,by show I64 5;unfold I64;omega,λc hc=>(by cases hc),λc hc=>(by cases hc)⟩,⟨by show (1:Int)≤5;omega,by show (5:Int)≤27;omega,λe=>absurd (show (5:Int)=27 from e) (by omega)⟩,rfl,?_⟩
    rw [hline,← hzv]
    refine congrArg (λx=>jn 32 (_::x)) (Eq.trans ?_ hwn.symm)
    rfl
   ·right
    refine λR' hR=>sParseLeft (k:=1+5) (Q:=λ_ _ _=>True) (λw s=>hV w (hR w s)) (λw s=>(hW w (hR w s)).2) (by omega) hs hK (by omega) λR2 lb B ob hr hw=>?_
    rw [hk]
    refine (sTakeRN (R:=R2) (lb:=lb) (b0:=B) (off:=0) (k0:=1) (m0:=ws.length+1) (c0:=ws.length+1) (ws:=z::ws) (o:=⟨5,vAt ws 0,vAt ws 1,vAt ws 2,vAt ws 3,0,0,0,0,vAt ws 4,0⟩) (hN R2 λw s=>hR w (hr w s)) ⟨vAt_i64 ws 0,vAt_i64 ws 1,vAt_i64 ws 2,vAt_i64 ws 3,i0,i0,i0,i0,vAt_i64 ws 4,i0⟩ (nums_all hwb hall (zs:=[vAt ws 0,vAt ws 1,vAt ws 2,vAt ws 3,vAt ws 4]) rfl) rfl (by omega) (Nat.le_refl _) hw (by simp)).post ?_
    rintro v hs ⟨rfl,rfl⟩
    exact ⟨_,⟨rfl,qNil,⟨⟨5,vAt ws 0,vAt ws 1,vAt ws 2,vAt ws 3,0,0,0,0,vAt ws 4,0⟩,[],[],[]⟩,[],rfl,rfl,trivial⟩,λh s=>s⟩
 ·rw [hk] at hzv
  rcases numsCase ws 5 with ⟨j,hj,hok,hbad⟩|hall
  ·right
   refine λR' hR=>sParsePan (λw s=>hV w (hR w s)) (λw s=>(hW w (hR w s)).2) (by omega) hs λR2 lb B ob hr hw=>?_
   rw [hk]
   exact sTakeRNNo (R:=R2) (o:=⟨10,vAt ws 0,vAt ws 1,vAt ws 2,vAt ws 3,0,0,0,0,vAt ws 4,0⟩) (hN R2 λw s=>hR w (hr w s)) ⟨vAt_i64 ws 0,vAt_i64 ws 1,vAt_i64 ws 2,vAt_i64 ws 3,i0,i0,i0,i0,vAt_i64 ws 4,i0⟩ (numsNo_of hwb hj hok hbad (zs:=[vAt ws 0,vAt ws 1,vAt ws 2,vAt ws 3,vAt ws 4]) rfl) rfl (by omega) (Nat.le_refl _) hw (by simp)
  ·have hle:=OkW.lt hall
   by_cases hlen:ws.length=5
   ·left
    have hwn:=words_num hall
    rw [List.take_of_length_le (by omega)] at hwn
    refine ⟨⟨⟨10,vAt ws 0,vAt ws 1,vAt ws 2,vAt ws 3,0,0,0,0,vAt ws 4,0⟩,[],[],[]⟩,⟨⟨vAt_i64 ws 0,vAt_i64 ws 1,vAt_i64 ws 2,vAt_i64 ws 3,i0,i0,i0,i0,vAt_i64 ws 4,i0⟩,by show I64 10;unfold I64;omega,λc hc=>(by cases hc),λc hc=>(by cases hc)⟩,⟨by show (1:Int)≤10;omega,by show (10:Int)≤27;omega,λe=>absurd (show (10:Int)=27 from e) (by omega)⟩,rfl,?_⟩
    rw [hline,← hzv]
    refine congrArg (λx=>jn 32 (_::x)) (Eq.trans ?_ hwn.symm)
    rfl
   ·right
    refine λR' hR=>sParseLeft (k:=1+5) (Q:=λ_ _ _=>True) (λw s=>hV w (hR w s)) (λw s=>(hW w (hR w s)).2) (by omega) hs hK (by omega) λR2 lb B ob hr hw=>?_
    rw [hk]
    refine (sTakeRN (R:=R2) (lb:=lb) (b0:=B) (off:=0) (k0:=1) (m0:=ws.length+1) (c0:=ws.length+1) (ws:=z::ws) (o:=⟨10,vAt ws 0,vAt ws 1,vAt ws 2,vAt ws 3,0,0,0,0,vAt ws 4,0⟩) (hN R2 λw s=>hR w (hr w s)) ⟨vAt_i64 ws 0,vAt_i64 ws 1,vAt_i64 ws 2,vAt_i64 ws 3,i0,i0,i0,i0,vAt_i64 ws 4,i0⟩ (nums_all hwb hall (zs:=[vAt ws 0,vAt ws 1,vAt ws 2,vAt ws 3,vAt ws 4]) rfl) rfl (by omega) (Nat.le_refl _) hw (by simp)).post ?_
    rintro v hs ⟨rfl,rfl⟩
    exact ⟨_,⟨rfl,qNil,⟨⟨10,vAt ws 0,vAt ws 1,vAt ws 2,vAt ws 3,0,0,0,0,vAt ws 4,0⟩,[],[],[]⟩,[],rfl,rfl,trivial⟩,λh s=>s⟩
 ·rw [hk] at hzv
  rcases numsCase ws 5 with ⟨j,hj,hok,hbad⟩|hall
  ·right
   refine λR' hR=>sParsePan (λw s=>hV w (hR w s)) (λw s=>(hW w (hR w s)).2) (by omega) hs λR2 lb B ob hr hw=>?_
   rw [hk]
   exact sTakeRNNo (R:=R2) (o:=⟨11,vAt ws 0,vAt ws 1,vAt ws 2,vAt ws 3,0,0,0,0,vAt ws 4,0⟩) (hN R2 λw s=>hR w (hr w s)) ⟨vAt_i64 ws 0,vAt_i64 ws 1,vAt_i64 ws 2,vAt_i64 ws 3,i0,i0,i0,i0,vAt_i64 ws 4,i0⟩ (numsNo_of hwb hj hok hbad (zs:=[vAt ws 0,vAt ws 1,vAt ws 2,vAt ws 3,vAt ws 4]) rfl) rfl (by omega) (Nat.le_refl _) hw (by simp)
  ·have hle:=OkW.lt hall
   by_cases hlen:ws.length=5
   ·left
    have hwn:=words_num hall
    rw [List.take_of_length_le (by omega)] at hwn
    refine ⟨⟨⟨11,vAt ws 0,vAt ws 1,vAt ws 2,vAt ws 3,0,0,0,0,vAt ws 4,0⟩,[],[],[]⟩,⟨⟨vAt_i64 ws 0,vAt_i64 ws 1,vAt_i64 ws 2,vAt_i64 ws 3,i0,i0,i0,i0,vAt_i64 ws 4,i0⟩,by show I64 11;unfold I64;omega,λc hc=>(by cases hc),λc hc=>(by cases hc)⟩,⟨by show (1:Int)≤11;omega,by show (11:Int)≤27;omega,λe=>absurd (show (11:Int)=27 from e) (by omega)⟩,rfl,?_⟩
    rw [hline,← hzv]
    refine congrArg (λx=>jn 32 (_::x)) (Eq.trans ?_ hwn.symm)
    rfl
   ·right
    refine λR' hR=>sParseLeft (k:=1+5) (Q:=λ_ _ _=>True) (λw s=>hV w (hR w s)) (λw s=>(hW w (hR w s)).2) (by omega) hs hK (by omega) λR2 lb B ob hr hw=>?_
    rw [hk]
    refine (sTakeRN (R:=R2) (lb:=lb) (b0:=B) (off:=0) (k0:=1) (m0:=ws.length+1) (c0:=ws.length+1) (ws:=z::ws) (o:=⟨11,vAt ws 0,vAt ws 1,vAt ws 2,vAt ws 3,0,0,0,0,vAt ws 4,0⟩) (hN R2 λw s=>hR w (hr w s)) ⟨vAt_i64 ws 0,vAt_i64 ws 1,vAt_i64 ws 2,vAt_i64 ws 3,i0,i0,i0,i0,vAt_i64 ws 4,i0⟩ (nums_all hwb hall (zs:=[vAt ws 0,vAt ws 1,vAt ws 2,vAt ws 3,vAt ws 4]) rfl) rfl (by omega) (Nat.le_refl _) hw (by simp)).post ?_
    rintro v hs ⟨rfl,rfl⟩
    exact ⟨_,⟨rfl,qNil,⟨⟨11,vAt ws 0,vAt ws 1,vAt ws 2,vAt ws 3,0,0,0,0,vAt ws 4,0⟩,[],[],[]⟩,[],rfl,rfl,trivial⟩,λh s=>s⟩
theorem orA {R:HP} {s z:List UInt8} {ws:List (List UInt8)} (h:PIn R s z ws) (hk:kd z 28=6∨kd z 28=15):(∃ y,LineOf y s)∨Throws R s:=by
 have hK:kd z 28≠0:=by omega
 obtain ⟨hk1,hk2,hzv⟩:=kd_is hK
 obtain ⟨hwl,hwb⟩:=h.words
 have hline:=h.line
 obtain ⟨hW,hV,hl,hs⟩:=h
 have hN:=λ(R':HP) (h:∀ w,Sat R' w→Sat R w) w (s:Sat R' w)=>(hW w (h w s)).1
 rcases hk with hk|hk
 ·rw [hk] at hzv
  rcases numsCase ws 2 with ⟨j,hj,hok,hbad⟩|hall
  ·right
   refine λR' hR=>sParsePan (λw s=>hV w (hR w s)) (λw s=>(hW w (hR w s)).2) (by omega) hs λR2 lb B ob hr hw=>?_
   rw [hk]
   exact sTakeANo (R:=R2) (o:=⟨6,0,0,0,0,vAt ws 0,vAt ws 1,0,0,0,0⟩) (hN R2 λw s=>hR w (hr w s)) ⟨i0,i0,i0,i0,vAt_i64 ws 0,vAt_i64 ws 1,i0,i0,i0,i0⟩ (numsNo_of hwb hj hok hbad (zs:=[vAt ws 0,vAt ws 1]) rfl) rfl (by omega) (Nat.le_refl _) hw (by simp)
  ·have hle:=OkW.lt hall
   by_cases hlen:ws.length=2
   ·left
    have hwn:=words_num hall
    rw [List.take_of_length_le (by omega)] at hwn
    refine ⟨⟨⟨6,0,0,0,0,vAt ws 0,vAt ws 1,0,0,0,0⟩,[],[],[]⟩,⟨⟨i0,i0,i0,i0,vAt_i64 ws 0,vAt_i64 ws 1,i0,i0,i0,i0⟩,by show I64 6;unfold I64;omega,λc hc=>(by cases hc),λc hc=>(by cases hc)⟩,⟨by show (1:Int)≤6;omega,by show (6:Int)≤27;omega,λe=>absurd (show (6:Int)=27 from e) (by omega)⟩,rfl,?_⟩
    rw [hline,← hzv]
    refine congrArg (λx=>jn 32 (_::x)) (Eq.trans ?_ hwn.symm)
    rfl
   ·right
    refine λR' hR=>sParseLeft (k:=1+2) (Q:=λ_ _ _=>True) (λw s=>hV w (hR w s)) (λw s=>(hW w (hR w s)).2) (by omega) hs hK (by omega) λR2 lb B ob hr hw=>?_
    rw [hk]
    refine (sTakeA (R:=R2) (lb:=lb) (b0:=B) (off:=0) (k0:=1) (m0:=ws.length+1) (c0:=ws.length+1) (ws:=z::ws) (o:=⟨6,0,0,0,0,vAt ws 0,vAt ws 1,0,0,0,0⟩) (hN R2 λw s=>hR w (hr w s)) ⟨i0,i0,i0,i0,vAt_i64 ws 0,vAt_i64 ws 1,i0,i0,i0,i0⟩ (nums_all hwb hall (zs:=[vAt ws 0,vAt ws 1]) rfl) rfl (by omega) (Nat.le_refl _) hw (by simp)).post ?_
    rintro v hs ⟨rfl,rfl⟩
    exact ⟨_,⟨rfl,qNil,⟨⟨6,0,0,0,0,vAt ws 0,vAt ws 1,0,0,0,0⟩,[],[],[]⟩,[],rfl,rfl,trivial⟩,λh s=>s⟩
 ·rw [hk] at hzv
  rcases numsCase ws 2 with ⟨j,hj,hok,hbad⟩|hall
  ·right
   refine λR' hR=>sParsePan (λw s=>hV w (hR w s)) (λw s=>(hW w (hR w s)).2) (by omega) hs λR2 lb B ob hr hw=>?_
   rw [hk]
   exact sTakeANo (R:=R2) (o:=⟨15,0,0,0,0,vAt ws 0,vAt ws 1,0,0,0,0⟩) (hN R2 λw s=>hR w (hr w s)) ⟨i0,i0,i0,i0,vAt_i64 ws 0,vAt_i64 ws 1,i0,i0,i0,i0⟩ (numsNo_of hwb hj hok hbad (zs:=[vAt ws 0,vAt ws 1]) rfl) rfl (by omega) (Nat.le_refl _) hw (by simp)
  ·have hle:=OkW.lt hall
   by_cases hlen:ws.length=2
   ·left
    have hwn:=words_num hall
    rw [List.take_of_length_le (by omega)] at hwn
    refine ⟨⟨⟨15,0,0,0,0,vAt ws 0,vAt ws 1,0,0,0,0⟩,[],[],[]⟩,⟨⟨i0,i0,i0,i0,vAt_i64 ws 0,vAt_i64 ws 1,i0,i0,i0,i0⟩,by show I64 15;unfold I64;omega,λc hc=>(by cases hc),λc hc=>(by cases hc)⟩,⟨by show (1:Int)≤15;omega,by show (15:Int)≤27;omega,λe=>absurd (show (15:Int)=27 from e) (by omega)⟩,rfl,?_⟩
    rw [hline,← hzv]
    refine congrArg (λx=>jn 32 (_::x)) (Eq.trans ?_ hwn.symm)
    rfl
   ·right
    refine λR' hR=>sParseLeft (k:=1+2) (Q:=λ_ _ _=>True) (λw s=>hV w (hR w s)) (λw s=>(hW w (hR w s)).2) (by omega) hs hK (by omega) λR2 lb B ob hr hw=>?_
    rw [hk]
    refine (sTakeA (R:=R2) (lb:=lb) (b0:=B) (off:=0) (k0:=1) (m0:=ws.length+1) (c0:=ws.length+1) (ws:=z::ws) (o:=⟨15,0,0,0,0,vAt ws 0,vAt ws 1,0,0,0,0⟩) (hN R2 λw s=>hR w (hr w s)) ⟨i0,i0,i0,i0,vAt_i64 ws 0,vAt_i64 ws 1,i0,i0,i0,i0⟩ (nums_all hwb hall (zs:=[vAt ws 0,vAt ws 1]) rfl) rfl (by omega) (Nat.le_refl _) hw (by simp)).post ?_
    rintro v hs ⟨rfl,rfl⟩
    exact ⟨_,⟨rfl,qNil,⟨⟨15,0,0,0,0,vAt ws 0,vAt ws 1,0,0,0,0⟩,[],[],[]⟩,[],rfl,rfl,trivial⟩,λh s=>s⟩
theorem orR {R:HP} {s z:List UInt8} {ws:List (List UInt8)} (h:PIn R s z ws) (hk:kd z 28=7∨kd z 28=8∨kd z 28=9∨kd z 28=20∨kd z 28=21∨kd z 28=22):(∃ y,LineOf y s)∨Throws R s:=by
 have hK:kd z 28≠0:=by omega
 obtain ⟨hk1,hk2,hzv⟩:=kd_is hK
 obtain ⟨hwl,hwb⟩:=h.words
 have hline:=h.line
 obtain ⟨hW,hV,hl,hs⟩:=h
 have hN:=λ(R':HP) (h:∀ w,Sat R' w→Sat R w) w (s:Sat R' w)=>(hW w (h w s)).1
 rcases hk with hk|hk|hk|hk|hk|hk
 ·rw [hk] at hzv
  rcases numsCase ws 4 with ⟨j,hj,hok,hbad⟩|hall
  ·right
   refine λR' hR=>sParsePan (λw s=>hV w (hR w s)) (λw s=>(hW w (hR w s)).2) (by omega) hs λR2 lb B ob hr hw=>?_
   rw [hk]
   exact sTakeRNo (R:=R2) (o:=⟨7,vAt ws 0,vAt ws 1,vAt ws 2,vAt ws 3,0,0,0,0,0,0⟩) (hN R2 λw s=>hR w (hr w s)) ⟨vAt_i64 ws 0,vAt_i64 ws 1,vAt_i64 ws 2,vAt_i64 ws 3,i0,i0,i0,i0,i0,i0⟩ (numsNo_of hwb hj hok hbad (zs:=[vAt ws 0,vAt ws 1,vAt ws 2,vAt ws 3]) rfl) rfl (by omega) (Nat.le_refl _) hw (by simp)
  ·have hle:=OkW.lt hall
   by_cases hlen:ws.length=4
   ·left
    have hwn:=words_num hall
    rw [List.take_of_length_le (by omega)] at hwn
    refine ⟨⟨⟨7,vAt ws 0,vAt ws 1,vAt ws 2,vAt ws 3,0,0,0,0,0,0⟩,[],[],[]⟩,⟨⟨vAt_i64 ws 0,vAt_i64 ws 1,vAt_i64 ws 2,vAt_i64 ws 3,i0,i0,i0,i0,i0,i0⟩,by show I64 7;unfold I64;omega,λc hc=>(by cases hc),λc hc=>(by cases hc)⟩,⟨by show (1:Int)≤7;omega,by show (7:Int)≤27;omega,λe=>absurd (show (7:Int)=27 from e) (by omega)⟩,rfl,?_⟩
    rw [hline,← hzv]
    refine congrArg (λx=>jn 32 (_::x)) (Eq.trans ?_ hwn.symm)
    rfl
   ·right
    refine λR' hR=>sParseLeft (k:=1+4) (Q:=λ_ _ _=>True) (λw s=>hV w (hR w s)) (λw s=>(hW w (hR w s)).2) (by omega) hs hK (by omega) λR2 lb B ob hr hw=>?_
    rw [hk]
    refine (sTakeR (R:=R2) (lb:=lb) (b0:=B) (off:=0) (k0:=1) (m0:=ws.length+1) (c0:=ws.length+1) (ws:=z::ws) (o:=⟨7,vAt ws 0,vAt ws 1,vAt ws 2,vAt ws 3,0,0,0,0,0,0⟩) (hN R2 λw s=>hR w (hr w s)) ⟨vAt_i64 ws 0,vAt_i64 ws 1,vAt_i64 ws 2,vAt_i64 ws 3,i0,i0,i0,i0,i0,i0⟩ (nums_all hwb hall (zs:=[vAt ws 0,vAt ws 1,vAt ws 2,vAt ws 3]) rfl) rfl (by omega) (Nat.le_refl _) hw (by simp)).post ?_
    rintro v hs ⟨rfl,rfl⟩
    exact ⟨_,⟨rfl,qNil,⟨⟨7,vAt ws 0,vAt ws 1,vAt ws 2,vAt ws 3,0,0,0,0,0,0⟩,[],[],[]⟩,[],rfl,rfl,trivial⟩,λh s=>s⟩
 ·rw [hk] at hzv
  rcases numsCase ws 4 with ⟨j,hj,hok,hbad⟩|hall
  ·right
   refine λR' hR=>sParsePan (λw s=>hV w (hR w s)) (λw s=>(hW w (hR w s)).2) (by omega) hs λR2 lb B ob hr hw=>?_
   rw [hk]
   exact sTakeRNo (R:=R2) (o:=⟨8,vAt ws 0,vAt ws 1,vAt ws 2,vAt ws 3,0,0,0,0,0,0⟩) (hN R2 λw s=>hR w (hr w s)) ⟨vAt_i64 ws 0,vAt_i64 ws 1,vAt_i64 ws 2,vAt_i64 ws 3,i0,i0,i0,i0,i0,i0⟩ (numsNo_of hwb hj hok hbad (zs:=[vAt ws 0,vAt ws 1,vAt ws 2,vAt ws 3]) rfl) rfl (by omega) (Nat.le_refl _) hw (by simp)
  ·have hle:=OkW.lt hall
   by_cases hlen:ws.length=4
   ·left
    have hwn:=words_num hall
    rw [List.take_of_length_le (by omega)] at hwn
    refine ⟨⟨⟨8,vAt ws 0,vAt ws 1,vAt ws 2,vAt ws 3,0,0,0,0,0,0⟩,[],[],[]⟩,⟨⟨vAt_i64 ws 0,vAt_i64 ws 1,vAt_i64 ws 2,vAt_i64 ws 3,i0,i0,i0,i0,i0,i0⟩,by show I64 8;unfold I64;omega,λc hc=>(by cases hc),λc hc=>(by cases hc)⟩,⟨by show (1:Int)≤8;omega,by show (8:Int)≤27;omega,λe=>absurd (show (8:Int)=27 from e) (by omega)⟩,rfl,?_⟩
    rw [hline,← hzv]
    refine congrArg (λx=>jn 32 (_::x)) (Eq.trans ?_ hwn.symm)
    rfl
   ·right
    refine λR' hR=>sParseLeft (k:=1+4) (Q:=λ_ _ _=>True) (λw s=>hV w (hR w s)) (λw s=>(hW w (hR w s)).2) (by omega) hs hK (by omega) λR2 lb B ob hr hw=>?_
    rw [hk]
    refine (sTakeR (R:=R2) (lb:=lb) (b0:=B) (off:=0) (k0:=1) (m0:=ws.length+1) (c0:=ws.length+1) (ws:=z::ws) (o:=⟨8,vAt ws 0,vAt ws 1,vAt ws 2,vAt ws 3,0,0,0,0,0,0⟩) (hN R2 λw s=>hR w (hr w s)) ⟨vAt_i64 ws 0,vAt_i64 ws 1,vAt_i64 ws 2,vAt_i64 ws 3,i0,i0,i0,i0,i0,i0⟩ (nums_all hwb hall (zs:=[vAt ws 0,vAt ws 1,vAt ws 2,vAt ws 3]) rfl) rfl (by omega) (Nat.le_refl _) hw (by simp)).post ?_
    rintro v hs ⟨rfl,rfl⟩
    exact ⟨_,⟨rfl,qNil,⟨⟨8,vAt ws 0,vAt ws 1,vAt ws 2,vAt ws 3,0,0,0,0,0,0⟩,[],[],[]⟩,[],rfl,rfl,trivial⟩,λh s=>s⟩
 ·rw [hk] at hzv
  rcases numsCase ws 4 with ⟨j,hj,hok,hbad⟩|hall
  ·right
   refine λR' hR=>sParsePan (λw s=>hV w (hR w s)) (λw s=>(hW w (hR w s)).2) (by omega) hs λR2 lb B ob hr hw=>?_
   rw [hk]
   exact sTakeRNo (R:=R2) (o:=⟨9,vAt ws 0,vAt ws 1,vAt ws 2,vAt ws 3,0,0,0,0,0,0⟩) (hN R2 λw s=>hR w (hr w s)) ⟨vAt_i64 ws 0,vAt_i64 ws 1,vAt_i64 ws 2,vAt_i64 ws 3,i0,i0,i0,i0,i0,i0⟩ (numsNo_of hwb hj hok hbad (zs:=[vAt ws 0,vAt ws 1,vAt ws 2,vAt ws 3]) rfl) rfl (by omega) (Nat.le_refl _) hw (by simp)
  ·have hle:=OkW.lt hall
   by_cases hlen:ws.length=4
   ·left
    have hwn:=words_num hall
    rw [List.take_of_length_le (by omega)] at hwn
    refine ⟨⟨⟨9,vAt ws 0,vAt ws 1,vAt ws 2,vAt ws 3,0,0,0,0,0,0⟩,[],[],[]⟩,⟨⟨vAt_i64 ws 0,vAt_i64 ws 1,vAt_i64 ws 2,vAt_i64 ws 3,i0,i0,i0,i0,i0,i0⟩,by show I64 9;unfold I64;omega,λc hc=>(by cases hc),λc hc=>(by cases hc)⟩,⟨by show (1:Int)≤9;omega,by show (9:Int)≤27;omega,λe=>absurd (show (9:Int)=27 from e) (by omega)⟩,rfl,?_⟩
    rw [hline,← hzv]
    refine congrArg (λx=>jn 32 (_::x)) (Eq.trans ?_ hwn.symm)
    rfl
   ·right
    refine λR' hR=>sParseLeft (k:=1+4) (Q:=λ_ _ _=>True) (λw s=>hV w (hR w s)) (λw s=>(hW w (hR w s)).2) (by omega) hs hK (by omega) λR2 lb B ob hr hw=>?_
    rw [hk]
    refine (sTakeR (R:=R2) (lb:=lb) (b0:=B) (off:=0) (k0:=1) (m0:=ws.length+1) (c0:=ws.length+1) (ws:=z::ws) (o:=⟨9,vAt ws 0,vAt ws 1,vAt ws 2,vAt ws 3,0,0,0,0,0,0⟩) (hN R2 λw s=>hR w (hr w s)) ⟨vAt_i64 ws 0,vAt_i64 ws 1,vAt_i64 ws 2,vAt_i64 ws 3,i0,i0,i0,i0,i0,i0⟩ (nums_all hwb hall (zs:=[vAt ws 0,vAt ws 1,vAt ws 2,vAt ws 3]) rfl) rfl (by omega) (Nat.le_refl _) hw (by simp)).post ?_
    rintro v hs ⟨rfl,rfl⟩
    exact ⟨_,⟨rfl,qNil,⟨⟨9,vAt ws 0,vAt ws 1,vAt ws 2,vAt ws 3,0,0,0,0,0,0⟩,[],[],[]⟩,[],rfl,rfl,trivial⟩,λh s=>s⟩
 ·rw [hk] at hzv
  rcases numsCase ws 4 with ⟨j,hj,hok,hbad⟩|hall
  ·right
   refine λR' hR=>sParsePan (λw s=>hV w (hR w s)) (λw s=>(hW w (hR w s)).2) (by omega) hs λR2 lb B ob hr hw=>?_
   rw [hk]
   exact sTakeRNo (R:=R2) (o:=⟨20,vAt ws 0,vAt ws 1,vAt ws 2,vAt ws 3,0,0,0,0,0,0⟩) (hN R2 λw s=>hR w (hr w s)) ⟨vAt_i64 ws 0,vAt_i64 ws 1,vAt_i64 ws 2,vAt_i64 ws 3,i0,i0,i0,i0,i0,i0⟩ (numsNo_of hwb hj hok hbad (zs:=[vAt ws 0,vAt ws 1,vAt ws 2,vAt ws 3]) rfl) rfl (by omega) (Nat.le_refl _) hw (by simp)
  ·have hle:=OkW.lt hall
   by_cases hlen:ws.length=4
   ·left
    have hwn:=words_num hall
    rw [List.take_of_length_le (by omega)] at hwn
    refine ⟨⟨⟨20,vAt ws 0,vAt ws 1,vAt ws 2,vAt ws 3,0,0,0,0,0,0⟩,[],[],[]⟩,⟨⟨vAt_i64 ws 0,vAt_i64 ws 1,vAt_i64 ws 2,vAt_i64 ws 3,i0,i0,i0,i0,i0,i0⟩,by show I64 20;unfold I64;omega,λc hc=>(by cases hc),λc hc=>(by cases hc)⟩,⟨by show (1:Int)≤20;omega,by show (20:Int)≤27;omega,λe=>absurd (show (20:Int)=27 from e) (by omega)⟩,rfl,?_⟩
    rw [hline,← hzv]
    refine congrArg (λx=>jn 32 (_::x)) (Eq.trans ?_ hwn.symm)
    rfl
   ·right
    refine λR' hR=>sParseLeft (k:=1+4) (Q:=λ_ _ _=>True) (λw s=>hV w (hR w s)) (λw s=>(hW w (hR w s)).2) (by omega) hs hK (by omega) λR2 lb B ob hr hw=>?_
    rw [hk]
    refine (sTakeR (R:=R2) (lb:=lb) (b0:=B) (off:=0) (k0:=1) (m0:=ws.length+1) (c0:=ws.length+1) (ws:=z::ws) (o:=⟨20,vAt ws 0,vAt ws 1,vAt ws 2,vAt ws 3,0,0,0,0,0,0⟩) (hN R2 λw s=>hR w (hr w s)) ⟨vAt_i64 ws 0,vAt_i64 ws 1,vAt_i64 ws 2,vAt_i64 ws 3,i0,i0,i0,i0,i0,i0⟩ (nums_all hwb hall (zs:=[vAt ws 0,vAt ws 1,vAt ws 2,vAt ws 3]) rfl) rfl (by omega) (Nat.le_refl _) hw (by simp)).post ?_
    rintro v hs ⟨rfl,rfl⟩
    exact ⟨_,⟨rfl,qNil,⟨⟨20,vAt ws 0,vAt ws 1,vAt ws 2,vAt ws 3,0,0,0,0,0,0⟩,[],[],[]⟩,[],rfl,rfl,trivial⟩,λh s=>s⟩
 ·rw [hk] at hzv
  rcases numsCase ws 4 with ⟨j,hj,hok,hbad⟩|hall
  ·right
   refine λR' hR=>sParsePan (λw s=>hV w (hR w s)) (λw s=>(hW w (hR w s)).2) (by omega) hs λR2 lb B ob hr hw=>?_
   rw [hk]
   exact sTakeRNo (R:=R2) (o:=⟨21,vAt ws 0,vAt ws 1,vAt ws 2,vAt ws 3,0,0,0,0,0,0⟩) (hN R2 λw s=>hR w (hr w s)) ⟨vAt_i64 ws 0,vAt_i64 ws 1,vAt_i64 ws 2,vAt_i64 ws 3,i0,i0,i0,i0,i0,i0⟩ (numsNo_of hwb hj hok hbad (zs:=[vAt ws 0,vAt ws 1,vAt ws 2,vAt ws 3]) rfl) rfl (by omega) (Nat.le_refl _) hw (by simp)
  ·have hle:=OkW.lt hall
   by_cases hlen:ws.length=4
   ·left
    have hwn:=words_num hall
    rw [List.take_of_length_le (by omega)] at hwn
    refine ⟨⟨⟨21,vAt ws 0,vAt ws 1,vAt ws 2,vAt ws 3,0,0,0,0,0,0⟩,[],[],[]⟩,⟨⟨vAt_i64 ws 0,vAt_i64 ws 1,vAt_i64 ws 2,vAt_i64 ws 3,i0,i0,i0,i0,i0,i0⟩,by show I64 21;unfold I64;omega,λc hc=>(by cases hc),λc hc=>(by cases hc)⟩,⟨by show (1:Int)≤21;omega,by show (21:Int)≤27;omega,λe=>absurd (show (21:Int)=27 from e) (by omega)⟩,rfl,?_⟩
    rw [hline,← hzv]
    refine congrArg (λx=>jn 32 (_::x)) (Eq.trans ?_ hwn.symm)
    rfl
   ·right
    refine λR' hR=>sParseLeft (k:=1+4) (Q:=λ_ _ _=>True) (λw s=>hV w (hR w s)) (λw s=>(hW w (hR w s)).2) (by omega) hs hK (by omega) λR2 lb B ob hr hw=>?_
    rw [hk]
    refine (sTakeR (R:=R2) (lb:=lb) (b0:=B) (off:=0) (k0:=1) (m0:=ws.length+1) (c0:=ws.length+1) (ws:=z::ws) (o:=⟨21,vAt ws 0,vAt ws 1,vAt ws 2,vAt ws 3,0,0,0,0,0,0⟩) (hN R2 λw s=>hR w (hr w s)) ⟨vAt_i64 ws 0,vAt_i64 ws 1,vAt_i64 ws 2,vAt_i64 ws 3,i0,i0,i0,i0,i0,i0⟩ (nums_all hwb hall (zs:=[vAt ws 0,vAt ws 1,vAt ws 2,vAt ws 3]) rfl) rfl (by omega) (Nat.le_refl _) hw (by simp)).post ?_
    rintro v hs ⟨rfl,rfl⟩
    exact ⟨_,⟨rfl,qNil,⟨⟨21,vAt ws 0,vAt ws 1,vAt ws 2,vAt ws 3,0,0,0,0,0,0⟩,[],[],[]⟩,[],rfl,rfl,trivial⟩,λh s=>s⟩
 ·rw [hk] at hzv
  rcases numsCase ws 4 with ⟨j,hj,hok,hbad⟩|hall
  ·right
   refine λR' hR=>sParsePan (λw s=>hV w (hR w s)) (λw s=>(hW w (hR w s)).2) (by omega) hs λR2 lb B ob hr hw=>?_
   rw [hk]
   exact sTakeRNo (R:=R2) (o:=⟨22,vAt ws 0,vAt ws 1,vAt ws 2,vAt ws 3,0,0,0,0,0,0⟩) (hN R2 λw s=>hR w (hr w s)) ⟨vAt_i64 ws 0,vAt_i64 ws 1,vAt_i64 ws 2,vAt_i64 ws 3,i0,i0,i0,i0,i0,i0⟩ (numsNo_of hwb hj hok hbad (zs:=[vAt ws 0,vAt ws 1,vAt ws 2,vAt ws 3]) rfl) rfl (by omega) (Nat.le_refl _) hw (by simp)
  ·have hle:=OkW.lt hall
   by_cases hlen:ws.length=4
   ·left
    have hwn:=words_num hall
    rw [List.take_of_length_le (by omega)] at hwn
    refine ⟨⟨⟨22,vAt ws 0,vAt ws 1,vAt ws 2,vAt ws 3,0,0,0,0,0,0⟩,[],[],[]⟩,⟨⟨vAt_i64 ws 0,vAt_i64 ws 1,vAt_i64 ws 2,vAt_i64 ws 3,i0,i0,i0,i0,i0,i0⟩,by show I64 22;unfold I64;omega,λc hc=>(by cases hc),λc hc=>(by cases hc)⟩,⟨by show (1:Int)≤22;omega,by show (22:Int)≤27;omega,λe=>absurd (show (22:Int)=27 from e) (by omega)⟩,rfl,?_⟩
    rw [hline,← hzv]
    refine congrArg (λx=>jn 32 (_::x)) (Eq.trans ?_ hwn.symm)
    rfl
   ·right
    refine λR' hR=>sParseLeft (k:=1+4) (Q:=λ_ _ _=>True) (λw s=>hV w (hR w s)) (λw s=>(hW w (hR w s)).2) (by omega) hs hK (by omega) λR2 lb B ob hr hw=>?_
    rw [hk]
    refine (sTakeR (R:=R2) (lb:=lb) (b0:=B) (off:=0) (k0:=1) (m0:=ws.length+1) (c0:=ws.length+1) (ws:=z::ws) (o:=⟨22,vAt ws 0,vAt ws 1,vAt ws 2,vAt ws 3,0,0,0,0,0,0⟩) (hN R2 λw s=>hR w (hr w s)) ⟨vAt_i64 ws 0,vAt_i64 ws 1,vAt_i64 ws 2,vAt_i64 ws 3,i0,i0,i0,i0,i0,i0⟩ (nums_all hwb hall (zs:=[vAt ws 0,vAt ws 1,vAt ws 2,vAt ws 3]) rfl) rfl (by omega) (Nat.le_refl _) hw (by simp)).post ?_
    rintro v hs ⟨rfl,rfl⟩
    exact ⟨_,⟨rfl,qNil,⟨⟨22,vAt ws 0,vAt ws 1,vAt ws 2,vAt ws 3,0,0,0,0,0,0⟩,[],[],[]⟩,[],rfl,rfl,trivial⟩,λh s=>s⟩
theorem orSight {R:HP} {s z:List UInt8} {ws:List (List UInt8)} (h:PIn R s z ws) (hk:kd z 28=12):(∃ y,LineOf y s)∨Throws R s:=by
 have hK:kd z 28≠0:=by omega
 obtain ⟨hk1,hk2,hzv⟩:=kd_is hK
 obtain ⟨hwl,hwb⟩:=h.words
 have hline:=h.line
 obtain ⟨hW,hV,hl,hs⟩:=h
 have hN:=λ(R':HP) (h:∀ w,Sat R' w→Sat R w) w (s:Sat R' w)=>(hW w (h w s)).1
 rcases hk with hk
 ·rw [hk] at hzv
  rcases numsCase ws 6 with ⟨j,hj,hok,hbad⟩|hall
  ·right
   refine λR' hR=>sParsePan (λw s=>hV w (hR w s)) (λw s=>(hW w (hR w s)).2) (by omega) hs λR2 lb B ob hr hw=>?_
   rw [hk]
   exact sTakeSightNo (R:=R2) (o:=⟨12,0,0,0,0,vAt ws 0,vAt ws 1,vAt ws 3,vAt ws 4,vAt ws 2,vAt ws 5⟩) (hN R2 λw s=>hR w (hr w s)) ⟨i0,i0,i0,i0,vAt_i64 ws 0,vAt_i64 ws 1,vAt_i64 ws 3,vAt_i64 ws 4,vAt_i64 ws 2,vAt_i64 ws 5⟩ (numsNo_of hwb hj hok hbad (zs:=[vAt ws 0,vAt ws 1,vAt ws 2,vAt ws 3,vAt ws 4,vAt ws 5]) rfl) rfl (by omega) (Nat.le_refl _) hw rfl
  ·have hle:=OkW.lt hall
   by_cases hlen:ws.length=6
   ·left
    have hwn:=words_num hall
    rw [List.take_of_length_le (by omega)] at hwn
    refine ⟨⟨⟨12,0,0,0,0,vAt ws 0,vAt ws 1,vAt ws 3,vAt ws 4,vAt ws 2,vAt ws 5⟩,[],[],[]⟩,⟨⟨i0,i0,i0,i0,vAt_i64 ws 0,vAt_i64 ws 1,vAt_i64 ws 3,vAt_i64 ws 4,vAt_i64 ws 2,vAt_i64 ws 5⟩,by show I64 12;unfold I64;omega,λc hc=>(by cases hc),λc hc=>(by cases hc)⟩,⟨by show (1:Int)≤12;omega,by show (12:Int)≤27;omega,λe=>absurd (show (12:Int)=27 from e) (by omega)⟩,rfl,?_⟩
    rw [hline,← hzv]
    refine congrArg (λx=>jn 32 (_::x)) (Eq.trans ?_ hwn.symm)
    rfl
   ·right
    refine λR' hR=>sParseLeft (k:=1+6) (Q:=λ_ _ _=>True) (λw s=>hV w (hR w s)) (λw s=>(hW w (hR w s)).2) (by omega) hs hK (by omega) λR2 lb B ob hr hw=>?_
    rw [hk]
    refine (sTakeSight (R:=R2) (lb:=lb) (b0:=B) (off:=0) (k0:=1) (m0:=ws.length+1) (c0:=ws.length+1) (ws:=z::ws) (o:=⟨12,0,0,0,0,vAt ws 0,vAt ws 1,vAt ws 3,vAt ws 4,vAt ws 2,vAt ws 5⟩) (hN R2 λw s=>hR w (hr w s)) ⟨i0,i0,i0,i0,vAt_i64 ws 0,vAt_i64 ws 1,vAt_i64 ws 3,vAt_i64 ws 4,vAt_i64 ws 2,vAt_i64 ws 5⟩ (nums_all hwb hall (zs:=[vAt ws 0,vAt ws 1,vAt ws 2,vAt ws 3,vAt ws 4,vAt ws 5]) rfl) rfl (by omega) (Nat.le_refl _) hw rfl).post ?_
    rintro v hs ⟨rfl,rfl⟩
    exact ⟨_,⟨rfl,qNil,⟨⟨12,0,0,0,0,vAt ws 0,vAt ws 1,vAt ws 3,vAt ws 4,vAt ws 2,vAt ws 5⟩,[],[],[]⟩,[],rfl,rfl,trivial⟩,λh s=>s⟩
theorem orView {R:HP} {s z:List UInt8} {ws:List (List UInt8)} (h:PIn R s z ws) (hk:kd z 28=13):(∃ y,LineOf y s)∨Throws R s:=by
 have hK:kd z 28≠0:=by omega
 obtain ⟨hk1,hk2,hzv⟩:=kd_is hK
 obtain ⟨hwl,hwb⟩:=h.words
 have hline:=h.line
 obtain ⟨hW,hV,hl,hs⟩:=h
 have hN:=λ(R':HP) (h:∀ w,Sat R' w→Sat R w) w (s:Sat R' w)=>(hW w (h w s)).1
 rcases hk with hk
 ·rw [hk] at hzv
  rcases numsCase ws 5 with ⟨j,hj,hok,hbad⟩|hall
  ·right
   refine λR' hR=>sParsePan (λw s=>hV w (hR w s)) (λw s=>(hW w (hR w s)).2) (by omega) hs λR2 lb B ob hr hw=>?_
   rw [hk]
   exact sTakeViewNo (R:=R2) (o:=⟨13,0,0,0,0,vAt ws 0,vAt ws 1,vAt ws 4,0,vAt ws 2,vAt ws 3⟩) (hN R2 λw s=>hR w (hr w s)) ⟨i0,i0,i0,i0,vAt_i64 ws 0,vAt_i64 ws 1,vAt_i64 ws 4,i0,vAt_i64 ws 2,vAt_i64 ws 3⟩ (numsNo_of hwb hj hok hbad (zs:=[vAt ws 0,vAt ws 1,vAt ws 2,vAt ws 3,vAt ws 4]) rfl) rfl (by omega) (Nat.le_refl _) hw rfl
  ·have hle:=OkW.lt hall
   by_cases hlen:ws.length=5
   ·left
    have hwn:=words_num hall
    rw [List.take_of_length_le (by omega)] at hwn
    refine ⟨⟨⟨13,0,0,0,0,vAt ws 0,vAt ws 1,vAt ws 4,0,vAt ws 2,vAt ws 3⟩,[],[],[]⟩,⟨⟨i0,i0,i0,i0,vAt_i64 ws 0,vAt_i64 ws 1,vAt_i64 ws 4,i0,vAt_i64 ws 2,vAt_i64 ws 3⟩,by show I64 13;unfold I64;omega,λc hc=>(by cases hc),λc hc=>(by cases hc)⟩,⟨by show (1:Int)≤13;omega,by show (13:Int)≤27;omega,λe=>absurd (show (13:Int)=27 from e) (by omega)⟩,rfl,?_⟩
    rw [hline,← hzv]
    refine congrArg (λx=>jn 32 (_::x)) (Eq.trans ?_ hwn.symm)
    rfl
   ·right
    refine λR' hR=>sParseLeft (k:=1+5) (Q:=λ_ _ _=>True) (λw s=>hV w (hR w s)) (λw s=>(hW w (hR w s)).2) (by omega) hs hK (by omega) λR2 lb B ob hr hw=>?_
    rw [hk]
    refine (sTakeView (R:=R2) (lb:=lb) (b0:=B) (off:=0) (k0:=1) (m0:=ws.length+1) (c0:=ws.length+1) (ws:=z::ws) (o:=⟨13,0,0,0,0,vAt ws 0,vAt ws 1,vAt ws 4,0,vAt ws 2,vAt ws 3⟩) (hN R2 λw s=>hR w (hr w s)) ⟨i0,i0,i0,i0,vAt_i64 ws 0,vAt_i64 ws 1,vAt_i64 ws 4,i0,vAt_i64 ws 2,vAt_i64 ws 3⟩ (nums_all hwb hall (zs:=[vAt ws 0,vAt ws 1,vAt ws 2,vAt ws 3,vAt ws 4]) rfl) rfl (by omega) (Nat.le_refl _) hw rfl).post ?_
    rintro v hs ⟨rfl,rfl⟩
    exact ⟨_,⟨rfl,qNil,⟨⟨13,0,0,0,0,vAt ws 0,vAt ws 1,vAt ws 4,0,vAt ws 2,vAt ws 3⟩,[],[],[]⟩,[],rfl,rfl,trivial⟩,λh s=>s⟩
theorem orN {R:HP} {s z:List UInt8} {ws:List (List UInt8)} (h:PIn R s z ws) (hk:kd z 28=14∨kd z 28=23):(∃ y,LineOf y s)∨Throws R s:=by
 have hK:kd z 28≠0:=by omega
 obtain ⟨hk1,hk2,hzv⟩:=kd_is hK
 obtain ⟨hwl,hwb⟩:=h.words
 have hline:=h.line
 obtain ⟨hW,hV,hl,hs⟩:=h
 have hN:=λ(R':HP) (h:∀ w,Sat R' w→Sat R w) w (s:Sat R' w)=>(hW w (h w s)).1
 rcases hk with hk|hk
 ·rw [hk] at hzv
  rcases numsCase ws 1 with ⟨j,hj,hok,hbad⟩|hall
  ·right
   refine λR' hR=>sParsePan (λw s=>hV w (hR w s)) (λw s=>(hW w (hR w s)).2) (by omega) hs λR2 lb B ob hr hw=>?_
   rw [hk]
   exact sTakeNNo (R:=R2) (o:=⟨14,0,0,0,0,0,0,0,0,vAt ws 0,0⟩) (hN R2 λw s=>hR w (hr w s)) ⟨i0,i0,i0,i0,i0,i0,i0,i0,vAt_i64 ws 0,i0⟩ (numsNo_of hwb hj hok hbad (zs:=[vAt ws 0]) rfl) rfl (by omega) (Nat.le_refl _) hw (by simp)
  ·have hle:=OkW.lt hall
   by_cases hlen:ws.length=1
   ·left
    have hwn:=words_num hall
    rw [List.take_of_length_le (by omega)] at hwn
    refine ⟨⟨⟨14,0,0,0,0,0,0,0,0,vAt ws 0,0⟩,[],[],[]⟩,⟨⟨i0,i0,i0,i0,i0,i0,i0,i0,vAt_i64 ws 0,i0⟩,by show I64 14;unfold I64;omega,λc hc=>(by cases hc),λc hc=>(by cases hc)⟩,⟨by show (1:Int)≤14;omega,by show (14:Int)≤27;omega,λe=>absurd (show (14:Int)=27 from e) (by omega)⟩,rfl,?_⟩
    rw [hline,← hzv]
    refine congrArg (λx=>jn 32 (_::x)) (Eq.trans ?_ hwn.symm)
    rfl
   ·right
    refine λR' hR=>sParseLeft (k:=1+1) (Q:=λ_ _ _=>True) (λw s=>hV w (hR w s)) (λw s=>(hW w (hR w s)).2) (by omega) hs hK (by omega) λR2 lb B ob hr hw=>?_
    rw [hk]
    refine (sTakeN (R:=R2) (lb:=lb) (b0:=B) (off:=0) (k0:=1) (m0:=ws.length+1) (c0:=ws.length+1) (ws:=z::ws) (o:=⟨14,0,0,0,0,0,0,0,0,vAt ws 0,0⟩) (hN R2 λw s=>hR w (hr w s)) ⟨i0,i0,i0,i0,i0,i0,i0,i0,vAt_i64 ws 0,i0⟩ (nums_all hwb hall (zs:=[vAt ws 0]) rfl) rfl (by omega) (Nat.le_refl _) hw (by simp)).post ?_
    rintro v hs ⟨rfl,rfl⟩
    exact ⟨_,⟨rfl,qNil,⟨⟨14,0,0,0,0,0,0,0,0,vAt ws 0,0⟩,[],[],[]⟩,[],rfl,rfl,trivial⟩,λh s=>s⟩
 ·rw [hk] at hzv
  rcases numsCase ws 1 with ⟨j,hj,hok,hbad⟩|hall
  ·right
   refine λR' hR=>sParsePan (λw s=>hV w (hR w s)) (λw s=>(hW w (hR w s)).2) (by omega) hs λR2 lb B ob hr hw=>?_
   rw [hk]
   exact sTakeNNo (R:=R2) (o:=⟨23,0,0,0,0,0,0,0,0,vAt ws 0,0⟩) (hN R2 λw s=>hR w (hr w s)) ⟨i0,i0,i0,i0,i0,i0,i0,i0,vAt_i64 ws 0,i0⟩ (numsNo_of hwb hj hok hbad (zs:=[vAt ws 0]) rfl) rfl (by omega) (Nat.le_refl _) hw (by simp)
  ·have hle:=OkW.lt hall
   by_cases hlen:ws.length=1
   ·left
    have hwn:=words_num hall
    rw [List.take_of_length_le (by omega)] at hwn
    refine ⟨⟨⟨23,0,0,0,0,0,0,0,0,vAt ws 0,0⟩,[],[],[]⟩,⟨⟨i0,i0,i0,i0,i0,i0,i0,i0,vAt_i64 ws 0,i0⟩,by show I64 23;unfold I64;omega,λc hc=>(by cases hc),λc hc=>(by cases hc)⟩,⟨by show (1:Int)≤23;omega,by show (23:Int)≤27;omega,λe=>absurd (show (23:Int)=27 from e) (by omega)⟩,rfl,?_⟩
    rw [hline,← hzv]
    refine congrArg (λx=>jn 32 (_::x)) (Eq.trans ?_ hwn.symm)
    rfl
   ·right
    refine λR' hR=>sParseLeft (k:=1+1) (Q:=λ_ _ _=>True) (λw s=>hV w (hR w s)) (λw s=>(hW w (hR w s)).2) (by omega) hs hK (by omega) λR2 lb B ob hr hw=>?_
    rw [hk]
    refine (sTakeN (R:=R2) (lb:=lb) (b0:=B) (off:=0) (k0:=1) (m0:=ws.length+1) (c0:=ws.length+1) (ws:=z::ws) (o:=⟨23,0,0,0,0,0,0,0,0,vAt ws 0,0⟩) (hN R2 λw s=>hR w (hr w s)) ⟨i0,i0,i0,i0,i0,i0,i0,i0,vAt_i64 ws 0,i0⟩ (nums_all hwb hall (zs:=[vAt ws 0]) rfl) rfl (by omega) (Nat.le_refl _) hw (by simp)).post ?_
    rintro v hs ⟨rfl,rfl⟩
    exact ⟨_,⟨rfl,qNil,⟨⟨23,0,0,0,0,0,0,0,0,vAt ws 0,0⟩,[],[],[]⟩,[],rfl,rfl,trivial⟩,λh s=>s⟩
theorem orAB {R:HP} {s z:List UInt8} {ws:List (List UInt8)} (h:PIn R s z ws) (hk:kd z 28=16):(∃ y,LineOf y s)∨Throws R s:=by
 have hK:kd z 28≠0:=by omega
 obtain ⟨hk1,hk2,hzv⟩:=kd_is hK
 obtain ⟨hwl,hwb⟩:=h.words
 have hline:=h.line
 obtain ⟨hW,hV,hl,hs⟩:=h
 have hN:=λ(R':HP) (h:∀ w,Sat R' w→Sat R w) w (s:Sat R' w)=>(hW w (h w s)).1
 rcases hk with hk
 ·rw [hk] at hzv
  rcases numsCase ws 4 with ⟨j,hj,hok,hbad⟩|hall
  ·right
   refine λR' hR=>sParsePan (λw s=>hV w (hR w s)) (λw s=>(hW w (hR w s)).2) (by omega) hs λR2 lb B ob hr hw=>?_
   rw [hk]
   exact sTakeABNo (R:=R2) (o:=⟨16,0,0,0,0,vAt ws 0,vAt ws 1,vAt ws 2,vAt ws 3,0,0⟩) (hN R2 λw s=>hR w (hr w s)) ⟨i0,i0,i0,i0,vAt_i64 ws 0,vAt_i64 ws 1,vAt_i64 ws 2,vAt_i64 ws 3,i0,i0⟩ (numsNo_of hwb hj hok hbad (zs:=[vAt ws 0,vAt ws 1,vAt ws 2,vAt ws 3]) rfl) rfl (by omega) (Nat.le_refl _) hw rfl
  ·have hle:=OkW.lt hall
   by_cases hlen:ws.length=4
   ·left
    have hwn:=words_num hall
    rw [List.take_of_length_le (by omega)] at hwn
    refine ⟨⟨⟨16,0,0,0,0,vAt ws 0,vAt ws 1,vAt ws 2,vAt ws 3,0,0⟩,[],[],[]⟩,⟨⟨i0,i0,i0,i0,vAt_i64 ws 0,vAt_i64 ws 1,vAt_i64 ws 2,vAt_i64 ws 3,i0,i0⟩,by show I64 16;unfold I64;omega,λc hc=>(by cases hc),λc hc=>(by cases hc)⟩,⟨by show (1:Int)≤16;omega,by show (16:Int)≤27;omega,λe=>absurd (show (16:Int)=27 from e) (by omega)⟩,rfl,?_⟩
    rw [hline,← hzv]
    refine congrArg (λx=>jn 32 (_::x)) (Eq.trans ?_ hwn.symm)
    rfl
   ·right
    refine λR' hR=>sParseLeft (k:=1+4) (Q:=λ_ _ _=>True) (λw s=>hV w (hR w s)) (λw s=>(hW w (hR w s)).2) (by omega) hs hK (by omega) λR2 lb B ob hr hw=>?_
    rw [hk]
    refine (sTakeAB (R:=R2) (lb:=lb) (b0:=B) (off:=0) (k0:=1) (m0:=ws.length+1) (c0:=ws.length+1) (ws:=z::ws) (o:=⟨16,0,0,0,0,vAt ws 0,vAt ws 1,vAt ws 2,vAt ws 3,0,0⟩) (hN R2 λw s=>hR w (hr w s)) ⟨i0,i0,i0,i0,vAt_i64 ws 0,vAt_i64 ws 1,vAt_i64 ws 2,vAt_i64 ws 3,i0,i0⟩ (nums_all hwb hall (zs:=[vAt ws 0,vAt ws 1,vAt ws 2,vAt ws 3]) rfl) rfl (by omega) (Nat.le_refl _) hw rfl).post ?_
    rintro v hs ⟨rfl,rfl⟩
    exact ⟨_,⟨rfl,qNil,⟨⟨16,0,0,0,0,vAt ws 0,vAt ws 1,vAt ws 2,vAt ws 3,0,0⟩,[],[],[]⟩,[],rfl,rfl,trivial⟩,λh s=>s⟩
theorem orNone {R:HP} {s z:List UInt8} {ws:List (List UInt8)} (h:PIn R s z ws) (hk:kd z 28=18∨kd z 28=19∨kd z 28=25∨kd z 28=26):(∃ y,LineOf y s)∨Throws R s:=by
 have hK:kd z 28≠0:=by omega
 obtain ⟨hk1,hk2,hzv⟩:=kd_is hK
 obtain ⟨hwl,hwb⟩:=h.words
 have hline:=h.line
 obtain ⟨hW,hV,hl,hs⟩:=h
 have hN:=λ(R':HP) (h:∀ w,Sat R' w→Sat R w) w (s:Sat R' w)=>(hW w (h w s)).1
 rcases hk with hk|hk|hk|hk
 ·rw [hk] at hzv
  rcases numsCase ws 0 with ⟨j,hj,hok,hbad⟩|hall
  ·exact absurd hj (Nat.not_lt_zero _)
  ·have hle:=OkW.lt hall
   by_cases hlen:ws.length=0
   ·left
    have hwn:=words_num hall
    rw [List.take_of_length_le (by omega)] at hwn
    refine ⟨⟨⟨18,0,0,0,0,0,0,0,0,0,0⟩,[],[],[]⟩,⟨⟨i0,i0,i0,i0,i0,i0,i0,i0,i0,i0⟩,by show I64 18;unfold I64;omega,λc hc=>(by cases hc),λc hc=>(by cases hc)⟩,⟨by show (1:Int)≤18;omega,by show (18:Int)≤27;omega,λe=>absurd (show (18:Int)=27 from e) (by omega)⟩,rfl,?_⟩
    rw [hline,← hzv]
    refine congrArg (λx=>jn 32 (_::x)) (Eq.trans ?_ hwn.symm)
    rfl
   ·right
    refine λR' hR=>sParseLeft (k:=1+0) (Q:=λ_ _ _=>True) (λw s=>hV w (hR w s)) (λw s=>(hW w (hR w s)).2) (by omega) hs hK (by omega) λR2 lb B ob hr hw=>?_
    rw [hk]
    refine (sTakeNone (R:=R2) (lb:=lb) (b0:=B) (off:=0) (k0:=1) (m0:=ws.length+1) (c0:=ws.length+1) (ws:=z::ws) (o:=⟨18,0,0,0,0,0,0,0,0,0,0⟩) (hN R2 λw s=>hR w (hr w s)) ⟨i0,i0,i0,i0,i0,i0,i0,i0,i0,i0⟩ (nums_all hwb hall (zs:=[]) rfl) rfl (by omega) (Nat.le_refl _) hw (by simp)).post ?_
    rintro v hs ⟨rfl,rfl⟩
    exact ⟨_,⟨rfl,qNil,⟨⟨18,0,0,0,0,0,0,0,0,0,0⟩,[],[],[]⟩,[],rfl,rfl,trivial⟩,λh s=>s⟩
 ·rw [hk] at hzv
  rcases numsCase ws 0 with ⟨j,hj,hok,hbad⟩|hall
  ·exact absurd hj (Nat.not_lt_zero _)
  ·have hle:=OkW.lt hall
   by_cases hlen:ws.length=0
   ·left
    have hwn:=words_num hall
    rw [List.take_of_length_le (by omega)] at hwn
    refine ⟨⟨⟨19,0,0,0,0,0,0,0,0,0,0⟩,[],[],[]⟩,⟨⟨i0,i0,i0,i0,i0,i0,i0,i0,i0,i0⟩,by show I64 19;unfold I64;omega,λc hc=>(by cases hc),λc hc=>(by cases hc)⟩,⟨by show (1:Int)≤19;omega,by show (19:Int)≤27;omega,λe=>absurd (show (19:Int)=27 from e) (by omega)⟩,rfl,?_⟩
    rw [hline,← hzv]
    refine congrArg (λx=>jn 32 (_::x)) (Eq.trans ?_ hwn.symm)
    rfl
   ·right
    refine λR' hR=>sParseLeft (k:=1+0) (Q:=λ_ _ _=>True) (λw s=>hV w (hR w s)) (λw s=>(hW w (hR w s)).2) (by omega) hs hK (by omega) λR2 lb B ob hr hw=>?_
    rw [hk]
    refine (sTakeNone (R:=R2) (lb:=lb) (b0:=B) (off:=0) (k0:=1) (m0:=ws.length+1) (c0:=ws.length+1) (ws:=z::ws) (o:=⟨19,0,0,0,0,0,0,0,0,0,0⟩) (hN R2 λw s=>hR w (hr w s)) ⟨i0,i0,i0,i0,i0,i0,i0,i0,i0,i0⟩ (nums_all hwb hall (zs:=[]) rfl) rfl (by omega) (Nat.le_refl _) hw (by simp)).post ?_
    rintro v hs ⟨rfl,rfl⟩
    exact ⟨_,⟨rfl,qNil,⟨⟨19,0,0,0,0,0,0,0,0,0,0⟩,[],[],[]⟩,[],rfl,rfl,trivial⟩,λh s=>s⟩
 ·rw [hk] at hzv
  rcases numsCase ws 0 with ⟨j,hj,hok,hbad⟩|hall
  ·exact absurd hj (Nat.not_lt_zero _)
  ·have hle:=OkW.lt hall
   by_cases hlen:ws.length=0
   ·left
    have hwn:=words_num hall
    rw [List.take_of_length_le (by omega)] at hwn
    refine ⟨⟨⟨25,0,0,0,0,0,0,0,0,0,0⟩,[],[],[]⟩,⟨⟨i0,i0,i0,i0,i0,i0,i0,i0,i0,i0⟩,by show I64 25;unfold I64;omega,λc hc=>(by cases hc),λc hc=>(by cases hc)⟩,⟨by show (1:Int)≤25;omega,by show (25:Int)≤27;omega,λe=>absurd (show (25:Int)=27 from e) (by omega)⟩,rfl,?_⟩
    rw [hline,← hzv]
    refine congrArg (λx=>jn 32 (_::x)) (Eq.trans ?_ hwn.symm)
    rfl
   ·right
    refine λR' hR=>sParseLeft (k:=1+0) (Q:=λ_ _ _=>True) (λw s=>hV w (hR w s)) (λw s=>(hW w (hR w s)).2) (by omega) hs hK (by omega) λR2 lb B ob hr hw=>?_
    rw [hk]
    refine (sTakeNone (R:=R2) (lb:=lb) (b0:=B) (off:=0) (k0:=1) (m0:=ws.length+1) (c0:=ws.length+1) (ws:=z::ws) (o:=⟨25,0,0,0,0,0,0,0,0,0,0⟩) (hN R2 λw s=>hR w (hr w s)) ⟨i0,i0,i0,i0,i0,i0,i0,i0,i0,i0⟩ (nums_all hwb hall (zs:=[]) rfl) rfl (by omega) (Nat.le_refl _) hw (by simp)).post ?_
    rintro v hs ⟨rfl,rfl⟩
    exact ⟨_,⟨rfl,qNil,⟨⟨25,0,0,0,0,0,0,0,0,0,0⟩,[],[],[]⟩,[],rfl,rfl,trivial⟩,λh s=>s⟩
 ·rw [hk] at hzv
  rcases numsCase ws 0 with ⟨j,hj,hok,hbad⟩|hall
  ·exact absurd hj (Nat.not_lt_zero _)
  ·have hle:=OkW.lt hall
   by_cases hlen:ws.length=0
   ·left
    have hwn:=words_num hall
    rw [List.take_of_length_le (by omega)] at hwn
    refine ⟨⟨⟨26,0,0,0,0,0,0,0,0,0,0⟩,[],[],[]⟩,⟨⟨i0,i0,i0,i0,i0,i0,i0,i0,i0,i0⟩,by show I64 26;unfold I64;omega,λc hc=>(by cases hc),λc hc=>(by cases hc)⟩,⟨by show (1:Int)≤26;omega,by show (26:Int)≤27;omega,λe=>absurd (show (26:Int)=27 from e) (by omega)⟩,rfl,?_⟩
    rw [hline,← hzv]
    refine congrArg (λx=>jn 32 (_::x)) (Eq.trans ?_ hwn.symm)
    rfl
   ·right
    refine λR' hR=>sParseLeft (k:=1+0) (Q:=λ_ _ _=>True) (λw s=>hV w (hR w s)) (λw s=>(hW w (hR w s)).2) (by omega) hs hK (by omega) λR2 lb B ob hr hw=>?_
    rw [hk]
    refine (sTakeNone (R:=R2) (lb:=lb) (b0:=B) (off:=0) (k0:=1) (m0:=ws.length+1) (c0:=ws.length+1) (ws:=z::ws) (o:=⟨26,0,0,0,0,0,0,0,0,0,0⟩) (hN R2 λw s=>hR w (hr w s)) ⟨i0,i0,i0,i0,i0,i0,i0,i0,i0,i0⟩ (nums_all hwb hall (zs:=[]) rfl) rfl (by omega) (Nat.le_refl _) hw (by simp)).post ?_
    rintro v hs ⟨rfl,rfl⟩
    exact ⟨_,⟨rfl,qNil,⟨⟨26,0,0,0,0,0,0,0,0,0,0⟩,[],[],[]⟩,[],rfl,rfl,trivial⟩,λh s=>s⟩
theorem sTakePasteNo {R:HP} {lb b0 off m0 c0 k0 ob:Nat} {ws:List (List UInt8)} {o:OpN} (hN:∀ w,Sat R w→NumW w) (hM:∀ w,Sat R w→MaxW w) (ok:o.ok) (hz:Nums ws k0 [o.x0,o.y0,o.x1,o.y1]) (hy:k0+4=m0∨∃ z j,ws[k0+4]? = some z∧z.length≤100000∧BadList z j) (hn0:ws.length=m0) (hm0:m0≤1000000) (hc0:m0≤c0) (ha0:WordsAt R b0 off ws) :
  PanR Tryz.prog R 23 [.pointer (some ⟨lb,0,none⟩),.pointer (some ⟨ob,0,none⟩)] [tkH lb b0 off m0 c0 k0,blkH ob 31 (opZ 4)] isThrown R:=by
 unfold opZ opC
 refine pan_of_run0 _ _ false Tryz.func23 rfl hmix rfl λw0=>?_
 conv=>whnf
 refine ⟨trivial,LoadAt.cell _ rfl rfl (λw hw=>blk_cell (hw.in_ 1 rfl) rfl) ?_⟩
 conv=>whnf
 repeat (first|(refine ⟨λ_=>?_,λh=>absurd h (by decide)⟩;conv=>whnf)|(refine ⟨λh=>absurd h (by decide),λ_=>?_⟩;conv=>whnf))
 refine ⟨trivial,CallAt.fn (pre:=[tkH lb b0 off m0 c0 k0,blkH ob 31 _]) _ (λh s=>s) (λR' hR'=>sRectT (λw s=>hN w (Sat.rest (hR' w s))) 1 o.x0 o.y0 o.x1 o.y1 hn0 hm0 hc0 (ha0.mono λw s=>Sat.rest (hR' w s)) (hz.sub 0 [o.x0,o.y0,o.x1,o.y1] rfl) ok.x0 ok.y0 ok.x1 ok.y1 ⟨0,rfl,i0⟩ ⟨0,rfl,i0⟩ ⟨0,rfl,i0⟩ ⟨0,rfl,i0⟩) ?_⟩
 rintro r hs ⟨rfl,rfl⟩
 conv=>whnf
 rcases hy with hy|⟨z,j,hy,hzl,hb⟩
 ·rw [hy]
  exact ⟨trivial,CallAt.panT (pre:=[tkH lb b0 off m0 c0 m0,blkH ob 31 _]) _ (λh s=>s) (λR' hR'=>sListNo0 (λw s=>hN w (Sat.rest (hR' w s))) 11 rfl) (λch h=>h) (λw s=>s.rest) trivial⟩
 ·exact ⟨trivial,CallAt.panT (pre:=[tkH lb b0 off m0 c0 (k0+4),blkH ob 31 _]) _ (λh s=>s) (λR' hR'=>sListNo (λw s=>hN w (Sat.rest (hR' w s))) (λw s=>hM w (Sat.rest (hR' w s))) 11 rfl hy hzl hb hn0 hm0 hc0 (ha0.mono λw s=>Sat.rest (hR' w s))) (λch h=>h) (λw s=>s.rest) trivial⟩
theorem sTakeDrawNo {R:HP} {lb b0 off m0 c0 k0 ob:Nat} {ws:List (List UInt8)} {o:OpN} (hW:∀ w,Sat R w→ReadW w) (ok:o.ok) (hz:Nums ws k0 [o.x0,o.y0,o.x1,o.y1]) (hy:k0+4=m0∨∃ z,ws[k0+4]? = some z∧z.length≤100000∧readV z=none) (hn0:ws.length=m0) (hm0:m0≤1000000) (hc0:m0≤c0) (ha0:WordsAt R b0 off ws) :
  PanR Tryz.prog R 23 [.pointer (some ⟨lb,0,none⟩),.pointer (some ⟨ob,0,none⟩)] [tkH lb b0 off m0 c0 k0,blkH ob 31 (opZ 27)] isThrown R:=by
 have hN:∀ w,Sat R w→NumW w:=λw s=>(hW w s).1
 unfold opZ opC
 refine pan_of_run0 _ _ false Tryz.func23 rfl hmix rfl λw0=>?_
 conv=>whnf
 refine ⟨trivial,LoadAt.cell _ rfl rfl (λw hw=>blk_cell (hw.in_ 1 rfl) rfl) ?_⟩
 conv=>whnf
 repeat (first|(refine ⟨λ_=>?_,λh=>absurd h (by decide)⟩;conv=>whnf)|(refine ⟨λh=>absurd h (by decide),λ_=>?_⟩;conv=>whnf))
 refine ⟨trivial,CallAt.fn (pre:=[tkH lb b0 off m0 c0 k0,blkH ob 31 _]) _ (λh s=>s) (λR' hR'=>sRectT (λw s=>hN w (Sat.rest (hR' w s))) 1 o.x0 o.y0 o.x1 o.y1 hn0 hm0 hc0 (ha0.mono λw s=>Sat.rest (hR' w s)) (hz.sub 0 [o.x0,o.y0,o.x1,o.y1] rfl) ok.x0 ok.y0 ok.x1 ok.y1 ⟨0,rfl,i0⟩ ⟨0,rfl,i0⟩ ⟨0,rfl,i0⟩ ⟨0,rfl,i0⟩) ?_⟩
 rintro r hs ⟨rfl,rfl⟩
 conv=>whnf
 rcases hy with hy|⟨z,hy,hzl,hb⟩
 ·rw [hy]
  exact ⟨trivial,CallAt.panT (pre:=[tkH lb b0 off m0 c0 m0,blkH ob 31 _]) _ (λh s=>s) (λR' hR'=>sLegendNo0) (λch h=>h) (λw s=>s.rest) trivial⟩
 ·exact ⟨trivial,CallAt.panT (pre:=[tkH lb b0 off m0 c0 (k0+4),blkH ob 31 _]) _ (λh s=>s) (λR' hR'=>sLegendNo (λw s=>hW w (Sat.rest (hR' w s))) hy hzl hb hn0 hm0 hc0 (ha0.mono λw s=>Sat.rest (hR' w s))) (λch h=>h) (λw s=>s.rest) trivial⟩
theorem sTakeLoadNo {R:HP} {lb b0 off m0 c0 k0 ob:Nat} {ws:List (List UInt8)} (hy:k0=m0∨∃ z b q,ws[k0]? = some z∧z.length≤100000∧BadHex z b q) (hn0:ws.length=m0) (hm0:m0≤1000000) (hc0:m0≤c0) (ha0:WordsAt R b0 off ws) :
  PanR Tryz.prog R 23 [.pointer (some ⟨lb,0,none⟩),.pointer (some ⟨ob,0,none⟩)] [tkH lb b0 off m0 c0 k0,blkH ob 31 (opZ 24)] isThrown R:=by
 unfold opZ opC
 refine pan_of_run0 _ _ false Tryz.func23 rfl hmix rfl λw0=>?_
 conv=>whnf
 refine ⟨trivial,LoadAt.cell _ rfl rfl (λw hw=>blk_cell (hw.in_ 1 rfl) rfl) ?_⟩
 conv=>whnf
 repeat (first|(refine ⟨λ_=>?_,λh=>absurd h (by decide)⟩;conv=>whnf)|(refine ⟨λh=>absurd h (by decide),λ_=>?_⟩;conv=>whnf))
 rcases hy with hy|⟨z,b,q,hy,hzl,hb⟩
 ·rw [hy]
  exact ⟨trivial,CallAt.panT (pre:=[tkH lb b0 off m0 c0 m0,blkH ob 31 _]) _ (λh s=>s) (λR' hR'=>sBytesNo0 12 rfl) (λch h=>h) (λw s=>s.rest) trivial⟩
 ·exact ⟨trivial,CallAt.panT (pre:=[tkH lb b0 off m0 c0 k0,blkH ob 31 _]) _ (λh s=>s) (λR' hR'=>sBytesNo 12 rfl hy hzl hb hn0 hm0 hc0 (ha0.mono λw s=>Sat.rest (hR' w s))) (λch h=>h) (λw s=>s.rest) trivial⟩
theorem listCase (z:List UInt8):(∃ l,(∀ n∈l,I64 n)∧listW l=z)∨∃ j,BadList z j:=by
 by_cases hd:z=[45]
 ·exact .inl ⟨[],λn hn=>(by cases hn),hd.symm⟩
 ·obtain ⟨h1,h2,h3⟩:=pcs_spec 44 z
  rcases numsCase (pcs 44 z) (pcs 44 z).length with ⟨j,hj,hok,hbad⟩|hall
  ·refine .inr ⟨j,hd,hj,λi h hi=>?_,λh e=>hbad ⟨_,List.getElem?_eq_getElem h,e⟩⟩
   obtain ⟨w,e1,e2⟩:=hok i hi
   rw [List.getElem?_eq_getElem h] at e1
   injection e1 with e1
   rw [e1]
   exact e2
  ·left
   have hw:=words_num hall
   rw [List.take_length] at hw
   refine ⟨(List.range (pcs 44 z).length).map (vAt (pcs 44 z)),λn hn=>?_,?_⟩
   ·obtain ⟨i,_,rfl⟩:=List.mem_map.1 hn
    exact vAt_i64 _ _
   ·unfold listW
    rw [if_neg (by intro e;have:=congrArg List.length e;simp at this;exact h3 this),List.map_map]
    conv=>rhs;rw [← h1,hw]
    rfl
theorem wds_ge (c:UInt8):∀ ps:List (List UInt8),ps.length≤(wds c ps).length
 |[]=>by simp [wds]
 |p::ps=>by
  have:=wds_ge c ps
  rw [wds_cons]
  simp only [List.length_cons,List.length_append]
  omega
theorem listW_ge (l:List Int):l.length≤(listW l).length+1:=by
 unfold listW
 split
 ·rename_i h;rw [h];simp
 ·cases l with
  |nil=>simp
  |cons a l =>
   rw [List.map_cons,jn_cons]
   have:=wds_ge 44 (l.map Lib.itoa)
   simp only [List.length_cons,List.length_append,List.length_map] at this ⊢
   omega
theorem hexW_ge (b:List UInt8):b.length≤(hexW b).length:=by
 unfold hexW
 split
 ·rename_i h;rw [h];simp
 ·rw [hexT_len];omega
theorem or4 {R:HP} {s z:List UInt8} {ws:List (List UInt8)} (h:PIn R s z ws) (hk:kd z 28=4):(∃ y,LineOf y s)∨Throws R s:=by
 have hK:kd z 28≠0:=by omega
 obtain ⟨hk1,hk2,hzv⟩:=kd_is hK
 obtain ⟨hwl,hwb⟩:=h.words
 have hline:=h.line
 obtain ⟨hW,hV,hl,hs⟩:=h
 have hN:=λ(R':HP) (h:∀ w,Sat R' w→Sat R w) w (s:Sat R' w)=>(hW w (h w s)).1
 have hM:=λ(R':HP) (h:∀ w,Sat R' w→Sat R w) w (s:Sat R' w)=>(hW w (h w s)).2
 rw [hk] at hzv
 rcases numsCase ws 4 with ⟨j,hj,hok,hbad⟩|hall
 ·right
  refine λR' hR=>sParsePan (λw s=>hV w (hR w s)) (λw s=>(hW w (hR w s)).2) (by omega) hs λR2 lb B ob hr hw=>?_
  rw [hk]
  exact sTakeRLNo (R:=R2) (o:=⟨4,vAt ws 0,vAt ws 1,vAt ws 2,vAt ws 3,0,0,0,0,0,0⟩) (hN R2 λw s=>hR w (hr w s)) ⟨vAt_i64 ws 0,vAt_i64 ws 1,vAt_i64 ws 2,vAt_i64 ws 3,i0,i0,i0,i0,i0,i0⟩ (numsNo_of hwb hj hok hbad (zs:=[vAt ws 0,vAt ws 1,vAt ws 2,vAt ws 3]) rfl) rfl (by omega) (Nat.le_refl _) hw (by simp)
 have hle:=OkW.lt hall
 have hbadCase:(ws.length=4∨∃ w j,ws[4]? = some w∧BadList w j)→Throws R s:=λhc=>by
  refine λR' hR=>sParsePan (λw s=>hV w (hR w s)) (λw s=>(hW w (hR w s)).2) (by omega) hs λR2 lb B ob hr hw=>?_
  rw [hk]
  refine sTakePasteNo (R:=R2) (ws:=z::ws) (o:=⟨4,vAt ws 0,vAt ws 1,vAt ws 2,vAt ws 3,0,0,0,0,0,0⟩) (hN R2 λw s=>hR w (hr w s)) (hM R2 λw s=>hR w (hr w s)) ⟨vAt_i64 ws 0,vAt_i64 ws 1,vAt_i64 ws 2,vAt_i64 ws 3,i0,i0,i0,i0,i0,i0⟩ (nums_all hwb hall (zs:=[vAt ws 0,vAt ws 1,vAt ws 2,vAt ws 3]) rfl) ?_ rfl (by omega) (Nat.le_refl _) hw
  rcases hc with hc|⟨w,j,h1,h2⟩
  ·exact .inl (by omega)
  ·exact .inr ⟨w,j,h1,by have:=hwb w (List.mem_of_getElem? h1);omega,h2⟩
 by_cases h4:ws.length=4
 ·exact .inr (hbadCase (.inl h4))
 have hw4:ws[4]? = some ws[4]:=List.getElem?_eq_getElem (by omega)
 rcases listCase ws[4] with ⟨l,hli,hlw⟩|⟨j,hb⟩
 rotate_left
 ·exact .inr (hbadCase (.inr ⟨_,j,hw4,hb⟩))
 have hll:l.length≤40000:=by
  have h1:=hwb _ (List.mem_of_getElem? hw4)
  have h2:=listW_ge l
  rw [hlw] at h2
  omega
 by_cases h5:ws.length=5
 ·left
  have hwn:=words_num hall
  refine ⟨⟨⟨4,vAt ws 0,vAt ws 1,vAt ws 2,vAt ws 3,0,0,0,0,0,0⟩,l,[],[]⟩,⟨⟨vAt_i64 ws 0,vAt_i64 ws 1,vAt_i64 ws 2,vAt_i64 ws 3,i0,i0,i0,i0,i0,i0⟩,by show I64 4;unfold I64;omega,hli,λc hc=>(by cases hc)⟩,⟨by show (1:Int)≤4;omega,by show (4:Int)≤27;omega,λe=>absurd (show (4:Int)=27 from e) (by omega)⟩,rfl,?_⟩
  have hws:ws=ws.take 4++[listW l]:=by
   conv=>lhs;rw [← List.take_append_drop 4 ws]
   congr 1
   rw [List.drop_eq_getElem_cons (by omega),List.drop_of_length_le (by omega),hlw]
  rw [hline,← hzv]
  refine congrArg (λx=>jn 32 (_::x)) (Eq.trans ?_ hws.symm)
  rw [hwn]
  rfl
 ·right
  refine λR' hR=>sParseLeft (k:=1+5) (Q:=λ_ _ _=>True) (λw s=>hV w (hR w s)) (λw s=>(hW w (hR w s)).2) (by omega) hs hK (by omega) λR2 lb B ob hr hw=>?_
  rw [hk]
  refine (sTakePaste (R:=R2) (lb:=lb) (b0:=B) (off:=0) (k0:=1) (m0:=ws.length+1) (c0:=ws.length+1) (ws:=z::ws) (o:=⟨4,vAt ws 0,vAt ws 1,vAt ws 2,vAt ws 3,0,0,0,0,0,0⟩) (hN R2 λw s=>hR w (hr w s)) (hM R2 λw s=>hR w (hr w s)) ⟨vAt_i64 ws 0,vAt_i64 ws 1,vAt_i64 ws 2,vAt_i64 ws 3,i0,i0,i0,i0,i0,i0⟩ l rfl hll hli (nums_all hwb hall (zs:=[vAt ws 0,vAt ws 1,vAt ws 2,vAt ws 3]) rfl) (by rw [hlw];exact hw4) rfl (by omega) (Nat.le_refl _) hw rfl).post ?_
  rintro v hs ⟨rfl,D,cd,rfl⟩
  exact ⟨_,⟨rfl,⟨D,cd,none,0,none,0⟩,⟨⟨4,vAt ws 0,vAt ws 1,vAt ws 2,vAt ws 3,0,0,0,0,0,0⟩,l,[],[]⟩,_,rfl,rfl,trivial⟩,λh s=>s⟩
theorem or27 {R:HP} {s z:List UInt8} {ws:List (List UInt8)} (h:PIn R s z ws) (hk:kd z 28=27):(∃ y,LineOf y s)∨Throws R s:=by
 have hK:kd z 28≠0:=by omega
 obtain ⟨hk1,hk2,hzv⟩:=kd_is hK
 obtain ⟨hwl,hwb⟩:=h.words
 have hline:=h.line
 obtain ⟨hW,hV,hl,hs⟩:=h
 have hN:=λ(R':HP) (h:∀ w,Sat R' w→Sat R w) w (s:Sat R' w)=>(hW w (h w s)).1
 rw [hk] at hzv
 rcases numsCase ws 4 with ⟨j,hj,hok,hbad⟩|hall
 ·right
  refine λR' hR=>sParsePan (λw s=>hV w (hR w s)) (λw s=>(hW w (hR w s)).2) (by omega) hs λR2 lb B ob hr hw=>?_
  rw [hk]
  exact sTakeRLNo (R:=R2) (o:=⟨27,vAt ws 0,vAt ws 1,vAt ws 2,vAt ws 3,0,0,0,0,0,0⟩) (hN R2 λw s=>hR w (hr w s)) ⟨vAt_i64 ws 0,vAt_i64 ws 1,vAt_i64 ws 2,vAt_i64 ws 3,i0,i0,i0,i0,i0,i0⟩ (numsNo_of hwb hj hok hbad (zs:=[vAt ws 0,vAt ws 1,vAt ws 2,vAt ws 3]) rfl) rfl (by omega) (Nat.le_refl _) hw (by simp)
 have hle:=OkW.lt hall
 have hbadCase:(ws.length=4∨∃ w,ws[4]? = some w∧readV w=none)→Throws R s:=λhc=>by
  refine λR' hR=>sParsePan (λw s=>hV w (hR w s)) (λw s=>(hW w (hR w s)).2) (by omega) hs λR2 lb B ob hr hw=>?_
  rw [hk]
  refine sTakeDrawNo (R:=R2) (ws:=z::ws) (o:=⟨27,vAt ws 0,vAt ws 1,vAt ws 2,vAt ws 3,0,0,0,0,0,0⟩) (λw s=>hW w (hR w (hr w s))) ⟨vAt_i64 ws 0,vAt_i64 ws 1,vAt_i64 ws 2,vAt_i64 ws 3,i0,i0,i0,i0,i0,i0⟩ (nums_all hwb hall (zs:=[vAt ws 0,vAt ws 1,vAt ws 2,vAt ws 3]) rfl) ?_ rfl (by omega) (Nat.le_refl _) hw
  rcases hc with hc|⟨w,h1,h2⟩
  ·exact .inl (by omega)
  ·exact .inr ⟨w,h1,by have:=hwb w (List.mem_of_getElem? h1);omega,h2⟩
 by_cases h4:ws.length=4
 ·exact .inr (hbadCase (.inl h4))
 have hw4:ws[4]? = some ws[4]:=List.getElem?_eq_getElem (by omega)
 cases hrv:readV ws[4] with
 |none=>exact .inr (hbadCase (.inr ⟨_,hw4,hrv⟩))
 |some l =>
 obtain ⟨hRL,hlw⟩:=readV_iff.1 hrv
 by_cases h5:ws.length=5
 ·left
  have hwn:=words_num hall
  refine ⟨⟨⟨27,vAt ws 0,vAt ws 1,vAt ws 2,vAt ws 3,0,0,0,0,0,0⟩,[],[],l⟩,⟨⟨vAt_i64 ws 0,vAt_i64 ws 1,vAt_i64 ws 2,vAt_i64 ws 3,i0,i0,i0,i0,i0,i0⟩,by show I64 27;unfold I64;omega,λc hc=>(by cases hc),λb hb=>?_⟩,⟨by show (1:Int)≤27;omega,by show (27:Int)≤27;omega,λ_=>hRL⟩,rfl,?_⟩
  ·obtain ⟨g1,g2,g3⟩:=hRL.good b hb
   unfold MayI at g1
   unfold SignN at g3
   unfold I64 I32
   omega
  have hws:ws=ws.take 4++[printT l]:=by
   conv=>lhs;rw [← List.take_append_drop 4 ws]
   congr 1
   rw [List.drop_eq_getElem_cons (by omega),List.drop_of_length_le (by omega),hlw]
  rw [hline,← hzv]
  refine congrArg (λx=>jn 32 (_::x)) (Eq.trans ?_ hws.symm)
  rw [hwn]
  rfl
 ·right
  refine λR' hR=>sParseLeft (k:=1+5) (Q:=λ_ _ _=>True) (λw s=>hV w (hR w s)) (λw s=>(hW w (hR w s)).2) (by omega) hs hK (by omega) λR2 lb B ob hr hw=>?_
  rw [hk]
  refine (sTakeDraw (R:=R2) (lb:=lb) (b0:=B) (off:=0) (k0:=1) (m0:=ws.length+1) (c0:=ws.length+1) (ws:=z::ws) (o:=⟨27,vAt ws 0,vAt ws 1,vAt ws 2,vAt ws 3,0,0,0,0,0,0⟩) (λw s=>hW w (hR w (hr w s))) ⟨vAt_i64 ws 0,vAt_i64 ws 1,vAt_i64 ws 2,vAt_i64 ws 3,i0,i0,i0,i0,i0,i0⟩ hRL (nums_all hwb hall (zs:=[vAt ws 0,vAt ws 1,vAt ws 2,vAt ws 3]) rfl) (by rw [← hlw];exact hw4) rfl (by omega) (Nat.le_refl _) hw rfl).post ?_
  rintro v hs ⟨rfl,D,cd,rfl⟩
  exact ⟨_,⟨rfl,⟨none,0,none,0,D,cd⟩,⟨⟨27,vAt ws 0,vAt ws 1,vAt ws 2,vAt ws 3,0,0,0,0,0,0⟩,[],[],l⟩,_,rfl,rfl,trivial⟩,λh s=>s⟩
theorem or24 {R:HP} {s z:List UInt8} {ws:List (List UInt8)} (h:PIn R s z ws) (hk:kd z 28=24):(∃ y,LineOf y s)∨Throws R s:=by
 have hK:kd z 28≠0:=by omega
 obtain ⟨hk1,hk2,hzv⟩:=kd_is hK
 obtain ⟨hwl,hwb⟩:=h.words
 have hline:=h.line
 obtain ⟨hW,hV,hl,hs⟩:=h
 rw [hk] at hzv
 have hbadCase:(ws.length=0∨∃ w b q,ws[0]? = some w∧BadHex w b q)→Throws R s:=λhc=>by
  refine λR' hR=>sParsePan (λw s=>hV w (hR w s)) (λw s=>(hW w (hR w s)).2) (by omega) hs λR2 lb B ob hr hw=>?_
  rw [hk]
  refine sTakeLoadNo (R:=R2) (ws:=z::ws) ?_ rfl (by omega) (Nat.le_refl _) hw
  rcases hc with hc|⟨w,b,q,h1,h2⟩
  ·exact .inl (by omega)
  ·exact .inr ⟨w,b,q,h1,by have:=hwb w (List.mem_of_getElem? h1);omega,h2⟩
 by_cases h4:ws.length=0
 ·exact .inr (hbadCase (.inl h4))
 have hw4:ws[0]? = some ws[0]:=List.getElem?_eq_getElem (by omega)
 by_cases hex:∃ b,ws[0]=hexW b
 rotate_left
 ·obtain ⟨b,q,hb⟩:=badHex_of (z:=ws[0]) λb e=>hex ⟨b,e⟩
  exact .inr (hbadCase (.inr ⟨_,b,q,hw4,hb⟩))
 obtain ⟨b,hlw⟩:=hex
 have hll:b.length≤40000:=by
  have h1:=hwb _ (List.mem_of_getElem? hw4)
  have h2:=hexW_ge b
  rw [← hlw] at h2
  omega
 by_cases h5:ws.length=1
 ·left
  refine ⟨⟨⟨24,0,0,0,0,0,0,0,0,0,0⟩,[],b,[]⟩,⟨⟨i0,i0,i0,i0,i0,i0,i0,i0,i0,i0⟩,by show I64 24;unfold I64;omega,λc hc=>(by cases hc),λc hc=>(by cases hc)⟩,⟨by show (1:Int)≤24;omega,by show (24:Int)≤27;omega,λe=>absurd (show (24:Int)=27 from e) (by omega)⟩,rfl,?_⟩
  have hws:ws=[hexW b]:=by
   rw [← hlw]
   cases ws with
   |nil=>simp at h4
   |cons a ws =>
    have:ws=[]:=List.length_eq_zero_iff.1 (by simpa using h5)
    subst this
    rfl
  rw [hline,← hzv]
  refine congrArg (λx=>jn 32 (_::x)) (Eq.trans ?_ hws.symm)
  rfl
 ·right
  refine λR' hR=>sParseLeft (k:=1+1) (Q:=λ_ _ _=>True) (λw s=>hV w (hR w s)) (λw s=>(hW w (hR w s)).2) (by omega) hs hK (by omega) λR2 lb B ob hr hw=>?_
  rw [hk]
  refine (sTakeLoad (R:=R2) (lb:=lb) (b0:=B) (off:=0) (k0:=1) (m0:=ws.length+1) (c0:=ws.length+1) (ws:=z::ws) (o:=⟨24,0,0,0,0,0,0,0,0,0,0⟩) b rfl hll (by rw [← hlw];exact hw4) rfl (by omega) (Nat.le_refl _) hw rfl).post ?_
  rintro v hs ⟨rfl,D,cd,rfl⟩
  exact ⟨_,⟨rfl,⟨none,0,D,cd,none,0⟩,⟨⟨24,0,0,0,0,0,0,0,0,0,0⟩,[],b,[]⟩,_,rfl,rfl,trivial⟩,λh s=>s⟩
theorem parse_or {R:HP} {s:List UInt8} (hW:∀ w,Sat R w→ReadW w) (hV:∀ w,Sat R w→VerbsW w) (hl:s.length≤3000):(∃ y,LineOf y s)∨Throws R s:=by
 obtain ⟨_,_,h3⟩:=pcs_spec 32 s
 cases hs:pcs 32 s with
 |nil=>exact absurd hs h3
 |cons z ws =>
  have h:PIn R s z ws:=⟨hW,hV,hl,hs⟩
  by_cases hK:kd z 28=0
  ·exact .inr λR' hR=>sParseNone (λw s=>hV w (hR w s)) (λw s=>(hW w (hR w s)).2) (by omega) hs hK
  ·obtain ⟨hk1,hk2,_⟩:=kd_is hK
   by_cases c1:kd z 28=1∨kd z 28=17
   ·exact orNM h c1
   by_cases c2:kd z 28=2
   ·exact orAN h c2
   by_cases c3:kd z 28=3∨kd z 28=5∨kd z 28=10∨kd z 28=11
   ·exact orRN h c3
   by_cases c4:kd z 28=4
   ·exact or4 h c4
   by_cases c5:kd z 28=6∨kd z 28=15
   ·exact orA h c5
   by_cases c6:kd z 28=7∨kd z 28=8∨kd z 28=9∨kd z 28=20∨kd z 28=21∨kd z 28=22
   ·exact orR h c6
   by_cases c7:kd z 28=12
   ·exact orSight h c7
   by_cases c8:kd z 28=13
   ·exact orView h c8
   by_cases c9:kd z 28=14∨kd z 28=23
   ·exact orN h c9
   by_cases c10:kd z 28=16
   ·exact orAB h c10
   by_cases c11:kd z 28=24
   ·exact or24 h c11
   by_cases c12:kd z 28=27
   ·exact or27 h c12
   exact orNone h (by omega)
theorem wds_mem_lt {d:UInt8}:∀ {ps:List (List UInt8)} {p:List UInt8},p∈ps→p.length+1≤(wds d ps).length
 |q::ps,p,h=>by
  rw [wds_cons]
  simp only [List.length_cons,List.length_append]
  rcases List.mem_cons.1 h with rfl|h
  ·omega
  ·have:=wds_mem_lt (d:=d) h
   omega
theorem LineOf.few {y:OpF} {s:List UInt8} (h:LineOf y s) (hl:s.length≤3000):y.vals.length≤3000∧y.byts.length≤3000∧y.bands.length≤12:=by
 obtain ⟨ok,hL,hn,rfl⟩:=h
 have hp:=line_pcs hL
 have hw:∀ w∈opW y,w.length+1≤3000:=λw hw=>by
  have h1:=wds_mem_lt (d:=32) hw
  unfold lineF at hl
  rw [jn_cons,List.length_append] at hl
  omega
 obtain ⟨h1,h2,h3⟩:=hL
 clear hp hl ok
 obtain ⟨⟨kind,x0,y0,x1,y1,ax,ay,bx,b_y,n,m⟩,vals,byts,bands⟩:=y
 simp only at *
 suffices hg:(named ⟨⟨kind,x0,y0,x1,y1,ax,ay,bx,b_y,n,m⟩,vals,byts,bands⟩).vals.length≤3000∧(named ⟨⟨kind,x0,y0,x1,y1,ax,ay,bx,b_y,n,m⟩,vals,byts,bands⟩).byts.length≤3000∧(named ⟨⟨kind,x0,y0,x1,y1,ax,ay,bx,b_y,n,m⟩,vals,byts,bands⟩).bands.length≤12 by
  rw [hn] at hg
  exact hg
 clear hn
 by_cases k4:kind=4
 ·subst k4
  have:=hw (listW vals) (by simp [opW])
  have:=listW_ge vals
  simp [named]
  omega
 by_cases k24:kind=24
 ·subst k24
  have:=hw (hexW byts) (by simp [opW])
  have:=hexW_ge byts
  simp [named]
  omega
 by_cases k27:kind=27
 ·have:=(h3 k27).2.1
  subst k27
  simp [named]
  omega
 clear hw h3
 rcases kinds27 h1 h2 with rfl|rfl|rfl|rfl|rfl|rfl|rfl|rfl|rfl|rfl|rfl|rfl|rfl|rfl|rfl|rfl|rfl|rfl|rfl|rfl|rfl|rfl|rfl|rfl|rfl|rfl|rfl
 all_goals first
  |exact absurd rfl k4
  |exact absurd rfl k24
  |exact absurd rfl k27
  |simp [named]
end Go.Proofs.YtcoefgkjlgngkaaGreatDoor
