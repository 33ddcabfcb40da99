/-
  Texts of the proofs, one behind the other: ScVc.
-/
import Derived.Test.YtcoefgkjlgngkaaGreatDoorSPg19
import Derived.Test.YtcoefgkjlgngkaaGreatDoorSPg22
import Derived.Test.YtcoefgkjlgngkaaGreatDoorSPg26
import Derived.Test.YtcoefgkjlgngkaaGreatDoorSPg27
namespace Go.Proofs.YtcoefgkjlgngkaaGreatDoor
open Go.RowKit
open Sy
set_option linter.unusedVariables false
set_option linter.unusedSimpArgs false
set_option maxRecDepth 100000
set_option maxHeartbeats 4000000
def vAt (ws:List (List UInt8)) (i:Nat):Int:=(read (ws.getD i [])).1
def lastW (z:List UInt8) (ws:List (List UInt8)):List UInt8:=ws.getLastD z
def listG (z:List UInt8):List Int:=if numsOk (pcs 44 z)=true then numsV (pcs 44 z) else []
def bandsG (z:List UInt8):List Bd:=(refV z).getD []
def cntK (k:Int):Nat:=[0,2,3,5,4,5,2,4,4,4,5,5,6,5,1,2,4,2,0,0,4,4,4,1,0,0,0,4].getD k.toNat 0
def guessF (k:Int) (z:List UInt8) (ws:List (List UInt8)):OpF :=
 if k=1∨k=17 then ⟨⟨k,0,0,0,0,0,0,0,0,vAt ws 0,vAt ws 1⟩,[],[],[]⟩ else
 if k=2 then ⟨⟨k,0,0,0,0,vAt ws 0,vAt ws 1,0,0,vAt ws 2,0⟩,[],[],[]⟩ else
 if k=3∨k=5∨k=10∨k=11 then ⟨⟨k,vAt ws 0,vAt ws 1,vAt ws 2,vAt ws 3,0,0,0,0,vAt ws 4,0⟩,[],[],[]⟩ else
 if k=4 then ⟨⟨k,vAt ws 0,vAt ws 1,vAt ws 2,vAt ws 3,0,0,0,0,0,0⟩,listG (lastW z ws),[],[]⟩ else
 if k=6∨k=15 then ⟨⟨k,0,0,0,0,vAt ws 0,vAt ws 1,0,0,0,0⟩,[],[],[]⟩ else
 if k=7∨k=8∨k=9∨k=20∨k=21∨k=22 then ⟨⟨k,vAt ws 0,vAt ws 1,vAt ws 2,vAt ws 3,0,0,0,0,0,0⟩,[],[],[]⟩ else
 if k=12 then ⟨⟨k,0,0,0,0,vAt ws 0,vAt ws 1,vAt ws 3,vAt ws 4,vAt ws 2,vAt ws 5⟩,[],[],[]⟩ else
 if k=13 then ⟨⟨k,0,0,0,0,vAt ws 0,vAt ws 1,vAt ws 4,0,vAt ws 2,vAt ws 3⟩,[],[],[]⟩ else
 if k=14∨k=23 then ⟨⟨k,0,0,0,0,0,0,0,0,vAt ws 0,0⟩,[],[],[]⟩ else
 if k=16 then ⟨⟨k,0,0,0,0,vAt ws 0,vAt ws 1,vAt ws 2,vAt ws 3,0,0⟩,[],[],[]⟩ else
 if k=18∨k=19∨k=25∨k=26 then ⟨⟨k,0,0,0,0,0,0,0,0,0,0⟩,[],[],[]⟩ else
 if k=24 then ⟨⟨k,0,0,0,0,0,0,0,0,0,0⟩,[],unhexG (lastW z ws),[]⟩ else
 if k=27 then ⟨⟨k,vAt ws 0,vAt ws 1,vAt ws 2,vAt ws 3,0,0,0,0,0,0⟩,[],[],bandsG (lastW z ws)⟩ else
 ⟨⟨k,0,0,0,0,0,0,0,0,0,0⟩,[],[],[]⟩
theorem rd_itoa {n:Int} (h:I64 n):(read (Lib.itoa n)).1=n:=by rw [read_itoa n h.1 h.2]
theorem listG_W {l:List Int} (h:∀ n∈l,I64 n):listG (listW l)=l:=by
 unfold listG
 by_cases c:l=[]
 ·subst c
  have h3:pcs 44 [45]=[[45]]:=by
   have:=pcs_jn (d:=44) (ws:=[[45]]) (by simp) (λp hp=>by simp at hp;subst hp;decide)
   rwa [jn_one] at this
  have h4:listW []=[45]:=rfl
  rw [h4,h3]
  have h5:read [45]=(0,12):=by decide +kernel
  simp [numsOk,h5]
 ·rw [listW_split c]
  have h1:numsOk (l.map Lib.itoa)=true:=by
   unfold numsOk
   rw [List.all_eq_true]
   intro p hp
   obtain ⟨n,hn,rfl⟩:=List.mem_map.1 hp
   rw [read_itoa n (h n hn).1 (h n hn).2]
   rfl
  rw [if_pos h1]
  unfold numsV
  rw [List.map_map]
  conv=>rhs;rw [← List.map_id l]
  refine List.map_congr_left λn hn=>?_
  exact rd_itoa (h n hn)
theorem unhexG_W (b:List UInt8):unhexG (hexW b)=b:=by
 unfold hexW
 split
 ·rename_i h;rw [h];rfl
 ·exact unhex_hexT b
theorem bandsG_T {l:List Bd} (h:RightL l):bandsG (printT l)=l:=by
 unfold bandsG
 rw [refV_iff.2 ⟨h,rfl⟩]
 rfl
theorem kd_le (z:List UInt8):∀ i,kd z i=0∨∃ j,j < i∧kd z i=(j:Int)∧verbsL.getD j []=z∧z≠[]
 |0=>.inl rfl
 |i+1=>by
  by_cases c:verbsL.getD i []=z∧z≠[]
  ·exact .inr ⟨i,by omega,if_pos c,c.1,c.2⟩
  ·have e:kd z (i+1)=kd z i:=if_neg c
   rw [e]
   rcases kd_le z i with h|⟨j,h1,h2⟩
   ·exact .inl h
   ·exact .inr ⟨j,by omega,h2⟩
theorem kd_is {z:List UInt8} (h:kd z 28≠0):1≤kd z 28∧kd z 28≤27∧verbT (kd z 28)=z:=by
 rcases kd_le z 28 with c|⟨j,h1,h2,h3,h4⟩
 ·exact absurd c h
 ·rw [h2]
  have hj:j≠0:=λe=>h4 (by rw [← h3,e];rfl)
  refine ⟨by omega,by omega,?_⟩
  unfold verbT
  rw [Int.toNat_natCast]
  exact h3
theorem guess_line {y:OpF} (hl:HasLine y) (hn:named y=y) (ok:y.ok) (z:List UInt8):guessF y.o.kind z (opW y)=y:=by
 obtain ⟨h1,h2,h3⟩:=hl
 have ko:=ok.o
 have kv:=ok.vals
 obtain ⟨⟨kind,x0,y0,x1,y1,ax,ay,bx,b_y,n,m⟩,vals,byts,bands⟩:=y
 simp only at *
 have r_x0:(read (Lib.itoa x0)).1=x0:=rd_itoa ko.x0
 have r_y0:(read (Lib.itoa y0)).1=y0:=rd_itoa ko.y0
 have r_x1:(read (Lib.itoa x1)).1=x1:=rd_itoa ko.x1
 have r_y1:(read (Lib.itoa y1)).1=y1:=rd_itoa ko.y1
 have r_ax:(read (Lib.itoa ax)).1=ax:=rd_itoa ko.ax
 have r_ay:(read (Lib.itoa ay)).1=ay:=rd_itoa ko.ay
 have r_bx:(read (Lib.itoa bx)).1=bx:=rd_itoa ko.bx
 have r_b_y:(read (Lib.itoa b_y)).1=b_y:=rd_itoa ko.b_y
 have r_n:(read (Lib.itoa n)).1=n:=rd_itoa ko.n
 have r_m:(read (Lib.itoa m)).1=m:=rd_itoa ko.m
 have r_l:=listG_W kv
 have r_b:=unhexG_W byts
 clear ko kv ok
 rcases kinds27 h1 h2 with rfl|rfl|rfl|rfl|rfl|rfl|rfl|rfl|rfl|rfl|rfl|rfl|rfl|rfl|rfl|rfl|rfl|rfl|rfl|rfl|rfl|rfl|rfl|rfl|rfl|rfl|rfl
 ·refine Eq.trans ?_ hn
  simp [guessF,named,opW,rectW,vAt,lastW,r_n,r_m]
 ·refine Eq.trans ?_ hn
  simp [guessF,named,opW,rectW,vAt,lastW,r_ax,r_ay,r_n]
 ·refine Eq.trans ?_ hn
  simp [guessF,named,opW,rectW,vAt,lastW,r_x0,r_y0,r_x1,r_y1,r_n]
 ·refine Eq.trans ?_ hn
  simp [guessF,named,opW,rectW,vAt,lastW,r_x0,r_y0,r_x1,r_y1,r_l]
 ·refine Eq.trans ?_ hn
  simp [guessF,named,opW,rectW,vAt,lastW,r_x0,r_y0,r_x1,r_y1,r_n]
 ·refine Eq.trans ?_ hn
  simp [guessF,named,opW,rectW,vAt,lastW,r_ax,r_ay]
 ·refine Eq.trans ?_ hn
  simp [guessF,named,opW,rectW,vAt,lastW,r_x0,r_y0,r_x1,r_y1]
 ·refine Eq.trans ?_ hn
  simp [guessF,named,opW,rectW,vAt,lastW,r_x0,r_y0,r_x1,r_y1]
 ·refine Eq.trans ?_ hn
  simp [guessF,named,opW,rectW,vAt,lastW,r_x0,r_y0,r_x1,r_y1]
 ·refine Eq.trans ?_ hn
  simp [guessF,named,opW,rectW,vAt,lastW,r_x0,r_y0,r_x1,r_y1,r_n]
 ·refine Eq.trans ?_ hn
  simp [guessF,named,opW,rectW,vAt,lastW,r_x0,r_y0,r_x1,r_y1,r_n]
 ·refine Eq.trans ?_ hn
  simp [guessF,named,opW,rectW,vAt,lastW,r_ax,r_ay,r_n,r_bx,r_b_y,r_m]
 ·refine Eq.trans ?_ hn
  simp [guessF,named,opW,rectW,vAt,lastW,r_ax,r_ay,r_n,r_m,r_bx]
 ·refine Eq.trans ?_ hn
  simp [guessF,named,opW,rectW,vAt,lastW,r_n]
 ·refine Eq.trans ?_ hn
  simp [guessF,named,opW,rectW,vAt,lastW,r_ax,r_ay]
 ·refine Eq.trans ?_ hn
  simp [guessF,named,opW,rectW,vAt,lastW,r_ax,r_ay,r_bx,r_b_y]
 ·refine Eq.trans ?_ hn
  simp [guessF,named,opW,rectW,vAt,lastW,r_n,r_m]
 ·refine Eq.trans ?_ hn
  simp [guessF,named,opW,rectW,vAt,lastW]
 ·refine Eq.trans ?_ hn
  simp [guessF,named,opW,rectW,vAt,lastW]
 ·refine Eq.trans ?_ hn
  simp [guessF,named,opW,rectW,vAt,lastW,r_x0,r_y0,r_x1,r_y1]
 ·refine Eq.trans ?_ hn
  simp [guessF,named,opW,rectW,vAt,lastW,r_x0,r_y0,r_x1,r_y1]
 ·refine Eq.trans ?_ hn
  simp [guessF,named,opW,rectW,vAt,lastW,r_x0,r_y0,r_x1,r_y1]
 ·refine Eq.trans ?_ hn
  simp [guessF,named,opW,rectW,vAt,lastW,r_n]
 ·refine Eq.trans ?_ hn
  simp [guessF,named,opW,rectW,vAt,lastW,r_b]
 ·refine Eq.trans ?_ hn
  simp [guessF,named,opW,rectW,vAt,lastW]
 ·refine Eq.trans ?_ hn
  simp [guessF,named,opW,rectW,vAt,lastW]
 ·have r_t:=bandsG_T (h3 rfl)
  refine Eq.trans ?_ hn
  simp [guessF,named,opW,rectW,vAt,lastW,r_x0,r_y0,r_x1,r_y1,r_t]
end Go.Proofs.YtcoefgkjlgngkaaGreatDoor
