/-
  Texts of the proofs, one behind the other: ScQb.
-/
import Derived.Test.YtcoefgkjlgngkaaGreatDoorSPg32
namespace Go.Proofs.YtcoefgkjlgngkaaGreatDoor
open Go.RowKit
open Sy
set_option linter.unusedVariables false
set_option linter.unusedSimpArgs false
set_option maxRecDepth 100000
set_option maxHeartbeats 4000000
theorem wds_l2 {a b:Int} (h1:I64 a) (h2:I64 b):(wds 32 [Lib.itoa a,Lib.itoa b]).length≤44:=by
 have:=itoa_len20 h1
 have:=itoa_len20 h2
 simp [wds]
 omega
theorem wds_l4 {a b c d:Int} (h1:I64 a) (h2:I64 b) (h3:I64 c) (h4:I64 d):(wds 32 [Lib.itoa a,Lib.itoa b,Lib.itoa c,Lib.itoa d]).length≤88:=by
 have:=itoa_len20 h1
 have:=itoa_len20 h2
 have:=itoa_len20 h3
 have:=itoa_len20 h4
 simp [wds]
 omega
theorem wds_l1 {z:List UInt8} {m:Nat} (h:z.length≤m):(wds 32 [z]).length≤m+1:=by
 simp [wds]
 omega
theorem sRfPrint0 {R:HP} {q:OpA} {x:OpF} (ok:x.ok) (few:x.few) (hS:OpS R q x) (hk:x.o.kind=1∨x.o.kind=2∨x.o.kind=3∨x.o.kind=4∨x.o.kind=5):PureR Tryz.prog R 19 [opV q x] (.tuple #[.string (bs (lineF x)),.bool true]):=by
 have f1:=few.vals
 have f2:=few.byts
 have l1:=listW_len ok.vals
 have l2:=hexW_len x.byts
 obtain ⟨⟨kind,x0,y0,x1,y1,ax,ay,bx,b_y,n,m⟩,vals,byts,bands⟩:=x
 have ko:=ok.o
 have kv:=ok.vals
 have s1:=hS.vals
 have s2:=hS.byts
 unfold opV opCs opC
 simp only at *
 have a1:(w1 n).length≤22:=w1_len ko.n
 have a2:(w1 m).length≤22:=w1_len ko.m
 have a3:(w1 bx).length≤22:=w1_len ko.bx
 have a4:(wds 32 [Lib.itoa ax,Lib.itoa ay]).length≤44:=wds_l2 ko.ax ko.ay
 have a5:(wds 32 [Lib.itoa bx,Lib.itoa b_y]).length≤44:=wds_l2 ko.bx ko.b_y
 have a6:(wds 32 [Lib.itoa x0,Lib.itoa y0,Lib.itoa x1,Lib.itoa y1]).length≤88:=wds_l4 ko.x0 ko.y0 ko.x1 ko.y1
 have a7:=wds_l1 (m:=70000) (z:=listW vals) (by omega)
 have a8:=wds_l1 (m:=70000) (z:=hexW byts) (by omega)
 rcases hk with rfl|rfl|rfl|rfl|rfl
 ·have hv:=(verb_chars _ (verb_mem (k:=1) (by decide) (by decide))).2
  have hl:lineF (⟨⟨1,x0,y0,x1,y1,ax,ay,bx,b_y,n,m⟩,vals,byts,bands⟩:OpF)=verbT 1++w1 n++w1 m:=by
   simp [lineF,opW,rectW,jn_cons,wds,w1]
  rw [hl]
  clear hl
  have hve:=λR'=>sVerb (R:=R') (k:=1) (by decide) (by decide)
  generalize verbT 1=z at *
  refine fn_of_run0 false Tryz.func19 rfl hmix rfl λw0=>?_
  conv=>whnf
  refine ⟨trivial,CallAt.pure (λR' hR'=>hve R') ?_⟩
  conv=>whnf
  repeat (first|(refine ⟨λ_=>?_,λh=>absurd h (by decide)⟩;conv=>whnf)|(refine ⟨λh=>absurd h (by decide),λ_=>?_⟩;conv=>whnf))
  refine ⟨trivial,RegAt.quiet hmix (by kernel_rfl) ?_⟩
  conv=>whnf
  refine ⟨(by (repeat' apply And.intro)<;>first|exact True.intro|(simp only [bs_append,bs_size,List.length_append];omega)|omega),CallQ.pure (λR' hR'=>(sRfNumber n ko.n)) ?_⟩
  conv=>whnf
  refine ⟨(by (repeat' apply And.intro)<;>first|exact True.intro|(simp only [bs_append,bs_size,List.length_append];omega)|omega),CallQ.pure (λR' hR'=>(sRfNumber m ko.m)) ?_⟩
  conv=>whnf
  refine ⟨(by (repeat' apply And.intro)<;>first|exact True.intro|(simp only [bs_append,bs_size,List.length_append];omega)|omega),?_⟩
  conv=>whnf
  refine ⟨(by (repeat' apply And.intro)<;>first|exact True.intro|(simp only [bs_append,bs_size,List.length_append];omega)|omega),fin_pure rfl ?_⟩
  simp only [bs_append]
  try rfl
 ·have hv:=(verb_chars _ (verb_mem (k:=2) (by decide) (by decide))).2
  have hl:lineF (⟨⟨2,x0,y0,x1,y1,ax,ay,bx,b_y,n,m⟩,vals,byts,bands⟩:OpF)=verbT 2++wds 32 [Lib.itoa ax,Lib.itoa ay]++w1 n:=by
   simp [lineF,opW,rectW,jn_cons,wds,w1]
  rw [hl]
  clear hl
  have hve:=λR'=>sVerb (R:=R') (k:=2) (by decide) (by decide)
  generalize verbT 2=z at *
  refine fn_of_run0 false Tryz.func19 rfl hmix rfl λw0=>?_
  conv=>whnf
  refine ⟨trivial,CallAt.pure (λR' hR'=>hve R') ?_⟩
  conv=>whnf
  repeat (first|(refine ⟨λ_=>?_,λh=>absurd h (by decide)⟩;conv=>whnf)|(refine ⟨λh=>absurd h (by decide),λ_=>?_⟩;conv=>whnf))
  refine ⟨trivial,RegAt.quiet hmix (by kernel_rfl) ?_⟩
  conv=>whnf
  refine ⟨(by (repeat' apply And.intro)<;>first|exact True.intro|(simp only [bs_append,bs_size,List.length_append];omega)|omega),CallQ.pure (λR' hR'=>(sRfCell ax ay ko.ax ko.ay)) ?_⟩
  conv=>whnf
  refine ⟨(by (repeat' apply And.intro)<;>first|exact True.intro|(simp only [bs_append,bs_size,List.length_append];omega)|omega),CallQ.pure (λR' hR'=>(sRfNumber n ko.n)) ?_⟩
  conv=>whnf
  refine ⟨(by (repeat' apply And.intro)<;>first|exact True.intro|(simp only [bs_append,bs_size,List.length_append];omega)|omega),?_⟩
  conv=>whnf
  refine ⟨(by (repeat' apply And.intro)<;>first|exact True.intro|(simp only [bs_append,bs_size,List.length_append];omega)|omega),fin_pure rfl ?_⟩
  simp only [bs_append]
  try rfl
 ·have hv:=(verb_chars _ (verb_mem (k:=3) (by decide) (by decide))).2
  have hl:lineF (⟨⟨3,x0,y0,x1,y1,ax,ay,bx,b_y,n,m⟩,vals,byts,bands⟩:OpF)=verbT 3++wds 32 [Lib.itoa x0,Lib.itoa y0,Lib.itoa x1,Lib.itoa y1]++w1 n:=by
   simp [lineF,opW,rectW,jn_cons,wds,w1]
  rw [hl]
  clear hl
  have hve:=λR'=>sVerb (R:=R') (k:=3) (by decide) (by decide)
  generalize verbT 3=z at *
  refine fn_of_run0 false Tryz.func19 rfl hmix rfl λw0=>?_
  conv=>whnf
  refine ⟨trivial,CallAt.pure (λR' hR'=>hve R') ?_⟩
  conv=>whnf
  repeat (first|(refine ⟨λ_=>?_,λh=>absurd h (by decide)⟩;conv=>whnf)|(refine ⟨λh=>absurd h (by decide),λ_=>?_⟩;conv=>whnf))
  refine ⟨trivial,RegAt.quiet hmix (by kernel_rfl) ?_⟩
  conv=>whnf
  refine ⟨(by (repeat' apply And.intro)<;>first|exact True.intro|(simp only [bs_append,bs_size,List.length_append];omega)|omega),CallQ.pure (λR' hR'=>(sRfRect x0 y0 x1 y1 ko.x0 ko.y0 ko.x1 ko.y1)) ?_⟩
  conv=>whnf
  refine ⟨(by (repeat' apply And.intro)<;>first|exact True.intro|(simp only [bs_append,bs_size,List.length_append];omega)|omega),CallQ.pure (λR' hR'=>(sRfNumber n ko.n)) ?_⟩
  conv=>whnf
  refine ⟨(by (repeat' apply And.intro)<;>first|exact True.intro|(simp only [bs_append,bs_size,List.length_append];omega)|omega),?_⟩
  conv=>whnf
  refine ⟨(by (repeat' apply And.intro)<;>first|exact True.intro|(simp only [bs_append,bs_size,List.length_append];omega)|omega),fin_pure rfl ?_⟩
  simp only [bs_append]
  try rfl
 ·have hv:=(verb_chars _ (verb_mem (k:=4) (by decide) (by decide))).2
  have hl:lineF (⟨⟨4,x0,y0,x1,y1,ax,ay,bx,b_y,n,m⟩,vals,byts,bands⟩:OpF)=verbT 4++wds 32 [Lib.itoa x0,Lib.itoa y0,Lib.itoa x1,Lib.itoa y1]++wds 32 [listW vals]:=by
   simp [lineF,opW,rectW,jn_cons,wds,w1]
  rw [hl]
  clear hl
  have hve:=λR'=>sVerb (R:=R') (k:=4) (by decide) (by decide)
  generalize verbT 4=z at *
  refine fn_of_run0 false Tryz.func19 rfl hmix rfl λw0=>?_
  conv=>whnf
  refine ⟨trivial,CallAt.pure (λR' hR'=>hve R') ?_⟩
  conv=>whnf
  repeat (first|(refine ⟨λ_=>?_,λh=>absurd h (by decide)⟩;conv=>whnf)|(refine ⟨λh=>absurd h (by decide),λ_=>?_⟩;conv=>whnf))
  refine ⟨trivial,RegAt.quiet hmix (by kernel_rfl) ?_⟩
  conv=>whnf
  refine ⟨(by (repeat' apply And.intro)<;>first|exact True.intro|(simp only [bs_append,bs_size,List.length_append];omega)|omega),CallQ.pure (λR' hR'=>(sRfRect x0 y0 x1 y1 ko.x0 ko.y0 ko.x1 ko.y1)) ?_⟩
  conv=>whnf
  refine ⟨(by (repeat' apply And.intro)<;>first|exact True.intro|(simp only [bs_append,bs_size,List.length_append];omega)|omega),CallQ.pure (λR' hR'=>(sRfList vals rfl (by omega) kv (s1.mono λw s=>sat_base (hR' w s)))) ?_⟩
  conv=>whnf
  refine ⟨(by (repeat' apply And.intro)<;>first|exact True.intro|(simp only [bs_append,bs_size,List.length_append];omega)|omega),?_⟩
  conv=>whnf
  refine ⟨(by (repeat' apply And.intro)<;>first|exact True.intro|(simp only [bs_append,bs_size,List.length_append];omega)|omega),fin_pure rfl ?_⟩
  simp only [bs_append]
  try rfl
 ·have hv:=(verb_chars _ (verb_mem (k:=5) (by decide) (by decide))).2
  have hl:lineF (⟨⟨5,x0,y0,x1,y1,ax,ay,bx,b_y,n,m⟩,vals,byts,bands⟩:OpF)=verbT 5++wds 32 [Lib.itoa x0,Lib.itoa y0,Lib.itoa x1,Lib.itoa y1]++w1 n:=by
   simp [lineF,opW,rectW,jn_cons,wds,w1]
  rw [hl]
  clear hl
  have hve:=λR'=>sVerb (R:=R') (k:=5) (by decide) (by decide)
  generalize verbT 5=z at *
  refine fn_of_run0 false Tryz.func19 rfl hmix rfl λw0=>?_
  conv=>whnf
  refine ⟨trivial,CallAt.pure (λR' hR'=>hve R') ?_⟩
  conv=>whnf
  repeat (first|(refine ⟨λ_=>?_,λh=>absurd h (by decide)⟩;conv=>whnf)|(refine ⟨λh=>absurd h (by decide),λ_=>?_⟩;conv=>whnf))
  refine ⟨trivial,RegAt.quiet hmix (by kernel_rfl) ?_⟩
  conv=>whnf
  refine ⟨(by (repeat' apply And.intro)<;>first|exact True.intro|(simp only [bs_append,bs_size,List.length_append];omega)|omega),CallQ.pure (λR' hR'=>(sRfRect x0 y0 x1 y1 ko.x0 ko.y0 ko.x1 ko.y1)) ?_⟩
  conv=>whnf
  refine ⟨(by (repeat' apply And.intro)<;>first|exact True.intro|(simp only [bs_append,bs_size,List.length_append];omega)|omega),CallQ.pure (λR' hR'=>(sRfNumber n ko.n)) ?_⟩
  conv=>whnf
  refine ⟨(by (repeat' apply And.intro)<;>first|exact True.intro|(simp only [bs_append,bs_size,List.length_append];omega)|omega),?_⟩
  conv=>whnf
  refine ⟨(by (repeat' apply And.intro)<;>first|exact True.intro|(simp only [bs_append,bs_size,List.length_append];omega)|omega),fin_pure rfl ?_⟩
  simp only [bs_append]
  try rfl
theorem sRfPrint1 {R:HP} {q:OpA} {x:OpF} (ok:x.ok) (few:x.few) (hS:OpS R q x) (hk:x.o.kind=6∨x.o.kind=7∨x.o.kind=8∨x.o.kind=9∨x.o.kind=10∨x.o.kind=11):PureR Tryz.prog R 19 [opV q x] (.tuple #[.string (bs (lineF x)),.bool true]):=by
 have f1:=few.vals
 have f2:=few.byts
 have l1:=listW_len ok.vals
 have l2:=hexW_len x.byts
 obtain ⟨⟨kind,x0,y0,x1,y1,ax,ay,bx,b_y,n,m⟩,vals,byts,bands⟩:=x
 have ko:=ok.o
 have kv:=ok.vals
 have s1:=hS.vals
 have s2:=hS.byts
 unfold opV opCs opC
 simp only at *
 have a1:(w1 n).length≤22:=w1_len ko.n
 have a2:(w1 m).length≤22:=w1_len ko.m
 have a3:(w1 bx).length≤22:=w1_len ko.bx
 have a4:(wds 32 [Lib.itoa ax,Lib.itoa ay]).length≤44:=wds_l2 ko.ax ko.ay
 have a5:(wds 32 [Lib.itoa bx,Lib.itoa b_y]).length≤44:=wds_l2 ko.bx ko.b_y
 have a6:(wds 32 [Lib.itoa x0,Lib.itoa y0,Lib.itoa x1,Lib.itoa y1]).length≤88:=wds_l4 ko.x0 ko.y0 ko.x1 ko.y1
 have a7:=wds_l1 (m:=70000) (z:=listW vals) (by omega)
 have a8:=wds_l1 (m:=70000) (z:=hexW byts) (by omega)
 rcases hk with rfl|rfl|rfl|rfl|rfl|rfl
 ·have hv:=(verb_chars _ (verb_mem (k:=6) (by decide) (by decide))).2
  have hl:lineF (⟨⟨6,x0,y0,x1,y1,ax,ay,bx,b_y,n,m⟩,vals,byts,bands⟩:OpF)=verbT 6++wds 32 [Lib.itoa ax,Lib.itoa ay]:=by
   simp [lineF,opW,rectW,jn_cons,wds,w1]
  rw [hl]
  clear hl
  have hve:=λR'=>sVerb (R:=R') (k:=6) (by decide) (by decide)
  generalize verbT 6=z at *
  refine fn_of_run0 false Tryz.func19 rfl hmix rfl λw0=>?_
  conv=>whnf
  refine ⟨trivial,CallAt.pure (λR' hR'=>hve R') ?_⟩
  conv=>whnf
  repeat (first|(refine ⟨λ_=>?_,λh=>absurd h (by decide)⟩;conv=>whnf)|(refine ⟨λh=>absurd h (by decide),λ_=>?_⟩;conv=>whnf))
  refine ⟨(by (repeat' apply And.intro)<;>first|exact True.intro|(simp only [bs_append,bs_size,List.length_append];omega)|omega),CallAt.pure (λR' hR'=>(sRfCell ax ay ko.ax ko.ay)) ?_⟩
  conv=>whnf
  refine ⟨(by (repeat' apply And.intro)<;>first|exact True.intro|(simp only [bs_append,bs_size,List.length_append];omega)|omega),fin_pure rfl ?_⟩
  simp only [bs_append]
  try rfl
 ·have hv:=(verb_chars _ (verb_mem (k:=7) (by decide) (by decide))).2
  have hl:lineF (⟨⟨7,x0,y0,x1,y1,ax,ay,bx,b_y,n,m⟩,vals,byts,bands⟩:OpF)=verbT 7++wds 32 [Lib.itoa x0,Lib.itoa y0,Lib.itoa x1,Lib.itoa y1]:=by
   simp [lineF,opW,rectW,jn_cons,wds,w1]
  rw [hl]
  clear hl
  have hve:=λR'=>sVerb (R:=R') (k:=7) (by decide) (by decide)
  generalize verbT 7=z at *
  refine fn_of_run0 false Tryz.func19 rfl hmix rfl λw0=>?_
  conv=>whnf
  refine ⟨trivial,CallAt.pure (λR' hR'=>hve R') ?_⟩
  conv=>whnf
  repeat (first|(refine ⟨λ_=>?_,λh=>absurd h (by decide)⟩;conv=>whnf)|(refine ⟨λh=>absurd h (by decide),λ_=>?_⟩;conv=>whnf))
  refine ⟨(by (repeat' apply And.intro)<;>first|exact True.intro|(simp only [bs_append,bs_size,List.length_append];omega)|omega),CallAt.pure (λR' hR'=>(sRfRect x0 y0 x1 y1 ko.x0 ko.y0 ko.x1 ko.y1)) ?_⟩
  conv=>whnf
  refine ⟨(by (repeat' apply And.intro)<;>first|exact True.intro|(simp only [bs_append,bs_size,List.length_append];omega)|omega),fin_pure rfl ?_⟩
  simp only [bs_append]
  try rfl
 ·have hv:=(verb_chars _ (verb_mem (k:=8) (by decide) (by decide))).2
  have hl:lineF (⟨⟨8,x0,y0,x1,y1,ax,ay,bx,b_y,n,m⟩,vals,byts,bands⟩:OpF)=verbT 8++wds 32 [Lib.itoa x0,Lib.itoa y0,Lib.itoa x1,Lib.itoa y1]:=by
   simp [lineF,opW,rectW,jn_cons,wds,w1]
  rw [hl]
  clear hl
  have hve:=λR'=>sVerb (R:=R') (k:=8) (by decide) (by decide)
  generalize verbT 8=z at *
  refine fn_of_run0 false Tryz.func19 rfl hmix rfl λw0=>?_
  conv=>whnf
  refine ⟨trivial,CallAt.pure (λR' hR'=>hve R') ?_⟩
  conv=>whnf
  repeat (first|(refine ⟨λ_=>?_,λh=>absurd h (by decide)⟩;conv=>whnf)|(refine ⟨λh=>absurd h (by decide),λ_=>?_⟩;conv=>whnf))
  refine ⟨(by (repeat' apply And.intro)<;>first|exact True.intro|(simp only [bs_append,bs_size,List.length_append];omega)|omega),CallAt.pure (λR' hR'=>(sRfRect x0 y0 x1 y1 ko.x0 ko.y0 ko.x1 ko.y1)) ?_⟩
  conv=>whnf
  refine ⟨(by (repeat' apply And.intro)<;>first|exact True.intro|(simp only [bs_append,bs_size,List.length_append];omega)|omega),fin_pure rfl ?_⟩
  simp only [bs_append]
  try rfl
 ·have hv:=(verb_chars _ (verb_mem (k:=9) (by decide) (by decide))).2
  have hl:lineF (⟨⟨9,x0,y0,x1,y1,ax,ay,bx,b_y,n,m⟩,vals,byts,bands⟩:OpF)=verbT 9++wds 32 [Lib.itoa x0,Lib.itoa y0,Lib.itoa x1,Lib.itoa y1]:=by
   simp [lineF,opW,rectW,jn_cons,wds,w1]
  rw [hl]
  clear hl
  have hve:=λR'=>sVerb (R:=R') (k:=9) (by decide) (by decide)
  generalize verbT 9=z at *
  refine fn_of_run0 false Tryz.func19 rfl hmix rfl λw0=>?_
  conv=>whnf
  refine ⟨trivial,CallAt.pure (λR' hR'=>hve R') ?_⟩
  conv=>whnf
  repeat (first|(refine ⟨λ_=>?_,λh=>absurd h (by decide)⟩;conv=>whnf)|(refine ⟨λh=>absurd h (by decide),λ_=>?_⟩;conv=>whnf))
  refine ⟨(by (repeat' apply And.intro)<;>first|exact True.intro|(simp only [bs_append,bs_size,List.length_append];omega)|omega),CallAt.pure (λR' hR'=>(sRfRect x0 y0 x1 y1 ko.x0 ko.y0 ko.x1 ko.y1)) ?_⟩
  conv=>whnf
  refine ⟨(by (repeat' apply And.intro)<;>first|exact True.intro|(simp only [bs_append,bs_size,List.length_append];omega)|omega),fin_pure rfl ?_⟩
  simp only [bs_append]
  try rfl
 ·have hv:=(verb_chars _ (verb_mem (k:=10) (by decide) (by decide))).2
  have hl:lineF (⟨⟨10,x0,y0,x1,y1,ax,ay,bx,b_y,n,m⟩,vals,byts,bands⟩:OpF)=verbT 10++wds 32 [Lib.itoa x0,Lib.itoa y0,Lib.itoa x1,Lib.itoa y1]++w1 n:=by
   simp [lineF,opW,rectW,jn_cons,wds,w1]
  rw [hl]
  clear hl
  have hve:=λR'=>sVerb (R:=R') (k:=10) (by decide) (by decide)
  generalize verbT 10=z at *
  refine fn_of_run0 false Tryz.func19 rfl hmix rfl λw0=>?_
  conv=>whnf
  refine ⟨trivial,CallAt.pure (λR' hR'=>hve R') ?_⟩
  conv=>whnf
  repeat (first|(refine ⟨λ_=>?_,λh=>absurd h (by decide)⟩;conv=>whnf)|(refine ⟨λh=>absurd h (by decide),λ_=>?_⟩;conv=>whnf))
  refine ⟨trivial,RegAt.quiet hmix (by kernel_rfl) ?_⟩
  conv=>whnf
  refine ⟨(by (repeat' apply And.intro)<;>first|exact True.intro|(simp only [bs_append,bs_size,List.length_append];omega)|omega),CallQ.pure (λR' hR'=>(sRfRect x0 y0 x1 y1 ko.x0 ko.y0 ko.x1 ko.y1)) ?_⟩
  conv=>whnf
  refine ⟨(by (repeat' apply And.intro)<;>first|exact True.intro|(simp only [bs_append,bs_size,List.length_append];omega)|omega),CallQ.pure (λR' hR'=>(sRfNumber n ko.n)) ?_⟩
  conv=>whnf
  refine ⟨(by (repeat' apply And.intro)<;>first|exact True.intro|(simp only [bs_append,bs_size,List.length_append];omega)|omega),?_⟩
  conv=>whnf
  refine ⟨(by (repeat' apply And.intro)<;>first|exact True.intro|(simp only [bs_append,bs_size,List.length_append];omega)|omega),fin_pure rfl ?_⟩
  simp only [bs_append]
  try rfl
 ·have hv:=(verb_chars _ (verb_mem (k:=11) (by decide) (by decide))).2
  have hl:lineF (⟨⟨11,x0,y0,x1,y1,ax,ay,bx,b_y,n,m⟩,vals,byts,bands⟩:OpF)=verbT 11++wds 32 [Lib.itoa x0,Lib.itoa y0,Lib.itoa x1,Lib.itoa y1]++w1 n:=by
   simp [lineF,opW,rectW,jn_cons,wds,w1]
  rw [hl]
  clear hl
  have hve:=λR'=>sVerb (R:=R') (k:=11) (by decide) (by decide)
  generalize verbT 11=z at *
  refine fn_of_run0 false Tryz.func19 rfl hmix rfl λw0=>?_
  conv=>whnf
  refine ⟨trivial,CallAt.pure (λR' hR'=>hve R') ?_⟩
  conv=>whnf
  repeat (first|(refine ⟨λ_=>?_,λh=>absurd h (by decide)⟩;conv=>whnf)|(refine ⟨λh=>absurd h (by decide),λ_=>?_⟩;conv=>whnf))
  refine ⟨trivial,RegAt.quiet hmix (by kernel_rfl) ?_⟩
  conv=>whnf
  refine ⟨(by (repeat' apply And.intro)<;>first|exact True.intro|(simp only [bs_append,bs_size,List.length_append];omega)|omega),CallQ.pure (λR' hR'=>(sRfRect x0 y0 x1 y1 ko.x0 ko.y0 ko.x1 ko.y1)) ?_⟩
  conv=>whnf
  refine ⟨(by (repeat' apply And.intro)<;>first|exact True.intro|(simp only [bs_append,bs_size,List.length_append];omega)|omega),CallQ.pure (λR' hR'=>(sRfNumber n ko.n)) ?_⟩
  conv=>whnf
  refine ⟨(by (repeat' apply And.intro)<;>first|exact True.intro|(simp only [bs_append,bs_size,List.length_append];omega)|omega),?_⟩
  conv=>whnf
  refine ⟨(by (repeat' apply And.intro)<;>first|exact True.intro|(simp only [bs_append,bs_size,List.length_append];omega)|omega),fin_pure rfl ?_⟩
  simp only [bs_append]
  try rfl
theorem sRfPrint2 {R:HP} {q:OpA} {x:OpF} (ok:x.ok) (few:x.few) (hS:OpS R q x) (hk:x.o.kind=12∨x.o.kind=13∨x.o.kind=14∨x.o.kind=15∨x.o.kind=16∨x.o.kind=17∨x.o.kind=18∨x.o.kind=19):PureR Tryz.prog R 19 [opV q x] (.tuple #[.string (bs (lineF x)),.bool true]):=by
 have f1:=few.vals
 have f2:=few.byts
 have l1:=listW_len ok.vals
 have l2:=hexW_len x.byts
 obtain ⟨⟨kind,x0,y0,x1,y1,ax,ay,bx,b_y,n,m⟩,vals,byts,bands⟩:=x
 have ko:=ok.o
 have kv:=ok.vals
 have s1:=hS.vals
 have s2:=hS.byts
 unfold opV opCs opC
 simp only at *
 have a1:(w1 n).length≤22:=w1_len ko.n
 have a2:(w1 m).length≤22:=w1_len ko.m
 have a3:(w1 bx).length≤22:=w1_len ko.bx
 have a4:(wds 32 [Lib.itoa ax,Lib.itoa ay]).length≤44:=wds_l2 ko.ax ko.ay
 have a5:(wds 32 [Lib.itoa bx,Lib.itoa b_y]).length≤44:=wds_l2 ko.bx ko.b_y
 have a6:(wds 32 [Lib.itoa x0,Lib.itoa y0,Lib.itoa x1,Lib.itoa y1]).length≤88:=wds_l4 ko.x0 ko.y0 ko.x1 ko.y1
 have a7:=wds_l1 (m:=70000) (z:=listW vals) (by omega)
 have a8:=wds_l1 (m:=70000) (z:=hexW byts) (by omega)
 rcases hk with rfl|rfl|rfl|rfl|rfl|rfl|rfl|rfl
 ·have hv:=(verb_chars _ (verb_mem (k:=12) (by decide) (by decide))).2
  have hl:lineF (⟨⟨12,x0,y0,x1,y1,ax,ay,bx,b_y,n,m⟩,vals,byts,bands⟩:OpF)=verbT 12++wds 32 [Lib.itoa ax,Lib.itoa ay]++w1 n++wds 32 [Lib.itoa bx,Lib.itoa b_y]++w1 m:=by
   simp [lineF,opW,rectW,jn_cons,wds,w1]
  rw [hl]
  clear hl
  have hve:=λR'=>sVerb (R:=R') (k:=12) (by decide) (by decide)
  generalize verbT 12=z at *
  refine fn_of_run0 false Tryz.func19 rfl hmix rfl λw0=>?_
  conv=>whnf
  refine ⟨trivial,CallAt.pure (λR' hR'=>hve R') ?_⟩
  conv=>whnf
  repeat (first|(refine ⟨λ_=>?_,λh=>absurd h (by decide)⟩;conv=>whnf)|(refine ⟨λh=>absurd h (by decide),λ_=>?_⟩;conv=>whnf))
  refine ⟨trivial,RegAt.quiet hmix (by kernel_rfl) ?_⟩
  conv=>whnf
  refine ⟨(by (repeat' apply And.intro)<;>first|exact True.intro|(simp only [bs_append,bs_size,List.length_append];omega)|omega),CallQ.pure (λR' hR'=>(sRfCell ax ay ko.ax ko.ay)) ?_⟩
  conv=>whnf
  refine ⟨(by (repeat' apply And.intro)<;>first|exact True.intro|(simp only [bs_append,bs_size,List.length_append];omega)|omega),CallQ.pure (λR' hR'=>(sRfNumber n ko.n)) ?_⟩
  conv=>whnf
  refine ⟨(by (repeat' apply And.intro)<;>first|exact True.intro|(simp only [bs_append,bs_size,List.length_append];omega)|omega),CallQ.pure (λR' hR'=>(sRfCell bx b_y ko.bx ko.b_y)) ?_⟩
  conv=>whnf
  refine ⟨(by (repeat' apply And.intro)<;>first|exact True.intro|(simp only [bs_append,bs_size,List.length_append];omega)|omega),CallQ.pure (λR' hR'=>(sRfNumber m ko.m)) ?_⟩
  conv=>whnf
  refine ⟨(by (repeat' apply And.intro)<;>first|exact True.intro|(simp only [bs_append,bs_size,List.length_append];omega)|omega),?_⟩
  conv=>whnf
  refine ⟨(by (repeat' apply And.intro)<;>first|exact True.intro|(simp only [bs_append,bs_size,List.length_append];omega)|omega),fin_pure rfl ?_⟩
  simp only [bs_append]
  try rfl
 ·have hv:=(verb_chars _ (verb_mem (k:=13) (by decide) (by decide))).2
  have hl:lineF (⟨⟨13,x0,y0,x1,y1,ax,ay,bx,b_y,n,m⟩,vals,byts,bands⟩:OpF)=verbT 13++wds 32 [Lib.itoa ax,Lib.itoa ay]++w1 n++w1 m++w1 bx:=by
   simp [lineF,opW,rectW,jn_cons,wds,w1]
  rw [hl]
  clear hl
  have hve:=λR'=>sVerb (R:=R') (k:=13) (by decide) (by decide)
  generalize verbT 13=z at *
  refine fn_of_run0 false Tryz.func19 rfl hmix rfl λw0=>?_
  conv=>whnf
  refine ⟨trivial,CallAt.pure (λR' hR'=>hve R') ?_⟩
  conv=>whnf
  repeat (first|(refine ⟨λ_=>?_,λh=>absurd h (by decide)⟩;conv=>whnf)|(refine ⟨λh=>absurd h (by decide),λ_=>?_⟩;conv=>whnf))
  refine ⟨trivial,RegAt.quiet hmix (by kernel_rfl) ?_⟩
  conv=>whnf
  refine ⟨(by (repeat' apply And.intro)<;>first|exact True.intro|(simp only [bs_append,bs_size,List.length_append];omega)|omega),CallQ.pure (λR' hR'=>(sRfCell ax ay ko.ax ko.ay)) ?_⟩
  conv=>whnf
  refine ⟨(by (repeat' apply And.intro)<;>first|exact True.intro|(simp only [bs_append,bs_size,List.length_append];omega)|omega),CallQ.pure (λR' hR'=>(sRfNumber n ko.n)) ?_⟩
  conv=>whnf
  refine ⟨(by (repeat' apply And.intro)<;>first|exact True.intro|(simp only [bs_append,bs_size,List.length_append];omega)|omega),CallQ.pure (λR' hR'=>(sRfNumber m ko.m)) ?_⟩
  conv=>whnf
  refine ⟨(by (repeat' apply And.intro)<;>first|exact True.intro|(simp only [bs_append,bs_size,List.length_append];omega)|omega),CallQ.pure (λR' hR'=>(sRfNumber bx ko.bx)) ?_⟩
  conv=>whnf
  refine ⟨(by (repeat' apply And.intro)<;>first|exact True.intro|(simp only [bs_append,bs_size,List.length_append];omega)|omega),?_⟩
  conv=>whnf
  refine ⟨(by (repeat' apply And.intro)<;>first|exact True.intro|(simp only [bs_append,bs_size,List.length_append];omega)|omega),fin_pure rfl ?_⟩
  simp only [bs_append]
  try rfl
 ·have hv:=(verb_chars _ (verb_mem (k:=14) (by decide) (by decide))).2
  have hl:lineF (⟨⟨14,x0,y0,x1,y1,ax,ay,bx,b_y,n,m⟩,vals,byts,bands⟩:OpF)=verbT 14++w1 n:=by
   simp [lineF,opW,rectW,jn_cons,wds,w1]
  rw [hl]
  clear hl
  have hve:=λR'=>sVerb (R:=R') (k:=14) (by decide) (by decide)
  generalize verbT 14=z at *
  refine fn_of_run0 false Tryz.func19 rfl hmix rfl λw0=>?_
  conv=>whnf
  refine ⟨trivial,CallAt.pure (λR' hR'=>hve R') ?_⟩
  conv=>whnf
  repeat (first|(refine ⟨λ_=>?_,λh=>absurd h (by decide)⟩;conv=>whnf)|(refine ⟨λh=>absurd h (by decide),λ_=>?_⟩;conv=>whnf))
  refine ⟨(by (repeat' apply And.intro)<;>first|exact True.intro|(simp only [bs_append,bs_size,List.length_append];omega)|omega),CallAt.pure (λR' hR'=>(sRfNumber n ko.n)) ?_⟩
  conv=>whnf
  refine ⟨(by (repeat' apply And.intro)<;>first|exact True.intro|(simp only [bs_append,bs_size,List.length_append];omega)|omega),fin_pure rfl ?_⟩
  simp only [bs_append]
  try rfl
 ·have hv:=(verb_chars _ (verb_mem (k:=15) (by decide) (by decide))).2
  have hl:lineF (⟨⟨15,x0,y0,x1,y1,ax,ay,bx,b_y,n,m⟩,vals,byts,bands⟩:OpF)=verbT 15++wds 32 [Lib.itoa ax,Lib.itoa ay]:=by
   simp [lineF,opW,rectW,jn_cons,wds,w1]
  rw [hl]
  clear hl
  have hve:=λR'=>sVerb (R:=R') (k:=15) (by decide) (by decide)
  generalize verbT 15=z at *
  refine fn_of_run0 false Tryz.func19 rfl hmix rfl λw0=>?_
  conv=>whnf
  refine ⟨trivial,CallAt.pure (λR' hR'=>hve R') ?_⟩
  conv=>whnf
  repeat (first|(refine ⟨λ_=>?_,λh=>absurd h (by decide)⟩;conv=>whnf)|(refine ⟨λh=>absurd h (by decide),λ_=>?_⟩;conv=>whnf))
  refine ⟨(by (repeat' apply And.intro)<;>first|exact True.intro|(simp only [bs_append,bs_size,List.length_append];omega)|omega),CallAt.pure (λR' hR'=>(sRfCell ax ay ko.ax ko.ay)) ?_⟩
  conv=>whnf
  refine ⟨(by (repeat' apply And.intro)<;>first|exact True.intro|(simp only [bs_append,bs_size,List.length_append];omega)|omega),fin_pure rfl ?_⟩
  simp only [bs_append]
  try rfl
 ·have hv:=(verb_chars _ (verb_mem (k:=16) (by decide) (by decide))).2
  have hl:lineF (⟨⟨16,x0,y0,x1,y1,ax,ay,bx,b_y,n,m⟩,vals,byts,bands⟩:OpF)=verbT 16++wds 32 [Lib.itoa ax,Lib.itoa ay]++wds 32 [Lib.itoa bx,Lib.itoa b_y]:=by
   simp [lineF,opW,rectW,jn_cons,wds,w1]
  rw [hl]
  clear hl
  have hve:=λR'=>sVerb (R:=R') (k:=16) (by decide) (by decide)
  generalize verbT 16=z at *
  refine fn_of_run0 false Tryz.func19 rfl hmix rfl λw0=>?_
  conv=>whnf
  refine ⟨trivial,CallAt.pure (λR' hR'=>hve R') ?_⟩
  conv=>whnf
  repeat (first|(refine ⟨λ_=>?_,λh=>absurd h (by decide)⟩;conv=>whnf)|(refine ⟨λh=>absurd h (by decide),λ_=>?_⟩;conv=>whnf))
  refine ⟨trivial,RegAt.quiet hmix (by kernel_rfl) ?_⟩
  conv=>whnf
  refine ⟨(by (repeat' apply And.intro)<;>first|exact True.intro|(simp only [bs_append,bs_size,List.length_append];omega)|omega),CallQ.pure (λR' hR'=>(sRfCell ax ay ko.ax ko.ay)) ?_⟩
  conv=>whnf
  refine ⟨(by (repeat' apply And.intro)<;>first|exact True.intro|(simp only [bs_append,bs_size,List.length_append];omega)|omega),CallQ.pure (λR' hR'=>(sRfCell bx b_y ko.bx ko.b_y)) ?_⟩
  conv=>whnf
  refine ⟨(by (repeat' apply And.intro)<;>first|exact True.intro|(simp only [bs_append,bs_size,List.length_append];omega)|omega),?_⟩
  conv=>whnf
  refine ⟨(by (repeat' apply And.intro)<;>first|exact True.intro|(simp only [bs_append,bs_size,List.length_append];omega)|omega),fin_pure rfl ?_⟩
  simp only [bs_append]
  try rfl
 ·have hv:=(verb_chars _ (verb_mem (k:=17) (by decide) (by decide))).2
  have hl:lineF (⟨⟨17,x0,y0,x1,y1,ax,ay,bx,b_y,n,m⟩,vals,byts,bands⟩:OpF)=verbT 17++w1 n++w1 m:=by
   simp [lineF,opW,rectW,jn_cons,wds,w1]
  rw [hl]
  clear hl
  have hve:=λR'=>sVerb (R:=R') (k:=17) (by decide) (by decide)
  generalize verbT 17=z at *
  refine fn_of_run0 false Tryz.func19 rfl hmix rfl λw0=>?_
  conv=>whnf
  refine ⟨trivial,CallAt.pure (λR' hR'=>hve R') ?_⟩
  conv=>whnf
  repeat (first|(refine ⟨λ_=>?_,λh=>absurd h (by decide)⟩;conv=>whnf)|(refine ⟨λh=>absurd h (by decide),λ_=>?_⟩;conv=>whnf))
  refine ⟨trivial,RegAt.quiet hmix (by kernel_rfl) ?_⟩
  conv=>whnf
  refine ⟨(by (repeat' apply And.intro)<;>first|exact True.intro|(simp only [bs_append,bs_size,List.length_append];omega)|omega),CallQ.pure (λR' hR'=>(sRfNumber n ko.n)) ?_⟩
  conv=>whnf
  refine ⟨(by (repeat' apply And.intro)<;>first|exact True.intro|(simp only [bs_append,bs_size,List.length_append];omega)|omega),CallQ.pure (λR' hR'=>(sRfNumber m ko.m)) ?_⟩
  conv=>whnf
  refine ⟨(by (repeat' apply And.intro)<;>first|exact True.intro|(simp only [bs_append,bs_size,List.length_append];omega)|omega),?_⟩
  conv=>whnf
  refine ⟨(by (repeat' apply And.intro)<;>first|exact True.intro|(simp only [bs_append,bs_size,List.length_append];omega)|omega),fin_pure rfl ?_⟩
  simp only [bs_append]
  try rfl
 ·have hv:=(verb_chars _ (verb_mem (k:=18) (by decide) (by decide))).2
  have hl:lineF (⟨⟨18,x0,y0,x1,y1,ax,ay,bx,b_y,n,m⟩,vals,byts,bands⟩:OpF)=verbT 18:=by
   simp [lineF,opW,rectW,jn_cons,wds,w1]
  rw [hl]
  clear hl
  have hve:=λR'=>sVerb (R:=R') (k:=18) (by decide) (by decide)
  have hz:verbT 18≠[]:=by decide
  generalize verbT 18=z at *
  refine fn_of_run0 false Tryz.func19 rfl hmix rfl λw0=>?_
  conv=>whnf
  refine ⟨trivial,CallAt.pure (λR' hR'=>hve R') ?_⟩
  conv=>whnf
  repeat (first|(refine ⟨λ_=>?_,λh=>absurd h (by decide)⟩;conv=>whnf)|(refine ⟨λh=>absurd h (by decide),λ_=>?_⟩;conv=>whnf))
  refine ⟨(by (repeat' apply And.intro)<;>first|exact True.intro|(simp only [bs_append,bs_size,List.length_append];omega)|omega),fin_pure rfl ?_⟩
  rw [decide_eq_false (show ¬ bs z=(⟨#[]⟩:ByteArray) from λh=>hz (bs_inj.1 (show bs z=bs [] from h)))]
  try rfl
 ·have hv:=(verb_chars _ (verb_mem (k:=19) (by decide) (by decide))).2
  have hl:lineF (⟨⟨19,x0,y0,x1,y1,ax,ay,bx,b_y,n,m⟩,vals,byts,bands⟩:OpF)=verbT 19:=by
   simp [lineF,opW,rectW,jn_cons,wds,w1]
  rw [hl]
  clear hl
  have hve:=λR'=>sVerb (R:=R') (k:=19) (by decide) (by decide)
  have hz:verbT 19≠[]:=by decide
  generalize verbT 19=z at *
  refine fn_of_run0 false Tryz.func19 rfl hmix rfl λw0=>?_
  conv=>whnf
  refine ⟨trivial,CallAt.pure (λR' hR'=>hve R') ?_⟩
  conv=>whnf
  repeat (first|(refine ⟨λ_=>?_,λh=>absurd h (by decide)⟩;conv=>whnf)|(refine ⟨λh=>absurd h (by decide),λ_=>?_⟩;conv=>whnf))
  refine ⟨(by (repeat' apply And.intro)<;>first|exact True.intro|(simp only [bs_append,bs_size,List.length_append];omega)|omega),fin_pure rfl ?_⟩
  rw [decide_eq_false (show ¬ bs z=(⟨#[]⟩:ByteArray) from λh=>hz (bs_inj.1 (show bs z=bs [] from h)))]
  try rfl
theorem sRfPrint3 {R:HP} {q:OpA} {x:OpF} (ok:x.ok) (few:x.few) (hS:OpS R q x) (hk:x.o.kind=20∨x.o.kind=21∨x.o.kind=22∨x.o.kind=23∨x.o.kind=25∨x.o.kind=26):PureR Tryz.prog R 19 [opV q x] (.tuple #[.string (bs (lineF x)),.bool true]):=by
 have f1:=few.vals
 have f2:=few.byts
 have l1:=listW_len ok.vals
 have l2:=hexW_len x.byts
 obtain ⟨⟨kind,x0,y0,x1,y1,ax,ay,bx,b_y,n,m⟩,vals,byts,bands⟩:=x
 have ko:=ok.o
 have kv:=ok.vals
 have s1:=hS.vals
 have s2:=hS.byts
 unfold opV opCs opC
 simp only at *
 have a1:(w1 n).length≤22:=w1_len ko.n
 have a2:(w1 m).length≤22:=w1_len ko.m
 have a3:(w1 bx).length≤22:=w1_len ko.bx
 have a4:(wds 32 [Lib.itoa ax,Lib.itoa ay]).length≤44:=wds_l2 ko.ax ko.ay
 have a5:(wds 32 [Lib.itoa bx,Lib.itoa b_y]).length≤44:=wds_l2 ko.bx ko.b_y
 have a6:(wds 32 [Lib.itoa x0,Lib.itoa y0,Lib.itoa x1,Lib.itoa y1]).length≤88:=wds_l4 ko.x0 ko.y0 ko.x1 ko.y1
 have a7:=wds_l1 (m:=70000) (z:=listW vals) (by omega)
 have a8:=wds_l1 (m:=70000) (z:=hexW byts) (by omega)
 rcases hk with rfl|rfl|rfl|rfl|rfl|rfl
 ·have hv:=(verb_chars _ (verb_mem (k:=20) (by decide) (by decide))).2
  have hl:lineF (⟨⟨20,x0,y0,x1,y1,ax,ay,bx,b_y,n,m⟩,vals,byts,bands⟩:OpF)=verbT 20++wds 32 [Lib.itoa x0,Lib.itoa y0,Lib.itoa x1,Lib.itoa y1]:=by
   simp [lineF,opW,rectW,jn_cons,wds,w1]
  rw [hl]
  clear hl
  have hve:=λR'=>sVerb (R:=R') (k:=20) (by decide) (by decide)
  generalize verbT 20=z at *
  refine fn_of_run0 false Tryz.func19 rfl hmix rfl λw0=>?_
  conv=>whnf
  refine ⟨trivial,CallAt.pure (λR' hR'=>hve R') ?_⟩
  conv=>whnf
  repeat (first|(refine ⟨λ_=>?_,λh=>absurd h (by decide)⟩;conv=>whnf)|(refine ⟨λh=>absurd h (by decide),λ_=>?_⟩;conv=>whnf))
  refine ⟨(by (repeat' apply And.intro)<;>first|exact True.intro|(simp only [bs_append,bs_size,List.length_append];omega)|omega),CallAt.pure (λR' hR'=>(sRfRect x0 y0 x1 y1 ko.x0 ko.y0 ko.x1 ko.y1)) ?_⟩
  conv=>whnf
  refine ⟨(by (repeat' apply And.intro)<;>first|exact True.intro|(simp only [bs_append,bs_size,List.length_append];omega)|omega),fin_pure rfl ?_⟩
  simp only [bs_append]
  try rfl
 ·have hv:=(verb_chars _ (verb_mem (k:=21) (by decide) (by decide))).2
  have hl:lineF (⟨⟨21,x0,y0,x1,y1,ax,ay,bx,b_y,n,m⟩,vals,byts,bands⟩:OpF)=verbT 21++wds 32 [Lib.itoa x0,Lib.itoa y0,Lib.itoa x1,Lib.itoa y1]:=by
   simp [lineF,opW,rectW,jn_cons,wds,w1]
  rw [hl]
  clear hl
  have hve:=λR'=>sVerb (R:=R') (k:=21) (by decide) (by decide)
  generalize verbT 21=z at *
  refine fn_of_run0 false Tryz.func19 rfl hmix rfl λw0=>?_
  conv=>whnf
  refine ⟨trivial,CallAt.pure (λR' hR'=>hve R') ?_⟩
  conv=>whnf
  repeat (first|(refine ⟨λ_=>?_,λh=>absurd h (by decide)⟩;conv=>whnf)|(refine ⟨λh=>absurd h (by decide),λ_=>?_⟩;conv=>whnf))
  refine ⟨(by (repeat' apply And.intro)<;>first|exact True.intro|(simp only [bs_append,bs_size,List.length_append];omega)|omega),CallAt.pure (λR' hR'=>(sRfRect x0 y0 x1 y1 ko.x0 ko.y0 ko.x1 ko.y1)) ?_⟩
  conv=>whnf
  refine ⟨(by (repeat' apply And.intro)<;>first|exact True.intro|(simp only [bs_append,bs_size,List.length_append];omega)|omega),fin_pure rfl ?_⟩
  simp only [bs_append]
  try rfl
 ·have hv:=(verb_chars _ (verb_mem (k:=22) (by decide) (by decide))).2
  have hl:lineF (⟨⟨22,x0,y0,x1,y1,ax,ay,bx,b_y,n,m⟩,vals,byts,bands⟩:OpF)=verbT 22++wds 32 [Lib.itoa x0,Lib.itoa y0,Lib.itoa x1,Lib.itoa y1]:=by
   simp [lineF,opW,rectW,jn_cons,wds,w1]
  rw [hl]
  clear hl
  have hve:=λR'=>sVerb (R:=R') (k:=22) (by decide) (by decide)
  generalize verbT 22=z at *
  refine fn_of_run0 false Tryz.func19 rfl hmix rfl λw0=>?_
  conv=>whnf
  refine ⟨trivial,CallAt.pure (λR' hR'=>hve R') ?_⟩
  conv=>whnf
  repeat (first|(refine ⟨λ_=>?_,λh=>absurd h (by decide)⟩;conv=>whnf)|(refine ⟨λh=>absurd h (by decide),λ_=>?_⟩;conv=>whnf))
  refine ⟨(by (repeat' apply And.intro)<;>first|exact True.intro|(simp only [bs_append,bs_size,List.length_append];omega)|omega),CallAt.pure (λR' hR'=>(sRfRect x0 y0 x1 y1 ko.x0 ko.y0 ko.x1 ko.y1)) ?_⟩
  conv=>whnf
  refine ⟨(by (repeat' apply And.intro)<;>first|exact True.intro|(simp only [bs_append,bs_size,List.length_append];omega)|omega),fin_pure rfl ?_⟩
  simp only [bs_append]
  try rfl
 ·have hv:=(verb_chars _ (verb_mem (k:=23) (by decide) (by decide))).2
  have hl:lineF (⟨⟨23,x0,y0,x1,y1,ax,ay,bx,b_y,n,m⟩,vals,byts,bands⟩:OpF)=verbT 23++w1 n:=by
   simp [lineF,opW,rectW,jn_cons,wds,w1]
  rw [hl]
  clear hl
  have hve:=λR'=>sVerb (R:=R') (k:=23) (by decide) (by decide)
  generalize verbT 23=z at *
  refine fn_of_run0 false Tryz.func19 rfl hmix rfl λw0=>?_
  conv=>whnf
  refine ⟨trivial,CallAt.pure (λR' hR'=>hve R') ?_⟩
  conv=>whnf
  repeat (first|(refine ⟨λ_=>?_,λh=>absurd h (by decide)⟩;conv=>whnf)|(refine ⟨λh=>absurd h (by decide),λ_=>?_⟩;conv=>whnf))
  refine ⟨(by (repeat' apply And.intro)<;>first|exact True.intro|(simp only [bs_append,bs_size,List.length_append];omega)|omega),CallAt.pure (λR' hR'=>(sRfNumber n ko.n)) ?_⟩
  conv=>whnf
  refine ⟨(by (repeat' apply And.intro)<;>first|exact True.intro|(simp only [bs_append,bs_size,List.length_append];omega)|omega),fin_pure rfl ?_⟩
  simp only [bs_append]
  try rfl
 ·have hv:=(verb_chars _ (verb_mem (k:=25) (by decide) (by decide))).2
  have hl:lineF (⟨⟨25,x0,y0,x1,y1,ax,ay,bx,b_y,n,m⟩,vals,byts,bands⟩:OpF)=verbT 25:=by
   simp [lineF,opW,rectW,jn_cons,wds,w1]
  rw [hl]
  clear hl
  have hve:=λR'=>sVerb (R:=R') (k:=25) (by decide) (by decide)
  have hz:verbT 25≠[]:=by decide
  generalize verbT 25=z at *
  refine fn_of_run0 false Tryz.func19 rfl hmix rfl λw0=>?_
  conv=>whnf
  refine ⟨trivial,CallAt.pure (λR' hR'=>hve R') ?_⟩
  conv=>whnf
  repeat (first|(refine ⟨λ_=>?_,λh=>absurd h (by decide)⟩;conv=>whnf)|(refine ⟨λh=>absurd h (by decide),λ_=>?_⟩;conv=>whnf))
  refine ⟨(by (repeat' apply And.intro)<;>first|exact True.intro|(simp only [bs_append,bs_size,List.length_append];omega)|omega),fin_pure rfl ?_⟩
  rw [decide_eq_false (show ¬ bs z=(⟨#[]⟩:ByteArray) from λh=>hz (bs_inj.1 (show bs z=bs [] from h)))]
  try rfl
 ·have hv:=(verb_chars _ (verb_mem (k:=26) (by decide) (by decide))).2
  have hl:lineF (⟨⟨26,x0,y0,x1,y1,ax,ay,bx,b_y,n,m⟩,vals,byts,bands⟩:OpF)=verbT 26:=by
   simp [lineF,opW,rectW,jn_cons,wds,w1]
  rw [hl]
  clear hl
  have hve:=λR'=>sVerb (R:=R') (k:=26) (by decide) (by decide)
  have hz:verbT 26≠[]:=by decide
  generalize verbT 26=z at *
  refine fn_of_run0 false Tryz.func19 rfl hmix rfl λw0=>?_
  conv=>whnf
  refine ⟨trivial,CallAt.pure (λR' hR'=>hve R') ?_⟩
  conv=>whnf
  repeat (first|(refine ⟨λ_=>?_,λh=>absurd h (by decide)⟩;conv=>whnf)|(refine ⟨λh=>absurd h (by decide),λ_=>?_⟩;conv=>whnf))
  refine ⟨(by (repeat' apply And.intro)<;>first|exact True.intro|(simp only [bs_append,bs_size,List.length_append];omega)|omega),fin_pure rfl ?_⟩
  rw [decide_eq_false (show ¬ bs z=(⟨#[]⟩:ByteArray) from λh=>hz (bs_inj.1 (show bs z=bs [] from h)))]
  try rfl
end Go.Proofs.YtcoefgkjlgngkaaGreatDoor
