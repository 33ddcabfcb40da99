/-
  Texts of the proofs, one behind the other: ScPg.
-/
import Derived.Test.YtcoefgkjlgngkaaGreatDoorSPg38
import Derived.Test.YtcoefgkjlgngkaaGreatDoorSPg22
namespace Go.Proofs.YtcoefgkjlgngkaaGreatDoor
open Go.RowKit
open Sy
set_option linter.unusedVariables false
set_option linter.unusedSimpArgs false
set_option maxRecDepth 100000
set_option maxHeartbeats 4000000
theorem clsIdleS {R:HP} {eb:Nat}:∀ w,Sat (sepL [ebH eb (.int .i64 0)] R) w→CallsD Tryz.prog 22 [Value.pointer (some ⟨eb,0,none⟩)].toArray .returning w λe x w'=>(∃ v,e=.returned v)∧x=.returning∧∃ hs,hs=[ebH eb (.int .i64 0)]∧Sat (sepL hs R) w'∧Wd w w':=by
 refine cls_of_run3 false Tryz.func22 rfl hmix rfl rfl rfl rfl rfl rfl rec_idle λw0=>?_
 conv=>whnf
 refine ⟨trivial,CallAt.pure (λR' hR'=>sCaughtNil) ?_⟩
 conv=>whnf
 exact ⟨trivial,⟨_,λw s=>s,trivial,rfl⟩⟩
theorem results_tc {P:Program} {fn:Func} {tmps:Array Value} {i j:Nat} {s:TypeId} {q:Nat} {ds:TypeDesc} {v u:Value} {w:World} (hr:fn.results=#[.tmp i,.cell j s]) (hs:P.underlying s=some ds) (hds:ds.isRow=false)
  (hi:tmps.getD i undef=v) (hj:tmps.getD j undef=.pointer (some ⟨q,0,none⟩)) (hu:w.cell? ⟨q,0,none⟩=some u):(results fn tmps).run P w=.ok (.tuple #[v,u]) w:=by
 have k2:(loadVar s ⟨q,0,none⟩).run P w=.ok u w:=by
  have hagg:(isAgg s).run P w=.ok false w:=by
   unfold isAgg
   rw [Sem.run_bind,run_underlying hs w]
   cases ds<;>simp_all
  simp [loadVar,hagg,load,Sem.run,hu]
 refine results_run (vs:=[v,u]) ?_
 rw [hr]
 show Sem.run P ([ResultVar.tmp i,.cell j s].mapM (rv tmps)) w=_
 have r1:(rv tmps (.tmp i)).run P w=.ok v w:=by simp only [rv,hi,Sem.run_pure]
 have r2:(rv tmps (.cell j s)).run P w=.ok u w:=by simp only [rv,hj,asAddr,Sem.run_bind,Sem.run_pure,Result.andThen_ok,k2]
 rw [List.mapM_cons,List.mapM_cons]
 simp [r1,r2]
theorem row_capP {A:Option Addr} {n c size:Nat} {e:TypeId} {xs:List Value} {w:World} (s:Sat (rowH (.slice A n c) n e size xs) w):n≤c∧c≤maxLen:=by
 obtain ⟨h,_,_,r⟩:=s
 rcases r with ⟨e,h0,_⟩|⟨g,cap,cur,e,_,h1,h2,_⟩
 ·injection e with e1 e2 e3
  subst e2 e3
  exact ⟨Nat.le_refl _,Nat.zero_le _⟩
 ·injection e with _ _ e
  omega
theorem sScPrintYes {R:HP} {q:OpA} {x:OpF} (hW:∀ w,Sat R w→ReadW w) (hV:∀ w,Sat R w→VerbsW w) (ok:x.ok) (few:x.few) (hl:HasLine x) (hS:OpS R q x):FnR Tryz.prog R 8 [opV q x] [] λr hs=>r=.tuple #[.string (bs (lineF x)),.int .i64 0]∧hs=[]:=by
 have htold:=λ(R':HP) lb ob (h:∀ w,Sat R' w→Sat R w)=>toldN (R:=R') (lb:=lb) (ob:=ob) (λw s=>hW w (h w s)) ok few hl (hS.mono h) (verbT x.o.kind)
 have hll:=line_len ok few hl
 have hlw:=(opW_len ok few hl).1
 have h1:=hl.1
 have h2:=hl.2.1
 unfold lineF at hll ⊢
 generalize opW x=ws at *
 obtain ⟨⟨kind,x0,y0,x1,y1,ax,ay,bx,b_y,n,m⟩,vals,byts,bands⟩:=x
 unfold opV opCs opC
 unfold opCs opC at htold
 simp only at *
 have hva:verbsL[kind.toNat]? = some (verbT kind):=by
  have:=verb_at (k:=kind.toNat) (by omega)
  rwa [show ((kind.toNat:Nat):Int)=kind by omega] at this
 generalize verbT kind=z at *
 have hjoin:=λ(R':HP) A c (ha:Sl R' A (z::ws).length 1 (strV (z::ws))) (hc:(z::ws).length≤c)=>sJoinC (R:=R') (A:=A) (c:=c) 32 (z::ws) rfl hc ha (by simp) (by omega) (by simp;omega)
 generalize jn 32 (z::ws)=line at *
 refine fn_of_defer3 false Tryz.func8 rfl hmix rfl (os1:=[_]) rfl rfl rfl rfl λw0=>?_
 conv=>whnf
 refine ⟨λ_=>?_,λg=>absurd (show kind < 1 by simpa using g) (by omega)⟩
 conv=>whnf
 refine ⟨λg=>absurd (of_decide_eq_true g) (by omega),λ_=>?_⟩
 conv=>whnf
 intro eb _
 conv=>whnf
 refine ⟨trivial,DefAt.mk 22 [.pointer (some ⟨eb,0,none⟩)] (λ_=>False) R [(2,.string (bs line)),(3,.pointer (some ⟨eb,0,none⟩))] (λhs=>hs=[ebH eb (.int .i64 0)]) rfl rfl ⟨?_,λ_ h=>h.elim⟩ ?_⟩
 ·rintro hs rfl w a sat wd ax
  refine leaves_one (by kernel_rfl) (λe=>by cases e) ?_
  refine CallsD.mono (clsIdleS (R:=R) w sat) ?_
  rintro e u' w' ⟨hv,rfl,hs,rfl,s',wd'⟩
  refine ⟨hv,rfl,.tuple #[.string (bs line),.int .i64 0],results_tc rfl Tryz.underlying32 rfl (ax (2,_) List.mem_cons_self) (ax (3,_) (List.mem_cons_of_mem _ List.mem_cons_self)) (blk_cell (s'.in_ 0 rfl) rfl),_,[],rfl,⟨rfl,rfl⟩,?_,wd.trans wd'⟩
  exact s'.rest
 conv=>whnf
 refine ⟨⟨trivial,by omega⟩,LoadAt.cell (.string (bs z)) rfl rfl (λw hw=>?_) ?_⟩
 ·have hb:Blk w _ _ _:=hV w (Sat.rest hw)
  show w.cell? ⟨_,0+kind.toNat * 1,none⟩=_
  rw [Nat.mul_one,Nat.zero_add]
  exact (hb.cell _).trans (by simp [hva])
 conv=>whnf
 refine ⟨trivial,OpAt.lit [.string (bs z)] 1 rfl rfl rfl rfl rfl (by decide) rfl rfl rfl (by simp [Value.cells]) rfl (by decide) λg=>?_⟩
 conv=>whnf
 intro lb _
 conv=>whnf
 intro ob _
 conv=>whnf
 refine ⟨trivial,CallAt.fn (pre:=[lnH lb [z],blkH ob 31 _]) [ebH eb (.int .i64 0)] (λh s=>boxH_shut (parts:=lnP lb [z]) (some ⟨g,0,none⟩,1) (sepL_perm (List.Perm.trans (List.Perm.swap _ _ _) ((List.Perm.swap _ _ _).cons _)) s)) (λR' hR'=>FnR.seen (q:=λr hs=>r=.tuple #[]∧∃ A c,(z::ws).length≤c∧∃ cs,hs=[blkH lb 63 #[.slice A (z::ws).length c,.bool false],rowH (.slice A (z::ws).length c) (z::ws).length 9 1 (strV (z::ws)),blkH ob 31 cs]) (htold R' lb ob λw s=>(hR' w s).rest) ?_) ?_⟩
 ·rintro v hs ⟨rfl,cs,rfl⟩ w ⟨h,hs,s⟩
  obtain ⟨⟨A,c⟩,s⟩:=boxH_open s
  have hcap:=row_capP (show Sat (rowH (.slice A (z::ws).length c) (z::ws).length 9 1 (strV (z::ws))) w from Sat.in_ 1 ⟨h,hs,s⟩ rfl)
  exact ⟨_,⟨rfl,A,c,hcap.1,cs,rfl⟩,h,hs,s⟩
 rintro r hs ⟨rfl,A,c,hc,cs,rfl⟩
 generalize hn:(z::ws).length=nn at *
 conv=>whnf
 refine ⟨trivial,LoadAt.cell (.slice A nn c) rfl rfl (λw hw=>blk_cell (hw.in_ 0 rfl) rfl) ?_⟩
 conv=>whnf
 refine ⟨trivial,CallAt.pure (λR' hR'=>hjoin R' A c (Sl.row λw s=>(hR' w s).in_ 1 rfl) hc) ?_⟩
 conv=>whnf
 refine ⟨trivial,OpAt.store (A':=ebH eb (.int .i64 0)) eb 0 (.int .i64 0) [blkH lb 63 #[.slice A nn c,.bool false],rowH (.slice A nn c) nn 9 1 (strV (z::ws)),blkH ob 31 cs] rfl (λh s=>sepL_pull 3 s) rfl rfl rfl rfl rfl (by simp [Value.cells,Value.oneCell']) (λh r=>blk_put (by show 0+1≤1;omega) r) ?_⟩
 conv=>whnf
 refine ⟨trivial,⟨[ebH eb (.int .i64 0)],λw ⟨h,h1,s⟩=>?_,⟨rfl,rfl,trivial⟩,rfl⟩⟩
 obtain ⟨h',e,s2⟩:=sub_front (m:=[ebH eb (.int .i64 0)]) s
 exact ⟨h',h1.mono e,s2⟩
end Go.Proofs.YtcoefgkjlgngkaaGreatDoor
