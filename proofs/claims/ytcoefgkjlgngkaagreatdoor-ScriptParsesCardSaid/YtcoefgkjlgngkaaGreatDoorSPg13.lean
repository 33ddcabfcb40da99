/-
  Texts of the proofs, one behind the other: ScK, ScKa, ScPa, ScKe, ScKb, RuneShelf, ScPe, ScKc.
-/
import Derived.Test.YtcoefgkjlgngkaaGreatDoorSPg09
import Derived.Test.YtcoefgkjlgngkaaGreatDoorSPg06
import Derived.Test.YtcoefgkjlgngkaaGreatDoorSPg10
import Derived.Shelf.Strings.Runes
import Derived.Ground.SlgnProg
import Derived.Test.YtcoefgkjlgngkaaGreatDoorProg
namespace Go.Proofs.YtcoefgkjlgngkaaGreatDoor
open Go.RowKit
open Sy
set_option linter.unusedVariables false
set_option linter.unusedSimpArgs false
set_option maxRecDepth 100000
set_option maxHeartbeats 4000000
abbrev lnT (lb:Nat) (A:Option Addr) (n c:Nat):HP:=blkH lb 63 #[.slice A n c,.bool true]
def tkH (lb b off n c k:Nat):HP:=λh=>∃ A,(A=some ⟨b,off+k,none⟩∨k=n)∧lnT lb A (n - k) (c - k) h
theorem FnR.untk {P:Program} {R:HP} {f:FuncId} {args:List Value} {l:List HP} {post:Value→List HP→Prop} {lb b off n c k:Nat} (h:∀ A,(A=some ⟨b,off+k,none⟩∨k=n)→FnR P R f args (lnT lb A (n - k) (c - k)::l) post):FnR P R f args (tkH lb b off n c k::l) post:=by
 rintro w ⟨g,g1,h1,h2,d,rfl,⟨A,hA,a⟩,s⟩
 exact h A hA w ⟨_,g1,h1,h2,d,rfl,a,s⟩
theorem tk_shut {lb b off n c k:Nat} {A:Option Addr} {R:HP} {L:List HP} {h:Hl} (hA:A=some ⟨b,off+k,none⟩∨k=n) (s:sepL (lnT lb A (n - k) (c - k)::L) R h):sepL (tkH lb b off n c k::L) R h:=by
 obtain ⟨h1,h2,d,rfl,a,s⟩:=s
 exact ⟨h1,h2,d,rfl,⟨A,hA,a⟩,s⟩
def WordsAt (R:HP) (b off:Nat) (ws:List (List UInt8)):Prop:=∀ w,Sat R w→∀ (j:Nat) z,ws[j]? = some z→w.cell? ⟨b,off+j,none⟩=some (.string (bs z))
theorem WordsAt.mono {R R':HP} {b off:Nat} {ws:List (List UInt8)} (h:WordsAt R b off ws) (hr:∀ w,Sat R' w→Sat R w):WordsAt R' b off ws:=λw s=>h w (hr w s)
theorem sWordT {R:HP} {lb b off n c k:Nat} {ws:List (List UInt8)} {z:List UInt8} (s:ByteArray) (hz:ws[k]? = some z) (hn:ws.length=n) (hm:n≤1000000) (hc:n≤c) (ha:WordsAt R b off ws) :
  FnR Tryz.prog R 28 [.pointer (some ⟨lb,0,none⟩),.string s] [tkH lb b off n c k] λr hs=>r=.string (bs z)∧hs=[tkH lb b off n c (k+1)]:=by
 have hk:k < n:=by rw [← hn];exact (List.getElem?_eq_some_iff.1 hz).1
 refine FnR.untk λA hA=>?_
 obtain rfl:A=some ⟨b,off+k,none⟩:=by
  rcases hA with hA|hA
  ·exact hA
  ·omega
 refine fn_of_run0 false Tryz.func28 rfl hmix rfl λw0=>?_
 conv=>whnf
 refine ⟨trivial,LoadAt.cell (.bool true) rfl rfl (λw hw=>blk_cell (hw.in_ 0 rfl) rfl) ?_⟩
 conv=>whnf
 refine iff_f rfl ?_
 conv=>whnf
 refine ⟨trivial,LoadAt.cell (.slice (some ⟨b,off+k,none⟩) (n - k) (c - k)) rfl rfl (λw hw=>blk_cell (hw.in_ 0 rfl) rfl) ?_⟩
 conv=>whnf
 refine iff_f (decide_eq_false (by omega)) ?_
 conv=>whnf
 refine ⟨trivial,LoadAt.cell (.slice (some ⟨b,off+k,none⟩) (n - k) (c - k)) rfl rfl (λw hw=>blk_cell (hw.in_ 0 rfl) rfl) ?_⟩
 conv=>whnf
 refine ⟨⟨trivial,by omega⟩,LoadAt.cell (.string (bs z)) rfl rfl (λw' hw=>?_) ?_⟩
 ·exact ha w' (Sat.rest hw) k _ hz
 conv=>whnf
 refine ⟨trivial,LoadAt.cell (.slice (some ⟨b,off+k,none⟩) (n - k) (c - k)) rfl rfl (λw hw=>blk_cell (hw.in_ 0 rfl) rfl) ?_⟩
 conv=>whnf
 refine ⟨trivial,OpAt.from2 b (off+k) (n - k) (c - k) 1 .i64 rfl rfl rfl rfl rfl rfl (by omega) (by omega) λA' hA'=>?_⟩
 conv=>whnf
 refine ⟨trivial,OpAt.store lb 0 (.slice A' (n - k - 1) (c - k - 1)) _ rfl (λh s=>s) rfl rfl rfl rfl rfl (by simp [Value.cells,Value.oneCell']) (λh r=>blk_put (by show 0+1≤2;omega) r) ?_⟩
 conv=>whnf
 refine ⟨trivial,.mk [tkH lb b off n c (k+1)] (λw ⟨h,hs,s⟩=>⟨h,hs,tk_shut (A:=A') ?_ ?_⟩) ⟨rfl,rfl⟩⟩
 ·rcases hA' with hA'|hA'
  ·exact .inl (by rw [hA'];congr 2)
  ·exact .inr (by omega)
 ·exact s
theorem sNumberR {R:HP} (hN:∀ w,Sat R w→NumW w) (z:List UInt8) (hl:z.length≤1048576) (n:Int) (h:read z=(n,0)):PureR Tryz.prog R 57 [.string (bs z)] (.int .i64 n):=by
 have hr:=λR' (h':∀ w,Sat R' w→Sat R w)=>sRead (R:=R') (λw s=>hN w (h' w s)) z hl
 rw [h] at hr
 refine fn_of_run0 false Tryz.func57 rfl hmix rfl λw0=>?_
 conv=>whnf
 refine ⟨trivial,CallAt.pure (λR' hR'=>hr R' hR') ?_⟩
 conv=>whnf
 refine iff_f rfl ?_
 conv=>whnf
 exact ⟨trivial,fin_pure rfl rfl⟩
def IntAt (cs:Array Value) (k:Nat):Prop:=∃ v,cs[k]? = some (.int .i64 v)∧I64 v
abbrev putK' (cs:Array Value) (k:Nat) (v:Value):Array Value:=(putL cs.toList k [v]).toArray
theorem putK_get {cs:Array Value} {k j:Nat} {v:Value} (hk:k < cs.size):(putK' cs k v)[j]? = if j=k then some v else cs[j]?:=by
 simp only [List.getElem?_toArray]
 rw [putL_get (by simp;omega)]
 by_cases c:j=k
 ·subst c
  rw [if_pos (by simp),if_pos rfl]
  simp
 ·rw [if_neg (by simp;omega),if_neg c]
  simp
theorem putK_size {cs:Array Value} {k:Nat} {v:Value} (hk:k < cs.size):(putK' cs k v).size=cs.size:=by
 simp only [List.size_toArray]
 rw [putL_len (by simp;omega)]
 simp
theorem IntAt.lt {cs:Array Value} {k:Nat} (h:IntAt cs k):k < cs.size:=by
 obtain ⟨v,h,_⟩:=h
 exact (Array.getElem?_eq_some_iff.1 h).1
theorem IntAt.put {cs:Array Value} {k j:Nat} {z:Int} (h:IntAt cs j) (hk:k < cs.size) (hz:I64 z):IntAt (putK' cs k (.int .i64 z)) j:=by
 unfold IntAt
 rw [putK_get hk]
 split
 ·exact ⟨z,rfl,hz⟩
 ·exact h
def putsC (cs:Array Value) (ps:List (Nat × Int)):Array Value:=ps.foldl (λc p=>putK' c p.1 (.int .i64 p.2)) cs
theorem putsC_snoc (cs:Array Value) (ps:List (Nat × Int)) (p:Nat × Int):putsC cs (ps++[p])=putK' (putsC cs ps) p.1 (.int .i64 p.2):=by simp [putsC]
theorem putsC_int:∀ {ps:List (Nat × Int)} {cs:Array Value},(∀ p∈ps,p.1 < cs.size∧I64 p.2)→(putsC cs ps).size=cs.size∧∀ j,IntAt cs j→IntAt (putsC cs ps) j
 |[],cs,_=>⟨rfl,λj h=>h⟩
 |p::ps,cs,h=>by
  obtain ⟨g1,g2⟩:=h p (by simp)
  have hs:=putK_size (cs:=cs) (v:=.int .i64 p.2) g1
  obtain ⟨h1,h2⟩:=putsC_int (ps:=ps) (cs:=putK' cs p.1 (.int .i64 p.2)) λq hq=>by
   rw [hs]
   exact h q (List.mem_cons_of_mem _ hq)
  exact ⟨h1.trans hs,λj hj=>h2 j (hj.put g1 g2)⟩
theorem sNumbersT {R:HP} {lb b off n c k ob:Nat} {tb:TypeId} {cs:Array Value} {A:Option Addr} {m ca:Nat} {ws:List (List UInt8)} (hN:∀ w,Sat R w→NumW w) (ps:List (Nat × Int)) (hm:ps.length=m) (hm2:m≤100) (hn:ws.length=n) (hmn:n≤1000000) (hc:n≤c) (ha:WordsAt R b off ws) (hp:Sl R A m 1 (ptrV ob ps))
  (hz:∀ i (h:i < ps.length),∃ z,ws[k+i]? = some z∧read z=(ps[i].2,0)∧z.length≤1048576) (hcs:∀ p∈ps,IntAt cs p.1∧I64 p.2) :
  FnR Tryz.prog R 40 [.pointer (some ⟨lb,0,none⟩),.slice A m ca] [tkH lb b off n c k,blkH ob tb cs] λr hs=>r=.tuple #[]∧hs=[tkH lb b off n c (k+ps.length),blkH ob tb (putsC cs ps)]:=by
 refine FnR.of_sat λwS hS=>?_
 obtain ⟨_,sa⟩:=hp.spot (by omega) (Sat.rest hS)
 refine fn_of_run0 false Tryz.func40 rfl hmix rfl λw0=>?_
 conv=>whnf
 refine ⟨trivial,LoopAt.heap (α:=Nat) [0,6,7] (λi=>[(8,.v (.int .i64 (i:Int)))]) (λi=>[tkH lb b off n c (k+i),blkH ob tb (putsC cs (ps.take i))]) (λi=>i≤m) (λi=>m - i) 0 (Nat.zero_le _) rfl ⟨⟨rfl,rfl⟩,trivial⟩ ⟨⟨rfl,rfl⟩,⟨rfl,rfl⟩,⟨rfl,rfl⟩,trivial⟩ trivial (λh s=>sub_same s) ?_⟩
 intro i hi
 conv=>whnf
 refine ⟨λh=>?_,λh=>?_⟩
 ·have hi2:i < m:=by simpa using h
  rcases sa with sa|⟨ab,aoff,rfl,sa⟩
  ·omega
  have hil:i < ps.length:=by omega
  obtain ⟨z,hz1,hz2,hz3⟩:=hz i hil
  obtain ⟨hk1,hk2⟩:=hcs _ (List.getElem_mem hil)
  have f1:(ptrV ob ps)[i]? = some (.pointer (some ⟨ob,(ps[i]).1,none⟩)):=by simp [hil]
  have f2:putsC cs (ps.take (i+1))=putK' (putsC cs (ps.take i)) ps[i].1 (.int .i64 ps[i].2):=by rw [List.take_succ_eq_append_getElem hil,putsC_snoc]
  obtain ⟨g1,g2⟩:=putsC_int (cs:=cs) (ps:=ps.take i) λp hp'=>⟨(hcs p (List.mem_of_mem_take hp')).1.lt,(hcs p (List.mem_of_mem_take hp')).2⟩
  obtain ⟨v,hv,hv2⟩:=g2 _ hk1
  have hlt:=hk1.lt
  generalize ps[i]=p at *
  obtain ⟨kk,zz⟩:=p
  simp only at hz2 hk1 hk2 f1 f2 hv hlt
  generalize putsC cs (ps.take i)=cc at *
  conv=>whnf
  refine ⟨⟨trivial,by omega⟩,LoadAt.cell (.pointer (some ⟨ob,kk,none⟩)) rfl rfl (λw hw=>?_) ?_⟩
  ·simp only [Int.toNat_natCast,Nat.mul_one]
   exact sa w (Sat.rest hw) _ _ f1
  conv=>whnf
  refine ⟨trivial,LoadAt.cell (.int .i64 v) rfl rfl (λw hw=>blk_cell (hw.in_ 1 rfl) hv) ?_⟩
  conv=>whnf
  refine ⟨trivial,CallAt.pure (λR' hR'=>sPrint (λw s=>hN w (Sat.rest (hR' w s))) v hv2.1 hv2.2) ?_⟩
  conv=>whnf
  refine ⟨trivial,CallAt.fn (pre:=[tkH lb b off n c (k+i)]) _ (λh s=>s) (λR' hR'=>sWordT (bs (Lib.itoa v)) hz1 hn hmn hc (ha.mono λw s=>Sat.rest (hR' w s))) ?_⟩
  rintro r hs ⟨rfl,rfl⟩
  conv=>whnf
  refine ⟨trivial,CallAt.pure (λR' hR'=>sNumberR (λw s=>hN w (Sat.rest (hR' w s))) z hz3 zz hz2) ?_⟩
  conv=>whnf
  refine ⟨trivial,OpAt.store (A':=blkH ob tb (putK' cc kk (.int .i64 zz))) ob kk (.int .i64 zz) _ rfl (λh s=>sepL_pull 1 s) rfl rfl rfl rfl rfl (by simp [Value.cells,Value.oneCell']) (λh r=>blk_put (show kk+1≤_ by omega) r) ?_⟩
  conv=>whnf
  refine ⟨(by (repeat' apply And.intro)<;>first|exact True.intro|(unfold rng;omega)|omega),Next.heap (i+1) (by omega) (by omega) ⟨⟨rfl,rfl⟩,trivial⟩ ⟨⟨rfl,rfl⟩,⟨rfl,rfl⟩,⟨rfl,rfl⟩,trivial⟩ trivial rfl rfl λh s=>sub_same ?_⟩
  rw [f2]
  exact sepL_pull 1 s
 ·have hi3:i=m:=by simp at h;omega
  subst hi3
  conv=>whnf
  refine ⟨trivial,.mk _ (λw s=>s) ⟨rfl,?_⟩⟩
  rw [List.take_of_length_le (by omega),hm]
def Nums (ws:List (List UInt8)) (k:Nat) (zs:List Int):Prop:=∀ i (h:i < zs.length),∃ z,ws[k+i]? = some z∧read z=(zs[i],0)∧z.length≤1048576
theorem Nums.ps {ws:List (List UInt8)} {k:Nat} {zs:List Int} (h:Nums ws k zs) {ps:List (Nat × Int)} (e:ps.map (·.2)=zs):∀ i (h:i < ps.length),∃ z,ws[k+i]? = some z∧read z=(ps[i].2,0)∧z.length≤1048576:=by
 subst e
 intro i hi
 obtain ⟨z,h1,h2,h3⟩:=h i (by simpa using hi)
 exact ⟨z,h1,by simpa using h2,h3⟩
theorem sCellT {R:HP} {lb b off n c k ob:Nat} {tb:TypeId} {cs:Array Value} {ws:List (List UInt8)} (hN:∀ w,Sat R w→NumW w) (j:Nat) (x y:Int) (hn:ws.length=n) (hmn:n≤1000000) (hc:n≤c) (ha:WordsAt R b off ws) (hz:Nums ws k [x,y]) (bx:I64 x) (by':I64 y) (h0:IntAt cs j) (h1:IntAt cs (j+1)) :
  FnR Tryz.prog R 41 [.pointer (some ⟨lb,0,none⟩),.pointer (some ⟨ob,j,none⟩)] [tkH lb b off n c k,blkH ob tb cs] λr hs=>r=.tuple #[]∧hs=[tkH lb b off n c (k+2),blkH ob tb (putsC cs [(j,x),(j+1,y)])]:=by
 refine fn_of_run0 false Tryz.func41 rfl hmix rfl λw0=>?_
 conv=>whnf
 refine ⟨trivial,RegAt.groups [([.T 0,.T 1,.T 2,.T 3,.T 4,.T 5,.T 6,.H 7],8),([.H 8],9)] hmix (by kernel_rfl) ?_⟩
 conv=>whnf
 refine ⟨trivial,OpAt.lit (ptrV ob [(j,x),(j+1,y)]) 1 rfl rfl rfl rfl rfl (by decide) rfl rfl rfl (by simp [Value.cells]) rfl (by decide) λg=>?_⟩
 conv=>whnf
 refine ⟨trivial,⟨⟨rfl,rfl⟩,λh s=>sub_tail s⟩,?_⟩
 conv=>whnf
 refine ⟨trivial,CallAt.fn (pre:=[tkH lb b off n c k,blkH ob tb cs]) _ (λh s=>sepL_perm (List.Perm.trans (List.Perm.swap _ _ _) ((List.Perm.swap _ _ _).cons _)) s) (λR' hR'=>sNumbersT (λw s=>hN w (Sat.rest (hR' w s))) [(j,x),(j+1,y)] rfl (by decide) hn hmn hc (ha.mono λw s=>Sat.rest (hR' w s)) (Sl.row λw s=>(hR' w s).in_ 0 rfl) (hz.ps rfl) (λp hp=>?_)) ?_⟩
 ·simp only [List.mem_cons,List.not_mem_nil,or_false] at hp
  rcases hp with rfl|rfl
  ·exact ⟨h0,bx⟩
  ·exact ⟨h1,by'⟩
 rintro r hs ⟨rfl,rfl⟩
 conv=>whnf
 refine ⟨trivial,?_⟩
 conv=>whnf
 exact ⟨trivial,.mk [tkH lb b off n c (k+2),blkH ob tb (putsC cs [(j,x),(j+1,y)])] (λw ⟨h,hs,s⟩=>by obtain ⟨h',e,s2⟩:=sub_front (m:=[tkH lb b off n c (k+2),blkH ob tb (putsC cs [(j,x),(j+1,y)])]) s;exact ⟨h',hs.mono e,s2⟩) ⟨rfl,rfl⟩⟩
theorem sRectT {R:HP} {lb b off n c k ob:Nat} {tb:TypeId} {cs:Array Value} {ws:List (List UInt8)} (hN:∀ w,Sat R w→NumW w) (j:Nat) (x y z u:Int) (hn:ws.length=n) (hmn:n≤1000000) (hc:n≤c) (ha:WordsAt R b off ws) (hz:Nums ws k [x,y,z,u]) (bx:I64 x) (by':I64 y) (bz:I64 z) (bu:I64 u) (h0:IntAt cs j) (h1:IntAt cs (j+1)) (h2:IntAt cs (j+2)) (h3:IntAt cs (j+3)) :
  FnR Tryz.prog R 42 [.pointer (some ⟨lb,0,none⟩),.pointer (some ⟨ob,j,none⟩)] [tkH lb b off n c k,blkH ob tb cs] λr hs=>r=.tuple #[]∧hs=[tkH lb b off n c (k+4),blkH ob tb (putsC cs [(j,x),(j+1,y),(j+2,z),(j+3,u)])]:=by
 refine fn_of_run0 false Tryz.func42 rfl hmix rfl λw0=>?_
 conv=>whnf
 refine ⟨trivial,RegAt.groups [([.T 0,.T 1,.T 2,.T 3,.T 4,.T 5,.T 6,.T 7,.T 8,.T 9,.T 10,.T 11,.T 12,.H 13],14),([.H 14],15)] hmix (by kernel_rfl) ?_⟩
 conv=>whnf
 refine ⟨trivial,OpAt.lit (ptrV ob [(j,x),(j+1,y),(j+2,z),(j+3,u)]) 1 rfl rfl rfl rfl rfl (by decide) rfl rfl rfl (by simp [Value.cells]) rfl (by decide) λg=>?_⟩
 conv=>whnf
 refine ⟨trivial,⟨⟨rfl,rfl⟩,λh s=>sub_tail s⟩,?_⟩
 conv=>whnf
 refine ⟨trivial,CallAt.fn (pre:=[tkH lb b off n c k,blkH ob tb cs]) _ (λh s=>sepL_perm (List.Perm.trans (List.Perm.swap _ _ _) ((List.Perm.swap _ _ _).cons _)) s) (λR' hR'=>sNumbersT (λw s=>hN w (Sat.rest (hR' w s))) [(j,x),(j+1,y),(j+2,z),(j+3,u)] rfl (by decide) hn hmn hc (ha.mono λw s=>Sat.rest (hR' w s)) (Sl.row λw s=>(hR' w s).in_ 0 rfl) (hz.ps rfl) (λp hp=>?_)) ?_⟩
 ·simp only [List.mem_cons,List.not_mem_nil,or_false] at hp
  rcases hp with rfl|rfl|rfl|rfl
  ·exact ⟨h0,bx⟩
  ·exact ⟨h1,by'⟩
  ·exact ⟨h2,bz⟩
  ·exact ⟨h3,bu⟩
 rintro r hs ⟨rfl,rfl⟩
 conv=>whnf
 refine ⟨trivial,?_⟩
 conv=>whnf
 exact ⟨trivial,.mk [tkH lb b off n c (k+4),blkH ob tb (putsC cs [(j,x),(j+1,y),(j+2,z),(j+3,u)])] (λw ⟨h,hs,s⟩=>by obtain ⟨h',e,s2⟩:=sub_front (m:=[tkH lb b off n c (k+4),blkH ob tb (putsC cs [(j,x),(j+1,y),(j+2,z),(j+3,u)])]) s;exact ⟨h',hs.mono e,s2⟩) ⟨rfl,rfl⟩⟩
structure OpN where
 kind:Int
 x0:Int
 y0:Int
 x1:Int
 y1:Int
 ax:Int
 ay:Int
 bx:Int
 b_y:Int
 n:Int
 m:Int
structure OpN.ok (o:OpN):Prop where
 x0:I64 o.x0
 y0:I64 o.y0
 x1:I64 o.x1
 y1:I64 o.y1
 ax:I64 o.ax
 ay:I64 o.ay
 bx:I64 o.bx
 b_y:I64 o.b_y
 n:I64 o.n
 m:I64 o.m
def opC (o:OpN) (v1 v2 v3:Value):Array Value:=#[.int .i64 o.kind,.int .i64 o.x0,.int .i64 o.y0,.int .i64 o.x1,.int .i64 o.y1,.int .i64 o.ax,.int .i64 o.ay,.int .i64 o.bx,.int .i64 o.b_y,.int .i64 o.n,.int .i64 o.m,v1,v2,v3]
theorem sPartsN {R:HP} {lb ob:Nat} {o:OpN} {v1 v2 v3:Value} (hN:∀ w,Sat R w→NumW w) (ws:List (List UInt8)) (hw:ws.length≤1000) (ok:o.ok) (hk:o.kind=14∨o.kind=23) :
  FnR Tryz.prog R 23 [.pointer (some ⟨lb,0,none⟩),.pointer (some ⟨ob,0,none⟩)] [lnH lb ws,blkH ob 31 (opC o v1 v2 v3)] λr hs=>r=.tuple #[]∧hs=[lnH lb (ws++[Lib.itoa o.n]),blkH ob 31 (opC o v1 v2 v3)]:=by
 unfold opC
 rcases hk with hk|hk
 all_goals
  rw [hk]
  refine fn_of_run0 false Tryz.func23 rfl hmix rfl λw0=>?_
  conv=>whnf
  refine ⟨trivial,LoadAt.cell _ rfl rfl (λw hw=>blk_cell (hw.in_ 1 rfl) rfl) ?_⟩
  conv=>whnf
  repeat (first|(refine ⟨λ_=>?_,λh=>absurd h (by decide)⟩;conv=>whnf)|(refine ⟨λh=>absurd h (by decide),λ_=>?_⟩;conv=>whnf))
  refine ⟨trivial,OpAt.lit (ptrV ob [(9,o.n)]) 1 rfl rfl rfl rfl rfl (by decide) rfl rfl rfl (by simp [Value.cells]) rfl (by decide) λg=>?_⟩
  conv=>whnf
  refine ⟨trivial,CallAt.fn (pre:=[lnH lb (ws),blkH ob 31 _]) _ (λh s=>sepL_perm (List.Perm.trans (List.Perm.swap _ _ _) ((List.Perm.swap _ _ _).cons _)) s) (λR' hR'=>sNumbers (λw s=>hN w (Sat.rest (hR' w s))) (ws) [(9,o.n)] rfl (by decide) (by first|omega|(simp;omega)) (Sl.row λw s=>(hR' w s).in_ 0 rfl) (λp hp=>by simp at hp;subst hp;exact ⟨rfl,ok.n⟩)) ?_⟩
  rintro r hs ⟨rfl,rfl⟩
  conv=>whnf
  refine ⟨trivial,.mk [lnH lb (ws++[Lib.itoa o.n]),blkH ob 31 _] (λw ⟨h,hs,s⟩=>by obtain ⟨h',e,s2⟩:=sub_front (m:=[lnH lb (ws++[Lib.itoa o.n]),blkH ob 31 _]) s;exact ⟨h',hs.mono e,s2⟩) ⟨rfl,?_⟩⟩
  simp
theorem sPartsA {R:HP} {lb ob:Nat} {o:OpN} {v1 v2 v3:Value} (hN:∀ w,Sat R w→NumW w) (ws:List (List UInt8)) (hw:ws.length≤1000) (ok:o.ok) (hk:o.kind=6∨o.kind=15) :
  FnR Tryz.prog R 23 [.pointer (some ⟨lb,0,none⟩),.pointer (some ⟨ob,0,none⟩)] [lnH lb ws,blkH ob 31 (opC o v1 v2 v3)] λr hs=>r=.tuple #[]∧hs=[lnH lb (ws++[Lib.itoa o.ax,Lib.itoa o.ay]),blkH ob 31 (opC o v1 v2 v3)]:=by
 unfold opC
 rcases hk with hk|hk
 all_goals
  rw [hk]
  refine fn_of_run0 false Tryz.func23 rfl hmix rfl λw0=>?_
  conv=>whnf
  refine ⟨trivial,LoadAt.cell _ rfl rfl (λw hw=>blk_cell (hw.in_ 1 rfl) rfl) ?_⟩
  conv=>whnf
  repeat (first|(refine ⟨λ_=>?_,λh=>absurd h (by decide)⟩;conv=>whnf)|(refine ⟨λh=>absurd h (by decide),λ_=>?_⟩;conv=>whnf))
  refine ⟨trivial,CallAt.fn (pre:=[lnH lb ws,blkH ob 31 _]) _ (λh s=>s) (λR' hR'=>sCell (λw s=>hN w (Sat.rest (hR' w s))) ws 5 o.ax o.ay (by first|omega|(simp;omega)) rfl rfl ok.ax ok.ay) ?_⟩
  rintro r hs ⟨rfl,rfl⟩
  conv=>whnf
  refine ⟨trivial,.mk [lnH lb (ws++[Lib.itoa o.ax,Lib.itoa o.ay]),blkH ob 31 _] (λw ⟨h,hs,s⟩=>by obtain ⟨h',e,s2⟩:=sub_front (m:=[lnH lb (ws++[Lib.itoa o.ax,Lib.itoa o.ay]),blkH ob 31 _]) s;exact ⟨h',hs.mono e,s2⟩) ⟨rfl,?_⟩⟩
  simp
theorem sPartsR {R:HP} {lb ob:Nat} {o:OpN} {v1 v2 v3:Value} (hN:∀ w,Sat R w→NumW w) (ws:List (List UInt8)) (hw:ws.length≤1000) (ok:o.ok) (hk:o.kind=7∨o.kind=8∨o.kind=9∨o.kind=20∨o.kind=21∨o.kind=22) :
  FnR Tryz.prog R 23 [.pointer (some ⟨lb,0,none⟩),.pointer (some ⟨ob,0,none⟩)] [lnH lb ws,blkH ob 31 (opC o v1 v2 v3)] λr hs=>r=.tuple #[]∧hs=[lnH lb (ws++[Lib.itoa o.x0,Lib.itoa o.y0,Lib.itoa o.x1,Lib.itoa o.y1]),blkH ob 31 (opC o v1 v2 v3)]:=by
 unfold opC
 rcases hk with hk|hk|hk|hk|hk|hk
 all_goals
  rw [hk]
  refine fn_of_run0 false Tryz.func23 rfl hmix rfl λw0=>?_
  conv=>whnf
  refine ⟨trivial,LoadAt.cell _ rfl rfl (λw hw=>blk_cell (hw.in_ 1 rfl) rfl) ?_⟩
  conv=>whnf
  repeat (first|(refine ⟨λ_=>?_,λh=>absurd h (by decide)⟩;conv=>whnf)|(refine ⟨λh=>absurd h (by decide),λ_=>?_⟩;conv=>whnf))
  refine ⟨trivial,CallAt.fn (pre:=[lnH lb ws,blkH ob 31 _]) _ (λh s=>s) (λR' hR'=>sRect (λw s=>hN w (Sat.rest (hR' w s))) ws 1 o.x0 o.y0 o.x1 o.y1 (by first|omega|(simp;omega)) rfl rfl rfl rfl ok.x0 ok.y0 ok.x1 ok.y1) ?_⟩
  rintro r hs ⟨rfl,rfl⟩
  conv=>whnf
  refine ⟨trivial,.mk [lnH lb (ws++[Lib.itoa o.x0,Lib.itoa o.y0,Lib.itoa o.x1,Lib.itoa o.y1]),blkH ob 31 _] (λw ⟨h,hs,s⟩=>by obtain ⟨h',e,s2⟩:=sub_front (m:=[lnH lb (ws++[Lib.itoa o.x0,Lib.itoa o.y0,Lib.itoa o.x1,Lib.itoa o.y1]),blkH ob 31 _]) s;exact ⟨h',hs.mono e,s2⟩) ⟨rfl,?_⟩⟩
  simp
theorem sPartsAN {R:HP} {lb ob:Nat} {o:OpN} {v1 v2 v3:Value} (hN:∀ w,Sat R w→NumW w) (ws:List (List UInt8)) (hw:ws.length≤1000) (ok:o.ok) (hk:o.kind=2) :
  FnR Tryz.prog R 23 [.pointer (some ⟨lb,0,none⟩),.pointer (some ⟨ob,0,none⟩)] [lnH lb ws,blkH ob 31 (opC o v1 v2 v3)] λr hs=>r=.tuple #[]∧hs=[lnH lb (ws++([Lib.itoa o.ax,Lib.itoa o.ay]++[Lib.itoa o.n])),blkH ob 31 (opC o v1 v2 v3)]:=by
 unfold opC
 rcases hk with hk
 all_goals
  rw [hk]
  refine fn_of_run0 false Tryz.func23 rfl hmix rfl λw0=>?_
  conv=>whnf
  refine ⟨trivial,LoadAt.cell _ rfl rfl (λw hw=>blk_cell (hw.in_ 1 rfl) rfl) ?_⟩
  conv=>whnf
  repeat (first|(refine ⟨λ_=>?_,λh=>absurd h (by decide)⟩;conv=>whnf)|(refine ⟨λh=>absurd h (by decide),λ_=>?_⟩;conv=>whnf))
  refine ⟨trivial,CallAt.fn (pre:=[lnH lb ws,blkH ob 31 _]) _ (λh s=>s) (λR' hR'=>sCell (λw s=>hN w (Sat.rest (hR' w s))) ws 5 o.ax o.ay (by first|omega|(simp;omega)) rfl rfl ok.ax ok.ay) ?_⟩
  rintro r hs ⟨rfl,rfl⟩
  conv=>whnf
  refine ⟨trivial,OpAt.lit (ptrV ob [(9,o.n)]) 1 rfl rfl rfl rfl rfl (by decide) rfl rfl rfl (by simp [Value.cells]) rfl (by decide) λg=>?_⟩
  conv=>whnf
  refine ⟨trivial,CallAt.fn (pre:=[lnH lb (ws++[Lib.itoa o.ax,Lib.itoa o.ay]),blkH ob 31 _]) _ (λh s=>sepL_perm (List.Perm.trans (List.Perm.swap _ _ _) ((List.Perm.swap _ _ _).cons _)) s) (λR' hR'=>sNumbers (λw s=>hN w (Sat.rest (hR' w s))) (ws++[Lib.itoa o.ax,Lib.itoa o.ay]) [(9,o.n)] rfl (by decide) (by first|omega|(simp;omega)) (Sl.row λw s=>(hR' w s).in_ 0 rfl) (λp hp=>by simp at hp;subst hp;exact ⟨rfl,ok.n⟩)) ?_⟩
  rintro r hs ⟨rfl,rfl⟩
  conv=>whnf
  refine ⟨trivial,.mk [lnH lb (ws++[Lib.itoa o.ax,Lib.itoa o.ay]++[Lib.itoa o.n]),blkH ob 31 _] (λw ⟨h,hs,s⟩=>by obtain ⟨h',e,s2⟩:=sub_front (m:=[lnH lb (ws++[Lib.itoa o.ax,Lib.itoa o.ay]++[Lib.itoa o.n]),blkH ob 31 _]) s;exact ⟨h',hs.mono e,s2⟩) ⟨rfl,?_⟩⟩
  simp
theorem sPartsRN {R:HP} {lb ob:Nat} {o:OpN} {v1 v2 v3:Value} (hN:∀ w,Sat R w→NumW w) (ws:List (List UInt8)) (hw:ws.length≤1000) (ok:o.ok) (hk:o.kind=3∨o.kind=5∨o.kind=10∨o.kind=11) :
  FnR Tryz.prog R 23 [.pointer (some ⟨lb,0,none⟩),.pointer (some ⟨ob,0,none⟩)] [lnH lb ws,blkH ob 31 (opC o v1 v2 v3)] λr hs=>r=.tuple #[]∧hs=[lnH lb (ws++([Lib.itoa o.x0,Lib.itoa o.y0,Lib.itoa o.x1,Lib.itoa o.y1]++[Lib.itoa o.n])),blkH ob 31 (opC o v1 v2 v3)]:=by
 unfold opC
 rcases hk with hk|hk|hk|hk
 all_goals
  rw [hk]
  refine fn_of_run0 false Tryz.func23 rfl hmix rfl λw0=>?_
  conv=>whnf
  refine ⟨trivial,LoadAt.cell _ rfl rfl (λw hw=>blk_cell (hw.in_ 1 rfl) rfl) ?_⟩
  conv=>whnf
  repeat (first|(refine ⟨λ_=>?_,λh=>absurd h (by decide)⟩;conv=>whnf)|(refine ⟨λh=>absurd h (by decide),λ_=>?_⟩;conv=>whnf))
  refine ⟨trivial,CallAt.fn (pre:=[lnH lb ws,blkH ob 31 _]) _ (λh s=>s) (λR' hR'=>sRect (λw s=>hN w (Sat.rest (hR' w s))) ws 1 o.x0 o.y0 o.x1 o.y1 (by first|omega|(simp;omega)) rfl rfl rfl rfl ok.x0 ok.y0 ok.x1 ok.y1) ?_⟩
  rintro r hs ⟨rfl,rfl⟩
  conv=>whnf
  refine ⟨trivial,OpAt.lit (ptrV ob [(9,o.n)]) 1 rfl rfl rfl rfl rfl (by decide) rfl rfl rfl (by simp [Value.cells]) rfl (by decide) λg=>?_⟩
  conv=>whnf
  refine ⟨trivial,CallAt.fn (pre:=[lnH lb (ws++[Lib.itoa o.x0,Lib.itoa o.y0,Lib.itoa o.x1,Lib.itoa o.y1]),blkH ob 31 _]) _ (λh s=>sepL_perm (List.Perm.trans (List.Perm.swap _ _ _) ((List.Perm.swap _ _ _).cons _)) s) (λR' hR'=>sNumbers (λw s=>hN w (Sat.rest (hR' w s))) (ws++[Lib.itoa o.x0,Lib.itoa o.y0,Lib.itoa o.x1,Lib.itoa o.y1]) [(9,o.n)] rfl (by decide) (by first|omega|(simp;omega)) (Sl.row λw s=>(hR' w s).in_ 0 rfl) (λp hp=>by simp at hp;subst hp;exact ⟨rfl,ok.n⟩)) ?_⟩
  rintro r hs ⟨rfl,rfl⟩
  conv=>whnf
  refine ⟨trivial,.mk [lnH lb (ws++[Lib.itoa o.x0,Lib.itoa o.y0,Lib.itoa o.x1,Lib.itoa o.y1]++[Lib.itoa o.n]),blkH ob 31 _] (λw ⟨h,hs,s⟩=>by obtain ⟨h',e,s2⟩:=sub_front (m:=[lnH lb (ws++[Lib.itoa o.x0,Lib.itoa o.y0,Lib.itoa o.x1,Lib.itoa o.y1]++[Lib.itoa o.n]),blkH ob 31 _]) s;exact ⟨h',hs.mono e,s2⟩) ⟨rfl,?_⟩⟩
  simp
theorem sPartsAB {R:HP} {lb ob:Nat} {o:OpN} {v1 v2 v3:Value} (hN:∀ w,Sat R w→NumW w) (ws:List (List UInt8)) (hw:ws.length≤1000) (ok:o.ok) (hk:o.kind=16) :
  FnR Tryz.prog R 23 [.pointer (some ⟨lb,0,none⟩),.pointer (some ⟨ob,0,none⟩)] [lnH lb ws,blkH ob 31 (opC o v1 v2 v3)] λr hs=>r=.tuple #[]∧hs=[lnH lb (ws++([Lib.itoa o.ax,Lib.itoa o.ay]++[Lib.itoa o.bx,Lib.itoa o.b_y])),blkH ob 31 (opC o v1 v2 v3)]:=by
 unfold opC
 rcases hk with hk
 all_goals
  rw [hk]
  refine fn_of_run0 false Tryz.func23 rfl hmix rfl λw0=>?_
  conv=>whnf
  refine ⟨trivial,LoadAt.cell _ rfl rfl (λw hw=>blk_cell (hw.in_ 1 rfl) rfl) ?_⟩
  conv=>whnf
  repeat (first|(refine ⟨λ_=>?_,λh=>absurd h (by decide)⟩;conv=>whnf)|(refine ⟨λh=>absurd h (by decide),λ_=>?_⟩;conv=>whnf))
  refine ⟨trivial,CallAt.fn (pre:=[lnH lb ws,blkH ob 31 _]) _ (λh s=>s) (λR' hR'=>sCell (λw s=>hN w (Sat.rest (hR' w s))) ws 5 o.ax o.ay (by first|omega|(simp;omega)) rfl rfl ok.ax ok.ay) ?_⟩
  rintro r hs ⟨rfl,rfl⟩
  conv=>whnf
  refine ⟨trivial,CallAt.fn (pre:=[lnH lb (ws++[Lib.itoa o.ax,Lib.itoa o.ay]),blkH ob 31 _]) _ (λh s=>s) (λR' hR'=>sCell (λw s=>hN w (Sat.rest (hR' w s))) (ws++[Lib.itoa o.ax,Lib.itoa o.ay]) 7 o.bx o.b_y (by first|omega|(simp;omega)) rfl rfl ok.bx ok.b_y) ?_⟩
  rintro r hs ⟨rfl,rfl⟩
  conv=>whnf
  refine ⟨trivial,.mk [lnH lb (ws++[Lib.itoa o.ax,Lib.itoa o.ay]++[Lib.itoa o.bx,Lib.itoa o.b_y]),blkH ob 31 _] (λw ⟨h,hs,s⟩=>by obtain ⟨h',e,s2⟩:=sub_front (m:=[lnH lb (ws++[Lib.itoa o.ax,Lib.itoa o.ay]++[Lib.itoa o.bx,Lib.itoa o.b_y]),blkH ob 31 _]) s;exact ⟨h',hs.mono e,s2⟩) ⟨rfl,?_⟩⟩
  simp
abbrev nilV:Value:=.slice none 0 0
def opZ (kind:Int):Array Value:=opC ⟨kind,0,0,0,0,0,0,0,0,0,0⟩ nilV nilV nilV
theorem i0:I64 0:=by unfold I64;omega
theorem Nums.sub {ws:List (List UInt8)} {k:Nat} {zs:List Int} (h:Nums ws k zs) (j:Nat) (ys:List Int) (e:(zs.drop j).take ys.length=ys):Nums ws (k+j) ys:=by
 intro i hi
 have hj:i+j < zs.length:=by
  have h1:=congrArg List.length e
  rw [List.length_take,List.length_drop] at h1
  omega
 obtain ⟨z,h1,h2,h3⟩:=h (j+i) (by omega)
 refine ⟨z,by rw [Nat.add_assoc];exact h1,?_,h3⟩
 rw [h2]
 have:ys[i]=zs[j+i]'(by omega):=by
  have h4:((zs.drop j).take ys.length)[i]? = ys[i]?:=by rw [e]
  rw [List.getElem?_take_of_lt hi,List.getElem?_drop,List.getElem?_eq_getElem (by omega),List.getElem?_eq_getElem hi] at h4
  exact (Option.some.inj h4).symm
 rw [this]
theorem sTakeN {R:HP} {lb b0 off m0 c0 k0 ob:Nat} {ws:List (List UInt8)} {o:OpN} (hN:∀ w,Sat R w→NumW w) (ok:o.ok) (hz:Nums ws k0 [o.n]) (hn0:ws.length=m0) (hm0:m0≤1000000) (hc0:m0≤c0) (ha0:WordsAt R b0 off ws) (hk:o.kind=14∨o.kind=23) :
  FnR Tryz.prog R 23 [.pointer (some ⟨lb,0,none⟩),.pointer (some ⟨ob,0,none⟩)] [tkH lb b0 off m0 c0 k0,blkH ob 31 (opZ o.kind)] λr hs=>r=.tuple #[]∧hs=[tkH lb b0 off m0 c0 (k0+1),blkH ob 31 (opC ⟨o.kind,0,0,0,0,0,0,0,0,o.n,0⟩ nilV nilV nilV)]:=by
 unfold opZ opC
 rcases hk with hk|hk
 all_goals
  rw [hk]
  refine fn_of_run0 false Tryz.func23 rfl hmix rfl λw0=>?_
  conv=>whnf
  refine ⟨trivial,LoadAt.cell _ rfl rfl (λw hw=>blk_cell (hw.in_ 1 rfl) rfl) ?_⟩
  conv=>whnf
  repeat (first|(refine ⟨λ_=>?_,λh=>absurd h (by decide)⟩;conv=>whnf)|(refine ⟨λh=>absurd h (by decide),λ_=>?_⟩;conv=>whnf))
  refine ⟨trivial,OpAt.lit (ptrV ob [(9,o.n)]) 1 rfl rfl rfl rfl rfl (by decide) rfl rfl rfl (by simp [Value.cells]) rfl (by decide) λg=>?_⟩
  conv=>whnf
  refine ⟨trivial,CallAt.fn (pre:=[tkH lb b0 off m0 c0 (k0),blkH ob 31 _]) _ (λh s=>sepL_perm (List.Perm.trans (List.Perm.swap _ _ _) ((List.Perm.swap _ _ _).cons _)) s) (λR' hR'=>sNumbersT (λw s=>hN w (Sat.rest (hR' w s))) [(9,o.n)] rfl (by decide) hn0 hm0 hc0 (ha0.mono λw s=>Sat.rest (hR' w s)) (Sl.row λw s=>(hR' w s).in_ 0 rfl) ((hz.sub 0 [o.n] rfl).ps rfl) (λp hp=>by simp only [List.mem_cons,List.not_mem_nil,or_false] at hp;subst hp;exact ⟨⟨0,rfl,i0⟩,ok.n⟩)) ?_⟩
  rintro r hs ⟨rfl,rfl⟩
  conv=>whnf
  exact ⟨trivial,.mk [tkH lb b0 off m0 c0 (k0+1),blkH ob 31 _] (λw ⟨h,hs,s⟩=>by obtain ⟨h',e,s2⟩:=sub_front (m:=[tkH lb b0 off m0 c0 (k0+1),blkH ob 31 _]) s;exact ⟨h',hs.mono e,s2⟩) ⟨rfl,rfl⟩⟩
theorem sTakeA {R:HP} {lb b0 off m0 c0 k0 ob:Nat} {ws:List (List UInt8)} {o:OpN} (hN:∀ w,Sat R w→NumW w) (ok:o.ok) (hz:Nums ws k0 [o.ax,o.ay]) (hn0:ws.length=m0) (hm0:m0≤1000000) (hc0:m0≤c0) (ha0:WordsAt R b0 off ws) (hk:o.kind=6∨o.kind=15) :
  FnR Tryz.prog R 23 [.pointer (some ⟨lb,0,none⟩),.pointer (some ⟨ob,0,none⟩)] [tkH lb b0 off m0 c0 k0,blkH ob 31 (opZ o.kind)] λr hs=>r=.tuple #[]∧hs=[tkH lb b0 off m0 c0 (k0+2),blkH ob 31 (opC ⟨o.kind,0,0,0,0,o.ax,o.ay,0,0,0,0⟩ nilV nilV nilV)]:=by
 unfold opZ opC
 rcases hk with hk|hk
 all_goals
  rw [hk]
  refine fn_of_run0 false Tryz.func23 rfl hmix rfl λw0=>?_
  conv=>whnf
  refine ⟨trivial,LoadAt.cell _ rfl rfl (λw hw=>blk_cell (hw.in_ 1 rfl) rfl) ?_⟩
  conv=>whnf
  repeat (first|(refine ⟨λ_=>?_,λh=>absurd h (by decide)⟩;conv=>whnf)|(refine ⟨λh=>absurd h (by decide),λ_=>?_⟩;conv=>whnf))
  refine ⟨trivial,CallAt.fn (pre:=[tkH lb b0 off m0 c0 (k0),blkH ob 31 _]) _ (λh s=>s) (λR' hR'=>sCellT (λw s=>hN w (Sat.rest (hR' w s))) 5 o.ax o.ay hn0 hm0 hc0 (ha0.mono λw s=>Sat.rest (hR' w s)) (hz.sub 0 [o.ax,o.ay] rfl) ok.ax ok.ay ⟨0,rfl,i0⟩ ⟨0,rfl,i0⟩) ?_⟩
  rintro r hs ⟨rfl,rfl⟩
  conv=>whnf
  exact ⟨trivial,.mk [tkH lb b0 off m0 c0 (k0+2),blkH ob 31 _] (λw ⟨h,hs,s⟩=>by obtain ⟨h',e,s2⟩:=sub_front (m:=[tkH lb b0 off m0 c0 (k0+2),blkH ob 31 _]) s;exact ⟨h',hs.mono e,s2⟩) ⟨rfl,rfl⟩⟩
theorem sTakeR {R:HP} {lb b0 off m0 c0 k0 ob:Nat} {ws:List (List UInt8)} {o:OpN} (hN:∀ w,Sat R w→NumW w) (ok:o.ok) (hz:Nums ws k0 [o.x0,o.y0,o.x1,o.y1]) (hn0:ws.length=m0) (hm0:m0≤1000000) (hc0:m0≤c0) (ha0:WordsAt R b0 off ws) (hk:o.kind=7∨o.kind=8∨o.kind=9∨o.kind=20∨o.kind=21∨o.kind=22) :
  FnR Tryz.prog R 23 [.pointer (some ⟨lb,0,none⟩),.pointer (some ⟨ob,0,none⟩)] [tkH lb b0 off m0 c0 k0,blkH ob 31 (opZ o.kind)] λr hs=>r=.tuple #[]∧hs=[tkH lb b0 off m0 c0 (k0+4),blkH ob 31 (opC ⟨o.kind,o.x0,o.y0,o.x1,o.y1,0,0,0,0,0,0⟩ nilV nilV nilV)]:=by
 unfold opZ opC
 rcases hk with hk|hk|hk|hk|hk|hk
 all_goals
  rw [hk]
  refine fn_of_run0 false Tryz.func23 rfl hmix rfl λw0=>?_
  conv=>whnf
  refine ⟨trivial,LoadAt.cell _ rfl rfl (λw hw=>blk_cell (hw.in_ 1 rfl) rfl) ?_⟩
  conv=>whnf
  repeat (first|(refine ⟨λ_=>?_,λh=>absurd h (by decide)⟩;conv=>whnf)|(refine ⟨λh=>absurd h (by decide),λ_=>?_⟩;conv=>whnf))
  refine ⟨trivial,CallAt.fn (pre:=[tkH lb b0 off m0 c0 (k0),blkH ob 31 _]) _ (λh s=>s) (λR' hR'=>sRectT (λw s=>hN w (Sat.rest (hR' w s))) 1 o.x0 o.y0 o.x1 o.y1 hn0 hm0 hc0 (ha0.mono λw s=>Sat.rest (hR' w s)) (hz.sub 0 [o.x0,o.y0,o.x1,o.y1] rfl) ok.x0 ok.y0 ok.x1 ok.y1 ⟨0,rfl,i0⟩ ⟨0,rfl,i0⟩ ⟨0,rfl,i0⟩ ⟨0,rfl,i0⟩) ?_⟩
  rintro r hs ⟨rfl,rfl⟩
  conv=>whnf
  exact ⟨trivial,.mk [tkH lb b0 off m0 c0 (k0+4),blkH ob 31 _] (λw ⟨h,hs,s⟩=>by obtain ⟨h',e,s2⟩:=sub_front (m:=[tkH lb b0 off m0 c0 (k0+4),blkH ob 31 _]) s;exact ⟨h',hs.mono e,s2⟩) ⟨rfl,rfl⟩⟩
theorem sListT {R:HP} {lb b0 off m0 c0 k0 b:Nat} {tb:TypeId} {cs:Array Value} {n:Nat} {ws:List (List UInt8)} (hN:∀ w,Sat R w→NumW w) (hM:∀ w,Sat R w→MaxW w) (k:Nat) (l:List Int) (hk:cs[k]? = some (.slice none 0 0)) (hl:l.length=n) (hn:n≤40000) (hi:∀ x∈l,I64 x) (hz:ws[k0]? = some (listW l)) (hn0:ws.length=m0) (hm0:m0≤1000000) (hc0:m0≤c0) (ha0:WordsAt R b0 off ws) :
  FnR Tryz.prog R 43 [.pointer (some ⟨lb,0,none⟩),.pointer (some ⟨b,k,none⟩)] [tkH lb b0 off m0 c0 k0,blkH b tb cs] λr hs=>r=.tuple #[]∧∃ D cd,hs=[tkH lb b0 off m0 c0 (k0+1),blkH b tb (putC cs k (.slice D n cd)),rowH (.slice D n cd) n 2 1 (l.flatMap numL)]:=by
 have hks:=(Array.getElem?_eq_some_iff.1 hk).1
 have hjo:=λR' (h:∀ w,Sat R' w→Sat R w)=>sJoin (R:=R') (A:=none) (n:=0) (c:=0) (λw s=>hN w (h w s)) [] rfl (by decide) (λx hx=>by cases hx) (Sl.nil _ _ _)
 have hwl:=listW_len hi
 refine fn_of_run0 false Tryz.func43 rfl hmix rfl λw0=>?_
 conv=>whnf
 refine ⟨trivial,LoadAt.cell (.slice none 0 0) rfl rfl (λw hw=>blk_cell (hw.in_ 1 rfl) hk) ?_⟩
 conv=>whnf
 refine ⟨trivial,CallAt.pure (λR' hR'=>hjo R' λw s=>Sat.rest (hR' w s)) ?_⟩
 conv=>whnf
 refine ⟨trivial,CallAt.fn (pre:=[tkH lb b0 off m0 c0 k0]) _ (λh s=>s) (λR' hR'=>sWordT (bs (listW [])) hz hn0 hm0 hc0 (ha0.mono λw s=>Sat.rest (hR' w s))) ?_⟩
 rintro r hs ⟨rfl,rfl⟩
 conv=>whnf
 refine ⟨trivial,OpAt.store (A':=blkH b tb (putC cs k (.slice none 0 0))) b k (.slice none 0 0) _ rfl (λh s=>sepL_pull 1 s) rfl rfl rfl rfl rfl (by simp [Value.cells,Value.oneCell']) (λh r=>blk_put (by simp [Value.cells];omega) r) ?_⟩
 conv=>whnf
 refine ⟨λh=>?_,λh=>?_⟩
 ·have hnil:l=[]:=by
   have h:=of_decide_eq_true h
   exact (listW_dash hi).1 (bs_inj.1 h)
  have hn00:n=0:=by rw [← hl,hnil];rfl
  subst hnil hn00
  conv=>whnf
  exact ⟨trivial,.mk [tkH lb b0 off m0 c0 (k0+1),blkH b tb (putC cs k (.slice none 0 0)),rowH (.slice none 0 0) 0 2 1 []] (λw ⟨h,hs,s⟩=>⟨h,hs,sepL_perm (List.Perm.swap _ _ _) (sepL_perm ((List.Perm.swap _ _ _).cons _) (sepL_perm (List.Perm.swap _ _ _) (row_nil _ _ s)))⟩) ⟨rfl,none,0,rfl⟩⟩
 have hne:l≠[]:=by
  rintro rfl
  exact absurd h (by decide)
 have hsp:=λR' (h:∀ w,Sat R' w→Sat R w)=>sSplitC (R:=R') (λw s=>hM w (h w s)) 44 (listW l) (by omega)
 rw [listW_split hne] at hsp
 rw [List.length_map,hl] at hsp
 conv=>whnf
 refine ⟨trivial,CallAt.fn (pre:=[]) _ (λh s=>s) (λR' hR'=>hsp R' λw s=>Sat.rest (hR' w s)) ?_⟩
 rintro r hs ⟨B,rfl,rfl⟩
 conv=>whnf
 refine ⟨trivial,LoopAt.heap (α:=Nat × Option Addr × Nat) [1,18,19] (λa=>[(20,.v (.int .i64 (a.1:Int)))]) (λa=>[rowH (.slice a.2.1 a.1 a.2.2) a.1 2 1 ((l.take a.1).flatMap numL),blkH b tb (putC cs k (.slice a.2.1 a.1 a.2.2)),rowH (.slice (some ⟨B,0,none⟩) n n) n 9 1 (strV (l.map Lib.itoa)),tkH lb b0 off m0 c0 (k0+1)]) (λa=>a.1≤n) (λa=>n - a.1) (0,none,0) (Nat.zero_le _) rfl ⟨⟨rfl,rfl⟩,trivial⟩ ⟨⟨rfl,rfl⟩,⟨rfl,rfl⟩,⟨rfl,rfl⟩,trivial⟩ trivial (λh s=>sub_same (row_nil _ _ (sepL_pull 1 s))) ?_⟩
 rintro ⟨i,D,cd⟩ hi'
 simp only at hi'
 conv=>whnf
 refine ⟨λh=>?_,λh=>?_⟩
 ·have hi2:i < n:=by simpa using h
  have hil:i < l.length:=by omega
  have f3:(l.take (i+1)).flatMap numL=(l.take i).flatMap numL++[.int .i64 l[i]]:=by rw [List.take_succ_eq_append_getElem hil,List.flatMap_append];rfl
  have f1:(strV (l.map Lib.itoa))[i]? = some (.string (bs (Lib.itoa l[i]))):=by simp [hil]
  have hb:=hi _ (List.getElem_mem hil)
  have hnu:=λR' (h:∀ w,Sat R' w→Sat R w)=>sNumber (R:=R') (λw s=>hN w (h w s)) l[i] hb
  generalize l[i]=z at *
  conv=>whnf
  refine ⟨⟨trivial,by simp only;omega⟩,LoadAt.cell (.string (bs (Lib.itoa z))) rfl rfl (λw hw=>?_) ?_⟩
  ·have hrd:=rowH_reads rfl (hw.in_ 2 rfl)
   obtain ⟨ad,e1,_,e2⟩:=hrd.2 (by omega)
   injection e1 with e1
   subst e1
   have:=e2 i _ f1
   rw [add_plain] at this
   simpa using this
  conv=>whnf
  generalize (l.take i).flatMap numL=us at *
  refine ⟨trivial,RegAt.trees0 [((Tr.T 0 (Tr.T 1 (Tr.T 2 (Tr.T 4 (Tr.C 3 (Tr.H 5 (Tr.H 6 (Tr.H 7 Tr.E))) 5 (Tr.C 3 (Tr.H 6 (Tr.H 7 Tr.E)) 6 (Tr.H 3 (Tr.H 7 Tr.E)))))))),8),((Tr.T 8 Tr.E),9),((Tr.H 9 Tr.E),10)] hmix (by kernel_rfl) ?_⟩
  conv=>whnf
  refine ⟨?_,?_⟩
  ·refine ⟨trivial,LoadAt.cell (.slice D i cd) rfl rfl (λw hw=>blk_cell (hw.in_ 1 rfl) (putC_get hks)) ?_⟩
   conv=>whnf
   refine ⟨trivial,⟨⟨rfl,rfl⟩,λh s=>sub_nil s⟩,?_⟩
   conv=>whnf
   refine ⟨trivial,CallAt.pure (λR' hR'=>hnu R' λw s=>Sat.rest (hR' w s)) ?_⟩
   conv=>whnf
   refine ⟨trivial,⟨⟨rfl,rfl⟩,λh s=>sub_nil s⟩,?_⟩
   conv=>whnf
   refine ⟨trivial,OpAt.lit [.int .i64 z] 1 rfl rfl rfl rfl rfl (by decide) rfl rfl rfl (by simp [Value.cells]) rfl (by decide) λg=>?_⟩
   conv=>whnf
   refine ⟨trivial,⟨⟨rfl,rfl⟩,λh s=>sub_nil s⟩,?_⟩
   conv=>whnf
   refine ⟨trivial,OpAt.append (.slice D i cd) i 1 8 us [.int .i64 z] (some ⟨g,0,none⟩) 1 1 _ rfl (λh s=>sepL_pull 1 s) rfl rfl rfl rfl rfl rfl rfl rfl rfl (by decide) (λw hw=>rowH_reads rfl (Sat.left hw)) (by simp [Value.oneCell']) (by simp only [maxLen];omega) (by omega) λD' cd'=>?_⟩
   conv=>whnf
   refine ⟨trivial,⟨⟨rfl,rfl⟩,λh s=>sub_nil s⟩,?_⟩
   conv=>whnf
   refine ⟨trivial,OpAt.store (A':=blkH b tb (putC cs k (.slice D' (i+1) cd'))) b k (.slice D' (i+1) cd') _ rfl (λh s=>sepL_pull 2 s) rfl rfl rfl rfl rfl (by simp [Value.cells,Value.oneCell']) (λh r=>?_) ?_⟩
   ·have hb:=blk_put (off:=k) (ys:=[.slice D' (i+1) cd']) (show k+1≤_ by rw [putC_size hks];omega) r
    rw [show (putL (putC cs k (.slice D i cd)).toList k [.slice D' (i+1) cd']).toArray=putC cs k (.slice D' (i+1) cd') from congrArg List.toArray (putL_again (by simpa using hks))] at hb
    exact hb
   conv=>whnf
   refine ⟨trivial,?_⟩
   conv=>whnf
   refine ⟨trivial,?_⟩
   conv=>whnf
   refine ⟨⟨trivial,by unfold rng;simp only;omega⟩,Next.heap (i+1,D',cd') (by simp only;omega) (by simp only;omega) ⟨⟨rfl,rfl⟩,trivial⟩ ⟨⟨rfl,rfl⟩,⟨rfl,rfl⟩,⟨rfl,rfl⟩,trivial⟩ trivial rfl rfl λh s=>?_⟩
   obtain ⟨h',e,s'⟩:=sub_tail (sepL_pull 2 s)
   refine ⟨h',e,?_⟩
   show sepL [rowH (.slice D' (i+1) cd') (i+1) 2 1 ((l.take (i+1)).flatMap numL),blkH b tb (putC cs k (.slice D' (i+1) cd')),rowH (.slice (some ⟨B,0,none⟩) n n) n 9 1 (strV (l.map Lib.itoa)),tkH lb b0 off m0 c0 (k0+1)] R h'
   rw [f3]
   exact sepL_perm (List.Perm.swap _ _ _) s'
  ·refine ⟨trivial,CallAt.pure (λR' hR'=>hnu R' λw s=>Sat.rest (hR' w s)) ?_⟩
   conv=>whnf
   refine ⟨trivial,⟨⟨rfl,rfl⟩,λh s=>sub_nil s⟩,?_⟩
   conv=>whnf
   refine ⟨?_,?_⟩
   ·refine ⟨trivial,LoadAt.cell (.slice D i cd) rfl rfl (λw hw=>blk_cell (hw.in_ 1 rfl) (putC_get hks)) ?_⟩
    conv=>whnf
    refine ⟨trivial,⟨⟨rfl,rfl⟩,λh s=>sub_nil s⟩,?_⟩
    conv=>whnf
    refine ⟨trivial,OpAt.lit [.int .i64 z] 1 rfl rfl rfl rfl rfl (by decide) rfl rfl rfl (by simp [Value.cells]) rfl (by decide) λg=>?_⟩
    conv=>whnf
    refine ⟨trivial,⟨⟨rfl,rfl⟩,λh s=>sub_nil s⟩,?_⟩
    conv=>whnf
    refine ⟨trivial,OpAt.append (.slice D i cd) i 1 8 us [.int .i64 z] (some ⟨g,0,none⟩) 1 1 _ rfl (λh s=>sepL_pull 1 s) rfl rfl rfl rfl rfl rfl rfl rfl rfl (by decide) (λw hw=>rowH_reads rfl (Sat.left hw)) (by simp [Value.oneCell']) (by simp only [maxLen];omega) (by omega) λD' cd'=>?_⟩
    conv=>whnf
    refine ⟨trivial,⟨⟨rfl,rfl⟩,λh s=>sub_nil s⟩,?_⟩
    conv=>whnf
    refine ⟨trivial,OpAt.store (A':=blkH b tb (putC cs k (.slice D' (i+1) cd'))) b k (.slice D' (i+1) cd') _ rfl (λh s=>sepL_pull 2 s) rfl rfl rfl rfl rfl (by simp [Value.cells,Value.oneCell']) (λh r=>?_) ?_⟩
    ·have hb:=blk_put (off:=k) (ys:=[.slice D' (i+1) cd']) (show k+1≤_ by rw [putC_size hks];omega) r
     rw [show (putL (putC cs k (.slice D i cd)).toList k [.slice D' (i+1) cd']).toArray=putC cs k (.slice D' (i+1) cd') from congrArg List.toArray (putL_again (by simpa using hks))] at hb
     exact hb
    conv=>whnf
    refine ⟨trivial,?_⟩
    conv=>whnf
    refine ⟨trivial,?_⟩
    conv=>whnf
    refine ⟨⟨trivial,by unfold rng;simp only;omega⟩,Next.heap (i+1,D',cd') (by simp only;omega) (by simp only;omega) ⟨⟨rfl,rfl⟩,trivial⟩ ⟨⟨rfl,rfl⟩,⟨rfl,rfl⟩,⟨rfl,rfl⟩,trivial⟩ trivial rfl rfl λh s=>?_⟩
    obtain ⟨h',e,s'⟩:=sub_tail (sepL_pull 2 s)
    refine ⟨h',e,?_⟩
    show sepL [rowH (.slice D' (i+1) cd') (i+1) 2 1 ((l.take (i+1)).flatMap numL),blkH b tb (putC cs k (.slice D' (i+1) cd')),rowH (.slice (some ⟨B,0,none⟩) n n) n 9 1 (strV (l.map Lib.itoa)),tkH lb b0 off m0 c0 (k0+1)] R h'
    rw [f3]
    exact sepL_perm (List.Perm.swap _ _ _) s'
   ·refine ⟨trivial,OpAt.lit [.int .i64 z] 1 rfl rfl rfl rfl rfl (by decide) rfl rfl rfl (by simp [Value.cells]) rfl (by decide) λg=>?_⟩
    conv=>whnf
    refine ⟨trivial,⟨⟨rfl,rfl⟩,λh s=>sub_nil s⟩,?_⟩
    conv=>whnf
    refine ⟨trivial,LoadAt.cell (.slice D i cd) rfl rfl (λw hw=>blk_cell (hw.in_ 2 rfl) (putC_get hks)) ?_⟩
    conv=>whnf
    refine ⟨trivial,⟨⟨rfl,rfl⟩,λh s=>sub_nil s⟩,?_⟩
    conv=>whnf
    refine ⟨trivial,OpAt.append (.slice D i cd) i 1 8 us [.int .i64 z] (some ⟨g,0,none⟩) 1 1 _ rfl (λh s=>sepL_pull 1 s) rfl rfl rfl rfl rfl rfl rfl rfl rfl (by decide) (λw hw=>rowH_reads rfl (Sat.left hw)) (by simp [Value.oneCell']) (by simp only [maxLen];omega) (by omega) λD' cd'=>?_⟩
    conv=>whnf
    refine ⟨trivial,⟨⟨rfl,rfl⟩,λh s=>sub_nil s⟩,?_⟩
    conv=>whnf
    refine ⟨trivial,OpAt.store (A':=blkH b tb (putC cs k (.slice D' (i+1) cd'))) b k (.slice D' (i+1) cd') _ rfl (λh s=>sepL_pull 2 s) rfl rfl rfl rfl rfl (by simp [Value.cells,Value.oneCell']) (λh r=>?_) ?_⟩
    ·have hb:=blk_put (off:=k) (ys:=[.slice D' (i+1) cd']) (show k+1≤_ by rw [putC_size hks];omega) r
     rw [show (putL (putC cs k (.slice D i cd)).toList k [.slice D' (i+1) cd']).toArray=putC cs k (.slice D' (i+1) cd') from congrArg List.toArray (putL_again (by simpa using hks))] at hb
     exact hb
    conv=>whnf
    refine ⟨trivial,?_⟩
    conv=>whnf
    refine ⟨trivial,?_⟩
    conv=>whnf
    refine ⟨⟨trivial,by unfold rng;simp only;omega⟩,Next.heap (i+1,D',cd') (by simp only;omega) (by simp only;omega) ⟨⟨rfl,rfl⟩,trivial⟩ ⟨⟨rfl,rfl⟩,⟨rfl,rfl⟩,⟨rfl,rfl⟩,trivial⟩ trivial rfl rfl λh s=>?_⟩
    obtain ⟨h',e,s'⟩:=sub_tail (sepL_pull 2 s)
    refine ⟨h',e,?_⟩
    show sepL [rowH (.slice D' (i+1) cd') (i+1) 2 1 ((l.take (i+1)).flatMap numL),blkH b tb (putC cs k (.slice D' (i+1) cd')),rowH (.slice (some ⟨B,0,none⟩) n n) n 9 1 (strV (l.map Lib.itoa)),tkH lb b0 off m0 c0 (k0+1)] R h'
    rw [f3]
    exact sepL_perm (List.Perm.swap _ _ _) s'
 ·have hi3:i=n:=by simp at h;omega
  subst hi3
  conv=>whnf
  have htl:(l.take i).flatMap numL=l.flatMap numL:=by rw [List.take_of_length_le (by omega)]
  rw [htl]
  refine ⟨trivial,.mk [tkH lb b0 off m0 c0 (k0+1),blkH b tb (putC cs k (.slice D i cd)),rowH (.slice D i cd) i 2 1 (l.flatMap numL)] (λw ⟨h,hs,s⟩=>?_) ⟨rfl,D,cd,rfl⟩⟩
  have s1:sepL [tkH lb b0 off m0 c0 (k0+1),rowH (.slice D i cd) i 2 1 (l.flatMap numL),blkH b tb (putC cs k (.slice D i cd)),rowH (.slice (some ⟨B,0,none⟩) i i) i 9 1 (strV (l.map Lib.itoa))] R h:=sepL_pull 3 s
  obtain ⟨h',e,s'⟩:=sub_front (m:=[tkH lb b0 off m0 c0 (k0+1),blkH b tb (putC cs k (.slice D i cd)),rowH (.slice D i cd) i 2 1 (l.flatMap numL)]) (r:=[rowH (.slice (some ⟨B,0,none⟩) i i) i 9 1 (strV (l.map Lib.itoa))]) (sepL_perm ((List.Perm.swap _ _ _).cons _) s1)
  exact ⟨h',hs.mono e,s'⟩
open Go.Shelf
def lays152_ren:Go.Shelf.Ren:=⟨fun|152=>61|137=>74|119=>75|224=>76|225=>77|217=>95|266=>145|n=>n,fun|9=>9|21=>21|3=>3|4=>4|5=>5|0=>0|46=>134|n=>n,fun|n=>n⟩
theorem lays152:Go.Proofs.Lays.n152 Tryz.prog lays152_ren:={
 mixed:=by kernel_rfl
 f119:=Tryz.func75.trans (congrArg some (by kernel_rfl))
 f137:=Tryz.func74.trans (congrArg some (by kernel_rfl))
 f152:=Tryz.func61.trans (congrArg some (by kernel_rfl))
 f217:=Tryz.func95.trans (congrArg some (by kernel_rfl))
 f224:=Tryz.func76.trans (congrArg some (by kernel_rfl))
 f225:=Tryz.func77.trans (congrArg some (by kernel_rfl))
 f266:=Tryz.func145.trans (congrArg some (by kernel_rfl))
 t0:=Tryz.underlying0
 a0:=Tryz.isAgg0
 z0:=Tryz.sizeOf0
 v0:=Tryz.zeroValue0
 t3:=Tryz.underlying3
 a3:=Tryz.isAgg3
 z3:=Tryz.sizeOf3
 v3:=Tryz.zeroValue3
 t4:=Tryz.underlying4
 a4:=Tryz.isAgg4
 z4:=Tryz.sizeOf4
 v4:=Tryz.zeroValue4
 t5:=Tryz.underlying5
 a5:=Tryz.isAgg5
 z5:=Tryz.sizeOf5
 v5:=Tryz.zeroValue5
 t9:=Tryz.underlying9
 a9:=Tryz.isAgg9
 z9:=Tryz.sizeOf9
 v9:=Tryz.zeroValue9
 t21:=Tryz.underlying21
 a21:=Tryz.isAgg21
 z21:=Tryz.sizeOf21
 v21:=Tryz.zeroValue21
 t46:=Tryz.underlying134
 a46:=Tryz.isAgg134
 z46:=Tryz.sizeOf134
 v46:=Tryz.zeroValue134 }
theorem idx16:∀ q:Fin 16,Lib.indexByte HXs.data.toList (hexd q.val)=(q.val:Int)∧(hexd q.val).toNat < 128:=by decide
theorem sIndexRune {R:HP} (d:Nat) (hd:d < 16):PureR Tryz.prog R 61 [.string HXs,.int .i32 ((hexd d).toNat:Int)] (.int .i64 (d:Int)):=PureR.of_below λw _=>by
 obtain ⟨h1,h2⟩:=idx16 ⟨d,hd⟩
 simp only at h1 h2
 refine (Any.strings_IndexRune_ascii lays152 HXs ((hexd d).toNat:Int) w (by omega) (by omega)).mono λe w' ⟨he,hw⟩=>⟨?_,hw ▸ Below.refl _ _⟩
 rw [he]
 have e:((hexd d).toNat:Int).toNat.toUInt8=hexd d:=by rw [Int.toNat_natCast];exact UInt8.toNat_inj.1 (by simp)
 rw [e,h1]
theorem orHL:∀ q:Fin 256,IntKind.u8.wrap (bits .or .i64 (((q.val / 16:Nat):Int) * 2 ^ Int.toNat 4) ((q.val % 16:Nat):Int))=((q.val:Nat):Int):=by decide +kernel
def halfV (b:List UInt8) (p:Nat):Int:=if p % 2=0 then -1 else (((b[p / 2]?).getD 0).toNat / 16:Nat)
theorem hexT_at {b:List UInt8} {p:Nat} (h:p < 2 * b.length):(hexT b)[p]? = some (if p % 2=0 then hexd (((b[p / 2]?).getD 0).toNat / 16) else hexd (((b[p / 2]?).getD 0).toNat % 16)):=by
 induction b generalizing p with
 |nil=>simp at h
 |cons a b ih =>
  have e:hexT (a::b)=hexd (a.toNat / 16)::hexd (a.toNat % 16)::hexT b:=rfl
  rw [e]
  match p with
  |0=>simp
  |1=>simp
  |p+2 =>
   have h1:(p+2) / 2=p / 2+1:=by omega
   have h2:(p+2) % 2=p % 2:=by omega
   rw [List.getElem?_cons_succ,List.getElem?_cons_succ,ih (by simp at h;omega),h1,h2,List.getElem?_cons_succ]
theorem sBytesS {R:HP} {lb ob:Nat} {tb:TypeId} {cs:Array Value} {A:Option Addr} {n c:Nat} (ws:List (List UInt8)) (k:Nat) (b:List UInt8) (hw:ws.length≤100000) (hk:cs[k]? = some (.slice A n c)) (hl:b.length=n) (hn:n≤40000) (ha:Sl R A n 1 (byV b)) :
  FnR Tryz.prog R 44 [.pointer (some ⟨lb,0,none⟩),.pointer (some ⟨ob,k,none⟩)] [lnH lb ws,blkH ob tb cs] λr hs=>r=.tuple #[]∧∃ v,hs=[lnH lb (ws++[hexW b]),blkH ob tb (putC cs k v)]:=by
 have hks:=(Array.getElem?_eq_some_iff.1 hk).1
 have hh:=λR' (h:∀ w,Sat R' w→Sat R w)=>sHex (R:=R') (c:=c) b hl (by omega) (ha.mono h)
 refine fn_of_run0 false Tryz.func44 rfl hmix rfl λw0=>?_
 conv=>whnf
 refine ⟨trivial,LoadAt.cell (.slice A n c) rfl rfl (λw hw=>blk_cell (hw.in_ 1 rfl) hk) ?_⟩
 conv=>whnf
 refine ⟨trivial,CallAt.pure (λR' hR'=>hh R' λw s=>Sat.rest (hR' w s)) ?_⟩
 conv=>whnf
 refine ⟨trivial,CallAt.fn (pre:=[lnH lb ws]) _ (λh s=>s) (λR' hR'=>sWord (hexW b) (by omega)) ?_⟩
 rintro r hs ⟨rfl,rfl⟩
 conv=>whnf
 refine ⟨trivial,OpAt.store (A':=blkH ob tb (putC cs k (.slice none 0 0))) ob k (.slice none 0 0) _ rfl (λh s=>sepL_pull 1 s) rfl rfl rfl rfl rfl (by simp [Value.cells,Value.oneCell']) (λh r=>blk_put (by simp [Value.cells];omega) r) ?_⟩
 conv=>whnf
 refine ⟨λh=>?_,λh=>?_⟩
 ·conv=>whnf
  exact ⟨trivial,.mk _ (λw ⟨h,hs,s⟩=>⟨h,hs,sepL_pull 1 s⟩) ⟨rfl,_,rfl⟩⟩
 have hne:b≠[]:=by
  rintro rfl
  exact absurd h (by decide)
 have hp:0 < n:=by have:=List.length_pos_iff.2 hne;omega
 have hwx:hexW b=hexT b:=by unfold hexW;rw [if_neg hne]
 rw [hwx]
 have hxl:=hexT_len b
 conv=>whnf
 refine ⟨trivial,OpAt.range (bs (hexT b)) rfl rfl rfl rfl λit=>?_⟩
 conv=>whnf
 refine ⟨trivial,LoopAt.heap (α:=Nat × Option Addr × Nat) [1,20] (λa=>[(5,.v (.int .i64 (halfV b a.1)))]) (λa=>[rowH (.slice a.2.1 (a.1 / 2) a.2.2) (a.1 / 2) 5 1 (byV (b.take (a.1 / 2))),itH it (bs (hexT b)) a.1,blkH ob tb (putC cs k (.slice a.2.1 (a.1 / 2) a.2.2)),lnH lb (ws++[hexT b])]) (λa=>a.1≤2 * n) (λa=>2 * n - a.1) (0,none,0) (Nat.zero_le _) rfl ⟨⟨rfl,rfl⟩,trivial⟩ ⟨⟨rfl,rfl⟩,⟨rfl,rfl⟩,trivial⟩ trivial (λh s=>sub_same (row_nil _ _ s)) ?_⟩
 rintro ⟨p,D,cd⟩ hi
 simp only at hi
 conv=>whnf
 by_cases hlt:p < 2 * n
 ·have hat:=hexT_at (b:=b) (p:=p) (by omega)
  have hsz:p < (bs (hexT b)).size:=by rw [bs_size];omega
  have hq:p / 2 < b.length:=by omega
  have hbq:(b[p / 2]?).getD 0=b[p / 2]:=by simp [hq]
  have hz:=(b[p / 2]).toNat_lt
  rw [hbq] at hat
  have htk:byV (b.take (p / 2+1))=byV (b.take (p / 2))++[.int .u8 (b[p / 2].toNat:Int)]:=by
   rw [List.take_succ_eq_append_getElem hq]
   unfold byV
   rw [List.map_append]
   rfl
  by_cases hpar:p % 2=0
  ·have hv:halfV b p=-1:=by unfold halfV;rw [if_pos hpar]
   have hv2:halfV b (p+1)=((b[p / 2].toNat / 16:Nat):Int):=by unfold halfV;rw [if_neg (by omega),show (p+1) / 2=p / 2 by omega,hbq]
   have e1:(p+1) / 2=p / 2:=by omega
   rw [if_pos hpar] at hat
   have hy:(hexT b)[p]'(by omega)=hexd (b[p / 2].toNat / 16):=by
    rw [List.getElem?_eq_getElem (by omega)] at hat
    exact Option.some.inj hat
   generalize b[p / 2]=z at *
   have h128:=(idx16 ⟨z.toNat / 16,by omega⟩).2
   refine ⟨trivial,OpAt.next it (bs (hexT b)) p _ rfl (λh s=>sepL_pull 1 s) rfl rfl hsz ?_⟩
   rw [decode_ascii (bs (hexT b)) p hsz (by rw [bs_get,hy];exact h128),bs_get,hy]
   conv=>whnf
   refine iff_t rfl ?_
   conv=>whnf
   refine ⟨trivial,CallAt.pure (λR' hR'=>sIndexRune (z.toNat / 16) (by omega)) ?_⟩
   conv=>whnf
   refine iff_f (decide_eq_false (by omega)) ?_
   conv=>whnf
   refine iff_t (by rw [hv];decide) ?_
   conv=>whnf
   refine ⟨trivial,Next.heap (p+1,D,cd) (by simp only;omega) (by simp only;omega) ⟨⟨congrArg (λx=>some (SV.v (Value.int .i64 x))) hv2.symm,rfl⟩,trivial⟩ ⟨⟨rfl,rfl⟩,⟨rfl,rfl⟩,trivial⟩ trivial rfl rfl λh s=>sub_same ?_⟩
   rw [e1]
   exact sepL_perm (List.Perm.swap _ _ _) s
  ·have hv:halfV b p=((b[p / 2].toNat / 16:Nat):Int):=by unfold halfV;rw [if_neg hpar,hbq]
   have hv2:halfV b (p+1)=-1:=by unfold halfV;rw [if_pos (by omega)]
   have e1:(p+1) / 2=p / 2+1:=by omega
   rw [if_neg hpar] at hat
   have hy:(hexT b)[p]'(by omega)=hexd (b[p / 2].toNat % 16):=by
    rw [List.getElem?_eq_getElem (by omega)] at hat
    exact Option.some.inj hat
   generalize b[p / 2]=z at *
   have h128:=(idx16 ⟨z.toNat % 16,by omega⟩).2
   generalize byV (b.take (p / 2))=us at *
   refine ⟨trivial,OpAt.next it (bs (hexT b)) p _ rfl (λh s=>sepL_pull 1 s) rfl rfl hsz ?_⟩
   rw [decode_ascii (bs (hexT b)) p hsz (by rw [bs_get,hy];exact h128),bs_get,hy]
   conv=>whnf
   refine iff_t rfl ?_
   conv=>whnf
   refine ⟨trivial,CallAt.pure (λR' hR'=>sIndexRune (z.toNat % 16) (by omega)) ?_⟩
   conv=>whnf
   refine iff_f (decide_eq_false (by omega)) ?_
   conv=>whnf
   refine iff_f (by rw [hv];exact decide_eq_false (by omega)) ?_
   conv=>whnf
   refine ⟨trivial,LoadAt.cell (.slice D (p / 2) cd) rfl rfl (λw hw=>blk_cell (hw.in_ 2 rfl) (putC_get hks)) ?_⟩
   conv=>whnf
   refine ⟨⟨trivial,by decide,?_⟩,OpAt.lit [.int .u8 (z.toNat:Int)] 1 rfl rfl rfl rfl rfl (by decide) rfl rfl ?_ (by simp [Value.cells]) rfl (by decide) λg=>?_⟩
   ·show rng .i64 (halfV b p * 16)
    rw [hv]
    unfold rng
    omega
   ·show [Value.int .u8 (z.toNat:Int)]=[Value.int .u8 (IntKind.u8.wrap (bits .or .i64 (halfV b p * 2 ^ Int.toNat 4) ((z.toNat % 16:Nat):Int)))]
    rw [hv]
    have h4:=orHL ⟨z.toNat,hz⟩
    simp only at h4
    rw [h4]
   conv=>whnf
   refine ⟨trivial,OpAt.append (.slice D (p / 2) cd) (p / 2) 1 1 us [.int .u8 (z.toNat:Int)] (some ⟨g,0,none⟩) 1 1 _ rfl (λh s=>sepL_pull 2 s) rfl rfl rfl rfl rfl rfl rfl rfl rfl (by decide) (λw hw=>rowH_reads rfl (hw.in_ 0 rfl)) (by simp [Value.oneCell']) (by simp only [maxLen];omega) (by omega) λD' cd'=>?_⟩
   conv=>whnf
   refine ⟨trivial,OpAt.store (A':=blkH ob tb (putC cs k (.slice D' (p / 2+1) cd'))) ob k (.slice D' (p / 2+1) cd') _ rfl (λh s=>sepL_pull 3 s) rfl rfl rfl rfl rfl (by simp [Value.cells,Value.oneCell']) (λh r=>?_) ?_⟩
   ·have hb:=blk_put (off:=k) (ys:=[.slice D' (p / 2+1) cd']) (show k+1≤_ by rw [putC_size hks];omega) r
    rw [show (putL (putC cs k (.slice D (p / 2) cd)).toList k [.slice D' (p / 2+1) cd']).toArray=putC cs k (.slice D' (p / 2+1) cd') from congrArg List.toArray (putL_again (by simpa using hks))] at hb
    exact hb
   conv=>whnf
   refine ⟨trivial,Next.heap (p+1,D',cd') (by simp only;omega) (by simp only;omega) ⟨⟨congrArg (λx=>some (SV.v (Value.int .i64 x))) hv2.symm,rfl⟩,trivial⟩ ⟨⟨rfl,rfl⟩,⟨rfl,rfl⟩,trivial⟩ trivial rfl rfl λh s=>?_⟩
   obtain ⟨h',e,s'⟩:=sub_tail (sepL_pull 2 s)
   refine ⟨h',e,?_⟩
   show sepL [rowH (.slice D' ((p+1) / 2) cd') ((p+1) / 2) 5 1 (byV (b.take ((p+1) / 2))),itH it (bs (hexT b)) (p+1),blkH ob tb (putC cs k (.slice D' ((p+1) / 2) cd')),lnH lb (ws++[hexT b])] R h'
   rw [e1,htk]
   exact sepL_perm (List.Perm.trans (List.Perm.swap _ _ _) ((List.Perm.swap _ _ _).cons _)) s'
 ·have hpe:p=2 * n:=by omega
  have e1:p / 2=n:=by omega
  refine ⟨trivial,OpAt.nextEnd it (bs (hexT b)) p _ rfl (λh s=>sepL_pull 1 s) rfl rfl (by rw [bs_size];omega) ?_⟩
  have hv0:halfV b p=-1:=by unfold halfV;rw [if_pos (by omega)]
  conv=>whnf
  refine iff_f rfl ?_
  conv=>whnf
  refine ⟨λh=>?_,λh=>?_⟩
  rotate_left
  ·exfalso
   rw [hv0] at h
   exact absurd h (by decide)
  conv=>whnf
  refine ⟨trivial,LoadAt.cell (.slice D (p / 2) cd) rfl rfl (λw hw=>blk_cell (hw.in_ 2 rfl) (putC_get hks)) ?_⟩
  conv=>whnf
  refine iff_f (decide_eq_false (by omega)) ?_
  conv=>whnf
  refine ⟨trivial,.mk [lnH lb (ws++[hexT b]),blkH ob tb (putC cs k (.slice D (p / 2) cd))] (λw ⟨h,hs,s⟩=>?_) ⟨rfl,_,rfl⟩⟩
  have s1:sepL [blkH ob tb (putC cs k (.slice D (p / 2) cd)),rowH (.slice D (p / 2) cd) (p / 2) 5 1 (byV (b.take (p / 2))),itH it (bs (hexT b)) p,lnH lb (ws++[hexT b])] R h:=sepL_pull 2 s
  have s2:sepL [lnH lb (ws++[hexT b]),blkH ob tb (putC cs k (.slice D (p / 2) cd)),rowH (.slice D (p / 2) cd) (p / 2) 5 1 (byV (b.take (p / 2))),itH it (bs (hexT b)) p] R h:=sepL_pull 3 s1
  obtain ⟨h',e,s'⟩:=sub_front (m:=[lnH lb (ws++[hexT b]),blkH ob tb (putC cs k (.slice D (p / 2) cd))]) (r:=[rowH (.slice D (p / 2) cd) (p / 2) 5 1 (byV (b.take (p / 2))),itH it (bs (hexT b)) p]) s2
  exact ⟨h',hs.mono e,s'⟩
theorem sBytesT {R:HP} {lb b0 off m0 c0 k0 ob:Nat} {tb:TypeId} {cs:Array Value} {n:Nat} {ws:List (List UInt8)} (k:Nat) (b:List UInt8) (hk:cs[k]? = some (.slice none 0 0)) (hl:b.length=n) (hn:n≤40000) (hz:ws[k0]? = some (hexW b)) (hn0:ws.length=m0) (hm0:m0≤1000000) (hc0:m0≤c0) (ha0:WordsAt R b0 off ws) :
  FnR Tryz.prog R 44 [.pointer (some ⟨lb,0,none⟩),.pointer (some ⟨ob,k,none⟩)] [tkH lb b0 off m0 c0 k0,blkH ob tb cs] λr hs=>r=.tuple #[]∧∃ D cd,hs=[tkH lb b0 off m0 c0 (k0+1),blkH ob tb (putC cs k (.slice D n cd)),rowH (.slice D n cd) n 5 1 (byV b)]:=by
 have hks:=(Array.getElem?_eq_some_iff.1 hk).1
 have hh:=λR' (h:∀ w,Sat R' w→Sat R w)=>sHex (R:=R') (A:=none) (n:=0) (c:=0) [] rfl (by decide) (Sl.nil _ _ _)
 refine fn_of_run0 false Tryz.func44 rfl hmix rfl λw0=>?_
 conv=>whnf
 refine ⟨trivial,LoadAt.cell (.slice none 0 0) rfl rfl (λw hw=>blk_cell (hw.in_ 1 rfl) hk) ?_⟩
 conv=>whnf
 refine ⟨trivial,CallAt.pure (λR' hR'=>hh R' λw s=>Sat.rest (hR' w s)) ?_⟩
 conv=>whnf
 refine ⟨trivial,CallAt.fn (pre:=[tkH lb b0 off m0 c0 k0]) _ (λh s=>s) (λR' hR'=>sWordT (bs (hexW [])) hz hn0 hm0 hc0 (ha0.mono λw s=>Sat.rest (hR' w s))) ?_⟩
 rintro r hs ⟨rfl,rfl⟩
 conv=>whnf
 refine ⟨trivial,OpAt.store (A':=blkH ob tb (putC cs k (.slice none 0 0))) ob k (.slice none 0 0) _ rfl (λh s=>sepL_pull 1 s) rfl rfl rfl rfl rfl (by simp [Value.cells,Value.oneCell']) (λh r=>blk_put (by simp [Value.cells];omega) r) ?_⟩
 conv=>whnf
 refine ⟨λh=>?_,λh=>?_⟩
 ·have hnil:b=[]:=by
   have h:=bs_inj.1 (show bs (hexW b)=bs [45] from of_decide_eq_true h)
   by_cases c:b=[]
   ·exact c
   ·exfalso
    unfold hexW at h
    rw [if_neg c] at h
    have h2:=congrArg List.length h
    rw [hexT_len] at h2
    simp at h2
    omega
  have hn00:n=0:=by rw [← hl,hnil];rfl
  subst hnil hn00
  conv=>whnf
  exact ⟨trivial,.mk [tkH lb b0 off m0 c0 (k0+1),blkH ob tb (putC cs k (.slice none 0 0)),rowH (.slice none 0 0) 0 5 1 []] (λw ⟨h,hs,s⟩=>⟨h,hs,sepL_perm (List.Perm.swap _ _ _) (sepL_perm ((List.Perm.swap _ _ _).cons _) (sepL_perm (List.Perm.swap _ _ _) (row_nil _ _ s)))⟩) ⟨rfl,none,0,rfl⟩⟩
 have hne:b≠[]:=by
  rintro rfl
  exact absurd h (by decide)
 have hp:0 < n:=by have:=List.length_pos_iff.2 hne;omega
 have hwx:hexW b=hexT b:=by unfold hexW;rw [if_neg hne]
 rw [hwx] at hz ⊢
 have hxl:=hexT_len b
 conv=>whnf
 refine ⟨trivial,OpAt.range (bs (hexT b)) rfl rfl rfl rfl λit=>?_⟩
 conv=>whnf
 refine ⟨trivial,LoopAt.heap (α:=Nat × Option Addr × Nat) [1,20] (λa=>[(5,.v (.int .i64 (halfV b a.1)))]) (λa=>[rowH (.slice a.2.1 (a.1 / 2) a.2.2) (a.1 / 2) 5 1 (byV (b.take (a.1 / 2))),itH it (bs (hexT b)) a.1,blkH ob tb (putC cs k (.slice a.2.1 (a.1 / 2) a.2.2)),tkH lb b0 off m0 c0 (k0+1)]) (λa=>a.1≤2 * n) (λa=>2 * n - a.1) (0,none,0) (Nat.zero_le _) rfl ⟨⟨rfl,rfl⟩,trivial⟩ ⟨⟨rfl,rfl⟩,⟨rfl,rfl⟩,trivial⟩ trivial (λh s=>sub_same (row_nil _ _ s)) ?_⟩
 rintro ⟨p,D,cd⟩ hi
 simp only at hi
 conv=>whnf
 by_cases hlt:p < 2 * n
 ·have hat:=hexT_at (b:=b) (p:=p) (by omega)
  have hsz:p < (bs (hexT b)).size:=by rw [bs_size];omega
  have hq:p / 2 < b.length:=by omega
  have hbq:(b[p / 2]?).getD 0=b[p / 2]:=by simp [hq]
  have hz:=(b[p / 2]).toNat_lt
  rw [hbq] at hat
  have htk:byV (b.take (p / 2+1))=byV (b.take (p / 2))++[.int .u8 (b[p / 2].toNat:Int)]:=by
   rw [List.take_succ_eq_append_getElem hq]
   unfold byV
   rw [List.map_append]
   rfl
  by_cases hpar:p % 2=0
  ·have hv:halfV b p=-1:=by unfold halfV;rw [if_pos hpar]
   have hv2:halfV b (p+1)=((b[p / 2].toNat / 16:Nat):Int):=by unfold halfV;rw [if_neg (by omega),show (p+1) / 2=p / 2 by omega,hbq]
   have e1:(p+1) / 2=p / 2:=by omega
   rw [if_pos hpar] at hat
   have hy:(hexT b)[p]'(by omega)=hexd (b[p / 2].toNat / 16):=by
    rw [List.getElem?_eq_getElem (by omega)] at hat
    exact Option.some.inj hat
   generalize b[p / 2]=z at *
   have h128:=(idx16 ⟨z.toNat / 16,by omega⟩).2
   refine ⟨trivial,OpAt.next it (bs (hexT b)) p _ rfl (λh s=>sepL_pull 1 s) rfl rfl hsz ?_⟩
   rw [decode_ascii (bs (hexT b)) p hsz (by rw [bs_get,hy];exact h128),bs_get,hy]
   conv=>whnf
   refine iff_t rfl ?_
   conv=>whnf
   refine ⟨trivial,CallAt.pure (λR' hR'=>sIndexRune (z.toNat / 16) (by omega)) ?_⟩
   conv=>whnf
   refine iff_f (decide_eq_false (by omega)) ?_
   conv=>whnf
   refine iff_t (by rw [hv];decide) ?_
   conv=>whnf
   refine ⟨trivial,Next.heap (p+1,D,cd) (by simp only;omega) (by simp only;omega) ⟨⟨congrArg (λx=>some (SV.v (Value.int .i64 x))) hv2.symm,rfl⟩,trivial⟩ ⟨⟨rfl,rfl⟩,⟨rfl,rfl⟩,trivial⟩ trivial rfl rfl λh s=>sub_same ?_⟩
   rw [e1]
   exact sepL_perm (List.Perm.swap _ _ _) s
  ·have hv:halfV b p=((b[p / 2].toNat / 16:Nat):Int):=by unfold halfV;rw [if_neg hpar,hbq]
   have hv2:halfV b (p+1)=-1:=by unfold halfV;rw [if_pos (by omega)]
   have e1:(p+1) / 2=p / 2+1:=by omega
   rw [if_neg hpar] at hat
   have hy:(hexT b)[p]'(by omega)=hexd (b[p / 2].toNat % 16):=by
    rw [List.getElem?_eq_getElem (by omega)] at hat
    exact Option.some.inj hat
   generalize b[p / 2]=z at *
   have h128:=(idx16 ⟨z.toNat % 16,by omega⟩).2
   generalize byV (b.take (p / 2))=us at *
   refine ⟨trivial,OpAt.next it (bs (hexT b)) p _ rfl (λh s=>sepL_pull 1 s) rfl rfl hsz ?_⟩
   rw [decode_ascii (bs (hexT b)) p hsz (by rw [bs_get,hy];exact h128),bs_get,hy]
   conv=>whnf
   refine iff_t rfl ?_
   conv=>whnf
   refine ⟨trivial,CallAt.pure (λR' hR'=>sIndexRune (z.toNat % 16) (by omega)) ?_⟩
   conv=>whnf
   refine iff_f (decide_eq_false (by omega)) ?_
   conv=>whnf
   refine iff_f (by rw [hv];exact decide_eq_false (by omega)) ?_
   conv=>whnf
   refine ⟨trivial,LoadAt.cell (.slice D (p / 2) cd) rfl rfl (λw hw=>blk_cell (hw.in_ 2 rfl) (putC_get hks)) ?_⟩
   conv=>whnf
   refine ⟨⟨trivial,by decide,?_⟩,OpAt.lit [.int .u8 (z.toNat:Int)] 1 rfl rfl rfl rfl rfl (by decide) rfl rfl ?_ (by simp [Value.cells]) rfl (by decide) λg=>?_⟩
   ·show rng .i64 (halfV b p * 16)
    rw [hv]
    unfold rng
    omega
   ·show [Value.int .u8 (z.toNat:Int)]=[Value.int .u8 (IntKind.u8.wrap (bits .or .i64 (halfV b p * 2 ^ Int.toNat 4) ((z.toNat % 16:Nat):Int)))]
    rw [hv]
    have h4:=orHL ⟨z.toNat,hz⟩
    simp only at h4
    rw [h4]
   conv=>whnf
   refine ⟨trivial,OpAt.append (.slice D (p / 2) cd) (p / 2) 1 1 us [.int .u8 (z.toNat:Int)] (some ⟨g,0,none⟩) 1 1 _ rfl (λh s=>sepL_pull 2 s) rfl rfl rfl rfl rfl rfl rfl rfl rfl (by decide) (λw hw=>rowH_reads rfl (hw.in_ 0 rfl)) (by simp [Value.oneCell']) (by simp only [maxLen];omega) (by omega) λD' cd'=>?_⟩
   conv=>whnf
   refine ⟨trivial,OpAt.store (A':=blkH ob tb (putC cs k (.slice D' (p / 2+1) cd'))) ob k (.slice D' (p / 2+1) cd') _ rfl (λh s=>sepL_pull 3 s) rfl rfl rfl rfl rfl (by simp [Value.cells,Value.oneCell']) (λh r=>?_) ?_⟩
   ·have hb:=blk_put (off:=k) (ys:=[.slice D' (p / 2+1) cd']) (show k+1≤_ by rw [putC_size hks];omega) r
    rw [show (putL (putC cs k (.slice D (p / 2) cd)).toList k [.slice D' (p / 2+1) cd']).toArray=putC cs k (.slice D' (p / 2+1) cd') from congrArg List.toArray (putL_again (by simpa using hks))] at hb
    exact hb
   conv=>whnf
   refine ⟨trivial,Next.heap (p+1,D',cd') (by simp only;omega) (by simp only;omega) ⟨⟨congrArg (λx=>some (SV.v (Value.int .i64 x))) hv2.symm,rfl⟩,trivial⟩ ⟨⟨rfl,rfl⟩,⟨rfl,rfl⟩,trivial⟩ trivial rfl rfl λh s=>?_⟩
   obtain ⟨h',e,s'⟩:=sub_tail (sepL_pull 2 s)
   refine ⟨h',e,?_⟩
   show sepL [rowH (.slice D' ((p+1) / 2) cd') ((p+1) / 2) 5 1 (byV (b.take ((p+1) / 2))),itH it (bs (hexT b)) (p+1),blkH ob tb (putC cs k (.slice D' ((p+1) / 2) cd')),tkH lb b0 off m0 c0 (k0+1)] R h'
   rw [e1,htk]
   exact sepL_perm (List.Perm.trans (List.Perm.swap _ _ _) ((List.Perm.swap _ _ _).cons _)) s'
 ·have hpe:p=2 * n:=by omega
  have e1:p / 2=n:=by omega
  refine ⟨trivial,OpAt.nextEnd it (bs (hexT b)) p _ rfl (λh s=>sepL_pull 1 s) rfl rfl (by rw [bs_size];omega) ?_⟩
  have hv0:halfV b p=-1:=by unfold halfV;rw [if_pos (by omega)]
  conv=>whnf
  refine iff_f rfl ?_
  conv=>whnf
  refine ⟨λh=>?_,λh=>?_⟩
  rotate_left
  ·exfalso
   rw [hv0] at h
   exact absurd h (by decide)
  conv=>whnf
  refine ⟨trivial,LoadAt.cell (.slice D (p / 2) cd) rfl rfl (λw hw=>blk_cell (hw.in_ 2 rfl) (putC_get hks)) ?_⟩
  conv=>whnf
  refine iff_f (decide_eq_false (by omega)) ?_
  conv=>whnf
  have htl:byV (b.take (p / 2))=byV b:=by rw [List.take_of_length_le (by omega)]
  rw [htl,e1]
  refine ⟨trivial,.mk [tkH lb b0 off m0 c0 (k0+1),blkH ob tb (putC cs k (.slice D n cd)),rowH (.slice D n cd) n 5 1 (byV b)] (λw ⟨h,hs,s⟩=>?_) ⟨rfl,D,cd,rfl⟩⟩
  have s1:sepL [blkH ob tb (putC cs k (.slice D n cd)),rowH (.slice D n cd) n 5 1 (byV b),itH it (bs (hexT b)) p,tkH lb b0 off m0 c0 (k0+1)] R h:=sepL_pull 2 s
  have s2:sepL [tkH lb b0 off m0 c0 (k0+1),blkH ob tb (putC cs k (.slice D n cd)),rowH (.slice D n cd) n 5 1 (byV b),itH it (bs (hexT b)) p] R h:=sepL_pull 3 s1
  obtain ⟨h',e,s'⟩:=sub_front (m:=[tkH lb b0 off m0 c0 (k0+1),blkH ob tb (putC cs k (.slice D n cd)),rowH (.slice D n cd) n 5 1 (byV b)]) (r:=[itH it (bs (hexT b)) p]) s2
  exact ⟨h',hs.mono e,s'⟩
end Go.Proofs.YtcoefgkjlgngkaaGreatDoor
