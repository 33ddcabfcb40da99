/-
  Texts of the proofs, one behind the other: OpenSl, SyBld, OpenFl, OpenRep, ScP, SyClear, SyMore.
-/
import Derived.Test.YtcoefgkjlgngkaaGreatDoorSPg03
import Derived.ProofKit
import Derived.OpenShut
import Derived.Lib.SmallJoins
import Derived.Deep.Slices
import Derived.Test.YtcoefgkjlgngkaaGreatDoorSPg02
import Derived.Lib.Builder
import Derived.Lib.AppendStr
import Derived.Lib.UnsafeStr
import Derived.Laws.Externs
import Derived.Deep.Strs
import Derived.ChangeArms
import Derived.Test.YtcoefgkjlgngkaaGreatDoorSPg05
import Derived.Lib.SliceRun
namespace Go.Proofs.YtcoefgkjlgngkaaGreatDoor
open Go.ChangeShapes Go.WideShapes Go.ChangeAt Go.RowKit Go.Joins
namespace Sy
set_option linter.unusedVariables false
set_option linter.unusedSimpArgs false
section
variable {H:Type} {enc:TypeId × Value→H} {P:Program} {w:World} {base:Nat} {spare:Nat→Bool} {held:Bool}
end
end Sy
open Go.RowKit
namespace Sy
set_option linter.unusedVariables false
set_option linter.unusedSimpArgs false
theorem run_append_appS {P:Program} (w:World) (t u ty e:TypeId) (i:TypeInfo) (ht:P.underlying t=some (.slice e)) (hu:P.underlying u=some .string) (hi:P.info? e=some i) (hz:i.zero=some (.int .u8 0)) (hsize:i.size=1) (hby:i.bytes=1)
  (v:Value) (n:Nat) (xs:List Value) (hown:w.ownsRow 0 e 1 v n xs) (s:ByteArray) (h63:n+s.size≤maxLen) (hbytes:n+s.size≤140737488355328) :
  ∃ v' w',(Builtin.append_ #[t,u] ty #[v,.string s]).run P w=.ok v' w'∧w'.ownsRow 0 e 1 v' (n+s.size) (xs++Lib.strCells s)∧w.grownBy w' v.ownBlock∧(v'.ownBlock=v.ownBlock∨∃ g,v'.ownBlock=some g∧w.heap.size≤g):=by
 obtain ⟨v',w',hrun,hown',hg,hnil⟩:=Lib.run_append_own_string (P:=P) w 0 t u ty e i ht hu hi hz hsize hby v n xs hown s h63 hbytes (Nat.zero_le _)
 refine ⟨v',w',hrun,hown',hg,?_⟩
 have hsm:n+s.size≤9223372036854775807:=by simp only [maxLen] at h63;omega
 rcases hown.2 with ⟨rfl,rfl⟩|⟨g,cap,cur,rfl,hbg,hgc,hnc,hcm,hcs,htake⟩
 ·by_cases hm:s.size=0
  ·rw [hnil.2 ⟨rfl,hm⟩];exact .inl rfl
  ·have hr:=run_append_nil_string (P:=P) w t u ty e i (.int .u8 0) ht hu hi hz s (by omega) (by omega) (by rw [hby];omega)
   rw [hrun] at hr
   injection hr with h1 h2
   rw [h1]
   exact .inr ⟨_,rfl,Nat.le_refl _⟩
 ·by_cases hroom:n+s.size≤cap
  ·have hr:=Lib.run_append_room_string (P:=P) w t u ty e i ht hu hi hsize g n cap cur hgc s hroom (by rw [hcs];omega)
   rw [hrun] at hr
   injection hr with h1 h2
   rw [h1]
   exact .inl rfl
  ·have hr:=Lib.run_append_grow_string (P:=P) w t u ty e i (.int .u8 0) ht hu hi hz ⟨g,0,none⟩ n cap xs (by rw [hsize];simpa using hown.1) (hown.cells (g:=g) rfl) s (by omega) (by omega) (by rw [hby];exact growslice_fits (by omega) (by omega))
   rw [hrun] at hr
   injection hr with h1 h2
   rw [h1]
   exact .inr ⟨_,rfl,Nat.le_refl _⟩
theorem OpAt.appendS {G:Gl} {o:Oper} {st:St} {K:St→Prop} {t u e:TypeId} {s x:Operand} {i:TypeInfo} (v:Value) (n:Nat) (xs:List Value) (str:ByteArray) (rest:List HP)
  (ho:o.op=.call { callee:=.builtin .append,args:=#[s,x],argTypes:=#[t,u] }) (hp:∀ h,sepL st.h G.R h→sepL (rowH v n e 1 xs::rest) G.R h) (hs:evR st s=v) (hx:evR st x=.string str) (hr:allR st o.op.operands.toList=true)
  (hu:G.P.underlying t=some (.slice e)) (hu2:G.P.underlying u=some .string) (hi:G.P.info? e=some i) (hz:i.zero=some (.int .u8 0)) (hsize:i.size=1) (hby:i.bytes=1)
  (h63:n+str.size≤maxLen) (hbytes:n+str.size≤140737488355328)
  (k:∀ A' c',putK G { st with h:=rowH (.slice A' (n+str.size) c') (n+str.size) e 1 (xs++Lib.strCells str)::rest } o.dst (.v (.slice A' (n+str.size) c')) none K):OpAt G o st K:=by
 refine OpAt.sem (pre:=[rowH v n e 1 xs]) (post:=λv' hs=>∃ A' c',v'=.slice A' (n+str.size) c'∧hs=[rowH (.slice A' (n+str.size) c') (n+str.size) e 1 (xs++Lib.strCells str)]) rest hp (by rw [ho];rfl) hr ?_ ?_
 ·rintro R' hR' w ⟨h,hsub,h1',h2,d,rfl,hrow,hrest⟩
  have hown:=rowH_own hrow hsub.left
  obtain ⟨v',w',hrun,hown',hg,hat⟩:=run_append_appS (P:=G.P) w t u o.type e i hu hu2 hi hz hsize hby v n xs hown str h63 hbytes
  obtain ⟨A',c',rfl,_⟩:=own_shape' hown'
  obtain ⟨h1'',r1,s1,dom⟩:=own_rowH hown'
  have s2:Sub h2 w':=λj ob e'=>by
   have hj:=hsub.right d j ob e'
   have hlt:=(Array.getElem?_eq_some_iff.1 hj).1
   rw [hg.block j hlt ?_]
   ·exact hj
   ·intro c0
    rcases d j with c1|c1
    ·exact rowH_ne hrow c0.symm c1
    ·rw [c1] at e';cases e'
  refine ⟨_,_,w',?_,⟨A',c',rfl,rfl⟩,⟨_,s1.un s2,h1'',h2,λj=>?_,rfl,r1,hrest⟩,⟨hg.os,hg.tape,hg.output,hg.size⟩⟩
  ·have ha:(#[s,x]:Array Operand).map (evR st)=#[v,.string str]:=by simp [hs,hx]
   simp only [execOp,ho,resolve,invoke,builtin,Sem.run_bind,Sem.run_pure,Result.andThen_ok,ha,hrun]
  ·by_cases c0:h1'' j=none
   ·exact .inl c0
   ·right
    have hj:=(dom j c0).1
    rcases hat with hat|⟨g,hat,hge⟩
    ·rw [hat] at hj
     rcases d j with c1|c1
     ·exact absurd c1 (rowH_ne hrow hj)
     ·exact c1
    ·rw [hat] at hj
     injection hj with hj
     subst hj
     exact (hsub.right d).none hge
 ·rintro v' hs' ⟨A',c',rfl,rfl⟩
  exact k A' c'
abbrev byV (l:List UInt8):List Value:=l.map λb=>.int .u8 (b.toNat:Int)
theorem strCells_bs (l:List UInt8):Lib.strCells (bs l)=byV l:=rfl
theorem size_bs (l:List UInt8):(bs l).size=l.length:=rfl
theorem OpAt.unsafeStr {G:Gl} {o:Oper} {st:St} {K:St→Prop} {pt it e:TypeId} {p x:Operand} (g cap:Nat) (l:List UInt8) (rest:List HP)
  (ho:o.op=.call { callee:=.builtin .unsafeString,args:=#[p,x],argTypes:=#[pt,it] }) (hp:∀ h,sepL st.h G.R h→sepL (rowH (.slice (some ⟨g,0,none⟩) l.length cap) l.length e 1 (byV l)::rest) G.R h)
  (hq:evR st p=.pointer (some ⟨g,0,none⟩)) (hx:evR st x=.int .i64 (l.length:Int)) (hr:allR st o.op.operands.toList=true) (hu:G.P.underlying pt=some (.pointer e)) (hc:G.P.cellsOf e=1) (h0:l≠[]) (h63:l.length≤9223372036854775807)
  (k:putK G { st with h:=rest } o.dst (.v (.string (bs l))) none K):OpAt G o st K:=by
 refine OpAt.sem (pre:=[rowH (.slice (some ⟨g,0,none⟩) l.length cap) l.length e 1 (byV l)]) (post:=λv' hs=>v'=.string (bs l)∧hs=[]) rest hp (by rw [ho];rfl) hr ?_ ?_
 ·rintro R' hR' w ⟨h,hsub,h1',h2,d,rfl,hrow,hrest⟩
  obtain ⟨hl,r⟩:=hrow
  rcases r with ⟨c,_⟩|⟨g',cap',cur,e1,e2,e3,e4,e5,e6⟩
  ·cases c
  injection e1 with e1 _ e1'
  injection e1 with e1
  injection e1 with e1
  subst e1
  have hb:w.heap[g]? = some (.cells cur e (0,0)):=hsub.left g _ (by rw [e2];simp)
  have hcell:∀ j x,l[j]? = some x→w.cell? ((⟨g,0,none⟩:Addr).add j)=some (.int .u8 x.toNat):=λj x hj=>by
   have h3:cur.toList[j]? = some (.int .u8 (x.toNat:Int)):=by
    have h4:(cur.toList.take (l.length * 1))[j]? = some (.int .u8 (x.toNat:Int)):=by rw [e6];simp [hj]
    rw [List.getElem?_take] at h4
    split at h4
    ·exact h4
    ·cases h4
   have:(⟨g,0,none⟩:Addr).add j=⟨g,j,none⟩:=by cases j<;>simp [Addr.add]
   rw [this]
   unfold World.cell?
   rw [hb]
   simpa using h3
  have hlen:l.length≤cur.size:=by rw [e5];omega
  have hrun:=Lib.run_unsafeString_row (P:=G.P) w pt it o.type e hu hc g cur.size (by simp [World.shape?,hb]) l h0 hlen h63 hcell
  refine ⟨_,[],w.freeze ⟨g,0,none⟩ l.length,?_,⟨rfl,rfl⟩,⟨h2,λj ob e'=>?_,hrest⟩,?_⟩
  ·have ha:(#[p,x]:Array Operand).map (evR st)=#[.pointer (some ⟨g,0,none⟩),.int .i64 (l.length:Int)]:=by simp [hq,hx]
   simp only [execOp,ho,resolve,invoke,builtin,Sem.run_bind,Sem.run_pure,Result.andThen_ok,ha,hrun]
   rfl
  ·have hj:=hsub.right d j ob e'
   have hne:j≠g:=λc=>by
    subst c
    rcases d j with c1|c1
    ·rw [e2] at c1;simp at c1
    ·rw [c1] at e';cases e'
   unfold World.freeze
   split
   ·exact hj
   ·simp only [Array.getElem?_modify]
    rw [if_neg (λc=>hne c.symm)]
    exact hj
  ·unfold World.freeze
   split
   ·exact Wd.refl _
   ·exact ⟨rfl,rfl,rfl,by simp⟩
 ·rintro v' hs' ⟨rfl,rfl⟩
  exact k
theorem OpAt.conv {G:Gl} {o:Oper} {st:St} {K:St→Prop} {src dst:TypeId} {x:Operand} {v r:Value} (ho:o.op=.convert src dst x) (hx:evR st x=v) (hr:allR st o.op.operands.toList=true)
  (hrun:∀ w,Sat (sepL st.h G.R) w→(convert src dst v).run G.P w=.ok r w) (k:putK G st o.dst (.v r) none K):OpAt G o st K:=by
 refine OpAt.val r (by rw [ho];rfl) hr (λw sat=>?_) k
 simp only [execOp,ho,hx,Sem.run_bind,hrun w sat,Result.andThen_ok,Sem.run_pure]
 try rfl
theorem OpAt.noEscape {G:Gl} {o:Oper} {st:St} {K:St→Prop} {x y:Operand} {ts:Array TypeId} {v:Value} {f:FuncId} {fn:Func} (ho:o.op=.call { callee:=.value x,args:=#[y],argTypes:=ts }) (hx:evR st x=.func (.func f) #[] #[]) (hy:evR st y=v) (hr:allR st o.op.operands.toList=true)
  (hf : G.P.funcs[f]? = some fn) (hname : (fn.name == "runtime.NumGoroutine") = false) (hb : fn.body.isNone = true) (hn : Extern.findNext fn = none) (he : Extern.find fn = some Extern.AbiNoEscape.same) (k : putK G st o.dst (.v v) none K) : OpAt G o st K := by
 refine OpAt.val v (by rw [ho];rfl) hr (λw sat=>?_) k
 have hc:=run_callFunc_extern hf hname hb hn he #[v] w
 rw [Lib.run_noEscape] at hc
 have ha:(#[y]:Array Operand).map (evR st)=#[v]:=by simp [hy]
 simp only [execOp,ho,resolve,ha,hx,Sem.run_bind,Sem.run_pure,Result.andThen_ok,Deferred.ofValue,invoke,Array.append_empty,Array.empty_append]
 simpa using hc
theorem OpAt.ptrNe {G:Gl} {o:Oper} {st:St} {K:St→Prop} {t ty te:TypeId} {x y:Operand} {j:TypeInfo} (a:Addr) (ho:o.op=.binOp .neq t x y ty) (hx:evR st x=.pointer (some a)) (hy:evR st y=.pointer (some a)) (hr:allR st o.op.operands.toList=true)
  (hp:G.P.underlying t=some (.pointer te)) (hte:G.P.info? te=some j) (k:putK G st o.dst (.v (.bool false)) none K):OpAt G o st K:=by
 refine OpAt.val (.bool false) (by rw [ho];rfl) hr (λw sat=>?_) k
 have h:=Lib.run_neq_ptr_same (P:=G.P) w a hp hte
 simp [execOp,ho,hx,hy,eqGuard,h]
end Sy
open Go.ChangeShapes Go.WideShapes Go.ChangeAt Go.RowKit Go.Joins Sy
set_option linter.unusedVariables false
set_option linter.unusedSimpArgs false
set_option maxRecDepth 100000
set_option maxHeartbeats 4000000
theorem flat_at {α:Type} {f:α→List Value} {s:Nat} (hf:∀ a,(f a).length=s):∀ {l:List α} {i j:Nat} (h:i < l.length),j < s→(l.flatMap f)[i * s+j]? = (f l[i])[j]?
 |a::l,0,j,_,hj=>by
  rw [List.flatMap_cons,List.getElem?_append_left (by rw [hf];omega)]
  simp
 |a::l,i+1,j,h,hj=>by
  rw [List.flatMap_cons,List.getElem?_append_right (by rw [hf,Nat.succ_mul];omega)]
  have:(i+1) * s+j - (f a).length=i * s+j:=by rw [hf,Nat.succ_mul];omega
  rw [this,flat_at hf (by simpa using h) hj]
  simp
section
variable {H:Type} {enc:TypeId × Value→H} {P:Program} {w:World} {base:Nat} {spare:Nat→Bool} {held:Bool}
end
open Go.ChangeShapes Go.WideShapes Go.ChangeAt Go.RowKit Go.Joins Sy
structure Prt where
 l:Int
 a:Int
 fx:Int
 fy:Int
 x0:Int
 y0:Int
 x1:Int
 y1:Int
def prtL (p:Prt):List Value:=[.int .i64 p.l,.int .i64 p.a,.int .i64 p.fx,.int .i64 p.fy,.int .i64 p.x0,.int .i64 p.y0,.int .i64 p.x1,.int .i64 p.y1]
def celL (c:Int × Int):List Value:=[.int .i64 c.1,.int .i64 c.2]
def numL (c:Int):List Value:=[.int .i64 c]
def I64 (z:Int):Prop:=-9223372036854775808≤z∧z≤9223372036854775807
structure Prt.ok (p:Prt):Prop where
 l:I64 p.l
 a:I64 p.a
 fx:I64 p.fx
 fy:I64 p.fy
 x0:I64 p.x0
 y0:I64 p.y0
 x1:I64 p.x1
 y1:I64 p.y1
structure Rep where
 code:Int
 n:Int
 yes:Bool
 ax:Int
 ay:Int
 cells:List (Int × Int)
 vals:List Int
 parts:List Prt
 byts:List UInt8
 lines:List (List UInt8)
structure RepA where
 A1:Option Addr
 c1:Nat
 A2:Option Addr
 c2:Nat
 A3:Option Addr
 c3:Nat
 A4:Option Addr
 c4:Nat
 A5:Option Addr
 c5:Nat
structure Rep.ok (r:Rep):Prop where
 code:I64 r.code
 n:I64 r.n
 ax:I64 r.ax
 ay:I64 r.ay
 cells:∀ c∈r.cells,I64 c.1∧I64 c.2
 vals:∀ c∈r.vals,I64 c
 parts:∀ c∈r.parts,c.ok
structure RepS (R:HP) (q:RepA) (r:Rep):Prop where
 cells:Sl R q.A1 r.cells.length 2 (r.cells.flatMap celL)
 vals:Sl R q.A2 r.vals.length 1 (r.vals.flatMap numL)
 parts:Sl R q.A3 r.parts.length 8 (r.parts.flatMap prtL)
 byts:Sl R q.A4 r.byts.length 1 (byV r.byts)
 lines:Sl R q.A5 r.lines.length 1 (r.lines.map λz=>.string (bs z))
 k1:r.cells.length≤q.c1∧q.c1≤maxLen
 k2:r.vals.length≤q.c2∧q.c2≤maxLen
 k3:r.parts.length≤q.c3∧q.c3≤maxLen
 k4:r.byts.length≤q.c4∧q.c4≤maxLen
 k5:r.lines.length≤q.c5∧q.c5≤maxLen
open Sy
def hexd (n:Nat):UInt8:=if n < 10 then u8 (48+n) else u8 (87+n)
def hexT (l:List UInt8):List UInt8:=l.flatMap λb=>[hexd (b.toNat / 16),hexd (b.toNat % 16)]
theorem hexT_append (l m:List UInt8):hexT (l++m)=hexT l++hexT m:=by simp [hexT]
theorem hexT_len (l:List UInt8):(hexT l).length=2 * l.length:=by
 induction l with
 |nil=>rfl
 |cons a l ih =>
  have e:hexT (a::l)=[hexd (a.toNat / 16),hexd (a.toNat % 16)]++hexT l:=rfl
  rw [e,List.length_append,ih]
  simp;omega
def hexW (l:List UInt8):List UInt8:=if l=[] then [45] else hexT l
def listW (l:List Int):List UInt8:=if l=[] then [45] else jn 44 (l.map Lib.itoa)
theorem itoa_len20 {n:Int} (h:I64 n):(Lib.itoa n).length≤21:=Lib.itoa_length_le n h.1 h.2
theorem listW_split {l:List Int} (h:l≠[]):pcs 44 (listW l)=l.map Lib.itoa:=by
 unfold listW
 rw [if_neg h]
 refine pcs_jn (by simpa using h) λp hp=>?_
 obtain ⟨n,_,rfl⟩:=List.mem_map.1 hp
 exact itoa_comma n
theorem listW_dash {l:List Int} (hl:∀ n∈l,I64 n):listW l=[45]↔l=[]:=by
 constructor
 ·intro h
  by_cases c:l=[]
  ·exact c
  ·exfalso
   have h2:=listW_split c
   rw [h] at h2
   have h3:pcs 44 [45]=[[45]]:=by
    have:=pcs_jn (d:=44) (ws:=[[45]]) (by simp) (λp hp=>by simp at hp;subst hp;decide)
    rwa [jn_one] at this
   rw [h3] at h2
   obtain ⟨n,m,rfl⟩:∃ n m,l=n::m:=by
    cases l with
    |nil=>exact absurd rfl c
    |cons n m=>exact ⟨n,m,rfl⟩
   simp only [List.map_cons,List.cons.injEq] at h2
   have h4:=read_itoa n (hl n (by simp)).1 (hl n (by simp)).2
   rw [← h2.1] at h4
   have:read [45]=(0,12):=by decide +kernel
   rw [this] at h4
   simp at h4
 ·rintro rfl
  rfl
theorem wds_len {c:UInt8} {ws:List (List UInt8)} {m:Nat} (h:∀ w∈ws,w.length≤m):(wds c ws).length≤ws.length * (m+1):=by
 induction ws with
 |nil=>simp [wds]
 |cons w ws ih =>
  rw [wds_cons]
  have h1:=ih λx hx=>h x (List.mem_cons_of_mem _ hx)
  have h2:=h w (by simp)
  simp only [List.length_cons,List.length_append,Nat.succ_mul]
  omega
theorem jn_len {c:UInt8} {ws:List (List UInt8)} {m:Nat} (h:∀ w∈ws,w.length≤m):(jn c ws).length≤ws.length * (m+1):=by
 cases ws with
 |nil=>simp [jn_nil]
 |cons w ws =>
  rw [jn_cons]
  have h1:=wds_len (c:=c) λx hx=>h x (List.mem_cons_of_mem w hx)
  have h2:=h w (by simp)
  simp only [List.length_cons,List.length_append,Nat.succ_mul]
  omega
theorem listW_len {l:List Int} (hl:∀ n∈l,I64 n):(listW l).length≤l.length * 22+1:=by
 unfold listW
 split
 ·simp
 ·have:=jn_len (c:=44) (ws:=l.map Lib.itoa) (m:=21) λw hw=>by
   obtain ⟨n,hn,rfl⟩:=List.mem_map.1 hw
   exact itoa_len20 (hl n hn)
  rw [List.length_map] at this
  omega
namespace Sy
set_option linter.unusedVariables false
set_option linter.unusedSimpArgs false
set_option maxRecDepth 100000
set_option maxHeartbeats 4000000
theorem OpAt.from {G:Gl} {o:Oper} {st:St} {K:St→Prop} {t e:TypeId} {x l:Operand} {i:TypeInfo} (b off n c lo:Nat) (k:IntKind) (ho:o.op=.slice t x (some l) none none) (hx:evR st x=.slice (some ⟨b,off,none⟩) n c) (hl:evR st l=.int k (lo:Int)) (hr:allR st o.op.operands.toList=true)
  (hu:G.P.underlying t=some (.slice e)) (hi:G.P.info? e=some i) (h1:lo≤n) (h2:lo < c) (kk:putK G st o.dst (.v (.slice (some ⟨b,off+lo * i.size,none⟩) (n - lo) (c - lo))) none K):OpAt G o st K:=by
 refine OpAt.val _ (by rw [ho];rfl) hr (λw _=>?_) kk
 have h3:¬ c=lo:=by omega
 have h4:(lo:Int)≤(n:Int):=by omega
 have hsz:(sizeOf e).run G.P w=.ok i.size w:=by simp [sizeOf,typeInfo,hi]
 simp [execOp,ho,hx,hl,Instr.sliceAt,Instr.slice,run_underlying hu,Instr.sliceBounds,Instr.sliceBound,asIntOf,h1,hsz,h3,Addr.add]
end Sy
namespace Sy
theorem OpAt.from2 {G:Gl} {o:Oper} {st:St} {K:St→Prop} {t e:TypeId} {x l:Operand} {i:TypeInfo} (b off n c lo:Nat) (k:IntKind) (ho:o.op=.slice t x (some l) none none) (hx:evR st x=.slice (some ⟨b,off,none⟩) n c) (hl:evR st l=.int k (lo:Int)) (hr:allR st o.op.operands.toList=true)
  (hu:G.P.underlying t=some (.slice e)) (hi:G.P.info? e=some i) (h1:lo≤n) (h2:n≤c) (kk:∀ A,(A=some ⟨b,off+lo * i.size,none⟩∨lo=n)→putK G st o.dst (.v (.slice A (n - lo) (c - lo))) none K):OpAt G o st K:=by
 by_cases h3:lo < c
 ·exact OpAt.from b off n c lo k ho hx hl hr hu hi h1 h3 (kk _ (.inl rfl))
 ·refine OpAt.val _ (by rw [ho];rfl) hr (λw _=>?_) (kk (some ⟨b,off,none⟩) (.inr (by omega)))
  have h3:c=lo:=by omega
  have h4:(lo:Int)≤(n:Int):=by omega
  have hsz:(sizeOf e).run G.P w=.ok i.size w:=by simp [sizeOf,typeInfo,hi]
  simp [execOp,ho,hx,hl,Instr.sliceAt,Instr.slice,run_underlying hu,Instr.sliceBounds,Instr.sliceBound,asIntOf,h1,hsz,h3,Addr.add]
theorem FnR.seen {P:Program} {R:HP} {f:FuncId} {args:List Value} {pre:List HP} {p q:Value→List HP→Prop} (h:FnR P R f args pre p) (hq:∀ v hs,p v hs→∀ w,Sat (sepL hs R) w→∃ hs',q v hs'∧Sat (sepL hs' R) w):FnR P R f args pre q:=by
 intro w s
 refine (h w s).mono ?_
 rintro e w' ⟨v,hs,rfl,hv,s',hw⟩
 obtain ⟨hs',h1,h2⟩:=hq v hs hv w' s'
 exact ⟨v,hs',rfl,h1,h2,hw⟩
end Sy
end Go.Proofs.YtcoefgkjlgngkaaGreatDoor
